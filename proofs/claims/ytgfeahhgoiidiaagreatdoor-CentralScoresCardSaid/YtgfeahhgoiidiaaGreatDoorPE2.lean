/- Words and laws that the last text joins. -/
import Derived.Test.YtgfeahhgoiidiaaGreatDoorPG3
import Derived.Test.YtgfeahhgoiidiaaGreatDoorPU1
set_option linter.unusedVariables false
set_option linter.unusedSimpArgs false
set_option linter.unusedSectionVars false
set_option maxRecDepth 10000
namespace Go.Ab
open Go.Proofs
theorem kbdd{h0:AH}{S:Fp}{s:Sl}{xs:List Int}(n:Sq EI h0 S s xs){b:Nat}{z:Int}{e:TypeId}(F:h0.has b [.i z] e):Runs (go (.fn keg [s.v,.func (.func kd9) [] [.p (.new b 0)]]) h0) λv h'=>v=.bool (xs.any λx=>decide (x<0)||decide (x>=z))/\Grow h0 h':=by
 rw[k7e];refine Runs.contains (xs:=xs) ?_;rw[kbd1,n.len];refine ko0 (n:=xs.length) (G:=λy h=>go (.pt kbz kcy [(0,s.v),(1,.func (.func kd9) [] [.p (.new b 0)]),(7,.i (xs.length:Int)),(8,.i y)]) h) (λi h P hi g A C=>?_) (λh g=>?_) xs.length 0 (by omega) (ql h0) (λj U=>by omega)
 ·obtain⟨r,H,I⟩:=(n.grow g).int hi;rw[qb4 hi]at A C;simp only[Option.any_some]at A C;show Runs (go _ _) _;rw[kxe];refine qbb (qbx (by omega)) (qz H (qz I ?_))
  have key:Runs (go (.fn kd9 [.i xs[i],.p (.new b 0)]) h) λv h'=>v=.bool (decide (xs[i]<0)||decide (xs[i]>=z))/\h'=h:=by
   rw[kbm9];cases decide (xs[i]<0)
   ·refine qbc rfl (qz rfl (qz ((g.has F).rd0 rfl qcp) ?_));exact qy ⟨rfl,rfl⟩
   ·exact qy ⟨rfl,rfl⟩
  refine key.call λv h' ⟨K,Q⟩=>?_;subst K;subst Q;refine qz (seen rfl) ?_;rw[kj (by have:=n.short;omega)];exact qbd (λc=>qy (A _ g c)) λc=>C _ g c
 ·rw[kxe,condF (qby (by omega))]
section
variable{h0:AH}{S:Fp}{s1 s2 s3:Sl}{t:Tb}
theorem kbi3(n:TabAt h0 S s1 s2 s3 t)(hl:t.cols.length<=16)(hb:t.bins.length=t.cols.length){b:Nat}(X:h0.blks.size<=b):∀(k i:Nat),i+k=t.cols.length->∀{h:AH},Grow h0 h->h.has b [s1.v,s2.v,s3.v] kcb->
  Runs (go (.pt kg8 kr1 [(1,.p (.new b 0)),(27,s3.v),(28,.i (t.cols.length:Int)),(29,.i (i:Int))]) h) λv h'=>v=.bool (((List.range t.cols.length).drop i).all (colR t))/\Grow h0 h':=by
 intro k
 induction k with
 | zero =>
  intro i hi h g B;rw[kye];refine qbc (qby (by omega)) (qy ⟨?_,g⟩);rw[kkm (by simp;omega)]
 | succ k ih =>
  intro i hi h g B;have I:i<t.cols.length:=by omega
  have C:i<t.bins.length:=by omega
  obtain⟨r,s',Y,Z,-,U⟩:=(n.cols.grow g).sl I;obtain⟨r2,e3,e4⟩:=(n.bins.grow g).int C;rw[kye];refine qbb (qbx (by omega)) (qz Y (qz Z (qcq B 1 rfl (qz e3 (qz e4 ?_)))));refine q0 λh1 b1 g1=>qba b1 rfl λh2 b2 u2=>?_;have G:Grow h h2:=g1.updr (qbp _) u2;have B2:=G.has B;rw[kpk I]
  have F:colR t i=(!decide (t.bins[i]<2)&&!decide (t.bins[i]>32)&&decide (t.cols[i].length=t.ids.length)&&!(t.cols[i].any λx=>decide (x<0)||decide (x>=t.bins[i]))):=by simp[colR,List.getD,C,I]
  rw[F];refine qz (b2.rd0 rfl qcp) (qbd (λc=>qy ⟨by rw[c];rfl,g.trans G⟩) λc=>?_);refine qz (b2.rd0 rfl qcp) (qbd (λH=>qy ⟨by rw[c,H];rfl,g.trans G⟩) λH=>?_);refine qcq B2 0 rfl ?_;rw[U.len,n.ids.len];refine qbd (λA=>qy ⟨?_,g.trans G⟩) λA=>?_
  ·have:¬t.cols[i].length=t.ids.length:=by simpa[Int.ofNat_inj]using A
   rw[c,H,qby this];rfl
  have A:t.cols[i].length=t.ids.length:=by simpa[Int.ofNat_inj]using A
  refine(kbdd (U.grow G) b2).call λv h3 ⟨ev,K⟩=>?_;subst ev;refine qz (seen rfl) (qbd (λQ=>qy ⟨by rw[c,H,qbx A,Q];rfl,(g.trans G).trans K⟩) λQ=>?_);rw[c,H,qbx A,Q,kj (by omega)];exact ih (i+1) (by omega) ((g.trans G).trans K) (K.has B2)
theorem ky1(n:TabAt h0 S s1 s2 s3 t):Runs (go (.fn kg8 [.agg [s1.v,s2.v,s3.v]]) h0) λv h'=>v=.bool (tabR t)/\Grow h0 h':=by
 rw[kbdl];refine q0 λK b4 F=>qcq b4 0 rfl ?_;refine(kbby (n.ids.grow F)).call λv Q ⟨I,H⟩=>?_;subst I;have B:=H.has b4;have G:=F.trans H;unfold tabR;refine qz (seen rfl) (qbd (λc=>qy ⟨by rw[show idsR t.ids=false by simpa using c];rfl,G⟩) λc=>?_);rw[show idsR t.ids=true by simpa using c,Bool.true_and];refine qcq B 2 rfl ?_;rw[n.cols.len];refine qbd (λC=>qy ⟨?_,G⟩) λC=>?_
 ·rw[qbw]at C;rw[qbx (show t.cols.length>16 by omega)];rfl
 rw[qbv]at C;rw[qby (show¬t.cols.length>16 by omega)];refine qcq B 1 rfl (qcq B 2 rfl ?_);rw[n.bins.len,n.cols.len];refine qbd (λA=>qy ⟨?_,G⟩) λA=>?_
 ·have:¬t.bins.length=t.cols.length:=by simpa[Int.ofNat_inj]using A
  rw[qby this];rfl
 have A:t.bins.length=t.cols.length:=by simpa[Int.ofNat_inj]using A
 rw[qbx A];refine qcq B 2 rfl ?_;rw[n.cols.len];exact kbi3 n (by omega) A (qbp _) t.cols.length 0 (by omega) G B
theorem kbks{s:Sl}{xs:List Int}(n:Sq EI h0 S s xs)(x:Int)(Y:xs.length<=1000000):∀(k i:Nat),i+k=xs.length->(∀j (A:j<xs.length),j<i->xs[j]≠x)->
  ∃z,go (.pt kie kpx [(0,s.v),(1,.i x),(5,.i (i:Int))]) h0=some (.i z,h0)/\∀t (H:t<xs.length),xs[t]=x->(z=(t:Int)↔∀j (A:j<xs.length),j<t->xs[j]≠x):=by
 intro k
 induction k with
 | zero =>
  intro i hi C;refine⟨-1,?_,λt H e=>absurd e (C t H (by omega))⟩;rw[k2r,n.len,condF (qby (by omega))]
 | succ k ih =>
  intro i hi C;have F:i<xs.length:=by omega
  obtain⟨r,K,Q⟩:=n.int F;rw[k2r,K,n.len,condT (qbx (by omega)),qbt,Q,qbt];by_cases I:xs[i]=x
  ·rw[condT (qbx I)];refine⟨_,rfl,λt H e=>⟨λh j A U=>C j A (by omega),λh=>?_⟩⟩;rcases Nat.lt_trichotomy i t with h1 | h1 | h1
   ·exact absurd I (h i F h1)
   ·rw[h1]
   ·exact absurd e (C t H h1)
  ·rw[condF (qby I),kj (by omega)];refine ih (i+1) (by omega) λj A X=>?_;by_cases h1:j=i
   ·subst h1;exact I
   ·exact C j A (by omega)
theorem kbk7{s:Sl}{xs:List Int}(n:Sq EI h0 S s xs)(hl:xs.length<=256):∀(k i:Nat),i+k=xs.length->(∀j (C:j<xs.length),j<i->0<=xs[j]/\xs[j]<=1073741824)->(xs.take i).Nodup->
  go (.pt kh2 kpz [(0,s.v),(3,.i (i:Int))]) h0=some (.bool (!(xs.any λx=>decide (x<0)||decide (x>1073741824))&&decide xs.Nodup),h0):=by
 intro k
 induction k with
 | zero =>
  intro i hi U I;rw[kzo,n.len,condF (qby (by omega))]
  have h1:(xs.any λx=>decide (x<0)||decide (x>1073741824))=false:=by rw[List.any_eq_false];intro x hx;obtain⟨j,C,rfl⟩:=List.getElem_of_mem hx;have:=U j C (by omega);simp;omega
  rw[show i=xs.length by omega,List.take_length]at I;rw[h1,qbx I];rfl
 | succ k ih =>
  intro i hi U I;have A:i<xs.length:=by omega
  obtain⟨r,X,e2⟩:=n.int A;rw[kzo,X,n.len,condT (qbx (by omega))];rw[n.len]at X;simp only[qbt,X,e2]
  have F:(xs[i]<0\/xs[i]>1073741824)->(xs.any λx=>decide (x<0)||decide (x>1073741824))=true:=λh=>by rw[List.any_eq_true];exact⟨xs[i],qb3 A,by simpa using h⟩
  by_cases Y:xs[i]<0
  ·rw[condT (qbx Y),F (.inl Y)];rfl
  rw[condF (qby Y)];by_cases Z:xs[i]>1073741824
  ·rw[condT (qbx Z),F (.inr Z)];rfl
  rw[condF (qby Z)];obtain⟨z,e3,K⟩:=kbks n xs[i] (by omega) xs.length 0 (by omega) λj C h=>by omega
  have K:=K i A rfl
  have hu:go (.fn kie [s.v,.i xs[i]]) h0=some (.i z,h0):=by rw[kbma];exact e3
  rw[hu];simp only[qbt,kb];have ht:xs.take (i+1)=xs.take i++[xs[i]]:=qch A;by_cases Q:z=(i:Int)
  ·rw[condF (by rw[qbx Q];rfl),kj (by omega)];refine ih (i+1) (by omega) (λj C H=>?_) ?_
   ·by_cases h1:j=i
    ·subst h1;omega
    ·exact U j C (by omega)
   ·rw[ht,List.nodup_append];refine⟨I,by simp,λa ha b hb=>?_⟩;rw[List.mem_singleton]at hb;subst hb
    rintro rfl
    obtain⟨j,C,e⟩:=List.getElem_of_mem ha;rw[List.getElem_take]at e;rw[qcf]at C;exact K.1 Q j (by omega) (by omega) e
  ·rw[condT (by rw[qby Q];rfl)]
   have:¬xs.Nodup:=λh=>Q (K.2 λj C H e=>by have:=(List.nodup_iff_pairwise_ne.1 h);rw[List.pairwise_iff_getElem]at this;exact this j i C A H e)
   rw[qby this,Bool.and_false]
theorem k6f{s:Sl}{xs:List Int}(n:Sq EI h0 S s xs):go (.fn kh2 [s.v]) h0=some (.bool (idsR xs),h0):=by
 rw[kbk9,n.len];unfold idsR;by_cases c:xs.length>256
 ·rw[condT (qbx (by omega)),qby (by omega)];rfl
 ·rw[condF (qby (by omega)),qbx (show xs.length<=256 by omega),Bool.true_and];exact kbk7 n (by omega) xs.length 0 (by omega) (λj A h=>by omega) (by simp)
theorem k6i(n:TabAt h0 S s1 s2 s3 t){b:Nat}(B:h0.has b [s1.v,s2.v,s3.v] kcb){i:Nat}(K:i<t.cols.length)(hl:t.cols.length<=16)(hb:t.bins.length=t.cols.length)(hi:t.cols[i].length=t.ids.length)(I:t.ids.length<=256):∀(k j:Nat),j+k=t.ids.length->
  go (.pt kei kos [(1,.p (.new b 0)),(4,.i (i:Int)),(5,.i (j:Int))]) h0=cond ((t.cols[i].drop j).any λx=>decide (x<0)||decide (x>=t.bins[i])) (some (.bool false,h0)) (go (.pt kei knc [(1,.p (.new b 0)),(4,.i ((i+1:Nat):Int))]) h0):=by
 have H:i<t.bins.length:=by omega
 obtain⟨r,s',Q,U,-,X⟩:=n.cols.sl K;obtain⟨r2,Y,Z⟩:=n.bins.int H;intro k
 induction k with
 | zero =>
  intro j hj;rw[k3j,B.rd 0 rfl qco,qbt,n.ids.len,condF (qby (by omega)),kj (by omega),List.drop_of_length_le (by omega)];rfl
 | succ k ih =>
  intro j hj;have A:j<t.cols[i].length:=by omega
  obtain⟨r3,e5,e6⟩:=X.int A;rw[k3j,B.rd 0 rfl qco,qbt,n.ids.len,condT (qbx (by omega)),B.rd 2 rfl qco];simp only[qbt,Q,U,e5,e6,B.rd 1 rfl qco,Y,Z];rw[qcg A,List.any_cons];by_cases C:t.cols[i][j]<0
  ·rw[condT (qbx C),qbx C];rfl
  rw[condF (qby C),qby C,Bool.false_or];by_cases F:t.cols[i][j]>=t.bins[i]
  ·rw[condT (qbx F),qbx F];rfl
  rw[condF (qby F),qby F,Bool.false_or,kj (by omega)];exact ih (j+1) (by omega)
theorem k9j(n:TabAt h0 S s1 s2 s3 t){b:Nat}(B:h0.has b [s1.v,s2.v,s3.v] kcb)(Y:t.cols.length<=16)(Z:t.bins.length=t.cols.length)(A:t.ids.length<=256):∀(k i:Nat),i+k=t.cols.length->
  go (.pt kei knc [(1,.p (.new b 0)),(4,.i (i:Int))]) h0=some (.bool (((List.range t.cols.length).drop i).all (colR t)),h0):=by
 intro k
 induction k with
 | zero =>
  intro i hi;rw[kwi,B.rd 2 rfl qco,qbt,n.cols.len,condF (qby (by omega)),kkm (by simp;omega)]
 | succ k ih =>
  intro i hi;have H:i<t.cols.length:=by omega
  have C:i<t.bins.length:=by omega
  obtain⟨r,s',e1,e2,-,n'⟩:=n.cols.sl H;obtain⟨r2,U,X⟩:=n.bins.int C
  have F:colR t i=(!decide (t.bins[i]<2)&&!decide (t.bins[i]>32)&&decide (t.cols[i].length=t.ids.length)&&!(t.cols[i].any λx=>decide (x<0)||decide (x>=t.bins[i]))):=by simp[colR,List.getD,C,H]
  rw[kpk H,F];rw[kwi,B.rd 2 rfl qco,qbt,n.cols.len,condT (qbx (by omega)),B.rd 1 rfl qco,qbt,U,qbt,X,qbt];simp only[qbt,B.rd 0 rfl qco,e1,e2,U,X];by_cases I:t.bins[i]<2
  ·rw[condT (qbx I),qbx I];rfl
  rw[condF (qby I),qby I];by_cases K:t.bins[i]>32
  ·rw[condT (qbx K),qbx K];rfl
  rw[condF (qby K),qby K,n'.len,n.ids.len];by_cases Q:t.cols[i].length=t.ids.length
  ·rw[condF (by rw[qbx (by omega)];rfl),qbx Q,show(0:Int)=((0:Nat):Int)from rfl,k6i n B H Y Z Q A t.ids.length 0 (by omega),List.drop_zero];cases(t.cols[i].any λx=>decide (x<0)||decide (x>=t.bins[i]))with
   | true=>rfl
   | false=>rw[cond_false,ih (i+1) (by omega)];rfl
  ·rw[condT (by rw[qby (by omega)];rfl),qby Q];rfl
theorem k82(n:TabAt h0 S s1 s2 s3 t):Runs (go (.fn kei [.agg [s1.v,s2.v,s3.v]]) h0) λv h'=>v=.bool (tabR t)/\Grow h0 h':=by
 rw[kbb0];refine q0 λH B G=>qcq B 0 rfl ?_;refine qz (k6f (n.ids.grow G)) ?_;unfold tabR;refine qz (seen rfl) (qbd (λc=>qy ⟨by rw[show idsR t.ids=false by simpa using c];rfl,G⟩) λc=>?_);have c:idsR t.ids=true:=by simpa using c
 rw[c,Bool.true_and];refine qcq B 2 rfl ?_;rw[n.cols.len];refine qbd (λF=>qy ⟨?_,G⟩) λF=>?_
 ·rw[qbw]at F;rw[qbx (show t.cols.length>16 by omega)];rfl
 rw[qbv]at F;rw[qby (show¬t.cols.length>16 by omega)];refine qcq B 1 rfl (qcq B 2 rfl ?_);rw[n.bins.len,n.cols.len];refine qbd (λA=>qy ⟨?_,G⟩) λA=>?_
 ·have:¬t.bins.length=t.cols.length:=by simpa[Int.ofNat_inj]using A
  rw[qby this];rfl
 have A:t.bins.length=t.cols.length:=by simpa[Int.ofNat_inj]using A
 rw[qbx A]
 have C:t.ids.length<=256:=by unfold idsR at c;simp at c;exact c.1
 have:=k9j (n.grow G) B (by omega) A C t.cols.length 0 (by omega);exact⟨_,_,this,rfl,G⟩
end
theorem AH.has.at{h:AH}{i:Nat}{cs:List AV}{e:TypeId}(b:h.has i cs e){k:Nat}{v:AV}(A:cs[k]?=some v):h.cell (.new i k)=some v:=(b.cell k).trans A
theorem Runs.yieldF{f:FuncId}{a c xs:List AV}{A:Nat×List AV->Option (AV×AH)}{B:Option (AV×AH)}{P:AV->AH->Prop}(H:Runs B P):Runs (yieldK (.func (.func f) a c) xs A B) P:=H
def Nd.may(x:Nd)(i n:Int):Prop:=if x.leaf=true then(-1099511627776<=x.weight/\x.weight<=1099511627776/\x.party=0/\x.feature=0/\x.cut=0/\x.left=0/\x.right=0)
 else(x.weight=0/\0<=x.party/\x.party<=15/\0<=x.feature/\x.feature<=1073741824/\0<=x.cut/\x.cut<=31/\i<x.left/\x.left<n/\i<x.right/\x.right<n/\x.left≠x.right)
instance Nd.mayDec(x:Nd)(i n:Int):Decidable (x.may i n):=by unfold Nd.may;exact inferInstance
theorem ky4(a b c:Int)(h:AH):callV Pg go (.func (.func khk) [] []) [.i a,.i b,.i c] h=some (.bool (decide (b<=a)&&decide (a<=c)),h):=by
 show callF Pg go khk _ h=_;rw[kbil];show go (.fn khk [.i a,.i b,.i c]) h=_;rw[k7u];by_cases k:a>=b
 ·rw[condT (qbx k),qbx (show b<=a from k)];rfl
 ·rw[condF (qby k),qby (show¬b<=a from k)];rfl
theorem k8b{h:AH}{a i n:Int}{x y z:Nat}{A C F:TypeId}(b1:h.has x [.func (.func khk) [] []] A)(b2:h.has y [.i i] C)(b3:h.has z [.i n] F)(hi:0<=i/\i<=1000)(K:0<=n/\n<=1000) :
  go (.fn kcf [.i a,.p (.new x 0),.p (.new y 0),.p (.new z 0)]) h=some (.bool (decide (i<a)&&decide (a<n)),h):=by
 have:Runs (go (.fn kcf [.i a,.p (.new x 0),.p (.new y 0),.p (.new z 0)]) h) λv h'=>v=.bool (decide (i<a)&&decide (a<n))/\h'=h:=by rw[kbbk];refine qz (b1.at rfl) (qz (b2.rd0 rfl qcp) (qz (b3.rd0 rfl qcp) (Runs.yieldF ?_)));refine qz (ky4 _ _ _ _) (qz (seen rfl) (qy ⟨congrArg AV.bool ?_,rfl⟩));have H:IntKind.wrap .i64 (i+1)=i+1:=wrap64 (by omega) (by omega);have I:IntKind.wrap .i64 (n-1)=n-1:=wrap64 (by omega) (by omega);rw[H,I];congr 1<;>rw[decide_eq_decide]<;>omega
 obtain⟨_,_,e,rfl,rfl⟩:=this;exact e
theorem kbal{h:AH}(x:Nd){i n:Int}(hi:0<=i/\i<=1000)(I:0<=n/\n<=1000):Runs (go (.fn ko9 [.agg x.cells,.i i,.i n]) h) λv h'=>v=.bool (decide (x.may i n))/\Grow h h':=by
 obtain⟨leaf,w,p,f,c,l,r⟩:=x;show Runs (go (.fn ko9 [.agg [.bool leaf,.i w,.i p,.i f,.i c,.i l,.i r],.i i,.i n]) h) _;rw[kbbf];refine q0 λh1 b1 K=>q0 λh2 b2 H=>q0 λQ b3 C=>q0 λh4 b4 U=>qba b4 rfl λX Y Z=>?_;have A:=(ql Q).trans U |>.updr (qbp _) Z;have b1:=(H.trans (C.trans A)).has b1;have b2:=(C.trans A).has b2;have b3:=A.has b3;have G:=K.trans (H.trans (C.trans A))
 have F:∀{b:Bool},(b=true↔Nd.may ⟨leaf,w,p,f,c,l,r⟩ i n)->Runs (some (.bool b,X)) λv h'=>v=.bool (decide (Nd.may ⟨leaf,w,p,f,c,l,r⟩ i n))/\Grow h h':=λ{b} e=>qy ⟨congrArg AV.bool (by rw[Bool.eq_iff_iff,qbw];exact e),G⟩
 cases leaf
 all_goals
  repeat' first
   | refine Runs.yieldF ?_
   | refine qz (ky4 _ _ _ _) ?_
   | refine qz (k8b Y b2 b3 hi I) ?_
   | refine qz (qbf (by assumption) _ rfl (by first | exact kb _ _ | rfl)) ?_
   | refine qz (AH.has.at (by assumption) rfl) ?_
   | refine qz (seen rfl) ?_
   | refine qbd (λk=>?_) (λk=>?_)
  all_goals
   refine F ?_;simp[Nd.may]at *
   try omega
theorem kbhn{h:AH}(x:Nd){i n:Int}:Runs (go (.fn ko6 [.agg x.cells,.i i,.i n]) h) λv h'=>v=.bool (decide (x.may i n))/\Grow h h':=by
 obtain⟨leaf,w,p,f,c,l,r⟩:=x;show Runs (go (.fn ko6 [.agg [.bool leaf,.i w,.i p,.i f,.i c,.i l,.i r],.i i,.i n]) h) _;rw[kbds];refine q0 λC b1 G=>?_
 have A:∀{b:Bool},(b=true↔Nd.may ⟨leaf,w,p,f,c,l,r⟩ i n)->Runs (some (.bool b,C)) λv h'=>v=.bool (decide (Nd.may ⟨leaf,w,p,f,c,l,r⟩ i n))/\Grow h h':=λ{b} e=>qy ⟨congrArg AV.bool (by rw[Bool.eq_iff_iff,qbw];exact e),G⟩
 cases leaf
 all_goals
  repeat' first
   | refine qz (qbf (by assumption) _ rfl (by first | exact kb _ _ | rfl)) ?_
   | refine qbd (λk=>?_) (λk=>?_)
  all_goals
   refine A ?_;simp[Nd.may]at *
   try omega
abbrev EM:Ef (List Nd):=Ef.seq Ef.nd
def Nd.no:Nd:=⟨false,0,0,0,0,0,0⟩
def nodesR(l:List Nd)(i:Nat):Bool:=decide ((l.getD i Nd.no).may (i:Int) (l.length:Int))
def treeR(l:List Nd):Bool:=!decide (l.length<1)&&!decide (l.length>63)&&(List.range l.length).all (nodesR l)
def modR(m:List (List Nd)):Bool:=!decide (m.length>16)&&m.all treeR
section
variable{h0:AH}{S:Fp}{s:Sl}{m:List (List Nd)}
theorem kbat{l:List Nd}{t:Sl}(n:Sq Ef.nd h0 S t l)(hl:l.length<=63){b:Nat}(H:h0.has b [t.v] kbu)(I:m.length<=16){z:Nat}(hz:z<m.length):∀(k i:Nat),i+k=l.length->∀{h:AH},Grow h0 h->
  (∀h',Grow h0 h'->Runs (go (.pt kd7 kmj [(12,s.v),(13,.i (m.length:Int)),(14,.i ((z+1:Nat):Int))]) h') λv C=>v=.bool ((m.drop (z+1)).all treeR)/\Grow h' C)->
  Runs (go (.pt kd7 kqt [(4,.p (.new b 0)),(12,s.v),(13,.i (m.length:Int)),(14,.i (z:Int)),(29,t.v),(30,.i (l.length:Int)),(31,.i (i:Int))]) h) λv h'=>v=.bool (((List.range l.length).drop i).all (nodesR l)&&(m.drop (z+1)).all treeR)/\Grow h0 h':=by
 intro k
 induction k with
 | zero =>
  intro i hi h g next;rw[kyi];refine qbc (qby (by omega)) ?_;rw[kj (by omega),kkm (by simp;omega),Bool.true_and];exact(next h g).imp λv h' ⟨a,b⟩=>⟨a,g.trans b⟩
 | succ k ih =>
  intro i hi h g next;have A:i<l.length:=by omega
  obtain⟨r,e,K,Q,U,X,Y,Z,e6⟩:=(n.grow g).nd A;rw[kyi];refine qbb (qbx (by omega)) (qz e (qz K (qz Q (qz U (qz X (qz Y (qz Z (qz e6 ?_))))))));refine q0 λh1 b1 g1=>qba b1 rfl λh2 b2 u2=>?_;have G:Grow h h2:=g1.updr (qbp _) u2;have aa:=(g.trans G).has H
  repeat refine qz (qbf (by assumption) _ rfl (by first | exact kb _ _ | exact asSl_v _ | rfl)) ?_
  rw[n.len];refine(kbal l[i] (i:=(i:Int)) (n:=(l.length:Int)) (by omega) (by omega)).call λv h3 ⟨ev,F⟩=>?_;subst ev;refine qz (seen rfl) ?_;have hn:nodesR l i=decide (l[i].may (i:Int) (l.length:Int)):=by simp[nodesR,List.getD,A]
  rw[kpk A,hn];refine qbd (λc=>qy ⟨?_,(g.trans G).trans F⟩) λc=>?_
  ·rw[qci]at c;rw[c];rfl
  ·rw[qcj]at c;rw[c,Bool.true_and,kj (by omega)];exact ih (i+1) (by omega) ((g.trans G).trans F) next
theorem kbju(n:Sq EM h0 S s m)(H:m.length<=16):∀(k z:Nat),z+k=m.length->∀{h:AH},Grow h0 h->
  Runs (go (.pt kd7 kmj [(12,s.v),(13,.i (m.length:Int)),(14,.i (z:Int))]) h) λv h'=>v=.bool ((m.drop z).all treeR)/\Grow h h':=by
 intro k
 induction k with
 | zero =>
  intro z I h g;rw[kxu];refine qbc (qby (by omega)) (qy ⟨by rw[kkm (by omega)],ql _⟩)
 | succ k ih =>
  intro z I h g;have A:z<m.length:=by omega
  obtain⟨r,t,K,-,Q,C⟩:=(n.grow g).sl A;rw[kxu];refine qbb (qbx (by omega)) (qz K (qz Q ?_));refine q0 λh1 b1 U=>qba b1 rfl λX b2 Y=>?_;have G:Grow h X:=U.updr (qbp _) Y;refine qcq b2 0 rfl ?_;rw[C.len,kvn A];unfold treeR;refine qbd (λc=>qy ⟨?_,G⟩) λc=>?_
  ·rw[qbw]at c;rw[qbx (show m[z].length<1 by omega)];rfl
  rw[qbv]at c;rw[qby (show¬m[z].length<1 by omega)];refine qcq b2 0 rfl ?_;rw[C.len];refine qbd (λF=>qy ⟨?_,G⟩) λF=>?_
  ·rw[qbw]at F;rw[qbx (show m[z].length>63 by omega)];rfl
  rw[qbv]at F;rw[qby (show¬m[z].length>63 by omega)];refine qcq b2 0 rfl ?_;rw[C.len];refine(kbat (C.grow G) (by omega) b2 H A m[z].length 0 (by omega) (ql _) λh' Z=>ih (z+1) (by omega) ((g.trans G).trans Z)).imp λv h' ⟨a,b⟩=>⟨?_,G.trans b⟩;rw[a];rfl
theorem k7o(n:Sq EM h0 S s m):Runs (go (.fn kd7 [.agg [s.v]]) h0) λv h'=>v=.bool (modR m)/\Grow h0 h':=by
 rw[kbig];refine q0 λC b2 A=>qcq b2 0 rfl ?_;rw[n.len];unfold modR;refine qbd (λc=>qy ⟨?_,A⟩) λc=>?_
 ·rw[qbw]at c;rw[qbx (show m.length>16 by omega)];rfl
 rw[qbv]at c;rw[qby (show¬m.length>16 by omega)];refine qcq b2 0 rfl ?_;rw[n.len];exact(kbju n (by omega) m.length 0 (by omega) A).imp λv h' ⟨a,b⟩=>⟨a,A.trans b⟩
theorem kbjw{l:List Nd}{t:Sl}(n:Sq Ef.nd h0 S t l)(hl:l.length<=63){b:Nat}(H:m.length<=16){z:Nat}(hz:z<m.length):∀(k i:Nat),i+k=l.length->∀{h:AH},Grow h0 h->
  (∀h',Grow h0 h'->Runs (go (.pt kel knz [(1,.p (.new b 0)),(3,.i ((z+1:Nat):Int))]) h') λv C=>v=.bool ((m.drop (z+1)).all treeR)/\Grow h' C)->
  Runs (go (.pt kel krx [(1,.p (.new b 0)),(3,.i (z:Int)),(4,t.v),(5,.i (i:Int))]) h) λv h'=>v=.bool (((List.range l.length).drop i).all (nodesR l)&&(m.drop (z+1)).all treeR)/\Grow h0 h':=by
 intro k
 induction k with
 | zero =>
  intro i hi h g next;rw[kxt,n.len];refine qbc (qby (by omega)) ?_;rw[kj (by omega),kkm (by simp;omega),Bool.true_and];exact(next h g).imp λv h' ⟨a,b⟩=>⟨a,g.trans b⟩
 | succ k ih =>
  intro i hi h g next;have A:i<l.length:=by omega
  obtain⟨r,e,I,K,Q,U,X,Y,Z⟩:=(n.grow g).nd A;rw[kxt,n.len];rw[n.len]at e;refine qbb (qbx (by omega)) (qz e (qz I (qz K (qz Q (qz U (qz X (qz Y (qz Z ?_))))))));refine(kbhn l[i] (i:=(i:Int)) (n:=(l.length:Int))).call λv h3 ⟨ev,F⟩=>?_;subst ev;refine qz (seen rfl) ?_;have hn:nodesR l i=decide (l[i].may (i:Int) (l.length:Int)):=by simp[nodesR,List.getD,A]
  rw[kpk A,hn];refine qbd (λc=>qy ⟨?_,g.trans F⟩) λc=>?_
  ·rw[qci]at c;rw[c];rfl
  ·rw[qcj]at c;rw[c,Bool.true_and,kj (by omega)];exact ih (i+1) (by omega) (g.trans F) next
theorem kblw(n:Sq EM h0 S s m)(K:m.length<=16){b:Nat}(C:h0.has b [s.v] kcp):∀(k z:Nat),z+k=m.length->∀{h:AH},Grow h0 h->
  Runs (go (.pt kel knz [(1,.p (.new b 0)),(3,.i (z:Int))]) h) λv h'=>v=.bool ((m.drop z).all treeR)/\Grow h h':=by
 intro k
 induction k with
 | zero =>
  intro z Q h g;rw[k4z];refine qcq (g.has C) 0 rfl ?_;rw[n.len];refine qbc (qby (by omega)) (qy ⟨by rw[kkm (by omega)],ql _⟩)
 | succ k ih =>
  intro z Q h g;have A:z<m.length:=by omega
  obtain⟨r,t,H,-,U,I⟩:=(n.grow g).sl A;rw[k4z];refine qcq (g.has C) 0 rfl ?_;rw[n.len];rw[n.len]at H;refine qbb (qbx (by omega)) (qcq (g.has C) 0 rfl ?_);rw[n.len];refine qz H (qz U ?_);rw[I.len,kvn A];unfold treeR;refine qbd (λc=>qy ⟨?_,ql _⟩) λc=>?_
  ·rw[qbw]at c;rw[qbx (show m[z].length<1 by omega)];rfl
  rw[qbv]at c;rw[qby (show¬m[z].length<1 by omega)];refine qbd (λF=>qy ⟨?_,ql _⟩) λF=>?_
  ·rw[qbw]at F;rw[qbx (show m[z].length>63 by omega)];rfl
  rw[qbv]at F;rw[qby (show¬m[z].length>63 by omega)];exact kbjw I (by omega) K A m[z].length 0 (by omega) (ql _) λh' X=>ih (z+1) (by omega) (g.trans X)
theorem kbbt(n:Sq EM h0 S s m):Runs (go (.fn kel [.agg [s.v]]) h0) λv h'=>v=.bool (modR m)/\Grow h0 h':=by
 rw[kbmp];refine q0 λC b2 A=>qcq b2 0 rfl ?_;rw[n.len];unfold modR;refine qbd (λc=>qy ⟨?_,A⟩) λc=>?_
 ·rw[qbw]at c;rw[qbx (show m.length>16 by omega)];rfl
 rw[qbv]at c;rw[qby (show¬m.length>16 by omega)];exact(kblw (n.grow A) (by omega) b2 m.length 0 (by omega) (ql _)).imp λv h' ⟨a,b⟩=>⟨a,A.trans b⟩
end
end Go.Ab
namespace Go.Ab
theorem k2g:∀(n w:Nat),w≠0->w<2^n->∃k m,k<n/\w=2^(k+1)*m+2^k:=by
 intro n
 induction n with
 | zero=>intro w h0 h;omega
 | succ n ih =>
  intro w h0 h;rcases Nat.mod_two_eq_zero_or_one w with e | e
  ·obtain⟨k,m,C,A⟩:=ih (w/2) (by omega) (by rw[Nat.pow_succ]at h;omega);refine⟨k+1,m,by omega,?_⟩;have:w=2*(w/2):=by omega
   rw[this,A,Nat.mul_add,<- Nat.mul_assoc,<- Nat.pow_succ',<- Nat.pow_succ']
  ·exact⟨0,w/2,by omega,by simp;omega⟩
theorem kkv{k m:Nat}(j:Nat):(2^(k+1)*m+2^k).testBit j=if j<k then false else if j=k then true else m.testBit (j-(k+1)):=by
 rw[Nat.testBit_two_pow_mul_add _ (Nat.pow_lt_pow_right (by decide) (Nat.lt_succ_self k)),Nat.testBit_two_pow]
 grind
theorem kbci(k m:Nat):(2^(k+1)*m+2^k)&&&(2^(k+1)*m+2^k-1)=2^(k+1)*m:=by
 have A:0<2^k:=Nat.two_pow_pos k;have e:2^(k+1)*m+2^k-1=2^(k+1)*m+(2^k-1):=by omega
 rw[e];apply Nat.eq_of_testBit_eq;intro j;rw[Nat.testBit_and,kkv,Nat.testBit_two_pow_mul_add _ (by rw[Nat.pow_succ];omega),Nat.testBit_two_pow_sub_one,Nat.testBit_two_pow_mul]
 grind
theorem kbfl{k m n:Nat}(h:2^(k+1)*m+2^k<2^n):(2^(k+1)*m+2^k)&&&(2^n-(2^(k+1)*m+2^k))=2^k:=by
 have F:k<n:=by
  rcases Nat.lt_or_ge k n with h1 | h1
  ·exact h1
  ·have:=Nat.pow_le_pow_right (n:=2) (by decide) h1;omega
 obtain⟨d,rfl⟩:∃d,n=(k+1)+d:=⟨n-(k+1),by omega⟩
 have C:m<2^d:=by
  rcases Nat.lt_or_ge m (2^d)with h1 | h1
  ·exact h1
  ·have:=Nat.mul_le_mul_left (2^(k+1)) h1;rw[<- Nat.pow_add]at this;exact absurd h (Nat.not_lt.2 (Nat.le_trans this (Nat.le_add_right _ _)))
 have e:2^(k+1+d)-(2^(k+1)*m+2^k)=2^(k+1)*(2^d-(m+1))+2^k:=by
  have a:2^(k+1+d)=2^(k+1)*2^d:=Nat.pow_add ..;have b:2^(k+1)*2^d=2^(k+1)*(2^d-(m+1))+2^(k+1)*(m+1):=by rw[<- Nat.mul_add];congr 1;omega
  have c:2^(k+1)*(m+1)=2^(k+1)*m+2^(k+1):=by rw[Nat.mul_add,Nat.mul_one]
  have f:2^(k+1)=2^k+2^k:=by rw[Nat.pow_succ];omega
  omega
 rw[e];apply Nat.eq_of_testBit_eq;intro j;rw[Nat.testBit_and,kkv,kkv,Nat.testBit_two_pow];by_cases h1:j<k
 ·have:¬k=j:=by omega
  simp[h1,this]
 ·by_cases A:j=k
  ·subst A;simp
  ·have:¬k=j:=by omega
   rw[if_neg h1,if_neg A,if_neg h1,if_neg A,Nat.testBit_two_pow_sub_succ C];simp[this];intro a b;exact a
def ones(w:Nat):List Nat:=(List.range 64).filter w.testBit
theorem kbmi{p q:Nat->Bool}{k:Nat}:∀{n:Nat},k<n->p k=true->(∀j,j<k->p j=false)->(∀j,j<n->q j=(p j&&decide (j≠k)))->(List.range n).filter p=k::(List.range n).filter q:=by
 intro n
 induction n with
 | zero=>intro h;omega
 | succ n ih =>
  intro h H F A;rw[List.range_succ,List.filter_append,List.filter_append];by_cases e:k=n
  ·subst e;have a:(List.range k).filter p=[]:=List.filter_eq_nil_iff.2 λj C=>by rw[F j (List.mem_range.1 C)];simp
   have b:(List.range k).filter q=[]:=List.filter_eq_nil_iff.2 λj C=>by have:=List.mem_range.1 C;rw[A j (by omega),F j this];simp
   rw[a,b];have:q k=false:=by rw[A k (by omega)];simp
   simp[H,this]
  ·rw[ih (by omega) H F λj C=>A j (by omega)];have:q n=p n:=by rw[A n (by omega)];simp;intro _;omega
   simp[this,List.filter_cons]
theorem kzu:ones 0=[]:=by unfold ones;exact List.filter_eq_nil_iff.2 λj _=>by simp
theorem kz0{k m:Nat}(C:k<64):ones (2^(k+1)*m+2^k)=k::ones (2^(k+1)*m):=by
 unfold ones;refine kbmi C (by rw[kkv];simp) (λj F=>by rw[kkv];simp[F]) λj _=>?_;rw[kkv,Nat.testBit_two_pow_mul];by_cases h1:j<k
 ·have:¬k+1<=j:=by omega
  simp[h1,this]
 ·by_cases A:j=k
  ·subst A;have:¬j+1<=j:=by omega
   simp[this]
  ·have:k+1<=j:=by omega
   simp[h1,A,this]
end Go.Ab
set_option maxRecDepth 10000
namespace Go.Ab
open Go.Proofs
theorem kuh{a b:Nat}(A:a<18446744073709551616)(C:b<18446744073709551616):iand .u64 (a:Int) (b:Int)=((a&&&b:Nat):Int):=by unfold iand;rw[show IntKind.bits .u64=64 from rfl,wrapU];have F:BitVec.ofInt 64 (a:Int)=BitVec.ofNat 64 a:=rfl;have H:BitVec.ofInt 64 (b:Int)=BitVec.ofNat 64 b:=rfl;rw[F,H,BitVec.toNat_and,BitVec.toNat_ofNat,BitVec.toNat_ofNat,Nat.mod_eq_of_lt (show a<2^64 from A),Nat.mod_eq_of_lt (show b<2^64 from C)];have:a&&&b<=a:=Nat.and_le_left;omega
theorem or_nat{a b:Nat}(A:a<18446744073709551616)(C:b<18446744073709551616):ior .u64 (a:Int) (b:Int)=((a|||b:Nat):Int):=by unfold ior;rw[show IntKind.bits .u64=64 from rfl,wrapU];have F:BitVec.ofInt 64 (a:Int)=BitVec.ofNat 64 a:=rfl;have H:BitVec.ofInt 64 (b:Int)=BitVec.ofNat 64 b:=rfl;rw[F,H,BitVec.toNat_or,BitVec.toNat_ofNat,BitVec.toNat_ofNat,Nat.mod_eq_of_lt (show a<2^64 from A),Nat.mod_eq_of_lt (show b<2^64 from C)];have:a|||b<2^64:=Nat.or_lt_two_pow A C;omega
theorem k4a(x n:Nat):ishr .u64 (x:Int) (n:Int)=((x/2^min n 64:Nat):Int):=by
 unfold ishr;rw[Int.toNat_natCast,show IntKind.bits .u64=64 from rfl];have:((2:Int)^min n 64)=((2^min n 64:Nat):Int):=by simp
 rw[this,Int.fdiv_eq_ediv_of_nonneg _ (Int.natCast_nonneg _)];exact(Int.natCast_ediv _ _).symm
theorem k2t{n:Nat}(A:n<64):ishl .u64 1 (n:Int)=((2^n:Nat):Int):=by
 unfold ishl;rw[Int.toNat_natCast,show IntKind.bits .u64=64 from rfl,Nat.min_eq_left (by omega),wrapU];have h1:(1:Int)*(2:Int)^n=((2^n:Nat):Int):=by simp
 have C:2^n<2^64:=Nat.pow_lt_pow_right (by decide) A;rw[h1];generalize 2^n=q at *
 omega
def tzTab:List Nat:=[0,1,56,2,57,49,28,3,61,58,42,50,38,29,17,4,62,47,59,36,45,43,51,22,53,39,33,30,24,18,12,5,63,55,48,27,60,41,37,16,46,35,44,21,52,32,23,11,54,26,40,15,34,20,31,10,25,14,19,9,13,8,7,6]
theorem tz_idx:∀k:_root_.Fin 64,tzTab.getD ((2^k.val*285870213051353865%18446744073709551616)/288230376151711744) 0=k.val:=by decide +kernel
def Tab(h:AH):Prop:=∀k:Nat,k<64->h.cell (.old ⟨Gl.math_bits_deBruijn64tab,k,none⟩)=some (.int .u8 ((tzTab.getD k 0:Nat):Int))
theorem Tab.md{h h':AH}{T:Fp}(t:Tab h)(m:Md T h h'):Tab h':=λk A=>by rw[<- t k A];simp only[AH.cell,m.old]
theorem Tab.grow{h h':AH}(t:Tab h)(g:Grow h h'):Tab h':=t.md (g.md Fp.no)
theorem tz_is{h:AH}(T:Tab h){k m:Nat}(H:k<64)(C:2^(k+1)*m+2^k<18446744073709551616):go (.fn kvk [.int .u64 ((2^(k+1)*m+2^k:Nat):Int)]) h=some (.i (k:Int),h):=by
 rw[kbkx];have Z:=Nat.two_pow_pos k;have I:=kbfl (k:=k) (m:=m) (n:=64) C;generalize hW:2^(k+1)*m+2^k=W at *
 have K:0<W:=by omega
 have Q:IntKind.wrap .u64 (0-(W:Int))=((18446744073709551616-W:Nat):Int):=by rw[wrapU];omega
 rw[condF (qby (by omega)),Q,kuh C (by omega),I]
 have U:IntKind.wrap .u64 (((2^k:Nat):Int)*285870213051353865)=((2^k*285870213051353865%18446744073709551616:Nat):Int):=by rw[wrapU,show((2^k:Nat):Int)*285870213051353865=((2^k*285870213051353865:Nat):Int)from by simp];rfl
 have F:=tz_idx ⟨k,H⟩;dsimp only at F;rw[U,show(58:Int)=((58:Nat):Int)from rfl,k4a,show 2^min 58 64=288230376151711744 from rfl];generalize X:2^k*285870213051353865%18446744073709551616/288230376151711744=J at *
 have A:J<64:=by rw[<- X,Nat.div_lt_iff_lt_mul (by decide)];exact Nat.mod_lt _ (by decide)
 have Y:idx (some (Ref.old ⟨Gl.math_bits_deBruijn64tab,0,none⟩)) 64 (J:Int) 1=some (.old ⟨Gl.math_bits_deBruijn64tab,J,none⟩):=by rw[kdq _ _ _ _ (by omega) (by omega),Int.toNat_natCast,Nat.mul_one];simp[Ref.add,Addr.add];exactλh=>h.symm
 rw[Y,qbt,T J A,F];show some (AV.int .i64 (IntKind.wrap .i64 (k:Int)),h)=_;rw[wrap64 (by omega) (by omega)]
def wbit(w:List Nat)(i:Nat):Bool:=(w.getD (i/64) 0).testBit (i%64)
def btR(n:Int)(w:List Nat):Bool:=decide (0<=n)&&(decide (n<=65536)&&(decide (w.length=(n.toNat+63)/64)&&(List.range (64*w.length)).all λi=>decide (i<n.toNat)||!wbit w i))
theorem k8o{x k:Nat}:x<2^k↔∀i,k<=i->x.testBit i=false:=⟨λh i hi=>Nat.testBit_lt_two_pow (qbr h (Nat.pow_le_pow_right (by decide) hi)),λh=>Nat.lt_pow_two_of_testBit x h⟩
section
variable{h0:AH}{s:Sl}{w:List Nat}{n:Int}
theorem Nats.rdN{h:AH}(N:Nats h s w){i:Nat}(hi:i<w.length):∃r:Ref,idx s.ref s.len (i:Int) 1=some r/\(h.cell r).bind (AV.asInt .u64)=some (w[i]:Int):=by obtain⟨r,A,C⟩:=N.at hi;exact⟨r,A,rdc C qcp⟩
theorem klo(N:Nats h0 s w):Runs (go (.fn kic [.agg [.i n,s.v]]) h0) λv h'=>v=.bool (btR n w)/\Grow h0 h':=by
 rw[kbnh];refine q0 λh1 b1 A=>qcr b1 0 rfl (qbd (λc=>?_) λc=>?_)
 ·rw[qbw]at c;refine qy ⟨?_,A⟩;unfold btR;rw[qby (by omega)];rfl
 rw[qbv]at c;refine qcr b1 0 rfl (qbd (λC=>?_) λC=>?_)
 ·rw[qbw]at C;refine qy ⟨?_,A⟩;unfold btR;rw[qby (show¬n<=65536 by omega)];simp
 rw[qbv]at C;obtain⟨z,rfl⟩:∃z:Nat,n=(z:Int):=⟨n.toNat,by omega⟩;have X:=N.grow A;refine qcq b1 1 rfl (qcr b1 0 rfl ?_);rw[N.len,wrap64 (n:=(z:Int)+64) (by omega) (by omega),wrap64 (n:=(z:Int)+64-1) (by omega) (by omega),show(z:Int)+64-1=((z+63:Nat):Int)from by omega,show Int.tdiv ((z+63:Nat):Int) 64=(((z+63)/64:Nat):Int)from rfl,wrap64 (by omega) (by omega)]
 have Y:btR (z:Int) w=(decide (w.length=(z+63)/64)&&(List.range (64*w.length)).all λi=>decide (i<z)||!wbit w i):=by unfold btR;rw[qbx (show(0:Int)<=(z:Int) by omega),qbx (show(z:Int)<=65536 by omega),Int.toNat_natCast];rfl
 rw[Y];refine qbd (λF=>?_) λF=>?_
 ·refine qy ⟨?_,A⟩;rw[qci,qbv]at F;rw[qby (by omega)];rfl
 rw[qcj,qbw]at F;have Z:w.length=(z+63)/64:=by omega
 rw[qbx Z,Bool.true_and];refine qcr b1 0 rfl ?_;rw[show Int.tmod (z:Int) 64=((z%64:Nat):Int)from rfl];refine qbd (λI=>?_) λI=>?_
 ·rw[qbw]at I;refine qy ⟨congrArg AV.bool ?_,A⟩;symm;rw[List.all_eq_true];intro i hi;rw[qcm]at hi;rw[qbx (by omega)];rfl
 rw[qbv]at I;have hi:z/64<w.length:=by omega
 obtain⟨r,Q,e2⟩:=X.rdN hi;refine qcq b1 1 rfl (qcq b1 1 rfl ?_);rw[N.len,show((w.length:Nat):Int)-1=((z/64:Nat):Int)from by omega,wrap64 (by omega) (by omega)];rw[N.len]at Q;refine qz Q (qz e2 (qcr b1 0 rfl ?_));rw[show Int.tmod (z:Int) 64=((z%64:Nat):Int)from rfl,k4a];refine qbc (qby (by omega)) (qy ⟨congrArg AV.bool ?_,A⟩);rw[Bool.eq_iff_iff,qbw,List.all_eq_true,Nat.min_eq_left (by omega)]
 have hx:((w[z/64]/2^(z%64):Nat):Int)=0↔w[z/64]<2^(z%64):=by have:=Nat.div_eq_zero_iff (a:=w[z/64]) (b:=2^(z%64));have:=Nat.two_pow_pos (z%64);omega
 rw[hx,k8o];have U:w.getD (z/64) 0=w[z/64]:=by simp[List.getD,hi]
 constructor
 ·intro H i K;rw[qcm]at K;rcases Nat.lt_or_ge i z with h | h
  ·rw[qbx h];rfl
  ·have:i/64=z/64:=by omega
   unfold wbit;rw[this,U,H (i%64) (by omega)];simp
 ·intro H j hj;rcases Nat.lt_or_ge j 64 with h | h
  ·have:=H (64*(z/64)+j) (by rw[qcm];omega);unfold wbit at this;rw[qby (by omega),show(64*(z/64)+j)/64=z/64 from by omega,show(64*(z/64)+j)%64=j from by omega,U]at this
   simpa using this
  ·exact Nat.testBit_lt_two_pow (qbr (N.lt _ (qb3 hi)) (show 2^64<=2^j from Nat.pow_le_pow_right (by decide) h))
end
def zs(l:List Nat):List Int:=l.map λx:Nat=>(x:Int)
theorem zs_len(l:List Nat):(zs l).length=l.length:=qb1 _
theorem zs_app(l m:List Nat):zs (l++m)=zs l++zs m:=List.map_append
theorem kk3{n:Nat}(h:n<=1000000):growOk Pg n T.int 1=true:=by
 unfold growOk;rw[kwg,kks];have h1:n*8<=ks:=by simp only[ks];omega
 have A:n<=ks:=by simp only[ks];omega
 simp[h1,A]
def btL(n:Int)(w:List Nat):List Nat:=if btR n w then(List.range n.toNat).filter (wbit w)else []
theorem btR_n{n:Int}{w:List Nat}(h:btR n w=true):0<=n/\n<=65536/\w.length=(n.toNat+63)/64/\∀i,i<64*w.length->n.toNat<=i->wbit w i=false:=by unfold btR at h;simp only[qb9,qbw,List.all_eq_true,qcm,qca,qci]at h;exact⟨h.1,h.2.1,h.2.2.1,λi hi A=>(h.2.2.2 i hi).resolve_left (by omega)⟩
theorem btR_of{n:Int}{w:List Nat}(h1:0<=n)(A:n<=65536)(C:w.length=(n.toNat+63)/64)(F:∀i,i<64*w.length->n.toNat<=i->wbit w i=false):btR n w=true:=by unfold btR;simp only[qb9,qbw,List.all_eq_true,qcm,qca,qci];exact⟨h1,A,C,λi hi=>(Nat.lt_or_ge i n.toNat).imp_right (F i hi)⟩
section
variable{h0:AH}{s:Sl}{w:List Nat}{n:Int}
end
theorem kbc5{w:List Nat}{i j:Nat}(hi:i/64<w.length):wbit (w.set (i/64) (w[i/64]|||2^(i%64))) j=(decide (j=i)||wbit w j):=by
 unfold wbit;by_cases h:j/64=i/64
 ·rw[h];have:(w.set (i/64) (w[i/64]|||2^(i%64))).getD (i/64) 0=w[i/64]|||2^(i%64):=by simp[List.getD,hi]
  rw[this,Nat.testBit_or,Nat.testBit_two_pow];have A:w.getD (i/64) 0=w[i/64]:=by simp[List.getD,hi]
  rw[A,Bool.or_comm];congr 1;rw[decide_eq_decide];omega
 ·have h1:(w.set (i/64) (w[i/64]|||2^(i%64))).getD (j/64) 0=w.getD (j/64) 0:=by
   simp only[List.getD];rw[List.getElem?_set_ne (by omega)]
  rw[h1];have:¬j=i:=λe=>h (by rw[e]);simp[this]
theorem kbck(n i:Nat):wbit (List.replicate n 0) i=false:=by
 unfold wbit
 have:(List.replicate n 0).getD (i/64) 0=0:=by simp only[List.getD,List.getElem?_replicate];split<;>rfl
 rw[this];exact Nat.zero_testBit _
section
variable{h0:AH}
theorem kr4{n:Nat}(H:n<=65536):Runs (go (.fn kkd [.i (n:Int)]) h0) λv h'=>Grow h0 h'/\∃(s:Sl)(i:Nat),v=.tup [.agg [.i (n:Int),s.v],.i 0]/\h0.blks.size<=i/\Vec h' s i (List.replicate ((n+63)/64) 0):=by rw[kbha];refine q0 λh1 b1 A=>qbc (qby (by omega)) (qbc (qby (by omega)) ?_);rw[wrap64 (n:=(n:Int)+64) (by omega) (by omega),wrap64 (n:=(n:Int)+64-1) (by omega) (by omega),show(n:Int)+64-1=((n+63:Nat):Int)from by omega,show Int.tdiv ((n+63:Nat):Int) 64=(((n+63)/64:Nat):Int)from rfl,wrap64 (by omega) (by omega)];refine Runs.mk (kgi (by omega)) kes λs I V C=>?_;refine qba (C.has b1) rfl λK b3 F=>?_;refine qcr b3 0 rfl (qcq b3 1 rfl (qy ⟨(A.trans C).updr (qbp _) F,s,h1.blks.size,rfl,A.size,V.updr (by have:=b1.lt;omega) F⟩))
end
theorem k8e{w:List Nat}{i:Nat}(hi:i<w.length):(List.range (64*(i+1))).filter (wbit w)=(List.range (64*i)).filter (wbit w)++(ones w[i]).map (λk=>64*i+k):=by rw[Nat.mul_add,Nat.mul_one,List.range_add,List.filter_append,List.filter_map];congr 1;unfold ones;congr 1;apply List.filter_congr;intro k A;rw[qcm]at A;simp only[Function.comp,wbit];rw[show(64*i+k)/64=i from by omega,show(64*i+k)%64=k from by omega];simp[List.getD,hi]
section
variable{w:List Nat}{s:Sl}{l:Nat}
theorem kbmd{Inv:List Nat->AH->Prop}(Y:∀d h,Inv d h->Tab h)(A:∀d i h,Inv d h->i<64*w.length->d.length<64*w.length->Runs (go (.round l [.i (i:Int)]) h) λv h'=>v=.bool true/\Inv (d++[i]) h')(hl:w.length<=2000){i:Nat}(hi:i<w.length){P:AV->AH->Prop} :
  ∀(n x:Nat),x<18446744073709551616->(ones x).length=n->∀(d:List Nat)(h:AH),d.length+n<=64*w.length->Inv d h->(∀h',Inv (d++(ones x).map (λk=>64*i+k)) h'->Runs (go (.pt kck km7 [(0,.func (.yield l) [] []),(6,s.v),(7,.i (w.length:Int)),(8,.i ((i+1:Nat):Int))]) h') P)->
  Runs (go (.pt kck kqj [(0,.func (.yield l) [] []),(3,.i (i:Int)),(4,.int .u64 (x:Int)),(6,s.v),(7,.i (w.length:Int)),(8,.i (i:Int))]) h) P:=by
 intro n
 induction n with
 | zero =>
  intro x K C d h Z I H
  have F:x=0:=by
   rcases Nat.eq_zero_or_pos x with h0 | h0
   ·exact h0
   ·obtain⟨k,m,Q,rfl⟩:=k2g 64 x (by omega) K;rw[kz0 Q]at C;simp at C
  subst F;rw[k03];refine qbc (by rfl) ?_;rw[kj (by omega)];rw[kzu]at H;exact H h (by simpa using I)
 | succ n ih =>
  intro x K C d h Z I H;have F:x≠0:=λe=>by subst e;rw[kzu]at C;simp at C
  obtain⟨k,m,Q,U⟩:=k2g 64 x F K;subst U;rw[kz0 Q]at C H;rw[k03];refine qbb (by rw[qby (by omega)];rfl) ?_;refine qz (tz_is (Y _ _ I) Q K) (qz (seen rfl) ?_);rw[wrap64 (n:=64*(i:Int)) (by omega) (by omega),wrap64 (by omega) (by omega),show 64*(i:Int)+(k:Int)=((64*i+k:Nat):Int)from by omega];refine(A d (64*i+k) h I (by omega) (by omega)).call λv h1 ⟨e,I1⟩=>?_;subst e;refine qz (seen rfl) (qbc rfl ?_)
  have e1:IntKind.wrap .u64 (((2^(k+1)*m+2^k:Nat):Int)-1)=((2^(k+1)*m+2^k-1:Nat):Int):=by
   have:=Nat.two_pow_pos k;generalize 2^(k+1)*m+2^k=W at *
   rw[wrapU];omega
  have X:2^(k+1)*m<18446744073709551616:=by have:=Nat.two_pow_pos k;exact qbs (Nat.le_add_right _ _) K
  dsimp only;rw[e1,kuh K (by omega),kbci];refine ih _ X (by simpa using C) (d++[64*i+k]) h1 (by rw[qb0,List.length_singleton];omega) I1 λh' I'=>H h' ?_
  simpa using I'
theorem k86{Inv:List Nat->AH->Prop}(K:∀d h,Inv d h->Tab h)(F:∀d h,Inv d h->Nats h s w)(A:∀d i h,Inv d h->i<64*w.length->d.length<64*w.length->Runs (go (.round l [.i (i:Int)]) h) λv h'=>v=.bool true/\Inv (d++[i]) h')(Q:w.length<=2000) :
  ∀(k i:Nat),i+k=w.length->∀h,Inv ((List.range (64*i)).filter (wbit w)) h->
  Runs (go (.pt kck km7 [(0,.func (.yield l) [] []),(6,s.v),(7,.i (w.length:Int)),(8,.i (i:Int))]) h) λv h'=>v=.tup []/\Inv ((List.range (64*w.length)).filter (wbit w)) h':=by
 intro k
 induction k with
 | zero =>
  intro i hi h I;obtain rfl:i=w.length:=by omega
  rw[kw6];exact qbc (qby (by omega)) (qy ⟨rfl,I⟩)
 | succ k ih =>
  intro i hi h I;have C:i<w.length:=by omega
  obtain⟨r,U,X⟩:=(F _ _ I).rdN C;rw[kw6];refine qbb (qbx (by omega)) (qz U (qz X ?_));refine kbmd K A Q C _ _ ((F _ _ I).lt _ (qb3 C)) rfl _ h ?_ I λh' H=>?_
  ·have h1:=List.length_filter_le (wbit w) (List.range (64*i));have Y:=List.length_filter_le w[i].testBit (List.range 64);rw[qcl]at h1 Y;show _+((List.range 64).filter _).length<=_;omega
  rw[<- k8e C]at H;exact ih (i+1) (by omega) h' H
end
noncomputable def aNote(st:LoopState)(b:Nat)(g:AV):ABlk:=kvb kvx ke1 0 st none [(0,nV),(1,g),(2,.p (.new b 0)),(4,nV),(6,g)]
structure Coll(h0:AH)(b l:Nat)(g:AV)(d:List Nat)(h:AH):Prop where
 grow:Grow h0 h
 note:h.blks[l]?=some (aNote .ready b g)
 out:∃(t:Sl)(j:Option Nat),h.has b [t.v] kbx/\LeO (l+1) j/\GF EI T.int h Fp.no t j (zs d)
theorem ksd{m n:Nat}(h:m<n):∀{j:Option Nat},LeO n j->∀k,j=some k->k≠m
 | some x,l,k,e=>by cases e;have:n<=x:=l;omega
theorem kbf4{h0 h:AH}{b l:Nat}{g:AV}{d:List Nat}(hb:h0.blks.size<=b)(aa:b<l)(I:Coll h0 b l g d h)(hd:d.length<900000)(i:Nat):Runs (go (.round l [.i (i:Int)]) h) λv h'=>v=.bool true/\Coll h0 b l g (d++[i]) h':=by
 obtain⟨G,K,t,j,B,Q,V⟩:=I;have hl:l<h.blks.size:=(qcd.1 K).1;rw[kbh3 l none _ _ _ _ _ _ _ K,kbel (h:=h) K,qbt];generalize Z:h.setBlk l _=h1;have H:Upd h h1 l:=by rw[<- Z];exact AH.setBlk_Upd _
 have n1:h1.blks[l]?=some (aNote .busy b g):=by rw[<- Z];exact AH.setBlk_get hl
 have B1:h1.has b [t.v] kbx:=B.updr (by omega) H;have V1:GF EI T.int h1 Fp.no t j (zs d):=V.upd H qbm (ksd (Nat.lt_succ_self l) Q);refine qz (B1.rd0 rfl qco) ?_;refine q0 λA b2 C=>?_;refine qz (kcc b2 (by rw[kew];rfl)) ?_;obtain⟨t',F,e3,V3,u3⟩:=(V1.grow C).push (T:=Fp.no) (cs:=[.i (i:Int)]) (x:=(i:Int)) rfl qbn (kk3 (by rw[zs_len];omega));refine qz e3 (qz qco ?_);have m3:Md (Fp.opt j) A F:=u3.md λk e=>e;have no:∀{m:Nat},m<=l->¬Fp.opt j m:=λhm e=>ksd (Nat.lt_succ_of_le hm) Q _ e rfl;have B3:F.has b [t.v] kbx:=m3.has (C.has B1) (no (by omega));have n3:F.blks[l]?=some (aNote .busy b g):=m3.get ((C.blk l (qcd.1 n1).1).trans n1) (no (qbp _));refine qba B3 rfl λU B4 X=>?_;have n4:U.blks[l]?=some (aNote .busy b g):=(X.blk l (by omega) (qcd.1 n3).1).trans n3;rw[kbfh n4];have Y:Upd U (U.setBlk l (aNote .ready b g)) l:=AH.setBlk_Upd _;have hs:h.blks.size<=A.blks.size:=qbq H.size C.size;refine qy ⟨rfl,?_,AH.setBlk_get (qcd.1 n4).1,t',some A.blks.size,B4.updr (by omega) Y,show l+1<=A.blks.size by omega,?_⟩
 ·have G2:Grow h0 A:=(G.updr (by omega) H).trans C;have G3:Grow h0 F:=G2.updo (LeO.trans (by omega) Q) u3;exact(G3.updr hb X).updr (by omega) Y
 ·rw[zs_app];have V4:GF EI T.int F Fp.no t' (some A.blks.size) (zs d++[(i:Int)]):=V3.mono (λj x=>x.1.elim id id) qbn;have:=(V4.upd X qbm λk e=>by cases e;omega).upd Y qbm λk e=>by cases e;omega
  exact this
section
variable{h0:AH}{s:Sl}{w:List Nat}{n:Int}
theorem kxb(T0:Tab h0)(N:Nats h0 s w):Runs (go (.fn kpt [.agg [.i n,s.v]]) h0) λv h'=>Grow h0 h'/\∃(t':Sl)(C:Option Nat),v=t'.v/\LeO h0.blks.size C/\GF EI T.int h' Fp.no t' C (zs (btL n w)):=by
 rw[k5r];refine q0 λh1 b1 g1=>qcr b1 0 rfl (qcq b1 1 rfl ?_);refine(klo (N.grow g1)).call λv F ⟨e,X⟩=>?_;subst e;refine qz (seen rfl) ?_;cases hR:btR n w with
 | false =>
  refine qbb rfl (qy ⟨g1.trans X,_,none,rfl,trivial,?_⟩);unfold btL;rw[hR];exact GF.none _ _ _ _
 | true =>
  obtain⟨ac,ad,Q,U⟩:=btR_n hR;refine qbc rfl (qcr (X.has b1) 0 rfl (qcq (X.has b1) 1 rfl ?_))
  have k0:Runs (go (.fn ktg [.agg [.i n,s.v]]) F) λv h'=>v=.func (.func kck) [] [.p (.new F.blks.size 0)]/\h'.has F.blks.size [.i n,s.v] kbe/\Grow F h':=by rw[k8v];exact q0 λA b3 g3=>qy ⟨rfl,b3,g3⟩
  refine k0.call λv A ⟨e,b3,g3⟩=>?_;subst e;have Y:Grow h0 A:=(g1.trans X).trans g3
  have key:Runs (go (.fn ke1 [nV,.func (.func kck) [] [.p (.new F.blks.size 0)]]) A) λv h'=>Grow A h'/\∃(t':Sl)(C:Option Nat),v=t'.v/\LeO A.blks.size C/\GF EI T.int h' Fp.no t' C (zs (btL n w)):=by
   rw[kber];refine q0 λH b4 g4=>?_;rw[kbix,kbie];refine Runs.newM λZ hb g5=>?_;rw[kbcc];generalize ae:(AV.func (.func kck) [] [AV.ptr (some (Ref.new F.blks.size 0))])=gv at hb;have s4:A.blks.size<H.blks.size:=b4.lt;have aa:Z.has F.blks.size [.i n,s.v] kbe:=g5.has (g4.has b3);have I0:Coll A A.blks.size H.blks.size gv [] Z:=⟨g4.trans g5,hb,_,none,g5.has b4,trivial,GF.none _ _ _ _⟩;have N3:Nats A s w:=N.grow Y;have T3:Tab A:=T0.grow Y
   have k1:Runs (go (.fn kck [.func (.yield H.blks.size) [] [],.p (.new F.blks.size 0)]) Z) λv h'=>v=.tup []/\Coll A A.blks.size H.blks.size gv ((List.range (64*w.length)).filter (wbit w)) h':=by rw[k8c];refine qcq aa 1 rfl ?_;rw[N.len];exact k86 (Inv:=Coll A A.blks.size H.blks.size gv) (λd h I=>T3.grow I.grow) (λd h I=>N3.grow I.grow) (λd i h I hi hd=>kbf4 (qbp _) s4 I (by omega) i) (by omega) w.length 0 (by omega) Z (by simpa using I0)
   refine k1.call λv h6 ⟨e,I⟩=>?_;obtain⟨G,hn,t,j,B,K,V⟩:=I;rw[kbey hn,qbt];rw[k7n];have hl:=(qcd.1 hn).1;have u6:Upd h6 (h6.setBlk H.blks.size .dead) H.blks.size:=AH.setBlk_Upd _;refine qz ((B.updr (by omega) u6).rd0 rfl qco) (qy ⟨G.updr (by omega) u6,t,j,rfl,LeO.trans (by omega) K,?_⟩)
   have e:btL n w=(List.range (64*w.length)).filter (wbit w):=by
    unfold btL;rw[hR,if_pos rfl];obtain⟨z,rfl⟩:∃z:Nat,n=(z:Int):=⟨n.toNat,by omega⟩;rw[Int.toNat_natCast]at Q U|-;obtain⟨q,hq⟩:∃q,64*w.length=z+q:=⟨64*w.length-z,by omega⟩;rw[hq,List.range_add,List.filter_append]
    have:((List.range q).map (z + ·)).filter (wbit w)=[]:=List.filter_eq_nil_iff.2 λx hx=>by rw[List.mem_map]at hx;obtain⟨y,hy,rfl⟩:=hx;rw[qcm]at hy;rw[U (z+y) (by omega) (by omega)];simp
    rw[this,List.append_nil]
   rw[e];exact V.upd u6 qbm (ksd (Nat.lt_succ_self _) K)
  have k2:Runs (go (.fn kvi [.func (.func kck) [] [.p (.new F.blks.size 0)]]) A) λv h'=>Grow A h'/\∃(t':Sl)(C:Option Nat),v=t'.v/\LeO A.blks.size C/\GF EI T.int h' Fp.no t' C (zs (btL n w)):=by rw[kbgs];refine key.call λv h' ⟨g,t',C,e,K,V⟩=>?_;subst e;exact qz (seen qco) (qy ⟨g,t',C,rfl,K,V⟩)
  refine k2.call λv h' ⟨g,t',C,e,K,V⟩=>?_;subst e;exact qz (seen qco) (qy ⟨Y.trans g,t',C,rfl,LeO.trans Y.size K,V⟩)
end
theorem kmm{w:List Nat}{i x:Nat}(hi:i<w.length)(j:Nat):wbit (w.set i x) j=if j/64=i then x.testBit (j%64)else wbit w j:=by
 unfold wbit;split
 ·rename_i h;rw[h];have:(w.set i x).getD i 0=x:=by simp[List.getD,hi]
  rw[this]
 ·rename_i h
  have:(w.set i x).getD (j/64) 0=w.getD (j/64) 0:=by simp only[List.getD];rw[List.getElem?_set_ne (by omega)]
  rw[this]
theorem koc{w:List Nat}{j:Nat}(h:w.length<=j/64):wbit w j=false:=by
 unfold wbit;have:w.getD (j/64) 0=0:=by simp[List.getD,h]
 rw[this];exact Nat.zero_testBit _
section
variable{h0:AH}{S:Fp}{s:Sl}
theorem kbep{xs:List Int}(n:Sq EI h0 S s xs){b:Nat}{z:Int}{e:TypeId}(F:h0.has b [.i z] e):Runs (go (.fn keg [s.v,.func (.func kd6) [] [.p (.new b 0)]]) h0) λv h'=>v=.bool (xs.any λx=>decide (x<0)||decide (x>=z))/\Grow h0 h':=by
 rw[kbd2];refine Runs.contains (xs:=xs) ?_;rw[kbjy,n.len];refine ko0 (n:=xs.length) (G:=λy h=>go (.pt kbz kcy [(0,s.v),(1,.func (.func kd6) [] [.p (.new b 0)]),(7,.i (xs.length:Int)),(8,.i y)]) h) (λi h P hi g A C=>?_) (λh g=>?_) xs.length 0 (by omega) (ql h0) (λj U=>by omega)
 ·obtain⟨r,H,I⟩:=(n.grow g).int hi;rw[qb4 hi]at A C;simp only[Option.any_some]at A C;show Runs (go _ _) _;rw[kyr];refine qbb (qbx (by omega)) (qz H (qz I ?_))
  have key:Runs (go (.fn kd6 [.i xs[i],.p (.new b 0)]) h) λv h'=>v=.bool (decide (xs[i]<0)||decide (xs[i]>=z))/\h'=h:=by
   rw[k92];cases decide (xs[i]<0)
   ·refine qbc rfl (qz rfl (qz ((g.has F).rd0 rfl qcp) ?_));exact qy ⟨rfl,rfl⟩
   ·exact qy ⟨rfl,rfl⟩
  refine key.call λv h' ⟨K,Q⟩=>?_;subst K;subst Q;refine qz (seen rfl) ?_;rw[kj (by have:=n.short;omega)];exact qbd (λc=>qy (A _ g c)) λc=>C _ g c
 ·rw[kyr,condF (qby (by omega))]
theorem k6t{l:List Nat}{n:Nat}(q:Sq EI h0 S s (zs l))(hl:∀x∈l,x<n)(hn:n<=65536){b c i:Nat}{t:Sl}(hb:h0.blks.size<=b)(X:c≠i)(ad:b≠c)(I:b≠i)(hi:h0.blks.size<=i):∀(k j:Nat),j+k=l.length->∀(h:AH)(w:List Nat),Grow h0 h->(∃cs:List AV,cs.length=2/\h.has b cs kbe)->h.has c [.i (n:Int),t.v] kbe->Vec h t i w->w.length=(n+63)/64->(∀m,wbit w m=decide (m∈l.take j))->
  Runs (go (.pt kio kqc [(4,.p (.new b 0)),(6,.p (.new c 0)),(23,s.v),(24,.i (l.length:Int)),(25,.i (j:Int))]) h) λv h'=>Grow h0 h'/\∃(t:Sl)(w:List Nat),v=.tup [.agg [.i (n:Int),t.v],.i 0]/\Nats h' t w/\w.length=(n+63)/64/\Own h0 t/\∀m,wbit w m=decide (m∈l):=by
 intro k
 induction k with
 | zero =>
  intro j hj h w g ⟨cs,A,B⟩ C V Y Z;obtain rfl:j=l.length:=by omega
  rw[k3u];refine qbc (qby (by omega)) (qcr C 0 rfl (qcq C 1 rfl ?_));refine qba B (by rw[A];rfl) λh1 B1 H=>?_;refine qcr B1 0 rfl (qcq B1 1 rfl (qy ⟨g.updr hb H,t,w,rfl,(V.updr (λe=>I e.symm) H).nats,Y,V.own hi,λm=>?_⟩));rw[Z,List.take_length]
 | succ k ih =>
  intro j hj h w g hB C V Y Z;have aa:j<(zs l).length:=by rw[zs_len];omega
  obtain⟨r,e1,e2⟩:=(q.grow g).int aa;have hx:(zs l)[j]=((l[j]'(by omega):Nat):Int):=by simp[zs]
  have K:j<l.length:=by omega
  have ae:l[j]<n:=hl _ (qb3 K);have F:l[j]/64<w.length:=by omega
  rw[k3u];refine qbb (qbx (by omega)) (qz e1 (qz e2 ?_));rw[hx];refine qcq C 1 rfl ?_;rw[show Int.tdiv ((l[j]:Nat):Int) 64=((l[j]/64:Nat):Int)from rfl,wrap64 (by omega) (by omega),show Int.tmod ((l[j]:Nat):Int) 64=((l[j]%64:Nat):Int)from rfl,V.len];refine qz (V.idx rfl (kbi F)) (qz (V.rd rfl (kbi F) qcp) (qbc (qby (by omega)) (qz (V.idx rfl (kbi F)) ?_)));have Q:w[l[j]/64]<18446744073709551616:=V.lt _ (qb3 F);have U:2^(l[j]%64)<2^64:=Nat.pow_lt_pow_right (by decide) (by omega);have ac:w.getD (l[j]/64) 0=w[l[j]/64]:=by simp[List.getD,F]
  rw[ac,k2t (by omega),or_nat Q U];refine qbh V rfl (kbi F) (kbt (Nat.or_lt_two_pow (n:=64) Q U)) λh1 V1 H=>?_;rw[kj (by have:=q.short;rw[zs_len]at this;omega)];obtain⟨cs,A,B⟩:=hB;refine ih (j+1) (by omega) h1 _ (g.updr hi H) ⟨cs,A,B.updr I H⟩ (C.updr X H) V1 (by rw[qb7];exact Y) λm=>?_;rw[kbc5 F,Z,qch K,Bool.eq_iff_iff];simp only[qca,qbw,qb5,List.mem_singleton];exact Or.comm
theorem kbec{l:List Nat}{n:Nat}(q:Sq EI h0 S s (zs l))(Z:∀x∈l,x<n)(hn:n<=65536):Runs (go (.fn kio [.i (n:Int),s.v]) h0) λv h'=>Grow h0 h'/\∃(t:Sl)(w:List Nat),v=.tup [.agg [.i (n:Int),t.v],.i 0]/\Nats h' t w/\w.length=(n+63)/64/\Own h0 t/\∀m,wbit w m=decide (m∈l):=by
 rw[kbni];refine q0 λh1 b1 g1=>q0 λH b2 I=>qz ((I.has b1).rd0 rfl qcp) ?_;refine(kr4 hn).call λv K ⟨Q,t,i,e,hi,V⟩=>?_;subst e;refine qz rfl (qz rfl (qbb rfl (qz rfl (qz (seenAt rfl qco) (qz rfl ?_)))));dsimp only;refine q0 λh4 b4 U=>qba b4 rfl λh5 b5 X=>qbc rfl ?_;have s1:h0.blks.size<h1.blks.size:=b1.lt;have s2:h1.blks.size<H.blks.size:=b2.lt;have s3:i<K.blks.size:=V.inn;have s4:H.blks.size<=K.blks.size:=Q.size;have G4:Grow h0 h4:=(((g1.trans I).trans Q).trans U);have G5:Grow h0 h5:=G4.updr (by have:=G4.size;omega) X;have A:Grow H h5:=(Q.trans U).updr (by omega) X;refine(kbep (q.grow G5) (A.has (I.has b1))).call λv h6 ⟨e,F⟩=>?_;subst e
 have C:((zs l).any λx=>decide (x<0)||decide (x>=(n:Int)))=false:=by rw[List.any_eq_false];intro x Y;unfold zs at Y;rw[List.mem_map]at Y;obtain⟨y,hy,rfl⟩:=Y;have:=Z y hy;simp;omega
 rw[C];refine qz (seen rfl) (qbc rfl ?_);rw[q.len,zs_len];have V6:Vec h6 t i (List.replicate ((n+63)/64) 0):=((V.grow U).updr (by omega) X).grow F;exact k6t q Z hn (b:=h1.blks.size) (c:=K.blks.size) (i:=i) (by omega) (by omega) (by omega) (by omega) (by omega) l.length 0 (by omega) h6 _ (G5.trans F) ⟨_,rfl,F.has (A.has b2)⟩ (F.has b5) V6 (by simp) (λm=>by rw[kbck];simp)
end
end Go.Ab
set_option maxRecDepth 10000
namespace Go.Ab
open Go.Proofs
section
variable{h0:AH}{s1 s2:Sl}{w1 w2:List Nat}{n1 n2:Int}
theorem kbg2(N1:Nats h0 s1 w1)(N2:Nats h0 s2 w2)(hl:w1.length=w2.length)(hs:w1.length<=2000){b1 b2 b3 b4 i:Nat}{t:Sl}{x1 x2:Int}(i1:b1≠i)(i2:b2≠i)(i3:b3≠i)(i4:b4≠i)(h3:h0.blks.size<=b3)(hi:h0.blks.size<=i):∀(k j:Nat),j+k=w1.length->∀(h:AH)(w:List Nat),Grow h0 h->h.has b1 [.i x1,s1.v] kbe->h.has b2 [.i x2,s2.v] kbe->(∃cs:List AV,cs.length=2/\h.has b3 cs kbe)->h.has b4 [.i n1,t.v] kbe->Vec h t i w->w.length=w1.length->(∀m,m/64<j->wbit w m=(wbit w1 m&&wbit w2 m))->
  Runs (go (.pt kdg kg4 [(2,.func (.func kgg) [] []),(3,.p (.new b1 0)),(4,.p (.new b2 0)),(6,.p (.new b3 0)),(8,.p (.new b4 0)),(9,.i 0),(35,.i (w1.length:Int)),(36,.i (j:Int))]) h) λv h'=>Grow h0 h'/\∃(t:Sl)(w:List Nat),v=.tup [.agg [.i n1,t.v],.i 0]/\Nats h' t w/\w.length=w1.length/\Own h0 t/\∀m,wbit w m=(wbit w1 m&&wbit w2 m):=by
 intro k
 induction k with
 | zero =>
  intro j hj h w g B1 B2 ⟨cs,C,H⟩ F V I K;obtain rfl:j=w1.length:=by omega
  rw[k07];refine qbc (qby (by omega)) (qcr F 0 rfl (qcq F 1 rfl ?_));refine qba H (by rw[C];rfl) λh1 B5 A=>?_;refine qcr B5 0 rfl (qcq B5 1 rfl (qy ⟨g.updr h3 A,t,w,rfl,(V.updr (λe=>i3 e.symm) A).nats,I,V.own hi,λm=>?_⟩));rcases Nat.lt_or_ge (m/64) w1.length with h' | h'
  ·exact K m h'
  ·rw[koc (by omega),koc (w:=w1) h'];rfl
 | succ k ih =>
  intro j hj h w g B1 B2 ⟨cs,C,H⟩ F V I K;have Q:j<w1.length:=by omega
  have U:j<w2.length:=by omega
  obtain⟨r1,e1,e2⟩:=(N1.grow g).rdN Q;obtain⟨r2,e3,e4⟩:=(N2.grow g).rdN U;rw[k07];refine qbb (qbx (by omega)) (qcq F 1 rfl (qcq B1 1 rfl (qz e1 (qz e2 (qcq B2 1 rfl (qz e3 (qz e4 ?_)))))));have a1:w1[j]<18446744073709551616:=N1.lt _ (qb3 Q);have a2:w2[j]<18446744073709551616:=N2.lt _ (qb3 U);refine qz (kbek _ _ _) (qz (seen rfl) ?_);rw[kuh a1 a2];refine qbe ((ql h).same F 1 1) ?_;rw[V.len];have X:j<w.length:=by omega
  have Y:w1[j]&&&w2[j]<18446744073709551616:=qbs Nat.and_le_left a1;refine qz (V.idx rfl (kbi X)) (qbh V rfl (kbi X) (kbt Y) λh1 V1 A=>?_);rw[kj (by omega)];refine ih (j+1) (by omega) h1 _ (g.updr hi A) (B1.updr i1 A) (B2.updr i2 A) ⟨cs,C,H.updr i3 A⟩ (F.updr i4 A) V1 (by rw[qb7];exact I) λm aa=>?_;rw[kmm X];split
  ·rename_i Z;subst Z;rw[Nat.testBit_and];unfold wbit;simp[List.getD,Q,U]
  ·exact K m (by omega)
end
end Go.Ab
set_option maxRecDepth 10000
namespace Go.Ab
open Go.Proofs
theorem ke2{t:Tb}(h:tabR t=true):t.ids.length<=256/\t.cols.length<=16/\t.bins.length=t.cols.length/\∀i,i<t.cols.length->colR t i=true:=by unfold tabR idsR at h;simp only[qb9,qbw,List.all_eq_true,qcm,qci,qbv]at h;exact⟨h.1.1.1.1,by omega,h.1.2,h.2⟩
theorem kfj{t:Tb}{i:Nat}(h:colR t i=true)(hi:i<t.cols.length)(C:t.bins.length=t.cols.length):∃A:i<t.bins.length,2<=t.bins[i]/\t.bins[i]<=32/\t.cols[i].length=t.ids.length:=by
 unfold colR at h;have A:i<t.bins.length:=by omega
 simp only[qb9,qbw,qci,qbv,List.getD,qb4 hi,qb4 A,Option.getD_some]at h;exact⟨A,by omega,by omega,h.1.2⟩
def leftP(t:Tb)(f:Nat)(c:Int)(i:Nat):Bool:=decide ((t.cols.getD f []).getD i 0<=c)
def leftR(t:Tb)(f:Nat)(c:Int):List Nat:=(List.range t.ids.length).filter (leftP t f c)
section
variable{h0:AH}{S:Fp}{s1 s2 s3:Sl}{t:Tb}
theorem kbho{s:Sl}{f:Nat}{c:Int}(hf:f<t.cols.length)(Y:t.cols[f].length=t.ids.length)(Z:t.ids.length<=256)(q:Sq EI h0 S s t.cols[f]){b1 b2:Nat}{cs2:List AV}(n1:Sq EI h0 S s1 t.ids)(B1:h0.has b1 [s1.v,s2.v,s3.v] kcb)(B2:h0.has b2 [.i 0,nV] kbe){F:AH}(ga:Grow F h0)(H:F.blks.size<=b2):∀(k i:Nat),i+k=t.ids.length->∀(h:AH)(x:Sl)(j:Option Nat),Grow h0 h->LeO h0.blks.size j->GF EI T.int h Fp.no x j (zs ((List.range i).filter (leftP t f c)))->
  Runs (go (.pt khn kmo [(2,.i c),(3,.p (.new b1 0)),(6,.p (.new b2 0)),(8,x.v),(44,s.v),(45,.i (t.ids.length:Int)),(46,.i (i:Int))]) h) λv h'=>Grow F h'/\∃(y:Sl)(w:List Nat),v=.tup [.agg [.i (t.ids.length:Int),y.v],.i 0]/\Nats h' y w/\Own F y/\w.length=(t.ids.length+63)/64/\∀m,wbit w m=decide (m∈leftR t f c):=by
 intro k
 induction k with
 | zero =>
  intro i hi h x j g I V;obtain rfl:i=t.ids.length:=by omega
  rw[kw0];refine qbc (qby (by omega)) (qcq (g.has B1) 0 rfl ?_);rw[n1.len];refine(kbec (S:=Fp.or (Fp.opt j) Fp.no) (l:=leftR t f c) (n:=t.ids.length) V.sq (λy K=>?_) (by omega)).call λv h1 ⟨g1,y,w,e,N,hw,o,hm⟩=>?_
  ·unfold leftR at K;rw[qck,qcm]at K;exact K.1
  subst e;refine qz rfl (qz rfl (qbb rfl (qz rfl (qz (seenAt rfl qco) (qz rfl ?_)))));dsimp only;have Q:=(g.has B2).lt;refine qba (g1.has (g.has B2)) rfl λh2 A u2=>qcr A 0 rfl (qcq A 1 rfl (qy ⟨?_,y,w,rfl,N.updr o Q u2,?_,hw,hm⟩))
  ·exact((ga.trans g).trans g1).updr H u2
  ·exact o.of_le (ga.trans g)
 | succ k ih =>
  intro i hi h x j g I V;have C:i<t.cols[f].length:=by omega
  obtain⟨r,e1,e2⟩:=(q.grow g).int C;rw[q.len,Y]at e1;rw[kw0]
  have hp:leftP t f c i=decide (t.cols[f][i]<=c):=by unfold leftP;simp[List.getD,hf,C]
  have hr:(List.range (i+1)).filter (leftP t f c)=(List.range i).filter (leftP t f c)++if leftP t f c i then [i]else []:=by rw[List.range_succ,List.filter_append];cases hq:leftP t f c i<;>simp[hq]
  have aa:(zs ((List.range i).filter (leftP t f c))).length<=i:=by rw[zs_len];exact qbq (List.length_filter_le _ _) (by simp)
  refine qbb (qbx (by omega)) ?_;rw[q.len,Y];refine qz e1 (qz e2 (qbd (λU=>?_) λU=>?_))
  ·refine q0 λh2 b2 X=>?_;refine qz (kcc b2 (by rw[kew];rfl)) ?_;have V2:=V.grow X;obtain⟨y,h3,e3,V3,u3⟩:=V2.push (T:=Fp.no) (cs:=[.i (i:Int)]) (x:=(i:Int)) rfl qbn (kk3 (by omega));refine qz e3 (qz qco ?_);rw[kj (by omega)];refine ih (i+1) (by omega) h3 y (some h2.blks.size) ((g.trans X).updo I u3) (show _<=_ from(g.trans X).size) ?_;rw[hr,hp,U,if_pos rfl,zs_app];exact V3.mono (λj x=>x.1.elim id id) qbn
  ·rw[kj (by omega)];refine ih (i+1) (by omega) h x j g I ?_;rw[hr,hp,U]
   simpa using V
theorem kbkj(n:TabAt h0 S s1 s2 s3 t)(hR:tabR t=true){f c:Nat}(K:f<t.cols.length)(hc:(c:Int)<t.bins.getD f 0):Runs (go (.fn khn [.agg [s1.v,s2.v,s3.v],.i (f:Int),.i (c:Int)]) h0) λv h'=>Grow h0 h'/\∃(y:Sl)(w:List Nat),v=.tup [.agg [.i (t.ids.length:Int),y.v],.i 0]/\Nats h' y w/\Own h0 y/\w.length=(t.ids.length+63)/64/\∀m,wbit w m=decide (m∈leftR t f (c:Int)):=by
 obtain⟨F,U,C,H⟩:=ke2 hR;obtain⟨hb,h2,ac,I⟩:=kfj (H f K) K C;rw[kbdv];refine q0 λh1 b1 X=>q0 λh2 b2 Y=>?_;have B1:=Y.has b1;refine qcq B1 0 rfl (qcq B1 1 rfl (qcq B1 2 rfl ?_));refine(ky1 (n.grow (X.trans Y))).call λv Z ⟨e,g3⟩=>?_;subst e;rw[hR];refine qz (seen rfl) (qbc rfl (qbc (qby (by omega)) ?_));have Q:Grow h0 Z:=(X.trans Y).trans g3;have A:=g3.has B1;refine qcq A 2 rfl ?_;rw[n.cols.len];refine qbc (qby (by omega)) (qbc (qby (by omega)) (qcq A 1 rfl ?_));obtain⟨r,e1,e2⟩:=(n.bins.grow Q).int hb;have aa:t.bins.getD f 0=t.bins[f]:=by simp[List.getD,hb]
 rw[aa]at hc;refine qz e1 (qz e2 (qbc (qby (by omega)) (qcq A 2 rfl ?_)));obtain⟨r2,s',e3,e4,-,q⟩:=(n.cols.grow Q).sl K;refine qz e3 (qz e4 ?_);rw[q.len,I];have ad:=b1.lt;exact kbho (cs2:=[]) K I F q ((n.grow Q).ids) A (g3.has b2) Q (by have:=X.size;omega) t.ids.length 0 (by omega) Z _ none (ql Z) trivial (GF.none _ _ _ _)
end
def nb(t:Tb)(f:Nat):Nat:=(t.bins.getD f 0).toNat-1
def cutsTo(t:Tb)(f:Nat):List (Nat×Nat):=(List.range f).flatMap λf=>(List.range (nb t f)).map λc=>(f,c)
theorem ku4(t:Tb)(f:Nat):cutsTo t (f+1)=cutsTo t f++(List.range (nb t f)).map λc=>(f,c):=by unfold cutsTo;rw[List.range_succ,List.flatMap_append];simp
theorem kqk(t:Tb):∀f:Nat,(∀i,i<f->nb t i<=31)->(cutsTo t f).length<=31*f
 | 0,_=>by simp[cutsTo]
 | f+1,h=>by rw[ku4,qb0,qb1,qcl];have:=kqk t f λi hi=>h i (by omega);have:=h f (by omega);omega
section
variable{S:Fp}{s1 s2 s3 s:Sl}{t:Tb}{n:Int}{w:List Nat}{l b1 b2:Nat}
end
@[reducible] def EP:Ef (Int×Int):=Ef.pair EI EI
theorem EP.of{h:AH}{S:Fp}(a b:Int):EP.has h S [.i a,.i b] (a,b):=⟨[.i a],[.i b],rfl,rfl,rfl⟩
section
variable{α:Type}{E:Ef α}{elem tl:TypeId}{note:LoopState->ABlk}{hs h:AH}{bo l:Nat}{xs:List α}
end
section
variable{h0:AH}{S:Fp}{s1 s2 s3:Sl}{t:Tb}
end
def sumG(g:List Int)(l:List Nat)(a:Int):Int:=l.foldl (λa i=>IntKind.wrap .i64 (a+g.getD i 0)) a
section
variable{h0:AH}{S:Fp}{s1 s2 s3 s u:Sl}{t:Tb}{n:Int}{w:List Nat}{g:List Int}
end
end Go.Ab
set_option maxRecDepth 10000
namespace Go.Ab
open Go.Proofs
section
variable{h0:AH}{S:Fp}{s1 s2 s3 s u:Sl}{t:Tb}{n:Int}{w:List Nat}{g:List Int}
end
end Go.Ab
set_option maxRecDepth 10000
namespace Go.Ab
open Go.Proofs
theorem ofP_bt{n:Nat}{w l:List Nat}(K:n<=65536)(H:∀x∈l,x<n)(I:w.length=(n+63)/64)(C:∀m,wbit w m=decide (m∈l)):btR (n:Int) w=true/\btL (n:Int) w=(List.range n).filter λi=>decide (i∈l):=by
 have A:∀i,n<=i->wbit w i=false:=λi hi=>by rw[C,qby];intro h;have:=H i h;omega
 have F:btR (n:Int) w=true:=btR_of (by omega) (by omega) (by rw[Int.toNat_natCast];exact I) λi _ hi=>A i (by rw[Int.toNat_natCast]at hi;exact hi);refine⟨F,?_⟩;unfold btL;rw[F,if_pos rfl,Int.toNat_natCast];apply List.filter_congr;intro i hi;rw[C]
section
variable{h0:AH}{S:Fp}{s s1 s2 s3:Sl}{t:Tb}
variable{w1 w2:List Nat}
end
def SetN(h0:AH)(z:Nat)(R:List Nat)(v:AV)(h':AH):Prop:=Grow h0 h'/\∃(t:Sl)(w:List Nat)(e:Int),v=.tup [.agg [.i (z:Int),t.v],.i e]/\Nats h' t w/\Own h0 t/\btR (z:Int) w=true/\btL (z:Int) w=R
def bclr(a b:Nat):Nat:=(BitVec.ofNat 64 a&&&~~~ BitVec.ofNat 64 b).toNat
theorem kz8(a b:Nat):bclr a b<18446744073709551616:=(BitVec.ofNat 64 a&&&~~~ BitVec.ofNat 64 b).isLt
theorem kbin{a b i:Nat}(hi:i<64):(bclr a b).testBit i=(a.testBit i&&!b.testBit i):=by unfold bclr;rw[BitVec.testBit_toNat,BitVec.getLsbD_and,BitVec.getLsbD_not,BitVec.getLsbD_ofNat,BitVec.getLsbD_ofNat];simp[hi]
theorem kbfm{a b:Nat}:kk8 .u64 (a:Int) (b:Int)=((bclr a b:Nat):Int):=by unfold kk8;rw[show IntKind.bits .u64=64 from rfl,wrapU];have A:BitVec.ofInt 64 (a:Int)=BitVec.ofNat 64 a:=rfl;have C:BitVec.ofInt 64 (b:Int)=BitVec.ofNat 64 b:=rfl;rw[A,C];have:=kz8 a b;unfold bclr at this|-;omega
section
variable{h0:AH}{s1 s2:Sl}{w1 w2:List Nat}
theorem kbmr{n1:Int}(N1:Nats h0 s1 w1)(N2:Nats h0 s2 w2)(hl:w1.length=w2.length)(hs:w1.length<=2000){b1 b2 b3 b4 i:Nat}{t:Sl}{x1 x2:Int}(i1:b1≠i)(i2:b2≠i)(X:b3≠i)(i4:b4≠i)(h3:h0.blks.size<=b3)(hi:h0.blks.size<=i):∀(k j:Nat),j+k=w1.length->∀(h:AH)(w:List Nat),Grow h0 h->h.has b1 [.i x1,s1.v] kbe->h.has b2 [.i x2,s2.v] kbe->(∃cs:List AV,cs.length=2/\h.has b3 cs kbe)->h.has b4 [.i n1,t.v] kbe->Vec h t i w->w.length=w1.length->(∀m,m/64<j->wbit w m=(wbit w1 m&&!wbit w2 m))->
  Runs (go (.pt kdg kg4 [(2,.func (.func kgp) [] []),(3,.p (.new b1 0)),(4,.p (.new b2 0)),(6,.p (.new b3 0)),(8,.p (.new b4 0)),(9,.i 0),(35,.i (w1.length:Int)),(36,.i (j:Int))]) h) λv h'=>Grow h0 h'/\∃(t:Sl)(w:List Nat),v=.tup [.agg [.i n1,t.v],.i 0]/\Nats h' t w/\w.length=w1.length/\Own h0 t/\∀m,wbit w m=(wbit w1 m&&!wbit w2 m):=by
 intro k
 induction k with
 | zero =>
  intro j hj h w g B1 B2 ⟨cs,C,H⟩ F V I K;obtain rfl:j=w1.length:=by omega
  rw[k4t];refine qbc (qby (by omega)) (qcr F 0 rfl (qcq F 1 rfl ?_));refine qba H (by rw[C];rfl) λh1 Y A=>?_;refine qcr Y 0 rfl (qcq Y 1 rfl (qy ⟨g.updr h3 A,t,w,rfl,(V.updr (λe=>X e.symm) A).nats,I,V.own hi,λm=>?_⟩));rcases Nat.lt_or_ge (m/64) w1.length with h' | h'
  ·exact K m h'
  ·rw[koc (by omega),koc (w:=w1) h'];rfl
 | succ k ih =>
  intro j hj h w g B1 B2 ⟨cs,C,H⟩ F V I K;have Z:j<w1.length:=by omega
  have j2:j<w2.length:=by omega
  obtain⟨r1,e1,e2⟩:=(N1.grow g).rdN Z;obtain⟨r2,e3,e4⟩:=(N2.grow g).rdN j2;rw[k4t];refine qbb (qbx (by omega)) (qcq F 1 rfl (qcq B1 1 rfl (qz e1 (qz e2 (qcq B2 1 rfl (qz e3 (qz e4 ?_)))))));refine qz (kbl5 _ _ _) (qz (seen rfl) ?_);rw[kbfm];refine qbe ((ql h).same F 1 1) ?_;rw[V.len];have Q:j<w.length:=by omega
  refine qz (V.idx rfl (kbi Q)) (qbh V rfl (kbi Q) (kbt (kz8 _ _)) λh1 V1 A=>?_);rw[kj (by omega)];refine ih (j+1) (by omega) h1 _ (g.updr hi A) (B1.updr i1 A) (B2.updr i2 A) ⟨cs,C,H.updr X A⟩ (F.updr i4 A) V1 (by rw[qb7];exact I) λm aa=>?_;rw[kmm Q];split
  ·rename_i U;subst U;rw[kbin (Nat.mod_lt _ (by decide))];unfold wbit;simp[List.getD,Z,j2]
  ·exact K m (by omega)
theorem and_ok{z:Nat}(N1:Nats h0 s1 w1)(N2:Nats h0 s2 w2)(c:btR (z:Int) w1=true)(c2:btR (z:Int) w2=true):Runs (go (.fn kdg [.agg [.i (z:Int),s1.v],.agg [.i (z:Int),s2.v],.func (.func kgg) [] []]) h0) (SetN h0 z ((btL (z:Int) w1).filter (wbit w2))):=by
 rw[k5u];refine q0 λh1 b1 g1=>q0 λQ b2 g2=>q0 λF b3 U=>?_;have B1:=U.has (g2.has b1);have B2:=U.has b2;have X:Grow h0 F:=(g1.trans g2).trans U;have ac:h0.blks.size<h1.blks.size:=b1.lt;have ad:h1.blks.size<Q.blks.size:=b2.lt;have ae:Q.blks.size<F.blks.size:=b3.lt;refine qcr B1 0 rfl (qcq B1 1 rfl ?_);refine(klo (N1.grow X)).call λv h4 ⟨e,Y⟩=>?_;subst e;refine qz (seen rfl) (qbc (by rw[c];rfl) ?_);have H:=Y.has B2;refine qcr H 0 rfl (qcq H 1 rfl ?_);refine(klo (N2.grow (X.trans Y))).call λv I ⟨e,g5⟩=>?_;subst e;have A:Grow F I:=Y.trans g5;refine qz (seen rfl) (qbc (by rw[c2];rfl) ?_);refine qcr (A.has B1) 0 rfl (qcr (A.has B2) 0 rfl (qbc (by rw[qbx rfl];rfl) ?_));obtain⟨p0,p1,p2,p3⟩:=btR_n c;obtain⟨-,-,q2,q3⟩:=btR_n c2;rw[Int.toNat_natCast]at p2 q2 p3 q3;refine qcr (A.has B1) 0 rfl ?_;refine(kr4 (n:=z) (by omega)).call λv Z ⟨g6,t,i,e,hi,V⟩=>?_;have hi:I.blks.size<=i:=hi;subst e;refine qz rfl (qz rfl (qbb rfl (qz rfl (qz (seenAt rfl qco) (qz rfl ?_)))));dsimp only;refine q0 λh7 b7 g7=>qba b7 rfl λh8 b8 u8=>qcq b8 1 rfl ?_;have s6:i<Z.blks.size:=V.inn;have s5:F.blks.size<=I.blks.size:=A.size;have af:I.blks.size<=Z.blks.size:=g6.size;have C:Grow F h8:=((A.trans g6).trans g7).updr (by omega) u8;have V8:Vec h8 t i (List.replicate ((z+63)/64) 0):=(V.grow g7).updr (by omega) u8;rw[V8.len,qb8,<- p2];have:=kbg2 (n1:=(z:Int)) (x1:=(z:Int)) (x2:=(z:Int)) N1 N2 (by omega) (by omega) (b1:=h0.blks.size) (b2:=h1.blks.size) (b3:=Q.blks.size) (b4:=Z.blks.size) (i:=i) (t:=t) (by omega) (by omega) (by omega) (by omega) (by omega) (by omega) w1.length 0 (by omega) h8 _ (X.trans C) (C.has B1) (C.has B2) ⟨_,rfl,C.has b3⟩ b8 V8 (by rw[qb8,p2]) (λm K=>absurd K (Nat.not_lt_zero _));refine this.imp λv h' ⟨g,t',w,e,N,hw,o,K⟩=>⟨g,t',w,0,e,N,o,?_⟩
 have hR:btR (z:Int) w=true:=btR_of p0 p1 (by rw[Int.toNat_natCast];omega) λm ag aa=>by rw[K,p3 m (by omega) aa];rfl
 refine⟨hR,?_⟩;unfold btL;rw[hR,c,Int.toNat_natCast];simp only[if_true,List.filter_filter];apply List.filter_congr;intro x _;rw[K,Bool.and_comm]
theorem kbe5{z:Nat}(U:Nats h0 s1 w1)(X:Nats h0 s2 w2)(c:btR (z:Int) w1=true)(Y:btR (z:Int) w2=true):Runs (go (.fn kty [.agg [.i (z:Int),s1.v],.agg [.i (z:Int),s2.v]]) h0) (SetN h0 z ((btL (z:Int) w1).filter (wbit w2))):=by rw[kbhc];refine q0 λh1 b1 Z=>q0 λh2 b2 F=>q0 λh3 b3 C=>?_;have B1:=C.has (F.has b1);have B2:=C.has b2;have A:Grow h0 h3:=(Z.trans F).trans C;refine qcr B1 0 rfl (qcq B1 1 rfl (qcr B2 0 rfl (qcq B2 1 rfl ?_)));refine(and_ok (U.grow A) (X.grow A) c Y).call λv h4 ⟨H,t,w,e,he,N,I,hr,hb⟩=>?_;subst he;refine qz rfl (qz rfl (qbb rfl (qz rfl (qz (seenAt rfl qco) (qz rfl ?_)))));dsimp only;have s1:h0.blks.size<h1.blks.size:=b1.lt;have s2:h1.blks.size<h2.blks.size:=b2.lt;refine qba (H.has b3) rfl λh5 K Q=>qcr K 0 rfl (qcq K 1 rfl (qy ⟨(A.trans H).updr (by omega) Q,t,w,e,rfl,N.updr I b3.lt Q,I.of_le A,hr,hb⟩))
theorem kbdp{z:Nat}(N1:Nats h0 s1 w1)(N2:Nats h0 s2 w2)(c:btR (z:Int) w1=true)(c2:btR (z:Int) w2=true):Runs (go (.fn kdg [.agg [.i (z:Int),s1.v],.agg [.i (z:Int),s2.v],.func (.func kgp) [] []]) h0) (SetN h0 z ((btL (z:Int) w1).filter λi=>!wbit w2 i)):=by
 rw[kbbr];refine q0 λh1 b1 g1=>q0 λQ b2 g2=>q0 λF b3 U=>?_;have B1:=U.has (g2.has b1);have B2:=U.has b2;have X:Grow h0 F:=(g1.trans g2).trans U;have ac:h0.blks.size<h1.blks.size:=b1.lt;have ad:h1.blks.size<Q.blks.size:=b2.lt;have ae:Q.blks.size<F.blks.size:=b3.lt;refine qcr B1 0 rfl (qcq B1 1 rfl ?_);refine(klo (N1.grow X)).call λv h4 ⟨e,Y⟩=>?_;subst e;refine qz (seen rfl) (qbc (by rw[c];rfl) ?_);have H:=Y.has B2;refine qcr H 0 rfl (qcq H 1 rfl ?_);refine(klo (N2.grow (X.trans Y))).call λv I ⟨e,g5⟩=>?_;subst e;have A:Grow F I:=Y.trans g5;refine qz (seen rfl) (qbc (by rw[c2];rfl) ?_);refine qcr (A.has B1) 0 rfl (qcr (A.has B2) 0 rfl (qbc (by rw[qbx rfl];rfl) ?_));obtain⟨p0,p1,p2,p3⟩:=btR_n c;obtain⟨-,-,q2,q3⟩:=btR_n c2;rw[Int.toNat_natCast]at p2 q2 p3 q3;refine qcr (A.has B1) 0 rfl ?_;refine(kr4 (n:=z) (by omega)).call λv Z ⟨g6,t,i,e,hi,V⟩=>?_;have hi:I.blks.size<=i:=hi;subst e;refine qz rfl (qz rfl (qbb rfl (qz rfl (qz (seenAt rfl qco) (qz rfl ?_)))));dsimp only;refine q0 λh7 b7 g7=>qba b7 rfl λh8 b8 u8=>qcq b8 1 rfl ?_;have s6:i<Z.blks.size:=V.inn;have s5:F.blks.size<=I.blks.size:=A.size;have af:I.blks.size<=Z.blks.size:=g6.size;have C:Grow F h8:=((A.trans g6).trans g7).updr (by omega) u8;have V8:Vec h8 t i (List.replicate ((z+63)/64) 0):=(V.grow g7).updr (by omega) u8;rw[V8.len,qb8,<- p2];have:=kbmr (n1:=(z:Int)) (x1:=(z:Int)) (x2:=(z:Int)) N1 N2 (by omega) (by omega) (b1:=h0.blks.size) (b2:=h1.blks.size) (b3:=Q.blks.size) (b4:=Z.blks.size) (i:=i) (t:=t) (by omega) (by omega) (by omega) (by omega) (by omega) (by omega) w1.length 0 (by omega) h8 _ (X.trans C) (C.has B1) (C.has B2) ⟨_,rfl,C.has b3⟩ b8 V8 (by rw[qb8,p2]) (λm K=>absurd K (Nat.not_lt_zero _));refine this.imp λv h' ⟨g,t',w,e,N,hw,o,K⟩=>⟨g,t',w,0,e,N,o,?_⟩
 have hR:btR (z:Int) w=true:=btR_of p0 p1 (by rw[Int.toNat_natCast];omega) λm ag aa=>by rw[K,p3 m (by omega) aa];rfl
 refine⟨hR,?_⟩;unfold btL;rw[hR,c,Int.toNat_natCast];simp only[if_true,List.filter_filter];apply List.filter_congr;intro x _;rw[K,Bool.and_comm]
theorem kbez{z:Nat}(U:Nats h0 s1 w1)(X:Nats h0 s2 w2)(c:btR (z:Int) w1=true)(Y:btR (z:Int) w2=true):Runs (go (.fn ktv [.agg [.i (z:Int),s1.v],.agg [.i (z:Int),s2.v]]) h0) (SetN h0 z ((btL (z:Int) w1).filter λi=>!wbit w2 i)):=by rw[kbic];refine q0 λh1 b1 Z=>q0 λh2 b2 F=>q0 λh3 b3 C=>?_;have B1:=C.has (F.has b1);have B2:=C.has b2;have A:Grow h0 h3:=(Z.trans F).trans C;refine qcr B1 0 rfl (qcq B1 1 rfl (qcr B2 0 rfl (qcq B2 1 rfl ?_)));refine(kbdp (U.grow A) (X.grow A) c Y).call λv h4 ⟨H,t,w,e,he,N,I,hr,hb⟩=>?_;subst he;refine qz rfl (qz rfl (qbb rfl (qz rfl (qz (seenAt rfl qco) (qz rfl ?_)))));dsimp only;have s1:h0.blks.size<h1.blks.size:=b1.lt;have s2:h1.blks.size<h2.blks.size:=b2.lt;refine qba (H.has b3) rfl λh5 K Q=>qcr K 0 rfl (qcq K 1 rfl (qy ⟨(A.trans H).updr (by omega) Q,t,w,e,rfl,N.updr I b3.lt Q,I.of_le A,hr,hb⟩))
theorem k5x{n:Nat}(hn:n<=65536){b1 b4 i:Nat}{t:Sl}(i1:b1≠i)(i4:b4≠i)(aa:h0.blks.size<=b1)(hi:h0.blks.size<=i):∀(k j:Nat),j+k=(n+63)/64->∀(h:AH)(w:List Nat),Grow h0 h->h.has b1 [.i 0,nV] kbe->h.has b4 [.i (n:Int),t.v] kbe->Vec h t i w->w.length=(n+63)/64->(∀m,m/64<j->wbit w m=decide (m<n))->
  Runs (go (.pt khq kna [(0,.i (n:Int)),(2,.p (.new b1 0)),(4,.p (.new b4 0)),(5,.i 0),(15,.i (((n+63)/64:Nat):Int)),(16,.i (j:Int))]) h) (SetN h0 n (List.range n)):=by
 intro k
 induction k with
 | zero =>
  intro j hj h w g B1 I V hw hm;obtain rfl:j=(n+63)/64:=by omega
  rw[kw7];refine qbc (qby (by omega)) (qcr I 0 rfl (qcq I 1 rfl ?_));refine qba B1 rfl λh1 B5 A=>?_
  have C:∀m,wbit w m=decide (m∈List.range n):=λm=>by
   rw[show decide (m∈List.range n)=decide (m<n)from by rw[decide_eq_decide];exact qcm];rcases Nat.lt_or_ge (m/64) ((n+63)/64)with h' | h'
   ·exact hm m h'
   ·rw[koc (by omega),qby (by omega)]
  obtain⟨r1,r2⟩:=ofP_bt hn (λx K=>qcm.1 K) hw C;refine qcr B5 0 rfl (qcq B5 1 rfl (qy ⟨g.updr aa A,t,w,0,rfl,(V.updr (λe=>i1 e.symm) A).nats,V.own hi,r1,?_⟩));rw[r2,List.filter_eq_self];intro x K;exact qbx K
 | succ k ih =>
  intro j hj h w g B1 I V hw hm;have Q:j<w.length:=by omega
  rw[kw7];refine qbb (qbx (by omega)) (qcq I 1 rfl ?_);rw[V.len];refine qz (V.idx rfl (kbi Q)) (qbh V rfl (kbi Q) (kbt (n:=18446744073709551615) (by decide)) λh1 V1 A=>?_);rw[wrap64 (n:=64*(j:Int)) (by omega) (by omega),wrap64 (n:=(n:Int)-64*(j:Int)) (by omega) (by omega),kj (by omega)];have F:=I.updr i4 A;have U:=B1.updr i1 A
  have X:∀x,x<64->(18446744073709551615:Nat).testBit x=true:=λx K=>by
   have:(18446744073709551615:Nat)=2^64-1:=by decide
   rw[this,Nat.testBit_two_pow_sub_one];exact qbx K
  refine qbd (λc=>?_) λc=>?_
  ·rw[qbw]at c;have hz:∃z:Nat,(n:Int)-64*(j:Int)=(z:Int)/\z<64/\n=64*j+z:=⟨n-64*j,by omega,by omega,by omega⟩;obtain⟨z,hz,Y,ae⟩:=hz;refine qcq F 1 rfl (qbc (qby (by omega)) ?_);have H:j<(w.set j 18446744073709551615).length:=by rw[qb7];exact Q
   have ad:1<=2^z:=Nat.one_le_two_pow;have af:2^z<18446744073709551616:=Nat.pow_lt_pow_right (n:=64) (by decide) Y
   have Z:IntKind.wrap .u64 (ishl .u64 1 ((n:Int)-64*(j:Int))-1)=((2^z-1:Nat):Int):=by
    rw[hz,k2t Y,wrapU];generalize 2^z=q at *
    omega
   rw[V1.len,Z];refine qz (V1.idx rfl (kbi H)) (qbh V1 rfl (kbi H) (kbt (by omega)) λh2 V2 u2=>?_);refine ih (j+1) (by omega) h2 _ ((g.updr hi A).updr hi u2) (U.updr i1 u2) (F.updr i4 u2) V2 (by rw[qb7,qb7];exact hw) λm C=>?_;rw[kmm H];split
   ·rename_i ac;rw[Nat.testBit_two_pow_sub_one,decide_eq_decide];omega
   ·rw[kmm Q,if_neg (by assumption)];exact hm m (by omega)
  ·rw[qbv]at c;refine ih (j+1) (by omega) h1 _ (g.updr hi A) U F V1 (by rw[qb7];exact hw) λm C=>?_;rw[kmm Q];split
   ·rename_i ac;rw[X _ (Nat.mod_lt _ (by decide)),eq_comm,qbw];omega
   ·exact hm m (by omega)
theorem k7g{n:Nat}(F:n<=65536):Runs (go (.fn khq [.i (n:Int)]) h0) (SetN h0 n (List.range n)):=by rw[kbex];refine q0 λh1 b1 Q=>?_;refine(kr4 F).call λv H ⟨C,t,i,e,hi,V⟩=>?_;subst e;refine qz rfl (qz rfl (qbb rfl (qz rfl (qz (seenAt rfl qco) (qz rfl ?_)))));dsimp only;refine q0 λh3 b3 U=>qba b3 rfl λI b4 X=>qcq b4 1 rfl ?_;have z1:=b1.lt;have z2:=V.inn;have z3:=C.size;have A:Grow H I:=U.updr (qbp _) X;have Y:=(Q.trans C).trans A;have K:=V.grow A;rw[K.len,qb8];exact k5x F (b1:=h0.blks.size) (b4:=H.blks.size) (i:=i) (by omega) (by omega) (qbp _) (by omega) ((n+63)/64) 0 (by omega) I _ Y ((C.trans A).has b1) b4 K (by simp) (λm Z=>absurd Z (Nat.not_lt_zero _))
end
end Go.Ab
set_option maxRecDepth 10000
namespace Go.Ab
open Go.Proofs Go.Num
def Tb.no:Tb:=⟨[],[],[]⟩
abbrev Spl:=Nat×Nat×Nat
def kg0(p:Nat)(t:Tb):List Spl:=(cutsTo t t.cols.length).map λx=>(p,x.1,x.2)
def kdw(ts:List Tb)(n:Nat):List Spl:=(List.range n).flatMap λp=>kg0 p (ts.getD p Tb.no)
def kbk(ts:List Tb):List Spl:=kdw ts ts.length
def leftS(ts:List Tb)(x:Spl)(i:Nat):Bool:=leftP (ts.getD x.1 Tb.no) x.2.1 (x.2.2:Int) i
def sumR(g:List Int)(R:List Nat):Int×Int:=(sumG g R 0,(R.length:Int))
def sumsS(ts:List Tb)(g:List Int)(R:List Nat):List (Int×Int):=(kbk ts).map λx=>sumR g (R.filter (leftS ts x))
structure Wt where
 place:Nat
 deep:Nat
 rows:List Nat
def bestS(c:Cfg)(ts:List Tb)(g:List Int)(x:Wt):List Int:=if(x.deep:Int)<c.depth then(bestF c.lambda c.gamma (sumR g x.rows).1 (sumR g x.rows).2 (sumsS ts g x.rows)).1 else []
def kcu(c:Cfg)(s:Int×Int):Int:=(khi c.trees c.depth c.lambda c.gamma c.num c.den c.loss c.clip s.1 s.2).1
def addS(w:Int)(R:List Nat)(sc:List Int):List Int:=R.foldl (λsc i=>sc.set i (IntKind.wrap .i64 (sc.getD i 0+w))) sc
def leafN(w:Int):Nd:=⟨true,w,0,0,0,0,0⟩
def splitN(x:Spl)(l r:Nat):Nd:=⟨false,0,(x.1:Int),(x.2.1:Int),(x.2.2:Int),(l:Int),(r:Int)⟩
def kidsS(ts:List Tb)(x:Wt)(s:Spl)(n:Nat):List Wt:=[⟨n,x.deep+1,x.rows.filter (leftS ts s)⟩,⟨n+1,x.deep+1,x.rows.filter λi=>!leftS ts s i⟩]
def growS(c:Cfg)(ts:List Tb)(g:List Int):Nat->List Wt->List Nd->List Int->List Nd×List Int
 | 0,_,nodes,sc=>(nodes,sc)
 | _+1,[],nodes,sc=>(nodes,sc)
 | n+1,x::W,nodes,sc=>match bestS c ts g x with
  | []=>growS c ts g n W (nodes.set x.place (leafN (kcu c (sumR g x.rows)))) (addS (kcu c (sumR g x.rows)) x.rows sc)
  | b::_=>growS c ts g n (W++kidsS ts x ((kbk ts).getD b.toNat (0,0,0)) nodes.length) (nodes.set x.place (splitN ((kbk ts).getD b.toNat (0,0,0)) nodes.length (nodes.length+1))++[Nd.no,Nd.no]) sc
def firstW(n:Nat):Wt:=⟨0,0,List.range n⟩
def gradS(c:Cfg)(sc labels:List Int):List Int:=(List.range labels.length).map λi=>(c.grad (sc.getD i 0) (labels.getD i 0)).1
def treeS(c:Cfg)(ts:List Tb)(labels sc:List Int):List Nd×List Int:=growS c ts (gradS c sc labels) 64 [firstW labels.length] [Nd.no] sc
def trainS(c:Cfg)(ts:List Tb)(labels:List Int):Nat->List (List Nd)->List Int->List (List Nd)×List Int
 | 0,m,sc=>(m,sc)
 | n+1,m,sc=>trainS c ts labels n (m++[(treeS c ts labels sc).1]) (treeS c ts labels sc).2
def oddL(l:List Int):Bool:=l.any λx=>decide (x < -1048576)||decide (x>1048576)
def badT(ts:List Tb):Bool:=ts.any λt=>!tabR t||(!decide (t.ids=(ts.getD 0 Tb.no).ids)||decide (t.ids.length=0))
def faultC(c:Cfg)(ts:List Tb)(labels:List Int):Int:=if !c.right then 1 else if ts.length=0 then 1 else if ts.length>16 then 1 else if badT ts then 20 else if labels.length≠(ts.getD 0 Tb.no).ids.length then 1 else if oddL labels then 1 else 0
def trainC(c:Cfg)(ts:List Tb)(labels:List Int):List (List Nd)×List Int×Int:=if faultC c ts labels=0 then((trainS c ts labels c.trees.toNat [] (List.replicate labels.length 0)).1,(trainS c ts labels c.trees.toNat [] (List.replicate labels.length 0)).2,0)else([],[],faultC c ts labels)
theorem Cfg.right_depth{c:Cfg}(h:c.right=true):1<=c.trees/\c.trees<=16/\1<=c.depth/\c.depth<=5:=by unfold Cfg.right at h;rw[qbw]at h;omega
abbrev qbo:=@Cfg.right_depth
theorem kle{c:Cfg}{ts:List Tb}{labels:List Int}(h:faultC c ts labels=0):c.right=true/\ts≠[]/\ts.length<=16/\badT ts=false/\labels.length=(ts.getD 0 Tb.no).ids.length/\oddL labels=false:=by
 unfold faultC at h;by_cases h1:c.right=true<;>simp only[h1,Bool.not_true,Bool.not_false,qcn,if_false,if_true]at h
 ·split at h
  ·cases h
  rename_i A;split at h
  ·cases h
  split at h
  ·cases h
  rename_i I C;split at h
  ·cases h
  rename_i F;split at h
  ·cases h
  rename_i H;exact⟨h1,λe=>A (by rw[e];rfl),by omega,by simpa using C,by simpa using F,by simpa using H⟩
 ·simp at h
theorem kiy{ts:List Tb}(h:badT ts=false){p:Nat}(A:p<ts.length):tabR ts[p]=true/\ts[p].ids=(ts.getD 0 Tb.no).ids/\ts[p].ids.length≠0:=by unfold badT at h;rw[List.any_eq_false]at h;have:=h _ (qb3 A);simp only[qca,qci,qbw,qbv,not_or]at this;obtain⟨h1,C,F⟩:=this;exact⟨by simpa using h1,Classical.byContradiction λe=>C e,F⟩
theorem kyh{l G N:Int}:∀(xs:List (Int×Int))(i:Nat)(st:List Int×Fr3),(∀b∈st.1,∃j:Nat,b=(j:Int)/\j<i+xs.length)->∀b∈(bestGo l G N xs (i:Int) st).1,∃j:Nat,b=(j:Int)/\j<i+xs.length
 | [],i,st,h=>by
  rw[bestGo];exact h
 | x::xs,i,st,h=>by
  rw[bestGo];split
  ·have C:∀b∈(kdb l G N x (i:Int) st).1,∃j:Nat,b=(j:Int)/\j<(i+1)+xs.length:=by
    intro b A
    have h':∀b∈st.1,∃j:Nat,b=(j:Int)/\j<(i+1)+xs.length:=λb A=>by obtain⟨j,e,F⟩:=h b A;rw[qb2]at F;exact⟨j,e,by omega⟩
    have hi:∃j:Nat,(i:Int)=(j:Int)/\j<(i+1)+xs.length:=⟨i,rfl,by omega⟩;unfold kdb at A;split at A
    ·unfold askF at A;split at A
     ·rw[List.mem_singleton]at A;rw[A];exact hi
     ·split at A
      ·rcases qb5.1 A with A | A
       ·exact h' b A
       ·rw[List.mem_singleton]at A;rw[A];exact hi
      ·exact h' b A
    ·exact h' b A
   have:=kyh (l:=l) (G:=G) (N:=N) xs (i+1) (kdb l G N x (i:Int) st) C;intro b A;obtain⟨j,e,F⟩:=this b (by simpa using A);exact⟨j,e,by rw[qb2];omega⟩
  ·intro b A;simp at A
theorem kbkq{l γ G N:Int}{xs:List (Int×Int)}:∀b∈(bestF l γ G N xs).1,∃j:Nat,b=(j:Int)/\j<xs.length:=by
 intro b A;unfold bestF at A;cases h1:!kbh G N<;>rw[h1]at A
 ·cases C:!kbm l<;>rw[C]at A
  ·cases F:decide (γ<0)<;>rw[F]at A
   ·cases H:decide (γ>1048576)<;>rw[H]at A
    ·cases I:decide ((xs.length:Int)>16384)<;>rw[I]at A
     ·obtain⟨j,e,K⟩:=kyh xs 0 ([],gammaF γ) (λb A=>by cases A) b A;exact⟨j,e,by omega⟩
     ·cases A
    ·cases A
   ·cases A
  ·cases A
 ·cases A
theorem kul{c:Cfg}{ts:List Tb}{g:List Int}{x:Wt}:∀b∈bestS c ts g x,∃j:Nat,b=(j:Int)/\j<(kbk ts).length:=by
 intro b A;unfold bestS at A;split at A
 ·obtain⟨j,e,C⟩:=kbkq b A;exact⟨j,e,by unfold sumsS at C;rwa[qb1]at C⟩
 ·cases A
theorem k1a{c:Cfg}{ts:List Tb}{g:List Int}{x:Wt}{b:Int}{bs:List Int}(h:bestS c ts g x=b::bs):(x.deep:Int)<c.depth:=by
 unfold bestS at h;split at h
 ·assumption
 ·cases h
def muW(D:Nat)(W:List Wt):Nat:=(W.map λx=>2^(D+1-x.deep)-1).sum
theorem knk(D:Nat)(x:Wt)(W:List Wt):muW D (x::W)=(2^(D+1-x.deep)-1)+muW D W:=by simp[muW]
theorem k0b(D:Nat)(V W:List Wt):muW D (V++W)=muW D V+muW D W:=by simp[muW]
theorem muW_le{D:Nat}:∀{W:List Wt},(∀x∈W,x.deep<=D)->W.length<=muW D W
 | [],_=>by simp[muW]
 | x::W,h=>by
  have h1:=muW_le (W:=W) λy A=>h y (by simp[A]);have C:=h x (by simp)
  have F:2<=2^(D+1-x.deep):=by
   have:=Nat.pow_le_pow_right (n:=2) (i:=1) (j:=D+1-x.deep) (by decide) (by omega)
   simpa using this
  rw[knk,qb2];omega
theorem kbf5{D n:Nat}{ts:List Tb}{x:Wt}{s:Spl}(h:x.deep<D):muW D (kidsS ts x s n)+1=2^(D+1-x.deep)-1:=by
 have h1:D+1-x.deep=(D-x.deep)+1:=by omega
 have A:D+1-(x.deep+1)=D-x.deep:=by omega
 have C:2<=2^(D-x.deep):=by
  have:=Nat.pow_le_pow_right (n:=2) (i:=1) (j:=D-x.deep) (by decide) (by omega)
  simpa using this
 unfold kidsS;rw[knk,knk,A,h1,Nat.pow_succ];simp only[muW,List.map_nil,List.sum_nil];omega
structure GrowOk(D n:Nat)(N:Nat)(W:List Wt)(nodes:List Nd):Prop where
 mu:muW D W<=n
 deep:∀x∈W,x.deep<=D
 rows:∀x∈W,x.rows.Sublist (List.range N)
 place:∀(i:Nat)(hi:i<W.length),W[i].place+W.length=nodes.length+i
 size:nodes.length+muW D W<=W.length+(2^(D+1)-1)
theorem GrowOk.start{D N:Nat}:GrowOk D (2^(D+1)-1) N [firstW N] [Nd.no]:=by
 have C:muW D [firstW N]=2^(D+1)-1:=by simp[muW,firstW]
 refine⟨by rw[C];exact qbp _,λx A=>?_,λx A=>?_,λi hi=>?_,by rw[C];simp⟩
 ·rw[List.mem_singleton.1 A];simp[firstW]
 ·rw[List.mem_singleton.1 A];exact List.Sublist.refl _
 ·simp at hi;subst hi;simp[firstW]
theorem GrowOk.leaf{D n N:Nat}{x:Wt}{W:List Wt}{nodes:List Nd}(h:GrowOk D (n+1) N (x::W) nodes)(y:Nd):GrowOk D n N W (nodes.set x.place y):=by
 have H:=h.deep x (by simp)
 have I:2<=2^(D+1-x.deep):=by
  have:=Nat.pow_le_pow_right (n:=2) (i:=1) (j:=D+1-x.deep) (by decide) (by omega)
  simpa using this
 have F:=h.mu;have C:=h.size;rw[knk]at F C;rw[qb2]at C;refine⟨by omega,λy A=>h.deep y (by simp[A]),λy A=>h.rows y (by simp[A]),λi hi=>?_,by rw[qb7];omega⟩;have:=h.place (i+1) (by simp;omega);simp only[List.getElem_cons_succ,qb2]at this;rw[qb7];omega
theorem GrowOk.split{D n N:Nat}{x:Wt}{W:List Wt}{nodes:List Nd}(h:GrowOk D (n+1) N (x::W) nodes)(H:x.deep<D)(ts:List Tb)(s:Spl)(y:Nd):GrowOk D n N (W++kidsS ts x s nodes.length) (nodes.set x.place y++[Nd.no,Nd.no]):=by
 have Y:=kbf5 (n:=nodes.length) (ts:=ts) (s:=s) H;have Q:=h.mu;have I:=h.size;rw[knk]at Q I;rw[qb2]at I;have K:(nodes.set x.place y++[Nd.no,Nd.no]).length=nodes.length+2:=by simp
 have C:(W++kidsS ts x s nodes.length).length=W.length+2:=by simp[kidsS]
 have U:=h.place 0 (by simp);simp only[List.getElem_cons_zero,qb2]at U;refine⟨by rw[k0b];omega,λz A=>?_,λz A=>?_,λi hi=>?_,by rw[k0b,K,C];omega⟩
 ·rcases qb5.1 A with A | A
  ·exact h.deep z (by simp[A])
  ·unfold kidsS at A;simp only[qb6,List.not_mem_nil,or_false]at A;rcases A with rfl | rfl<;>exact H
 ·have X:=h.rows x (by simp);rcases qb5.1 A with A | A
  ·exact h.rows z (by simp[A])
  ·unfold kidsS at A;simp only[qb6,List.not_mem_nil,or_false]at A;rcases A with rfl | rfl<;>exact List.filter_sublist.trans X
 ·rw[K,C];rcases Nat.lt_or_ge i W.length with F | F
  ·rw[List.getElem_append_left F];have:=h.place (i+1) (by simp;omega);simp only[List.getElem_cons_succ,qb2]at this;omega
  ·rw[List.getElem_append_right F];have:i-W.length=0\/i-W.length=1:=by rw[C]at hi;omega
   rcases this with e | e
   ·simp only[e,kidsS,List.getElem_cons_zero];omega
   ·simp only[e,kidsS,List.getElem_cons_succ,List.getElem_cons_zero];omega
theorem GrowOk.nodes63{D n N:Nat}{W:List Wt}{nodes:List Nd}(h:GrowOk D n N W nodes)(A:D<=5):nodes.length<=63:=by have h1:=muW_le h.deep;have C:=h.size;have F:2^(D+1)<=2^6:=Nat.pow_le_pow_right (by decide) (by omega);omega
theorem GrowOk.first{D n N:Nat}{x:Wt}{W:List Wt}{nodes:List Nd}(h:GrowOk D n N (x::W) nodes):x.place<nodes.length:=by have A:=h.place 0 (by simp);simp only[List.getElem_cons_zero,qb2]at A;omega
theorem GrowOk.least{D n N:Nat}{x:Wt}{W:List Wt}{nodes:List Nd}(h:GrowOk D n N (x::W) nodes):∀y∈W,x.place<y.place:=by intro y A;obtain⟨i,hi,rfl⟩:=List.getElem_of_mem A;have C:=h.place 0 (by simp);have F:=h.place (i+1) (by simp;omega);simp only[List.getElem_cons_zero,List.getElem_cons_succ,qb2]at C F;omega
theorem GrowOk.below{D n N:Nat}{W:List Wt}{nodes:List Nd}(h:GrowOk D n N W nodes):∀y∈W,y.place<nodes.length:=by intro y A;obtain⟨i,hi,rfl⟩:=List.getElem_of_mem A;have C:=h.place i hi;omega
@[reducible] def Ef.tb:Ef Tb where
 w:=3
 pos:=by decide
 has h S cs t:=∃s1 s2 s3:Sl,cs=[s1.v,s2.v,s3.v]/\TabAt h S s1 s2 s3 t
 len:=λ⟨_,_,_,e,_⟩=>by rw[e];rfl
 grow g:=λ⟨a,b,c,e,n⟩=>⟨a,b,c,e,n.grow g⟩
 mono f:=λ⟨a,b,c,e,n⟩=>⟨a,b,c,e,⟨n.ids.mono f,n.bins.mono f,n.cols.mono f⟩⟩
 upd no u:=λ⟨a,b,c,e,n⟩=>⟨a,b,c,e,⟨n.ids.upd no u,n.bins.upd no u,n.cols.upd no u⟩⟩
 bound:=λ⟨a,b,c,e,n⟩=>⟨a,b,c,e,⟨n.ids.bound,n.bins.bound,n.cols.bound⟩⟩
theorem rd8{h:AH}{k:Nat}{A a1 a2 a3 a4 a5 a6 a7:Int}{T:TypeId}{K:Int->Int->Int->Int->Int->Int->Int->Int->Option (AV×AH)}{P:AV->AH->Prop}(B:h.has k [.i A,.i a1,.i a2,.i a3,.i a4,.i a5,.i a6,.i a7] T)(H:Runs (K A a1 a2 a3 a4 a5 a6 a7) P):Runs (((h.cell ((Ref.new k 0).add 0)).bind (AV.asInt .i64)).bind λC=>((h.cell ((Ref.new k 0).add 1)).bind (AV.asInt .i64)).bind λx1=>((h.cell ((Ref.new k 0).add 2)).bind (AV.asInt .i64)).bind λx2=>((h.cell ((Ref.new k 0).add 3)).bind (AV.asInt .i64)).bind λx3=>((h.cell ((Ref.new k 0).add 4)).bind (AV.asInt .i64)).bind λx4=>((h.cell ((Ref.new k 0).add 5)).bind (AV.asInt .i64)).bind λx5=>((h.cell ((Ref.new k 0).add 6)).bind (AV.asInt .i64)).bind λx6=>((h.cell ((Ref.new k 0).add 7)).bind (AV.asInt .i64)).bind λF=>K C x1 x2 x3 x4 x5 x6 F) P:=qz (B.rd 0 rfl (kb _ _)) (qz (B.rd 1 rfl (kb _ _)) (qz (B.rd 2 rfl (kb _ _)) (qz (B.rd 3 rfl (kb _ _)) (qz (B.rd 4 rfl (kb _ _)) (qz (B.rd 5 rfl (kb _ _)) (qz (B.rd 6 rfl (kb _ _)) (qz (B.rd 7 rfl (kb _ _)) H)))))))
theorem Sq.tb{h:AH}{S:Fp}{s:Sl}{ts:List Tb}(n:Sq Ef.tb h S s ts){i:Nat}(hi:i<ts.length):∃(r:Ref)(s1 s2 s3:Sl),idx s.ref s.len (i:Int) 3=some r/\(h.cell (r.add 0)).bind AV.asSl=some s1/\(h.cell (r.add 1)).bind AV.asSl=some s2/\(h.cell (r.add 2)).bind AV.asSl=some s3/\TabAt h S s1 s2 s3 ts[i]:=by obtain⟨r,cs,A,⟨s1,s2,s3,rfl,t⟩,l⟩:=n.at (kh8 hi);rw[n.len];exact⟨r,s1,s2,s3,A,l.rd (ql _) 0 rfl qco,l.rd (ql _) 1 rfl qco,l.rd (ql _) 2 rfl qco,t⟩
def BitsAt(h:AH)(S:Fp)(z:Nat)(y:Sl)(R:List Nat):Prop:=∃w:List Nat,Nats h y w/\(∀j,¬Av y j w->S j)/\btR (z:Int) w=true/\btL (z:Int) w=R
theorem BitsAt.grow{h h':AH}{S:Fp}{z:Nat}{y:Sl}{R:List Nat}(b:BitsAt h S z y R)(g:Grow h h'):BitsAt h' S z y R:=by obtain⟨w,N,a,r,l⟩:=b;exact⟨w,N.grow g,a,r,l⟩
theorem BitsAt.mono{h:AH}{S T:Fp}{z:Nat}{y:Sl}{R:List Nat}(f:∀j,S j->T j)(b:BitsAt h S z y R):BitsAt h T z y R:=by obtain⟨w,N,a,r,l⟩:=b;exact⟨w,N,λj k=>f j (a j k),r,l⟩
theorem BitsAt.upd{h h':AH}{S:Fp}{z i:Nat}{y:Sl}{R:List Nat}(no:¬S i)(u:Upd h h' i)(b:BitsAt h S z y R):BitsAt h' S z y R:=by obtain⟨w,N,a,r,l⟩:=b;exact⟨w,N.upda (Classical.byContradiction λk=>no (a _ k)) u,a,r,l⟩
theorem BitsAt.md{h h':AH}{S T:Fp}{z:Nat}{y:Sl}{R:List Nat}(m:Md T h h')(d:Dis S T)(b:BitsAt h S z y R):BitsAt h' S z y R:=by obtain⟨w,N,a,r,l⟩:=b;exact⟨w,N.mdE a m d,a,r,l⟩
theorem BitsAt.bound{h:AH}{S:Fp}{z:Nat}{y:Sl}{R:List Nat}(b:BitsAt h S z y R):BitsAt h (λj=>S j/\j<h.blks.size) z y R:=by
 obtain⟨w,N,a,r,l⟩:=b;refine⟨w,N,λj k=>⟨a j k,?_⟩,r,l⟩;rcases Nat.lt_or_ge j h.blks.size with h1 | h1
 ·exact h1
 ·exact absurd (qbi N h1) k
theorem BitsAt.lt{h:AH}{S:Fp}{z:Nat}{y:Sl}{R:List Nat}(b:BitsAt h S z y R):R.Sublist (List.range z):=by obtain⟨w,N,a,r,rfl⟩:=b;unfold btL;rw[r,if_pos rfl,Int.toNat_natCast];exact List.filter_sublist
theorem kbfs{h:AH}{p:Sl}{xs:List Nat}(o:Own h p){m:Nat}(k:¬Av p m xs):h.blks.size<=m:=by
 rcases Nat.lt_or_ge m h.blks.size with A | A
 ·exact absurd (qbj o A) k
 ·exact A
theorem SetN.bits{h0 h':AH}{z:Nat}{R:List Nat}{v:AV}(p:SetN h0 z R v h'):Grow h0 h'/\∃(t:Sl)(e:Int)(S:Fp),v=.tup [.agg [.i (z:Int),t.v],.i e]/\BitsAt h' S z t R/\(∀m,S m->h0.blks.size<=m)/\Own h0 t:=by obtain⟨g,t,w,e,rfl,N,o,r,l⟩:=p;exact⟨g,t,e,λj=>¬Av t j w,rfl,⟨w,N,λj k=>k,r,l⟩,λm k=>kbfs o k,o⟩
structure SpR where
 spl:Spl
 rows:List Nat
@[reducible] def Ef.spr(z:Nat):Ef SpR where
 w:=9
 pos:=by decide
 has h S cs x:=∃y:Sl,cs=[.bool false,.i 0,.i (x.spl.1:Int),.i (x.spl.2.1:Int),.i (x.spl.2.2:Int),.i 0,.i 0,.i (z:Int),y.v]/\BitsAt h S z y x.rows
 len:=λ⟨_,e,_⟩=>by rw[e];rfl
 grow g:=λ⟨a,e,n⟩=>⟨a,e,n.grow g⟩
 mono f:=λ⟨a,e,n⟩=>⟨a,e,n.mono f⟩
 upd no u:=λ⟨a,e,n⟩=>⟨a,e,n.upd no u⟩
 bound:=λ⟨a,e,n⟩=>⟨a,e,n.bound⟩
theorem kbgj{n:Nat}(h:n<=1000000):growOk Pg n ke9 9=true:=by
 unfold growOk;rw[kbg6,k7x];have h1:n*88<=ks:=by simp only[ks];omega
 have A:n*9<=ks:=by simp only[ks];omega
 have C:n<=ks:=by simp only[ks];omega
 simp[h1,A,C]
theorem k1c{n:Nat}(h:n<=1000000):growOk Pg n kw 2=true:=by
 unfold growOk;rw[kbd5,kbl2];have h1:n*16<=ks:=by simp only[ks];omega
 have A:n*2<=ks:=by simp only[ks];omega
 have C:n<=ks:=by simp only[ks];omega
 simp[h1,A,C]
theorem kzf(g:List Int)(l:List Nat)(i:Nat)(a:Int):sumG g (l++[i]) a=IntKind.wrap .i64 (sumG g l a+g.getD i 0):=by unfold sumG;rw[List.foldl_append,List.foldl_cons,List.foldl_nil]
section
variable{h0:AH}{S Sg St:Fp}{gs ys tsl:Sl}{g:List Int}{R:List Nat}{z:Nat}{ts:List Tb}
theorem kbi9(Q:Sq EI h0 Sg gs g){x:Sl}{Z:Fp}(hR:∀i∈R,i<g.length)(hl:R.length<=100000){b1 b2:Nat}(K:h0.blks.size<=b1)(C:h0.blks.size<=b2)(hb:b1≠b2)(F:¬Z b2):∀(k i:Nat),i+k=R.length->∀(h:AH),Grow h0 h->Sq EI h Z x (zs R)->h.has b1 [.i 0,.i 0] kw->h.has b2 [.i (sumG g (R.take i) 0),.i (i:Int)] kw->
  Runs (go (.pt khd kpf [(0,gs.v),(4,.p (.new b1 0)),(5,.p (.new b2 0)),(9,x.v),(10,.i (R.length:Int)),(11,.i (i:Int))]) h) λv h'=>v=.agg [.i (sumR g R).1,.i (sumR g R).2]/\Grow h0 h':=by
 intro k
 induction k with
 | zero =>
  intro i hi h G X B1 B2;obtain rfl:i=R.length:=by omega
  rw[List.take_length]at B2;rw[k33];refine qbc (qby (by omega)) (qcr B2 0 rfl (qcr B2 1 rfl ?_));refine qba B1 rfl λh1 H I=>?_;exact qcr H 0 rfl (qcr H 1 rfl (qy ⟨rfl,G.updr K I⟩))
 | succ k ih =>
  intro i hi h G X B1 B2;have A:i<R.length:=by omega
  have hz:i<(zs R).length:=by rw[zs_len];exact A
  obtain⟨r1,e1,e2⟩:=X.int hz;have ex:(zs R)[i]=((R[i]:Nat):Int):=by simp[zs]
  rw[ex]at e2;have hg:=hR _ (qb3 A);obtain⟨r2,e3,e4⟩:=(Q.grow G).int hg;rw[k33];refine qbb (qbx (by omega)) (qz e1 (qz e2 (qcr B2 0 rfl (qz e3 (qz e4 ?_)))));refine Runs.putAt (o:=0) B2 (by simp) rfl λh1 H I=>?_;refine qcr H 1 rfl ?_;refine Runs.putAt (o:=1) H (by simp) rfl λh2 B4 U=>?_;rw[kj (i:=i) (by omega)];have Y:g.getD R[i] 0=g[R[i]]:=by simp[List.getD,hg]
  refine ih (i+1) (by omega) h2 ((G.updr C I).updr C U) ((X.upd F I).upd F U) ((B1.updr hb I).updr hb U) ?_;rw[qch A,kzf,Y];have hw:IntKind.wrap .i64 ((i:Int)+1)=((i+1:Nat):Int):=kj (by omega)
  simpa[hw]using B4
theorem kv8(Z:Tab h0)(Q:Sq EI h0 Sg gs g)(B:BitsAt h0 S z ys R)(hz:z<=g.length)(aa:z<=65536):Runs (go (.fn khd [gs.v,.agg [.i (z:Int),ys.v]]) h0) λv h'=>v=.agg [.i (sumR g R).1,.i (sumR g R).2]/\Grow h0 h':=by
 have A:=B.lt;obtain⟨w,N,-,r,l⟩:=B;rw[kbew];refine q0 λh1 b1 U=>q0 λF b2 H=>q0 λh3 b3 C=>?_;have I:=(U.trans H).trans C;refine qz (((H.trans C).has b1).rd 0 rfl qcp) (qz (((H.trans C).has b1).rd 1 rfl qco) ?_);refine(kxb (n:=(z:Int)) (Z.grow I) (N.grow I)).call λv h4 ⟨K,x,j,e,lj,X⟩=>?_;subst e;rw[l]at X;refine qz (seen qco) ?_;rw[X.len,zs_len];have Y:R.length<=z:=by have:=A.length_le;rwa[qcl]at this
 have z1:=b1.lt;have z2:=b2.lt;have z3:=b3.lt;have G4:=I.trans K;refine kbi9 Q (λi hi=>qbr (qcm.1 (A.subset hi)) hz) (by omega) (b1:=h1.blks.size) (b2:=F.blks.size) U.size (by omega) (by omega) (λk=>?_) R.length 0 (by omega) h4 G4 X.sq (((C.trans K).has b2)) (K.has b3);rcases k with k | k
 ·have k:j=some F.blks.size:=k;subst k;have:h3.blks.size<=F.blks.size:=lj;omega
 ·exact k
end
theorem kbgr{z:Nat}{w:List Nat}{p:Nat->Bool}(r:btR (z:Int) w=true):((List.range z).filter p).filter (wbit w)=(btL (z:Int) w).filter p:=by unfold btL;rw[r,if_pos rfl,Int.toNat_natCast,List.filter_filter,List.filter_filter];apply List.filter_congr;intro x _;exact Bool.and_comm _ _
structure SplI(h0:AH)(z:Nat)(ts:List Tb)(g:List Int)(R:List Nat)(D:List Spl)(l:Sl)(jl:Option Nat)(s:Sl)(js:Option Nat)(h:AH):Prop where
 grow:Grow h0 h
 ll:LeO h0.blks.size jl
 ls:LeO h0.blks.size js
 ne:∀k,jl=some k->js≠some k
 spl:∃S:Fp,(∀m,S m->h0.blks.size<=m)/\NotO S js/\GF (Ef.spr z) ke9 h S l jl (D.map λx=>⟨x,R.filter (leftS ts x)⟩)
 sum:GF EP kw h Fp.no s js (D.map λx=>sumR g (R.filter (leftS ts x)))
theorem opt_lt{n k:Nat}:∀{j:Option Nat},LtO n j->j=some k->k<n
 | some _,l,e=>by cases e;exact l
theorem opt_ge{n k:Nat}:∀{j:Option Nat},LeO n j->j=some k->n<=k
 | some _,l,e=>by cases e;exact l
theorem ktn(ts:List Tb)(n:Nat):kdw ts (n+1)=kdw ts n++kg0 n (ts.getD n Tb.no):=by unfold kdw;rw[List.range_succ,List.flatMap_append];simp
section
variable{h0:AH}{Sg Sb:Fp}{gs ys:Sl}{g:List Int}{R:List Nat}{z:Nat}{ts:List Tb}
theorem kbmf(T0:Tab h0)(Q:Sq EI h0 Sg gs g)(By:BitsAt h0 Sb z ys R)(hz:z<=g.length)(be:z<=256){p:Nat}(hp:p<ts.length){s1 s2 s3:Sl}{St:Fp}(qt:TabAt h0 St s1 s2 s3 ts[p])(hR:tabR ts[p]=true)(H:ts[p].ids.length=z){b bt:Nat}(bf:b<h0.blks.size)(Bb:h0.has b [.i (z:Int),ys.v] kbe){f:Nat}(hf:f<ts[p].cols.length){D0:List Spl}(bg:D0.length<=16*512){ae bn:Sl}{m1 m2:Int}{P:AV->AH->Prop}
  (hP:∀h l jl s js,SplI h0 z ts g R (D0++(cutsTo ts[p] (f+1)).map λx=>(p,x.1,x.2)) l jl s js h->h.has bt [s1.v,s2.v,s3.v] kcb->(∀k,jl=some k\/js=some k->k≠bt)->Runs (go (.pt kcm klu [(1,gs.v),(5,.p (.new b 0)),(8,l.v),(9,s.v),(10,.i (p:Int)),(11,.p (.new bt 0)),(17,ae.v),(18,.i m1),(19,.i (p:Int)),(25,bn.v),(26,.i m2),(27,.i ((f+1:Nat):Int))]) h) P) :
  ∀(k c:Nat),c+k=nb ts[p] f->∀h l jl s js,SplI h0 z ts g R (D0++(cutsTo ts[p] f++(List.range c).map λc=>(f,c)).map λx=>(p,x.1,x.2)) l jl s js h->h.has bt [s1.v,s2.v,s3.v] kcb->(∀k,jl=some k\/js=some k->k≠bt)->
  Runs (go (.pt kcm kqa [(1,gs.v),(5,.p (.new b 0)),(8,l.v),(9,s.v),(10,.i (p:Int)),(11,.p (.new bt 0)),(12,.i (f:Int)),(17,ae.v),(18,.i m1),(19,.i (p:Int)),(25,bn.v),(26,.i m2),(27,.i (f:Int)),(33,.i (nb ts[p] f:Int)),(34,.i (c:Int))]) h) P:=by
 obtain⟨ba,ak,A,Y⟩:=ke2 hR;obtain⟨hb,bh,bb,bi⟩:=kfj (Y f hf) hf A;have af:ts[p].bins.getD f 0=ts[p].bins[f]:=by simp[List.getD,hb]
 have bj:(nb ts[p] f:Int)=ts[p].bins[f]-1:=by unfold nb;rw[af];omega
 have al:ts.getD p Tb.no=ts[p]:=by simp[List.getD,hp]
 have bc:(cutsTo ts[p] f).length<=31*f:=kqk ts[p] f λi hi=>by
  obtain⟨am,bk,bd,-⟩:=kfj (Y i (by omega)) (by omega) A;have:ts[p].bins.getD i 0=ts[p].bins[i]:=by simp[List.getD,am]
  unfold nb;rw[this];omega
 intro k
 induction k with
 | zero =>
  intro c hc h l jl s js I Z K;obtain rfl:c=nb ts[p] f:=by omega
  rw[<- ku4]at I;rw[kwy];refine qbc (qby (by omega)) ?_;rw[kj (by omega)];exact hP h l jl s js I Z K
 | succ k ih =>
  intro c hc h l jl s js I Z K;have an:(c:Int)<ts[p].bins.getD f 0:=by rw[af];omega
  obtain⟨G,ll,ls,ap,⟨S,hS,nS,V⟩,W⟩:=I;have aa:=V.lt;have lts:=W.lt;have bm:=G.size
  have bp:(D0++(cutsTo ts[p] f++(List.range c).map λc=>(f,c)).map λx=>(p,x.1,x.2)).length<=20000:=by simp only[qb0,qb1,qcl];omega
  rw[kwy];refine qbb (qbx (by omega)) (qcq Z 0 rfl (qcq Z 1 rfl (qcq Z 2 rfl ?_)));refine(kbkj (qt.grow G) hR hf an).call λv h1 ⟨g1,y1,w1,e,N1,o1,l1,aq⟩=>?_;subst e;refine qz rfl (qz rfl (qbb rfl (qz rfl (qz (seenAt rfl qco) (qz rfl ?_)))));dsimp only;refine q0 λh2 b2 g2=>qba b2 rfl λh3 b3 u3=>?_;have U:Grow h1 h3:=g2.updr (qbp _) u3;have G3:=(G.trans g1).trans U;refine qcr b3 0 rfl (qcq b3 1 rfl (qcr (G3.has Bb) 0 rfl (qcq (G3.has Bb) 1 rfl ?_)));rw[H];rw[H]at l1;obtain⟨wy,Ny,ay,ry,ly⟩:=By
  have ac:∀x∈leftR ts[p] f (c:Int),x<z:=λx hx=>by unfold leftR at hx;rw[<- H];exact qcm.1 (qck.1 hx).1
  obtain⟨r1,ar⟩:=ofP_bt (by omega) ac l1 aq;refine(kbe5 (N1.grow U) (Ny.grow G3) r1 ry).call λv h4 pp=>?_;obtain⟨g4,y4,e4,T4,e,B4,C,o4⟩:=pp.bits;subst e
  have ad:(btL (z:Int) w1).filter (wbit wy)=R.filter (leftS ts (p,f,c)):=by
   have e1:btL (z:Int) w1=(List.range z).filter (leftP ts[p] f (c:Int)):=by rw[ar];apply List.filter_congr;intro i hi;rw[Bool.eq_iff_iff,qbw];unfold leftR;rw[qck,H];exact⟨λh=>h.2,λh=>⟨hi,h⟩⟩
   rw[e1,kbgr ry,ly];apply List.filter_congr;intro i _;unfold leftS;rw[al]
  rw[ad]at B4;refine qz rfl (qz rfl (qbb rfl (qz rfl (qz (seenAt rfl qco) (qz rfl ?_)))));dsimp only;have z1:=g1.size;have z3:=b3.lt;have z4:=g4.size;have bq:=U.size;refine qba (g4.has b3) rfl λh5 b5 u5=>qcr b5 0 rfl (qcq b5 1 rfl (q0 λh6 b6 g6=>?_));have au:Grow h1 h5:=(U.trans g4).updr (qbp _) u5;have B5:BitsAt h5 T4 z y4 (R.filter (leftS ts (p,f,c))):=B4.upd (λx=>by have:=C _ x;omega) u5;have X:Grow h h6:=(g1.trans au).trans g6;refine qz (kcc b6 (by rw[kbe9];rfl)) ?_;have z5:=u5.size;have z6:=g6.size
  obtain⟨l',h7,e7,V7,u7⟩:=(V.grow X).push (T:=T4) (show(Ef.spr z).has h6 T4 _ ⟨(p,f,c),R.filter (leftS ts (p,f,c))⟩from⟨y4,rfl,B5.grow g6⟩) (by
   cases jl with
   | none=>trivial
   | some a =>intro hm;have:=C _ hm;have:a<h.blks.size:=aa;omega) (kbgj (by rw[qb1];omega))
  refine qz e7 (qz qco ?_);have m7:Md (Fp.opt jl) h6 h7:=u7.md λk e=>e;have aw:∀{m:Nat},h.blks.size<=m->¬Fp.opt jl m:=λhm e=>by have:=opt_lt aa e;omega
  have b7:=m7.has (g6.has b5) (aw (by omega));refine qcr b7 0 rfl (qcq b7 1 rfl ?_);have G7:Grow h0 h7:=(G.trans X).updo ll u7;have B7:BitsAt h7 T4 z y4 (R.filter (leftS ts (p,f,c))):=(B5.grow g6).md m7 λm a e=>by have:=C _ a;have:=opt_lt aa e;omega
  refine(kv8 (T0.grow G7) (Q.grow G7) B7 hz (by omega)).call λv h8 ⟨e,g8⟩=>?_;subst e;refine qz rfl (qbb rfl (qz rfl (qz rfl (q0 λh9 b9 g9=>?_))));refine qz (kcc b9 (by rw[kww];rfl)) ?_;have F:=g8.trans g9;have W7:GF EP kw h7 Fp.no s js _:=GF.md m7 (λj a _=>a) (W.grow X) λk e e2=>ap k e2 e;obtain⟨s',ag,ax,az,ah⟩:=(W7.grow F).push (T:=Fp.no) (EP.of _ _) qbn (k1c (by rw[qb1];omega));refine qz ax (qz qco ?_);have ai:Md (Fp.opt js) h9 ag:=ah.md λk e=>e;rw[kj (by omega)];have z7:=m7.size;have z9:=F.size;have br:=b9.lt;have v7:h6.blks.size<h7.blks.size:=V7.lt
  have aj:(D0++(cutsTo ts[p] f++(List.range (c+1)).map λc=>(f,c)).map λx=>(p,x.1,x.2))=(D0++(cutsTo ts[p] f++(List.range c).map λc=>(f,c)).map λx=>(p,x.1,x.2))++[(p,f,c)]:=by rw[List.range_succ];simp
  refine ih (c+1) (by omega) ag l' (some h6.blks.size) s' (some h9.blks.size) ?_ ?_ ?_
  ·rw[aj];refine⟨(G7.trans F).updo ls ah,show _<=_ by omega,show _<=_ by omega,λk e e2=>by injection e with e;injection e2 with e2;omega,⟨λj=>(Fp.or S T4) j/\j<h6.blks.size,?_,?_,?_⟩,?_⟩
   ·exactλm hm=>hm.1.elim (hS m) λa=>by have:=C _ a;omega
   ·exactλhm=>by have:=hm.2;omega
   ·rw[List.map_append]
    have a0:=GF.md ai (T:=Fp.opt js) (S:=λj=>(Fp.or S T4) j/\j<h6.blks.size) (λm a e=>by
     rcases a.1 with a1 | a1
     ·subst e;exact nS a1
     ·have:=C _ a1;have:=opt_lt lts e;omega) (V7.grow F) (λk e e2=>by cases e;have:=opt_lt lts e2;omega)
    exact a0
   ·rw[List.map_append];exact az.mono (λj x=>x.1.elim id id) qbn
  ·exact ai.has (F.has (m7.has (X.has Z) λe=>K _ (.inl e) rfl)) λe=>K _ (.inr e) rfl
  ·have zb:=Z.lt;intro k hk;rcases hk with hk | hk<;>cases hk<;>omega
theorem k6p(T0:Tab h0)(Q:Sq EI h0 Sg gs g)(By:BitsAt h0 Sb z ys R)(hz:z<=g.length)(X:z<=256){p:Nat}(hp:p<ts.length)(ae:ts.length<=16){s1 s2 s3:Sl}{St:Fp}(qt:TabAt h0 St s1 s2 s3 ts[p])(hR:tabR ts[p]=true)(Y:ts[p].ids.length=z){b bt:Nat}(Z:b<h0.blks.size)(Bb:h0.has b [.i (z:Int),ys.v] kbe){D0:List Spl}(aa:D0.length<=16*512){H:Sl}{m1:Int}{P:AV->AH->Prop}
  (hP:∀h l jl s js,SplI h0 z ts g R (D0++kg0 p ts[p]) l jl s js h->Runs (go (.pt kcm kl7 [(1,gs.v),(5,.p (.new b 0)),(8,l.v),(9,s.v),(17,H.v),(18,.i m1),(19,.i ((p+1:Nat):Int))]) h) P) :
  ∀(k f:Nat),f+k=ts[p].cols.length->∀h l jl s js,SplI h0 z ts g R (D0++(cutsTo ts[p] f).map λx=>(p,x.1,x.2)) l jl s js h->h.has bt [s1.v,s2.v,s3.v] kcb->(∀k,jl=some k\/js=some k->k≠bt)->
  Runs (go (.pt kcm klu [(1,gs.v),(5,.p (.new b 0)),(8,l.v),(9,s.v),(10,.i (p:Int)),(11,.p (.new bt 0)),(17,H.v),(18,.i m1),(19,.i (p:Int)),(25,s2.v),(26,.i (ts[p].bins.length:Int)),(27,.i (f:Int))]) h) P:=by
 obtain⟨af,ac,C,K⟩:=ke2 hR;intro k
 induction k with
 | zero =>
  intro f hf h l jl s js I U A;obtain rfl:f=ts[p].cols.length:=by omega
  rw[kxl];refine qbc (qby (by omega)) ?_;rw[kj (by omega)];exact hP h l jl s js I
 | succ k ih =>
  intro f hf h l jl s js I U A;have F:f<ts[p].cols.length:=by omega
  obtain⟨hb,ah,ag,ai⟩:=kfj (K f F) F C;have ad:ts[p].bins.getD f 0=ts[p].bins[f]:=by simp[List.getD,hb]
  obtain⟨r,e1,e2⟩:=(qt.bins.grow I.grow).int hb;rw[kxl];refine qbb (qbx (by omega)) (qz e1 (qz e2 ?_));rw[wrap64 (by omega) (by omega),show ts[p].bins[f]-1=(nb ts[p] f:Int)from by unfold nb;rw[ad];omega];exact kbmf T0 Q By hz X hp qt hR Y Z Bb F aa (λh l jl s js I U A=>ih (f+1) (by omega) h l jl s js I U A) (nb ts[p] f) 0 (by omega) h l jl s js (by simpa using I) U A
theorem kbiv{p:Nat}{t:Tb}(Q:tabR t=true):(kg0 p t).length<=496:=by
 obtain⟨I,F,A,C⟩:=ke2 Q;unfold kg0;rw[qb1]
 have:=kqk t t.cols.length λi hi=>by
  obtain⟨H,U,K,-⟩:=kfj (C i hi) hi A;have:t.bins.getD i 0=t.bins[i]:=by simp[List.getD,H]
  unfold nb;rw[this];omega
 omega
theorem ksz(A:∀(p:Nat)(C:p<ts.length),tabR ts[p]=true):∀n,n<=ts.length->(kdw ts n).length<=496*n
 | 0,_=>by simp[kdw]
 | n+1,h=>by
  rw[ktn,qb0];have h1:=ksz A n (by omega);have:ts.getD n Tb.no=ts[n]:=by simp[List.getD,show n<ts.length by omega]
  rw[this];have F:=kbiv (p:=n) (A n (by omega));omega
theorem kbaa(T0:Tab h0)(Q:Sq EI h0 Sg gs g)(By:BitsAt h0 Sb z ys R)(hz:z<=g.length)(ac:z<=256)(H:ts.length<=16){K:Sl}{St:Fp}(Qt:Sq Ef.tb h0 St K ts)(U:∀(p:Nat)(hp:p<ts.length),tabR ts[p]=true/\ts[p].ids.length=z){b:Nat}(ad:b<h0.blks.size)(Bb:h0.has b [.i (z:Int),ys.v] kbe) :
  ∀(k p:Nat),p+k=ts.length->∀h l jl s js,SplI h0 z ts g R (kdw ts p) l jl s js h->
  Runs (go (.pt kcm kl7 [(1,gs.v),(5,.p (.new b 0)),(8,l.v),(9,s.v),(17,K.v),(18,.i (ts.length:Int)),(19,.i (p:Int))]) h) λv h'=>∃l jl s js,v=.tup [l.v,s.v]/\SplI h0 z ts g R (kbk ts) l jl s js h':=by
 intro k
 induction k with
 | zero =>
  intro p hp h l jl s js I;obtain rfl:p=ts.length:=by omega
  rw[kym];exact qbc (qby (by omega)) (qy ⟨l,jl,s,js,rfl,I⟩)
 | succ k ih =>
  intro p hp h l jl s js I;have A:p<ts.length:=by omega
  obtain⟨hR,ae⟩:=U p A;obtain⟨r,s1,s2,s3,e1,e2,e3,e4,qt⟩:=(Qt).tb A;have G:=I.grow;obtain⟨r',af,ag,ah,C,X,Y,Z,am⟩:=(Qt.grow G).tb A;rw[kym];rw[Qt.len]at C|-;refine qbb (qbx (by omega)) (qz C (qz X (qz Y (qz Z (q0 λh1 b1 g1=>qba b1 rfl λh2 b2 u2=>qcq b2 1 rfl ?_)))));have F:Grow h h2:=g1.updr (qbp _) u2
  have es:af=s1/\ag=s2/\ah=s3:=by
   rw[Qt.len]at e1;rw[e1]at C;cases C
   have f:∀(o:Nat)(a b:Sl),(h0.cell (r.add o)).bind AV.asSl=some a->(h.cell (r.add o)).bind AV.asSl=some b->b=a:=λo a b ha hb=>by obtain⟨v,hv,ai⟩:=qbu.1 ha;rw[G.cell_some hv,qbt,ai]at hb;cases hb;rfl
   exact⟨f 0 _ _ e2 X,f 1 _ _ e3 Y,f 2 _ _ e4 Z⟩
  obtain⟨rfl,rfl,rfl⟩:=es;have aj:ts.getD p Tb.no=ts[p]:=by simp[List.getD,A]
  have I2:SplI h0 z ts g R (kdw ts p) l jl s js h2:=by obtain⟨G,ll,ls,aa,⟨S,hS,nS,V⟩,W⟩:=I;exact⟨G.trans F,ll,ls,aa,⟨S,hS,nS,V.grow F⟩,W.grow F⟩
  have ak:∀k,jl=some k\/js=some k->k≠h.blks.size:=λk hk=>by
   obtain⟨G,ll,ls,aa,⟨S,hS,nS,V⟩,W⟩:=I;rcases hk with hk | hk
   ·have:=opt_lt V.lt hk;omega
   ·have:=opt_lt W.lt hk;omega
  have al:=ksz (λp hp=>(U p hp).1) p (by omega);rw[qt.bins.len];refine k6p T0 Q By hz ac A H qt hR ae ad Bb (bt:=h.blks.size) (D0:=kdw ts p) (by omega) (λh l jl s js I=>?_) ts[p].cols.length 0 (by omega) h2 l jl s js (by simpa[cutsTo]using I2) b2 ak;refine ih (p+1) (by omega) h l jl s js ?_;rw[ktn,aj];exact I
theorem k97(Y:Tab h0)(Q:Sq EI h0 Sg gs g)(Z:BitsAt h0 Sb z ys R)(hz:z<=g.length)(K:z<=256)(C:ts.length<=16){F:Sl}{St:Fp}(X:Sq Ef.tb h0 St F ts)(U:∀(p:Nat)(hp:p<ts.length),tabR ts[p]=true/\ts[p].ids.length=z) :
  Runs (go (.fn kcm [F.v,gs.v,.agg [.i (z:Int),ys.v]]) h0) λv h'=>Grow h0 h'/\∃(l s:Sl)(S S':Fp),v=.tup [l.v,s.v]/\Sq (Ef.spr z) h' S l ((kbk ts).map λx=>⟨x,R.filter (leftS ts x)⟩)/\Sq EP h' S' s (sumsS ts g R)/\∀m,S m->h0.blks.size<=m:=by
 rw[kbco];refine q0 λh1 b1 A=>?_;rw[X.len];refine(kbaa (Y.grow A) (Q.grow A) (Z.grow A) hz K C (X.grow A) U b1.lt b1 ts.length 0 (by omega) h1 _ none _ none ⟨ql _,trivial,trivial,(λk e=>by cases e),⟨Fp.no,λm x=>x.elim,trivial,GF.none _ _ _ _⟩,GF.none _ _ _ _⟩).imp λv h' ⟨l,jl,s,js,e,I⟩=>?_;obtain⟨G,ll,ls,aa,⟨S,hS,nS,V⟩,W⟩:=I;refine⟨A.trans G,l,s,_,_,e,V.sq,W.sq,λm H=>?_⟩;have:=A.size;rcases H with H | H
 ·have:=opt_ge ll H;omega
 ·have:=hS m H;omega
end
end Go.Ab
set_option maxRecDepth 10000
namespace Go.Ab
open Go.Proofs Go.Num Go.Heap
@[reducible] def Ef.wt(z:Nat):Ef Wt where
 w:=4
 pos:=by decide
 has h S cs x:=∃y:Sl,cs=[.i (x.place:Int),.i (x.deep:Int),.i (z:Int),y.v]/\BitsAt h S z y x.rows
 len:=λ⟨_,e,_⟩=>by rw[e];rfl
 grow g:=λ⟨a,e,n⟩=>⟨a,e,n.grow g⟩
 mono f:=λ⟨a,e,n⟩=>⟨a,e,n.mono f⟩
 upd no u:=λ⟨a,e,n⟩=>⟨a,e,n.upd no u⟩
 bound:=λ⟨a,e,n⟩=>⟨a,e,n.bound⟩
theorem kbl4{n:Nat}(h:n<=1000000):growOk Pg n kbp 4=true:=by
 unfold growOk;rw[kbht,kbc0];have h1:n*48<=ks:=by simp only[ks];omega
 have A:n*4<=ks:=by simp only[ks];omega
 have C:n<=ks:=by simp only[ks];omega
 simp[h1,A,C]
def keyW(x:Wt):Int:=(x.place:Int)
def QAt(z bq:Nat)(S:Fp)(q:List Wt)(k:Nat)(h:AH):Prop:=k≠bq/\¬S bq/\∃s:Sl,h.has bq [s.v] kyd/\GQ (Ef.wt z) kbp h S s k q
theorem QAt.grow{z bq k:Nat}{S:Fp}{q:List Wt}{h h':AH}(Q:QAt z bq S q k h)(g:Grow h h'):QAt z bq S q k h':=by obtain⟨a,b,s,B,V⟩:=Q;exact⟨a,b,s,g.has B,V.grow g⟩
theorem QAt.md{z bq k:Nat}{S T:Fp}{q:List Wt}{h h':AH}(Q:QAt z bq S q k h)(m:Md T h h')(d:Dis S T)(n1:¬T k)(A:¬T bq):QAt z bq S q k h':=by obtain⟨a,b,s,B,V⟩:=Q;exact⟨a,b,s,m.has B A,V.md m d n1⟩
theorem QAt.lt{z bq k:Nat}{S:Fp}{q:List Wt}{h:AH}(Q:QAt z bq S q k h):k<h.blks.size/\bq<h.blks.size:=by obtain⟨a,b,s,B,V⟩:=Q;exact⟨V.lt,B.lt⟩
theorem at_key(q:List Wt){i:Nat}(hi:i<q.length):at' keyW q i=(q[i].place:Int):=by unfold at' keyW;rw[qb4 hi];rfl
section
variable{z bq k:Nat}{S:Fp}{q:List Wt}{h:AH}{s:Sl}
theorem wt_at(V:GQ (Ef.wt z) kbp h S s k q){i:Nat}(hi:i<q.length):∃(r:Ref)(y:Sl),idx s.ref s.len (i:Int) 4=some r/\(h.cell (r.add 0)).bind (AV.asInt .i64)=some (q[i].place:Int)/\(h.cell (r.add 1)).bind (AV.asInt .i64)=some (q[i].deep:Int)/\(h.cell (r.add 2)).bind (AV.asInt .i64)=some (z:Int)/\(h.cell (r.add 3)).bind AV.asSl=some y/\BitsAt h S z y q[i].rows:=by obtain⟨r,cs,A,⟨y,rfl,B⟩,l⟩:=V.at hi;have g:=ql h;exact⟨r,y,A,l.rd g 0 rfl qcp,l.rd g 1 rfl qcp,l.rd g 2 rfl qcp,l.rd g 3 rfl qco,B⟩
theorem ktz(V:GQ (Ef.wt z) kbp h S s k q){i j:Nat}(hi:i<q.length)(A:j<q.length):go (.fn kgz [s.v,.i (i:Int),.i (j:Int)]) h=some (.bool (decide (at' keyW q i<at' keyW q j)),h):=by obtain⟨r1,H,C,a1,-⟩:=wt_at V hi;obtain⟨r2,I,F,a2,-⟩:=wt_at V A;rw[kbkd,C,qbt,a1,qbt,F,qbt,a2,qbt,at_key q hi,at_key q A]
theorem kzk(V:GQ (Ef.wt z) kbp h S s k q){i j:Nat}(hi:i<q.length)(C:j<q.length):Runs (go (.fn kha [s.v,.i (i:Int),.i (j:Int)]) h) λv h'=>v=.tup []/\GQ (Ef.wt z) kbp h' S s k (swapL q i j)/\Upd h h' k:=by
 obtain⟨r1,U,X,Y,a1,a2,a3,B1⟩:=wt_at V C;obtain⟨r2,Z,F,c0,c1,c2,c3,B2⟩:=wt_at V hi;rw[kbji];refine qz X (qz Y (qz a1 (qz a2 (qz a3 (qz F (qz c0 (qz c1 (qz c2 (qz c3 (qz F ?_))))))))));have A:=V.not;obtain⟨r3,h1,K,p3,H,Q⟩:=V.set (T:=S) (x:=q[j]) (show(Ef.wt z).has h S _ q[j]from⟨U,rfl,B1⟩) A hi;rw[F]at K;cases K;refine qz p3 ?_;have H:=H.mono (T:=S) (λj x=>x.elim id id) A;have I:j<(q.set i q[j]).length:=by rw[qb7];exact C
 obtain⟨r4,h2,e4,p4,V2,u2⟩:=H.set (T:=S) (x:=q[i]) (show(Ef.wt z).has h1 S _ q[i]from⟨Z,rfl,B2.upd A Q⟩) A I;refine qz e4 (qz p4 (qy ⟨rfl,?_,Q.trans u2⟩))
 have:swapL q i j=(q.set i q[j]).set j q[i]:=by unfold swapL;rw[qb4 hi,qb4 C]
 rw[this];exact V2.mono (T:=S) (λj x=>x.elim id id) A
theorem k9t{U:Int}{n:Nat}(ac:n<=1000000):∀(m i:Nat),n<=m+i->i<=1000000->∀(h:AH)(q:List Wt),n<=q.length->QAt z bq S q k h->
  Runs (go (.pt kfe kjc [(0,.iface kb2 (.p (.new bq 0))),(1,.i U),(2,.i (n:Int)),(7,.i (i:Int))]) h) λv h'=>(∃b,v=.bool b)/\QAt z bq S (downL keyW n m i q) k h'/\Md (λj=>j=k) h h':=by
 intro m
 induction m with
 | zero =>
  intro i hm hi h q hq Q;rw[kwq];rw[wrap64 (n:=2*(i:Int)) (by omega) (by omega),wrap64 (n:=2*(i:Int)+1) (by omega) (by omega)];exact qbb (qbx (by omega)) (qy ⟨⟨_,rfl⟩,Q,Md.refl _ _⟩)
 | succ m ih =>
  intro i hm hi h q hq Q;rw[kwq];rw[wrap64 (n:=2*(i:Int)) (by omega) (by omega),wrap64 (n:=2*(i:Int)+1) (by omega) (by omega),wrap64 (n:=2*(i:Int)+1+1) (by omega) (by omega),show 2*(i:Int)+1+1=((2*i+2:Nat):Int)from by omega,show 2*(i:Int)+1=((2*i+1:Nat):Int)from by omega];refine qbd (λc=>?_) λc=>?_
  ·rw[qbw]at c;refine qy ⟨⟨_,rfl⟩,?_,Md.refl _ _⟩;unfold downL;rw[if_neg (by omega)];exact Q
  rw[qbv]at c;refine qbc (qby (by omega)) ?_;obtain⟨X,hb,s,B,V⟩:=Q;have h1:2*i+1<n:=by omega
  have H:∀j:Nat,j<n->j≠i->kidL keyW n i q=j->Runs (((h.cell (.new bq 0)).bind AV.asSl).bind λY=>(go (.fn kgz [Y.v,.i (j:Int),.i (i:Int)]) h).bind λC=>((some C.1).bind AV.asBool).bind λZ=>cond (!Z) (some (.bool (decide ((i:Int)>U)),C.2)) (((C.2.cell (.new bq 0)).bind AV.asSl).bind λaa=>(go (.fn kha [aa.v,.i (i:Int),.i (j:Int)]) C.2).bind λI=>(AV.asTup0 I.1).bind λ_=>go (.pt kfe kjc [(0,.iface kb2 (.p (.new bq 0))),(1,.i U),(2,.i (n:Int)),(7,.i (j:Int))]) I.2)) λv h'=>(∃b,v=.bool b)/\QAt z bq S (downL keyW n (m+1) i q) k h'/\Md (λj=>j=k) h h':=by
   intro j hj ad F;refine qz (B.rd0 rfl qco) (qz (ktz V (i:=j) (j:=i) (by omega) (by omega)) (qz (seen rfl) ?_));refine qbd (λA=>?_) λA=>?_
   ·rw[qci,qbv]at A;refine qy ⟨⟨_,rfl⟩,?_,Md.refl _ _⟩;unfold downL;rw[if_pos h1,F,if_neg A];exact⟨X,hb,s,B,V⟩
   ·rw[qcj,qbw]at A;refine qz (B.rd0 rfl qco) ?_;refine(kzk V (i:=i) (j:=j) (by omega) (by omega)).call λv h2 ⟨e,V2,u2⟩=>?_;subst e;refine qz rfl ?_;have:=ih j (by rcases kse keyW n i q with⟨e,_⟩ | ⟨e,_⟩<;>omega) (by omega) h2 (swapL q i j) (by rw[kg5];exact hq) ⟨X,hb,s,B.updr (λe=>X e.symm) u2,V2⟩;refine this.imp λv h' ⟨e,Q',md⟩=>⟨e,?_,(u2.md (T:=λj=>j=k) rfl).trans md⟩;unfold downL;rw[if_pos h1,F,if_pos A];exact Q'
  refine qbd (λK=>?_) λK=>?_
  ·rw[qbw]at K;refine qz (B.rd0 rfl qco) (qz (ktz V (i:=2*i+2) (j:=2*i+1) (by omega) (by omega)) (qz (seen rfl) ?_));refine qbd (λA=>?_) λA=>?_
   ·rw[qbw]at A;exact H (2*i+2) (by omega) (by omega) (by unfold kidL;rw[if_pos ⟨by omega,A⟩])
   ·rw[qbv]at A;exact H (2*i+1) (by omega) (by omega) (by unfold kidL;rw[if_neg λhh=>A hh.2])
  ·rw[qbv]at K;exact H (2*i+1) (by omega) (by omega) (by unfold kidL;rw[if_neg λhh=>K (by omega)])
theorem kbjm(Q:QAt z bq S q k h)(hq:0<q.length)(aa:q.length<=1000){x:Wt}(Z:(downL keyW (q.length-1) q.length 0 (swapL q 0 (q.length-1)))[q.length-1]?=some x) :
  Runs (go (.fn kt1 [.iface kb2 (.p (.new bq 0))]) h) λv h'=>∃y:Sl,v=.iface kbp (.agg [.i (x.place:Int),.i (x.deep:Int),.i (z:Int),y.v])/\BitsAt h' S z y x.rows/\QAt z bq S (popL keyW q) k h'/\Md (λj=>j=k\/j=bq) h h':=by
 obtain⟨C,F,s,B,V⟩:=Q;rw[kbml];refine qz (B.rd0 rfl qco) (qz (kp1 _ _) (qz (seen rfl) (qz (B.rd0 rfl qco) ?_)));have ln:s.len=q.length:=V.sq.len;dsimp only;rw[ln,wrap64 (n:=(q.length:Int)-1) (by omega) (by omega),show(q.length:Int)-1=((q.length-1:Nat):Int)from by omega];refine(kzk V (i:=0) (j:=q.length-1) (by omega) (by omega)).call λv h1 ⟨e,V1,u1⟩=>?_;subst e;refine qz rfl ?_;have B1:=B.updr (λe=>C e.symm) u1
 have kd:Runs (go (.fn kfe [.iface kb2 (.p (.new bq 0)),.i 0,.i ((q.length-1:Nat):Int)]) h1) λv h'=>(∃b,v=.bool b)/\QAt z bq S (downL keyW (q.length-1) q.length 0 (swapL q 0 (q.length-1))) k h'/\Md (λj=>j=k) h1 h':=by rw[kbcn];exact k9t (by omega) q.length 0 (by omega) (by omega) h1 _ (by rw[kg5];omega) ⟨C,F,s,B1,V1⟩
 refine kd.call λv K ⟨⟨b,e⟩,⟨_,_,s2,B2,U⟩,m2⟩=>?_;subst e;refine qz (seen rfl) ?_;generalize hd:downL keyW (q.length-1) q.length 0 (swapL q 0 (q.length-1))=d at *
 have ac:d.length=q.length:=by rw[<- hd,kv5,kg5]
 have hi:q.length-1<d.length:=by omega
 have X:d[q.length-1]=x:=by
  rw[qb4 hi]at Z
  simpa using Z
 have ad:s2.len=d.length:=U.sq.len;obtain⟨r,y,e1,a0,a1,a2,a3,By⟩:=wt_at U hi;rw[X]at a0 a1 By
 have kp:Runs (go (.fn kuv [.p (.new bq 0)]) K) λv h'=>v=.iface kbp (.agg [.i (x.place:Int),.i (x.deep:Int),.i (z:Int),y.v])/\QAt z bq S (d.take (q.length-1)) k h'/\BitsAt h' S z y x.rows/\Md (λj=>j=bq) K h':=by rw[k9z,qbt];refine qz (B2.rd0 rfl qco) ?_;rw[qbt];refine qz (B2.rd0 rfl qco) ?_;rw[wrap64 (n:=(s2.len:Int)-1) (by omega) (by omega),show(s2.len:Int)-1=((q.length-1:Nat):Int)from by omega];refine qz e1 (qz a0 (qz a1 (qz a2 (qz a3 (q0 λh3 b3 g3=>qba b3 rfl λh4 b4 u4=>?_)))));have A:Grow K h4:=g3.updr (qbp _) u4;rw[qbt];have B4:=A.has B2;refine qz (B4.rd0 rfl qco) ?_;obtain⟨s5,e5,V5⟩:=(U.grow A).cut (n:=q.length-1) (by omega);refine qz e5 ?_;rw[qbt];refine qba B4 rfl λh6 B6 H=>?_;have zb:=B2.lt;have I:=b4.updr (i:=bq) (by omega) H;refine qcr I 0 rfl (qcr I 1 rfl (qcr I 2 rfl (qcq I 3 rfl (qy ⟨rfl,⟨C,F,s5,B6,V5.upd H F C⟩,(By.grow A).upd F H,(A.md _).trans (H.md rfl)⟩))))
 refine kp.call λv h3 ⟨e,Q3,Y,m3⟩=>?_;subst e;refine qy ⟨y,rfl,Y,?_,?_⟩
 ·unfold popL;rw[hd];exact Q3
 ·exact((u1.md (.inl rfl)).trans (m2.mono λ_ _ e=>.inl e)).trans (m3.mono λ_ _ e=>.inr e)
theorem k4w(Q:QAt z bq S q k h)(ae:q.length<=1000){x:Wt}{y:Sl}{C:Fp}(By:BitsAt h C z y x.rows)(nk:¬C k)(nb:¬C bq)(hx:∀w∈q,keyW w<=keyW x) :
  Runs (go (.fn kpb [.iface kb2 (.p (.new bq 0)),.iface kbp (.agg [.i (x.place:Int),.i (x.deep:Int),.i (z:Int),y.v])]) h) λv h'=>v=.tup []/\∃(F:Fp)(A:Nat),(∀m,F m->S m\/C m)/\QAt z bq F (q++[x]) A h'/\Md (λj=>j=k\/j=bq) h h'/\(A=k\/h.blks.size<=A):=by
 obtain⟨hk,hb,s,B,V⟩:=Q;rw[kbf3];have zb:=B.lt;have zk:=V.lt
 have kp:Runs (go (.fn kss [.p (.new bq 0),.iface kbp (.agg [.i (x.place:Int),.i (x.deep:Int),.i (z:Int),y.v])]) h) λv h'=>v=.tup []/\∃(F:Fp)(A:Nat),(∀m,F m->S m\/C m)/\QAt z bq F (q++[x]) A h'/\Md (λj=>j=k\/j=bq) h h'/\(A=k\/h.blks.size<=A):=by
  rw[k8w,qbt];refine qz (B.rd0 rfl qco) (q0 λh1 b1 I=>?_);refine qbe (I.same B 0 1) ?_;refine qz (kcc b1 (by rw[k55];rfl)) ?_;obtain⟨s',Y,A,Z,X,u2,H⟩:=(V.grow I).push (T:=C) (show(Ef.wt z).has h1 C _ x from⟨y,rfl,By.grow I⟩) nk (kbl4 (by omega));refine qz Z (qz qco ?_);rw[qbt];have B2:=(I.has B).updr (i:=k) (λe=>hk e.symm) u2;have z1:=I.size
  have K:A≠bq:=by
   rcases H with rfl | rfl
   ·exact hk
   ·omega
  have U:¬((Fp.or S C) bq/\bq<h1.blks.size):=λx=>x.1.elim hb nb;refine qba B2 rfl λh3 B3 u3=>qy ⟨rfl,_,A,λm x=>x.1,⟨K,U,s',B3,X.upd u3 U K⟩,?_,?_⟩
  ·exact((I.md _).trans (u2.md (.inl rfl))).trans (u3.md (.inr rfl))
  ·rcases H with rfl | rfl
   ·exact .inl rfl
   ·exact .inr z1
 refine kp.call λv Y ⟨e,F,A,aa,Q2,m2,ac⟩=>?_;subst e;refine qz rfl ?_;have ad:=Q2;obtain⟨H,af,s2,B2,X⟩:=Q2;have ln:s2.len=q.length+1:=by rw[X.sq.len,qb0];rfl
 refine qz (B2.rd0 rfl qco) (qz (kp1 _ _) (qz (seen rfl) ?_));dsimp only;rw[ln,wrap64 (n:=((q.length+1:Nat):Int)-1) (by omega) (by omega),show((q.length+1:Nat):Int)-1=(q.length:Int)from by omega]
 have ku:Runs (go (.fn kj2 [.iface kb2 (.p (.new bq 0)),.i (q.length:Int)]) Y) λv h'=>v=.tup []/\h'=Y:=by
  rw[k7b,k7m];refine qbd (λc=>qy ⟨rfl,rfl⟩) λc=>?_;rw[qbv]at c;by_cases h0:q.length=0
  ·rw[h0]at c;exact absurd (by decide) c
  ·rw[wrap64 (n:=(q.length:Int)-1) (by omega) (by omega),show(q.length:Int)-1=((q.length-1:Nat):Int)from by omega,show Int.tdiv ((q.length-1:Nat):Int) 2=(((q.length-1)/2:Nat):Int)from rfl,wrap64 (n:=(((q.length-1)/2:Nat):Int)) (by omega) (by omega)];have hl:(q++[x]).length=q.length+1:=by simp
   refine qz (B2.rd0 rfl qco) (qz (ktz X (i:=q.length) (j:=(q.length-1)/2) (by omega) (by omega)) (qz (seen rfl) ?_));refine qbb ?_ (qy ⟨rfl,rfl⟩);rw[qci,qbv];have hm:(q.length-1)/2<q.length:=by omega
   have e1:at' keyW (q++[x]) q.length=keyW x:=by unfold at';rw[List.getElem?_append_right (qbp _)];simp
   have Z:at' keyW (q++[x]) ((q.length-1)/2)=keyW q[(q.length-1)/2]:=by unfold at';rw[List.getElem?_append_left hm,qb4 hm];rfl
   rw[e1,Z];have:=hx _ (qb3 hm);omega
 refine ku.call λv h3 ⟨e,e'⟩=>?_;subst e;subst e';exact qz rfl (qy ⟨rfl,F,A,aa,ad,m2,ac⟩)
end
theorem ksp{n:Nat}(h:n<=1000000):growOk Pg n kbj 7=true:=by
 unfold growOk;rw[k47,k2l];have h1:n*56<=ks:=by simp only[ks];omega
 have A:n*7<=ks:=by simp only[ks];omega
 have C:n<=ks:=by simp only[ks];omega
 simp[h1,A,C]
theorem klr(w:Int):∀(R:List Nat)(sc:List Int),(addS w R sc).length=sc.length
 | [],_=>rfl
 | i::R,sc=>by unfold addS;rw[List.foldl_cons];have:=klr w R (sc.set i (IntKind.wrap .i64 (sc.getD i 0+w)));unfold addS at this;rw[this,qb7]
structure Pl where
 c:Nat
 r:Nat
 t:Nat
 q:Nat
 s:Nat
 n:Nat
 k:Nat
def Pl.all(p:Pl)(j:Nat):Prop:=j=p.c\/j=p.r\/j=p.t\/j=p.q\/j=p.s\/j=p.n\/j=p.k
structure Pl.ok(p:Pl):Prop where
 cr:p.c≠p.r
 ct:p.c≠p.t
 cq:p.c≠p.q
 cs:p.c≠p.s
 cn:p.c≠p.n
 ck:p.c≠p.k
 rt:p.r≠p.t
 rq:p.r≠p.q
 rs:p.r≠p.s
 rn:p.r≠p.n
 rk:p.r≠p.k
 tq:p.t≠p.q
 ts:p.t≠p.s
 tn:p.t≠p.n
 tk:p.t≠p.k
 qs:p.q≠p.s
 qn:p.q≠p.n
 qk:p.q≠p.k
 sn:p.s≠p.n
 sk:p.s≠p.k
 nk:p.n≠p.k
def Cfg.cells(c:Cfg):List AV:=[.i c.trees,.i c.depth,.i c.lambda,.i c.gamma,.i c.num,.i c.den,.i c.loss,.i c.clip]
structure GrAt(c:Cfg)(z:Nat)(scs:Sl)(p:Pl)(q:List Wt)(nodes:List Nd)(sc:List Int)(h:AH):Prop where
 ok:p.ok
 cfg:h.has p.c c.cells kbn
 res:h.has p.r [nV] kbu
 tree:∃nd:Sl,h.has p.t [nd.v] kbu/\GF Ef.nd kbj h Fp.no nd (some p.n) nodes
 que:∃S:Fp,(∀m,S m->¬p.all m)/\QAt z p.q S q p.k h
 sco:GF EI T.int h Fp.no scs (some p.s) sc
def Pl.ch(p:Pl)(j:Nat):Prop:=j=p.r\/j=p.t\/j=p.q\/j=p.s\/j=p.n\/j=p.k
section
variable{hE:AH}{c:Cfg}{z:Nat}{scs gs tsl:Sl}{p:Pl}{q:List Wt}{nodes:List Nd}{sc g:List Int}{ts:List Tb}{h:AH}
theorem GrAt.grow(A:GrAt c z scs p q nodes sc h){h':AH}(G:Grow h h'):GrAt c z scs p q nodes sc h':=by obtain⟨ok,cfg,res,⟨nd,B,V⟩,⟨S,C,Q⟩,sco⟩:=A;exact⟨ok,G.has cfg,G.has res,⟨nd,G.has B,V.grow G⟩,⟨S,C,Q.grow G⟩,sco.grow G⟩
theorem GrAt.lt(A:GrAt c z scs p q nodes sc h):∀j,p.all j->j<h.blks.size:=by
 obtain⟨ok,cfg,res,⟨nd,B,V⟩,⟨S,C,Q⟩,sco⟩:=A
 rintro j (rfl | rfl | rfl | rfl | rfl | rfl | rfl)
 ·exact cfg.lt
 ·exact res.lt
 ·exact B.lt
 ·exact Q.lt.2
 ·exact sco.lt
 ·exact V.lt
 ·exact Q.lt.1
theorem kbk1{w:Int}{x:Sl}{R:List Nat}(hR:∀i∈R,i<sc.length)(hl:R.length<=100000){P:AV->AH->Prop} :
  ∀(k i:Nat),i+k=R.length->∀(h:AH)(C:List Int),(∃K:Fp,¬K p.s/\Sq EI h K x (zs R))->C.length=sc.length->GrAt c z scs p q nodes C h->C=addS w (R.take i) sc->(∀h',Md (λj=>j=p.s) h h'->GrAt c z scs p q nodes (addS w R sc) h'->Runs (go (.pt kb6 kgx [(1,tsl.v),(2,gs.v),(3,scs.v),(4,.p (.new p.c 0)),(8,.p (.new p.r 0)),(11,.p (.new p.t 0)),(12,.p (.new p.q 0))]) h') P)->
  Runs (go (.pt kb6 kpc [(1,tsl.v),(2,gs.v),(3,scs.v),(4,.p (.new p.c 0)),(8,.p (.new p.r 0)),(11,.p (.new p.t 0)),(12,.p (.new p.q 0)),(18,.i w),(92,x.v),(93,.i (R.length:Int)),(94,.i (i:Int))]) h) P:=by
 intro k
 induction k with
 | zero =>
  intro i hi h C X H A e Y;obtain rfl:i=R.length:=by omega
  rw[List.take_length]at e;subst e;rw[kxi];exact qbc (qby (by omega)) (Y h (Md.refl _ _) A)
 | succ k ih =>
  intro i hi h C ⟨K,nx,X⟩ H A e Y;have I:i<R.length:=by omega
  have hz:i<(zs R).length:=by rw[zs_len];exact I
  obtain⟨r1,e1,e2⟩:=X.int hz;have ex:(zs R)[i]=((R[i]:Nat):Int):=by simp[zs]
  rw[ex]at e2;have Z:R[i]<C.length:=by rw[H];exact hR _ (qb3 I)
  have ln:scs.len=C.length:=A.sco.len;obtain⟨r2,e3,e4⟩:=A.sco.sq.int Z;rw[kxi];refine qbb (qbx (by omega)) (qz e1 (qz e2 (qz e3 (qz e4 (qz e3 ?_)))));have aa:C.getD R[i] 0=C[R[i]]:=by simp[List.getD,Z]
  obtain⟨r3,h1,U,p5,V5,F⟩:=A.sco.set (T:=Fp.no) (x:=IntKind.wrap .i64 (C[R[i]]+w)) (show EI.has h Fp.no [.i (IntKind.wrap .i64 (C[R[i]]+w))] _ from rfl) qbm (kbi Z);have U:idx scs.ref C.length ((R[i]:Nat):Int) 1=some r3:=U;rw[<- ln,e3]at U;cases U;refine qz p5 ?_;rw[kj (by omega)];have F:Upd h h1 p.s:=F
  have A1:GrAt c z scs p q nodes (C.set R[i] (IntKind.wrap .i64 (C[R[i]]+w))) h1:=by obtain⟨ok,cfg,res,⟨nd,B,V⟩,⟨S,hS,Q⟩,sco⟩:=A;refine⟨ok,cfg.updr ok.cs F,res.updr ok.rs F,⟨nd,B.updr ok.ts F,V.upd F qbm λk e=>by cases e;exact ok.sn.symm⟩,⟨S,hS,Q.md (F.md (T:=λj=>j=p.s) rfl) (λj a e=>hS j a (by subst e;simp[Pl.all])) ok.sk.symm ok.qs⟩,V5.mono (λj x=>x.elim id id) qbm⟩
  refine ih (i+1) (by omega) h1 _ ⟨K,nx,X.upd nx F⟩ (by rw[qb7];exact H) A1 ?_ λh' m A'=>Y h' ((F.md (T:=λj=>j=p.s) rfl).trans m) A';rw[qch I];unfold addS at e|-;rw[List.foldl_append,List.foldl_cons,List.foldl_nil,<- e,aa]
end
theorem kbd3(c:Cfg)(s:Int×Int){h:AH}:Runs (go (.fn kmi [.agg [.i c.trees,.i c.depth,.i c.lambda,.i c.gamma,.i c.num,.i c.den,.i c.loss,.i c.clip],.agg [.i s.1,.i s.2]]) h) λv h'=>(∃e:Int,v=.tup [.i (kcu c s),.i e])/\Grow h h':=(kbav c.trees c.depth c.lambda c.gamma c.num c.den c.loss c.clip s.1 s.2).imp λv h' ⟨e,g⟩=>⟨⟨_,e⟩,g⟩
section
variable{c:Cfg}{z:Nat}{scs gs tsl y sb l:Sl}{p:Pl}{q:List Wt}{nodes:List Nd}{sc g:List Int}{ts:List Tb}{h:AH}{Sy Sl':Fp}{x:Wt}
theorem GrAt.setn(A:GrAt c z scs p q nodes sc h){i:Nat}(hi:i<nodes.length)(y:Nd):∃(nd:Sl)(r:Ref)(h':AH),h.has p.t [nd.v] kbu/\idx nd.ref nd.len (i:Int) 7=some r/\h.puts r y.cells=some h'/\Upd h h' p.n/\GrAt c z scs p q (nodes.set i y) sc h':=by obtain⟨ok,cfg,res,⟨nd,B,V⟩,⟨S,H,Q⟩,sco⟩:=A;obtain⟨r,h1,F,I,K,C⟩:=V.set (T:=Fp.no) (x:=y) (show Ef.nd.has h Fp.no y.cells y from rfl) qbm (kbi hi);have C:Upd h h1 p.n:=C;have F:idx nd.ref nodes.length (i:Int) 7=some r:=F;rw[<- V.len]at F;refine⟨nd,r,h1,B,F,I,C,ok,cfg.updr ok.cn C,res.updr ok.rn C,⟨nd,B.updr ok.tn C,K.mono (λj x=>x.elim id id) qbm⟩,⟨S,H,Q.md (C.md (T:=λj=>j=p.n) rfl) (λj a e=>H j a (by subst e;simp[Pl.all])) ok.nk.symm ok.qn⟩,sco.upd C qbm λk e=>by cases e;exact ok.sn⟩
theorem kbc2(T0:Tab h)(A:GrAt c z scs p q nodes sc h){F Q:Nat}(ac:¬p.all F)(U:h.has F [.i (x.place:Int),.i (x.deep:Int),.i (z:Int),y.v] kbp)(Y:h.has Q [.i (sumR g x.rows).1,.i (sumR g x.rows).2] kw)(By:BitsAt h Sy z y x.rows)(ad:∀m,Sy m->¬p.all m)(ae:x.place<nodes.length)(Z:sc.length=z)(hz:z<=256)(af:sb.len=0){P:AV->AH->Prop}
  (hP:∀h',Md p.ch h h'->GrAt c z scs p q (nodes.set x.place (leafN (kcu c (sumR g x.rows)))) (addS (kcu c (sumR g x.rows)) x.rows sc) h'->Runs (go (.pt kb6 kgx [(1,tsl.v),(2,gs.v),(3,scs.v),(4,.p (.new p.c 0)),(8,.p (.new p.r 0)),(11,.p (.new p.t 0)),(12,.p (.new p.q 0))]) h') P) :
  Runs (go (.pt kb6 kke [(1,tsl.v),(2,gs.v),(3,scs.v),(4,.p (.new p.c 0)),(8,.p (.new p.r 0)),(11,.p (.new p.t 0)),(12,.p (.new p.q 0)),(13,.p (.new F 0)),(14,.p (.new Q 0)),(15,sb.v),(16,l.v)]) h) P:=by
 have H:=By.lt;rw[k0p,af];have C:=A.cfg;refine qbb rfl ?_;refine rd8 C (qcr Y 0 rfl (qcr Y 1 rfl ?_));refine(kbd3 c (sumR g x.rows)).call λv h1 ⟨⟨e,he⟩,K⟩=>?_;subst he;refine qz rfl (qz (seen qcp) (qz (seen qcp) ?_));dsimp only;have A1:=A.grow K;obtain⟨nd,r,h2,Bt,e1,p2,u2,A2⟩:=A1.setn ae (leafN (kcu c (sumR g x.rows)));refine qcq Bt 0 rfl (qcr (K.has U) 0 rfl (qz e1 (qz p2 ?_)));have aa:F≠p.n:=λe=>ac (by subst e;simp[Pl.all]);have I:=(K.has U).updr aa u2;refine qcr I 2 rfl (qcq I 3 rfl ?_);have ag:=(By.grow K).upd (λx=>ad _ x (by simp[Pl.all])) u2;obtain⟨w,N,a,rr,ll⟩:=ag;have T2:Tab h2:=(T0.grow K).md (u2.md (T:=λj=>j=p.n) rfl);refine(kxb (n:=(z:Int)) T2 N).call λv h3 ⟨g3,xl,j,e,lj,X⟩=>?_;subst e;rw[ll]at X;refine qz (seen qco) ?_;rw[X.len,zs_len];have ah:x.rows.length<=z:=by have:=H.length_le;rwa[qcl]at this
 have A3:=A2.grow g3;have hs:=A2.lt p.s (by simp[Pl.all]);refine kbk1 (sc:=sc) (λi hi=>by rw[Z];exact qcm.1 (H.subset hi)) (by omega) x.rows.length 0 (by omega) h3 sc ⟨_,?_,X.sq⟩ rfl A3 rfl λh' m A'=>hP h' ?_ A'
 ·rintro (k | k)
  ·have:=opt_ge lj k;omega
  ·exact k
 ·exact((K.md _).trans ((u2.md (T:=p.ch) (by simp[Pl.ch])).thenG g3)).trans (m.mono λj _ e=>by subst e;simp[Pl.ch])
end
theorem k79{z:Nat}{w R:List Nat}(r:btR (z:Int) w=true)(l:btL (z:Int) w=R){i:Nat}(hi:i<z):wbit w i=decide (i∈R):=by rw[<- l];unfold btL;rw[r,if_pos rfl,Int.toNat_natCast,Bool.eq_iff_iff,qbw,qck,qcm];exact⟨λh=>⟨hi,h⟩,λh=>h.2⟩
section
variable{c:Cfg}{z:Nat}{scs gs tsl y sb l:Sl}{p:Pl}{q:List Wt}{nodes:List Nd}{sc g:List Int}{ts:List Tb}{h:AH}{Sy Sl' Sb:Fp}{x:Wt}{b:Int}{bs:List Int}
theorem Sq.spr{L:List SpR}(n:Sq (Ef.spr z) h Sl' l L){i:Nat}(hi:i<L.length):∃(r:Ref)(y:Sl),idx l.ref l.len (i:Int) 9=some r/\(h.cell (r.add 0)).bind AV.asBool=some false/\(h.cell (r.add 1)).bind (AV.asInt .i64)=some 0/\(h.cell (r.add 2)).bind (AV.asInt .i64)=some (L[i].spl.1:Int)/\(h.cell (r.add 3)).bind (AV.asInt .i64)=some (L[i].spl.2.1:Int)/\(h.cell (r.add 4)).bind (AV.asInt .i64)=some (L[i].spl.2.2:Int)/\(h.cell (r.add 5)).bind (AV.asInt .i64)=some 0/\(h.cell (r.add 6)).bind (AV.asInt .i64)=some 0/\(h.cell (r.add 7)).bind (AV.asInt .i64)=some (z:Int)/\(h.cell (r.add 8)).bind AV.asSl=some y/\BitsAt h Sl' z y L[i].rows:=by obtain⟨r,cs,A,⟨y,rfl,B⟩,k⟩:=n.at (kh8 hi);rw[n.len];have g:=ql h;exact⟨r,y,A,k.rd g 0 rfl rfl,k.rd g 1 rfl qcp,k.rd g 2 rfl qcp,k.rd g 3 rfl qcp,k.rd g 4 rfl qcp,k.rd g 5 rfl qcp,k.rd g 6 rfl qcp,k.rd g 7 rfl qcp,k.rd g 8 rfl qco,B⟩
theorem kbbs(T0:Tab h)(A:GrAt c z scs p q nodes sc h){ba c0:Nat}(bb:¬p.all ba)(bq:h.has ba [.i (x.place:Int),.i (x.deep:Int),.i (z:Int),y.v] kbp)(By:BitsAt h Sy z y x.rows)(br:∀m,Sy m->¬p.all m)(c1:x.place<nodes.length)(hn:nodes.length<=63)(hq:q.length<=64)(c2:x.deep<=64)(hz:z<=256)(bt:∀w∈q,w.place<nodes.length)(bc:Sq (Ef.int .i64) h Sb sb (b::bs)){L:List SpR}(hL:Sq (Ef.spr z) h Sl' l L)(ad:∀m,Sl' m->¬p.all m){j:Nat}(hb:b=(j:Int))(hj:j<L.length)(bu:L[j].rows=x.rows.filter (leftS ts L[j].spl)){P:AV->AH->Prop}
  (hP:∀(h':AH)(p':Pl),p'.c=p.c->p'.r=p.r->p'.t=p.t->p'.q=p.q->p'.s=p.s->Md p.ch h h'->(p'.n=p.n\/h.blks.size<=p'.n)->(p'.k=p.k\/h.blks.size<=p'.k)->GrAt c z scs p' (q++kidsS ts x L[j].spl nodes.length) (nodes.set x.place (splitN L[j].spl nodes.length (nodes.length+1))++[Nd.no,Nd.no]) sc h'->Runs (go (.pt kb6 kgx [(1,tsl.v),(2,gs.v),(3,scs.v),(4,.p (.new p.c 0)),(8,.p (.new p.r 0)),(11,.p (.new p.t 0)),(12,.p (.new p.q 0))]) h') P) :
  Runs (go (.pt kb6 kke [(1,tsl.v),(2,gs.v),(3,scs.v),(4,.p (.new p.c 0)),(8,.p (.new p.r 0)),(11,.p (.new p.t 0)),(12,.p (.new p.q 0)),(13,.p (.new ba 0)),(14,.p (.new c0 0)),(15,sb.v),(16,l.v)]) h) P:=by
 have bv:=By.lt;have Q:=A.lt;have c3:=bq.lt;rw[k0p];have ln:sb.len=bs.length+1:=bc.len;have ef:=bc.short;refine qbc (qby (by omega)) ?_;obtain⟨r1,e1,e2⟩:=bc.int (i:=0) (by simp);have c4:(h.cell r1).bind (AV.asInt .i64)=some (j:Int):=by rw[e2];simp[hb]
 obtain⟨r2,y2,e3,a0,a1,a2,a3,a4,a5,a6,a7,a8,B2⟩:=hL.spr hj;refine qz e1 (qz c4 (qz e3 (qz a0 (qz a1 (qz a2 (qz a3 (qz a4 (qz a5 (qz a6 (qz a7 (qz a8 ?_)))))))))));generalize hs:L[j].spl=s at *
 rw[bu]at B2;refine q0 λh1 b1 g1=>qba b1 rfl λh2 b2 u2=>?_;have ak:Grow h h2:=g1.updr (qbp _) u2;refine qz (b2.rd 0 rfl rfl) (qcr b2 1 rfl (qcr b2 2 rfl (qcr b2 3 rfl (qcr b2 4 rfl (qcr b2 5 rfl (qcr b2 6 rfl ?_))))));refine q0 λh3 b3 g3=>qba b3 rfl λh4 b4 u4=>?_;have c5:Grow h2 h4:=g3.updr (qbp _) u4;have c6:=ak.trans c5;have z2:=b2.lt;have z4:=b4.lt;have A4:=A.grow c6;obtain⟨nd,Bt,V⟩:=A4.tree;have c7:nd.len=nodes.length:=V.len;refine qcq Bt 0 rfl (qcq Bt 0 rfl ?_);rw[c7];have eb:∀{m:Nat},h.blks.size<=m->¬p.all m:=λhm a=>by have:=Q _ a;omega
 have c8:p.t≠h2.blks.size:=λe=>by have:=Q p.t (by simp[Pl.all]);have:=ak.size;omega
 refine Runs.putAt (o:=5) b4 (by simp) rfl λh5 b5 u5=>?_;have c9:=Bt.updr c8 u5;refine qbe (kwm Bt c9 0 1) ?_;rw[kj (by omega)];refine Runs.putAt (o:=6) b5 (by simp) rfl λh6 b6 u6=>?_;have bw:Grow h2 h6:=((g3.updr (qbp _) u4).updr (qbp _) u5).updr (qbp _) u6;have aa:=ak.trans bw;have A6:=A.grow aa;have ap:=aa.has bq;obtain⟨eg,r6,h7,da,e6,p7,u7,A7⟩:=A6.setn c1 (splitN s nodes.length (nodes.length+1));refine qcq da 0 rfl (qcr ap 0 rfl (qz (b6.rd 0 rfl rfl) (qcr b6 1 rfl (qcr b6 2 rfl (qcr b6 3 rfl (qcr b6 4 rfl (qcr b6 5 rfl (qcr b6 6 rfl (qz e6 (qz p7 ?_))))))))));have z6:=b6.lt;have eh:=aa.size;have ei:=ak.size;have ej:=Q p.n (by simp[Pl.all]);have db:h7.has h.blks.size _ ke9:=(bw.has b2).updr (by omega) u7;have dc:h7.has h2.blks.size _ kbj:=b6.updr (by omega) u7;have bd:=ap.updr (λe=>bb (by subst e;simp[Pl.all])) u7;have dd:Md p.ch h h7:=(aa.md _).trans (u7.md (by simp[Pl.ch]));have de:BitsAt h7 (λj=>Sy j/\j<h.blks.size) z y x.rows:=(By.bound.grow aa).upd (λk=>br _ k.1 (by simp[Pl.all])) u7;have df:BitsAt h7 (λj=>Sl' j/\j<h.blks.size) z y2 (x.rows.filter (leftS ts s)):=(B2.bound.grow aa).upd (λk=>ad _ k.1 (by simp[Pl.all])) u7;obtain⟨C,bx,bz,⟨ek,b0,V7⟩,⟨dg,b7,dh⟩,b9⟩:=A7
 obtain⟨S7,ca,cb,Q7⟩:∃S:Fp,(∀m,S m->¬p.all m)/\(∀m,S m->m<h7.blks.size)/\QAt z p.q S q p.k h7:=by obtain⟨a,b,s',Bq,Vq⟩:=dh;exact⟨λj=>dg j/\j<h7.blks.size,λm k=>b7 m k.1,λm k=>k.2,a,λk=>b k.1,s',Bq,Vq.bound⟩
 refine qcq b0 0 rfl (q0 λY b8 g8=>?_);refine qz (kcc (n:=2) b8 (by rw[kuw];rfl)) ?_;have ec:(nodes.set x.place (splitN s nodes.length (nodes.length+1))).length=nodes.length:=qb7;obtain⟨al,h9,e9,V9,u9⟩:=(V7.grow g8).pushs (T:=Fp.no) (rows':=[Nd.no.cells,Nd.no.cells]) (ys:=[Nd.no,Nd.no]) (n:=2) (.cons rfl (.cons rfl .nil)) rfl (by decide) qbn (ksp (by omega));refine qz e9 (qz qco ?_);dsimp only;have u9:Upd Y h9 p.n:=u9;have di:=(g8.has b0).updr C.tn u9;refine Runs.putAt (o:=0) (cs':=[al.v]) di (by simp) rfl λZ dj be=>?_;have z7:=u7.size;have z8:=g8.size;have z9:=u9.size;have el:=be.size;have F:Md (λj=>j=p.n\/j=p.t) h7 Z:=((g8.md _).trans (u9.md (.inl rfl))).trans (be.md (.inr rfl));have dk:=Q p.t (by simp[Pl.all]);have aq:∀{m:Nat},h.blks.size<=m->¬(m=p.n\/m=p.t):=λhm a=>by omega
 have ae:=F.has db (aq (qbp _));have cc:=F.has dc (aq (by omega));have af:=F.has bd λe=>bb (by rcases e with rfl | rfl<;>simp[Pl.all]);have ar:=de.md F λj a e=>br j a.1 (by rcases e with rfl | rfl<;>simp[Pl.all]);have au:=df.md F λj a e=>ad j a.1 (by rcases e with rfl | rfl<;>simp[Pl.all]);have cd:Md p.ch h Z:=dd.trans (F.mono λj _ e=>by rcases e with rfl | rfl<;>simp[Pl.ch]);have bf:GF Ef.nd kbj Z Fp.no al (some Y.blks.size) (nodes.set x.place (splitN s nodes.length (nodes.length+1))++[Nd.no,Nd.no]):=(V9.mono (λj k=>k.1.elim id id) qbm).upd be qbm λk e=>by cases e;omega
 refine qcr af 2 rfl (qcq af 3 rfl (qcr ae 7 rfl (qcq ae 8 rfl ?_)));have bg:=ar;obtain⟨wy,Ny,ay,ry,ly⟩:=bg;have bh:=au;obtain⟨w2,N2,em,ce,l2⟩:=bh;refine(kbez Ny N2 ry ce).call λv dl pp=>?_;obtain⟨cf,y3,er,T3,e,B3,dm,o3⟩:=pp.bits;subst e
 have bi:((btL (z:Int) wy).filter λi=>!wbit w2 i)=x.rows.filter λi=>!leftS ts s i:=by rw[ly];apply List.filter_congr;intro i hi;rw[k79 ce l2 (qcm.1 (bv.subset hi))];congr 1;rw[Bool.eq_iff_iff,qbw,qck];exact⟨λh=>h.2,λh=>⟨hi,h⟩⟩
 rw[bi]at B3;refine qz rfl (qz rfl (qbb rfl (qz rfl (qz (seenAt rfl qco) (qz rfl ?_)))));dsimp only;refine q0 λen dn dp=>qba dn rfl λK cg dq=>?_;have ag:Grow dl K:=dp.updr (qbp _) dq;have H:=cf.trans ag;have ci:=H.has ae;have cj:=H.has cc;have aw:=H.has af;refine qcr cj 5 rfl (qcr aw 1 rfl (qcr ci 7 rfl (qcq ci 8 rfl ?_)));rw[kj (i:=x.deep) (by omega)];have eo:=cf.size;have ep:=cg.lt;have eq:=Q p.k (by simp[Pl.all]);have dr:=Q p.q (by simp[Pl.all]);have bj:QAt z p.q S7 q p.k K:=(Q7.md F (λj a e=>ca j a (by rcases e with rfl | rfl<;>simp[Pl.all])) (by rintro (e | e);exact C.nk e.symm;exact C.tk e.symm) (by rintro (e | e);exact C.qn e;exact C.tq e.symm)).grow H
 have bj:QAt z p.q (λj=>S7 j/\j<K.blks.size) q p.k K:=by obtain⟨a,b,s',Bq,Vq⟩:=bj;exact⟨a,λk=>b k.1,s',Bq,Vq.bound⟩
 have cl:=au.grow H;have ed:=ar.grow H;refine(k4w bj (by omega) (x:=⟨nodes.length,x.deep+1,x.rows.filter (leftS ts s)⟩) cl (λk=>ad _ k.1 (by simp[Pl.all])) (λk=>ad _ k.1 (by simp[Pl.all])) (λw hw=>by have:=bt w hw;unfold keyW;show(w.place:Int)<=(nodes.length:Int);omega)).call λv dt ⟨e,et,bk,cm,cp,ac,ax⟩=>?_;subst e;refine qz rfl ?_;have ah:∀{m:Nat},h.blks.size<=m->¬(m=p.k\/m=p.q):=λhm a=>by omega
 have du:=ac.has cj (ah (by omega));have cu:=ac.has aw λe=>bb (by rcases e with rfl | rfl<;>simp[Pl.all]);have az:=ac.has cg (ah (by omega));refine qcr du 6 rfl (qcr cu 1 rfl (qcr az 0 rfl (qcq az 1 rfl ?_)));rw[kj (i:=x.deep) (by omega)];have X:∀m,T3 m->Z.blks.size<=m:=dm;have dv:BitsAt K (λj=>T3 j/\j<K.blks.size) z y3 (x.rows.filter λi=>!leftS ts s i):=(B3.grow ag).bound;have cv:=dv.md ac λj a e=>by have:=X j a.1;rcases e with rfl | rfl<;>omega
 have eu:=ac.size
 refine(k4w cp (by rw[qb0];simp;omega) (x:=⟨nodes.length+1,x.deep+1,x.rows.filter λi=>!leftS ts s i⟩) cv (λk=>by
  have:=X _ k.1;rcases ax with e | e
  ·omega
  ·have:=k.2;omega) (λk=>by have:=X _ k.1;omega) (λw hw=>by
  unfold keyW;show(w.place:Int)<=((nodes.length+1:Nat):Int);rcases qb5.1 hw with hw | hw
  ·have:=bt w hw;omega
  ·rw[List.mem_singleton.1 hw];show(nodes.length:Int)<=_;omega)).call λv am ⟨e,dw,U,cw,an,dx,cx⟩=>?_
 subst e;refine qz rfl ?_;rw[List.append_assoc]at an;have ai:bk=p.k\/K.blks.size<=bk:=ax;have bm:U=bk\/dt.blks.size<=U:=cx
 have hk:U=p.k\/K.blks.size<=U:=by
  rcases bm with e | e
  ·rw[e];exact ai
  ·exact .inr (by omega)
 have dy:=cp.lt.1
 have bn:Md (λj=>j=p.k\/j=p.q) K am:=ac.next dx λj hj e=>by
  rcases e with rfl | rfl
  ·rcases ai with e | e
   ·exact .inl e
   ·omega
  ·exact .inr rfl
 have I:Md (λj=>j=p.k\/j=p.q) Z am:=(H.md _).trans bn;have dz:=Q p.c (by simp[Pl.all]);have d0:=Q p.r (by simp[Pl.all]);have d1:=Q p.s (by simp[Pl.all])
 have d2:Pl.ok ⟨p.c,p.r,p.t,p.q,p.s,Y.blks.size,U⟩:=by
  obtain⟨o1,o2,d3,o4,o5,o6,o7,o8,o9,ev,d4,d5,d6,ew,d7,d8,ex,d9,ey,ea,ez⟩:=C
  have kk:∀{m:Nat},m<h.blks.size->m≠p.k->m≠U:=λh1 h2 e=>by
   rcases hk with e2 | e2
   ·exact h2 (e.trans e2)
   ·omega
  refine⟨o1,o2,d3,o4,by show p.c≠Y.blks.size;omega,kk dz o6,o7,o8,o9,by show p.r≠Y.blks.size;omega,kk d0 d4,d5,d6,by show p.t≠Y.blks.size;omega,kk dk d7,d8,by show p.q≠Y.blks.size;omega,kk dr d9,by show p.s≠Y.blks.size;omega,kk d1 ea,?_⟩;show Y.blks.size≠U;have:=bf.lt;have:Y.blks.size<Z.blks.size:=this;rcases hk with e2 | e2<;>omega
 have n8:Y.blks.size<Z.blks.size:=bf.lt;refine hP am ⟨p.c,p.r,p.t,p.q,p.s,Y.blks.size,U⟩ rfl rfl rfl rfl rfl ?_ (.inr (by show h.blks.size<=Y.blks.size;omega)) (by rcases hk with e | e;exact .inl e;exact .inr (by show h.blks.size<=U;omega)) ⟨d2,?_,?_,⟨al,?_,?_⟩,⟨dw,?_,an⟩,?_⟩
 ·exact cd.trans (I.mono λj _ e=>by rcases e with rfl | rfl<;>simp[Pl.ch])
 ·exact I.has (F.has bx (by rintro (e | e);exact C.cn e;exact C.ct e)) (by rintro (e | e);exact C.ck e;exact C.cq e)
 ·exact I.has (F.has bz (by rintro (e | e);exact C.rn e;exact C.rt e)) (by rintro (e | e);exact C.rk e;exact C.rq e)
 ·exact I.has dj (by rintro (e | e);exact C.tk e;exact C.tq e)
 ·have bp:GF Ef.nd kbj am Fp.no al (some Y.blks.size) (nodes.set x.place (splitN s nodes.length (nodes.length+1))++[Nd.no,Nd.no]):=GF.md I (S:=Fp.no) (λj a _=>a) bf λk e x=>by cases e;rcases x with e | e<;>omega
  exact bp
 ·intro m hm;have ee:=an.2.1;obtain⟨-,-,e0,-,bp⟩:=an;have cy:=bp.not
  have cz:(S7 m/\m<K.blks.size)\/(Sl' m/\m<h.blks.size)\/(T3 m/\m<K.blks.size):=by
   rcases cw m hm with a | a
   ·rcases cm m a with a | a
    ·exact .inl a
    ·exact .inr (.inl a)
   ·exact .inr (.inr a)
  have aj:∀j,p.all j->j≠p.n->j≠p.k->m≠j:=λj hj h1 h2 e=>by
   subst e;rcases cz with a | a | a
   ·exact ca _ a.1 hj
   ·exact ad _ a.1 hj
   ·have:=X _ a.1;have:=Q _ hj;omega
  rintro (e | e | e | e | e | e | e)
  ·exact aj p.c (by simp[Pl.all]) C.cn C.ck e
  ·exact aj p.r (by simp[Pl.all]) C.rn C.rk e
  ·exact aj p.t (by simp[Pl.all]) C.tn C.tk e
  ·exact aj p.q (by simp[Pl.all]) C.qn C.qk e
  ·exact aj p.s (by simp[Pl.all]) C.sn C.sk e
  ·have e:m=Y.blks.size:=e;subst e;rcases cz with a | a | a
   ·have:=cb _ a.1;omega
   ·have:=a.2;omega
   ·have:=X _ a.1;omega
  ·have e:m=U:=e;subst e;exact cy hm
 ·exact GF.md I (S:=Fp.no) (λj a _=>a) (GF.md F (S:=Fp.no) (λj a _=>a) b9 λk e x=>by cases e;rcases x with e | e;exact C.sn e;exact C.ts e.symm) λk e x=>by cases e;rcases x with e | e;exact C.sk e;exact C.qs e.symm
end
def GrowP(c:Cfg)(scs:Sl)(js:Nat)(hE:AH)(r:List Nd×List Int)(v:AV)(h':AH):Prop:=∃(nd:Sl)(jn:Nat),v=.agg [nd.v]/\hE.blks.size<=jn/\GF Ef.nd kbj h' Fp.no nd (some jn) r.1/\GF EI T.int h' Fp.no scs (some js) r.2/\Md (λj=>j=js) hE h'
section
variable{c:Cfg}{z D:Nat}{scs gs tsl:Sl}{g:List Int}{ts:List Tb}{hE:AH}{St Sg:Fp}
theorem kbg0(T0:Tab hE)(hc:c.right=true)(hD:c.depth=(D:Int))(Q:Sq EI hE Sg gs g)(Qt:Sq Ef.tb hE St tsl ts){js:Nat}(bp:js<hE.blks.size)(aw:¬Sg js)(ax:¬St js)(hg:g.length=z)(aj:z<=256)(ak:ts.length<=16)(ay:∀(p:Nat)(hp:p<ts.length),tabR ts[p]=true/\ts[p].ids.length=z) :
  ∀(n:Nat)(W q:List Wt)(nodes:List Nd)(sc:List Int)(p:Pl)(h:AH),GrowOk D n z W nodes->q.Perm W->IsHeap keyW q.length q->sc.length=z->GrAt c z scs p q nodes sc h->Md (λj=>j=js) hE h->p.s=js->hE.blks.size<=p.c->hE.blks.size<=p.r->hE.blks.size<=p.t->hE.blks.size<=p.q->hE.blks.size<=p.n->hE.blks.size<=p.k->
  Runs (go (.pt kb6 kgx [(1,tsl.v),(2,gs.v),(3,scs.v),(4,.p (.new p.c 0)),(8,.p (.new p.r 0)),(11,.p (.new p.t 0)),(12,.p (.new p.q 0))]) h) (GrowP c scs js hE (growS c ts g n W nodes sc)):=by
 intro n
 induction n with
 | zero =>
  intro W q nodes sc p h ok hp hh aa A M hs g1 g2 g3 g4 g5 g6
  have hW:W=[]:=by have:=muW_le ok.deep;have:=ok.mu;exact List.length_eq_zero_iff.1 (by omega)
  subst hW;obtain rfl:=hp.eq_nil;obtain⟨S,hS,-,-,s,Bq,Vq⟩:=A.que;rw[k2f];refine qz (Bq.rd0 rfl qco) (qz (kp1 _ _) (qz (seen rfl) ?_));dsimp only;have ln:s.len=0:=Vq.sq.len;rw[ln];refine qbc rfl ?_;obtain⟨nd,Bt,V⟩:=A.tree;refine qcq Bt 0 rfl (qba A.res rfl λh1 B1 u1=>?_);have nr:p.n≠p.r:=A.ok.rn.symm;have sr:p.s≠p.r:=A.ok.rs.symm;refine qcq B1 0 rfl (qy ⟨nd,p.n,rfl,g5,V.upd u1 qbm λk e=>by cases e;exact nr,?_,M.next (u1.md (T:=λj=>j=p.r) rfl) λj hj e=>by omega⟩);subst hs;exact A.sco.upd u1 qbm λk e=>by cases e;exact sr
 | succ n ih =>
  intro W q nodes sc p h ok hp hh aa A M hs g1 g2 g3 g4 g5 g6;have al:=ok.nodes63 (by have:=qbo hc;omega);obtain⟨S,hS,Qq⟩:=A.que;have az:=Qq;obtain⟨bq,br,s,Bq,Vq⟩:=az;have ln:s.len=q.length:=Vq.sq.len;have am:q.length=W.length:=hp.length_eq;rw[k2f];refine qz (Bq.rd0 rfl qco) (qz (kp1 _ _) (qz (seen rfl) ?_));dsimp only;rw[ln];cases W with
  | nil =>
   obtain rfl:=hp.eq_nil;refine qbc rfl ?_;obtain⟨nd,Bt,V⟩:=A.tree;refine qcq Bt 0 rfl (qba A.res rfl λh1 B1 u1=>?_);have nr:p.n≠p.r:=A.ok.rn.symm;have sr:p.s≠p.r:=A.ok.rs.symm;refine qcq B1 0 rfl (qy ⟨nd,p.n,rfl,g5,V.upd u1 qbm λk e=>by cases e;exact nr,?_,M.next (u1.md (T:=λj=>j=p.r) rfl) λj hj e=>by omega⟩);subst hs;exact A.sco.upd u1 qbm λk e=>by cases e;exact sr
  | cons x W =>
   have bt:=muW_le ok.deep;have an:=ok.first
   have a0:(x::W).length<=63:=by have h1:=ok.size;have h2:=qbo hc;have h3:2^(D+1)<=2^6:=Nat.pow_le_pow_right (by decide) (by omega);have h4:=ok.place 0 (by simp);simp only[List.getElem_cons_zero]at h4;omega
   obtain⟨e0,ex,pp,ap⟩:=kbaw keyW hh (x:=x) (W:=W) (λy hy=>by have:=ok.least y hy;unfold keyW;omega) hp;refine qbb (qbx (by simp at am;omega)) ?_;refine(kbjm Qq (by simp at am;omega) (by omega) ex).call λv h1 ⟨y,e,By,Q1,m1⟩=>?_;subst e;have bu:=ok.deep x (by simp);have bv:=qbo hc;have bn:=ok.rows x (by simp);refine qz rfl (qbb rfl (qz rfl (qbb rfl (qz rfl (qz rfl (qz rfl (qz (seenAt rfl qco) ?_)))))))
   have A1:GrAt c z scs p (popL keyW q) nodes sc h1:=by obtain⟨o,cfg,res,⟨nd,Bt,V⟩,-,sco⟩:=A;exact⟨o,m1.has cfg (by rintro (e | e);exact o.ck e;exact o.cq e),m1.has res (by rintro (e | e);exact o.rk e;exact o.rq e),⟨nd,m1.has Bt (by rintro (e | e);exact o.tk e;exact o.tq e),GF.md m1 (S:=Fp.no) (λj a _=>a) V λk e x=>by cases e;rcases x with e | e;exact o.nk e;exact o.qn e.symm⟩,⟨S,hS,Q1⟩,GF.md m1 (S:=Fp.no) (λj a _=>a) sco λk e x=>by cases e;rcases x with e | e;exact o.sk e;exact o.qs e.symm⟩
   have M1:Md (λj=>j=js) hE h1:=M.next m1 λj hj e=>by rcases e with rfl | rfl<;>omega
   have aq:=A1.lt;have bw:=M1.size;refine q0 λh2 b2 ba=>qba b2 rfl λh3 b3 u3=>?_;have U:Grow h1 h3:=ba.updr (qbp _) u3;refine qcr b3 2 rfl (qcq b3 3 rfl ?_);have dg:∀{T:Fp},(∀j,T j->j=js\/hE.blks.size<=j)->True:=λ_=>trivial;have Q3:Sq EI h3 Sg gs g:=(Q.md M1 λj a e=>aw (e▸a)).grow U;have bb:Sq Ef.tb h3 St tsl ts:=(Qt.md M1 λj a e=>ax (e▸a)).grow U;have T3:Tab h3:=(T0.md M1).grow U;refine(kv8 T3 Q3 (By.grow U) (by omega) (by omega)).call λv h4 ⟨e,bc⟩=>?_;subst e;refine qz rfl (qbb rfl (qz rfl (qz rfl ?_)));refine q0 λh5 b5 bd=>qba b5 rfl λh6 b6 u6=>?_;have be:Grow h4 h6:=bd.updr (qbp _) u6;have ac:Grow h3 h6:=bc.trans be;have ad:Grow h1 h6:=U.trans ac;have X:=ac.has b3;have A6:=A1.grow ad;refine qcr X 1 rfl (qz (A6.cfg.rd 1 rfl qcp) ?_);have ar:¬p.all h1.blks.size:=λa=>by have:=aq _ a;omega
   have ag:=(By.grow ad);have M6:Md (λj=>j=js) hE h6:=M1.thenG ad;have least:=ok.least
   have F:∀{sb l:Sl}{h7:AH}{I:Nat},Grow h6 h7->h7.has I [.i (sumR g x.rows).1,.i (sumR g x.rows).2] kw->bestS c ts g x=[]->sb.len=0->Runs (go (.pt kb6 kke [(1,tsl.v),(2,gs.v),(3,scs.v),(4,.p (.new p.c 0)),(8,.p (.new p.r 0)),(11,.p (.new p.t 0)),(12,.p (.new p.q 0)),(13,.p (.new h1.blks.size 0)),(14,.p (.new I 0)),(15,sb.v),(16,l.v)]) h7) (GrowP c scs js hE (growS c ts g (n+1) (x::W) nodes sc)):=by
    intro sb l h7 I C bf K bg;have A7:=A6.grow C;refine kbc2 ((T0.md M6).grow C) A7 ar (C.has X) bf (ag.grow C) hS an aa (by omega) bg λh' m A'=>?_
    have:growS c ts g (n+1) (x::W) nodes sc=growS c ts g n W (nodes.set x.place (leafN (kcu c (sumR g x.rows)))) (addS (kcu c (sumR g x.rows)) x.rows sc):=by rw[growS,K]
    rw[this];refine ih W (popL keyW q) _ _ p h' (ok.leaf _) pp ap (by rw[klr];exact aa) A' ((M6.thenG C).next m λj hj e=>?_) hs g1 g2 g3 g4 g5 g6;rcases e with rfl | rfl | rfl | rfl | rfl | rfl<;>omega
   refine qbd (λY=>?_) λY=>?_
   ·rw[qbw]at Y;refine qcr X 2 rfl (qcq X 3 rfl ?_);refine(k97 ((T0.md M6)) (Q3.grow ac) ag (by omega) aj ak (bb.grow ac) ay).call λv h7 ⟨C,l,sl,bx,Ss,e,VL,VS,bh⟩=>?_;subst e;refine qz rfl (qz (seen qco) (qz (seen qco) ?_));have A7:=A6.grow C;have I:=C.has b6;refine qz (A7.cfg.rd 2 rfl qcp) (qz (A7.cfg.rd 3 rfl qcp) (qcr I 0 rfl (qcr I 1 rfl ?_)));refine(k63 (xs:=sumsS ts g x.rows) (VS.mono λ_ _=>trivial) c.lambda c.gamma (sumR g x.rows).1 (sumR g x.rows).2).call λv h8 ⟨sb,e,Vb,H⟩=>?_;subst e;refine qz rfl (qz (seen qco) (qz (seen qcp) ?_))
    have K:bestS c ts g x=(bestF c.lambda c.gamma (sumR g x.rows).1 (sumR g x.rows).2 (sumsS ts g x.rows)).1:=by unfold bestS;rw[if_pos Y]
    rw[<- K]at Vb;cases Z:bestS c ts g x with
    | nil =>
     rw[Z]at Vb;exact F (C.trans H) (H.has I) Z Vb.len
    | cons b bs =>
     rw[Z]at Vb;obtain⟨j,hj,au⟩:=kul (c:=c) (ts:=ts) (g:=g) (x:=x) b (by rw[Z];simp);have bi:j<((kbk ts).map λs=>(⟨s,x.rows.filter (leftS ts s)⟩:SpR)).length:=by rw[qb1];exact au
     have ae:((kbk ts).map λs=>(⟨s,x.rows.filter (leftS ts s)⟩:SpR))[j]=⟨(kbk ts)[j],x.rows.filter (leftS ts (kbk ts)[j])⟩:=by rw[List.getElem_map]
     have bj:(kbk ts).getD b.toNat (0,0,0)=(kbk ts)[j]:=by rw[hj];simp[List.getD,au]
     have bz:=C.size;have b0:=ad.size;have A8:=A7.grow H;refine kbbs (ts:=ts) ((T0.md M6).grow (C.trans H)) A8 ar ((C.trans H).has X) ((ag.grow C).grow H) hS an al (by rw[pp.length_eq];simp at a0;omega) (by omega) aj (λw hw=>ok.below w (List.mem_cons_of_mem _ (pp.mem_iff.1 hw))) Vb (VL.grow H) (λm hm a=>by have:=bh m hm;have:=aq _ a;omega) hj bi (by rw[ae]) λh' p' e1 e2 e3 e4 e5 m bk bm A'=>?_;rw[ae]at A';have hx:x.deep<D:=by omega
     have ah:growS c ts g (n+1) (x::W) nodes sc=growS c ts g n (W++kidsS ts x (kbk ts)[j] nodes.length) (nodes.set x.place (splitN (kbk ts)[j] nodes.length (nodes.length+1))++[Nd.no,Nd.no]) sc:=by rw[growS,Z];dsimp only;rw[bj]
     rw[ah,<- e1,<- e2,<- e3,<- e4]
     have af:∀w∈popL keyW q,keyW w<=keyW ⟨nodes.length,x.deep+1,x.rows.filter (leftS ts (kbk ts)[j])⟩:=λw hw=>by have:=ok.below w (List.mem_cons_of_mem _ (pp.mem_iff.1 hw));unfold keyW;show(w.place:Int)<=(nodes.length:Int);omega
     have ai:IsHeap keyW (popL keyW q++kidsS ts x (kbk ts)[j] nodes.length).length (popL keyW q++kidsS ts x (kbk ts)[j] nodes.length):=by
      have h1:=k4k keyW ap af
      have h2:=k4k keyW h1 (y:=⟨nodes.length+1,x.deep+1,x.rows.filter λi=>!leftS ts (kbk ts)[j] i⟩) λw hw=>by
       rcases qb5.1 hw with hw | hw
       ·have:=af w hw;unfold keyW at this|-;have this:(w.place:Int)<=(nodes.length:Int):=this;show(w.place:Int)<=((nodes.length+1:Nat):Int);omega
       ·rw[List.mem_singleton.1 hw];unfold keyW;show(nodes.length:Int)<=((nodes.length+1:Nat):Int);omega
      rw[List.append_assoc]at h2;exact h2
     have b1:=H.size;have z8:hE.blks.size<=h8.blks.size:=by omega
     refine ih _ _ _ sc p' h' (ok.split hx ts _ _) (pp.append (List.Perm.refl _)) ai aa A' ((M6.thenG (C.trans H)).next m λj hj e=>?_) (e5.trans hs) (by omega) (by omega) (by omega) (by omega) (by rcases bk with e | e<;>omega) (by rcases bm with e | e<;>omega);rcases e with rfl | rfl | rfl | rfl | rfl | rfl<;>omega
   ·rw[qbv]at Y;exact F (ql _) b6 (by unfold bestS;rw[if_neg Y]) rfl
theorem krb{c:Cfg}{ts:List Tb}{g:List Int}{D N:Nat}(A:c.depth=(D:Int)):∀(n m:Nat)(W:List Wt)(nodes:List Nd)(sc:List Int),n<=m->GrowOk D n N W nodes->growS c ts g n W nodes sc=growS c ts g m W nodes sc
 | 0,m,W,nodes,sc,_,ok=>by
  have C:W=[]:=by have:=muW_le ok.deep;have:=ok.mu;exact List.length_eq_zero_iff.1 (by omega)
  subst C;cases m<;>rfl
 | n+1,0,W,nodes,sc,h,ok=>by omega
 | n+1,m+1,[],nodes,sc,h,ok=>rfl
 | n+1,m+1,x::W,nodes,sc,h,ok=>by
  rw[growS,growS];cases F:bestS c ts g x with
  | nil=>exact krb A n m W _ _ (by omega) (ok.leaf _)
  | cons b bs =>have:=k1a F;exact krb A n m _ _ sc (by omega) (ok.split (by omega) ts _ _)
theorem k9g(T0:Tab hE)(hc:c.right=true)(Q:Sq EI hE Sg gs g)(Qt:Sq Ef.tb hE St tsl ts){js:Nat}{sc:List Int}(V:GF EI T.int hE Fp.no scs (some js) sc)(af:¬Sg js)(ag:¬St js)(hg:g.length=z)(ah:sc.length=z)(ai:z<=256)(X:ts.length<=16)(aj:∀(p:Nat)(hp:p<ts.length),tabR ts[p]=true/\ts[p].ids.length=z) :
  Runs (go (.fn kb6 [.agg c.cells,tsl.v,gs.v,scs.v]) hE) (GrowP c scs js hE (growS c ts g 64 [firstW z] [Nd.no] sc)):=by
 have hd:=qbo hc;obtain⟨D,hD⟩:∃D:Nat,c.depth=(D:Int):=⟨c.depth.toNat,by omega⟩;have ak:js<hE.blks.size:=V.lt;unfold Cfg.cells;rw[kbcs];refine q0 λh1 b1 g1=>q0 λh2 b2 g2=>?_;rw[Q.len,hg];refine(k7g (n:=z) (by omega)).call λv h3 pp=>?_;obtain⟨g3,t3,e3,S3,e,B3,al,o3⟩:=pp.bits;subst e;refine qz rfl (qz rfl (qbb rfl (qz rfl (qz (seenAt rfl qco) (qz rfl ?_)))));dsimp only;refine q0 λh4 b4 g4=>qba b4 rfl λY b5 u5=>?_;have H:Grow h3 Y:=g4.updr (qbp _) u5;obtain⟨Z,e6,g6,V6⟩:=GF.mk (E:=Ef.nd) (elem:=kbj) (S:=Fp.no) (h:=Y) (n:=1) (bytes:=Pg.bytesOf kbj) (l:=1) (c:=1) (cs:=Nd.no.cells) (x:=Nd.no) (λh'=>rfl) qbm rfl rfl (by rw[k2l];decide) (by decide);refine qz e6 ?_;dsimp only;refine q0 λh7 b7 g7=>qba b7 rfl λh8 b8 u8=>?_;have I:Grow Z h8:=g7.updr (qbp _) u8;have aa:=(g6.trans I).has b5;refine qcr aa 0 rfl (qcq aa 1 rfl (q0 λh9 b9 g9=>q0 λF ac K=>?_));have z1:=b1.lt;have z2:=b2.lt;have z3:=g3.size;have z4:=b4.lt;have z5:=b5.lt;have z6:=V6.lt;have ap:Y.blks.size<Z.blks.size:=z6;have z8:=b8.lt;have z9:=b9.lt;have aq:=ac.lt;have U:Grow h2 Z:=(g3.trans H).trans g6;have C:Grow Z F:=(I.trans g9).trans K;have ad:Grow Y F:=g6.trans C;have GE:Grow hE F:=((g1.trans g2).trans U).trans C;have ae:BitsAt F (λj=>S3 j/\j<h3.blks.size) z t3 (List.range z):=((B3.bound.grow H).grow ad);have ar:=g1.size;have au:=g2.size;have aw:=H.size;have ax:=I.size;have an:=g9.size
 have A:GrAt c z scs ⟨hE.blks.size,h1.blks.size,Z.blks.size,h9.blks.size,js,Y.blks.size,h8.blks.size⟩ [firstW z] [Nd.no] sc F:=by
  refine⟨⟨?_,?_,?_,?_,?_,?_,?_,?_,?_,?_,?_,?_,?_,?_,?_,?_,?_,?_,?_,?_,?_⟩,(((g2.trans U).trans C).has b1),((U.trans C).has b2),⟨_,(g9.trans K).has b8,V6.grow C⟩,⟨λj=>S3 j/\j<h3.blks.size,?_,?_,?_,_,ac,?_⟩,V.grow GE⟩
  all_goals first
   | (dsimp only;omega)
   | skip
  ·intro m hm a;have h1:=al m hm.1;have h2:=hm.2;unfold Pl.all at a;dsimp only at a;omega
  ·refine GQ.lit (rows:=[[.i 0,.i 0,.i (z:Int),t3.v]]) (e:=kbp) (K.has b9) (.cons ⟨t3,rfl,ae⟩ .nil) ?_ rfl;intro hm;have h2:=hm.2;omega
 have ok:GrowOk D (2^(D+1)-1) z [firstW z] [Nd.no]:=GrowOk.start
 have am:2^(D+1)-1<=64:=by have:2^(D+1)<=2^6:=Nat.pow_le_pow_right (by decide) (by omega);omega
 rw[<- krb hD _ 64 [firstW z] [Nd.no] sc am ok];exact kbg0 T0 hc hD Q Qt ak af ag hg ai X aj _ [firstW z] [firstW z] [Nd.no] sc _ F ok (List.Perm.refl _) (λk k0 kn=>by simp at kn;omega) ah A (GE.md _) rfl (qbp _) (by dsimp only;omega) (by dsimp only;omega) (by dsimp only;omega) (by dsimp only;omega) (by dsimp only;omega)
end
end Go.Ab
