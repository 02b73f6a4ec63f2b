/- Words and laws that the last text joins. -/
import Derived.Test.YtgfeahhgoiidiaaGreatDoorPE2
import Derived.Test.YtgfeahhgoiidiaaGreatDoorPG3
set_option linter.unusedVariables false
set_option linter.unusedSimpArgs false
set_option linter.unusedSectionVars false
set_option maxRecDepth 10000
namespace Go.Ab
open Go.Proofs Go.Num Go.Heap
theorem Md.same{h h':AH}{T:Fp}(m:Md T h h'){i:Nat}{cs:List AV}{e:TypeId}(b:h.has i cs e)(n:¬T i)(o k:Nat):SameAt h h' (.new i o) k:=⟨λj _=>by rw[qj];simp only[AH.cell,m.blk i b.lt n],λ_=>m.blk i b.lt n⟩
theorem kxa{n:Nat}(h:n<=1000000):growOk Pg n kbu 1=true:=by
 unfold growOk;rw[kbdj,kbdy];have h1:n*24<=ks:=by simp only[ks];omega
 have A:n<=ks:=by simp only[ks];omega
 simp[h1,A]
section
variable{h0:AH}{S S':Fp}{s t:Sl}
theorem kbb7{xs ys:List Int}(n:Sq EI h0 S s xs)(m:Sq EI h0 S' t ys)(K:xs.length=ys.length):∀(k i:Nat),i+k=xs.length->
  go (.pt khw kp6 [(0,s.v),(1,t.v),(12,.i (xs.length:Int)),(13,.i (i:Int))]) h0=some (.bool (decide (xs.drop i=ys.drop i)),h0):=by
 intro k
 induction k with
 | zero =>
  intro i hi;rw[kz5,condF (qby (by omega)),List.drop_of_length_le (by omega),List.drop_of_length_le (by omega)];rfl
 | succ k ih =>
  intro i hi;have h1:i<xs.length:=by omega
  have A:i<ys.length:=by omega
  obtain⟨r,C,F⟩:=n.int h1;obtain⟨q,H,I⟩:=m.int A;rw[kz5,C,H,condT (qbx (by omega))];simp only[qbt,F,I];by_cases c:xs[i]=ys[i]
  ·rw[condF (by rw[qbx c];rfl),kj (by have:=n.short;omega),ih (i+1) (by omega),qcg h1,qcg A];rw[decide_eq_decide.2 (show xs.drop (i+1)=ys.drop (i+1)↔xs[i]::xs.drop (i+1)=ys[i]::ys.drop (i+1)from⟨λe=>by rw[c,e],λe=>(List.cons.inj e).2⟩)]
  ·rw[condT (by rw[qby c];rfl),qcg h1,qcg A,qby (λe=>c (List.cons.inj e).1)]
theorem kbdq{xs ys:List Int}(n:Sq EI h0 S s xs)(m:Sq EI h0 S' t ys):go (.fn khw [s.v,t.v]) h0=some (.bool (decide (xs=ys)),h0):=by
 rw[kbhs,n.len,m.len];by_cases c:xs.length=ys.length
 ·rw[condF (by rw[qbx (by omega)];rfl)];exact kbb7 n m c xs.length 0 (by omega)
 ·rw[condT (by rw[qby (by omega)];rfl),qby (λe=>c (by rw[e]))]
theorem kba7{xs:List Int}(n:Sq EI h0 S s xs):Runs (go (.fn keg [s.v,.func (.func kd4) [] []]) h0) λv h'=>v=.bool (oddL xs)/\Grow h0 h':=by
 rw[kbk8];refine Runs.contains (xs:=xs) ?_;rw[k42,n.len];refine ko0 (n:=xs.length) (G:=λz h=>go (.pt kbz kcy [(0,s.v),(1,.func (.func kd4) [] []),(7,.i (xs.length:Int)),(8,.i z)]) h) (λi h P hi g A C=>?_) (λh g=>?_) xs.length 0 (by omega) (ql h0) (λj I=>by omega)
 ·obtain⟨r,F,H⟩:=(n.grow g).int hi;rw[qb4 hi]at A C;simp only[Option.any_some]at A C;show Runs (go _ _) _;rw[k3k];refine qbb (qbx (by omega)) (qz F (qz H ?_))
  have key:go (.fn kd4 [.i xs[i]]) h=some (.bool (decide (xs[i] < -1048576)||decide (xs[i]>1048576)),h):=by rw[kbf8];cases decide (xs[i] < -1048576)<;>rfl
  refine qz key (qz (seen rfl) ?_);rw[kj (by have:=n.short;omega)];exact qbd (λc=>qy (A h g c)) λc=>C h g c
 ·rw[k3k,condF (qby (by omega))]
end
section
variable{c:Cfg}{scs ls tsl:Sl}{labels:List Int}{ts:List Tb}{hE:AH}{St SL:Fp}
theorem k59(F:Sq Ef.tb hE St tsl ts)(Q:Sq EI hE SL ls labels)(aa:ts.length<=16)(H:0<ts.length):∀(k i:Nat),i+k=ts.length->∀{h:AH},Grow hE h->
  Runs (go (.pt kid krq [(1,tsl.v),(2,ls.v),(23,tsl.v),(24,.i (ts.length:Int)),(25,.i (i:Int))]) h) λv h'=>v=.i (if((ts.drop i).any λt=>!tabR t||(!decide (t.ids=(ts.getD 0 Tb.no).ids)||decide (t.ids.length=0)))=true then 20 else if labels.length≠(ts.getD 0 Tb.no).ids.length then 1 else if oddL labels then 1 else 0)/\Grow hE h':=by
 have K:ts.getD 0 Tb.no=ts[0]:=by simp[List.getD,H]
 rw[K];intro k
 induction k with
 | zero =>
  intro i hi h g;rw[kx1,List.drop_of_length_le (by omega)];refine qbc (qby (by omega)) ?_;obtain⟨r,s1,s2,s3,e,U,c2,c3,n⟩:=(F.grow g).tb H;refine qz e (qz U ?_);rw[(Q.grow g).len,n.ids.len];refine qbd (λa=>qy ⟨?_,g⟩) λa=>?_
  ·have:labels.length≠ts[0].ids.length:=by
    intro e;rw[e,qbx rfl]at a;cases a
   simp[this]
  ·have:labels.length=ts[0].ids.length:=by
    rw[qcj,qbw]at a;omega
   refine(kba7 (Q.grow g)).call λv h1 ⟨X,I⟩=>?_;subst X;refine qz (seen rfl) (qbd (λb=>qy ⟨?_,g.trans I⟩) λb=>qy ⟨?_,g.trans I⟩)
   ·simp[this,b]
   ·simp[this,b]
 | succ k ih =>
  intro i hi h g;have C:i<ts.length:=by omega
  obtain⟨r,s1,s2,s3,e,U,c2,c3,n⟩:=(F.grow g).tb C;obtain⟨r0,t1,t2,t3,e0,d1,d2,d3,n0⟩:=(F.grow g).tb H;rw[kx1,qcg C,List.any_cons];refine qbb (qbx (by omega)) (qz e (qz U (qz c2 (qz c3 (q0 λh1 b1 I=>qba b1 rfl λh2 b2 u2=>?_)))));have G2:Grow h h2:=I.updr (qbp _) u2;refine qcq b2 0 rfl (qcq b2 1 rfl (qcq b2 2 rfl ?_));refine(ky1 (n.grow G2)).call λv h3 ⟨X,Y⟩=>?_;subst X;have A:=G2.trans Y;refine qz (seen rfl) (qbd (λa=>qy ⟨?_,g.trans A⟩) λa=>?_)
  ·rw[qci]at a;simp[a]
  rw[qcj]at a;obtain⟨r0,t1,t2,t3,e0,d1,d2,d3,n0⟩:=(F.grow (g.trans A)).tb H;refine qcq (Y.has b2) 0 rfl (qz e0 (qz d1 ?_));refine qz (kbdq (n.grow A).ids n0.ids) (qz (seen rfl) (qbd (λb=>qy ⟨?_,g.trans A⟩) λb=>?_))
  ·rw[qci]at b;simp[b]
  rw[qcj]at b;refine qcq (Y.has b2) 0 rfl ?_;rw[n.ids.len];refine qbd (λd=>qy ⟨?_,g.trans A⟩) λd=>?_
  ·have:ts[i].ids.length=0:=by
    have:=qbz d;omega
   simp[this]
  rw[kj (by omega)]
  have Z:decide (ts[i].ids.length=0)=false:=by have:=of_decide_eq_false d;exact qby (by omega)
  rw[a,b,Z];exact ih (i+1) (by omega) (g.trans A)
theorem kbjx(A:Sq Ef.tb hE St tsl ts)(Q:Sq EI hE SL ls labels):Runs (go (.fn kid [.agg c.cells,tsl.v,ls.v]) hE) λv h'=>v=.i (faultC c ts labels)/\Grow hE h':=by
 unfold Cfg.cells;rw[kbe8];refine q0 λh1 b1 C=>?_;refine rd8 b1 ?_;obtain⟨U,F,H⟩:=kti c h1;have G:=C.trans H;refine qz F (qz (seen rfl) ?_);rw[A.len];unfold faultC;refine qbd (λa=>qy ⟨by simp[a],G⟩) λa=>?_;rw[if_neg (by simp[a])];refine qbd (λb=>qy ⟨?_,G⟩) λb=>?_
 ·have:ts.length=0:=by have:=qbz b;omega
  simp[this]
 have I:¬ts.length=0:=by have:=of_decide_eq_false b;omega
 rw[if_neg I];refine qbd (λd=>qy ⟨?_,G⟩) λd=>?_
 ·have:ts.length>16:=by have:=qbz d;omega
  simp[this]
 have K:¬ts.length>16:=by have:=of_decide_eq_false d;omega
 rw[if_neg K];have:=k59 A Q (by omega) (by omega) ts.length 0 (by omega) G;rw[List.drop_zero]at this;exact this
theorem kru(c:Cfg)(ts:List Tb)(g:List Int):∀(n:Nat)(W:List Wt)(nodes:List Nd)(sc:List Int),(growS c ts g n W nodes sc).2.length=sc.length
 | 0,W,nodes,sc=>rfl
 | n+1,[],nodes,sc=>rfl
 | n+1,x::W,nodes,sc=>by
  rw[growS];cases bestS c ts g x with
  | nil=>exact(kru c ts g n W _ _).trans (klr _ _ _)
  | cons b bs=>exact kru c ts g n _ _ sc
theorem ko8(c:Cfg)(sc labels:List Int):(gradS c sc labels).length=labels.length:=by simp[gradS]
theorem kbea{hB:AH}{sc:List Int}{A:Sl}{jg js kc kr km:Nat}{Y Z:Int}(Q:Sq EI hB SL ls labels)(B:hB.has kc c.cells kbn)(V:GF EI T.int hB Fp.no scs (some js) sc)(aa:sc.length=labels.length)(hL:labels.length<=256)(nL:¬SL jg)(hk:kc≠jg)(hj:js≠jg){P:AV->AH->Prop}
  (H:∀h',Md (λj=>j=jg) hB h'->GF EI T.int h' Fp.no A (some jg) (gradS c sc labels)->Runs (go (.pt kdd km9 [(1,tsl.v),(2,ls.v),(3,.p (.new kc 0)),(6,.p (.new kr 0)),(9,scs.v),(10,.p (.new km 0)),(11,A.v),(26,.i Y),(27,.i Z),(32,ls.v),(33,.i (labels.length:Int)),(34,.i (labels.length:Int))]) h') P) :
  ∀(k i:Nat),i+k=labels.length->∀{h:AH},Md (λj=>j=jg) hB h->GF EI T.int h Fp.no A (some jg) ((gradS c sc labels).take i++List.replicate k 0)->
  Runs (go (.pt kdd km9 [(1,tsl.v),(2,ls.v),(3,.p (.new kc 0)),(6,.p (.new kr 0)),(9,scs.v),(10,.p (.new km 0)),(11,A.v),(26,.i Y),(27,.i Z),(32,ls.v),(33,.i (labels.length:Int)),(34,.i (i:Int))]) h) P:=by
 have ac:=ko8 c sc labels;intro k
 induction k with
 | zero =>
  intro i hi h m v;obtain rfl:i=labels.length:=by omega
  rw[List.take_of_length_le (by omega)]at v;exact H h m (by simpa using v)
 | succ k ih =>
  intro i hi h m v;have C:i<labels.length:=by omega
  have F:i<sc.length:=by omega
  have Q1:=Q.md m λj a e=>nL (e▸a);have B1:=m.has B hk;have V1:=GF.md m (S:=Fp.no) (λj a _=>a) V λk e=>by cases e;exact hj
  obtain⟨r,e1,e2⟩:=Q1.int C;obtain⟨r2,e3,e4⟩:=V1.sq.int F;rw[k02];refine qbb (qbx (by omega)) (qz e1 (qz e2 ?_));refine rd8 B1 ?_;refine qz e3 (qz e4 ?_);obtain⟨h1,e5,g1⟩:=kbge c sc[i] labels[i] h;refine qz e5 (qz rfl (qz (seen qcp) (qz (seen qcp) ?_)));have v1:=v.grow g1;have K:((gradS c sc labels).take i++List.replicate (k+1) 0).length=labels.length:=by simp;omega
  obtain⟨r3,h2,e6,p6,V2,U⟩:=v1.set (T:=Fp.no) (x:=(c.grad sc[i] labels[i]).1) (show EI.has h1 Fp.no [.i (c.grad sc[i] labels[i]).1] _ from rfl) qbm (kbi (show i<_ by rw[K];exact C));rw[<- v1.len]at e6;have U:Upd h1 h2 jg:=U;refine qz e6 (qz p6 ?_);rw[kj (by omega)];refine ih (i+1) (by omega) ((m.thenG g1).trans (U.md rfl)) ?_
  have I:((gradS c sc labels).take i++List.replicate (k+1) 0).set i (c.grad sc[i] labels[i]).1=(gradS c sc labels).take (i+1)++List.replicate k 0:=by
   have X:((gradS c sc labels).take i).length=i:=by simp;omega
   rw[List.set_append_right _ _ (by omega),X,Nat.sub_self,List.replicate_succ,List.set_cons_zero,qch (by omega),List.append_assoc];congr 1;simp[gradS,List.getD,F,C]
  rw[<- I];exact V2.mono (λj x=>x.elim id id) qbm
def TrainP(hE:AH)(m:List (List Nd))(e:Int)(v:AV)(h':AH):Prop:=∃s:Sl,v=.tup [.agg [s.v],.i e]/\Sq EM h' Fp.all s m/\Grow hE h'
theorem kbhk(T0:Tab hE)(hf:faultC c ts labels=0)(Qt:Sq Ef.tb hE St tsl ts)(Q:Sq EI hE SL ls labels){kc kr km js:Nat}(ay:hE.blks.size<=kc)(az:hE.blks.size<=kr)(a0:hE.blks.size<=km)(ba:hE.blks.size<=js)(ae:kc≠km)(bb:kc≠kr)(af:kr≠km)(ag:kc≠js)(ah:kr≠js)(U:km≠js) :
  ∀(k i:Nat),i+k=c.trees.toNat->∀(m:List (List Nd))(sc:List Int)(l x:Sl)(I:Option Nat)(S:Fp)(h:AH),m.length=i->sc.length=labels.length->Md Fp.no hE h->h.has kc c.cells kbn->h.has kr [x.v] kcp->h.has km [l.v] kcp->GF EM kbu h S l I m->(∀j,S j\/I=some j->hE.blks.size<=j/\j≠kc/\j≠kr/\j≠km/\j≠js)->GF EI T.int h Fp.no scs (some js) sc->
  Runs (go (.pt kdd kqg [(1,tsl.v),(2,ls.v),(3,.p (.new kc 0)),(6,.p (.new kr 0)),(9,scs.v),(10,.p (.new km 0)),(26,.i c.trees),(27,.i (i:Int))]) h) (TrainP hE (trainS c ts labels k m sc).1 0):=by
 obtain⟨hc,aa,ai,ac,aj,aw⟩:=kle hf;have hd:=qbo hc;have hp:0<ts.length:=List.length_pos_iff.2 aa;have bc:ts.getD 0 Tb.no=ts[0]:=by simp[List.getD,hp]
 have hz:∀(p:Nat)(hp:p<ts.length),tabR ts[p]=true/\ts[p].ids.length=labels.length:=λp hp=>by obtain⟨a,b,_⟩:=kiy ac hp;exact⟨a,by rw[b,aj]⟩
 have hL:labels.length<=256:=by rw[<- (hz 0 hp).2];have:=(hz 0 hp).1;unfold tabR idsR at this;simp at this;omega
 intro k
 induction k with
 | zero =>
  intro i hi m sc l x I S h hm hs M B Br Bm V C Vs;rw[kwn];refine qbc (qby (by omega)) ?_;refine qcq Bm 0 rfl (qba Br rfl λh1 B1 u1=>?_);refine qcq B1 0 rfl (qy ⟨l,rfl,?_,?_⟩)
  ·have nS:¬S kr:=λa=>(C kr (.inl a)).2.2.1 rfl;exact(V.upd u1 nS λk e=>(C k (.inr e)).2.2.1).sq.mono λ_ _=>trivial
  ·exact(M.next (u1.md (T:=λj=>j=kr) rfl) λj hj e=>by omega).grow λ_ _ a=>a
 | succ k ih =>
  intro i hi m sc l x I S h hm hs M B Br Bm V C Vs;rw[kwn];refine qbb (qbx (by omega)) ?_;obtain⟨h1,e1,F,V1⟩:=GF.mk (E:=EI) (elem:=T.int) (S:=Fp.no) (h:=h) (n:=labels.length) (bytes:=Pg.bytesOf T.int) (l:=(ls.len:Int)) (c:=(ls.len:Int)) (cs:=[.i 0]) (x:=(0:Int)) (λh'=>rfl) qbm (by rw[Q.len]) (by rw[Q.len]) (by rw[kks];omega) (by omega);refine qz e1 ?_;rw[Q.len];have zM:=M.size;have zB:=B.lt;have zr:=Br.lt;have zm:=Bm.lt;have zs:js<h.blks.size:=Vs.lt;have M1:=M.thenG F;have Qb:Sq EI h1 (λj=>SL j/\j<hE.blks.size) ls labels:=Q.bound.md M1 λj _ a=>a;have bd:Sq Ef.tb h1 (λj=>St j/\j<hE.blks.size) tsl ts:=Qt.bound.md M1 λj _ a=>a;refine kbea (jg:=h.blks.size) Qb (F.has B) (Vs.grow F) hs hL (λa=>by have:=a.2;omega) (by omega) (by omega) (λh2 X V2=>?_) labels.length 0 (by omega) (Md.refl _ _) (by simpa using V1);rw[k02];refine qbc (qby (by omega)) ?_;have B2:=X.has (F.has B) (by omega);have ak:=X.has (F.has Br) (by omega);have Y:=X.has (F.has Bm) (by omega);have M2:Md Fp.no hE h2:=M1.next X λj hj e=>by omega
  refine qcq Y 0 rfl ?_;refine rd8 B2 ?_;have al:GF EI T.int h2 Fp.no scs (some js) sc:=GF.md X (S:=Fp.no) (λj a _=>a) (Vs.grow F) λk e=>by cases e;omega
  have am:Sq Ef.tb h2 (λj=>St j/\j<hE.blks.size) tsl ts:=Qt.bound.md M2 λj _ a=>a;refine(k9g (z:=labels.length) (T0.md M2) hc V2.sq am al (λa=>a.elim (λe=>by cases e;omega) id) (λa=>by have:=a.2;omega) (ko8 _ _ _) hs hL ai hz).call λv h3 ⟨nd,jn,ev,be,Vn,an,Z⟩=>?_;subst ev;refine qz rfl (qbb rfl (qz (seenAt rfl qco) ?_));refine qbe (Z.same Y U 0 1) ?_;refine q0 λK b4 H=>?_;have ad:=Z.has Y U;refine qbe (H.same ad 0 1) ?_;refine qz (kcc (n:=1) b4 (by rw[k3z];rfl)) ?_;have bf:=F.size;have bg:=X.size;have bh:∀j,j=h.blks.size->¬(S j/\j<h.blks.size):=λj e a=>by have:=a.2;omega
  have V4:GF EM kbu K (λj=>S j/\j<h.blks.size) l I m:=by
   have ap:=GF.md X (λj a e=>by have:=a.2;omega) (V.bound.grow F) λk e x=>by subst e;have:=V.lt;have this:k<h.blks.size:=this;omega
   exact(GF.md Z (λj a e=>(C j (.inl a.1)).2.2.2.2 e) ap λk e x=>(C k (.inr e)).2.2.2.2 x).grow H
  obtain⟨s5,h5,e5,V5,u5⟩:=V4.push (P:=Pg) (T:=Fp.opt (some jn)) (cs:=[nd.v]) (x:=(growS c ts (gradS c sc labels) 64 [firstW labels.length] [Nd.no] sc).1) ⟨nd,rfl,(Vn.grow H).sq.mono λj a=>a.elim id False.elim⟩ (by
   cases I with
   | none=>trivial
   | some y =>intro e;cases e;have:=V.lt;have this:jn<h.blks.size:=this;omega) (kxa (by omega))
  refine qz e5 (qz qco ?_);have ax:∀y,I=some y->y<h.blks.size:=λy e=>by subst e;exact V.lt
  have A:Md (λj=>I=some j) K h5:=UpdO.md u5 λk e=>e;have z3:=Z.size;have z4:h3.blks.size<=K.blks.size:=H.size;have z5:=A.size;have B5:=A.has ((H.has (Z.has B2 ag))) (λe=>(C kc (.inr e)).2.1 rfl);have aq:=A.has ((H.has (Z.has ak ah))) (λe=>(C kr (.inr e)).2.2.1 rfl);have ar:=A.has ((H.has ad)) (λe=>(C km (.inr e)).2.2.2.1 rfl);have au:GF EI T.int h5 Fp.no scs (some js) (growS c ts (gradS c sc labels) 64 [firstW labels.length] [Nd.no] sc).2:=GF.md A (S:=Fp.no) (λj a _=>a) (an.grow H) λk e x=>by cases e;exact(C js (.inr x)).2.2.2.2 rfl
  refine qba ar rfl λh6 B6 u6=>?_;rw[kj (by omega)]
  have hF:∀j,(Fp.or (λj=>S j/\j<h.blks.size) (Fp.opt (some jn)) j/\j<K.blks.size)\/some K.blks.size=some j->hE.blks.size<=j/\j≠kc/\j≠kr/\j≠km/\j≠js:=by
   rintro j (⟨a | a,b⟩ | a)
   ·exact C j (.inl a.1)
   ·cases a;omega
   ·cases a;omega
  have nK:¬(Fp.or (λj=>S j/\j<h.blks.size) (Fp.opt (some jn)) km/\km<K.blks.size):=λa=>(hF km (.inl a)).2.2.2.1 rfl;have:=ih (i+1) (by omega) (m++[(growS c ts (gradS c sc labels) 64 [firstW labels.length] [Nd.no] sc).1]) (growS c ts (gradS c sc labels) 64 [firstW labels.length] [Nd.no] sc).2 s5 x (some K.blks.size) _ h6 (by simp[hm]) ?_ ?_ (B5.updr ae u6) (aq.updr af u6) B6 (V5.upd u6 nK λk e=>by cases e;omega) hF (au.upd u6 qbm λk e=>by cases e;exactλe=>U e.symm)
  ·exact this
  ·have:=kru c ts (gradS c sc labels) 64 [firstW labels.length] [Nd.no] sc;omega
  ·have M4:Md Fp.no hE K:=(M2.next Z λj hj e=>by omega).thenG H;exact(M4.next A λj hj e=>by have:=(C j (.inr e)).1;omega).next (u6.md (T:=λj=>j=km) rfl) λj hj e=>by omega
theorem k0l(T0:Tab hE)(Qt:Sq Ef.tb hE St tsl ts)(Q:Sq EI hE SL ls labels):Runs (go (.fn kdd [.agg c.cells,tsl.v,ls.v]) hE) (TrainP hE (trainC c ts labels).1 (trainC c ts labels).2.2):=by
 show Runs (go (.fn kdd [.agg [.i c.trees,.i c.depth,.i c.lambda,.i c.gamma,.i c.num,.i c.den,.i c.loss,.i c.clip],tsl.v,ls.v]) hE) _;rw[kbam];refine q0 λh1 b1 g1=>q0 λY b2 g2=>?_;have A:=g2.has b1;refine qcr A 0 rfl (qcr A 1 rfl (qcr A 2 rfl (qcr A 3 rfl (qcr A 4 rfl (qcr A 5 rfl (qcr A 6 rfl (qcr A 7 rfl ?_)))))));have K:=g1.trans g2;refine(kbjx (c:=c) (Qt.grow K) (Q.grow K)).call λv Z ⟨ev,U⟩=>?_;subst ev;refine qz (seen qcp) ?_;have G3:=K.trans U;have z1:=g1.size;refine qbd (λa=>?_) λa=>?_
 ·have F:¬faultC c ts labels=0:=by
   intro e;rw[e]at a;simp at a
  refine qba (U.has b2) rfl λX b4 u4=>qcq b4 0 rfl (qy ⟨⟨none,0,.is 0⟩,?_,?_,?_⟩)
  ·unfold trainC;rw[if_neg F]
  ·unfold trainC;rw[if_neg F];exact Sq.nil EM X Fp.all
  ·exact G3.updr (by omega) u4
 ·have F:faultC c ts labels=0:=by simpa using a
  have hh:=F;obtain⟨hc,H,ae,I,aa,ad⟩:=kle hh;have hp:0<ts.length:=List.length_pos_iff.2 H
  have hL:labels.length<=256:=by
   have ac:ts.getD 0 Tb.no=ts[0]:=by simp[List.getD,hp]
   rw[aa,ac];have:=(kiy I hp).1;unfold tabR idsR at this;simp at this;omega
  have hd:=qbo hc;obtain⟨X,e4,g4,V4⟩:=GF.mk (E:=EI) (elem:=T.int) (S:=Fp.no) (h:=Z) (n:=labels.length) (bytes:=Pg.bytesOf T.int) (l:=(ls.len:Int)) (c:=(ls.len:Int)) (cs:=[.i 0]) (x:=(0:Int)) (λh'=>rfl) qbm (by rw[Q.len]) (by rw[Q.len]) (by rw[kks];omega) (by omega);refine qz e4 ?_;refine q0 λh5 b5 g5=>?_;have C:Grow Y h5:=(U.trans g4).trans g5;have G5:=K.trans C;refine qcr (C.has A) 0 rfl ?_;have z2:=b1.lt;have af:=b2.lt;have z3:=U.size;have z4:Z.blks.size<X.blks.size:=V4.lt;have ag:Y.blks.size=Y.blks.size:=rfl;unfold trainC;rw[if_pos F];exact kbhk T0 F Qt Q (kc:=hE.blks.size) (kr:=h1.blks.size) (km:=X.blks.size) (js:=Z.blks.size) (by omega) (by omega) (by omega) (by omega) (by omega) (by omega) (by omega) (by omega) (by omega) (by omega) c.trees.toNat 0 (by omega) [] (List.replicate labels.length 0) _ _ none Fp.no h5 rfl (by simp) (G5.md _) (C.has A) (C.has b2) b5 (GF.none EM kbu h5 Fp.no) (λj a=>by rcases a with a | a;exact a.elim;cases a) (V4.grow g5)
end
theorem kq4{h:AH}{cs:List AV}(a:ArgT Pg h kbx cs):∃(s:Sl)(xs:List Int),cs=[s.v]/\Sq EI h Fp.no s xs:=kbct Fp.no k0a kf8 kew a
theorem kbbj{h:AH}{x:AV}(a:ArgV Pg h kta x):∃(s:Sl)(ts:List Tb),x=s.v/\Sq Ef.tb h Fp.no s ts:=by
 unfold ArgV at a;rw[k4n]at a
 obtain⟨s,xs,e,n⟩:=Sq.of_arg (E:=Ef.tb) (S:=Fp.no) k4n k4h (λes t=>by
  obtain⟨A,C⟩:=t.struct kbe6;rw[k4h]at A
  match es,A with
  | [X,x1,x2],_ =>
   simp[kt3,k95]at C;obtain⟨h0,h1,F⟩:=C;obtain⟨s1,xs,H,I⟩:=kq4 h0;obtain⟨s2,ys,K,n1⟩:=kq4 h1
   obtain⟨s3,zs,Q,U⟩:=Sq.of_arg (E:=Ef.seq EI) (S:=Fp.no) kbeh kt3 (λes t=>by obtain⟨s,l,e,n⟩:=kq4 t;exact⟨l,s,e,n⟩) F
   cases H;cases K;cases Q;exact⟨⟨xs,ys,zs⟩,s1,s2,s3,rfl,I,n1,U⟩) a
 cases e;exact⟨s,xs,rfl,n⟩
theorem int_of{h:AH}{x:AV}(a:ArgV Pg h kbx x):∃(s:Sl)(xs:List Int),x=s.v/\Sq EI h Fp.no s xs:=by unfold ArgV at a;rw[k0a]at a;obtain⟨s,xs,e,n⟩:=kq4 a;cases e;exact⟨s,xs,rfl,n⟩
theorem cfg_of{h:AH}{x:AV}(a:ArgV Pg h kbn x):∃c:Cfg,x=.agg c.cells:=by
 unfold ArgV at a;rw[kyk]at a;obtain⟨cs,rfl,t⟩:=a;obtain⟨A,C⟩:=t.struct kyk;rw[kbdk]at A
 match cs,A with
 | [x0,x1,x2,x3,x4,x5,x6,x7],_ =>simp[kew]at C;obtain⟨h0,h1,F,H,I,K,Q,U⟩:=C;obtain⟨X,Y,_⟩:=h0.int kf8;obtain⟨Z,e1,_⟩:=h1.int kf8;obtain⟨y2,e2,_⟩:=F.int kf8;obtain⟨y3,e3,_⟩:=H.int kf8;obtain⟨y4,e4,_⟩:=I.int kf8;obtain⟨y5,e5,_⟩:=K.int kf8;obtain⟨y6,e6,_⟩:=Q.int kf8;obtain⟨y7,e7,_⟩:=U.int kf8;cases Y;cases e1;cases e2;cases e3;cases e4;cases e5;cases e6;cases e7;exact⟨⟨X,Z,y2,y3,y4,y5,y6,y7⟩,rfl⟩
def awT:Tb:=⟨[0,1,2,3],[2],[[0,0,1,1]]⟩
def awC:Cfg:=⟨1,1,1,0,1,1,0,0⟩
def awM:List Nd:=[⟨false,0,0,0,0,1,2⟩,leafN 6,leafN (-7)]
theorem kyc:(trainC awC [awT] [10,10,-10,-10]).1=[awM]/\(trainC awC [awT] [10,10,-10,-10]).2.2=0:=by decide +kernel
theorem koh{h:AH}{i:Nat}{xs:List Int}{e:TypeId}(b:h.has i (xs.map (AV.int .i64)) e)(A:xs.length<=9223372036854775807):Sq EI h (Fp.or (λj=>j=i) Fp.no) ⟨some (.new i 0),xs.length,.is xs.length⟩ xs:=by
 refine Sq.lit (rows:=xs.map λx=>[AV.int .i64 x]) (e:=e) ?_ ?_ rfl A
 ·have:(xs.map λx=>[AV.int .i64 x]).flatten=xs.map (AV.int .i64):=by
   clear b A
   induction xs with
   | nil=>rfl
   | cons x xs ih=>rw[List.map_cons,List.flatten_cons,ih];rfl
  rw[this];exact b
 ·clear b A
  induction xs with
  | nil=>exact .nil
  | cons x xs ih=>exact .cons rfl ih
section
variable{h0:AH}
theorem kbm3(T0:Tab h0):Runs (go (.fn ku7 []) h0) λv h'=>v=.bool true/\Grow h0 h':=by rw[kbl9];refine q0 λh1 b1 g1=>q0 λh2 b2 g2=>q0 λh3 b3 Y=>q0 λh4 b4 X=>q0 λh5 b5 g5=>qba b5 rfl λh6 Z u6=>?_;have G6:Grow h4 h6:=g5.updr (qbp _) u6;refine qcq Z 0 rfl (qcq Z 1 rfl (qcq Z 2 rfl ?_));refine q0 λh7 b7 g7=>q0 λF b8 g8=>?_;have A:=(G6.trans g7).trans g8;have K:Grow h0 F:=(((g1.trans g2).trans Y).trans X).trans A;have q1:Sq EI F Fp.all ⟨some (.new h0.blks.size 0),4,.is 4⟩ [0,1,2,3]:=(koh (xs:=[0,1,2,3]) (((g2.trans Y).trans X |>.trans A).has b1) (by decide)).mono λ_ _=>trivial;have q2:Sq EI F Fp.all ⟨some (.new h1.blks.size 0),1,.is 1⟩ [2]:=(koh (xs:=[2]) (((Y.trans X).trans A).has b2) (by decide)).mono λ_ _=>trivial;have q3:Sq EI F Fp.all ⟨some (.new h2.blks.size 0),4,.is 4⟩ [0,0,1,1]:=(koh (xs:=[0,0,1,1]) ((X.trans A).has b3) (by decide)).mono λ_ _=>trivial;have q4:Sq (Ef.seq EI) F Fp.all ⟨some (.new h3.blks.size 0),1,.is 1⟩ [[0,0,1,1]]:=(Sq.lit (E:=Ef.seq EI) (rows:=[[Sl.v ⟨some (.new h2.blks.size 0),4,.is 4⟩]]) (A.has b4) (.cons ⟨_,rfl,q3⟩ .nil) rfl).mono λ_ _=>trivial;have q5:Sq Ef.tb F Fp.all ⟨some (.new h6.blks.size 0),1,.is 1⟩ [awT]:=(Sq.lit (E:=Ef.tb) (S:=Fp.all) (xs:=[awT]) (rows:=[[Sl.v ⟨some (.new h0.blks.size 0),4,.is 4⟩,Sl.v ⟨some (.new h1.blks.size 0),1,.is 1⟩,Sl.v ⟨some (.new h3.blks.size 0),1,.is 1⟩]]) (g8.has b7) (.cons ⟨_,_,_,rfl,q1,q2,q4⟩ .nil) rfl).mono λ_ _=>trivial;have Q:Sq EI F Fp.all ⟨some (.new h7.blks.size 0),4,.is 4⟩ [10,10,-10,-10]:=(koh (xs:=[10,10,-10,-10]) b8 (by decide)).mono λ_ _=>trivial;refine(k0l (c:=awC) (T0.grow K) q5 Q).call λv h9 ⟨s,e,V,g9⟩=>?_;subst e;rw[kyc.1]at V;rw[kyc.2];refine qz rfl (qz rfl (qbb rfl (qz (seenAt rfl qco) (qz (seen qcp) ?_))));refine q0 λah aa ac=>qba aa rfl λU H ad=>?_;have C:Grow h9 U:=ac.updr (qbp _) ad;have V:=V.grow C;refine qbc rfl (qcq H 0 rfl ?_);have ln:s.len=1:=V.len;rw[ln];refine qbc rfl (qcq H 0 rfl ?_);obtain⟨r,s',e1,-,e2,I⟩:=V.sl (i:=0) (by decide);have I:Sq Ef.nd U Fp.all s' awM:=I;have ae:s'.len=3:=I.len;refine qz e1 (qz e2 ?_);rw[ae];refine qbc rfl (qcq H 0 rfl (qz e1 (qz e2 ?_)));obtain⟨r0,a0,a1,-⟩:=I.nd (i:=0) (by decide);obtain⟨r1,b0,-,af,-⟩:=I.nd (i:=1) (by decide);obtain⟨r2,c0,-,ag,-⟩:=I.nd (i:=2) (by decide);refine qz a0 (qz a1 (qbb rfl (qz b0 (qz af (qbb rfl (qz c0 (qz ag (qy ⟨rfl,?_⟩))))))));exact(K.trans g9).trans C
end
def evalN(row:List (List Int))(t:List Nd):Nat->Nat->Option Int
 | 0,_=>none
 | f+1,i=>if(t.getD i Nd.no).leaf=true then some (t.getD i Nd.no).weight else if(t.getD i Nd.no).party>=(row.length:Int)then none
  else if(t.getD i Nd.no).feature>=((row.getD (t.getD i Nd.no).party.toNat []).length:Int)then none
  else evalN row t f (if(row.getD (t.getD i Nd.no).party.toNat []).getD (t.getD i Nd.no).feature.toNat 0<=(t.getD i Nd.no).cut then(t.getD i Nd.no).left.toNat else(t.getD i Nd.no).right.toNat)
def evalM(row:List (List Int)):List (List Nd)->Int->Int×Int
 | [],s=>(s,0)
 | t::m,s=>match evalN row t 64 0 with
  | none=>(0,1)
  | some w=>evalM row m (IntKind.wrap .i64 (s+w))
def evalF(row:List (List Int))(m:List (List Nd)):Int×Int:=if modR m=true then evalM row m 0 else(0,1)
theorem kt2{t:List Nd}(h:treeR t=true):1<=t.length/\t.length<=63/\∀(i:Nat)(hi:i<t.length),(t[i]).may (i:Int) (t.length:Int):=by
 unfold treeR at h;simp only[qb9,qci,qbv,List.all_eq_true,qcm]at h;obtain⟨⟨h1,C⟩,A⟩:=h;refine⟨by omega,by omega,λi hi=>?_⟩;have:=A i hi;unfold nodesR at this;rw[qbw]at this
 simpa[List.getD,hi]using this
section
variable{row:List (List Int)}{t:List Nd}{hE:AH}{S Sr:Fp}{tl rl ml:Sl}{kn kt:Nat}{s n z:Int}
theorem eval_8(hm:treeR t=true)(N:Sq Ef.nd hE S tl t)(R:Sq (Ef.seq EI) hE Sr rl row)(K:hE.blks.size<=kn)(ne:kt≠kn){P:AV->AH->Prop} :
  ∀(f i:Nat)(hi:i<t.length),t.length<=i+f->∀(h:AH),Grow hE h->h.has kt [tl.v] kbu->h.has kn (t[i]).cells kbj->
  (∀w h',evalN row t f i=some w->Grow hE h'->Runs (go (.pt kdv kls [(1,rl.v),(6,.i (IntKind.wrap .i64 (s+w))),(15,ml.v),(16,.i n),(17,.i (IntKind.wrap .i64 (z+1)))]) h') P)->
  (∀h',evalN row t f i=none->Grow hE h'->P (.tup [.i 0,.i 1]) h')->
  Runs (go (.pt kdv kmf [(1,rl.v),(6,.i s),(8,.p (.new kt 0)),(9,.p (.new kn 0)),(15,ml.v),(16,.i n),(17,.i z)]) h) P:=by
 obtain⟨h1,ad,may⟩:=kt2 hm;intro f
 induction f with
 | zero=>intro i hi hf;omega
 | succ f ih =>
  intro i hi hf h g Bt F C A;have hx:t.getD i Nd.no=t[i]:=by simp[List.getD,hi]
  have H:=may i hi;rw[evalN,hx]at C A;unfold Nd.cells at F;unfold Nd.may at H;rw[kbjv];refine qz (F.rd 0 rfl rfl) (qbd (λc=>?_) λc=>?_)
  ·rw[qci]at c;rw[c,if_neg (by decide)]at H C A;obtain⟨-,ae,-,af,-,-,-,ag,ah,ai,aj,-⟩:=H;refine qcr F 2 rfl ?_;rw[R.len];refine qbd (λd=>?_) λd=>?_
   ·rw[qbw]at d;rw[if_pos d]at A;exact qy (A h rfl g)
   rw[qbv]at d;rw[if_neg d]at C A;obtain⟨p,hp⟩:∃p:Nat,(t[i]).party=(p:Int):=⟨(t[i]).party.toNat,by omega⟩;obtain⟨q,hq⟩:∃q:Nat,(t[i]).feature=(q:Int):=⟨(t[i]).feature.toNat,by omega⟩;have Q:p<row.length:=by omega
   have aa:row.getD (t[i]).party.toNat []=row[p]:=by rw[hp];simp[List.getD,Q]
   rw[aa]at C A;obtain⟨r,s',e1,e2,-,n'⟩:=(R.grow g).sl Q;rw[<- hp]at e1;rw[R.len]at e1;refine qcr F 3 rfl (qcr F 2 rfl (qz e1 (qz e2 ?_)));rw[n'.len];refine qbd (λU=>?_) λU=>?_
   ·rw[qbw]at U;rw[if_pos U]at A;exact qy (A h rfl g)
   rw[qbv]at U;rw[if_neg U]at C A;have X:q<(row[p]).length:=by omega
   have ac:(row[p]).getD (t[i]).feature.toNat 0=row[p][q]:=by rw[hq];simp[List.getD,X]
   rw[ac]at C A;obtain⟨r2,e3,e4⟩:=n'.int X;rw[<- hq]at e3;rw[n'.len]at e3;refine qcr F 6 rfl (qcr F 2 rfl (qz e1 (qz e2 (qcr F 3 rfl ?_))));rw[n'.len];refine qz e3 (qz e4 (qcr F 4 rfl ?_));refine qbd (λb=>?_) λb=>?_
   ·rw[qbw]at b;rw[if_pos b]at C A;obtain⟨j,Y⟩:∃j:Nat,(t[i]).left=(j:Int):=⟨(t[i]).left.toNat,by omega⟩;rw[Y,Int.toNat_natCast]at C A;have I:j<t.length:=by omega
    obtain⟨r3,y,y0,y1,y2,y3,y4,y5,y6⟩:=(N.grow g).nd I;rw[<- Y]at y;refine qcr F 5 rfl (qcq Bt 0 rfl (qz y (qz y0 (qz y1 (qz y2 (qz y3 (qz y4 (qz y5 (qz y6 ?_)))))))));refine qba F rfl λh' B' Z=>?_;have ge:=g.updr K Z;exact ih j I (by omega) h' ge (Bt.updr ne Z) B' C A
   ·rw[qbv]at b;rw[if_neg b]at C A;obtain⟨j,Y⟩:∃j:Nat,(t[i]).right=(j:Int):=⟨(t[i]).right.toNat,by omega⟩;rw[Y,Int.toNat_natCast]at C A;have I:j<t.length:=by omega
    obtain⟨r3,y,y0,y1,y2,y3,y4,y5,y6⟩:=(N.grow g).nd I;rw[<- Y]at y;refine qcq Bt 0 rfl (qz y (qz y0 (qz y1 (qz y2 (qz y3 (qz y4 (qz y5 (qz y6 ?_))))))));refine qba F rfl λh' B' Z=>?_;have ge:=g.updr K Z;exact ih j I (by omega) h' ge (Bt.updr ne Z) B' C A
  ·rw[qcj]at c;rw[c,if_pos rfl]at C;exact qcr F 1 rfl (C _ h rfl g)
end
section
variable{row:List (List Int)}{m:List (List Nd)}{hE:AH}{S Sr:Fp}{rl ml:Sl}
theorem k1f{m:List (List Nd)}(h:modR m=true):m.length<=16/\∀(k:Nat)(A:k<m.length),treeR m[k]=true:=by unfold modR at h;simp only[qb9,qci,qbv,List.all_eq_true]at h;exact⟨by omega,λk A=>h.2 _ (qb3 A)⟩
theorem eval_5(Y:modR m=true)(M:Sq EM hE S ml m)(R:Sq (Ef.seq EI) hE Sr rl row):∀(k z:Nat),z+k=m.length->∀(s:Int){h:AH},Grow hE h->
  Runs (go (.pt kdv kls [(1,rl.v),(6,.i s),(15,ml.v),(16,.i (m.length:Int)),(17,.i (z:Int))]) h) λv h'=>v=.tup [.i (evalM row (m.drop z) s).1,.i (evalM row (m.drop z) s).2]/\Grow hE h':=by
 obtain⟨Z,hT⟩:=k1f Y;intro k
 induction k with
 | zero =>
  intro z hz s h g;rw[k3x,List.drop_of_length_le (by omega)];exact qbc (qby (by omega)) (qy ⟨rfl,g⟩)
 | succ k ih =>
  intro z hz s h g;have A:z<m.length:=by omega
  have K:=hT z A;obtain⟨h1,aa,may⟩:=kt2 K;obtain⟨r,tl,e1,-,e2,Q⟩:=(M.grow g).sl A;rw[k3x,qcg A];refine qbb (qbx (by omega)) (qz e1 (qz e2 (q0 λh2 b2 g2=>qba b2 rfl λC b3 u3=>?_)));have F:Grow h C:=g2.updr (qbp _) u3;obtain⟨r3,y,y0,y1,y2,y3,y4,y5,y6⟩:=(Q.grow F).nd (i:=0) h1;refine qcq b3 0 rfl (qz y (qz y0 (qz y1 (qz y2 (qz y3 (qz y4 (qz y5 (qz y6 ?_))))))));refine q0 λh4 b4 g4=>qba b4 rfl λU b5 u5=>?_;have X:Grow C U:=g4.updr (qbp _) u5;have z3:=b3.lt;have H:=g.trans F;rw[evalM];refine eval_8 (t:=m[z]) (hE:=C) K (Q.grow F) (R.grow H) (qbp _) (by omega) 64 0 h1 (by omega) U X (X.has b3) b5 (λw h' e I=>?_) (λh' e I=>?_)
  ·rw[e,kj (by omega)];exact ih (z+1) (by omega) _ (H.trans I)
  ·rw[e];exact⟨rfl,H.trans I⟩
theorem kbi5(M:Sq EM hE S ml m)(R:Sq (Ef.seq EI) hE Sr rl row):Runs (go (.fn kdv [.agg [ml.v],rl.v]) hE) λv h'=>v=.tup [.i (evalF row m).1,.i (evalF row m).2]/\Grow hE h':=by
 rw[k70];refine q0 λh1 b1 A=>qcq b1 0 rfl ?_;refine(k7o (M.grow A)).call λv F ⟨e,C⟩=>?_;subst e;have G:=A.trans C;refine qz (seen rfl) ?_;unfold evalF;refine qbd (λc=>qy ⟨?_,G⟩) λc=>?_
 ·rw[qci]at c;rw[c];rfl
 rw[qcj]at c;rw[if_pos c];refine qcq (C.has b1) 0 rfl ?_;rw[M.len];exact eval_5 c M R m.length 0 (by omega) 0 G
end
end Go.Ab
set_option maxRecDepth 10000
namespace Go.Ab
open Go.Proofs Go.Num Go.Heap
section
variable{h0:AH}{Sg Sx St:Fp}{gs x s1 s2 s3:Sl}{g:List Int}{R:List Nat}{t:Tb}
theorem kbbx(Q:Sq EI h0 Sg gs g)(X:Sq EI h0 Sx x (zs R))(Z:∀i∈R,i<g.length)(hl:R.length<=100000){b1 b2:Nat}(H:h0.blks.size<=b1)(I:h0.blks.size<=b2)(hb:b1≠b2):∀(k i:Nat),i+k=R.length->∀(h:AH),Grow h0 h->h.has b1 [.i 0,.i 0] kw->h.has b2 [.i (sumG g (R.take i) 0),.i (R.length:Int)] kw->
  Runs (go (.pt kg6 kor [(0,gs.v),(1,x.v),(4,.p (.new b1 0)),(5,.p (.new b2 0)),(6,.i (i:Int))]) h) λv h'=>v=.agg [.i (sumR g R).1,.i (sumR g R).2]/\Grow h0 h':=by
 intro k
 induction k with
 | zero =>
  intro i hi h G B1 B2;obtain rfl:i=R.length:=by omega
  rw[List.take_length]at B2;rw[kyl,X.len,zs_len];refine qbc (qby (by omega)) (qcr B2 0 rfl (qcr B2 1 rfl ?_));refine qba B1 rfl λh1 C F=>?_;exact qcr C 0 rfl (qcr C 1 rfl (qy ⟨rfl,G.updr H F⟩))
 | succ k ih =>
  intro i hi h G B1 B2;have A:i<R.length:=by omega
  have hz:i<(zs R).length:=by rw[zs_len];exact A
  obtain⟨r1,e1,U⟩:=(X.grow G).int hz;have ex:(zs R)[i]=((R[i]:Nat):Int):=by simp[zs]
  rw[ex]at U;have Y:=Z _ (qb3 A);obtain⟨r2,e3,e4⟩:=(Q.grow G).int Y;rw[kyl];refine qbb (qbx (by rw[X.len,zs_len];omega)) (qcr B2 0 rfl (qz e1 (qz U (qz e3 (qz e4 ?_)))));refine Runs.putAt (o:=0) B2 (by simp) rfl λh1 C F=>?_;rw[kj (i:=i) (by omega)];have K:g.getD R[i] 0=g[R[i]]:=by simp[List.getD,Y]
  refine ih (i+1) (by omega) h1 (G.updr I F) (B1.updr hb F) ?_;rw[qch A,kzf,K]
  simpa using C
theorem kyb(Q:Sq EI h0 Sg gs g)(X:Sq EI h0 Sx x (zs R))(H:∀i∈R,i<g.length)(I:R.length<=100000):Runs (go (.fn kg6 [gs.v,x.v]) h0) λv h'=>v=.agg [.i (sumR g R).1,.i (sumR g R).2]/\Grow h0 h':=by rw[k50];refine q0 λh1 b1 K=>q0 λU b2 C=>qba b2 rfl λF b3 A=>?_;have G:=K.trans (C.updr (qbp _) A);have Y:=b1.lt;have Z:=A.size;have B1:F.has h0.blks.size [.i 0,.i 0] kw:=(C.has b1).updr (by omega) A;rw[X.len,zs_len]at b3;exact kbbx Q X H I (b1:=h0.blks.size) (b2:=h1.blks.size) (qbp _) (by omega) (by omega) R.length 0 (by omega) F G B1 b3
theorem kbcx(q:TabAt h0 St s1 s2 s3 t){f:Nat}{c:Int}(K:f<t.cols.length)(hR:∀i∈R,i<(t.cols[f]).length)(hl:R.length<=100000)(X:Sq EI h0 Sx x (zs R)){b:Bool}{bt:Nat}(B:h0.has bt [s1.v,s2.v,s3.v] kcb) :
  ∀(k i:Nat),i+k=R.length->∀(h:AH)(l:Sl)(j:Option Nat),Grow h0 h->LeO h0.blks.size j->GF EI T.int h Fp.no l j (zs ((R.take i).filter λi=>leftP t f c i==b))->
  Runs (go (.pt kfr kmn [(1,.i (f:Int)),(2,.i c),(3,x.v),(4,.bool b),(5,.p (.new bt 0)),(11,l.v),(12,.i (i:Int))]) h) λv h'=>Grow h0 h'/\∃(y:Sl)(j:Option Nat),v=y.v/\LeO h0.blks.size j/\GF EI T.int h' Fp.no y j (zs (R.filter λi=>leftP t f c i==b)):=by
 intro k
 induction k with
 | zero =>
  intro i hi h l j G C V;obtain rfl:i=R.length:=by omega
  rw[List.take_length]at V;rw[k0i,X.len,zs_len];exact qbc (qby (by omega)) (qy ⟨G,l,j,rfl,C,V⟩)
 | succ k ih =>
  intro i hi h l j G C V;have A:i<R.length:=by omega
  have hz:i<(zs R).length:=by rw[zs_len];exact A
  obtain⟨r1,Q,F⟩:=(X.grow G).int hz;have ex:(zs R)[i]=((R[i]:Nat):Int):=by simp[zs]
  rw[ex]at F;have U:=hR _ (qb3 A);obtain⟨r,s',e3,e4,-,n'⟩:=(q.cols.grow G).sl K;obtain⟨r2,e5,e6⟩:=n'.int U;rw[k0i];refine qbb (qbx (by rw[X.len,zs_len];omega)) (qcq (G.has B) 2 rfl (qz e3 (qz e4 (qz Q (qz F (qz e5 (qz e6 ?_)))))))
  have H:leftP t f c R[i]=decide ((t.cols[f])[R[i]]<=c):=by unfold leftP;simp[List.getD,K,U]
  rw[<- H];refine qbd (λa=>?_) λa=>?_
  ·refine qz Q (qz F (q0 λh2 b2 I=>?_));refine qz (kcc b2 (by rw[kew];rfl)) ?_
   have Y:(zs ((R.take i).filter λi=>leftP t f c i==b)).length<=i:=by rw[zs_len];exact qbq (List.length_filter_le _ _) (by simp;omega)
   obtain⟨t',Z,e7,V3,u3⟩:=(V.grow I).push (T:=Fp.no) (cs:=[.i (R[i]:Int)]) (x:=(R[i]:Int)) rfl qbn (kk3 (by omega));refine qz e7 (qz qco ?_);rw[kj (by omega)];have g3:Grow h0 Z:=(G.trans I).updo C u3;refine ih (i+1) (by omega) Z t' (some h2.blks.size) g3 (show _<=_ from(G.trans I).size) ?_
   have:zs ((R.take (i+1)).filter λi=>leftP t f c i==b)=zs ((R.take i).filter λi=>leftP t f c i==b)++[(R[i]:Int)]:=by rw[qch A,List.filter_append,zs_app];simp[a,zs]
   rw[this];exact V3.mono (λj x=>x.1.elim id id) qbn
  ·rw[kj (by omega)];refine ih (i+1) (by omega) h l j G C ?_
   have:(R.take (i+1)).filter (λi=>leftP t f c i==b)=(R.take i).filter λi=>leftP t f c i==b:=by rw[qch A,List.filter_append];simp[a]
   rw[this];exact V
theorem kts(q:TabAt h0 St s1 s2 s3 t){f:Nat}{c:Int}(C:f<t.cols.length)(F:∀i∈R,i<(t.cols[f]).length)(H:R.length<=100000)(X:Sq EI h0 Sx x (zs R))(b:Bool) :
  Runs (go (.fn kfr [.agg [s1.v,s2.v,s3.v],.i (f:Int),.i c,x.v,.bool b]) h0) λv h'=>Grow h0 h'/\∃(y:Sl)(j:Option Nat),v=y.v/\LeO h0.blks.size j/\GF EI T.int h' Fp.no y j (zs (R.filter λi=>leftP t f c i==b)):=by
 rw[kbc6];refine q0 λh1 b1 A=>?_;refine(kbcx (q.grow A) C F H (X.grow A) b1 R.length 0 (by omega) h1 _ none (ql _) trivial (GF.none EI T.int h1 Fp.no)).imp λv h' ⟨G,y,j,e,I,V⟩=>⟨A.trans G,y,j,e,?_,V⟩;cases j with
 | none=>trivial
 | some k=>exact qbq A.size I
end
def nd0(x:Spl):Nd:=⟨false,0,(x.1:Int),(x.2.1:Int),(x.2.2:Int),0,0⟩
theorem k2x{α:Type}(p:α->Bool)(l:List α):(l.filter λi=>p i==true)=l.filter p:=by simp
theorem k9r{α:Type}(p:α->Bool)(l:List α):(l.filter λi=>p i==false)=l.filter λi=>!p i:=by simp
structure SplR(h0:AH)(ts:List Tb)(g:List Int)(R:List Nat)(D:List Spl)(l:Sl)(jl:Option Nat)(s:Sl)(js:Option Nat)(h:AH):Prop where
 grow:Grow h0 h
 ll:LeO h0.blks.size jl
 ls:LeO h0.blks.size js
 ne:∀k,jl=some k->js≠some k
 spl:GF Ef.nd kbj h Fp.no l jl (D.map nd0)
 sum:GF EP kw h Fp.no s js (D.map λx=>sumR g (R.filter (leftS ts x)))
section
variable{h0:AH}{Sg Sx St:Fp}{gs tsl x:Sl}{g:List Int}{R:List Nat}{z:Nat}{ts:List Tb}
theorem kbm2(Q:Sq EI h0 Sg gs g)(X:Sq EI h0 Sx x (zs R))(hz:z<=g.length)(az:z<=256)(Y:∀i∈R,i<z)(ae:R.length<=100000)(Qt:Sq Ef.tb h0 St tsl ts){p:Nat}(hp:p<ts.length)(hR:tabR ts[p]=true)(af:ts[p].ids.length=z){f:Nat}(hf:f<ts[p].cols.length){D0:List Spl}(a0:D0.length<=16*512){P:AV->AH->Prop}
  (hP:∀h l jl s js,SplR h0 ts g R (D0++(cutsTo ts[p] (f+1)).map λx=>(p,x.1,x.2)) l jl s js h->Runs (go (.pt kcq koa [(0,tsl.v),(1,gs.v),(2,x.v),(8,l.v),(9,s.v),(10,.i (p:Int)),(11,.i ((f+1:Nat):Int))]) h) P) :
  ∀(k c:Nat),c+k=nb ts[p] f->∀h l jl s js,SplR h0 ts g R (D0++(cutsTo ts[p] f++(List.range c).map λc=>(f,c)).map λx=>(p,x.1,x.2)) l jl s js h->
  Runs (go (.pt kcq kpg [(0,tsl.v),(1,gs.v),(2,x.v),(8,l.v),(9,s.v),(10,.i (p:Int)),(11,.i (f:Int)),(12,.i (c:Int))]) h) P:=by
 obtain⟨ar,ag,C,K⟩:=ke2 hR;obtain⟨hb,ba,au,ah⟩:=kfj (K f hf) hf C;have Z:ts[p].bins.getD f 0=ts[p].bins[f]:=by simp[List.getD,hb]
 have bb:(nb ts[p] f:Int)=ts[p].bins[f]-1:=by unfold nb;rw[Z];omega
 have ai:ts.getD p Tb.no=ts[p]:=by simp[List.getD,hp]
 have aw:(cutsTo ts[p] f).length<=31*f:=kqk ts[p] f λi hi=>by
  obtain⟨aj,bc,ax,-⟩:=kfj (K i (by omega)) (by omega) C;have:ts[p].bins.getD i 0=ts[p].bins[i]:=by simp[List.getD,aj]
  unfold nb;rw[this];omega
 intro k
 induction k with
 | zero =>
  intro c hc h l jl s js I;obtain rfl:c=nb ts[p] f:=by omega
  rw[<- ku4]at I;obtain⟨r,s1,s2,s3,e1,F,e3,e4,qt⟩:=(Qt.grow I.grow).tb hp;obtain⟨r2,e5,e6⟩:=qt.bins.int hb;rw[k2e];refine qz e1 (qz e3 (qz e5 (qz e6 ?_)));rw[wrap64 (by omega) (by omega)];refine qbc (qby (by omega)) ?_;rw[kj (by omega)];exact hP h l jl s js I
 | succ k ih =>
  intro c hc h l jl s js I;have bd:(c:Int)<ts[p].bins.getD f 0:=by rw[Z];omega
  obtain⟨G,ll,ls,ak,V,W⟩:=I;have be:=V.lt;have lts:=W.lt;have bf:=G.size
  have bg:(D0++(cutsTo ts[p] f++(List.range c).map λc=>(f,c)).map λx=>(p,x.1,x.2)).length<=20000:=by simp only[qb0,qb1,qcl];omega
  obtain⟨r,s1,s2,s3,e1,F,e3,e4,qt⟩:=(Qt.grow G).tb hp;obtain⟨r2,e5,e6⟩:=qt.bins.int hb;rw[k2e];refine qz e1 (qz e3 (qz e5 (qz e6 ?_)));rw[wrap64 (by omega) (by omega)];refine qbb (qbx (by omega)) (q0 λh6 b6 g6=>?_);refine qz (kcc b6 (by rw[kuw];rfl)) ?_;have z6:=g6.size;obtain⟨l',h7,e7,V7,u7⟩:=(V.grow g6).push (T:=Fp.no) (show Ef.nd.has h6 Fp.no (nd0 (p,f,c)).cells (nd0 (p,f,c))from rfl) qbn (ksp (by rw[qb1];omega));refine qz e7 (qz qco ?_);have m7:Md (Fp.opt jl) h6 h7:=u7.md λk e=>e;have G7:Grow h0 h7:=(G.trans g6).updo ll u7;obtain⟨r,s1,s2,s3,e1,F,e3,e4,qt⟩:=(Qt.grow G7).tb hp;refine qz e1 (qz F (qz e3 (qz e4 ?_)));refine(kts qt hf (λi hi=>by rw[ah,af];exact Y i hi) ae (X.grow G7) true).call λv h8 ⟨g8,y,jy,e,ly,Vy⟩=>?_;subst e;rw[k2x]at Vy;refine qz (seen qco) ?_;have ay:(R.filter (leftP ts[p] f (c:Int))).length<=R.length:=List.length_filter_le _ _;refine(kyb (Q.grow (G7.trans g8)) Vy.sq (λi hi=>by have:=Y i (qck.1 hi).1;omega) (by omega)).call λv h9 ⟨e,g9⟩=>?_;subst e;refine qz rfl (qbb rfl (qz rfl (qz rfl (q0 λH aa al=>?_))));refine qz (kcc aa (by rw[kww];rfl)) ?_;have A:=(g8.trans g9).trans al;have W7:GF EP kw h7 Fp.no s js _:=GF.md m7 (λj a _=>a) (W.grow g6) λk e F=>ak k F e;obtain⟨s',U,am,an,ac⟩:=(W7.grow A).push (T:=Fp.no) (EP.of _ _) qbn (k1c (by rw[qb1];omega));refine qz am (qz qco ?_);have ap:Md (Fp.opt js) H U:=ac.md λk e=>e;rw[kj (by omega)];have z7:=m7.size;have bh:=A.size;have bi:=(g8.trans g9).size;have v7:h6.blks.size<h7.blks.size:=V7.lt
  have ad:(D0++(cutsTo ts[p] f++(List.range (c+1)).map λc=>(f,c)).map λx=>(p,x.1,x.2))=(D0++(cutsTo ts[p] f++(List.range c).map λc=>(f,c)).map λx=>(p,x.1,x.2))++[(p,f,c)]:=by rw[List.range_succ];simp
  refine ih (c+1) (by omega) U l' (some h6.blks.size) s' (some H.blks.size) ?_;rw[ad];have zb:h9.blks.size<H.blks.size:=aa.lt;refine⟨(G7.trans A).updo ls ac,show _<=_ by omega,show _<=_ by omega,λk e F=>by injection e with e;injection F with F;omega,?_,?_⟩
  ·rw[List.map_append];have aq:GF Ef.nd kbj h7 Fp.no l' (some h6.blks.size) _:=V7.mono (λj x=>x.1.elim id id) qbn;exact GF.md ap (S:=Fp.no) (λm a e=>a) (aq.grow A) λk e F=>by cases e;have:=opt_lt lts F;omega
  ·rw[List.map_append]
   have hl:leftS ts (p,f,c)=leftP ts[p] f (c:Int):=by funext i;unfold leftS;rw[ai]
   have W:=an.mono (T:=Fp.no) (λj x=>x.1.elim id id) qbn;show GF EP kw U Fp.no s' (some H.blks.size) (_++[sumR g (R.filter (leftS ts (p,f,c)))]);rw[hl];exact W
theorem kbnb(Q:Sq EI h0 Sg gs g)(X:Sq EI h0 Sx x (zs R))(hz:z<=g.length)(A:z<=256)(C:∀i∈R,i<z)(F:R.length<=100000)(H:Sq Ef.tb h0 St tsl ts){p:Nat}(K:p<ts.length)(ad:ts.length<=16)(hR:tabR ts[p]=true)(U:ts[p].ids.length=z){D0:List Spl}(Y:D0.length<=16*512){P:AV->AH->Prop}
  (hP:∀h l jl s js,SplR h0 ts g R (D0++kg0 p ts[p]) l jl s js h->Runs (go (.pt kcq kn7 [(0,tsl.v),(1,gs.v),(2,x.v),(8,l.v),(9,s.v),(10,.i ((p+1:Nat):Int))]) h) P) :
  ∀(k f:Nat),f+k=ts[p].cols.length->∀h l jl s js,SplR h0 ts g R (D0++(cutsTo ts[p] f).map λx=>(p,x.1,x.2)) l jl s js h->
  Runs (go (.pt kcq koa [(0,tsl.v),(1,gs.v),(2,x.v),(8,l.v),(9,s.v),(10,.i (p:Int)),(11,.i (f:Int))]) h) P:=by
 obtain⟨ae,Z,aa,af⟩:=ke2 hR;intro k
 induction k with
 | zero =>
  intro f hf h l jl s js I;obtain rfl:f=ts[p].cols.length:=by omega
  obtain⟨r,s1,s2,s3,e1,e2,e3,e4,qt⟩:=(H.grow I.grow).tb K;rw[k3c];refine qz e1 (qz e4 ?_);rw[qt.cols.len];refine qbc (qby (by omega)) ?_;rw[kj (by omega)];exact hP h l jl s js I
 | succ k ih =>
  intro f hf h l jl s js I;have ac:f<ts[p].cols.length:=by omega
  obtain⟨r,s1,s2,s3,e1,e2,e3,e4,qt⟩:=(H.grow I.grow).tb K;rw[k3c];refine qz e1 (qz e4 ?_);rw[qt.cols.len];refine qbb (qbx (by omega)) ?_;exact kbm2 Q X hz A C F H K hR U ac Y (λh l jl s js I=>ih (f+1) (by omega) h l jl s js I) (nb ts[p] f) 0 (by omega) h l jl s js (by simpa using I)
theorem kbii(Q:Sq EI h0 Sg gs g)(X:Sq EI h0 Sx x (zs R))(hz:z<=g.length)(K:z<=256)(U:∀i∈R,i<z)(Y:R.length<=100000)(Z:Sq Ef.tb h0 St tsl ts)(C:ts.length<=16)(F:∀(p:Nat)(H:p<ts.length),tabR ts[p]=true/\ts[p].ids.length=z) :
  ∀(k p:Nat),p+k=ts.length->∀h l jl s js,SplR h0 ts g R (kdw ts p) l jl s js h->
  Runs (go (.pt kcq kn7 [(0,tsl.v),(1,gs.v),(2,x.v),(8,l.v),(9,s.v),(10,.i (p:Int))]) h) λv h'=>∃l jl s js,v=.tup [l.v,s.v]/\SplR h0 ts g R (kbk ts) l jl s js h':=by
 intro k
 induction k with
 | zero =>
  intro p H h l jl s js I;obtain rfl:p=ts.length:=by omega
  rw[k01,Z.len];exact qbc (qby (by omega)) (qy ⟨l,jl,s,js,rfl,I⟩)
 | succ k ih =>
  intro p H h l jl s js I;have A:p<ts.length:=by omega
  obtain⟨hR,aa⟩:=F p A;rw[k01,Z.len];refine qbb (qbx (by omega)) ?_;have ac:ts.getD p Tb.no=ts[p]:=by simp[List.getD,A]
  have ad:=ksz (λp H=>(F p H).1) p (by omega);refine kbnb Q X hz K U Y Z A C hR aa (D0:=kdw ts p) (by omega) (λh l jl s js I=>?_) ts[p].cols.length 0 (by omega) h l jl s js (by simpa[cutsTo]using I);refine ih (p+1) (by omega) h l jl s js ?_;rw[ktn,ac];exact I
theorem k6v(Q:Sq EI h0 Sg gs g)(X:Sq EI h0 Sx x (zs R))(K:z<=g.length)(C:z<=256)(F:∀i∈R,i<z)(H:R.length<=100000)(U:Sq Ef.tb h0 St tsl ts)(A:ts.length<=16)(I:∀(p:Nat)(Y:p<ts.length),tabR ts[p]=true/\ts[p].ids.length=z) :
  Runs (go (.fn kcq [tsl.v,gs.v,x.v]) h0) λv h'=>∃l jl s js,v=.tup [l.v,s.v]/\SplR h0 ts g R (kbk ts) l jl s js h':=by
 rw[kbg8];refine kbii Q X K C F H U A I ts.length 0 (by omega) h0 _ none _ none ⟨ql _,trivial,trivial,(λk e=>by cases e),?_,?_⟩
 ·exact GF.none Ef.nd kbj h0 Fp.no
 ·exact GF.none EP kw h0 Fp.no
end
end Go.Ab
set_option maxRecDepth 10000
namespace Go.Ab
open Go.Proofs Go.Num Go.Heap
theorem kbka{n:Nat}(h:n<=1000000):growOk Pg n kfm 2=true:=by
 unfold growOk;rw[kbik,kbhx];have h1:n*32<=ks:=by simp only[ks];omega
 have A:n*2<=ks:=by simp only[ks];omega
 have C:n<=ks:=by simp only[ks];omega
 simp[h1,A,C]
theorem Grow.sameR{h h':AH}(g:Grow h h'){r:Ref}{A:Type}{f:AV->Option A}{x:A}(e:(h.cell r).bind f=some x):SameAt h h' r 1:=by
 obtain⟨v,C,_⟩:=qbu.1 e;refine⟨λj F=>?_,λe=>by omega⟩;have:j=0:=by omega
 subst this;rw[Ref.add_zero,C,g.cell_some C]
@[reducible] def Ef.wg:Ef (List Nat×Nat) where
 w:=2
 pos:=by decide
 has h S cs x:=∃y:Sl,cs=[y.v,.i (x.2:Int)]/\Sq EI h S y (zs x.1)
 len:=λ⟨_,e,_⟩=>by rw[e];rfl
 grow g:=λ⟨a,e,n⟩=>⟨a,e,n.grow g⟩
 mono f:=λ⟨a,e,n⟩=>⟨a,e,n.mono f⟩
 upd no u:=λ⟨a,e,n⟩=>⟨a,e,n.upd no u⟩
 bound:=λ⟨a,e,n⟩=>⟨a,e,n.bound⟩
theorem Sq.wg{h:AH}{S:Fp}{s:Sl}{xs:List (List Nat×Nat)}(n:Sq Ef.wg h S s xs){i:Nat}(hi:i<xs.length):∃(r:Ref)(y:Sl),idx s.ref s.len (i:Int) 2=some r/\(h.cell (r.add 0)).bind AV.asSl=some y/\(h.cell (r.add 1)).bind (AV.asInt .i64)=some ((xs[i].2:Nat):Int)/\Sq EI h S y (zs xs[i].1):=by obtain⟨r,cs,A,⟨y,rfl,t⟩,l⟩:=n.at (kh8 hi);rw[n.len];exact⟨r,y,A,l.rd (ql _) 0 rfl qco,l.rd (ql _) 1 rfl qcp,t⟩
structure RgAt(c:Cfg)(hE:AH)(scs:Sl)(js kc kr:Nat)(nd ws:Sl)(jn jw:Nat)(S:Fp)(nodes:List Nd)(L:List (List Nat×Nat))(sc:List Int)(h:AH):Prop where
 md:Md (λj=>j=js) hE h
 cfg:h.has kc c.cells kbn
 res:∃x:Sl,h.has kr [x.v] kbu
 nds:GF Ef.nd kbj h Fp.no nd (some jn) nodes
 wts:GF Ef.wg kfm h S ws (some jw) L
 sco:GF EI T.int h Fp.no scs (some js) sc
 fS:∀m,S m->hE.blks.size<=m/\m≠kc/\m≠kr/\m≠jn
 ge:hE.blks.size<=kc/\hE.blks.size<=kr/\hE.blks.size<=jn/\hE.blks.size<=jw
 ne:kc≠kr/\kc≠jn/\kc≠jw/\kr≠jn/\kr≠jw/\jn≠jw
section
variable{c:Cfg}{hE:AH}{scs gs tsl nd ws x:Sl}{js kc kr jn jw:Nat}{S Sx St Sg:Fp}{nodes:List Nd}{L:List (List Nat×Nat)}{sc g:List Int}{ts:List Tb}{h:AH}{R:List Nat}
theorem RgAt.grow(A:RgAt c hE scs js kc kr nd ws jn jw S nodes L sc h){h':AH}(g:Grow h h'):RgAt c hE scs js kc kr nd ws jn jw S nodes L sc h':=by obtain⟨md,cfg,⟨y,res⟩,nds,wts,sco,fS,ge,ne⟩:=A;exact⟨md.thenG g,g.has cfg,⟨y,g.has res⟩,nds.grow g,wts.grow g,sco.grow g,fS,ge,ne⟩
theorem k9a(w:Int)(l:List Nat)(i:Nat)(sc:List Int):addS w (l++[i]) sc=(addS w l sc).set i (IntKind.wrap .i64 ((addS w l sc).getD i 0+w)):=by unfold addS;rw[List.foldl_append,List.foldl_cons,List.foldl_nil]
theorem kba9{w Z:Int}{hB:AH}(hR:∀i∈R,i<sc.length)(hl:R.length<=100000)(X:Sq EI hB Sx x (zs R))(nx:¬Sx js){P:AV->AH->Prop}
  (H:∀h',Md (λj=>j=js) hB h'->GF EI T.int h' Fp.no scs (some js) (addS w R sc)->Runs (go (.pt kbq kgf [(1,tsl.v),(2,gs.v),(3,scs.v),(4,.p (.new kc 0)),(8,.p (.new kr 0)),(11,nd.v),(12,ws.v),(13,.i (IntKind.wrap .i64 (Z+1)))]) h') P) :
  ∀(k i:Nat),i+k=R.length->∀(h:AH),Md (λj=>j=js) hB h->GF EI T.int h Fp.no scs (some js) (addS w (R.take i) sc)->
  Runs (go (.pt kbq kph [(1,tsl.v),(2,gs.v),(3,scs.v),(4,.p (.new kc 0)),(8,.p (.new kr 0)),(11,nd.v),(12,ws.v),(13,.i Z),(14,x.v),(20,.i w),(22,.i (i:Int))]) h) P:=by
 intro k
 induction k with
 | zero =>
  intro i hi h M V;obtain rfl:i=R.length:=by omega
  rw[List.take_length]at V;rw[k0q,X.len,zs_len];exact qbc (qby (by omega)) (H h M V)
 | succ k ih =>
  intro i hi h M V;have A:i<R.length:=by omega
  have hz:i<(zs R).length:=by rw[zs_len];exact A
  obtain⟨r1,e1,F⟩:=(X.md M λj a e=>nx (e▸a)).int hz;have ex:(zs R)[i]=((R[i]:Nat):Int):=by simp[zs]
  rw[ex]at F;have I:(addS w (R.take i) sc).length=sc.length:=klr _ _ _;have K:R[i]<(addS w (R.take i) sc).length:=by rw[I];exact hR _ (qb3 A)
  have ln:scs.len=(addS w (R.take i) sc).length:=V.len;obtain⟨r2,Q,e4⟩:=V.sq.int K;rw[k0q];refine qbb (qbx (by rw[X.len,zs_len];omega)) (qz e1 (qz F (qz e1 (qz F (qz Q (qz e4 (qz Q ?_)))))));have U:(addS w (R.take i) sc).getD R[i] 0=(addS w (R.take i) sc)[R[i]]:=by simp[List.getD,K]
  obtain⟨r3,h1,C,p5,V5,Y⟩:=V.set (T:=Fp.no) (x:=IntKind.wrap .i64 ((addS w (R.take i) sc)[R[i]]+w)) (show EI.has h Fp.no [.i (IntKind.wrap .i64 ((addS w (R.take i) sc)[R[i]]+w))] _ from rfl) qbm (kbi K);have C:idx scs.ref (addS w (R.take i) sc).length ((R[i]:Nat):Int) 1=some r3:=C;rw[<- ln,Q]at C;cases C;refine qz p5 ?_;rw[kj (by omega)];have Y:Upd h h1 js:=Y;refine ih (i+1) (by omega) h1 (M.trans (Y.md rfl)) ?_;rw[qch A,k9a,U];exact V5.mono (λj x=>x.elim id id) qbm
theorem RgAt.setn(A:RgAt c hE scs js kc kr nd ws jn jw S nodes L sc h)(Z:js<hE.blks.size){i:Nat}(hi:i<nodes.length)(y:Nd):∃(r:Ref)(h':AH),idx nd.ref nd.len (i:Int) 7=some r/\h.puts r y.cells=some h'/\Upd h h' jn/\RgAt c hE scs js kc kr nd ws jn jw S (nodes.set i y) L sc h':=by obtain⟨md,cfg,⟨z,res⟩,nds,wts,sco,fS,ge,ne⟩:=A;obtain⟨n1,U,n3,X,n5,Y⟩:=ne;obtain⟨H,I,K,Q⟩:=ge;obtain⟨r,h1,F,p1,V1,C⟩:=nds.set (T:=Fp.no) (x:=y) (show Ef.nd.has h Fp.no y.cells y from rfl) qbm (kbi hi);have C:Upd h h1 jn:=C;have F:idx nd.ref nodes.length (i:Int) 7=some r:=F;rw[<- nds.len]at F;refine⟨r,h1,F,p1,C,md.next (C.md (T:=λj=>j=jn) rfl) (λj hj e=>by omega),cfg.updr U C,⟨z,res.updr X C⟩,V1.mono (λj x=>x.elim id id) qbm,wts.upd C (λa=>(fS _ a).2.2.2 rfl) (λk e=>by cases e;exactλe=>Y e.symm),sco.upd C qbm (λk e=>by cases e;omega),fS,⟨H,I,K,Q⟩,⟨n1,U,n3,X,n5,Y⟩⟩
theorem k7i(c:Cfg)(s:Int×Int){h:AH}:Runs (go (.fn kng [.agg [.i c.trees,.i c.depth,.i c.lambda,.i c.gamma,.i c.num,.i c.den,.i c.loss,.i c.clip],.agg [.i s.1,.i s.2]]) h) λv h'=>(∃e:Int,v=.tup [.i (kcu c s),.i e])/\Grow h h':=(kbm4 c.trees c.depth c.lambda c.gamma c.num c.den c.loss c.clip s.1 s.2).imp λv h' ⟨e,g⟩=>⟨⟨_,e⟩,g⟩
theorem k69(A:RgAt c hE scs js kc kr nd ws jn jw S nodes L sc h)(K:js<hE.blks.size){i:Nat}(hi:i<nodes.length){F:Nat}{sm:Int×Int}(I:h.has F [.i sm.1,.i sm.2] kw)(X:Sq EI h Sx x (zs R))(Z:¬Sx js)(nj:¬Sx jn)(hR:∀i∈R,i<sc.length)(hl:R.length<=100000){bs l:Sl}(hb:bs.len=0){P:AV->AH->Prop}
  (H:∀h',RgAt c hE scs js kc kr nd ws jn jw S (nodes.set i (leafN (kcu c sm))) L (addS (kcu c sm) R sc) h'->Runs (go (.pt kbq kgf [(1,tsl.v),(2,gs.v),(3,scs.v),(4,.p (.new kc 0)),(8,.p (.new kr 0)),(11,nd.v),(12,ws.v),(13,.i (IntKind.wrap .i64 ((i:Int)+1)))]) h') P) :
  Runs (go (.pt kbq kkg [(1,tsl.v),(2,gs.v),(3,scs.v),(4,.p (.new kc 0)),(8,.p (.new kr 0)),(11,nd.v),(12,ws.v),(13,.i (i:Int)),(14,x.v),(15,.p (.new F 0)),(16,bs.v),(17,l.v)]) h) P:=by
 rw[kxw,hb];have C:=A.cfg;refine qbb rfl ?_;refine rd8 C (qcr I 0 rfl (qcr I 1 rfl ?_));refine(k7i c sm).call λv h1 ⟨⟨e,he⟩,Q⟩=>?_;subst he;refine qz rfl (qz (seen qcp) (qz (seen qcp) ?_));dsimp only;obtain⟨r,U,e1,p2,u2,Y⟩:=(A.grow Q).setn K hi (leafN (kcu c sm));refine qz e1 (qz p2 ?_);have X2:Sq EI U Sx x (zs R):=(X.grow Q).upd nj u2;refine kba9 hR hl X2 Z (λh' m V=>H h' ?_) R.length 0 (by omega) U (Md.refl _ _) Y.sco;obtain⟨md,cfg,⟨z,res⟩,nds,wts,sco,fS,ge,ne⟩:=Y;exact⟨md.trans m,m.has cfg (by omega),⟨z,m.has res (by omega)⟩,GF.md m (S:=Fp.no) (λj a _=>a) nds (λk e=>by cases e;omega),GF.md m (λj a e=>by have:=(fS j a).1;omega) wts (λk e=>by cases e;omega),V,fS,ge,ne⟩
end
theorem Grow.rdR{h h':AH}(g:Grow h h'){r:Ref}{A:Type}{f:AV->Option A}{x:A}(e:(h.cell r).bind f=some x):(h'.cell r).bind f=some x:=by obtain⟨v,C,F⟩:=qbu.1 e;rw[g.cell_some C];exact F
theorem kbbg{ts:List Tb}{s:Spl}(h:s∈kbk ts):∃A:s.1<ts.length,s.2.1<(ts[s.1]).cols.length:=by
 unfold kbk kdw at h;rw[List.mem_flatMap]at h;obtain⟨p,A,h⟩:=h;rw[qcm]at A;have F:ts.getD p Tb.no=ts[p]:=by simp[List.getD,A]
 unfold kg0 at h;rw[F,List.mem_map]at h;obtain⟨⟨f,c⟩,h,e⟩:=h;unfold cutsTo at h;rw[List.mem_flatMap]at h;obtain⟨H,C,h⟩:=h;rw[qcm]at C;rw[List.mem_map]at h;obtain⟨I,K,h⟩:=h;injection h with h1 Q;subst h1;subst e;exact⟨A,C⟩
section
variable{c:Cfg}{hE:AH}{scs gs tsl nd ws x:Sl}{js kc kr jn jw:Nat}{S Sx St Sg:Fp}{nodes:List Nd}{L:List (List Nat×Nat)}{sc g:List Int}{ts:List Tb}{h:AH}{R:List Nat}
theorem RgAt.lts(A:RgAt c hE scs js kc kr nd ws jn jw S nodes L sc h):kc<h.blks.size/\kr<h.blks.size/\jn<h.blks.size/\jw<h.blks.size/\js<h.blks.size/\hE.blks.size<=h.blks.size:=by obtain⟨md,cfg,⟨z,res⟩,nds,wts,sco,fS,ge,ne⟩:=A;exact⟨cfg.lt,res.lt,nds.lt,wts.lt,sco.lt,md.size⟩
theorem RgAt.push2(A:RgAt c hE scs js kc kr nd ws jn jw S nodes L sc h)(X:js<hE.blks.size)(hn:nodes.length<=1000):∃(F:Sl)(h':AH),kv Pg nd (Nd.no.cells++Nd.no.cells) 2 kbj 7 h=some (F.v,h')/\Upd h h' jn/\RgAt c hE scs js kc kr F ws h.blks.size jw (λj=>S j/\j<h.blks.size) (nodes++[Nd.no,Nd.no]) L sc h':=by obtain⟨l1,l2,l3,l4,l5,l6⟩:=A.lts;obtain⟨md,cfg,⟨z,res⟩,nds,wts,sco,fS,ge,ne⟩:=A;obtain⟨n1,Y,Z,n4,n5,n6⟩:=ne;obtain⟨H,I,aa,K⟩:=ge;obtain⟨Q,U,e9,V9,C⟩:=nds.pushs (P:=Pg) (T:=Fp.no) (rows':=[Nd.no.cells,Nd.no.cells]) (ys:=[Nd.no,Nd.no]) (n:=2) (.cons rfl (.cons rfl .nil)) rfl (by decide) qbn (ksp (by omega));have C:Upd h U jn:=C;refine⟨Q,U,e9,C,md.next (C.md (T:=λj=>j=jn) rfl) (λj hj e=>by omega),cfg.updr Y C,⟨z,res.updr n4 C⟩,V9.mono (λj k=>k.1.elim id id) qbm,wts.bound.upd C (λa=>(fS _ a.1).2.2.2 rfl) (λk e=>by cases e;exactλe=>n6 e.symm),sco.upd C qbm (λk e=>by cases e;omega),λm a=>?_,⟨H,I,by omega,K⟩,⟨n1,by omega,Z,by omega,n5,by omega⟩⟩;obtain⟨a1,a2,a3,a4⟩:=fS m a.1;have:=a.2;exact⟨a1,a2,a3,by omega⟩
theorem RgAt.wait2(A:RgAt c hE scs js kc kr nd ws jn jw S nodes L sc h)(ad:js<hE.blks.size)(hn:L.length<=1000){H I:Sl}{K Q:List Nat}{d:Nat}{U X:Fp}(X1:Sq EI h U H (zs K))(X2:Sq EI h X I (zs Q))(hS:∀m,U m\/X m->hE.blks.size<=m/\m≠kc/\m≠kr/\m≠jn/\m≠jw) :
  ∃(F:Sl)(h':AH)(S':Fp),kv Pg ws [H.v,.i (d:Int),I.v,.i (d:Int)] 2 kfm 2 h=some (F.v,h')/\RgAt c hE scs js kc kr nd F jn h.blks.size S' nodes (L++[(K,d),(Q,d)]) sc h':=by
 obtain⟨l1,l2,l3,l4,l5,l6⟩:=A.lts;obtain⟨md,cfg,⟨z,res⟩,nds,wts,sco,fS,ge,ne⟩:=A;obtain⟨n1,n2,n3,n4,n5,n6⟩:=ne;obtain⟨Y,Z,aa,ae⟩:=ge;obtain⟨ac,h9,e9,V9,C⟩:=wts.pushs (P:=Pg) (T:=Fp.or U X) (rows':=[[H.v,.i (d:Int)],[I.v,.i (d:Int)]]) (ys:=[(K,d),(Q,d)]) (n:=2) (.cons ⟨H,rfl,X1.mono λ_ a=>.inl a⟩ (.cons ⟨I,rfl,X2.mono λ_ a=>.inr a⟩ .nil)) rfl (by decide) (λa=>(hS jw a).2.2.2.2 rfl) (kbka (by omega));have C:Upd h h9 jw:=C;refine⟨ac,h9,_,e9,md.next (C.md (T:=λj=>j=jw) rfl) (λj hj e=>by omega),cfg.updr n3 C,⟨z,res.updr n5 C⟩,nds.upd C qbm (λk e=>by cases e;exact n6),V9,sco.upd C qbm (λk e=>by cases e;omega),λm a=>?_,⟨Y,Z,aa,by omega⟩,⟨n1,n2,by omega,n4,by omega,by omega⟩⟩;rcases a.1 with a | a
 ·exact fS m a
 ·obtain⟨a1,a2,a3,a4,a5⟩:=hS m a;exact⟨a1,a2,a3,a4⟩
theorem k5t(A:RgAt c hE scs js kc kr nd ws jn jw S nodes L sc h)(Y:js<hE.blks.size)(hn:nodes.length<=100)(hL:L.length<=100){i:Nat}(hi:i<nodes.length)(ae:i<L.length){d:Nat}(an:L[i]=(R,d))(hd:d<=100)(X:Sq EI h Sx x (zs R))(nx:¬Sx jn){z:Nat}(ap:∀i∈R,i<z)(hl:R.length<=100000)
  (Qt:Sq Ef.tb hE St tsl ts) (aq:¬St js) (ar:∀(p:Nat)(hp:p<ts.length),tabR ts[p]=true/\ts[p].ids.length=z) {Sb au:Fp} {bs l:Sl} {b:Int} {bt:List Int} (Vb:Sq EI h Sb bs (b::bt)) {D:List Spl} (Vl:Sq Ef.nd h au l (D.map nd0)) {j:Nat} (hj:b=(j:Int)) (aw:j<D.length) {s:Spl} (hs:D[j]=s) (hp:s.1<ts.length) (hf:s.2.1<(ts[s.1]).cols.length) {ax:Nat} {P:AV->AH->Prop}
  (H:∀h' af Z ay az S',RgAt c hE scs js kc kr af Z ay az S' (nodes.set i (splitN s nodes.length (nodes.length+1))++[Nd.no,Nd.no]) (L++[(R.filter (leftS ts s),d+1),(R.filter λi=>!leftS ts s i,d+1)]) sc h'->Runs (go (.pt kbq kgf [(1,tsl.v),(2,gs.v),(3,scs.v),(4,.p (.new kc 0)),(8,.p (.new kr 0)),(11,af.v),(12,Z.v),(13,.i (IntKind.wrap .i64 ((i:Int)+1)))]) h') P) :
  Runs (go (.pt kbq kkg [(1,tsl.v),(2,gs.v),(3,scs.v),(4,.p (.new kc 0)),(8,.p (.new kr 0)),(11,nd.v),(12,ws.v),(13,.i (i:Int)),(14,x.v),(15,.p (.new ax 0)),(16,bs.v),(17,l.v)]) h) P:=by
 obtain⟨hR,ba⟩:=ar s.1 hp;obtain⟨bm,bb,aa,ag⟩:=ke2 hR;obtain⟨hb,bq,bn,bc⟩:=kfj (ag s.2.1 hf) hf aa
 have bd:leftS ts s=leftP (ts[s.1]) s.2.1 (s.2.2:Int):=by funext i;unfold leftS;simp[List.getD,hp]
 have ah:∀i∈R,i<((ts[s.1]).cols[s.2.1]).length:=λi hi=>by rw[bc,ba];exact ap i hi
 obtain⟨l1,l2,l3,l4,l5,l6⟩:=A.lts;obtain⟨r0,a0,a1⟩:=Vb.int (i:=0) (by simp);have be:(b::bt)[0]=(j:Int):=hj;rw[be]at a1;have bf:j<(D.map nd0).length:=by rw[qb1];exact aw
 obtain⟨r1,y,y0,y1,y2,y3,y4,y5,y6⟩:=Vl.nd bf;have hx:(D.map nd0)[j]=nd0 s:=by rw[List.getElem_map,hs]
 rw[hx]at y0 y1 y2 y3 y4 y5 y6;have br:bs.len=bt.length+1:=by rw[Vb.len];rfl
 rw[kxw];refine qbc (qby (by omega)) ?_;refine qz a0 (qz a1 (qz y (qz y0 (qz y1 (qz y2 (qz y3 (qz y4 (qz y5 (qz y6 ?_)))))))));refine q0 λh2 b2 g2=>qba b2 rfl λh3 b3 u3=>?_;rw[A.nds.len];refine Runs.putAt (o:=5) b3 (by simp) rfl λh4 b4 u4=>?_;rw[kj (by omega)];refine Runs.putAt (o:=6) b4 (by simp) rfl λh5 Q u5=>?_;have ai:Grow h h5:=((g2.updr (qbp _) u3).updr (qbp _) u4).updr (qbp _) u5;refine qz (Q.rd 0 rfl rfl) (qcr Q 1 rfl (qcr Q 2 rfl (qcr Q 3 rfl (qcr Q 4 rfl (qcr Q 5 rfl (qcr Q 6 rfl ?_))))));obtain⟨r6,h6,e6,p6,u6,A6⟩:=(A.grow ai).setn Y hi (splitN s nodes.length (nodes.length+1));have e6:idx nd.ref nd.len (i:Int) 7=some r6:=e6;rw[A.nds.len]at e6;refine qz e6 (qz p6 ?_);have z5:=Q.lt;have b6:=Q.updr (i:=jn) (by omega) u6;have X6:Sq EI h6 Sx x (zs R):=(X.grow ai).upd nx u6;refine q0 λh7 b7 g7=>?_;refine qz (kcc (n:=2) b7 (by rw[kuw];rfl)) ?_;obtain⟨bu,h8,e8,u8,A8⟩:=(A6.grow g7).push2 Y (by rw[qb7];omega);refine qz e8 (qz qco ?_);have b8:=(g7.has b6).updr (i:=jn) (by omega) u8;have X8:Sq EI h8 Sx x (zs R):=(X6.grow g7).upd nx u8;refine qcr b8 2 rfl ?_;obtain⟨r9,s1,s2,s3,t0,t1,t2,t3,qt⟩:=(Qt.md A8.md λj a e=>aq (e▸a)).tb hp;refine qz t0 (qz t1 (qz t2 (qz t3 (q0 λh9 b9 g9=>qba b9 rfl λaj K bg=>?_))));have F:Grow h8 aj:=g9.updr (qbp _) bg;have ac:=A8.grow F;have I:=F.has b8;have bp:i<L.length:=ae;obtain⟨rw,yw,w0,w1,w2,Xw⟩:=ac.wts.sq.wg ae;have bh:((L[i].2:Nat):Int)=(d:Int):=by rw[an]
 rw[bh]at w2;refine qcq K 0 rfl (qcq K 1 rfl (qcq K 2 rfl (qcr I 3 rfl (qcr I 4 rfl (qz w0 (qz w2 ?_))))));refine qcq K 0 rfl (qcq K 1 rfl (qcq K 2 rfl (qcr I 3 rfl (qcr I 4 rfl (qz w0 (qz w2 ?_))))));refine(kts (qt.grow F) hf ah hl (X8.grow F) true).call λv bv ⟨C,ya,ja,e,la,Va⟩=>?_;subst e;rw[k2x]at Va;refine qz (seen qco) ?_;refine qbe (C.sameR w2) (qbe (C.same I 4 1) (qbe (C.same I 3 1) (qbe (C.same K 0 3) (qbe (C.sameR w2) ?_))));refine(kts ((qt.grow F).grow C) hf ah hl ((X8.grow F).grow C) false).call λv bw ⟨U,yb,jb,e,lb,ak⟩=>?_;subst e;rw[k9r]at ak;refine qz (seen qco) ?_;refine qbe (U.sameR (C.rdR w2)) (qbe (U.sameR (C.rdR w2)) ?_);refine q0 λbx bi ad=>?_;refine qz (kcc (n:=2) bi (by rw[kbf7];rfl)) ?_;rw[kj (i:=d) (by omega)];have bj:=ac.grow ((C.trans U).trans ad);have bz:=C.size;have b0:=ac.lts
 obtain⟨Z,b1,S',bk,al⟩:=bj.wait2 Y (by omega) (d:=d+1) ((Va.grow U).grow ad).sq (ak.grow ad).sq λm a=>by
  have hm:aj.blks.size<=m:=by
   rcases a with(a | a) | (a | a)
   ·exact opt_ge la a
   ·exact a.elim
   ·have:=opt_ge lb a;omega
   ·exact a.elim
  omega
 refine qz bk (qz qco ?_);have am:leftP (ts[s.1]) s.2.1 (nd0 s).cut=leftS ts s:=bd.symm;rw[am]at al;exact H _ _ _ _ _ _ al
end
end Go.Ab
set_option maxRecDepth 10000
namespace Go.Ab
open Go.Proofs Go.Num Go.Heap
section
variable{c:Cfg}{z D:Nat}{scs gs tsl:Sl}{g:List Int}{ts:List Tb}{hE:AH}{St Sg:Fp}{js kc kr:Nat}
theorem k73(hc:c.right=true)(hD:c.depth=(D:Int))(al:js<hE.blks.size)(Q:Sq EI hE Sg gs g)(Qt:Sq Ef.tb hE St tsl ts)(am:¬Sg js)(an:¬St js)(hg:g.length=z)(ax:z<=256)(ap:ts.length<=16)(aq:∀(p:Nat)(hp:p<ts.length),tabR ts[p]=true/\ts[p].ids.length=z) :
  ∀(n:Nat)(W:List Wt)(nodes:List Nd)(sc:List Int)(L:List (List Nat×Nat))(i:Nat)(nd ws:Sl)(jn jw:Nat)(S:Fp)(h:AH),GrowOk D n z W nodes->L.length=nodes.length->L.drop i=W.map (λx=>(x.rows,x.deep))->sc.length=z->RgAt c hE scs js kc kr nd ws jn jw S nodes L sc h->
  Runs (go (.pt kbq kgf [(1,tsl.v),(2,gs.v),(3,scs.v),(4,.p (.new kc 0)),(8,.p (.new kr 0)),(11,nd.v),(12,ws.v),(13,.i (i:Int))]) h) (GrowP c scs js hE (growS c ts g n W nodes sc)):=by
 have ar:∀(n:Nat)(nodes:List Nd)(sc:List Int)(L:List (List Nat×Nat))(i:Nat)(nd ws:Sl)(jn jw:Nat)(S:Fp)(h:AH),nodes.length<=i->RgAt c hE scs js kc kr nd ws jn jw S nodes L sc h->
   Runs (go (.pt kbq kgf [(1,tsl.v),(2,gs.v),(3,scs.v),(4,.p (.new kc 0)),(8,.p (.new kr 0)),(11,nd.v),(12,ws.v),(13,.i (i:Int))]) h) (GrowP c scs js hE (nodes,sc)):=by
  intro n nodes sc L i nd ws jn jw S h hi A;obtain⟨md,cfg,⟨y,res⟩,nds,wts,sco,fS,ge,ne⟩:=A;rw[kx9,nds.len];refine qbc (qby (by omega)) ?_;refine qba res rfl λh1 B1 u1=>qcq B1 0 rfl (qy ⟨nd,jn,rfl,ge.2.2.1,nds.upd u1 qbm (λk e=>by cases e;omega),sco.upd u1 qbm (λk e=>by cases e;omega),md.next (u1.md (T:=λj=>j=kr) rfl) λj hj e=>by omega⟩)
 have hd:=qbo hc;intro n
 induction n with
 | zero =>
  intro W nodes sc L i nd ws jn jw S h ok hL K Z A
  have hW:W=[]:=by have h1:=muW_le ok.deep;have h2:=ok.mu;exact List.length_eq_zero_iff.1 (by omega)
  subst hW;have hl:=congrArg List.length K;simp at hl;exact ar 0 nodes sc L i nd ws jn jw S h (by omega) A
 | succ n ih =>
  intro W nodes sc L i nd ws jn jw S h ok hL K Z A;cases W with
  | nil =>
   have hl:=congrArg List.length K;simp at hl;exact ar 0 nodes sc L i nd ws jn jw S h (by omega) A
  | cons x W =>
   have hl:=congrArg List.length K;simp only[List.length_drop,qb1,qb2]at hl;have ah:i<L.length:=by omega
   have au:i<nodes.length:=by omega
   rw[qcg ah,List.map_cons]at K;injection K with hx af
   have aa:x.place=i:=by have p0:=ok.place 0 (by simp);simp only[List.getElem_cons_zero,qb2]at p0;omega
   have bh:=ok.nodes63 (by omega);have ag:=ok.rows x (by simp);have ac:∀i∈x.rows,i<z:=λi hi=>qcm.1 (ag.subset hi);have ad:x.rows.length<=100000:=by have:=ag.length_le;rw[qcl]at this;omega
   have bi:=ok.deep x (by simp);obtain⟨l1,l2,l3,l4,l5,l6⟩:=A.lts;obtain⟨r,y,w0,w1,w2,X⟩:=A.wts.sq.wg ah;rw[hx]at w2 X
   have ay:¬(Fp.or (Fp.opt (some jw)) S) js:=by
    rintro (e | e)
    ·cases e;have:=A.ge;omega
    ·have:=A.fS _ e;omega
   have aw:¬(Fp.or (Fp.opt (some jw)) S) jn:=by
    rintro (e | e)
    ·cases e;exact A.ne.2.2.2.2.2 rfl
    ·exact(A.fS _ e).2.2.2 rfl
   rw[kx9,A.nds.len];refine qbb (qbx (by omega)) (qz w0 (qz w1 ?_));refine(kyb (Q.md A.md λj a e=>am (e▸a)) X (λi hi=>by rw[hg];exact ac i hi) ad).call λv h1 ⟨e,g1⟩=>?_;subst e;refine qz rfl (qbb rfl (qz rfl (qz rfl ?_)));refine q0 λh2 b2 g2=>qba b2 rfl λh3 b3 u3=>?_;have az:Grow h1 h3:=g2.updr (qbp _) u3;have ai:=g1.trans az;have A3:=A.grow ai;have X3:=X.grow ai;refine qz w0 (qz (ai.rdR w2) (qz (A3.cfg.rd 1 rfl qcp) ?_));have Q3:Sq EI h3 Sg gs g:=Q.md A3.md λj a e=>am (e▸a);have a0:Sq Ef.tb h3 St tsl ts:=Qt.md A3.md λj a e=>an (e▸a)
   have C:∀{sb l:Sl}{h4:AH},Grow h3 h4->bestS c ts g x=[]->sb.len=0->Runs (go (.pt kbq kkg [(1,tsl.v),(2,gs.v),(3,scs.v),(4,.p (.new kc 0)),(8,.p (.new kr 0)),(11,nd.v),(12,ws.v),(13,.i (i:Int)),(14,y.v),(15,.p (.new h1.blks.size 0)),(16,sb.v),(17,l.v)]) h4) (GrowP c scs js hE (growS c ts g (n+1) (x::W) nodes sc)):=by
    intro sb l h4 F H ba;refine k69 (sm:=sumR g x.rows) (A3.grow F) al au (F.has b3) (X3.grow F) ay aw (λi hi=>by rw[Z];exact ac i hi) ad ba λh' A'=>?_
    have:growS c ts g (n+1) (x::W) nodes sc=growS c ts g n W (nodes.set x.place (leafN (kcu c (sumR g x.rows)))) (addS (kcu c (sumR g x.rows)) x.rows sc):=by rw[growS,H]
    rw[this,kj (by omega),aa];exact ih W _ _ L (i+1) nd ws jn jw S h' (aa▸ok.leaf _) (by rw[qb7];exact hL) af (by rw[klr];exact Z) A'
   refine qbd (λU=>?_) λU=>?_
   ·rw[qbw]at U;refine(k6v Q3 X3 (z:=z) (by omega) ax ac ad a0 ap aq).call λv h4 ⟨l,jl,s,bj,e,I⟩=>?_;subst e;have F:=I.grow;have A4:=A3.grow F;refine qz rfl (qz (seen qco) (qz (seen qco) ?_));refine qz (A4.cfg.rd 2 rfl qcp) (qz (A4.cfg.rd 3 rfl qcp) (qcr (F.has b3) 0 rfl (qcr (F.has b3) 1 rfl ?_)));refine(k67 (xs:=sumsS ts g x.rows) (I.sum.sq.mono λ_ _=>trivial) c.lambda c.gamma (sumR g x.rows).1 (sumR g x.rows).2).call λv h5 ⟨sb,e,Vb,ae⟩=>?_;subst e;refine qz rfl (qz (seen qco) (qz (seen qcp) ?_))
    have H:bestS c ts g x=(bestF c.lambda c.gamma (sumR g x.rows).1 (sumR g x.rows).2 (sumsS ts g x.rows)).1:=by unfold bestS;rw[if_pos U]
    rw[<- H]at Vb;cases Y:bestS c ts g x with
    | nil =>
     rw[Y]at Vb;exact C (F.trans ae) Y Vb.len
    | cons b bs =>
     rw[Y]at Vb;obtain⟨j,hj,aj⟩:=kul (c:=c) (ts:=ts) (g:=g) (x:=x) b (by rw[Y];simp);obtain⟨hp,hf⟩:=kbbg (qb3 aj);have bb:(kbk ts).getD b.toNat (0,0,0)=(kbk ts)[j]:=by rw[hj];simp[List.getD,aj]
     refine k5t (A4.grow ae) al (by omega) (by omega) au ah hx (by omega) ((X3.grow F).grow ae) aw ac ad Qt an aq Vb (I.spl.grow ae).sq hj aj rfl hp hf λh' bc bd be bf S' A'=>?_;have bg:x.deep<D:=by omega
     have ak:growS c ts g (n+1) (x::W) nodes sc=growS c ts g n (W++kidsS ts x (kbk ts)[j] nodes.length) (nodes.set x.place (splitN (kbk ts)[j] nodes.length (nodes.length+1))++[Nd.no,Nd.no]) sc:=by rw[growS,Y];dsimp only;rw[bb]
     rw[ak,kj (by omega),aa];refine ih _ _ sc _ (i+1) bc bd be bf S' h' (aa▸ok.split bg ts _ _) (by simp;omega) ?_ Z A';rw[List.drop_append_of_le_length (by omega),af,List.map_append];rfl
   ·rw[qbv]at U;exact C (ql _) (by unfold bestS;rw[if_neg U]) rfl
theorem kbg1{hB:AH}(F:gs.len=z)(I:z<=256){P:AV->AH->Prop}
  (H:∀h' l j,Grow hB h'->LeO hB.blks.size j->GF EI T.int h' Fp.no l j (zs (List.range z))->Runs (go (.pt kbq knv [(1,tsl.v),(2,gs.v),(3,scs.v),(4,.p (.new kc 0)),(8,.p (.new kr 0)),(9,l.v),(10,.i (z:Int))]) h') P) :
  ∀(k i:Nat),i+k=z->∀(h:AH)(l:Sl)(j:Option Nat),Grow hB h->LeO hB.blks.size j->GF EI T.int h Fp.no l j (zs (List.range i))->
  Runs (go (.pt kbq knv [(1,tsl.v),(2,gs.v),(3,scs.v),(4,.p (.new kc 0)),(8,.p (.new kr 0)),(9,l.v),(10,.i (i:Int))]) h) P:=by
 intro k
 induction k with
 | zero =>
  intro i hi h l j G A V;obtain rfl:i=z:=by omega
  exact H h l j G A V
 | succ k ih =>
  intro i hi h l j G A V;rw[kz7,F];refine qbb (qbx (by omega)) (q0 λK b2 C=>?_);refine qz (kcc b2 (by rw[kew];rfl)) ?_;obtain⟨t',Q,U,X,Y⟩:=(V.grow C).push (T:=Fp.no) (cs:=[.i (i:Int)]) (x:=(i:Int)) rfl qbn (kk3 (by rw[zs_len,qcl];omega));refine qz U (qz qco ?_);rw[kj (by omega)];refine ih (i+1) (by omega) Q t' (some K.blks.size) ((G.trans C).updo A Y) (show _<=_ from(G.trans C).size) ?_
  have:zs (List.range (i+1))=zs (List.range i)++[(i:Int)]:=by rw[List.range_succ,zs_app];rfl
  rw[this];exact X.mono (λj x=>x.1.elim id id) qbn
theorem kbd8(hc:c.right=true)(Q:Sq EI hE Sg gs g)(Qt:Sq Ef.tb hE St tsl ts){sc:List Int}(V:GF EI T.int hE Fp.no scs (some js) sc)(U:¬Sg js)(X:¬St js)(hg:g.length=z)(Y:sc.length=z)(F:z<=256)(H:ts.length<=16)(Z:∀(p:Nat)(hp:p<ts.length),tabR ts[p]=true/\ts[p].ids.length=z) :
  Runs (go (.fn kbq [.agg c.cells,tsl.v,gs.v,scs.v]) hE) (GrowP c scs js hE (growS c ts g 64 [firstW z] [Nd.no] sc)):=by
 have hd:=qbo hc;obtain⟨D,hD⟩:∃D:Nat,c.depth=(D:Int):=⟨c.depth.toNat,by omega⟩;have aa:js<hE.blks.size:=V.lt;show Runs (go (.fn kbq [.agg [.i c.trees,.i c.depth,.i c.lambda,.i c.gamma,.i c.num,.i c.den,.i c.loss,.i c.clip],tsl.v,gs.v,scs.v]) hE) _;rw[kbb1];refine q0 λh1 b1 g1=>q0 λh2 b2 g2=>?_;have I:gs.len=z:=by rw[Q.len,hg]
 refine kbg1 I F (λh3 l j K lj V3=>?_) z 0 (by omega) h2 _ none (ql _) trivial (GF.none EI T.int h2 Fp.no);rw[kz7,I];refine qbc (qby (by omega)) (q0 λh4 b4 g4=>q0 λh5 b5 g5=>?_);have z1:=b1.lt;have z2:=b2.lt;have z3:=K.size;have z4:=b4.lt;have z5:=b5.lt;have ae:=g1.size;have C:=g4.trans g5;have gE:Grow hE h5:=((g1.trans g2).trans K).trans C;have ac:=V3.lt
 have hj:∀m,(Fp.or (Fp.opt j) Fp.no) m->h2.blks.size<=m/\m<h3.blks.size:=λm a=>by
  rcases a with a | a
  ·exact⟨opt_ge lj a,opt_lt ac a⟩
  ·exact a.elim
 have A:RgAt c hE scs js hE.blks.size h1.blks.size ⟨some (.new h3.blks.size 0),1,.is 1⟩ ⟨some (.new h4.blks.size 0),1,.is 1⟩ h3.blks.size h4.blks.size (Fp.or (Fp.opt j) Fp.no) [Nd.no] [(List.range z,0)] sc h5:=by
  refine⟨gE.md _,((g2.trans K).trans C).has b1,⟨_,(K.trans C).has b2⟩,?_,?_,V.grow gE,λm a=>?_,⟨qbp _,by omega,by omega,by omega⟩,⟨by omega,by omega,by omega,by omega,by omega,by omega⟩⟩
  ·exact GF.lit (E:=Ef.nd) (rows:=[Nd.no.cells]) (g5.has b4) (.cons rfl .nil) qbm rfl
  ·exact GF.lit (E:=Ef.wg) (rows:=[[l.v,.i 0]]) b5 (.cons ⟨l,rfl,(V3.grow C).sq⟩ .nil) (λa=>by have:=hj _ a;omega) rfl
  ·have:=hj m a;exact⟨by omega,by omega,by omega,by omega⟩
 have ok:GrowOk D (2^(D+1)-1) z [firstW z] [Nd.no]:=GrowOk.start
 have ad:2^(D+1)-1<=64:=by have:2^(D+1)<=2^6:=Nat.pow_le_pow_right (by decide) (by omega);omega
 rw[<- krb hD _ 64 [firstW z] [Nd.no] sc ad ok];exact k73 hc hD aa Q Qt U X hg F H Z _ [firstW z] [Nd.no] sc [(List.range z,0)] 0 _ _ _ _ _ h5 ok rfl rfl Y A
end
end Go.Ab
set_option maxRecDepth 10000
namespace Go.Ab
open Go.Proofs Go.Num Go.Heap
section
variable{h0:AH}{S S':Fp}{s t:Sl}
theorem kbax{xs ys:List Int}(n:Sq EI h0 S s xs)(m:Sq EI h0 S' t ys)(K:xs.length=ys.length):∀(k i:Nat),i+k=xs.length->
  go (.pt kh7 kq3 [(0,s.v),(1,t.v),(5,.i (i:Int))]) h0=some (.bool (decide (xs.drop i=ys.drop i)),h0):=by
 intro k
 induction k with
 | zero =>
  intro i hi;rw[kx8,n.len,condF (qby (by omega)),List.drop_of_length_le (by omega),List.drop_of_length_le (by omega)];rfl
 | succ k ih =>
  intro i hi;have h1:i<xs.length:=by omega
  have A:i<ys.length:=by omega
  obtain⟨r,C,F⟩:=n.int h1;obtain⟨q,H,I⟩:=m.int A;rw[kx8,C,H,n.len,condT (qbx (by omega))];simp only[qbt,F,I];rw[kj (by have:=n.short;omega),ih (i+1) (by omega),qcg h1,qcg A];by_cases c:xs[i]=ys[i]
  ·rw[condF (by rw[qbx c];rfl),decide_eq_decide.2 (show xs.drop (i+1)=ys.drop (i+1)↔xs[i]::xs.drop (i+1)=ys[i]::ys.drop (i+1)from⟨λe=>by rw[c,e],λe=>(List.cons.inj e).2⟩)]
  ·rw[condT (by rw[qby c];rfl),qby (λe=>c (List.cons.inj e).1)]
theorem kbiz{xs ys:List Int}(n:Sq EI h0 S s xs)(m:Sq EI h0 S' t ys):go (.fn kh7 [s.v,t.v]) h0=some (.bool (decide (xs=ys)),h0):=by
 rw[k8g,n.len,m.len];by_cases c:xs.length=ys.length
 ·rw[condF (by rw[qbx (by omega)];rfl)];exact kbax n m c xs.length 0 (by omega)
 ·rw[condT (by rw[qby (by omega)];rfl),qby (λe=>c (by rw[e]))]
theorem kbmq{xs:List Int}(n:Sq EI h0 S s xs):∀(k i:Nat),i+k=xs.length->
  go (.pt kd8 kn5 [(2,s.v),(11,.i (i:Int))]) h0=some (.i (if oddL (xs.drop i)=true then 1 else 0),h0):=by
 intro k
 induction k with
 | zero =>
  intro i hi;rw[ky9,n.len,condF (qby (by omega)),List.drop_of_length_le (by omega)];rfl
 | succ k ih =>
  intro i hi;have h1:i<xs.length:=by omega
  obtain⟨r,A,C⟩:=n.int h1;rw[ky9,A,n.len,condT (qbx (by omega))];simp only[qbt,C]
  have F:oddL (xs.drop i)=((decide (xs[i] < -1048576)||decide (xs[i]>1048576))||oddL (xs.drop (i+1))):=by rw[qcg h1];rfl
  rw[F];by_cases c:xs[i] < -1048576
  ·rw[condT (qbx c),qbx c];rfl
  ·rw[condF (qby c),qby c];by_cases d:xs[i]>1048576
   ·rw[condT (qbx d),qbx d];rfl
   ·rw[condF (qby d),qby d,kj (by have:=n.short;omega),ih (i+1) (by omega)];rfl
end
section
variable{c:Cfg}{scs ls tsl:Sl}{labels:List Int}{ts:List Tb}{hE:AH}{St SL:Fp}
theorem kbk0(C:Sq Ef.tb hE St tsl ts)(Q:Sq EI hE SL ls labels)(aa:ts.length<=16)(K:0<ts.length):∀(k i:Nat),i+k=ts.length->∀{h:AH},Grow hE h->
  Runs (go (.pt kd8 krt [(1,tsl.v),(2,ls.v),(8,.i (i:Int))]) h) λv h'=>v=.i (if((ts.drop i).any λt=>!tabR t||(!decide (t.ids=(ts.getD 0 Tb.no).ids)||decide (t.ids.length=0)))=true then 20 else if labels.length≠(ts.getD 0 Tb.no).ids.length then 1 else if oddL labels then 1 else 0)/\Grow hE h':=by
 have U:ts.getD 0 Tb.no=ts[0]:=by simp[List.getD,K]
 rw[U];intro k
 induction k with
 | zero =>
  intro i hi h g;rw[k4m,List.drop_of_length_le (by omega),C.len];refine qbc (qby (by omega)) ?_;obtain⟨r,s1,s2,s3,e,H,Y,Z,n⟩:=(C.grow g).tb K;rw[C.len]at e;refine qz e (qz H ?_);rw[(Q.grow g).len,n.ids.len];refine qbd (λa=>qy ⟨?_,g⟩) λa=>?_
  ·have:labels.length≠ts[0].ids.length:=by
    intro e;rw[e,qbx rfl]at a;cases a
   simp[this]
  ·have:labels.length=ts[0].ids.length:=by
    rw[qcj,qbw]at a;omega
   have A:=kbmq (Q.grow g) labels.length 0 (by omega);rw[List.drop_zero]at A;have A:go (.pt kd8 kn5 [(2,ls.v),(11,.i 0)]) h=_:=A;rw[A];refine qy ⟨?_,g⟩;simp[this]
 | succ k ih =>
  intro i hi h g;have I:i<ts.length:=by omega
  obtain⟨r,s1,s2,s3,e,H,Y,Z,n⟩:=(C.grow g).tb I;rw[k4m,qcg I,List.any_cons,C.len];rw[C.len]at e;refine qbb (qbx (by omega)) (qz e (qz H (qz Y (qz Z ?_))));refine(k82 n).call λv h3 ⟨ev,F⟩=>?_;subst ev;obtain⟨r0,t1,t2,t3,e0,d1,d2,d3,n0⟩:=(C.grow (g.trans F)).tb K;rw[C.len]at e0;refine qz (seen rfl) (qz e (qz (F.rdR H) (qz e0 (qz d1 ?_))));refine qz (kbiz (n.grow F).ids n0.ids) (qz (seen rfl) (qbd (λa=>qy ⟨?_,g.trans F⟩) λa=>?_))
  ·rw[qci]at a;simp[a]
  rw[qcj]at a;refine qbd (λb=>qy ⟨?_,g.trans F⟩) λb=>?_
  ·rw[qci]at b;simp[b]
  rw[qcj]at b;refine qz e (qz (F.rdR H) ?_);rw[n.ids.len];refine qbd (λd=>qy ⟨?_,g.trans F⟩) λd=>?_
  ·have:ts[i].ids.length=0:=by
    have:=qbz d;omega
   simp[this]
  rw[kj (by omega)]
  have X:decide (ts[i].ids.length=0)=false:=by have:=of_decide_eq_false d;exact qby (by omega)
  rw[a,b,X];exact ih (i+1) (by omega) (g.trans F)
theorem kbb9(A:Sq Ef.tb hE St tsl ts)(Q:Sq EI hE SL ls labels):Runs (go (.fn kd8 [.agg c.cells,tsl.v,ls.v]) hE) λv h'=>v=.i (faultC c ts labels)/\Grow hE h':=by
 unfold Cfg.cells;rw[kblj];refine q0 λh1 b1 C=>?_;refine rd8 b1 ?_;obtain⟨U,F,H⟩:=kt9 c h1;have G:=C.trans H;refine qz F (qz (seen rfl) ?_);rw[A.len];unfold faultC;refine qbd (λa=>qy ⟨by simp[a],G⟩) λa=>?_;rw[if_neg (by simp[a])];refine qbd (λb=>qy ⟨?_,G⟩) λb=>?_
 ·have:ts.length=0:=by have:=qbz b;omega
  simp[this]
 have I:¬ts.length=0:=by have:=of_decide_eq_false b;omega
 rw[if_neg I];refine qbd (λd=>qy ⟨?_,G⟩) λd=>?_
 ·have:ts.length>16:=by have:=qbz d;omega
  simp[this]
 have K:¬ts.length>16:=by have:=of_decide_eq_false d;omega
 rw[if_neg K];have:=kbk0 A Q (by omega) (by omega) ts.length 0 (by omega) G;rw[List.drop_zero]at this;exact this
theorem kbau{hB:AH}{sc:List Int}{js kc kr km:Nat}{U:Int}(Q:Sq EI hB SL ls labels)(B:hB.has kc c.cells kbn)(V:GF EI T.int hB Fp.no scs (some js) sc)(aa:sc.length=labels.length)(hL:labels.length<=256){P:AV->AH->Prop}
  (H:∀h' A j,Grow hB h'->LeO hB.blks.size j->GF EI T.int h' Fp.no A j (gradS c sc labels)->Runs (go (.pt kdu kl2 [(1,tsl.v),(2,ls.v),(3,.p (.new kc 0)),(6,.p (.new kr 0)),(10,scs.v),(11,.p (.new km 0)),(12,.i U),(13,A.v),(14,.i (labels.length:Int))]) h') P) :
  ∀(k i:Nat),i+k=labels.length->∀{h:AH}{A:Sl}{j:Option Nat},Grow hB h->LeO hB.blks.size j->GF EI T.int h Fp.no A j ((gradS c sc labels).take i)->
  Runs (go (.pt kdu kl2 [(1,tsl.v),(2,ls.v),(3,.p (.new kc 0)),(6,.p (.new kr 0)),(10,scs.v),(11,.p (.new km 0)),(12,.i U),(13,A.v),(14,.i (i:Int))]) h) P:=by
 have ac:=ko8 c sc labels;intro k
 induction k with
 | zero =>
  intro i hi h A j G K v;obtain rfl:i=labels.length:=by omega
  rw[List.take_of_length_le (by omega)]at v;exact H h A j G K v
 | succ k ih =>
  intro i hi h A j G K v;have C:i<labels.length:=by omega
  have F:i<sc.length:=by omega
  have Q1:=Q.grow G;have B1:=G.has B;obtain⟨r,e1,e2⟩:=Q1.int C;obtain⟨r2,e3,e4⟩:=(V.grow G).sq.int F;rw[kwb];refine qbb (qbx (by rw[Q.len];omega)) ?_;refine rd8 B1 ?_;refine qz e3 (qz e4 (qz e1 (qz e2 ?_)));obtain⟨h1,e5,X⟩:=k77 c sc[i] labels[i] h;refine qz e5 (qz rfl (qz (seen qcp) (qz (seen qcp) ?_)));refine q0 λh2 b2 Y=>?_;refine qz (kcc b2 (by rw[kew];rfl)) ?_;obtain⟨t',h3,e7,V3,u3⟩:=((v.grow X).grow Y).push (T:=Fp.no) (cs:=[.i (c.grad sc[i] labels[i]).1]) (x:=(c.grad sc[i] labels[i]).1) rfl qbn (kk3 (by rw[qcf];omega));refine qz e7 (qz qco ?_);rw[kj (by omega)];have Z:=(G.trans X).trans Y;refine ih (i+1) (by omega) (Z.updo K u3) (j:=some h2.blks.size) (show _<=_ from Z.size) ?_
  have I:(gradS c sc labels).take (i+1)=(gradS c sc labels).take i++[(c.grad sc[i] labels[i]).1]:=by rw[qch (by omega)];congr 1;simp[gradS,List.getD,F,C]
  rw[I];exact V3.mono (λj x=>x.1.elim id id) qbn
def kxv(hE:AH)(m:List (List Nd))(sc:List Int)(e:Int)(v:AV)(h':AH):Prop:=∃s u:Sl,v=.tup [.agg [s.v],u.v,.i e]/\Sq EM h' Fp.all s m/\Sq EI h' Fp.all u sc/\Grow hE h'
theorem kbmb(hf:faultC c ts labels=0)(Qt:Sq Ef.tb hE St tsl ts)(Q:Sq EI hE SL ls labels){kc kr km js:Nat}(aw:hE.blks.size<=kc)(ax:hE.blks.size<=kr)(ay:hE.blks.size<=km)(az:hE.blks.size<=js)(ae:kc≠km)(a0:kc≠kr)(af:kr≠km)(ag:kc≠js)(Z:kr≠js)(I:km≠js) :
  ∀(k i:Nat),i+k=c.trees.toNat->∀(m:List (List Nd))(sc:List Int)(l x:Sl)(K:Option Nat)(S:Fp)(h:AH),m.length=i->sc.length=labels.length->Md Fp.no hE h->h.has kc c.cells kbn->h.has kr [x.v] kcp->h.has km [l.v] kcp->GF EM kbu h S l K m->(∀j,S j\/K=some j->hE.blks.size<=j/\j≠kc/\j≠kr/\j≠km/\j≠js)->GF EI T.int h Fp.no scs (some js) sc->
  Runs (go (.pt kdu kpw [(1,tsl.v),(2,ls.v),(3,.p (.new kc 0)),(6,.p (.new kr 0)),(10,scs.v),(11,.p (.new km 0)),(12,.i (i:Int))]) h) (kxv hE (trainS c ts labels k m sc).1 (trainS c ts labels k m sc).2 0):=by
 obtain⟨hc,aa,ah,ac,ai,au⟩:=kle hf;have hd:=qbo hc;have hp:0<ts.length:=List.length_pos_iff.2 aa
 have hz:∀(p:Nat)(hp:p<ts.length),tabR ts[p]=true/\ts[p].ids.length=labels.length:=λp hp=>by obtain⟨a,b,_⟩:=kiy ac hp;exact⟨a,by rw[b,ai]⟩
 have hL:labels.length<=256:=by rw[<- (hz 0 hp).2];have:=(hz 0 hp).1;unfold tabR idsR at this;simp at this;omega
 intro k
 induction k with
 | zero =>
  intro i hi m sc l x K S h hm hs M B Br Bm V C Vs;rw[kx3];refine qcr B 0 rfl (qbc (qby (by omega)) ?_);refine qcq Bm 0 rfl (qba Br rfl λh1 B1 u1=>?_);refine qcq B1 0 rfl (qy ⟨l,scs,rfl,?_,?_,?_⟩)
  ·have nS:¬S kr:=λa=>(C kr (.inl a)).2.2.1 rfl;exact(V.upd u1 nS λk e=>(C k (.inr e)).2.2.1).sq.mono λ_ _=>trivial
  ·exact(Vs.upd u1 qbm λk e=>by cases e;exactλe=>Z e.symm).sq.mono λ_ _=>trivial
  ·exact(M.next (u1.md (T:=λj=>j=kr) rfl) λj hj e=>by omega).grow λ_ _ a=>a
 | succ k ih =>
  intro i hi m sc l x K S h hm hs M B Br Bm V C Vs;rw[kx3];refine qcr B 0 rfl (qbb (qbx (by omega)) ?_);have zM:=M.size;have zB:=B.lt;have zr:=Br.lt;have zm:=Bm.lt;have zs:js<h.blks.size:=Vs.lt;have Qb:Sq EI h (λj=>SL j/\j<hE.blks.size) ls labels:=Q.bound.md M λj _ a=>a;refine kbau Qb B Vs hs hL (λh2 ba jg U lg V2=>?_) labels.length 0 (by omega) (ql _) (j:=none) trivial (GF.none EI T.int h Fp.no);rw[kwb,Q.len];refine qbc (qby (by omega)) ?_;have B2:=U.has B;have aj:=U.has Br;have X:=U.has Bm;have M2:Md Fp.no hE h2:=M.thenG U;refine qcq X 0 rfl ?_;refine rd8 B2 ?_;have ak:=Vs.grow U;have al:Sq Ef.tb h2 (λj=>St j/\j<hE.blks.size) tsl ts:=Qt.bound.md M2 λj _ a=>a;refine(kbd8 (z:=labels.length) hc V2.sq al ak (λa=>a.elim (λe=>by have:=opt_ge lg e;omega) id) (λa=>by have:=a.2;omega) (ko8 _ _ _) hs hL ah hz).call λv h3 ⟨nd,jn,ev,bb,Vn,am,Y⟩=>?_;subst ev;refine qz rfl (qbb rfl (qz (seenAt rfl qco) ?_));refine qbe (Y.same X I 0 1) ?_;refine q0 λH b4 F=>?_;have ad:=Y.has X I;refine qbe (F.same ad 0 1) ?_;refine qz (kcc (n:=1) b4 (by rw[k3z];rfl)) ?_;have bc:=U.size
  have V4:GF EM kbu H (λj=>S j/\j<h.blks.size) l K m:=by have an:=V.bound.grow U;exact(GF.md Y (λj a e=>(C j (.inl a.1)).2.2.2.2 e) an λk e x=>(C k (.inr e)).2.2.2.2 x).grow F
  obtain⟨s5,h5,e5,V5,u5⟩:=V4.push (P:=Pg) (T:=Fp.opt (some jn)) (cs:=[nd.v]) (x:=(growS c ts (gradS c sc labels) 64 [firstW labels.length] [Nd.no] sc).1) ⟨nd,rfl,(Vn.grow F).sq.mono λj a=>a.elim id False.elim⟩ (by
   cases K with
   | none=>trivial
   | some y =>intro e;cases e;have:=V.lt;have this:jn<h.blks.size:=this;omega) (kxa (by omega))
  refine qz e5 (qz qco ?_);have A:Md (λj=>K=some j) H h5:=UpdO.md u5 λk e=>e;have z3:=Y.size;have z4:h3.blks.size<=H.blks.size:=F.size;have z5:=A.size;have B5:=A.has ((F.has (Y.has B2 ag))) (λe=>(C kc (.inr e)).2.1 rfl);have ap:=A.has ((F.has (Y.has aj Z))) (λe=>(C kr (.inr e)).2.2.1 rfl);have aq:=A.has ((F.has ad)) (λe=>(C km (.inr e)).2.2.2.1 rfl);have ar:GF EI T.int h5 Fp.no scs (some js) (growS c ts (gradS c sc labels) 64 [firstW labels.length] [Nd.no] sc).2:=GF.md A (S:=Fp.no) (λj a _=>a) (am.grow F) λk e x=>by cases e;exact(C js (.inr x)).2.2.2.2 rfl
  refine qba aq rfl λh6 B6 u6=>?_;rw[kj (by omega)]
  have hF:∀j,(Fp.or (λj=>S j/\j<h.blks.size) (Fp.opt (some jn)) j/\j<H.blks.size)\/some H.blks.size=some j->hE.blks.size<=j/\j≠kc/\j≠kr/\j≠km/\j≠js:=by
   rintro j (⟨a | a,b⟩ | a)
   ·exact C j (.inl a.1)
   ·cases a;omega
   ·cases a;omega
  have nK:¬(Fp.or (λj=>S j/\j<h.blks.size) (Fp.opt (some jn)) km/\km<H.blks.size):=λa=>(hF km (.inl a)).2.2.2.1 rfl;have:=ih (i+1) (by omega) (m++[(growS c ts (gradS c sc labels) 64 [firstW labels.length] [Nd.no] sc).1]) (growS c ts (gradS c sc labels) 64 [firstW labels.length] [Nd.no] sc).2 s5 x (some H.blks.size) _ h6 (by simp[hm]) ?_ ?_ (B5.updr ae u6) (ap.updr af u6) B6 (V5.upd u6 nK λk e=>by cases e;omega) hF (ar.upd u6 qbm λk e=>by cases e;exactλe=>I e.symm)
  ·exact this
  ·have:=kru c ts (gradS c sc labels) 64 [firstW labels.length] [Nd.no] sc;omega
  ·have M4:Md Fp.no hE H:=(M2.next Y λj hj e=>by omega).thenG F;exact(M4.next A λj hj e=>by have:=(C j (.inr e)).1;omega).next (u6.md (T:=λj=>j=km) rfl) λj hj e=>by omega
theorem kbbi(Qt:Sq Ef.tb hE St tsl ts)(Q:Sq EI hE SL ls labels):Runs (go (.fn kdu [.agg c.cells,tsl.v,ls.v]) hE) (kxv hE (trainC c ts labels).1 (trainC c ts labels).2.1 (trainC c ts labels).2.2):=by
 show Runs (go (.fn kdu [.agg [.i c.trees,.i c.depth,.i c.lambda,.i c.gamma,.i c.num,.i c.den,.i c.loss,.i c.clip],tsl.v,ls.v]) hE) _;rw[kbkl];refine q0 λh1 b1 g1=>q0 λh2 b2 g2=>?_;have A:=g2.has b1;refine qcr A 0 rfl (qcr A 1 rfl (qcr A 2 rfl (qcr A 3 rfl (qcr A 4 rfl (qcr A 5 rfl (qcr A 6 rfl (qcr A 7 rfl ?_)))))));have U:=g1.trans g2;refine(kbb9 (c:=c) (Qt.grow U) (Q.grow U)).call λv Y ⟨ev,X⟩=>?_;subst ev;refine qz (seen qcp) ?_;have G3:=U.trans X;have z1:=g1.size;refine qbd (λa=>?_) λa=>?_
 ·have C:¬faultC c ts labels=0:=by
   intro e;rw[e]at a;simp at a
  refine qba (X.has b2) rfl λH b4 u4=>qcq b4 0 rfl (qy ⟨⟨none,0,.is 0⟩,⟨none,0,.is 0⟩,?_,?_,?_,?_⟩)
  ·unfold trainC;rw[if_neg C]
  ·unfold trainC;rw[if_neg C];exact Sq.nil EM H Fp.all
  ·unfold trainC;rw[if_neg C];exact Sq.nil EI H Fp.all
  ·exact G3.updr (by omega) u4
 ·have C:faultC c ts labels=0:=by simpa using a
  have hh:=C;obtain⟨hc,I,ad,K,Z,ac⟩:=kle hh;have hp:0<ts.length:=List.length_pos_iff.2 I
  have hL:labels.length<=256:=by
   have aa:ts.getD 0 Tb.no=ts[0]:=by simp[List.getD,hp]
   rw[Z,aa];have:=(kiy K hp).1;unfold tabR idsR at this;simp at this;omega
  have hd:=qbo hc;obtain⟨H,e4,g4,V4⟩:=GF.mk (E:=EI) (elem:=T.int) (S:=Fp.no) (h:=Y) (n:=labels.length) (bytes:=Pg.bytesOf T.int) (l:=(ls.len:Int)) (c:=(ls.len:Int)) (cs:=[.i 0]) (x:=(0:Int)) (λh'=>rfl) qbm (by rw[Q.len]) (by rw[Q.len]) (by rw[kks];omega) (by omega);refine qz e4 ?_;refine q0 λh5 b5 g5=>?_;have F:Grow h2 h5:=(X.trans g4).trans g5;have G5:=U.trans F;have z2:=b1.lt;have ae:=b2.lt;have z3:=X.size;have z4:Y.blks.size<H.blks.size:=V4.lt;unfold trainC;rw[if_pos C];exact kbmb C Qt Q (kc:=hE.blks.size) (kr:=h1.blks.size) (km:=H.blks.size) (js:=Y.blks.size) (by omega) (by omega) (by omega) (by omega) (by omega) (by omega) (by omega) (by omega) (by omega) (by omega) c.trees.toNat 0 (by omega) [] (List.replicate labels.length 0) _ _ none Fp.no h5 rfl (by simp) (G5.md _) (F.has A) (F.has b2) b5 (GF.none EM kbu h5 Fp.no) (λj a=>by rcases a with a | a;exact a.elim;cases a) (V4.grow g5)
end
end Go.Ab
set_option maxRecDepth 10000
namespace Go.Ab
open Go.Proofs Go.Num Go.Heap
section
variable{h:AH}{c:Cfg}{kc:Nat}{tsl:Sl}{ts:List Tb}{St:Fp}
theorem few_18(B:h.has kc c.cells kbn):∀(k i:Nat),i+k=6->∀a b:Int,Runs (go (.pt kb3 klh [(2,.p (.new kc 0)),(5,.i a),(9,.i b),(10,.i (i:Int))]) h) λv h'=>(∃r:Bool,v=.bool r)/\h'=h:=by
 have A:∀a b:Int,Runs (cond (decide (a<=2000)) (((h.cell ((Ref.new kc 0).add 0)).bind (AV.asInt .i64)).bind λC=>some (.bool (decide ((IntKind.wrap .i64 (b*(imax 0 (imin C 16))))<=20000)),h)) (some (.bool false,h))) λv h'=>(∃r:Bool,v=.bool r)/\h'=h:=λa b =>qbd (λ_=>qcr B 0 rfl (qy ⟨⟨_,rfl⟩,rfl⟩)) λ_=>qy ⟨⟨_,rfl⟩,rfl⟩
 intro k
 induction k with
 | zero =>
  intro i hi a b;rw[kxm];refine qcr B 1 rfl (qbd (λd=>?_) λd=>A a b);exact qbc (qby (by omega)) (A a b)
 | succ k ih =>intro i hi a b;rw[kxm];refine qcr B 1 rfl (qbd (λd=>?_) λd=>A a b);refine qbb (qbx (by omega)) ?_;rw[kj (by omega)];exact ih (i+1) (by omega) _ _
theorem few_8(U:Sq Ef.tb h St tsl ts){p:Nat}(X:p<ts.length)(Y:p<20)
  (H:∀a b:Int,Runs (go (.pt kb3 kjf [(1,tsl.v),(2,.p (.new kc 0)),(5,.i a),(6,.i b),(7,.i ((p+1:Nat):Int))]) h) λv h'=>(∃r:Bool,v=.bool r)/\h'=h) :
  ∀(k i:Nat),i+k=20->∀a b:Int,Runs (go (.pt kb3 kko [(1,tsl.v),(2,.p (.new kc 0)),(5,.i a),(6,.i b),(7,.i (p:Int)),(8,.i (i:Int))]) h) λv h'=>(∃r:Bool,v=.bool r)/\h'=h:=by
 obtain⟨r,s1,s2,s3,e,c1,C,F,n⟩:=U.tb X
 have A:∀a b:Int,Runs (cond (decide (a>2000)) (some (.bool false,h)) (go (.pt kb3 kjf [(1,tsl.v),(2,.p (.new kc 0)),(5,.i a),(6,.i b),(7,.i (IntKind.wrap .i64 ((p:Int)+1)))]) h)) λv h'=>(∃r:Bool,v=.bool r)/\h'=h:=λa b =>
  qbd (λ_=>qy ⟨⟨_,rfl⟩,rfl⟩) λ_=>by rw[kj (by omega)];exact H a b
 intro k
 induction k with
 | zero =>
  intro i hi a b;rw[k2c];refine qz e (qz F (qbd (λd=>?_) λd=>A a b));exact qbc (qby (by omega)) (A a b)
 | succ k ih =>intro i hi a b;rw[k2c];refine qz e (qz F (qbd (λd=>?_) λd=>A a b));rw[n.cols.len,qbw]at d;obtain⟨r2,t,Z,e2,-,n'⟩:=n.cols.sl (show i<ts[p].cols.length by omega);refine qbb (qbx (by omega)) (qz e (qz F (qz Z (qz e2 (qz e (qz C ?_))))));rw[kj (i:=i) (by omega)];refine qbd (λI=>?_) λI=>ih (i+1) (by omega) _ _;rw[n.bins.len,qbw]at I;obtain⟨r3,K,Q⟩:=n.bins.int (show i<ts[p].bins.length by omega);refine qz e (qz C (qz K (qz Q (qbd (λd3=>?_) λd3=>ih (i+1) (by omega) _ _))));exact qz e (qz C (qz K (qz Q (ih (i+1) (by omega) _ _))))
theorem few_4(B:h.has kc c.cells kbn)(A:Sq Ef.tb h St tsl ts):∀(k i:Nat),i+k=20->∀a b:Int,Runs (go (.pt kb3 kjf [(1,tsl.v),(2,.p (.new kc 0)),(5,.i a),(6,.i b),(7,.i (i:Int))]) h) λv h'=>(∃r:Bool,v=.bool r)/\h'=h:=by
 intro k
 induction k with
 | zero =>
  intro i hi a b;rw[k1k];refine qbd (λd=>qbc (qby (by omega)) (few_18 B 6 0 (by omega) _ _)) λd=>few_18 B 6 0 (by omega) _ _
 | succ k ih =>
  intro i hi a b;rw[k1k];refine qbd (λd=>?_) λd=>few_18 B 6 0 (by omega) _ _;rw[A.len,qbw]at d;have C:i<ts.length:=by omega
  obtain⟨r,s1,s2,s3,e,F,I,H,n⟩:=A.tb C;refine qbb (qbx (by omega)) (qz e (qz F (qz e (qz H ?_))));exact few_8 A C (by omega) (λa b=>ih (i+1) (by omega) a b) 20 0 (by omega) _ _
theorem few_is(C:Sq Ef.tb h St tsl ts):Runs (go (.fn kb3 [.agg c.cells,tsl.v]) h) λv h'=>(∃r:Bool,v=.bool r)/\Grow h h':=by show Runs (go (.fn kb3 [.agg [.i c.trees,.i c.depth,.i c.lambda,.i c.gamma,.i c.num,.i c.den,.i c.loss,.i c.clip],tsl.v]) h) _;rw[kbgz];exact q0 λh1 b1 A=>(few_4 (c:=c) b1 (C.grow A) 20 0 (by omega) 0 0).imp λv h' ⟨a,b⟩=>⟨a,by rw[b];exact A⟩
end
section
variable{h:AH}{S S':Fp}{s u:Sl}{m:List (List Nd)}
end
end Go.Ab
set_option maxRecDepth 10000
namespace Go.Ab
open Go.Proofs Go.Num
section
variable{ts:List Tb}{z:Nat}{c:Cfg}{g sc labels:List Int}
theorem k04(w:Int):∀(R:List Nat)(sc:List Int),(addS w R sc).length=sc.length
 | [],_=>rfl
 | i::R,sc=>by unfold addS;rw[List.foldl_cons];have:=k04 w R (sc.set i (IntKind.wrap .i64 (sc.getD i 0+w)));unfold addS at this;rw[this,qb7]
theorem kzn(w:Int):∀(R:List Nat)(sc:List Int),R.Nodup->∀j,j<sc.length->(addS w R sc).getD j 0=if j∈R then IntKind.wrap .i64 (sc.getD j 0+w)else sc.getD j 0
 | [],sc,_,j,_=>by simp[addS]
 | i::R,sc,nd,j,F=>by
  rw[List.nodup_cons]at nd;have:=kzn w R (sc.set i (IntKind.wrap .i64 (sc.getD i 0+w))) nd.2 j (by rw[qb7];exact F);unfold addS at this|-;rw[List.foldl_cons,this];by_cases e:i=j
  ·subst e;rw[if_neg nd.1,if_pos (by simp)];simp[List.getD,F]
  ·have A:(sc.set i (IntKind.wrap .i64 (sc.getD i 0+w))).getD j 0=sc.getD j 0:=by
    rw[List.getD,List.getElem?_set_ne e];rfl
   rw[A];by_cases C:j∈R
   ·rw[if_pos C,if_pos (by simp[C])]
   ·rw[if_neg C,if_neg (by simp[C];omega)]
end
end Go.Ab
set_option maxRecDepth 10000
namespace Go.Ab
open Go.Proofs Go.Num Go.Heap
theorem kbc7{n:Nat}(h:n<=1000000):growOk Pg n kbx 1=true:=by
 unfold growOk;rw[kbj6,kbkf];have h1:n*24<=ks:=by simp only[ks];omega
 have A:n<=ks:=by simp only[ks];omega
 simp[h1,A]
section
variable{h0:AH}{tsl ls l:Sl}{ts:List Tb}{labels:List Int}{St:Fp}{p kc km:Nat}{s2:Sl}{P:AV->AH->Prop}
end
def SplN(ts:List Tb)(V:List Wt)(D:Nat)(x:Nd)(k:Nat):Prop:=∃(s:Spl)(l:Nat)(y:Wt),V[k]?=some y/\x=splitN s l (l+1)/\s∈kbk ts/\k<l/\l+1<V.length/\y.deep<D/\V[l]?=some ⟨l,y.deep+1,y.rows.filter (leftS ts s)⟩/\V[l+1]?=some ⟨l+1,y.deep+1,y.rows.filter λi=>!leftS ts s i⟩
def LeafN(x:Nd):Prop:=∃w:Int,x=leafN w/\-1099511627776<=w/\w<=1099511627776
theorem kjx{α:Type}{V W:List α}{k:Nat}{y:α}(h:V[k]?=some y):(V++W)[k]?=some y:=by obtain⟨A,e⟩:=qce.1 h;rw[List.getElem?_append_left A,h]
theorem SplN.app{ts:List Tb}{V:List Wt}{D:Nat}{x:Nd}{k:Nat}(h:SplN ts V D x k)(W:List Wt):SplN ts (V++W) D x k:=by obtain⟨s,l,y,a1,a2,a3,a4,a5,a6,a7,a8⟩:=h;exact⟨s,l,y,kjx a1,a2,a3,a4,by rw[qb0];omega,a6,kjx a7,kjx a8⟩
structure GrInv(ts:List Tb)(D N:Nat)(sc0:List Int)(V:List Wt)(k:Nat)(nodes:List Nd)(sc:List Int):Prop where
 len:V.length=nodes.length
 place:∀(j:Nat)(y:Wt),V[j]?=some y->y.place=j/\y.deep<=D/\y.rows.Sublist (List.range N)
 first:V[0]?=some (firstW N)
 node:∀(j:Nat)(x:Nd),j<k->nodes[j]?=some x->LeafN x\/SplN ts V D x j
 par:∀j:Nat,0<j->j<V.length->∃(m:Nat)(x:Nd),m<k/\nodes[m]?=some x/\SplN ts V D x m/\(x.left=(j:Int)\/x.right=(j:Int))
 scl:sc.length=N
 at_:∀i:Nat,i<N->∃(p:Nat)(y:Wt),V[p]?=some y/\i∈y.rows/\(p<k->∃w,nodes[p]?=some (leafN w)/\sc.getD i 0=IntKind.wrap .i64 (sc0.getD i 0+w))/\(k<=p->sc.getD i 0=sc0.getD i 0)/\∀(q:Nat)(y':Wt),V[q]?=some y'->i∈y'.rows->q=p\/(q<k/\∃x:Nd,nodes[q]?=some x/\x.leaf=false)
section
variable{c:Cfg}{ts:List Tb}{g:List Int}{D N k:Nat}{sc0 sc:List Int}{V:List Wt}{nodes:List Nd}{x:Wt}
theorem GrInv.leaf(I:GrInv ts D N sc0 V k nodes sc)(H:V[k]?=some x){w:Int}(Z:-1099511627776<=w/\w<=1099511627776):GrInv ts D N sc0 V (k+1) (nodes.set k (leafN w)) (addS w x.rows sc):=by
 obtain⟨Q,-⟩:=qce.1 H;have hn:k<nodes.length:=by rw[<- I.len];exact Q
 have F:(nodes.set k (leafN w))[k]?=some (leafN w):=by rw[List.getElem?_set_self hn]
 have C:∀j,j≠k->(nodes.set k (leafN w))[j]?=nodes[j]?:=λj h=>List.getElem?_set_ne (λe=>h e.symm);obtain⟨-,-,K⟩:=I.place k x H;have U:x.rows.Nodup:=K.nodup List.nodup_range;refine⟨by rw[qb7];exact I.len,I.place,I.first,λj y hj e=>?_,λj h0 hj=>?_,by rw[k04];exact I.scl,λi hi=>?_⟩
 ·by_cases c:j=k
  ·subst c;rw[F]at e;exact .inl ⟨w,(Option.some.inj e).symm,Z.1,Z.2⟩
  ·rw[C j c]at e;exact I.node j y (by omega) e
 ·obtain⟨m,y,hm,e,r⟩:=I.par j h0 hj;exact⟨m,y,by omega,by rw[C m (by omega)];exact e,r⟩
 ·obtain⟨p,y,e,X,h1,h2,h3⟩:=I.at_ i hi;have A:=kzn w x.rows sc U i (by rw[I.scl];exact hi)
  have hu:∀(q:Nat)(y':Wt),V[q]?=some y'->i∈y'.rows->q=p\/(q<k+1/\∃x:Nd,(nodes.set k (leafN w))[q]?=some x/\x.leaf=false):=by
   intro q y' e' Y;rcases h3 q y' e' Y with h | ⟨hq,h⟩
   ·exact .inl h
   ·exact .inr ⟨by omega,by rw[C q (by omega)];exact h⟩
  by_cases c:p=k
  ·subst c;rw[H]at e;obtain rfl:=Option.some.inj e;rw[if_pos X,h2 (qbp _)]at A;exact⟨p,x,H,X,λ_=>⟨w,F,A⟩,λh=>by omega,hu⟩
  ·have:¬i∈x.rows:=λa=>by
    rcases h3 k x H a with h | ⟨h,-⟩
    ·exact c h.symm
    ·omega
   rw[if_neg this]at A;rw[A];exact⟨p,y,e,X,λh=>by rw[C p c];exact h1 (by omega),λh=>h2 (by omega),hu⟩
theorem GrInv.split(I:GrInv ts D N sc0 V k nodes sc)(Z:V[k]?=some x)(hd:x.deep<D){s:Spl}(hs:s∈kbk ts):GrInv ts D N sc0 (V++kidsS ts x s nodes.length) (k+1) (nodes.set k (splitN s nodes.length (nodes.length+1))++[Nd.no,Nd.no]) sc:=by
 obtain⟨ac,-⟩:=qce.1 Z;have hl:=I.len;have hn:k<nodes.length:=by omega
 generalize hN:nodes.length=n at *
 obtain⟨-,-,H⟩:=I.place k x Z
 have A:∀(j:Nat)(y:Nd),j<n->(nodes.set k y++[Nd.no,Nd.no])[j]?=if j=k then some y else nodes[j]?:=by
  intro j y hj;rw[List.getElem?_append_left (by rw[qb7];omega)];by_cases c:j=k
  ·subst c;rw[List.getElem?_set_self (by omega),if_pos rfl]
  ·rw[List.getElem?_set_ne (λe=>c e.symm),if_neg c]
 have U:(V++kidsS ts x s n)[n]?=some ⟨n,x.deep+1,x.rows.filter (leftS ts s)⟩:=by rw[List.getElem?_append_right (by omega),hl,Nat.sub_self];rfl
 have X:(V++kidsS ts x s n)[n+1]?=some ⟨n+1,x.deep+1,x.rows.filter λi=>!leftS ts s i⟩:=by rw[List.getElem?_append_right (by omega),hl,Nat.add_sub_cancel_left];rfl
 have K:(V++kidsS ts x s n).length=n+2:=by rw[qb0,hl];rfl
 have F:∀(j:Nat)(y:Wt),(V++kidsS ts x s n)[j]?=some y->(j<n/\V[j]?=some y)\/(j=n/\y=⟨n,x.deep+1,x.rows.filter (leftS ts s)⟩)\/(j=n+1/\y=⟨n+1,x.deep+1,x.rows.filter λi=>!leftS ts s i⟩):=by
  intro j y e;obtain⟨hj,-⟩:=qce.1 e;rw[K]at hj;rcases Nat.lt_or_ge j n with h | h
  ·rw[List.getElem?_append_left (by omega)]at e;exact .inl ⟨h,e⟩
  ·have:j=n\/j=n+1:=by omega
   rcases this with rfl | rfl
   ·rw[U]at e;exact .inr (.inl ⟨rfl,(Option.some.inj e).symm⟩)
   ·rw[X]at e;exact .inr (.inr ⟨rfl,(Option.some.inj e).symm⟩)
 have Q:SplN ts (V++kidsS ts x s n) D (splitN s n (n+1)) k:=⟨s,n,x,kjx Z,rfl,hs,hn,by omega,hd,U,X⟩;refine⟨by rw[K,qb0,qb7,hN];rfl,λj y e=>?_,kjx I.first,λj y hj e=>?_,λj h0 hj=>?_,I.scl,λi hi=>?_⟩
 ·rcases F j y e with⟨-,e⟩ | ⟨rfl,rfl⟩ | ⟨rfl,rfl⟩
  ·exact I.place j y e
  ·exact⟨rfl,hd,List.filter_sublist.trans H⟩
  ·exact⟨rfl,hd,List.filter_sublist.trans H⟩
 ·rw[A j _ (by omega)]at e;by_cases c:j=k
  ·rw[if_pos c]at e;obtain rfl:=Option.some.inj e;subst c;exact .inr Q
  ·rw[if_neg c]at e;exact(I.node j y (by omega) e).imp id λh=>h.app _
 ·rcases Nat.lt_or_ge j n with h | h
  ·obtain⟨m,y,hm,e,r,q⟩:=I.par j h0 (by omega);exact⟨m,y,by omega,by rw[A m _ (by omega),if_neg (by omega)];exact e,r.app _,q⟩
  ·refine⟨k,splitN s n (n+1),by omega,by rw[A k _ hn,if_pos rfl],Q,?_⟩;have:j=n\/j=n+1:=by omega
   rcases this with rfl | rfl
   ·exact .inl rfl
   ·exact .inr (by simp[splitN])
 ·obtain⟨p,y,e,hy,h1,h2,h3⟩:=I.at_ i hi
  have hu:∀(q:Nat)(y':Wt),V[q]?=some y'->i∈y'.rows->q≠p->q<k+1/\∃x:Nd,(nodes.set k (splitN s n (n+1))++[Nd.no,Nd.no])[q]?=some x/\x.leaf=false:=by
   intro q y' Y C hq;rcases h3 q y' Y C with h | ⟨hq,h⟩
   ·exact absurd h hq
   ·exact⟨by omega,by rw[A q _ (by omega),if_neg (by omega)];exact h⟩
  by_cases c:p=k
  ·subst c;rw[Z]at e;obtain rfl:=Option.some.inj e;have hp:∃z:Nd,(nodes.set p (splitN s n (n+1))++[Nd.no,Nd.no])[p]?=some z/\z.leaf=false:=⟨_,by rw[A p _ hn,if_pos rfl],rfl⟩;by_cases d:leftS ts s i=true
   ·refine⟨n,_,U,qck.2 ⟨hy,d⟩,λh=>by omega,λ_=>h2 (qbp _),λq y' Y C=>?_⟩;rcases F q y' Y with⟨hq,e⟩ | ⟨rfl,rfl⟩ | ⟨rfl,rfl⟩
    ·by_cases c:q=p
     ·exact .inr (by subst c;exact⟨by omega,hp⟩)
     ·exact .inr (hu q y' e C c)
    ·exact .inl rfl
    ·have:=(qck.1 C).2;rw[d]at this;cases this
   ·refine⟨n+1,_,X,qck.2 ⟨hy,by simpa using d⟩,λh=>by omega,λ_=>h2 (qbp _),λq y' Y C=>?_⟩;rcases F q y' Y with⟨hq,e⟩ | ⟨rfl,rfl⟩ | ⟨rfl,rfl⟩
    ·by_cases c:q=p
     ·exact .inr (by subst c;exact⟨by omega,hp⟩)
     ·exact .inr (hu q y' e C c)
    ·exact absurd (qck.1 C).2 d
    ·exact .inl rfl
  ·have hx:¬i∈x.rows:=λa=>by
    rcases h3 k x Z a with h | ⟨h,-⟩
    ·exact c h.symm
    ·omega
   have aa:p<n:=by obtain⟨h,-⟩:=qce.1 e;omega
   refine⟨p,y,kjx e,hy,λh=>by rw[A p _ aa,if_neg c];exact h1 (by omega),λh=>h2 (by omega),λq y' Y C=>?_⟩;rcases F q y' Y with⟨hq,e⟩ | ⟨rfl,rfl⟩ | ⟨rfl,rfl⟩
   ·by_cases c:q=p
    ·exact .inl c
    ·exact .inr (hu q y' e C c)
   ·exact absurd (qck.1 C).1 hx
   ·exact absurd (qck.1 C).1 hx
theorem k98(c:Cfg)(s:Int×Int):-1099511627776<=kcu c s/\kcu c s<=1099511627776:=by
 unfold kcu khi;cases h:(Cfg.right ⟨c.trees,c.depth,c.lambda,c.gamma,c.num,c.den,c.loss,c.clip⟩&&decide (-1099511627776<=s.1/\s.1<=1099511627776/\0<=s.2/\s.2<=1048576))with
 | false=>exact⟨show(-1099511627776:Int)<=0 by decide,show(0:Int)<=1099511627776 by decide⟩
 | true =>
  rw[qb9,qbw]at h;obtain⟨C,F,d1,H,n1,I⟩:=Cfg.right_parts h.1;dsimp only at C F d1 H n1 I;obtain⟨-,U,X,h1,Y⟩:=h;show -1099511627776<=(-s.1*c.num)/((s.2+c.lambda)*c.den)/\(-s.1*c.num)/((s.2+c.lambda)*c.den)<=1099511627776;have A:0<(s.2+c.lambda)*c.den:=Int.mul_pos (by omega) (by omega)
  have Z:c.den<=(s.2+c.lambda)*c.den:=by have:=Int.mul_le_mul_of_nonneg_right (show(1:Int)<=s.2+c.lambda by omega) (show(0:Int)<=c.den by omega);omega
  generalize (s.2+c.lambda)*c.den=q at *
  have K:-s.1*c.num<=1099511627776*q:=by have a1:=Int.mul_le_mul_of_nonneg_right (show -s.1<=1099511627776 by omega) (show(0:Int)<=c.num by omega);omega
  have Q:-1099511627776*q<=-s.1*c.num:=by have a1:=Int.mul_le_mul_of_nonneg_right (show -1099511627776<=-s.1 by omega) (show(0:Int)<=c.num by omega);omega
  refine⟨(Int.le_ediv_iff_mul_le A).2 Q,?_⟩;have:=Int.ediv_le_ediv A K;rwa[Int.mul_ediv_cancel _ (by omega)]at this
theorem kbjk(hD:c.depth=(D:Int))(C:D<=5):∀(n:Nat)(V:List Wt)(k:Nat)(nodes:List Nd)(sc:List Int),k<=V.length->GrowOk D n N (V.drop k) nodes->GrInv ts D N sc0 V k nodes sc->
  ∃Z,GrInv ts D N sc0 Z Z.length (growS c ts g n (V.drop k) nodes sc).1 (growS c ts g n (V.drop k) nodes sc).2/\(growS c ts g n (V.drop k) nodes sc).1.length<=63:=by
 intro n
 induction n with
 | zero =>
  intro V k nodes sc hk G I;have h1:=muW_le G.deep;have h2:=G.mu;rw[List.length_drop]at h1;obtain rfl:k=V.length:=by omega
  exact⟨V,I,G.nodes63 C⟩
 | succ n ih =>
  intro V k nodes sc hk G I;cases F:V.drop k with
  | nil =>
   have h1:=congrArg List.length F;rw[List.length_drop,List.length_nil]at h1;obtain rfl:k=V.length:=by omega
   exact⟨V,I,G.nodes63 C⟩
  | cons x W =>
   have Q:V[k]?=some x:=by
    have:(V.drop k)[0]?=some x:=by rw[F];rfl
    rwa[List.getElem?_drop,Nat.add_zero]at this
   obtain⟨X,-⟩:=qce.1 Q
   have A:W=V.drop (k+1):=by rw[qcg X]at F;exact(List.cons.inj F).2.symm
   obtain⟨U,hd,-⟩:=I.place k x Q;rw[F]at G;rw[growS];split
   ·next Y =>rw[U,A];refine ih V (k+1) _ _ (by omega) ?_ (I.leaf Q (k98 c _));rw[<- A,<- U];exact G.leaf _
   ·next b bs Y =>
    have H:x.deep<D:=by have:=k1a Y;omega
    obtain⟨j,ej,hj⟩:=kul b (by rw[Y];simp)
    have hs:(kbk ts).getD b.toNat (0,0,0)∈kbk ts:=by rw[ej,Int.toNat_natCast];simp[List.getD,hj]
    have K:W++kidsS ts x ((kbk ts).getD b.toNat (0,0,0)) nodes.length=(V++kidsS ts x ((kbk ts).getD b.toNat (0,0,0)) nodes.length).drop (k+1):=by rw[List.drop_append_of_le_length (by omega),A]
    rw[U,K];refine ih _ (k+1) _ _ (by rw[qb0];omega) ?_ (I.split Q H hs);rw[<- K,<- U];exact G.split H ts _ _
end
def rowT(ts:List Tb)(i:Nat):List (List Int):=ts.map λt=>t.cols.map λl=>l.getD i 0
def DeepOk(D:Nat)(t:List Nd):Prop:=∃dp:Nat->Nat,dp 0=0/\(∀k x,t[k]?=some x->dp k<=D/\(x.leaf=false->dp k<D/\∃l r:Nat,x.left=(l:Int)/\x.right=(r:Int)/\l<t.length/\r<t.length/\dp l=dp k+1/\dp r=dp k+1))/\
 ∀j,0<j->j<t.length->∃m x,m<j/\t[m]?=some x/\x.leaf=false/\(x.left=(j:Int)\/x.right=(j:Int))
theorem k2m{ts:List Tb}{s:Spl}(h:s∈kbk ts)(K:∀(p:Nat)(F:p<ts.length),tabR ts[p]=true):∃F:s.1<ts.length,s.2.1<(ts[s.1]).cols.length/\(ts[s.1]).cols.length<=16/\s.2.2<=31:=by
 unfold kbk kdw at h;rw[List.mem_flatMap]at h;obtain⟨p,F,h⟩:=h;rw[qcm]at F;have Y:ts.getD p Tb.no=ts[p]:=by simp[List.getD,F]
 unfold kg0 at h;rw[Y,List.mem_map]at h;obtain⟨⟨f,c⟩,h,e⟩:=h;unfold cutsTo at h;rw[List.mem_flatMap]at h;obtain⟨Q,I,h⟩:=h;rw[qcm]at I;rw[List.mem_map]at h;obtain⟨Z,U,h⟩:=h;injection h with h1 h2;subst h1;subst h2;subst e;rw[qcm]at U;obtain⟨-,A,C,H⟩:=ke2 (K p F);obtain⟨hb,aa,X,-⟩:=kfj (H Q I) I C;unfold nb at U;have:ts[p].bins.getD Q 0=ts[p].bins[Q]:=by simp[List.getD,hb]
 rw[this]at U;exact⟨F,I,A,show Z<=31 by omega⟩
section
variable{c:Cfg}{ts:List Tb}{g:List Int}{D N k:Nat}{sc0 sc:List Int}{V:List Wt}{t:List Nd}
theorem GrInv.tree(I:GrInv ts D N sc0 V V.length t sc)(H:ts.length<=16)(C:∀(p:Nat)(Q:p<ts.length),tabR ts[p]=true)(K:t.length<=63):treeR t=true:=by
 have h1:0<t.length:=by
  obtain⟨h,-⟩:=qce.1 I.first
  rw[<- I.len];exact h
 unfold treeR;rw[qb9,qb9,List.all_eq_true];refine⟨⟨by rw[qby (by omega)];rfl,by rw[qby (by omega)];rfl⟩,λk A=>?_⟩;rw[qcm]at A;unfold nodesR;rw[qbw];have F:t.getD k Nd.no=t[k]:=by simp[List.getD,A]
 rcases I.node k t[k] (by rw[I.len];exact A) (qb4 A)with⟨w,e,a,b⟩ | ⟨s,l,y,a1,a2,a3,a4,a5,a6,a7,a8⟩
 ·rw[F,e];unfold Nd.may leafN;rw[if_pos rfl];exact⟨a,b,rfl,rfl,rfl,rfl,rfl⟩
 ·rw[F,a2];obtain⟨U,p2,p3,p4⟩:=k2m a3 C;rw[I.len]at a5;unfold Nd.may splitN;rw[if_neg (show¬(false=true) by decide)];dsimp only;refine⟨rfl,?_,?_,?_,?_,?_,?_,?_,?_,?_,?_,?_⟩<;>omega
theorem GrInv.deep(I:GrInv ts D N sc0 V V.length t sc):DeepOk D t:=by
 refine⟨λk=>((V[k]?).map (·.deep)).getD 0,by dsimp only;rw[I.first];rfl,λk x e=>?_,λj h0 H=>?_⟩
 ·obtain⟨K,-⟩:=qce.1 e;have A:k<V.length:=by rw[I.len];exact K
  have C:V[k]?=some V[k]:=qb4 A;obtain⟨-,Q,-⟩:=I.place k _ C;dsimp only;rw[C];refine⟨Q,λF=>?_⟩;rcases I.node k x A e with⟨w,e,-⟩ | ⟨s,l,y,a1,a2,a3,a4,a5,a6,a7,a8⟩
  ·rw[e]at F;cases F
  ·rw[C]at a1;obtain rfl:=Option.some.inj a1;rw[I.len]at a5;exact⟨a6,l,l+1,by rw[a2];rfl,by rw[a2];rfl,by omega,a5,by rw[a7];rfl,by rw[a8];rfl⟩
 ·obtain⟨m,x,U,e,⟨s,l,y,a1,a2,a3,a4,a5,a6,a7,a8⟩,h⟩:=I.par j h0 (by rw[I.len];exact H);refine⟨m,x,?_,e,by rw[a2];rfl,h⟩;rw[a2]at h;unfold splitN at h;dsimp only at h;omega
theorem GrInv.eval(I:GrInv ts D N sc0 V V.length t sc)(aa:ts.length<=16)(Q:∀(p:Nat)(X:p<ts.length),tabR ts[p]=true)(ac:t.length<=63){i:Nat}(hi:i<N):∃w,evalN (rowT ts i) t 64 0=some w/\sc.getD i 0=IntKind.wrap .i64 (sc0.getD i 0+w):=by
 obtain⟨p,y,e,hy,h1,-,h3⟩:=I.at_ i hi;obtain⟨X,-⟩:=qce.1 e;obtain⟨w,Y,hs⟩:=h1 X;refine⟨w,?_,hs⟩
 have H:∀(f k:Nat)(y:Wt),V[k]?=some y->i∈y.rows->t.length<=k+f->evalN (rowT ts i) t f k=some w:=by
  intro f
  induction f with
  | zero =>
   intro k y e _ hf;obtain⟨h,-⟩:=qce.1 e;have:=I.len;omega
  | succ f ih =>
   intro k y' U C hf;obtain⟨Z,-⟩:=qce.1 U;have K:k<t.length:=by rw[<- I.len];exact Z
   have hx:t.getD k Nd.no=t[k]:=by simp[List.getD,K]
   have F:t[k]?=some t[k]:=qb4 K;rw[evalN,hx];rcases I.node k t[k] Z F with⟨v,ev,-⟩ | ⟨s,l,z,a1,a2,a3,a4,a5,a6,a7,a8⟩
   ·rcases h3 k y' U C with rfl | ⟨-,x,ex,hl⟩
    ·rw[F]at Y;rw[Option.some.inj Y];rfl
    ·rw[F]at ex;rw[<- Option.some.inj ex,ev]at hl;cases hl
   ·rw[U]at a1;obtain rfl:=Option.some.inj a1;obtain⟨p1,p2,p3,p4⟩:=k2m a3 Q;have hr:(rowT ts i).length=ts.length:=qb1 _;have hg:(rowT ts i).getD s.1 []=(ts[s.1]).cols.map λl=>l.getD i 0:=by simp[rowT,List.getD,p1]
    rw[a2];unfold splitN;dsimp only;rw[if_neg (by decide),if_neg (by rw[hr];omega),Int.toNat_natCast,Int.toNat_natCast,hg,if_neg (by rw[qb1];omega)]
    have A:leftS ts s i=decide ((((ts[s.1]).cols.map λl=>l.getD i 0).getD s.2.1 0)<=(s.2.2:Int)):=by unfold leftS leftP;simp[List.getD,p1,p2]
    by_cases d:leftS ts s i=true
    ·rw[if_pos (by rw[A]at d;exact qbz d),Int.toNat_natCast];exact ih l _ a7 (qck.2 ⟨C,d⟩) (by omega)
    ·rw[if_neg (by rw[A]at d;exactλa=>d (qbx a)),Int.toNat_natCast];exact ih (l+1) _ a8 (qck.2 ⟨C,by simpa using d⟩) (by omega)
 exact H 64 0 _ I.first (by simp only[firstW];exact qcm.2 hi) (by omega)
theorem k45(X:c.depth=(D:Int))(Q:D<=5)(C:ts.length<=16)(F:∀(p:Nat)(hp:p<ts.length),tabR ts[p]=true){labels:List Int}(Y:sc.length=labels.length):treeR (treeS c ts labels sc).1=true/\DeepOk D (treeS c ts labels sc).1/\(treeS c ts labels sc).2.length=labels.length/\
  ∀i,i<labels.length->∃w,evalN (rowT ts i) (treeS c ts labels sc).1 64 0=some w/\(treeS c ts labels sc).2.getD i 0=IntKind.wrap .i64 (sc.getD i 0+w):=by
 have H:=GrowOk.start (D:=D) (N:=labels.length)
 have Z:2^(D+1)-1<=64:=by have:2^(D+1)<=2^6:=Nat.pow_le_pow_right (by decide) (by omega);omega
 have U:GrowOk D 64 labels.length [firstW labels.length] [Nd.no]:=⟨by have:=H.mu;omega,H.deep,H.rows,H.place,H.size⟩
 have I:GrInv ts D labels.length sc [firstW labels.length] 0 [Nd.no] sc:=by
  refine⟨rfl,λj y e=>?_,rfl,λj x h=>by omega,λj h0 hj=>?_,Y,λi hi=>⟨0,_,rfl,qcm.2 hi,λh=>by omega,λ_=>rfl,λq y e _=>?_⟩⟩
  ·cases j with
   | zero =>
    obtain rfl:=Option.some.inj e;exact⟨rfl,Nat.zero_le _,List.Sublist.refl _⟩
   | succ j=>cases e
  ·rw[List.length_singleton]at hj;omega
  ·cases q with
   | zero=>exact .inl rfl
   | succ j=>cases e
 obtain⟨V,K,A⟩:=kbjk (c:=c) (g:=gradS c sc labels) X Q 64 [firstW labels.length] 0 [Nd.no] sc (by simp) U I;rw[List.drop_zero]at K A;exact⟨K.tree C F A,K.deep,K.scl,λi hi=>K.eval C F A hi⟩
theorem kbko(Q:c.depth=(D:Int))(A:D<=5)(C:ts.length<=16)(F:∀(p:Nat)(Y:p<ts.length),tabR ts[p]=true){labels:List Int}:∀(n:Nat)(m:List (List Nd))(sc:List Int),sc.length=labels.length->(∀t∈m,treeR t=true/\DeepOk D t)->(∀i,i<labels.length->∀M,evalM (rowT ts i) (m++M) 0=evalM (rowT ts i) M (sc.getD i 0))->
  (trainS c ts labels n m sc).1.length=m.length+n/\(trainS c ts labels n m sc).2.length=labels.length/\(∀t∈(trainS c ts labels n m sc).1,treeR t=true/\DeepOk D t)/\∀i,i<labels.length->evalM (rowT ts i) (trainS c ts labels n m sc).1 0=((trainS c ts labels n m sc).2.getD i 0,0):=by
 intro n
 induction n with
 | zero =>
  intro m sc H I K;refine⟨rfl,H,I,λi hi=>?_⟩;have:=K i hi [];rwa[List.append_nil]at this
 | succ n ih =>
  intro m sc H I K;obtain⟨a1,a2,a3,a4⟩:=k45 (c:=c) (ts:=ts) Q A C F (labels:=labels) H;rw[trainS];have:=ih (m++[(treeS c ts labels sc).1]) (treeS c ts labels sc).2 a3 (λt U=>?_) (λi hi M=>?_)
  ·rw[qb0,List.length_singleton]at this;exact⟨by rw[this.1];omega,this.2⟩
  ·rcases qb5.1 U with h | h
   ·exact I t h
   ·rw[List.mem_singleton.1 h];exact⟨a1,a2⟩
  ·obtain⟨w,e,X⟩:=a4 i hi;rw[List.append_assoc,K i hi,List.singleton_append,evalM,e,X]
theorem k9f{labels:List Int}(h:faultC c ts labels=0):∃D:Nat,c.depth=(D:Int)/\D<=5/\(trainC c ts labels).2.2=0/\modR (trainC c ts labels).1=true/\((trainC c ts labels).1.length:Int)=c.trees/\(∀t∈(trainC c ts labels).1,DeepOk D t)/\(trainC c ts labels).2.1.length=labels.length/\∀i,i<labels.length->evalF (rowT ts i) (trainC c ts labels).1=((trainC c ts labels).2.1.getD i 0,0):=by
 obtain⟨X,H,F,A,Y,I⟩:=kle h;have hd:=qbo X;obtain⟨D,K⟩:∃D:Nat,c.depth=(D:Int):=⟨c.depth.toNat,by omega⟩;have Z:∀(p:Nat)(Q:p<ts.length),tabR ts[p]=true:=λp Q=>(kiy A Q).1;obtain⟨b1,b2,b3,b4⟩:=kbko (c:=c) (ts:=ts) K (by omega) F Z (labels:=labels) c.trees.toNat [] (List.replicate labels.length 0) (by simp) (λt C=>by cases C) λi hi M=>by simp[List.getD,hi]
 unfold trainC;rw[if_pos h];dsimp only;rw[List.length_nil,Nat.zero_add]at b1
 have U:modR (trainS c ts labels c.trees.toNat [] (List.replicate labels.length 0)).1=true:=by unfold modR;rw[qb9,List.all_eq_true];exact⟨by rw[b1];simp;omega,λt C=>(b3 t C).1⟩
 refine⟨D,K,by omega,rfl,U,by rw[b1];omega,λt C=>(b3 t C).2,b2,λi hi=>?_⟩;unfold evalF;rw[if_pos U];exact b4 i hi
end
end Go.Ab
set_option maxRecDepth 10000
namespace Go.Ab
open Go.Proofs Go.Num Go.Heap
section
variable{h0:AH}{tsl:Sl}{ts:List Tb}{St:Fp}{p i:Nat}
theorem row_7(Qt:Sq Ef.tb h0 St tsl ts)(hp:p<ts.length)(aa:ts.length<=16)(ac:ts[p].cols.length<=16)(hi:∀(f:Nat)(hf:f<ts[p].cols.length),i<(ts[p].cols[f]).length){L:List (List Int)}(hL:L.length<=16){w:Sl}{U:Option Nat}{Sc:Fp}{h1:AH}(I:Grow h0 h1)(lc:LeO h0.blks.size U)(W:GF (Ef.seq EI) kbx h1 Sc w U L){P:AV->AH->Prop}
  (H:∀h w' F X,Grow h0 h->LeO h0.blks.size F->GF (Ef.seq EI) kbx h X w' F (L++[ts[p].cols.map λl=>l.getD i 0])->Runs (go (.pt kec knw [(0,tsl.v),(1,.i (i:Int)),(5,w'.v),(6,.i ((p+1:Nat):Int))]) h) P) :
  ∀(k f:Nat),f+k=ts[p].cols.length->∀(h:AH)(v:Sl)(j:Option Nat),Grow h1 h->LeO h1.blks.size j->GF EI T.int h Fp.no v j ((ts[p].cols.take f).map λl=>l.getD i 0)->
  Runs (go (.pt kec kpo [(0,tsl.v),(1,.i (i:Int)),(5,w.v),(6,.i (p:Int)),(7,v.v),(8,.i (f:Int))]) h) P:=by
 intro k
 induction k with
 | zero =>
  intro f hf h v j g Y V;obtain rfl:f=ts[p].cols.length:=by omega
  rw[List.take_length]at V;obtain⟨r,s1,s2,s3,e,c1,c2,K,n⟩:=(Qt.grow (I.trans g)).tb hp;rw[k3b];refine qz e (qz K ?_);rw[n.cols.len];refine qbc (qby (by omega)) (q0 λQ b2 C=>?_);refine qz (kcc b2 (by rw[kt3];rfl)) ?_;have wl:=W.lt;have z1:=I.size
  obtain⟨w',Z,e3,W3,u3⟩:=((W.grow g).grow C).push (P:=Pg) (T:=Fp.opt j) (cs:=[v.v]) (x:=ts[p].cols.map λl=>l.getD i 0) ⟨v,rfl,(V.grow C).sq.mono λm a=>a.elim id False.elim⟩ (by
   cases U with
   | none=>trivial
   | some y =>intro e;have h1:=opt_ge Y e;have Q:=opt_lt wl (rfl:some y=some y);omega) (kbc7 (by omega))
  refine qz e3 (qz qco ?_);rw[kj (by omega)];have G2:=(I.trans g).trans C;exact H Z w' (some Q.blks.size) _ (G2.updo lc u3) (show _<=_ from G2.size) W3
 | succ k ih =>
  intro f hf h v j g Y V;have A:f<ts[p].cols.length:=by omega
  obtain⟨r,s1,s2,s3,e,c1,c2,K,n⟩:=(Qt.grow (I.trans g)).tb hp;obtain⟨r1,t,e1,e2,-,n'⟩:=n.cols.sl A;obtain⟨r2,e3,e4⟩:=n'.int (hi f A);rw[k3b];refine qz e (qz K ?_);rw[n.cols.len];refine qbb (qbx (by omega)) (qz e (qz K ?_));refine qz e1 (qz e2 (qz e3 (qz e4 (q0 λQ b2 C=>?_))));refine qz (kcc b2 (by rw[kew];rfl)) ?_;have hx:=hi f A;obtain⟨t',Z,e7,V3,u3⟩:=(V.grow C).push (T:=Fp.no) (cs:=[.i ts[p].cols[f][i]]) (x:=ts[p].cols[f][i]) rfl qbn (kk3 (by rw[qb1,qcf];omega));refine qz e7 (qz qco ?_);rw[kj (by omega)];refine ih (f+1) (by omega) Z t' (some Q.blks.size) ((g.trans C).updo Y u3) (show _<=_ from(g.trans C).size) ?_;have hg:(ts[p].cols[f]).getD i 0=ts[p].cols[f][i]:=by simp[List.getD,hx]
  rw[qch A,List.map_append,List.map_cons,List.map_nil,hg];exact V3.mono (λj x=>x.1.elim id id) qbn
theorem row_3(H:Sq Ef.tb h0 St tsl ts)(C:ts.length<=16)(I:∀(p:Nat)(Y:p<ts.length),ts[p].cols.length<=16/\∀(f:Nat)(hf:f<ts[p].cols.length),i<(ts[p].cols[f]).length) :
  ∀(k p:Nat),p+k=ts.length->∀(h:AH)(w:Sl)(F:Option Nat)(K:Fp),Grow h0 h->LeO h0.blks.size F->GF (Ef.seq EI) kbx h K w F ((ts.take p).map λt=>t.cols.map λl=>l.getD i 0)->
  Runs (go (.pt kec knw [(0,tsl.v),(1,.i (i:Int)),(5,w.v),(6,.i (p:Int))]) h) λv h'=>Grow h0 h'/\∃(y:Sl)(S:Fp),v=y.v/\Sq (Ef.seq EI) h' S y (rowT ts i):=by
 intro k
 induction k with
 | zero =>
  intro p Y h w F K g Z W;obtain rfl:p=ts.length:=by omega
  rw[List.take_length]at W;rw[k34,H.len];exact qbc (qby (by omega)) (qy ⟨g,w,_,rfl,W.sq⟩)
 | succ k ih =>
  intro p Y h w F K g Z W;have A:p<ts.length:=by omega
  obtain⟨h1,h2⟩:=I p A;rw[k34,H.len];refine qbb (qbx (by omega)) ?_;refine row_7 H A C h1 h2 (by rw[qb1,qcf];omega) g Z W (λh w' Q U g' X W'=>?_) ts[p].cols.length 0 (by omega) h _ none (ql _) trivial (GF.none EI T.int h Fp.no);refine ih (p+1) (by omega) h w' Q U g' X ?_;rw[qch A,List.map_append];exact W'
theorem kbfv(F:Sq Ef.tb h0 St tsl ts)(A:ts.length<=16)(C:∀(p:Nat)(H:p<ts.length),ts[p].cols.length<=16/\∀(f:Nat)(I:f<ts[p].cols.length),i<(ts[p].cols[f]).length) :
  Runs (go (.fn kec [tsl.v,.i (i:Int)]) h0) λv h'=>Grow h0 h'/\∃(y:Sl)(S:Fp),v=y.v/\Sq (Ef.seq EI) h' S y (rowT ts i):=by
 rw[kbfj];exact row_3 F A C ts.length 0 (by omega) h0 _ none Fp.no (ql _) trivial (GF.none (Ef.seq EI) kbx h0 Fp.no)
end
section
variable{c:Cfg}{tsl ls us ml:Sl}{kc km:Nat}{hB:AH}{D:Nat}{P:AV->AH->Prop}
def DeepI(t:List Nd)(C:Nat->Nat)(k:Nat)(A:List Int):Prop:=A.length=t.length/\∀j,j<t.length->(j=0\/∃m x,m<k/\t[m]?=some x/\x.leaf=false/\(x.left=(j:Int)\/x.right=(j:Int)))->A.getD j 0=(C j:Int)
theorem sc_18{t:List Nd}{S:Fp}{tl:Sl}{z:Nat}(hz:z<=100)(N:Sq Ef.nd hB S tl t)(ht:t.length<=63)(B:hB.has kc c.cells kbn)(hD:c.depth=(D:Int)){A:Nat->Nat}(dn:∀k x,t[k]?=some x->A k<=D/\(x.leaf=false->A k<D/\∃l r:Nat,x.left=(l:Int)/\x.right=(r:Int)/\l<t.length/\r<t.length/\A l=A k+1/\A r=A k+1))
  (Y:∀j,0<j->j<t.length->∃m x,m<j/\t[m]?=some x/\x.leaf=false/\(x.left=(j:Int)\/x.right=(j:Int))) (ah:D<=5)
  (H:∀h,Md Fp.no hB h->Runs (go (.pt kca kl5 [(1,tsl.v),(2,ls.v),(3,.p (.new kc 0)),(9,.p (.new km 0)),(12,us.v),(15,.i ((z+1:Nat):Int))]) h) P) {js:Nat} (U:hB.blks.size<=js) {sl:Sl} :
  ∀(n k:Nat),k+n=t.length->∀(h:AH)(C:List Int),Md Fp.no hB h->GF EI T.int h Fp.no sl (some js) C->DeepI t A k C->
  Runs (go (.pt kca kjg [(1,tsl.v),(2,ls.v),(3,.p (.new kc 0)),(9,.p (.new km 0)),(12,us.v),(15,.i (z:Int)),(16,tl.v),(17,sl.v),(18,.i (k:Int))]) h) P:=by
 intro n
 induction n with
 | zero =>
  intro k hk h C M V I;rw[kxk,N.len];refine qbc (qby (by omega)) ?_;rw[kj (by omega)];exact H h M
 | succ n ih =>
  intro k hk h C M V I;obtain⟨il,iv⟩:=I;have F:k<t.length:=by omega
  have hx:t[k]?=some t[k]:=qb4 F;have X:k<C.length:=by omega
  have ek:C[k]=(A k:Int):=by
   have:=iv k F (by
    rcases Nat.eq_zero_or_pos k with c | c
    ·exact .inl c
    ·exact .inr (Y k c F))
   simpa[List.getD,X]using this
  obtain⟨ai,ac⟩:=dn k t[k] hx;obtain⟨r1,e1,e2⟩:=V.sq.int X;rw[ek]at e2;have Bc:h.has kc c.cells kbn:=M.has B id;obtain⟨r3,y,y0,y1,y2,y3,y4,y5,y6⟩:=(N.bound.md M λj _ a=>a).nd F
  have Z:(h.cell ((Ref.new kc 0).add 1)).bind (AV.asInt .i64)=some (D:Int):=by rw[<- hD];exact Bc.rd 1 rfl qcp
  rw[kxk];refine qbb (qbx (by rw[N.len];omega)) (qz e1 (qz e2 (qz Z (qbc (qby (by omega)) (qz y (qz y0 (qbd (λc=>?_) λc=>?_)))))))
  ·rw[qci]at c;obtain⟨aj,l,r,el,er,hl,hr,aa,ad⟩:=ac c;refine qz e1 (qz e2 (qz Z (qbc (qby (by omega)) (qz y (qz y0 (qbb (by rw[c];rfl) ?_))))));refine qz y (qz y5 (qz e1 (qz e2 ?_)));rw[el,kj (i:=A k) (by omega)];have ln:sl.len=C.length:=V.len;obtain⟨r4,h1,e5,p5,V5,u5⟩:=V.set (T:=Fp.no) (x:=((A k+1:Nat):Int)) (show EI.has h Fp.no [.i ((A k+1:Nat):Int)] _ from rfl) qbm (kbi (show l<C.length by omega));have e5:idx sl.ref C.length (l:Int) 1=some r4:=e5;rw[<- ln]at e5;have u5:Upd h h1 js:=u5;have M1:Md Fp.no hB h1:=M.next (u5.md (T:=λj=>j=js) rfl) λj U e=>by omega
   have V5:GF EI T.int h1 Fp.no sl (some js) (C.set l ((A k+1:Nat):Int)):=V5.mono (λj x=>x.elim id id) qbm;refine qz e5 (qz p5 ?_);obtain⟨r6,w,w0,w1,w2,w3,w4,w5,w6⟩:=(N.bound.md M1 λj _ a=>a).nd F;have ae:k<(C.set l ((A k+1:Nat):Int)).length:=by rw[qb7];exact X
   have ne:l≠k:=λe=>by rw[e]at aa;omega
   have af:(C.set l ((A k+1:Nat):Int))[k]=(A k:Int):=by rw[List.getElem_set_ne ne,ek]
   obtain⟨r7,e7,e8⟩:=V5.sq.int ae;rw[af]at e8;refine qz w (qz w6 (qz e7 (qz e8 ?_)));rw[er,kj (i:=A k) (by omega)];have ag:sl.len=(C.set l ((A k+1:Nat):Int)).length:=V5.len;obtain⟨r9,h2,e9,p9,V9,u9⟩:=V5.set (T:=Fp.no) (x:=((A k+1:Nat):Int)) (show EI.has h1 Fp.no [.i ((A k+1:Nat):Int)] _ from rfl) qbm (kbi (show r<(C.set l ((A k+1:Nat):Int)).length by rw[qb7];omega));have e9:idx sl.ref (C.set l ((A k+1:Nat):Int)).length (r:Int) 1=some r9:=e9;rw[<- ag]at e9;have u9:Upd h1 h2 js:=u9;have M2:Md Fp.no hB h2:=M1.next (u9.md (T:=λj=>j=js) rfl) λj U e=>by omega
   refine qz e9 (qz p9 ?_);rw[kj (by omega)];refine ih (k+1) (by omega) h2 _ M2 (V9.mono (λj x=>x.elim id id) qbm) ⟨by rw[qb7,qb7];exact il,λj U a=>?_⟩;by_cases cr:j=r
   ·subst cr;rw[ad];simp[List.getD,il,U]
   ·by_cases cl:j=l
    ·subst cl;rw[aa];have:r≠j:=λe=>cr e.symm;simp[List.getD,il,U,List.getElem_set_ne this]
    ·have q:=iv j U (by
      rcases a with a | ⟨m,x,hm,e,K,Q⟩
      ·exact .inl a
      ·refine .inr ⟨m,x,?_,e,K,Q⟩;rcases Nat.lt_or_ge m k with h | h
       ·exact h
       ·exfalso;obtain rfl:m=k:=by omega
        rw[hx]at e;obtain rfl:=Option.some.inj e;rw[el,er]at Q;omega)
     rw[<- q];have h1:r≠j:=λe=>cr e.symm;have h2:l≠j:=λe=>cl e.symm;simp[List.getD,List.getElem?_set_ne h1,List.getElem?_set_ne h2]
  ·rw[qcj]at c;refine qz y (qz y0 (qbc (by rw[c];rfl) ?_));rw[kj (by omega)];refine ih (k+1) (by omega) h C M V ⟨il,λj U a=>iv j U ?_⟩;rcases a with a | ⟨m,x,hm,e,K,Q⟩
   ·exact .inl a
   ·refine .inr ⟨m,x,?_,e,K,Q⟩;rcases Nat.lt_or_ge m k with h | h
    ·exact h
    ·exfalso;obtain rfl:m=k:=by omega
     rw[hx]at e;obtain rfl:=Option.some.inj e;rw[c]at K;cases K
theorem sc_13{m:List (List Nd)}{S:Fp}(M:Sq EM hB S ml m)(U:modR m=true)(A:∀t∈m,DeepOk D t)(B:hB.has kc c.cells kbn)(X:hB.has km [ml.v] kcp)(hD:c.depth=(D:Int))(K:D<=5)
  (H:∀h,Md Fp.no hB h->Runs (go (.pt kca kl1 [(1,tsl.v),(2,ls.v),(9,.p (.new km 0)),(12,us.v),(19,.i 0)]) h) P) :
  ∀(n z:Nat),z+n=m.length->∀(h:AH),Md Fp.no hB h->Runs (go (.pt kca kl5 [(1,tsl.v),(2,ls.v),(3,.p (.new kc 0)),(9,.p (.new km 0)),(12,us.v),(15,.i (z:Int))]) h) P:=by
 obtain⟨aa,hT⟩:=k1f U;intro n
 induction n with
 | zero =>
  intro z hz h g;rw[k3h];refine qcq (g.has X id) 0 rfl ?_;rw[M.len];exact qbc (qby (by omega)) (H h g)
 | succ n ih =>
  intro z hz h g;have C:z<m.length:=by omega
  obtain⟨h1,Q,-⟩:=kt2 (hT z C);obtain⟨dp,d0,dn,F⟩:=A _ (qb3 C);have M1:=M.bound.md g λj _ a=>a;obtain⟨r,Y,Z,-,e2,N⟩:=M1.sl C;have I:=g.has X id;rw[k3h];refine qcq I 0 rfl ?_;rw[M.len];rw[M.len]at Z;refine qbb (qbx (by omega)) (qcq I 0 rfl ?_);rw[M.len];refine qz Z (qz e2 ?_);obtain⟨h4,e4,g4,V4⟩:=GF.mk (E:=EI) (elem:=T.int) (S:=Fp.no) (h:=h) (n:=(m[z]).length) (bytes:=Pg.bytesOf T.int) (l:=(Y.len:Int)) (c:=(Y.len:Int)) (cs:=[.i 0]) (x:=(0:Int)) (λh'=>rfl) qbm (by rw[N.len]) (by rw[N.len]) (by rw[kks];omega) (by omega);refine qz e4 ?_;refine sc_18 (hB:=h) (by omega) N Q (g.has B id) hD dn F K (λh' g'=>ih (z+1) (by omega) h' (g.next g' λj hj e=>e)) (js:=h.blks.size) (qbp _) (m[z]).length 0 (by omega) h4 _ (g4.md _) V4 ⟨qb8,λj hj a=>?_⟩;rcases a with rfl | ⟨m,x,U,-⟩
  ·rw[d0];simp[List.getD,hj]
  ·omega
theorem sc_26{m:List (List Nd)}{S St Su SL:Fp}{ts:List Tb}{labels sc:List Int}(M:Sq EM hB S ml m)(Qt:Sq Ef.tb hB St tsl ts)(Q:Sq EI hB SL ls labels)(U:Sq EI hB Su us sc)(aa:sc.length=labels.length)(I:hB.has km [ml.v] kcp)(A:ts.length<=16)(hL:labels.length<=256)
  (C:∀(p:Nat)(H:p<ts.length),ts[p].cols.length<=16/\∀(f:Nat)(K:f<ts[p].cols.length),(ts[p].cols[f]).length=labels.length) (he:∀i,i<labels.length->evalF (rowT ts i) m=(sc.getD i 0,0)) :
  ∀(n i:Nat),i+n=labels.length->∀(h:AH),Grow hB h->Runs (go (.pt kca kl1 [(1,tsl.v),(2,ls.v),(9,.p (.new km 0)),(12,us.v),(19,.i (i:Int))]) h) λv _=>v=.bool true:=by
 intro n
 induction n with
 | zero =>
  intro i hi h g;rw[k3n,Q.len];exact qbc (qby (by omega)) (qy rfl)
 | succ n ih =>
  intro i hi h g;have F:i<labels.length:=by omega
  rw[k3n,Q.len];refine qbb (qbx (by omega)) (qcq (g.has I) 0 rfl ?_);refine(kbfv (i:=i) (Qt.grow g) A λp H=>⟨(C p H).1,λf K=>by rw[(C p H).2 f K];exact F⟩).call λv h1 ⟨X,y,Sy,e,R⟩=>?_;subst e;have Y:=g.trans X;refine qz (seen qco) (qbe (X.same (g.has I) 0 1) ?_);refine(kbi5 (M.grow Y) R).call λv h2 ⟨e,g2⟩=>?_;subst e;have Z:=Y.trans g2;rw[he i F];have hs:i<sc.length:=by omega
  obtain⟨r,e1,e2⟩:=(U.grow Z).int hs;have hg:sc.getD i 0=sc[i]:=by simp[List.getD,hs]
  refine qz rfl (qz (seen qcp) (qz (seen qcp) (qbc rfl (qz e1 (qz e2 (qbc (by rw[hg,qbx rfl];rfl) ?_))))));rw[kj (by omega)];exact ih (i+1) (by omega) h2 Z
end
theorem CentralScoresCard_law(h:AH)(T0:Tab h){x1 x2 x3:AV}(z1:ArgV Pg h kbn x1)(z2:ArgV Pg h kta x2)(z3:ArgV Pg h kbx x3):∃h',go (.fn kca [x1,x2,x3]) h=some (.bool true,h'):=by
 obtain⟨c,rfl⟩:=cfg_of z1;obtain⟨tsl,ts,rfl,Qt⟩:=kbbj z2;obtain⟨ls,labels,rfl,Q⟩:=int_of z3
 suffices H:Runs (go (.fn kca [.agg [.i c.trees,.i c.depth,.i c.lambda,.i c.gamma,.i c.num,.i c.den,.i c.loss,.i c.clip],tsl.v,ls.v]) h) λv _=>v=.bool true by obtain⟨_,h',e,rfl⟩:=H;exact⟨h',e⟩
 rw[k8x];refine q0 λh1 b1 g1=>?_;refine(kbm3 (T0.grow g1)).call λv h2 ⟨e,g2⟩=>?_;subst e;have G2:=g1.trans g2;have B2:=g2.has b1;refine qz (seen rfl) ?_;refine rd8 B2 ?_;refine(few_is (c:=c) (Qt.grow G2)).call λv h3 ⟨⟨r,e⟩,g3⟩=>?_;subst e;have G3:=G2.trans g3;have B3:=g3.has B2;refine qz (seen rfl) (qbc rfl (qbd (λ_=>qy rfl) λ_=>?_));refine rd8 B3 ?_;refine(k0l (c:=c) (T0.grow G3) (Qt.grow G3) (Q.grow G3)).call λv h4 ⟨s,e,V,g4⟩=>?_;subst e;refine qz rfl (qz rfl (qbb rfl (qz (seenAt rfl qco) (qz (seen qcp) ?_))));refine q0 λh5 b5 g5=>qba b5 rfl λh6 b6 u6=>?_;have F:Grow h4 h6:=g5.updr (qbp _) u6;have G6:=(G3.trans g4).trans F;have B6:=(g4.trans F).has B3;refine rd8 B6 ?_;refine(kbbi (c:=c) (Qt.grow G6) (Q.grow G6)).call λv h7 ⟨s',u,e,V',W,g7⟩=>?_;subst e;refine qz rfl (qz rfl (qbb rfl (qz (seenAt rfl qco) (qz (seen qco) (qz (seen qcp) ?_)))));refine q0 λh8 b8 g8=>qba b8 rfl λh9 b9 u9=>?_;have af:Grow h7 h9:=g8.updr (qbp _) u9;have A:=g7.trans af;have U:decide ((trainC c ts labels).2.2=(trainC c ts labels).2.2)=true:=qbx rfl;refine qbd (λ_=>qy (by rw[U])) λa=>?_;have hz:(trainC c ts labels).2.2=0:=by simpa using a
 have hf:faultC c ts labels=0:=by
  unfold trainC at hz;by_cases q:faultC c ts labels=0
  ·exact q
  ·rw[if_neg q]at hz;exact hz
 obtain⟨D,hD,am,-,hm,ag,X,an,Y⟩:=k9f hf;obtain⟨hc,ah,ap,I,ai,ar⟩:=kle hf
 have Z:∀(p:Nat)(hp:p<ts.length),ts[p].cols.length<=16/\∀(f:Nat)(hf:f<ts[p].cols.length),(ts[p].cols[f]).length=labels.length:=λp hp=>by obtain⟨a,b,_⟩:=kiy I hp;obtain⟨K,aa,ac,aj⟩:=ke2 a;refine⟨aa,λf hf=>?_⟩;obtain⟨-,-,-,Z⟩:=kfj (aj f hf) hf ac;rw[Z,b,ai]
 have hL:labels.length<=256:=by have hp:0<ts.length:=List.length_pos_iff.2 ah;obtain⟨a,b,_⟩:=kiy I hp;obtain⟨K,-⟩:=ke2 a;rw[ai,<- b];exact K
 refine qbc (by rw[hz];rfl) ?_;have B9:=A.has b6;refine qcq B9 0 rfl ?_;refine(kbbt (V.grow (F.trans A))).call λv aq ⟨e,C⟩=>?_;subst e;rw[hm];have ad:=C.has B9;have ak:=(A.trans C).has B6;have ae:=V.grow ((F.trans A).trans C);refine qz (seen rfl) (qbc rfl (qcq ad 0 rfl (qcr ak 0 rfl ?_)));rw[ae.len];refine qbc (by rw[ag,qbx rfl];rfl) ?_;refine sc_13 (c:=c) ae hm X ak ad hD am (λh' M=>?_) (trainC c ts labels).1.length 0 (by omega) aq (Md.refl _ _);have al:=(G6.trans A).trans C;exact sc_26 (ae.bound.md M λj _ a=>a) ((Qt.grow al).bound.md M λj _ a=>a) ((Q.grow al).bound.md M λj _ a=>a) ((W.grow (af.trans C)).bound.md M λj _ a=>a) an (M.has ad id) ap hL Z Y labels.length 0 (by omega) h' (ql _)
end Go.Ab
