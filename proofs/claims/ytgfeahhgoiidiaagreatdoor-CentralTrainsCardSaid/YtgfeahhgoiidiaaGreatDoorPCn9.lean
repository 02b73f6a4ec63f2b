/- Words and laws that the last text joins. -/
import Derived.Test.YtgfeahhgoiidiaaGreatDoorPE2
import Derived.Test.YtgfeahhgoiidiaaGreatDoorPG3
set_option linter.unusedVariables false
set_option linter.unusedSimpArgs false
set_option linter.unusedSectionVars false
set_option maxRecDepth 10000
namespace Go.Ab
open Go.Proofs Go.Num Go.Heap
theorem Md.same{h h':AH}{T:Fp}(m:Md T h h'){i:Nat}{cs:List AV}{e:TypeId}(b:h.has i cs e)(n:¬T i)(o k:Nat):SameAt h h' (.new i o) k:=⟨λj _=>by
 rw[qj];simp only[AH.cell,m.blk i b.lt n],λ_=>m.blk i b.lt n⟩
theorem ky9{n:Nat}(h:n<=1000000):growOk Pg n kbz 1=true:=by
 unfold growOk;rw[k7l,kbfh];have h1:n*24<=kx:=by simp only[kx];omega
 have y:n<=kx:=by simp only[kx];omega
 simp[h1,y]
section
variable{h0:AH}{S S':Fp}{s t:Sl}
theorem k5o{xs ys:List Int}(n:Sq EI h0 S s xs)(m:Sq EI h0 S' t ys)(I:xs.length=ys.length):∀(k i:Nat),i+k=xs.length->
  go (.pt kiz kn6 [(0,s.v),(1,t.v),(12,.i (xs.length:Int)),(13,.i (i:Int))]) h0=some (.bool (decide (xs.drop i=ys.drop i)),h0):=by
 intro k
 induction k with
 | zero =>
  intro i hi;rw[k2d,condF (qby (by omega)),List.drop_of_length_le (by omega),List.drop_of_length_le (by omega)];rfl
 | succ k ih =>
  intro i hi;have h1:i<xs.length:=by omega
  have y:i<ys.length:=by omega
  obtain⟨r,A,C⟩:=n.int h1;obtain⟨q,F,H⟩:=m.int y;rw[k2d,A,F,condT (qbx (by omega))];simp only[qbt,C,H];by_cases c:xs[i]=ys[i]
  ·rw[condF (by rw[qbx c];rfl),kj (by have:=n.short;omega),ih (i+1) (by omega),qcf h1,qcf y];rw[decide_eq_decide.2 (show xs.drop (i+1)=ys.drop (i+1)↔xs[i]::xs.drop (i+1)=ys[i]::ys.drop (i+1)from⟨λe=>by rw[c,e],λe=>(List.cons.inj e).2⟩)]
  ·rw[condT (by rw[qby c];rfl),qcf h1,qcf y,qby (λe=>c (List.cons.inj e).1)]
theorem k8x{xs ys:List Int}(n:Sq EI h0 S s xs)(m:Sq EI h0 S' t ys):go (.fn kiz [s.v,t.v]) h0=some (.bool (decide (xs=ys)),h0):=by
 rw[kbd4,n.len,m.len];by_cases c:xs.length=ys.length
 ·rw[condF (by rw[qbx (by omega)];rfl)];exact k5o n m c xs.length 0 (by omega)
 ·rw[condT (by rw[qby (by omega)];rfl),qby (λe=>c (by rw[e]))]
theorem k7k{xs:List Int}(n:Sq EI h0 S s xs):Runs (go (.fn kea [s.v,.func (.func kd9) [] []]) h0) λv h'=>v=.bool (oddL xs)/\Grow h0 h':=by
 rw[k4n];refine Runs.contains (xs:=xs) ?_;rw[kbe5,n.len];refine ko4 (n:=xs.length) (G:=λz h=>go (.pt kbw kcv [(0,s.v),(1,.func (.func kd9) [] []),(7,.i (xs.length:Int)),(8,.i z)]) h) (λi h P hi g y A=>?_) (λh g=>?_) xs.length 0 (by omega) (ql h0) (λj H=>by omega)
 ·obtain⟨r,C,F⟩:=(n.grow g).int hi;rw[qb3 hi]at y A;simp only[Option.any_some]at y A;show Runs (go _ _) _;rw[k2y];refine qbb (qbx (by omega)) (qz C (qz F ?_))
  have key:go (.fn kd9 [.i xs[i]]) h=some (.bool (decide (xs[i] < -1048576)||decide (xs[i]>1048576)),h):=by
   rw[k83];cases decide (xs[i] < -1048576)<;>rfl
  refine qz key (qz (seen rfl) ?_);rw[kj (by have:=n.short;omega)];exact qbd (λc=>qy (y h g c)) λc=>A h g c
 ·rw[k2y,condF (qby (by omega))]
end
section
variable{c:Cfg}{scs ls tsl:Sl}{labels:List Int}{ts:List Tb}{hE:AH}{St SL:Fp}
theorem kbgj(C:Sq Ef.tb hE St tsl ts)(Q:Sq EI hE SL ls labels)(aa:ts.length<=16)(F:0<ts.length):∀(k i:Nat),i+k=ts.length->∀{h:AH},Grow hE h->
  Runs (go (.pt kit kqy [(1,tsl.v),(2,ls.v),(23,tsl.v),(24,.i (ts.length:Int)),(25,.i (i:Int))]) h) λv h'=>v=.i (if((ts.drop i).any λt=>!tabR t||(!decide (t.ids=(ts.getD 0 Tb.no).ids)||decide (t.ids.length=0)))=true then 20 else if labels.length≠(ts.getD 0 Tb.no).ids.length then 1 else if oddL labels then 1 else 0)/\Grow hE h':=by
 have I:ts.getD 0 Tb.no=ts[0]:=by simp[List.getD,F]
 rw[I];intro k
 induction k with
 | zero =>
  intro i hi h g;rw[k1z,List.drop_of_length_le (by omega)];refine qbc (qby (by omega)) ?_;obtain⟨r,s1,s2,s3,e,K,Y,Z,n⟩:=(C.grow g).tb F;refine qz e (qz K ?_);rw[(Q.grow g).len,n.ids.len];refine qbd (λa=>qy ⟨?_,g⟩) λa=>?_
  ·have:labels.length≠ts[0].ids.length:=by
    intro e;rw[e,qbx rfl]at a;cases a
   simp[this]
  ·have:labels.length=ts[0].ids.length:=by
    rw[qci,qbw]at a;omega
   refine(k7k (Q.grow g)).call λv h1 ⟨U,H⟩=>?_;subst U;refine qz (seen rfl) (qbd (λb=>qy ⟨?_,g.trans H⟩) λb=>qy ⟨?_,g.trans H⟩)
   ·simp[this,b]
   ·simp[this,b]
 | succ k ih =>
  intro i hi h g;have A:i<ts.length:=by omega
  obtain⟨r,s1,s2,s3,e,K,Y,Z,n⟩:=(C.grow g).tb A;obtain⟨r0,t1,t2,t3,e0,d1,d2,d3,n0⟩:=(C.grow g).tb F;rw[k1z,qcf A,List.any_cons];refine qbb (qbx (by omega)) (qz e (qz K (qz Y (qz Z (q0 λh1 b1 H=>qba b1 rfl λh2 b2 u2=>?_)))));have G2:Grow h h2:=H.updr (qbp _) u2;refine qz (b2.rd 0 rfl qcm) (qz (b2.rd 1 rfl qcm) (qz (b2.rd 2 rfl qcm) ?_));refine(kz2 (n.grow G2)).call λv h3 ⟨U,V⟩=>?_;subst U;have y:=G2.trans V;refine qz (seen rfl) (qbd (λa=>qy ⟨?_,g.trans y⟩) λa=>?_)
  ·rw[qch]at a;simp[a]
  rw[qci]at a;obtain⟨r0,t1,t2,t3,e0,d1,d2,d3,n0⟩:=(C.grow (g.trans y)).tb F;refine qz ((V.has b2).rd 0 rfl qcm) (qz e0 (qz d1 ?_));refine qz (k8x (n.grow y).ids n0.ids) (qz (seen rfl) (qbd (λb=>qy ⟨?_,g.trans y⟩) λb=>?_))
  ·rw[qch]at b;simp[b]
  rw[qci]at b;refine qz ((V.has b2).rd 0 rfl qcm) ?_;rw[n.ids.len];refine qbd (λd=>qy ⟨?_,g.trans y⟩) λd=>?_
  ·have:ts[i].ids.length=0:=by
    have:=of_decide_eq_true d;omega
   simp[this]
  rw[kj (by omega)]
  have X:decide (ts[i].ids.length=0)=false:=by
   have:=of_decide_eq_false d;exact qby (by omega)
  rw[a,b,X];exact ih (i+1) (by omega) (g.trans y)
theorem kbdm(y:Sq Ef.tb hE St tsl ts)(Q:Sq EI hE SL ls labels):Runs (go (.fn kit [.agg c.cells,tsl.v,ls.v]) hE) λv h'=>v=.i (faultC c ts labels)/\Grow hE h':=by
 unfold Cfg.cells;rw[kbio];refine q0 λh1 b1 A=>?_;refine rd8 b1 ?_;obtain⟨K,C,F⟩:=kuk c h1;have G:=A.trans F;refine qz C (qz (seen rfl) ?_);rw[y.len];unfold faultC;refine qbd (λa=>qy ⟨by simp[a],G⟩) λa=>?_;rw[if_neg (by simp[a])];refine qbd (λb=>qy ⟨?_,G⟩) λb=>?_
 ·have:ts.length=0:=by have:=of_decide_eq_true b;omega
  simp[this]
 have H:¬ts.length=0:=by have:=of_decide_eq_false b;omega
 rw[if_neg H];refine qbd (λd=>qy ⟨?_,G⟩) λd=>?_
 ·have:ts.length>16:=by have:=of_decide_eq_true d;omega
  simp[this]
 have I:¬ts.length>16:=by have:=of_decide_eq_false d;omega
 rw[if_neg I];have:=kbgj y Q (by omega) (by omega) ts.length 0 (by omega) G;rw[List.drop_zero]at this;exact this
theorem krl(c:Cfg)(ts:List Tb)(g:List Int):∀(n:Nat)(W:List Wt)(nodes:List Nd)(sc:List Int),(growS c ts g n W nodes sc).2.length=sc.length
 | 0,W,nodes,sc=>rfl
 | n+1,[],nodes,sc=>rfl
 | n+1,x::W,nodes,sc=>by
  rw[growS];cases bestS c ts g x with
  | nil=>exact(krl c ts g n W _ _).trans (kno _ _ _)
  | cons b bs=>exact krl c ts g n _ _ sc
theorem kny(c:Cfg)(sc labels:List Int):(gradS c sc labels).length=labels.length:=by simp[gradS]
theorem k9j{C:AH}{sc:List Int}{y:Sl}{jg js kc kr km:Nat}{Y Z:Int}(Q:Sq EI C SL ls labels)(B:C.has kc c.cells kbm)(V:GF EI T.int C Fp.no scs (some js) sc)(aa:sc.length=labels.length)(hL:labels.length<=256)(nL:¬SL jg)(hk:kc≠jg)(hj:js≠jg){P:AV->AH->Prop}
  (H:∀h',Md (λj=>j=jg) C h'->GF EI T.int h' Fp.no y (some jg) (gradS c sc labels)->Runs (go (.pt kda klp [(1,tsl.v),(2,ls.v),(3,.p (.new kc 0)),(6,.p (.new kr 0)),(9,scs.v),(10,.p (.new km 0)),(11,y.v),(26,.i Y),(27,.i Z),(32,ls.v),(33,.i (labels.length:Int)),(34,.i (labels.length:Int))]) h') P) :
  ∀(k i:Nat),i+k=labels.length->∀{h:AH},Md (λj=>j=jg) C h->GF EI T.int h Fp.no y (some jg) ((gradS c sc labels).take i++List.replicate k 0)->
  Runs (go (.pt kda klp [(1,tsl.v),(2,ls.v),(3,.p (.new kc 0)),(6,.p (.new kr 0)),(9,scs.v),(10,.p (.new km 0)),(11,y.v),(26,.i Y),(27,.i Z),(32,ls.v),(33,.i (labels.length:Int)),(34,.i (i:Int))]) h) P:=by
 have ac:=kny c sc labels;intro k
 induction k with
 | zero =>
  intro i hi h m v;obtain rfl:i=labels.length:=by omega
  rw[List.take_of_length_le (by omega)]at v;exact H h m (by simpa using v)
 | succ k ih =>
  intro i hi h m v;have A:i<labels.length:=by omega
  have F:i<sc.length:=by omega
  have Q1:=Q.md m λj a e=>nL (e▸a);have B1:=m.has B hk;have V1:=GF.md m (S:=Fp.no) (λj a _=>a) V λk e=>by cases e;exact hj
  obtain⟨r,e1,e2⟩:=Q1.int A;obtain⟨r2,e3,e4⟩:=V1.sq.int F;rw[k1f];refine qbb (qbx (by omega)) (qz e1 (qz e2 ?_));refine rd8 B1 ?_;refine qz e3 (qz e4 ?_);obtain⟨h1,e5,g1⟩:=kbcr c sc[i] labels[i] h;refine qz e5 (qz rfl (qz (seen qcn) (qz (seen qcn) ?_)));have v1:=v.grow g1;have K:((gradS c sc labels).take i++List.replicate (k+1) 0).length=labels.length:=by simp;omega
  obtain⟨r3,h2,e6,p6,V2,U⟩:=v1.set (T:=Fp.no) (x:=(c.grad sc[i] labels[i]).1) (show EI.has h1 Fp.no [.i (c.grad sc[i] labels[i]).1] _ from rfl) qbm (kbi (show i<_ by rw[K];exact A));rw[<- v1.len]at e6;have U:Upd h1 h2 jg:=U;refine qz e6 (qz p6 ?_);rw[kj (by omega)];refine ih (i+1) (by omega) ((m.thenG g1).trans (U.md rfl)) ?_
  have I:((gradS c sc labels).take i++List.replicate (k+1) 0).set i (c.grad sc[i] labels[i]).1=(gradS c sc labels).take (i+1)++List.replicate k 0:=by
   have X:((gradS c sc labels).take i).length=i:=by simp;omega
   rw[List.set_append_right _ _ (by omega),X,Nat.sub_self,List.replicate_succ,List.set_cons_zero,qcg (by omega),List.append_assoc];congr 1;simp[gradS,List.getD,F,A]
  rw[<- I];exact V2.mono (λj x=>x.elim id id) qbm
def TrainP(hE:AH)(m:List (List Nd))(e:Int)(v:AV)(h':AH):Prop:=∃s:Sl,v=.tup [.agg [s.v],.i e]/\Sq EM h' Fp.all s m/\Grow hE h'
theorem k7f(T0:Tab hE)(hf:faultC c ts labels=0)(Qt:Sq Ef.tb hE St tsl ts)(Q:Sq EI hE SL ls labels){kc kr km js:Nat}(ay:hE.blks.size<=kc)(az:hE.blks.size<=kr)(a0:hE.blks.size<=km)(ba:hE.blks.size<=js)(ae:kc≠km)(bb:kc≠kr)(af:kr≠km)(ag:kc≠js)(ah:kr≠js)(U:km≠js) :
  ∀(k i:Nat),i+k=c.trees.toNat->∀(m:List (List Nd))(sc:List Int)(l x:Sl)(I:Option Nat)(S:Fp)(h:AH),m.length=i->sc.length=labels.length->Md Fp.no hE h->h.has kc c.cells kbm->h.has kr [x.v] kcr->h.has km [l.v] kcr->GF EM kbz h S l I m->(∀j,S j\/I=some j->hE.blks.size<=j/\j≠kc/\j≠kr/\j≠km/\j≠js)->GF EI T.int h Fp.no scs (some js) sc->
  Runs (go (.pt kda kp3 [(1,tsl.v),(2,ls.v),(3,.p (.new kc 0)),(6,.p (.new kr 0)),(9,scs.v),(10,.p (.new km 0)),(26,.i c.trees),(27,.i (i:Int))]) h) (TrainP hE (trainS c ts labels k m sc).1 0):=by
 obtain⟨hc,aa,ai,ac,aj,aw⟩:=kn9 hf;have hd:=qbo hc;have hp:0<ts.length:=List.length_pos_iff.2 aa;have bc:ts.getD 0 Tb.no=ts[0]:=by simp[List.getD,hp]
 have hz:∀(p:Nat)(hp:p<ts.length),tabR ts[p]=true/\ts[p].ids.length=labels.length:=λp hp=>by
  obtain⟨a,b,_⟩:=krf ac hp;exact⟨a,by rw[b,aj]⟩
 have hL:labels.length<=256:=by
  rw[<- (hz 0 hp).2];have:=(hz 0 hp).1;unfold tabR idsR at this;simp at this;omega
 intro k
 induction k with
 | zero =>
  intro i hi m sc l x I S h hm hs M B Br Bm V C Vs;rw[kyq];refine qbc (qby (by omega)) ?_;refine qz (Bm.rd 0 rfl qcm) (qba Br rfl λh1 B1 u1=>?_);refine qz (B1.rd 0 rfl qcm) (qy ⟨l,rfl,?_,?_⟩)
  ·have nS:¬S kr:=λa=>(C kr (.inl a)).2.2.1 rfl;exact(V.upd u1 nS λk e=>(C k (.inr e)).2.2.1).sq.mono λ_ _=>trivial
  ·exact(M.next (u1.md (T:=λj=>j=kr) rfl) λj hj e=>by omega).grow λ_ _ a=>a
 | succ k ih =>
  intro i hi m sc l x I S h hm hs M B Br Bm V C Vs;rw[kyq];refine qbb (qbx (by omega)) ?_;obtain⟨h1,e1,F,V1⟩:=GF.mk (E:=EI) (elem:=T.int) (S:=Fp.no) (h:=h) (n:=labels.length) (bytes:=Pg.bytesOf T.int) (l:=(ls.len:Int)) (c:=(ls.len:Int)) (cs:=[.i 0]) (x:=(0:Int)) (λh'=>rfl) qbm (by rw[Q.len]) (by rw[Q.len]) (by rw[kll];omega) (by omega);refine qz e1 ?_;rw[Q.len];have zM:=M.size;have zB:=B.lt;have zr:=Br.lt;have zm:=Bm.lt;have zs:js<h.blks.size:=Vs.lt;have M1:=M.thenG F;have Qb:Sq EI h1 (λj=>SL j/\j<hE.blks.size) ls labels:=Q.bound.md M1 λj _ a=>a;have bd:Sq Ef.tb h1 (λj=>St j/\j<hE.blks.size) tsl ts:=Qt.bound.md M1 λj _ a=>a;refine k9j (jg:=h.blks.size) Qb (F.has B) (Vs.grow F) hs hL (λa=>by have:=a.2;omega) (by omega) (by omega) (λh2 X V2=>?_) labels.length 0 (by omega) (Md.refl _ _) (by simpa using V1);rw[k1f];refine qbc (qby (by omega)) ?_;have B2:=X.has (F.has B) (by omega);have ak:=X.has (F.has Br) (by omega);have Y:=X.has (F.has Bm) (by omega);have M2:Md Fp.no hE h2:=M1.next X λj hj e=>by omega
  refine qz (Y.rd 0 rfl qcm) ?_;refine rd8 B2 ?_;have al:GF EI T.int h2 Fp.no scs (some js) sc:=GF.md X (S:=Fp.no) (λj a _=>a) (Vs.grow F) λk e=>by cases e;omega
  have am:Sq Ef.tb h2 (λj=>St j/\j<hE.blks.size) tsl ts:=Qt.bound.md M2 λj _ a=>a;refine(k8g (z:=labels.length) (T0.md M2) hc V2.sq am al (λa=>a.elim (λe=>by cases e;omega) id) (λa=>by have:=a.2;omega) (kny _ _ _) hs hL ai hz).call λv h3 ⟨nd,jn,ev,be,Vn,an,Z⟩=>?_;subst ev;refine qz rfl (qbb rfl (qz (seenAt rfl qcm) ?_));refine qbe (Z.same Y U 0 1) ?_;refine q0 λK b4 H=>?_;have ad:=Z.has Y U;refine qbe (H.same ad 0 1) ?_;refine qz (kch (n:=1) b4 (by rw[k0d];rfl)) ?_;have bf:=F.size;have bg:=X.size;have bh:∀j,j=h.blks.size->¬(S j/\j<h.blks.size):=λj e a=>by have:=a.2;omega
  have V4:GF EM kbz K (λj=>S j/\j<h.blks.size) l I m:=by
   have ap:=GF.md X (λj a e=>by have:=a.2;omega) (V.bound.grow F) λk e x=>by
    subst e;have:=V.lt;have this:k<h.blks.size:=this;omega
   exact(GF.md Z (λj a e=>(C j (.inl a.1)).2.2.2.2 e) ap λk e x=>(C k (.inr e)).2.2.2.2 x).grow H
  obtain⟨s5,h5,e5,V5,u5⟩:=V4.push (P:=Pg) (T:=Fp.opt (some jn)) (cs:=[nd.v]) (x:=(growS c ts (gradS c sc labels) 64 [firstW labels.length] [Nd.no] sc).1) ⟨nd,rfl,(Vn.grow H).sq.mono λj a=>a.elim id False.elim⟩ (by
   cases I with
   | none=>trivial
   | some y =>
    intro e;cases e;have:=V.lt;have this:jn<h.blks.size:=this;omega) (ky9 (by omega))
  refine qz e5 (qz qcm ?_);have ax:∀y,I=some y->y<h.blks.size:=λy e=>by subst e;exact V.lt
  have A:Md (λj=>I=some j) K h5:=UpdO.md u5 λk e=>e;have z3:=Z.size;have z4:h3.blks.size<=K.blks.size:=H.size;have z5:=A.size;have B5:=A.has ((H.has (Z.has B2 ag))) (λe=>(C kc (.inr e)).2.1 rfl);have aq:=A.has ((H.has (Z.has ak ah))) (λe=>(C kr (.inr e)).2.2.1 rfl);have ar:=A.has ((H.has ad)) (λe=>(C km (.inr e)).2.2.2.1 rfl);have au:GF EI T.int h5 Fp.no scs (some js) (growS c ts (gradS c sc labels) 64 [firstW labels.length] [Nd.no] sc).2:=GF.md A (S:=Fp.no) (λj a _=>a) (an.grow H) λk e x=>by cases e;exact(C js (.inr x)).2.2.2.2 rfl
  refine qba ar rfl λh6 B6 u6=>?_;rw[kj (by omega)]
  have hF:∀j,(Fp.or (λj=>S j/\j<h.blks.size) (Fp.opt (some jn)) j/\j<K.blks.size)\/some K.blks.size=some j->hE.blks.size<=j/\j≠kc/\j≠kr/\j≠km/\j≠js:=by
   rintro j (⟨a | a,b⟩ | a)
   ·exact C j (.inl a.1)
   ·cases a;omega
   ·cases a;omega
  have nK:¬(Fp.or (λj=>S j/\j<h.blks.size) (Fp.opt (some jn)) km/\km<K.blks.size):=λa=>(hF km (.inl a)).2.2.2.1 rfl;have:=ih (i+1) (by omega) (m++[(growS c ts (gradS c sc labels) 64 [firstW labels.length] [Nd.no] sc).1]) (growS c ts (gradS c sc labels) 64 [firstW labels.length] [Nd.no] sc).2 s5 x (some K.blks.size) _ h6 (by simp[hm]) ?_ ?_ (B5.updr ae u6) (aq.updr af u6) B6 (V5.upd u6 nK λk e=>by cases e;omega) hF (au.upd u6 qbm λk e=>by cases e;exactλe=>U e.symm)
  ·exact this
  ·have:=krl c ts (gradS c sc labels) 64 [firstW labels.length] [Nd.no] sc;omega
  ·have M4:Md Fp.no hE K:=(M2.next Z λj hj e=>by omega).thenG H;exact(M4.next A λj hj e=>by have:=(C j (.inr e)).1;omega).next (u6.md (T:=λj=>j=km) rfl) λj hj e=>by omega
theorem k3c(T0:Tab hE)(Qt:Sq Ef.tb hE St tsl ts)(Q:Sq EI hE SL ls labels):Runs (go (.fn kda [.agg c.cells,tsl.v,ls.v]) hE) (TrainP hE (trainC c ts labels).1 (trainC c ts labels).2.2):=by
 show Runs (go (.fn kda [.agg [.i c.trees,.i c.depth,.i c.lambda,.i c.gamma,.i c.num,.i c.den,.i c.loss,.i c.clip],tsl.v,ls.v]) hE) _;rw[k7w];refine q0 λh1 b1 g1=>q0 λV b2 g2=>?_;have y:=g2.has b1;refine qz (y.rd 0 rfl qcn) (qz (y.rd 1 rfl qcn) (qz (y.rd 2 rfl qcn) (qz (y.rd 3 rfl qcn) (qz (y.rd 4 rfl qcn) (qz (y.rd 5 rfl qcn) (qz (y.rd 6 rfl qcn) (qz (y.rd 7 rfl qcn) ?_)))))));have I:=g1.trans g2;refine(kbdm (c:=c) (Qt.grow I) (Q.grow I)).call λv X ⟨ev,K⟩=>?_;subst ev;refine qz (seen qcn) ?_;have G3:=I.trans K;have z1:=g1.size;refine qbd (λa=>?_) λa=>?_
 ·have C:¬faultC c ts labels=0:=by
   intro e;rw[e]at a;simp at a
  refine qba (K.has b2) rfl λU b4 u4=>qz (b4.rd 0 rfl qcm) (qy ⟨⟨none,0,.is 0⟩,?_,?_,?_⟩)
  ·unfold trainC;rw[if_neg C]
  ·unfold trainC;rw[if_neg C];exact Sq.nil EM U Fp.all
  ·exact G3.updr (by omega) u4
 ·have C:faultC c ts labels=0:=by simpa using a
  have hh:=C;obtain⟨hc,F,ac,H,Y,aa⟩:=kn9 hh;have hp:0<ts.length:=List.length_pos_iff.2 F
  have hL:labels.length<=256:=by
   have Z:ts.getD 0 Tb.no=ts[0]:=by simp[List.getD,hp]
   rw[Y,Z];have:=(krf H hp).1;unfold tabR idsR at this;simp at this;omega
  have hd:=qbo hc;obtain⟨U,e4,g4,V4⟩:=GF.mk (E:=EI) (elem:=T.int) (S:=Fp.no) (h:=X) (n:=labels.length) (bytes:=Pg.bytesOf T.int) (l:=(ls.len:Int)) (c:=(ls.len:Int)) (cs:=[.i 0]) (x:=(0:Int)) (λh'=>rfl) qbm (by rw[Q.len]) (by rw[Q.len]) (by rw[kll];omega) (by omega);refine qz e4 ?_;refine q0 λh5 b5 g5=>?_;have A:Grow V h5:=(K.trans g4).trans g5;have G5:=I.trans A;refine qz ((A.has y).rd 0 rfl qcn) ?_;have z2:=b1.lt;have ad:=b2.lt;have z3:=K.size;have z4:X.blks.size<U.blks.size:=V4.lt;have ae:V.blks.size=V.blks.size:=rfl;unfold trainC;rw[if_pos C];exact k7f T0 C Qt Q (kc:=hE.blks.size) (kr:=h1.blks.size) (km:=U.blks.size) (js:=X.blks.size) (by omega) (by omega) (by omega) (by omega) (by omega) (by omega) (by omega) (by omega) (by omega) (by omega) c.trees.toNat 0 (by omega) [] (List.replicate labels.length 0) _ _ none Fp.no h5 rfl (by simp) (G5.md _) (A.has y) (A.has b2) b5 (GF.none EM kbz h5 Fp.no) (λj a=>by rcases a with a | a;exact a.elim;cases a) (V4.grow g5)
end
theorem kqu{h:AH}{cs:List AV}(a:ArgT Pg h kc1 cs):∃(s:Sl)(xs:List Int),cs=[s.v]/\Sq EI h Fp.no s xs:=k8v Fp.no k24 kgm kfd a
theorem k86{h:AH}{x:AV}(a:ArgV Pg h kui x):∃(s:Sl)(ts:List Tb),x=s.v/\Sq Ef.tb h Fp.no s ts:=by
 unfold ArgV at a;rw[k1j]at a
 obtain⟨s,xs,e,n⟩:=Sq.of_arg (E:=Ef.tb) (S:=Fp.no) k1j k27 (λes t=>by
  obtain⟨y,A⟩:=t.struct kbdd;rw[k27]at y
  match es,y with
  | [U,x1,x2],_ =>
   simp[k2k,kbea]at A;obtain⟨h0,h1,C⟩:=A;obtain⟨s1,xs,F,H⟩:=kqu h0;obtain⟨s2,ys,I,n1⟩:=kqu h1
   obtain⟨s3,zs,K,Q⟩:=Sq.of_arg (E:=Ef.seq EI) (S:=Fp.no) kbep k2k (λes t=>by
    obtain⟨s,l,e,n⟩:=kqu t;exact⟨l,s,e,n⟩) C
   cases F;cases I;cases K;exact⟨⟨xs,ys,zs⟩,s1,s2,s3,rfl,H,n1,Q⟩) a
 cases e;exact⟨s,xs,rfl,n⟩
theorem int_of{h:AH}{x:AV}(a:ArgV Pg h kc1 x):∃(s:Sl)(xs:List Int),x=s.v/\Sq EI h Fp.no s xs:=by
 unfold ArgV at a;rw[k24]at a;obtain⟨s,xs,e,n⟩:=kqu a;cases e;exact⟨s,xs,rfl,n⟩
theorem cfg_of{h:AH}{x:AV}(a:ArgV Pg h kbm x):∃c:Cfg,x=.agg c.cells:=by
 unfold ArgV at a;rw[k06]at a;obtain⟨cs,rfl,t⟩:=a;obtain⟨y,A⟩:=t.struct k06;rw[k7i]at y
 match cs,y with
 | [x0,x1,x2,x3,x4,x5,x6,x7],_ =>
  simp[kfd]at A;obtain⟨h0,h1,C,F,H,I,K,Q⟩:=A;obtain⟨U,V,_⟩:=h0.int kgm;obtain⟨X,Y,_⟩:=h1.int kgm;obtain⟨Z,e2,_⟩:=C.int kgm;obtain⟨y3,e3,_⟩:=F.int kgm;obtain⟨y4,e4,_⟩:=H.int kgm;obtain⟨y5,e5,_⟩:=I.int kgm;obtain⟨y6,e6,_⟩:=K.int kgm;obtain⟨y7,e7,_⟩:=Q.int kgm;cases V;cases Y;cases e2;cases e3;cases e4;cases e5;cases e6;cases e7;exact⟨⟨U,X,Z,y3,y4,y5,y6,y7⟩,rfl⟩
def awT:Tb:=⟨[0,1,2,3],[2],[[0,0,1,1]]⟩
def awC:Cfg:=⟨1,1,1,0,1,1,0,0⟩
def awM:List Nd:=[⟨false,0,0,0,0,1,2⟩,leafN 6,leafN (-7)]
theorem kw7:(trainC awC [awT] [10,10,-10,-10]).1=[awM]/\(trainC awC [awT] [10,10,-10,-10]).2.2=0:=by decide +kernel
theorem kq5{h:AH}{i:Nat}{xs:List Int}{e:TypeId}(b:h.has i (xs.map (AV.int .i64)) e)(y:xs.length<=9223372036854775807):Sq EI h (Fp.or (λj=>j=i) Fp.no) ⟨some (.new i 0),xs.length,.is xs.length⟩ xs:=by
 refine Sq.lit (rows:=xs.map λx=>[AV.int .i64 x]) (e:=e) ?_ ?_ rfl y
 ·have:(xs.map λx=>[AV.int .i64 x]).flatten=xs.map (AV.int .i64):=by
   clear b y
   induction xs with
   | nil=>rfl
   | cons x xs ih=>rw[List.map_cons,List.flatten_cons,ih];rfl
  rw[this];exact b
 ·clear b y
  induction xs with
  | nil=>exact .nil
  | cons x xs ih=>exact .cons rfl ih
section
variable{h0:AH}
theorem kbid(T0:Tab h0):Runs (go (.fn ktn []) h0) λv h'=>v=.bool true/\Grow h0 h':=by
 rw[kbfb];refine q0 λh1 b1 g1=>q0 λh2 b2 g2=>q0 λh3 b3 X=>q0 λh4 b4 U=>q0 λh5 b5 g5=>qba b5 rfl λh6 Y u6=>?_;have G6:Grow h4 h6:=g5.updr (qbp _) u6;refine qz (Y.rd 0 rfl qcm) (qz (Y.rd 1 rfl qcm) (qz (Y.rd 2 rfl qcm) ?_));refine q0 λh7 b7 g7=>q0 λC b8 g8=>?_;have y:=(G6.trans g7).trans g8;have I:Grow h0 C:=(((g1.trans g2).trans X).trans U).trans y;have q1:Sq EI C Fp.all ⟨some (.new h0.blks.size 0),4,.is 4⟩ [0,1,2,3]:=(kq5 (xs:=[0,1,2,3]) (((g2.trans X).trans U |>.trans y).has b1) (by decide)).mono λ_ _=>trivial;have q2:Sq EI C Fp.all ⟨some (.new h1.blks.size 0),1,.is 1⟩ [2]:=(kq5 (xs:=[2]) (((X.trans U).trans y).has b2) (by decide)).mono λ_ _=>trivial;have q3:Sq EI C Fp.all ⟨some (.new h2.blks.size 0),4,.is 4⟩ [0,0,1,1]:=(kq5 (xs:=[0,0,1,1]) ((U.trans y).has b3) (by decide)).mono λ_ _=>trivial;have q4:Sq (Ef.seq EI) C Fp.all ⟨some (.new h3.blks.size 0),1,.is 1⟩ [[0,0,1,1]]:=(Sq.lit (E:=Ef.seq EI) (rows:=[[Sl.v ⟨some (.new h2.blks.size 0),4,.is 4⟩]]) (y.has b4) (.cons ⟨_,rfl,q3⟩ .nil) rfl).mono λ_ _=>trivial;have q5:Sq Ef.tb C Fp.all ⟨some (.new h6.blks.size 0),1,.is 1⟩ [awT]:=(Sq.lit (E:=Ef.tb) (S:=Fp.all) (xs:=[awT]) (rows:=[[Sl.v ⟨some (.new h0.blks.size 0),4,.is 4⟩,Sl.v ⟨some (.new h1.blks.size 0),1,.is 1⟩,Sl.v ⟨some (.new h3.blks.size 0),1,.is 1⟩]]) (g8.has b7) (.cons ⟨_,_,_,rfl,q1,q2,q4⟩ .nil) rfl).mono λ_ _=>trivial;have Q:Sq EI C Fp.all ⟨some (.new h7.blks.size 0),4,.is 4⟩ [10,10,-10,-10]:=(kq5 (xs:=[10,10,-10,-10]) b8 (by decide)).mono λ_ _=>trivial;refine(k3c (c:=awC) (T0.grow I) q5 Q).call λv h9 ⟨s,e,V,g9⟩=>?_;subst e;rw[kw7.1]at V;rw[kw7.2];refine qz rfl (qz rfl (qbb rfl (qz (seenAt rfl qcm) (qz (seen qcn) ?_))));refine q0 λag Z aa=>qba Z rfl λK F ac=>?_;have A:Grow h9 K:=aa.updr (qbp _) ac;have V:=V.grow A;refine qbc rfl (qz (F.rd 0 rfl qcm) ?_);have ln:s.len=1:=V.len;rw[ln];refine qbc rfl (qz (F.rd 0 rfl qcm) ?_);obtain⟨r,s',e1,-,e2,H⟩:=V.sl (i:=0) (by decide);have H:Sq Ef.nd K Fp.all s' awM:=H;have ad:s'.len=3:=H.len;refine qz e1 (qz e2 ?_);rw[ad];refine qbc rfl (qz (F.rd 0 rfl qcm) (qz e1 (qz e2 ?_)));obtain⟨r0,a0,a1,-⟩:=H.nd (i:=0) (by decide);obtain⟨r1,b0,-,ae,-⟩:=H.nd (i:=1) (by decide);obtain⟨r2,c0,-,af,-⟩:=H.nd (i:=2) (by decide);refine qz a0 (qz a1 (qbb rfl (qz b0 (qz ae (qbb rfl (qz c0 (qz af (qy ⟨rfl,?_⟩))))))));exact(I.trans g9).trans A
end
end Go.Ab
set_option maxRecDepth 10000
namespace Go.Ab
open Go.Proofs Go.Num Go.Heap
section
variable{row:List (List Int)}{t:List Nd}{hE:AH}{S Sr:Fp}{tl rl ml:Sl}{kn kt:Nat}{s n z:Int}
end
section
variable{row:List (List Int)}{m:List (List Nd)}{hE:AH}{S Sr:Fp}{rl ml:Sl}
end
end Go.Ab
set_option maxRecDepth 10000
namespace Go.Ab
open Go.Proofs Go.Num Go.Heap
section
variable{h0:AH}{Sg Sx St:Fp}{gs x s1 s2 s3:Sl}{g:List Int}{R:List Nat}{t:Tb}
theorem kbiy(Q:Sq EI h0 Sg gs g)(X:Sq EI h0 Sx x (zs R))(V:∀i∈R,i<g.length)(hl:R.length<=100000){b1 b2:Nat}(F:h0.blks.size<=b1)(H:h0.blks.size<=b2)(Y:b1≠b2):∀(k i:Nat),i+k=R.length->∀(h:AH),Grow h0 h->h.has b1 [.i 0,.i 0] ks->h.has b2 [.i (sumG g (R.take i) 0),.i (R.length:Int)] ks->
  Runs (go (.pt kgz kqq [(0,gs.v),(1,x.v),(4,.p (.new b1 0)),(5,.p (.new b2 0)),(6,.i (i:Int))]) h) λv h'=>v=.agg [.i (sumR g R).1,.i (sumR g R).2]/\Grow h0 h':=by
 intro k
 induction k with
 | zero =>
  intro i hi h G B1 B2;obtain rfl:i=R.length:=by omega
  rw[List.take_length]at B2;rw[k32,X.len,zs_len];refine qbc (qby (by omega)) (qz (B2.rd 0 rfl qcn) (qz (B2.rd 1 rfl qcn) ?_));refine qba B1 rfl λh1 A C=>?_;exact qz (A.rd 0 rfl qcn) (qz (A.rd 1 rfl qcn) (qy ⟨rfl,G.updr F C⟩))
 | succ k ih =>
  intro i hi h G B1 B2;have y:i<R.length:=by omega
  have Z:i<(zs R).length:=by rw[zs_len];exact y
  obtain⟨r1,e1,K⟩:=(X.grow G).int Z;have ex:(zs R)[i]=((R[i]:Nat):Int):=by simp[zs]
  rw[ex]at K;have U:=V _ (qb2 y);obtain⟨r2,e3,e4⟩:=(Q.grow G).int U;rw[k32];refine qbb (qbx (by rw[X.len,zs_len];omega)) (qz (B2.rd 0 rfl qcn) (qz e1 (qz K (qz e3 (qz e4 ?_)))));refine Runs.putAt (o:=0) B2 (by simp) rfl λh1 A C=>?_;rw[kj (i:=i) (by omega)];have I:g.getD R[i] 0=g[R[i]]:=by simp[List.getD,U]
  refine ih (i+1) (by omega) h1 (G.updr H C) (B1.updr Y C) ?_;rw[qcg y,k2s,I]
  simpa using A
theorem kzs(Q:Sq EI h0 Sg gs g)(X:Sq EI h0 Sx x (zs R))(F:∀i∈R,i<g.length)(H:R.length<=100000):Runs (go (.fn kgz [gs.v,x.v]) h0) λv h'=>v=.agg [.i (sumR g R).1,.i (sumR g R).2]/\Grow h0 h':=by
 rw[k69];refine q0 λh1 b1 I=>q0 λK b2 A=>qba b2 rfl λC b3 y=>?_;have G:=I.trans (A.updr (qbp _) y);have U:=b1.lt;have V:=y.size;have B1:C.has h0.blks.size [.i 0,.i 0] ks:=(A.has b1).updr (by omega) y;rw[X.len,zs_len]at b3;exact kbiy Q X F H (b1:=h0.blks.size) (b2:=h1.blks.size) (qbp _) (by omega) (by omega) R.length 0 (by omega) C G B1 b3
theorem kbjv(q:TabAt h0 St s1 s2 s3 t){f:Nat}{c:Int}(K:f<t.cols.length)(hR:∀i∈R,i<(t.cols[f]).length)(hl:R.length<=100000)(X:Sq EI h0 Sx x (zs R)){b:Bool}{bt:Nat}(B:h0.has bt [s1.v,s2.v,s3.v] kca) :
  ∀(k i:Nat),i+k=R.length->∀(h:AH)(l:Sl)(j:Option Nat),Grow h0 h->LeO h0.blks.size j->GF EI T.int h Fp.no l j (zs ((R.take i).filter λi=>leftP t f c i==b))->
  Runs (go (.pt ke8 kmn [(1,.i (f:Int)),(2,.i c),(3,x.v),(4,.bool b),(5,.p (.new bt 0)),(11,l.v),(12,.i (i:Int))]) h) λv h'=>Grow h0 h'/\∃(y:Sl)(j:Option Nat),v=y.v/\LeO h0.blks.size j/\GF EI T.int h' Fp.no y j (zs (R.filter λi=>leftP t f c i==b)):=by
 intro k
 induction k with
 | zero =>
  intro i hi h l j G C V;obtain rfl:i=R.length:=by omega
  rw[List.take_length]at V;rw[k0f,X.len,zs_len];exact qbc (qby (by omega)) (qy ⟨G,l,j,rfl,C,V⟩)
 | succ k ih =>
  intro i hi h l j G C V;have A:i<R.length:=by omega
  have hz:i<(zs R).length:=by rw[zs_len];exact A
  obtain⟨r1,Q,F⟩:=(X.grow G).int hz;have ex:(zs R)[i]=((R[i]:Nat):Int):=by simp[zs]
  rw[ex]at F;have U:=hR _ (qb2 A);obtain⟨r,s',e3,e4,-,n'⟩:=(q.cols.grow G).sl K;obtain⟨r2,e5,e6⟩:=n'.int U;rw[k0f];refine qbb (qbx (by rw[X.len,zs_len];omega)) (qz ((G.has B).rd 2 rfl qcm) (qz e3 (qz e4 (qz Q (qz F (qz e5 (qz e6 ?_)))))))
  have H:leftP t f c R[i]=decide ((t.cols[f])[R[i]]<=c):=by
   unfold leftP;simp[List.getD,K,U]
  rw[<- H];refine qbd (λa=>?_) λa=>?_
  ·refine qz Q (qz F (q0 λh2 b2 I=>?_));refine qz (kch b2 (by rw[kfd];rfl)) ?_
   have Y:(zs ((R.take i).filter λi=>leftP t f c i==b)).length<=i:=by
    rw[zs_len];exact qbq (List.length_filter_le _ _) (by simp;omega)
   obtain⟨t',Z,e7,V3,u3⟩:=(V.grow I).push (T:=Fp.no) (cs:=[.i (R[i]:Int)]) (x:=(R[i]:Int)) rfl qbn (kmx (by omega));refine qz e7 (qz qcm ?_);rw[kj (by omega)];have g3:Grow h0 Z:=(G.trans I).updo C u3;refine ih (i+1) (by omega) Z t' (some h2.blks.size) g3 (show _<=_ from(G.trans I).size) ?_
   have:zs ((R.take (i+1)).filter λi=>leftP t f c i==b)=zs ((R.take i).filter λi=>leftP t f c i==b)++[(R[i]:Int)]:=by
    rw[qcg A,List.filter_append,zs_app];simp[a,zs]
   rw[this];exact V3.mono (λj x=>x.1.elim id id) qbn
  ·rw[kj (by omega)];refine ih (i+1) (by omega) h l j G C ?_
   have:(R.take (i+1)).filter (λi=>leftP t f c i==b)=(R.take i).filter λi=>leftP t f c i==b:=by
    rw[qcg A,List.filter_append];simp[a]
   rw[this];exact V
theorem kth(q:TabAt h0 St s1 s2 s3 t){f:Nat}{c:Int}(C:f<t.cols.length)(F:∀i∈R,i<(t.cols[f]).length)(H:R.length<=100000)(X:Sq EI h0 Sx x (zs R))(b:Bool) :
  Runs (go (.fn ke8 [.agg [s1.v,s2.v,s3.v],.i (f:Int),.i c,x.v,.bool b]) h0) λv h'=>Grow h0 h'/\∃(y:Sl)(j:Option Nat),v=y.v/\LeO h0.blks.size j/\GF EI T.int h' Fp.no y j (zs (R.filter λi=>leftP t f c i==b)):=by
 rw[kbeh];refine q0 λh1 b1 A=>?_;refine(kbjv (q.grow A) C F H (X.grow A) b1 R.length 0 (by omega) h1 _ none (ql _) trivial (GF.none EI T.int h1 Fp.no)).imp λv h' ⟨G,y,j,e,I,V⟩=>⟨A.trans G,y,j,e,?_,V⟩;cases j with
 | none=>trivial
 | some k=>exact qbq A.size I
end
def nd0(x:Spl):Nd:=⟨false,0,(x.1:Int),(x.2.1:Int),(x.2.2:Int),0,0⟩
theorem kxa{α:Type}(p:α->Bool)(l:List α):(l.filter λi=>p i==true)=l.filter p:=by simp
theorem kbb7{α:Type}(p:α->Bool)(l:List α):(l.filter λi=>p i==false)=l.filter λi=>!p i:=by simp
structure SplR(h0:AH)(ts:List Tb)(g:List Int)(R:List Nat)(D:List Spl)(l:Sl)(jl:Option Nat)(s:Sl)(js:Option Nat)(h:AH):Prop where
 grow:Grow h0 h
 ll:LeO h0.blks.size jl
 ls:LeO h0.blks.size js
 ne:∀k,jl=some k->js≠some k
 spl:GF Ef.nd kbn h Fp.no l jl (D.map nd0)
 sum:GF EP ks h Fp.no s js (D.map λx=>sumR g (R.filter (leftS ts x)))
section
variable{h0:AH}{Sg Sx St:Fp}{gs tsl x:Sl}{g:List Int}{R:List Nat}{z:Nat}{ts:List Tb}
theorem kba0(Q:Sq EI h0 Sg gs g)(X:Sq EI h0 Sx x (zs R))(hz:z<=g.length)(az:z<=256)(Y:∀i∈R,i<z)(ae:R.length<=100000)(Qt:Sq Ef.tb h0 St tsl ts){p:Nat}(hp:p<ts.length)(hR:tabR ts[p]=true)(af:ts[p].ids.length=z){f:Nat}(hf:f<ts[p].cols.length){D0:List Spl}(a0:D0.length<=16*512){P:AV->AH->Prop}
  (hP:∀h l jl s js,SplR h0 ts g R (D0++(cutsTo ts[p] (f+1)).map λx=>(p,x.1,x.2)) l jl s js h->Runs (go (.pt kcs knq [(0,tsl.v),(1,gs.v),(2,x.v),(8,l.v),(9,s.v),(10,.i (p:Int)),(11,.i ((f+1:Nat):Int))]) h) P) :
  ∀(k c:Nat),c+k=nb ts[p] f->∀h l jl s js,SplR h0 ts g R (D0++(cutsTo ts[p] f++(List.range c).map λc=>(f,c)).map λx=>(p,x.1,x.2)) l jl s js h->
  Runs (go (.pt kcs kp7 [(0,tsl.v),(1,gs.v),(2,x.v),(8,l.v),(9,s.v),(10,.i (p:Int)),(11,.i (f:Int)),(12,.i (c:Int))]) h) P:=by
 obtain⟨ar,ag,C,K⟩:=kh2 hR;obtain⟨hb,ba,au,ah⟩:=kha (K f hf) hf C;have Z:ts[p].bins.getD f 0=ts[p].bins[f]:=by simp[List.getD,hb]
 have bb:(nb ts[p] f:Int)=ts[p].bins[f]-1:=by
  unfold nb;rw[Z];omega
 have ai:ts.getD p Tb.no=ts[p]:=by simp[List.getD,hp]
 have aw:(cutsTo ts[p] f).length<=31*f:=kqh ts[p] f λi hi=>by
  obtain⟨aj,bc,ax,-⟩:=kha (K i (by omega)) (by omega) C;have:ts[p].bins.getD i 0=ts[p].bins[i]:=by simp[List.getD,aj]
  unfold nb;rw[this];omega
 intro k
 induction k with
 | zero =>
  intro c hc h l jl s js I;obtain rfl:c=nb ts[p] f:=by omega
  rw[<- ktj]at I;obtain⟨r,s1,s2,s3,e1,F,e3,e4,qt⟩:=(Qt.grow I.grow).tb hp;obtain⟨r2,e5,e6⟩:=qt.bins.int hb;rw[k3u];refine qz e1 (qz e3 (qz e5 (qz e6 ?_)));rw[wrap64 (by omega) (by omega)];refine qbc (qby (by omega)) ?_;rw[kj (by omega)];exact hP h l jl s js I
 | succ k ih =>
  intro c hc h l jl s js I;have bd:(c:Int)<ts[p].bins.getD f 0:=by rw[Z];omega
  obtain⟨G,ll,ls,ak,V,W⟩:=I;have be:=V.lt;have lts:=W.lt;have bf:=G.size
  have bg:(D0++(cutsTo ts[p] f++(List.range c).map λc=>(f,c)).map λx=>(p,x.1,x.2)).length<=20000:=by
   simp only[qbz,qb0,qcj];omega
  obtain⟨r,s1,s2,s3,e1,F,e3,e4,qt⟩:=(Qt.grow G).tb hp;obtain⟨r2,e5,e6⟩:=qt.bins.int hb;rw[k3u];refine qz e1 (qz e3 (qz e5 (qz e6 ?_)));rw[wrap64 (by omega) (by omega)];refine qbb (qbx (by omega)) (q0 λh6 b6 g6=>?_);refine qz (kch b6 (by rw[krx];rfl)) ?_;have z6:=g6.size;obtain⟨l',h7,e7,V7,u7⟩:=(V.grow g6).push (T:=Fp.no) (show Ef.nd.has h6 Fp.no (nd0 (p,f,c)).cells (nd0 (p,f,c))from rfl) qbn (kr2 (by rw[qb0];omega));refine qz e7 (qz qcm ?_);have m7:Md (Fp.opt jl) h6 h7:=u7.md λk e=>e;have G7:Grow h0 h7:=(G.trans g6).updo ll u7;obtain⟨r,s1,s2,s3,e1,F,e3,e4,qt⟩:=(Qt.grow G7).tb hp;refine qz e1 (qz F (qz e3 (qz e4 ?_)));refine(kth qt hf (λi hi=>by rw[ah,af];exact Y i hi) ae (X.grow G7) true).call λv h8 ⟨g8,y,jy,e,ly,Vy⟩=>?_;subst e;rw[kxa]at Vy;refine qz (seen qcm) ?_;have ay:(R.filter (leftP ts[p] f (c:Int))).length<=R.length:=List.length_filter_le _ _;refine(kzs (Q.grow (G7.trans g8)) Vy.sq (λi hi=>by have:=Y i (List.mem_filter.1 hi).1;omega) (by omega)).call λv h9 ⟨e,g9⟩=>?_;subst e;refine qz rfl (qbb rfl (qz rfl (qz rfl (q0 λH aa al=>?_))));refine qz (kch aa (by rw[kvv];rfl)) ?_;have A:=(g8.trans g9).trans al;have W7:GF EP ks h7 Fp.no s js _:=GF.md m7 (λj a _=>a) (W.grow g6) λk e F=>ak k F e;obtain⟨s',U,am,an,ac⟩:=(W7.grow A).push (T:=Fp.no) (EP.of _ _) qbn (kxr (by rw[qb0];omega));refine qz am (qz qcm ?_);have ap:Md (Fp.opt js) H U:=ac.md λk e=>e;rw[kj (by omega)];have z7:=m7.size;have bh:=A.size;have bi:=(g8.trans g9).size;have v7:h6.blks.size<h7.blks.size:=V7.lt
  have ad:(D0++(cutsTo ts[p] f++(List.range (c+1)).map λc=>(f,c)).map λx=>(p,x.1,x.2))=(D0++(cutsTo ts[p] f++(List.range c).map λc=>(f,c)).map λx=>(p,x.1,x.2))++[(p,f,c)]:=by
   rw[List.range_succ];simp
  refine ih (c+1) (by omega) U l' (some h6.blks.size) s' (some H.blks.size) ?_;rw[ad];have zb:h9.blks.size<H.blks.size:=aa.lt;refine⟨(G7.trans A).updo ls ac,show _<=_ by omega,show _<=_ by omega,λk e F=>by injection e with e;injection F with F;omega,?_,?_⟩
  ·rw[List.map_append];have aq:GF Ef.nd kbn h7 Fp.no l' (some h6.blks.size) _:=V7.mono (λj x=>x.1.elim id id) qbn;exact GF.md ap (S:=Fp.no) (λm a e=>a) (aq.grow A) λk e F=>by cases e;have:=opt_lt lts F;omega
  ·rw[List.map_append]
   have hl:leftS ts (p,f,c)=leftP ts[p] f (c:Int):=by
    funext i;unfold leftS;rw[ai]
   have W:=an.mono (T:=Fp.no) (λj x=>x.1.elim id id) qbn;show GF EP ks U Fp.no s' (some H.blks.size) (_++[sumR g (R.filter (leftS ts (p,f,c)))]);rw[hl];exact W
theorem kbjy(Q:Sq EI h0 Sg gs g)(X:Sq EI h0 Sx x (zs R))(hz:z<=g.length)(y:z<=256)(A:∀i∈R,i<z)(C:R.length<=100000)(F:Sq Ef.tb h0 St tsl ts){p:Nat}(H:p<ts.length)(ac:ts.length<=16)(hR:tabR ts[p]=true)(K:ts[p].ids.length=z){D0:List Spl}(U:D0.length<=16*512){P:AV->AH->Prop}
  (hP:∀h l jl s js,SplR h0 ts g R (D0++kia p ts[p]) l jl s js h->Runs (go (.pt kcs kma [(0,tsl.v),(1,gs.v),(2,x.v),(8,l.v),(9,s.v),(10,.i ((p+1:Nat):Int))]) h) P) :
  ∀(k f:Nat),f+k=ts[p].cols.length->∀h l jl s js,SplR h0 ts g R (D0++(cutsTo ts[p] f).map λx=>(p,x.1,x.2)) l jl s js h->
  Runs (go (.pt kcs knq [(0,tsl.v),(1,gs.v),(2,x.v),(8,l.v),(9,s.v),(10,.i (p:Int)),(11,.i (f:Int))]) h) P:=by
 obtain⟨ad,V,Y,ae⟩:=kh2 hR;intro k
 induction k with
 | zero =>
  intro f hf h l jl s js I;obtain rfl:f=ts[p].cols.length:=by omega
  obtain⟨r,s1,s2,s3,Z,e2,e3,e4,qt⟩:=(F.grow I.grow).tb H;rw[k09];refine qz Z (qz e4 ?_);rw[qt.cols.len];refine qbc (qby (by omega)) ?_;rw[kj (by omega)];exact hP h l jl s js I
 | succ k ih =>
  intro f hf h l jl s js I;have aa:f<ts[p].cols.length:=by omega
  obtain⟨r,s1,s2,s3,Z,e2,e3,e4,qt⟩:=(F.grow I.grow).tb H;rw[k09];refine qz Z (qz e4 ?_);rw[qt.cols.len];refine qbb (qbx (by omega)) ?_;exact kba0 Q X hz y A C F H hR K aa U (λh l jl s js I=>ih (f+1) (by omega) h l jl s js I) (nb ts[p] f) 0 (by omega) h l jl s js (by simpa using I)
theorem kbcf(Q:Sq EI h0 Sg gs g)(X:Sq EI h0 Sx x (zs R))(hz:z<=g.length)(H:z<=256)(K:∀i∈R,i<z)(U:R.length<=100000)(V:Sq Ef.tb h0 St tsl ts)(A:ts.length<=16)(C:∀(p:Nat)(F:p<ts.length),tabR ts[p]=true/\ts[p].ids.length=z) :
  ∀(k p:Nat),p+k=ts.length->∀h l jl s js,SplR h0 ts g R (kdz ts p) l jl s js h->
  Runs (go (.pt kcs kma [(0,tsl.v),(1,gs.v),(2,x.v),(8,l.v),(9,s.v),(10,.i (p:Int))]) h) λv h'=>∃l jl s js,v=.tup [l.v,s.v]/\SplR h0 ts g R (kbt ts) l jl s js h':=by
 intro k
 induction k with
 | zero =>
  intro p F h l jl s js I;obtain rfl:p=ts.length:=by omega
  rw[k01,V.len];exact qbc (qby (by omega)) (qy ⟨l,jl,s,js,rfl,I⟩)
 | succ k ih =>
  intro p F h l jl s js I;have y:p<ts.length:=by omega
  obtain⟨hR,Y⟩:=C p y;rw[k01,V.len];refine qbb (qbx (by omega)) ?_;have Z:ts.getD p Tb.no=ts[p]:=by simp[List.getD,y]
  have aa:=kvc (λp F=>(C p F).1) p (by omega);refine kbjy Q X hz H K U V y A hR Y (D0:=kdz ts p) (by omega) (λh l jl s js I=>?_) ts[p].cols.length 0 (by omega) h l jl s js (by simpa[cutsTo]using I);refine ih (p+1) (by omega) h l jl s js ?_;rw[ksa,Z];exact I
theorem kbhu(Q:Sq EI h0 Sg gs g)(X:Sq EI h0 Sx x (zs R))(I:z<=g.length)(A:z<=256)(C:∀i∈R,i<z)(F:R.length<=100000)(K:Sq Ef.tb h0 St tsl ts)(y:ts.length<=16)(H:∀(p:Nat)(U:p<ts.length),tabR ts[p]=true/\ts[p].ids.length=z) :
  Runs (go (.fn kcs [tsl.v,gs.v,x.v]) h0) λv h'=>∃l jl s js,v=.tup [l.v,s.v]/\SplR h0 ts g R (kbt ts) l jl s js h':=by
 rw[k9k];refine kbcf Q X I A C F K y H ts.length 0 (by omega) h0 _ none _ none ⟨ql _,trivial,trivial,(λk e=>by cases e),?_,?_⟩
 ·exact GF.none Ef.nd kbn h0 Fp.no
 ·exact GF.none EP ks h0 Fp.no
end
end Go.Ab
set_option maxRecDepth 10000
namespace Go.Ab
open Go.Proofs Go.Num Go.Heap
theorem k6v{n:Nat}(h:n<=1000000):growOk Pg n kfc 2=true:=by
 unfold growOk;rw[kbcw,kblk];have h1:n*32<=kx:=by simp only[kx];omega
 have y:n*2<=kx:=by simp only[kx];omega
 have A:n<=kx:=by simp only[kx];omega
 simp[h1,y,A]
theorem Grow.sameR{h h':AH}(g:Grow h h'){r:Ref}{A:Type}{f:AV->Option A}{x:A}(e:(h.cell r).bind f=some x):SameAt h h' r 1:=by
 obtain⟨v,y,_⟩:=qbu.1 e;refine⟨λj C=>?_,λe=>by omega⟩;have:j=0:=by omega
 subst this;rw[Ref.add_zero,y,g.cell_some y]
@[reducible] def Ef.wg:Ef (List Nat×Nat) where
 w:=2
 pos:=by decide
 has h S cs x:=∃y:Sl,cs=[y.v,.i (x.2:Int)]/\Sq EI h S y (zs x.1)
 len:=λ⟨_,e,_⟩=>by rw[e];rfl
 grow g:=λ⟨a,e,n⟩=>⟨a,e,n.grow g⟩
 mono f:=λ⟨a,e,n⟩=>⟨a,e,n.mono f⟩
 upd no u:=λ⟨a,e,n⟩=>⟨a,e,n.upd no u⟩
 bound:=λ⟨a,e,n⟩=>⟨a,e,n.bound⟩
theorem Sq.wg{h:AH}{S:Fp}{s:Sl}{xs:List (List Nat×Nat)}(n:Sq Ef.wg h S s xs){i:Nat}(hi:i<xs.length):∃(r:Ref)(y:Sl),idx s.ref s.len (i:Int) 2=some r/\(h.cell (r.add 0)).bind AV.asSl=some y/\(h.cell (r.add 1)).bind (AV.asInt .i64)=some ((xs[i].2:Nat):Int)/\Sq EI h S y (zs xs[i].1):=by
 obtain⟨r,cs,A,⟨y,rfl,t⟩,l⟩:=n.at (kii hi);rw[n.len];exact⟨r,y,A,l.rd (ql _) 0 rfl qcm,l.rd (ql _) 1 rfl qcn,t⟩
structure RgAt(c:Cfg)(hE:AH)(scs:Sl)(js kc kr:Nat)(nd ws:Sl)(jn jw:Nat)(S:Fp)(nodes:List Nd)(L:List (List Nat×Nat))(sc:List Int)(h:AH):Prop where
 md:Md (λj=>j=js) hE h
 cfg:h.has kc c.cells kbm
 res:∃x:Sl,h.has kr [x.v] kbz
 nds:GF Ef.nd kbn h Fp.no nd (some jn) nodes
 wts:GF Ef.wg kfc h S ws (some jw) L
 sco:GF EI T.int h Fp.no scs (some js) sc
 fS:∀m,S m->hE.blks.size<=m/\m≠kc/\m≠kr/\m≠jn
 ge:hE.blks.size<=kc/\hE.blks.size<=kr/\hE.blks.size<=jn/\hE.blks.size<=jw
 ne:kc≠kr/\kc≠jn/\kc≠jw/\kr≠jn/\kr≠jw/\jn≠jw
section
variable{c:Cfg}{hE:AH}{scs gs tsl nd ws x:Sl}{js kc kr jn jw:Nat}{S Sx St Sg:Fp}{nodes:List Nd}{L:List (List Nat×Nat)}{sc g:List Int}{ts:List Tb}{h:AH}{R:List Nat}
theorem RgAt.grow(A:RgAt c hE scs js kc kr nd ws jn jw S nodes L sc h){h':AH}(g:Grow h h'):RgAt c hE scs js kc kr nd ws jn jw S nodes L sc h':=by
 obtain⟨md,cfg,⟨y,res⟩,nds,wts,sco,fS,ge,ne⟩:=A;exact⟨md.thenG g,g.has cfg,⟨y,g.has res⟩,nds.grow g,wts.grow g,sco.grow g,fS,ge,ne⟩
theorem kbe1(w:Int)(l:List Nat)(i:Nat)(sc:List Int):addS w (l++[i]) sc=(addS w l sc).set i (IntKind.wrap .i64 ((addS w l sc).getD i 0+w)):=by
 unfold addS;rw[List.foldl_append,List.foldl_cons,List.foldl_nil]
theorem k76{w Z:Int}{C:AH}(hR:∀i∈R,i<sc.length)(hl:R.length<=100000)(X:Sq EI C Sx x (zs R))(nx:¬Sx js){P:AV->AH->Prop}
  (H:∀h',Md (λj=>j=js) C h'->GF EI T.int h' Fp.no scs (some js) (addS w R sc)->Runs (go (.pt kbq kfn [(1,tsl.v),(2,gs.v),(3,scs.v),(4,.p (.new kc 0)),(8,.p (.new kr 0)),(11,nd.v),(12,ws.v),(13,.i (IntKind.wrap .i64 (Z+1)))]) h') P) :
  ∀(k i:Nat),i+k=R.length->∀(h:AH),Md (λj=>j=js) C h->GF EI T.int h Fp.no scs (some js) (addS w (R.take i) sc)->
  Runs (go (.pt kbq kow [(1,tsl.v),(2,gs.v),(3,scs.v),(4,.p (.new kc 0)),(8,.p (.new kr 0)),(11,nd.v),(12,ws.v),(13,.i Z),(14,x.v),(20,.i w),(22,.i (i:Int))]) h) P:=by
 intro k
 induction k with
 | zero =>
  intro i hi h M V;obtain rfl:i=R.length:=by omega
  rw[List.take_length]at V;rw[kvs,X.len,zs_len];exact qbc (qby (by omega)) (H h M V)
 | succ k ih =>
  intro i hi h M V;have y:i<R.length:=by omega
  have hz:i<(zs R).length:=by rw[zs_len];exact y
  obtain⟨r1,e1,F⟩:=(X.md M λj a e=>nx (e▸a)).int hz;have ex:(zs R)[i]=((R[i]:Nat):Int):=by simp[zs]
  rw[ex]at F;have I:(addS w (R.take i) sc).length=sc.length:=kno _ _ _;have K:R[i]<(addS w (R.take i) sc).length:=by rw[I];exact hR _ (qb2 y)
  have ln:scs.len=(addS w (R.take i) sc).length:=V.len;obtain⟨r2,Q,e4⟩:=V.sq.int K;rw[kvs];refine qbb (qbx (by rw[X.len,zs_len];omega)) (qz e1 (qz F (qz e1 (qz F (qz Q (qz e4 (qz Q ?_)))))));have U:(addS w (R.take i) sc).getD R[i] 0=(addS w (R.take i) sc)[R[i]]:=by simp[List.getD,K]
  obtain⟨r3,h1,A,p5,V5,Y⟩:=V.set (T:=Fp.no) (x:=IntKind.wrap .i64 ((addS w (R.take i) sc)[R[i]]+w)) (show EI.has h Fp.no [.i (IntKind.wrap .i64 ((addS w (R.take i) sc)[R[i]]+w))] _ from rfl) qbm (kbi K);have A:idx scs.ref (addS w (R.take i) sc).length ((R[i]:Nat):Int) 1=some r3:=A;rw[<- ln,Q]at A;cases A;refine qz p5 ?_;rw[kj (by omega)];have Y:Upd h h1 js:=Y;refine ih (i+1) (by omega) h1 (M.trans (Y.md rfl)) ?_;rw[qcg y,kbe1,U];exact V5.mono (λj x=>x.elim id id) qbm
theorem RgAt.setn(A:RgAt c hE scs js kc kr nd ws jn jw S nodes L sc h)(Y:js<hE.blks.size){i:Nat}(hi:i<nodes.length)(y:Nd):∃(r:Ref)(h':AH),idx nd.ref nd.len (i:Int) 7=some r/\h.puts r y.cells=some h'/\Upd h h' jn/\RgAt c hE scs js kc kr nd ws jn jw S (nodes.set i y) L sc h':=by
 obtain⟨md,cfg,⟨z,res⟩,nds,wts,sco,fS,ge,ne⟩:=A;obtain⟨n1,U,Z,V,n5,X⟩:=ne;obtain⟨H,I,K,Q⟩:=ge;obtain⟨r,h1,F,p1,V1,C⟩:=nds.set (T:=Fp.no) (x:=y) (show Ef.nd.has h Fp.no y.cells y from rfl) qbm (kbi hi);have C:Upd h h1 jn:=C;have F:idx nd.ref nodes.length (i:Int) 7=some r:=F;rw[<- nds.len]at F;refine⟨r,h1,F,p1,C,md.next (C.md (T:=λj=>j=jn) rfl) (λj hj e=>by omega),cfg.updr U C,⟨z,res.updr V C⟩,V1.mono (λj x=>x.elim id id) qbm,wts.upd C (λa=>(fS _ a).2.2.2 rfl) (λk e=>by cases e;exactλe=>X e.symm),sco.upd C qbm (λk e=>by cases e;omega),fS,⟨H,I,K,Q⟩,⟨n1,U,Z,V,n5,X⟩⟩
theorem kbce(c:Cfg)(s:Int×Int){h:AH}:Runs (go (.fn kmf [.agg [.i c.trees,.i c.depth,.i c.lambda,.i c.gamma,.i c.num,.i c.den,.i c.loss,.i c.clip],.agg [.i s.1,.i s.2]]) h) λv h'=>(∃e:Int,v=.tup [.i (kdk c s),.i e])/\Grow h h' :=
 (kbax c.trees c.depth c.lambda c.gamma c.num c.den c.loss c.clip s.1 s.2).imp λv h' ⟨e,g⟩=>⟨⟨_,e⟩,g⟩
theorem kbg1(A:RgAt c hE scs js kc kr nd ws jn jw S nodes L sc h)(I:js<hE.blks.size){i:Nat}(hi:i<nodes.length){y:Nat}{sm:Int×Int}(F:h.has y [.i sm.1,.i sm.2] ks)(X:Sq EI h Sx x (zs R))(Y:¬Sx js)(Z:¬Sx jn)(hR:∀i∈R,i<sc.length)(hl:R.length<=100000){bs l:Sl}(hb:bs.len=0){P:AV->AH->Prop}
  (H:∀h',RgAt c hE scs js kc kr nd ws jn jw S (nodes.set i (leafN (kdk c sm))) L (addS (kdk c sm) R sc) h'->Runs (go (.pt kbq kfn [(1,tsl.v),(2,gs.v),(3,scs.v),(4,.p (.new kc 0)),(8,.p (.new kr 0)),(11,nd.v),(12,ws.v),(13,.i (IntKind.wrap .i64 ((i:Int)+1)))]) h') P) :
  Runs (go (.pt kbq kj7 [(1,tsl.v),(2,gs.v),(3,scs.v),(4,.p (.new kc 0)),(8,.p (.new kr 0)),(11,nd.v),(12,ws.v),(13,.i (i:Int)),(14,x.v),(15,.p (.new y 0)),(16,bs.v),(17,l.v)]) h) P:=by
 rw[kxq,hb];have C:=A.cfg;refine qbb rfl ?_;refine rd8 C (qz (F.rd 0 rfl qcn) (qz (F.rd 1 rfl qcn) ?_));refine(kbce c sm).call λv h1 ⟨⟨e,he⟩,K⟩=>?_;subst he;refine qz rfl (qz (seen qcn) (qz (seen qcn) ?_));dsimp only;obtain⟨r,Q,e1,p2,u2,U⟩:=(A.grow K).setn I hi (leafN (kdk c sm));refine qz e1 (qz p2 ?_);have X2:Sq EI Q Sx x (zs R):=(X.grow K).upd Z u2;refine k76 hR hl X2 Y (λh' m V=>H h' ?_) R.length 0 (by omega) Q (Md.refl _ _) U.sco;obtain⟨md,cfg,⟨z,res⟩,nds,wts,sco,fS,ge,ne⟩:=U;exact⟨md.trans m,m.has cfg (by omega),⟨z,m.has res (by omega)⟩,GF.md m (S:=Fp.no) (λj a _=>a) nds (λk e=>by cases e;omega),GF.md m (λj a e=>by have:=(fS j a).1;omega) wts (λk e=>by cases e;omega),V,fS,ge,ne⟩
end
theorem Grow.rdR{h h':AH}(g:Grow h h'){r:Ref}{A:Type}{f:AV->Option A}{x:A}(e:(h.cell r).bind f=some x):(h'.cell r).bind f=some x:=by
 obtain⟨v,y,C⟩:=qbu.1 e;rw[g.cell_some y];exact C
theorem kbb3{ts:List Tb}{s:Spl}(h:s∈kbt ts):∃y:s.1<ts.length,s.2.1<(ts[s.1]).cols.length:=by
 unfold kbt kdz at h;rw[List.mem_flatMap]at h;obtain⟨p,y,h⟩:=h;rw[qck]at y;have C:ts.getD p Tb.no=ts[p]:=by simp[List.getD,y]
 unfold kia at h;rw[C,List.mem_map]at h;obtain⟨⟨f,c⟩,h,e⟩:=h;unfold cutsTo at h;rw[List.mem_flatMap]at h;obtain⟨F,A,h⟩:=h;rw[qck]at A;rw[List.mem_map]at h;obtain⟨H,I,h⟩:=h;injection h with h1 K;subst h1;subst e;exact⟨y,A⟩
section
variable{c:Cfg}{hE:AH}{scs gs tsl nd ws x:Sl}{js kc kr jn jw:Nat}{S Sx St Sg:Fp}{nodes:List Nd}{L:List (List Nat×Nat)}{sc g:List Int}{ts:List Tb}{h:AH}{R:List Nat}
theorem RgAt.lts(A:RgAt c hE scs js kc kr nd ws jn jw S nodes L sc h):kc<h.blks.size/\kr<h.blks.size/\jn<h.blks.size/\jw<h.blks.size/\js<h.blks.size/\hE.blks.size<=h.blks.size:=by
 obtain⟨md,cfg,⟨z,res⟩,nds,wts,sco,fS,ge,ne⟩:=A;exact⟨cfg.lt,res.lt,nds.lt,wts.lt,sco.lt,md.size⟩
theorem RgAt.push2(A:RgAt c hE scs js kc kr nd ws jn jw S nodes L sc h)(U:js<hE.blks.size)(hn:nodes.length<=1000):∃(C:Sl)(h':AH),kv Pg nd (Nd.no.cells++Nd.no.cells) 2 kbn 7 h=some (C.v,h')/\Upd h h' jn/\RgAt c hE scs js kc kr C ws h.blks.size jw (λj=>S j/\j<h.blks.size) (nodes++[Nd.no,Nd.no]) L sc h':=by
 obtain⟨l1,l2,l3,l4,l5,l6⟩:=A.lts;obtain⟨md,cfg,⟨z,res⟩,nds,wts,sco,fS,ge,ne⟩:=A;obtain⟨n1,V,X,Y,Z,n6⟩:=ne;obtain⟨F,H,aa,I⟩:=ge;obtain⟨K,Q,e9,V9,y⟩:=nds.pushs (P:=Pg) (T:=Fp.no) (rows':=[Nd.no.cells,Nd.no.cells]) (ys:=[Nd.no,Nd.no]) (n:=2) (.cons rfl (.cons rfl .nil)) rfl (by decide) qbn (kr2 (by omega));have y:Upd h Q jn:=y;refine⟨K,Q,e9,y,md.next (y.md (T:=λj=>j=jn) rfl) (λj hj e=>by omega),cfg.updr V y,⟨z,res.updr Y y⟩,V9.mono (λj k=>k.1.elim id id) qbm,wts.bound.upd y (λa=>(fS _ a.1).2.2.2 rfl) (λk e=>by cases e;exactλe=>n6 e.symm),sco.upd y qbm (λk e=>by cases e;omega),λm a=>?_,⟨F,H,by omega,I⟩,⟨n1,by omega,X,by omega,Z,by omega⟩⟩;obtain⟨a1,a2,a3,a4⟩:=fS m a.1;have:=a.2;exact⟨a1,a2,a3,by omega⟩
theorem RgAt.wait2(A:RgAt c hE scs js kc kr nd ws jn jw S nodes L sc h)(aa:js<hE.blks.size)(hn:L.length<=1000){F H:Sl}{I K:List Nat}{d:Nat}{Q U:Fp}(X1:Sq EI h Q F (zs I))(X2:Sq EI h U H (zs K))(hS:∀m,Q m\/U m->hE.blks.size<=m/\m≠kc/\m≠kr/\m≠jn/\m≠jw) :
  ∃(C:Sl)(h':AH)(S':Fp),kv Pg ws [F.v,.i (d:Int),H.v,.i (d:Int)] 2 kfc 2 h=some (C.v,h')/\RgAt c hE scs js kc kr nd C jn h.blks.size S' nodes (L++[(I,d),(K,d)]) sc h':=by
 obtain⟨l1,l2,l3,l4,l5,l6⟩:=A.lts;obtain⟨md,cfg,⟨z,res⟩,nds,wts,sco,fS,ge,ne⟩:=A;obtain⟨n1,n2,n3,n4,n5,n6⟩:=ne;obtain⟨V,X,Y,ac⟩:=ge;obtain⟨Z,h9,e9,V9,y⟩:=wts.pushs (P:=Pg) (T:=Fp.or Q U) (rows':=[[F.v,.i (d:Int)],[H.v,.i (d:Int)]]) (ys:=[(I,d),(K,d)]) (n:=2) (.cons ⟨F,rfl,X1.mono λ_ a=>.inl a⟩ (.cons ⟨H,rfl,X2.mono λ_ a=>.inr a⟩ .nil)) rfl (by decide) (λa=>(hS jw a).2.2.2.2 rfl) (k6v (by omega));have y:Upd h h9 jw:=y;refine⟨Z,h9,_,e9,md.next (y.md (T:=λj=>j=jw) rfl) (λj hj e=>by omega),cfg.updr n3 y,⟨z,res.updr n5 y⟩,nds.upd y qbm (λk e=>by cases e;exact n6),V9,sco.upd y qbm (λk e=>by cases e;omega),λm a=>?_,⟨V,X,Y,by omega⟩,⟨n1,n2,by omega,n4,by omega,by omega⟩⟩;rcases a.1 with a | a
 ·exact fS m a
 ·obtain⟨a1,a2,a3,a4,a5⟩:=hS m a;exact⟨a1,a2,a3,a4⟩
theorem k5b(A:RgAt c hE scs js kc kr nd ws jn jw S nodes L sc h)(V:js<hE.blks.size)(hn:nodes.length<=100)(hL:L.length<=100){i:Nat}(hi:i<nodes.length)(ad:i<L.length){d:Nat}(am:L[i]=(R,d))(hd:d<=100)(X:Sq EI h Sx x (zs R))(nx:¬Sx jn){z:Nat}(an:∀i∈R,i<z)(hl:R.length<=100000)
  (Qt:Sq Ef.tb hE St tsl ts) (ap:¬St js) (aq:∀(p:Nat)(hp:p<ts.length),tabR ts[p]=true/\ts[p].ids.length=z) {Sb ar:Fp} {bs l:Sl} {b:Int} {bt:List Int} (Vb:Sq EI h Sb bs (b::bt)) {D:List Spl} (Vl:Sq Ef.nd h ar l (D.map nd0)) {j:Nat} (hj:b=(j:Int)) (au:j<D.length) {s:Spl} (hs:D[j]=s) (hp:s.1<ts.length) (hf:s.2.1<(ts[s.1]).cols.length) {aw:Nat} {P:AV->AH->Prop}
  (H:∀h' ae Y ax ay S',RgAt c hE scs js kc kr ae Y ax ay S' (nodes.set i (splitN s nodes.length (nodes.length+1))++[Nd.no,Nd.no]) (L++[(R.filter (leftS ts s),d+1),(R.filter λi=>!leftS ts s i,d+1)]) sc h'->Runs (go (.pt kbq kfn [(1,tsl.v),(2,gs.v),(3,scs.v),(4,.p (.new kc 0)),(8,.p (.new kr 0)),(11,ae.v),(12,Y.v),(13,.i (IntKind.wrap .i64 ((i:Int)+1)))]) h') P) :
  Runs (go (.pt kbq kj7 [(1,tsl.v),(2,gs.v),(3,scs.v),(4,.p (.new kc 0)),(8,.p (.new kr 0)),(11,nd.v),(12,ws.v),(13,.i (i:Int)),(14,x.v),(15,.p (.new aw 0)),(16,bs.v),(17,l.v)]) h) P:=by
 obtain⟨hR,az⟩:=aq s.1 hp;obtain⟨bk,ba,Z,af⟩:=kh2 hR;obtain⟨hb,bp,bm,bb⟩:=kha (af s.2.1 hf) hf Z
 have bc:leftS ts s=leftP (ts[s.1]) s.2.1 (s.2.2:Int):=by
  funext i;unfold leftS;simp[List.getD,hp]
 have ag:∀i∈R,i<((ts[s.1]).cols[s.2.1]).length:=λi hi=>by rw[bb,az];exact an i hi
 obtain⟨l1,l2,l3,l4,l5,l6⟩:=A.lts;obtain⟨r0,a0,a1⟩:=Vb.int (i:=0) (by simp);have bd:(b::bt)[0]=(j:Int):=hj;rw[bd]at a1;have be:j<(D.map nd0).length:=by rw[qb0];exact au
 obtain⟨r1,y,y0,y1,y2,y3,y4,y5,y6⟩:=Vl.nd be;have hx:(D.map nd0)[j]=nd0 s:=by rw[List.getElem_map,hs]
 rw[hx]at y0 y1 y2 y3 y4 y5 y6;have bq:bs.len=bt.length+1:=by rw[Vb.len];rfl
 rw[kxq];refine qbc (qby (by omega)) ?_;refine qz a0 (qz a1 (qz y (qz y0 (qz y1 (qz y2 (qz y3 (qz y4 (qz y5 (qz y6 ?_)))))))));refine q0 λh2 b2 g2=>qba b2 rfl λh3 b3 u3=>?_;rw[A.nds.len];refine Runs.putAt (o:=5) b3 (by simp) rfl λh4 b4 u4=>?_;rw[kj (by omega)];refine Runs.putAt (o:=6) b4 (by simp) rfl λh5 Q u5=>?_;have ah:Grow h h5:=((g2.updr (qbp _) u3).updr (qbp _) u4).updr (qbp _) u5;refine qz (Q.rd 0 rfl rfl) (qz (Q.rd 1 rfl qcn) (qz (Q.rd 2 rfl qcn) (qz (Q.rd 3 rfl qcn) (qz (Q.rd 4 rfl qcn) (qz (Q.rd 5 rfl qcn) (qz (Q.rd 6 rfl qcn) ?_))))));obtain⟨r6,h6,e6,p6,u6,A6⟩:=(A.grow ah).setn V hi (splitN s nodes.length (nodes.length+1));have e6:idx nd.ref nd.len (i:Int) 7=some r6:=e6;rw[A.nds.len]at e6;refine qz e6 (qz p6 ?_);have z5:=Q.lt;have b6:=Q.updr (i:=jn) (by omega) u6;have X6:Sq EI h6 Sx x (zs R):=(X.grow ah).upd nx u6;refine q0 λh7 b7 g7=>?_;refine qz (kch (n:=2) b7 (by rw[krx];rfl)) ?_;obtain⟨br,h8,e8,u8,A8⟩:=(A6.grow g7).push2 V (by rw[qb6];omega);refine qz e8 (qz qcm ?_);have b8:=(g7.has b6).updr (i:=jn) (by omega) u8;have X8:Sq EI h8 Sx x (zs R):=(X6.grow g7).upd nx u8;refine qz (b8.rd 2 rfl qcn) ?_;obtain⟨r9,s1,s2,s3,t0,t1,t2,t3,qt⟩:=(Qt.md A8.md λj a e=>ap (e▸a)).tb hp;refine qz t0 (qz t1 (qz t2 (qz t3 (q0 λh9 b9 g9=>qba b9 rfl λai K bf=>?_))));have F:Grow h8 ai:=g9.updr (qbp _) bf;have aa:=A8.grow F;have I:=F.has b8;have bn:i<L.length:=ad;obtain⟨rw,yw,w0,w1,w2,Xw⟩:=aa.wts.sq.wg ad;have bg:((L[i].2:Nat):Int)=(d:Int):=by rw[am]
 rw[bg]at w2;refine qz (K.rd 0 rfl qcm) (qz (K.rd 1 rfl qcm) (qz (K.rd 2 rfl qcm) (qz (I.rd 3 rfl qcn) (qz (I.rd 4 rfl qcn) (qz w0 (qz w2 ?_))))));refine qz (K.rd 0 rfl qcm) (qz (K.rd 1 rfl qcm) (qz (K.rd 2 rfl qcm) (qz (I.rd 3 rfl qcn) (qz (I.rd 4 rfl qcn) (qz w0 (qz w2 ?_))))));refine(kth (qt.grow F) hf ag hl (X8.grow F) true).call λv bu ⟨C,ya,ja,e,la,Va⟩=>?_;subst e;rw[kxa]at Va;refine qz (seen qcm) ?_;refine qbe (C.sameR w2) (qbe (C.same I 4 1) (qbe (C.same I 3 1) (qbe (C.same K 0 3) (qbe (C.sameR w2) ?_))));refine(kth ((qt.grow F).grow C) hf ag hl ((X8.grow F).grow C) false).call λv bv ⟨U,yb,jb,e,lb,aj⟩=>?_;subst e;rw[kbb7]at aj;refine qz (seen qcm) ?_;refine qbe (U.sameR (C.rdR w2)) (qbe (U.sameR (C.rdR w2)) ?_);refine q0 λbw bh ac=>?_;refine qz (kch (n:=2) bh (by rw[k8e];rfl)) ?_;rw[kj (i:=d) (by omega)];have bi:=aa.grow ((C.trans U).trans ac);have bx:=C.size;have bz:=aa.lts
 obtain⟨Y,b0,S',bj,ak⟩:=bi.wait2 V (by omega) (d:=d+1) ((Va.grow U).grow ac).sq (aj.grow ac).sq λm a=>by
  have hm:ai.blks.size<=m:=by
   rcases a with(a | a) | (a | a)
   ·exact opt_ge la a
   ·exact a.elim
   ·have:=opt_ge lb a;omega
   ·exact a.elim
  omega
 refine qz bj (qz qcm ?_);have al:leftP (ts[s.1]) s.2.1 (nd0 s).cut=leftS ts s:=bc.symm;rw[al]at ak;exact H _ _ _ _ _ _ ak
end
end Go.Ab
set_option maxRecDepth 10000
namespace Go.Ab
open Go.Proofs Go.Num Go.Heap
section
variable{c:Cfg}{z D:Nat}{scs gs tsl:Sl}{g:List Int}{ts:List Tb}{hE:AH}{St Sg:Fp}{js kc kr:Nat}
theorem kbgh(hc:c.right=true)(hD:c.depth=(D:Int))(ak:js<hE.blks.size)(Q:Sq EI hE Sg gs g)(Qt:Sq Ef.tb hE St tsl ts)(al:¬Sg js)(am:¬St js)(hg:g.length=z)(aw:z<=256)(an:ts.length<=16)(ap:∀(p:Nat)(hp:p<ts.length),tabR ts[p]=true/\ts[p].ids.length=z) :
  ∀(n:Nat)(W:List Wt)(nodes:List Nd)(sc:List Int)(L:List (List Nat×Nat))(i:Nat)(nd ws:Sl)(jn jw:Nat)(S:Fp)(h:AH),GrowOk D n z W nodes->L.length=nodes.length->L.drop i=W.map (λx=>(x.rows,x.deep))->sc.length=z->RgAt c hE scs js kc kr nd ws jn jw S nodes L sc h->
  Runs (go (.pt kbq kfn [(1,tsl.v),(2,gs.v),(3,scs.v),(4,.p (.new kc 0)),(8,.p (.new kr 0)),(11,nd.v),(12,ws.v),(13,.i (i:Int))]) h) (GrowP c scs js hE (growS c ts g n W nodes sc)):=by
 have aq:∀(n:Nat)(nodes:List Nd)(sc:List Int)(L:List (List Nat×Nat))(i:Nat)(nd ws:Sl)(jn jw:Nat)(S:Fp)(h:AH),nodes.length<=i->RgAt c hE scs js kc kr nd ws jn jw S nodes L sc h->
   Runs (go (.pt kbq kfn [(1,tsl.v),(2,gs.v),(3,scs.v),(4,.p (.new kc 0)),(8,.p (.new kr 0)),(11,nd.v),(12,ws.v),(13,.i (i:Int))]) h) (GrowP c scs js hE (nodes,sc)):=by
  intro n nodes sc L i nd ws jn jw S h hi A;obtain⟨md,cfg,⟨y,res⟩,nds,wts,sco,fS,ge,ne⟩:=A;rw[kvz,nds.len];refine qbc (qby (by omega)) ?_;refine qba res rfl λh1 B1 u1=>qz (B1.rd 0 rfl qcm) (qy ⟨nd,jn,rfl,ge.2.2.1,nds.upd u1 qbm (λk e=>by cases e;omega),sco.upd u1 qbm (λk e=>by cases e;omega),md.next (u1.md (T:=λj=>j=kr) rfl) λj hj e=>by omega⟩)
 have hd:=qbo hc;intro n
 induction n with
 | zero =>
  intro W nodes sc L i nd ws jn jw S h ok hL K Y A
  have hW:W=[]:=by
   have h1:=muW_le ok.deep;have h2:=ok.mu;exact List.length_eq_zero_iff.1 (by omega)
  subst hW;have hl:=congrArg List.length K;simp at hl;exact aq 0 nodes sc L i nd ws jn jw S h (by omega) A
 | succ n ih =>
  intro W nodes sc L i nd ws jn jw S h ok hL K Y A;cases W with
  | nil =>
   have hl:=congrArg List.length K;simp at hl;exact aq 0 nodes sc L i nd ws jn jw S h (by omega) A
  | cons x W =>
   have hl:=congrArg List.length K;simp only[List.length_drop,qb0,qb1]at hl;have ag:i<L.length:=by omega
   have ar:i<nodes.length:=by omega
   rw[qcf ag,List.map_cons]at K;injection K with hx ae
   have Z:x.place=i:=by
    have p0:=ok.place 0 (by simp);simp only[List.getElem_cons_zero,qb1]at p0;omega
   have bg:=ok.nodes63 (by omega);have af:=ok.rows x (by simp);have aa:∀i∈x.rows,i<z:=λi hi=>qck.1 (af.subset hi);have ac:x.rows.length<=100000:=by have:=af.length_le;rw[qcj]at this;omega
   have bh:=ok.deep x (by simp);obtain⟨l1,l2,l3,l4,l5,l6⟩:=A.lts;obtain⟨r,y,w0,w1,w2,X⟩:=A.wts.sq.wg ag;rw[hx]at w2 X
   have ax:¬(Fp.or (Fp.opt (some jw)) S) js:=by
    rintro (e | e)
    ·cases e;have:=A.ge;omega
    ·have:=A.fS _ e;omega
   have au:¬(Fp.or (Fp.opt (some jw)) S) jn:=by
    rintro (e | e)
    ·cases e;exact A.ne.2.2.2.2.2 rfl
    ·exact(A.fS _ e).2.2.2 rfl
   rw[kvz,A.nds.len];refine qbb (qbx (by omega)) (qz w0 (qz w1 ?_));refine(kzs (Q.md A.md λj a e=>al (e▸a)) X (λi hi=>by rw[hg];exact aa i hi) ac).call λv h1 ⟨e,g1⟩=>?_;subst e;refine qz rfl (qbb rfl (qz rfl (qz rfl ?_)));refine q0 λh2 b2 g2=>qba b2 rfl λh3 b3 u3=>?_;have ay:Grow h1 h3:=g2.updr (qbp _) u3;have ah:=g1.trans ay;have A3:=A.grow ah;have X3:=X.grow ah;refine qz w0 (qz (ah.rdR w2) (qz (A3.cfg.rd 1 rfl qcn) ?_));have Q3:Sq EI h3 Sg gs g:=Q.md A3.md λj a e=>al (e▸a);have az:Sq Ef.tb h3 St tsl ts:=Qt.md A3.md λj a e=>am (e▸a)
   have C:∀{sb l:Sl}{h4:AH},Grow h3 h4->bestS c ts g x=[]->sb.len=0->Runs (go (.pt kbq kj7 [(1,tsl.v),(2,gs.v),(3,scs.v),(4,.p (.new kc 0)),(8,.p (.new kr 0)),(11,nd.v),(12,ws.v),(13,.i (i:Int)),(14,y.v),(15,.p (.new h1.blks.size 0)),(16,sb.v),(17,l.v)]) h4) (GrowP c scs js hE (growS c ts g (n+1) (x::W) nodes sc)):=by
    intro sb l h4 F H a0;refine kbg1 (sm:=sumR g x.rows) (A3.grow F) ak ar (F.has b3) (X3.grow F) ax au (λi hi=>by rw[Y];exact aa i hi) ac a0 λh' A'=>?_
    have:growS c ts g (n+1) (x::W) nodes sc=growS c ts g n W (nodes.set x.place (leafN (kdk c (sumR g x.rows)))) (addS (kdk c (sumR g x.rows)) x.rows sc):=by
     rw[growS,H]
    rw[this,kj (by omega),Z];exact ih W _ _ L (i+1) nd ws jn jw S h' (Z▸ok.leaf _) (by rw[qb6];exact hL) ae (by rw[kno];exact Y) A'
   refine qbd (λU=>?_) λU=>?_
   ·rw[qbw]at U;refine(kbhu Q3 X3 (z:=z) (by omega) aw aa ac az an ap).call λv h4 ⟨l,jl,s,bi,e,I⟩=>?_;subst e;have F:=I.grow;have A4:=A3.grow F;refine qz rfl (qz (seen qcm) (qz (seen qcm) ?_));refine qz (A4.cfg.rd 2 rfl qcn) (qz (A4.cfg.rd 3 rfl qcn) (qz ((F.has b3).rd 0 rfl qcn) (qz ((F.has b3).rd 1 rfl qcn) ?_)));refine(kbhv (xs:=sumsS ts g x.rows) (I.sum.sq.mono λ_ _=>trivial) c.lambda c.gamma (sumR g x.rows).1 (sumR g x.rows).2).call λv h5 ⟨sb,e,Vb,ad⟩=>?_;subst e;refine qz rfl (qz (seen qcm) (qz (seen qcn) ?_))
    have H:bestS c ts g x=(bestF c.lambda c.gamma (sumR g x.rows).1 (sumR g x.rows).2 (sumsS ts g x.rows)).1:=by
     unfold bestS;rw[if_pos U]
    rw[<- H]at Vb;cases V:bestS c ts g x with
    | nil =>
     rw[V]at Vb;exact C (F.trans ad) V Vb.len
    | cons b bs =>
     rw[V]at Vb;obtain⟨j,hj,ai⟩:=kwr (c:=c) (ts:=ts) (g:=g) (x:=x) b (by rw[V];simp);obtain⟨hp,hf⟩:=kbb3 (qb2 ai);have ba:(kbt ts).getD b.toNat (0,0,0)=(kbt ts)[j]:=by rw[hj];simp[List.getD,ai]
     refine k5b (A4.grow ad) ak (by omega) (by omega) ar ag hx (by omega) ((X3.grow F).grow ad) au aa ac Qt am ap Vb (I.spl.grow ad).sq hj ai rfl hp hf λh' bb bc bd be S' A'=>?_;have bf:x.deep<D:=by omega
     have aj:growS c ts g (n+1) (x::W) nodes sc=growS c ts g n (W++kidsS ts x (kbt ts)[j] nodes.length) (nodes.set x.place (splitN (kbt ts)[j] nodes.length (nodes.length+1))++[Nd.no,Nd.no]) sc:=by
      rw[growS,V];dsimp only;rw[ba]
     rw[aj,kj (by omega),Z];refine ih _ _ sc _ (i+1) bb bc bd be S' h' (Z▸ok.split bf ts _ _) (by simp;omega) ?_ Y A';rw[List.drop_append_of_le_length (by omega),ae,List.map_append];rfl
   ·rw[qbv]at U;exact C (ql _) (by unfold bestS;rw[if_neg U]) rfl
theorem kbih{y:AH}(F:gs.len=z)(I:z<=256){P:AV->AH->Prop}
  (H:∀h' l j,Grow y h'->LeO y.blks.size j->GF EI T.int h' Fp.no l j (zs (List.range z))->Runs (go (.pt kbq klm [(1,tsl.v),(2,gs.v),(3,scs.v),(4,.p (.new kc 0)),(8,.p (.new kr 0)),(9,l.v),(10,.i (z:Int))]) h') P) :
  ∀(k i:Nat),i+k=z->∀(h:AH)(l:Sl)(j:Option Nat),Grow y h->LeO y.blks.size j->GF EI T.int h Fp.no l j (zs (List.range i))->
  Runs (go (.pt kbq klm [(1,tsl.v),(2,gs.v),(3,scs.v),(4,.p (.new kc 0)),(8,.p (.new kr 0)),(9,l.v),(10,.i (i:Int))]) h) P:=by
 intro k
 induction k with
 | zero =>
  intro i hi h l j G A V;obtain rfl:i=z:=by omega
  exact H h l j G A V
 | succ k ih =>
  intro i hi h l j G A V;rw[ky3,F];refine qbb (qbx (by omega)) (q0 λK b2 C=>?_);refine qz (kch b2 (by rw[kfd];rfl)) ?_;obtain⟨t',Q,U,X,Y⟩:=(V.grow C).push (T:=Fp.no) (cs:=[.i (i:Int)]) (x:=(i:Int)) rfl qbn (kmx (by rw[zs_len,qcj];omega));refine qz U (qz qcm ?_);rw[kj (by omega)];refine ih (i+1) (by omega) Q t' (some K.blks.size) ((G.trans C).updo A Y) (show _<=_ from(G.trans C).size) ?_
  have:zs (List.range (i+1))=zs (List.range i)++[(i:Int)]:=by
   rw[List.range_succ,zs_app];rfl
  rw[this];exact X.mono (λj x=>x.1.elim id id) qbn
theorem k34(hc:c.right=true)(Q:Sq EI hE Sg gs g)(Qt:Sq Ef.tb hE St tsl ts){sc:List Int}(V:GF EI T.int hE Fp.no scs (some js) sc)(K:¬Sg js)(U:¬St js)(hg:g.length=z)(X:sc.length=z)(C:z<=256)(F:ts.length<=16)(Y:∀(p:Nat)(hp:p<ts.length),tabR ts[p]=true/\ts[p].ids.length=z) :
  Runs (go (.fn kbq [.agg c.cells,tsl.v,gs.v,scs.v]) hE) (GrowP c scs js hE (growS c ts g 64 [firstW z] [Nd.no] sc)):=by
 have hd:=qbo hc;obtain⟨D,hD⟩:∃D:Nat,c.depth=(D:Int):=⟨c.depth.toNat,by omega⟩;have Z:js<hE.blks.size:=V.lt;show Runs (go (.fn kbq [.agg [.i c.trees,.i c.depth,.i c.lambda,.i c.gamma,.i c.num,.i c.den,.i c.loss,.i c.clip],tsl.v,gs.v,scs.v]) hE) _;rw[kbey];refine q0 λh1 b1 g1=>q0 λh2 b2 g2=>?_;have H:gs.len=z:=by rw[Q.len,hg]
 refine kbih H C (λh3 l j I lj V3=>?_) z 0 (by omega) h2 _ none (ql _) trivial (GF.none EI T.int h2 Fp.no);rw[ky3,H];refine qbc (qby (by omega)) (q0 λh4 b4 g4=>q0 λh5 b5 g5=>?_);have z1:=b1.lt;have z2:=b2.lt;have z3:=I.size;have z4:=b4.lt;have z5:=b5.lt;have ad:=g1.size;have y:=g4.trans g5;have gE:Grow hE h5:=((g1.trans g2).trans I).trans y;have aa:=V3.lt
 have hj:∀m,(Fp.or (Fp.opt j) Fp.no) m->h2.blks.size<=m/\m<h3.blks.size:=λm a=>by
  rcases a with a | a
  ·exact⟨opt_ge lj a,opt_lt aa a⟩
  ·exact a.elim
 have A:RgAt c hE scs js hE.blks.size h1.blks.size ⟨some (.new h3.blks.size 0),1,.is 1⟩ ⟨some (.new h4.blks.size 0),1,.is 1⟩ h3.blks.size h4.blks.size (Fp.or (Fp.opt j) Fp.no) [Nd.no] [(List.range z,0)] sc h5:=by
  refine⟨gE.md _,((g2.trans I).trans y).has b1,⟨_,(I.trans y).has b2⟩,?_,?_,V.grow gE,λm a=>?_,⟨qbp _,by omega,by omega,by omega⟩,⟨by omega,by omega,by omega,by omega,by omega,by omega⟩⟩
  ·exact GF.lit (E:=Ef.nd) (rows:=[Nd.no.cells]) (g5.has b4) (.cons rfl .nil) qbm rfl
  ·exact GF.lit (E:=Ef.wg) (rows:=[[l.v,.i 0]]) b5 (.cons ⟨l,rfl,(V3.grow y).sq⟩ .nil) (λa=>by have:=hj _ a;omega) rfl
  ·have:=hj m a;exact⟨by omega,by omega,by omega,by omega⟩
 have ok:GrowOk D (2^(D+1)-1) z [firstW z] [Nd.no]:=GrowOk.start
 have ac:2^(D+1)-1<=64:=by
  have:2^(D+1)<=2^6:=Nat.pow_le_pow_right (by decide) (by omega);omega
 rw[<- kq6 hD _ 64 [firstW z] [Nd.no] sc ac ok];exact kbgh hc hD Z Q Qt K U hg C F Y _ [firstW z] [Nd.no] sc [(List.range z,0)] 0 _ _ _ _ _ h5 ok rfl rfl X A
end
end Go.Ab
set_option maxRecDepth 10000
namespace Go.Ab
open Go.Proofs Go.Num Go.Heap
section
variable{h0:AH}{S S':Fp}{s t:Sl}
theorem k4i{xs ys:List Int}(n:Sq EI h0 S s xs)(m:Sq EI h0 S' t ys)(I:xs.length=ys.length):∀(k i:Nat),i+k=xs.length->
  go (.pt khv kpl [(0,s.v),(1,t.v),(5,.i (i:Int))]) h0=some (.bool (decide (xs.drop i=ys.drop i)),h0):=by
 intro k
 induction k with
 | zero =>
  intro i hi;rw[k0c,n.len,condF (qby (by omega)),List.drop_of_length_le (by omega),List.drop_of_length_le (by omega)];rfl
 | succ k ih =>
  intro i hi;have h1:i<xs.length:=by omega
  have y:i<ys.length:=by omega
  obtain⟨r,A,C⟩:=n.int h1;obtain⟨q,F,H⟩:=m.int y;rw[k0c,A,F,n.len,condT (qbx (by omega))];simp only[qbt,C,H];rw[kj (by have:=n.short;omega),ih (i+1) (by omega),qcf h1,qcf y];by_cases c:xs[i]=ys[i]
  ·rw[condF (by rw[qbx c];rfl),decide_eq_decide.2 (show xs.drop (i+1)=ys.drop (i+1)↔xs[i]::xs.drop (i+1)=ys[i]::ys.drop (i+1)from⟨λe=>by rw[c,e],λe=>(List.cons.inj e).2⟩)]
  ·rw[condT (by rw[qby c];rfl),qby (λe=>c (List.cons.inj e).1)]
theorem kbbb{xs ys:List Int}(n:Sq EI h0 S s xs)(m:Sq EI h0 S' t ys):go (.fn khv [s.v,t.v]) h0=some (.bool (decide (xs=ys)),h0):=by
 rw[k39,n.len,m.len];by_cases c:xs.length=ys.length
 ·rw[condF (by rw[qbx (by omega)];rfl)];exact k4i n m c xs.length 0 (by omega)
 ·rw[condT (by rw[qby (by omega)];rfl),qby (λe=>c (by rw[e]))]
theorem k7j{xs:List Int}(n:Sq EI h0 S s xs):∀(k i:Nat),i+k=xs.length->
  go (.pt keb klo [(2,s.v),(11,.i (i:Int))]) h0=some (.i (if oddL (xs.drop i)=true then 1 else 0),h0):=by
 intro k
 induction k with
 | zero =>
  intro i hi;rw[k3a,n.len,condF (qby (by omega)),List.drop_of_length_le (by omega)];rfl
 | succ k ih =>
  intro i hi;have h1:i<xs.length:=by omega
  obtain⟨r,y,A⟩:=n.int h1;rw[k3a,y,n.len,condT (qbx (by omega))];simp only[qbt,A]
  have C:oddL (xs.drop i)=((decide (xs[i] < -1048576)||decide (xs[i]>1048576))||oddL (xs.drop (i+1))):=by
   rw[qcf h1];rfl
  rw[C];by_cases c:xs[i] < -1048576
  ·rw[condT (qbx c),qbx c];rfl
  ·rw[condF (qby c),qby c];by_cases d:xs[i]>1048576
   ·rw[condT (qbx d),qbx d];rfl
   ·rw[condF (qby d),qby d,kj (by have:=n.short;omega),ih (i+1) (by omega)];rfl
end
section
variable{c:Cfg}{scs ls tsl:Sl}{labels:List Int}{ts:List Tb}{hE:AH}{St SL:Fp}
theorem kbbq(A:Sq Ef.tb hE St tsl ts)(Q:Sq EI hE SL ls labels)(Z:ts.length<=16)(I:0<ts.length):∀(k i:Nat),i+k=ts.length->∀{h:AH},Grow hE h->
  Runs (go (.pt keb kqs [(1,tsl.v),(2,ls.v),(8,.i (i:Int))]) h) λv h'=>v=.i (if((ts.drop i).any λt=>!tabR t||(!decide (t.ids=(ts.getD 0 Tb.no).ids)||decide (t.ids.length=0)))=true then 20 else if labels.length≠(ts.getD 0 Tb.no).ids.length then 1 else if oddL labels then 1 else 0)/\Grow hE h':=by
 have K:ts.getD 0 Tb.no=ts[0]:=by simp[List.getD,I]
 rw[K];intro k
 induction k with
 | zero =>
  intro i hi h g;rw[k2o,List.drop_of_length_le (by omega),A.len];refine qbc (qby (by omega)) ?_;obtain⟨r,s1,s2,s3,e,F,V,X,n⟩:=(A.grow g).tb I;rw[A.len]at e;refine qz e (qz F ?_);rw[(Q.grow g).len,n.ids.len];refine qbd (λa=>qy ⟨?_,g⟩) λa=>?_
  ·have:labels.length≠ts[0].ids.length:=by
    intro e;rw[e,qbx rfl]at a;cases a
   simp[this]
  ·have:labels.length=ts[0].ids.length:=by
    rw[qci,qbw]at a;omega
   have y:=k7j (Q.grow g) labels.length 0 (by omega);rw[List.drop_zero]at y;have y:go (.pt keb klo [(2,ls.v),(11,.i 0)]) h=_:=y;rw[y];refine qy ⟨?_,g⟩;simp[this]
 | succ k ih =>
  intro i hi h g;have H:i<ts.length:=by omega
  obtain⟨r,s1,s2,s3,e,F,V,X,n⟩:=(A.grow g).tb H;rw[k2o,qcf H,List.any_cons,A.len];rw[A.len]at e;refine qbb (qbx (by omega)) (qz e (qz F (qz V (qz X ?_))));refine(kbdr n).call λv h3 ⟨ev,C⟩=>?_;subst ev;obtain⟨r0,t1,t2,t3,Y,d1,d2,d3,n0⟩:=(A.grow (g.trans C)).tb I;rw[A.len]at Y;refine qz (seen rfl) (qz e (qz (C.rdR F) (qz Y (qz d1 ?_))));refine qz (kbbb (n.grow C).ids n0.ids) (qz (seen rfl) (qbd (λa=>qy ⟨?_,g.trans C⟩) λa=>?_))
  ·rw[qch]at a;simp[a]
  rw[qci]at a;refine qbd (λb=>qy ⟨?_,g.trans C⟩) λb=>?_
  ·rw[qch]at b;simp[b]
  rw[qci]at b;refine qz e (qz (C.rdR F) ?_);rw[n.ids.len];refine qbd (λd=>qy ⟨?_,g.trans C⟩) λd=>?_
  ·have:ts[i].ids.length=0:=by
    have:=of_decide_eq_true d;omega
   simp[this]
  rw[kj (by omega)]
  have U:decide (ts[i].ids.length=0)=false:=by
   have:=of_decide_eq_false d;exact qby (by omega)
  rw[a,b,U];exact ih (i+1) (by omega) (g.trans C)
theorem kbgi(y:Sq Ef.tb hE St tsl ts)(Q:Sq EI hE SL ls labels):Runs (go (.fn keb [.agg c.cells,tsl.v,ls.v]) hE) λv h'=>v=.i (faultC c ts labels)/\Grow hE h':=by
 unfold Cfg.cells;rw[k97];refine q0 λh1 b1 A=>?_;refine rd8 b1 ?_;obtain⟨K,C,F⟩:=ks2 c h1;have G:=A.trans F;refine qz C (qz (seen rfl) ?_);rw[y.len];unfold faultC;refine qbd (λa=>qy ⟨by simp[a],G⟩) λa=>?_;rw[if_neg (by simp[a])];refine qbd (λb=>qy ⟨?_,G⟩) λb=>?_
 ·have:ts.length=0:=by have:=of_decide_eq_true b;omega
  simp[this]
 have H:¬ts.length=0:=by have:=of_decide_eq_false b;omega
 rw[if_neg H];refine qbd (λd=>qy ⟨?_,G⟩) λd=>?_
 ·have:ts.length>16:=by have:=of_decide_eq_true d;omega
  simp[this]
 have I:¬ts.length>16:=by have:=of_decide_eq_false d;omega
 rw[if_neg I];have:=kbbq y Q (by omega) (by omega) ts.length 0 (by omega) G;rw[List.drop_zero]at this;exact this
theorem k7z{A:AH}{sc:List Int}{js kc kr km:Nat}{U:Int}(Q:Sq EI A SL ls labels)(B:A.has kc c.cells kbm)(V:GF EI T.int A Fp.no scs (some js) sc)(aa:sc.length=labels.length)(hL:labels.length<=256){P:AV->AH->Prop}
  (H:∀h' y j,Grow A h'->LeO A.blks.size j->GF EI T.int h' Fp.no y j (gradS c sc labels)->Runs (go (.pt kdt kls [(1,tsl.v),(2,ls.v),(3,.p (.new kc 0)),(6,.p (.new kr 0)),(10,scs.v),(11,.p (.new km 0)),(12,.i U),(13,y.v),(14,.i (labels.length:Int))]) h') P) :
  ∀(k i:Nat),i+k=labels.length->∀{h:AH}{y:Sl}{j:Option Nat},Grow A h->LeO A.blks.size j->GF EI T.int h Fp.no y j ((gradS c sc labels).take i)->
  Runs (go (.pt kdt kls [(1,tsl.v),(2,ls.v),(3,.p (.new kc 0)),(6,.p (.new kr 0)),(10,scs.v),(11,.p (.new km 0)),(12,.i U),(13,y.v),(14,.i (i:Int))]) h) P:=by
 have ac:=kny c sc labels;intro k
 induction k with
 | zero =>
  intro i hi h y j G K v;obtain rfl:i=labels.length:=by omega
  rw[List.take_of_length_le (by omega)]at v;exact H h y j G K v
 | succ k ih =>
  intro i hi h y j G K v;have C:i<labels.length:=by omega
  have F:i<sc.length:=by omega
  have Q1:=Q.grow G;have B1:=G.has B;obtain⟨r,e1,e2⟩:=Q1.int C;obtain⟨r2,e3,e4⟩:=(V.grow G).sq.int F;rw[kxy];refine qbb (qbx (by rw[Q.len];omega)) ?_;refine rd8 B1 ?_;refine qz e3 (qz e4 (qz e1 (qz e2 ?_)));obtain⟨h1,e5,X⟩:=k9e c sc[i] labels[i] h;refine qz e5 (qz rfl (qz (seen qcn) (qz (seen qcn) ?_)));refine q0 λh2 b2 Y=>?_;refine qz (kch b2 (by rw[kfd];rfl)) ?_;obtain⟨t',h3,e7,V3,u3⟩:=((v.grow X).grow Y).push (T:=Fp.no) (cs:=[.i (c.grad sc[i] labels[i]).1]) (x:=(c.grad sc[i] labels[i]).1) rfl qbn (kmx (by rw[qce];omega));refine qz e7 (qz qcm ?_);rw[kj (by omega)];have Z:=(G.trans X).trans Y;refine ih (i+1) (by omega) (Z.updo K u3) (j:=some h2.blks.size) (show _<=_ from Z.size) ?_
  have I:(gradS c sc labels).take (i+1)=(gradS c sc labels).take i++[(c.grad sc[i] labels[i]).1]:=by
   rw[qcg (by omega)];congr 1;simp[gradS,List.getD,F,C]
  rw[I];exact V3.mono (λj x=>x.1.elim id id) qbn
def kyd(hE:AH)(m:List (List Nd))(sc:List Int)(e:Int)(v:AV)(h':AH):Prop:=∃s u:Sl,v=.tup [.agg [s.v],u.v,.i e]/\Sq EM h' Fp.all s m/\Sq EI h' Fp.all u sc/\Grow hE h'
theorem kbkw(hf:faultC c ts labels=0)(Qt:Sq Ef.tb hE St tsl ts)(Q:Sq EI hE SL ls labels){kc kr km js:Nat}(aw:hE.blks.size<=kc)(ax:hE.blks.size<=kr)(ay:hE.blks.size<=km)(az:hE.blks.size<=js)(ae:kc≠km)(a0:kc≠kr)(af:kr≠km)(ag:kc≠js)(Z:kr≠js)(I:km≠js) :
  ∀(k i:Nat),i+k=c.trees.toNat->∀(m:List (List Nd))(sc:List Int)(l x:Sl)(K:Option Nat)(S:Fp)(h:AH),m.length=i->sc.length=labels.length->Md Fp.no hE h->h.has kc c.cells kbm->h.has kr [x.v] kcr->h.has km [l.v] kcr->GF EM kbz h S l K m->(∀j,S j\/K=some j->hE.blks.size<=j/\j≠kc/\j≠kr/\j≠km/\j≠js)->GF EI T.int h Fp.no scs (some js) sc->
  Runs (go (.pt kdt krg [(1,tsl.v),(2,ls.v),(3,.p (.new kc 0)),(6,.p (.new kr 0)),(10,scs.v),(11,.p (.new km 0)),(12,.i (i:Int))]) h) (kyd hE (trainS c ts labels k m sc).1 (trainS c ts labels k m sc).2 0):=by
 obtain⟨hc,aa,ah,ac,ai,au⟩:=kn9 hf;have hd:=qbo hc;have hp:0<ts.length:=List.length_pos_iff.2 aa
 have hz:∀(p:Nat)(hp:p<ts.length),tabR ts[p]=true/\ts[p].ids.length=labels.length:=λp hp=>by
  obtain⟨a,b,_⟩:=krf ac hp;exact⟨a,by rw[b,ai]⟩
 have hL:labels.length<=256:=by
  rw[<- (hz 0 hp).2];have:=(hz 0 hp).1;unfold tabR idsR at this;simp at this;omega
 intro k
 induction k with
 | zero =>
  intro i hi m sc l x K S h hm hs M B Br Bm V C Vs;rw[k0v];refine qz (B.rd 0 rfl qcn) (qbc (qby (by omega)) ?_);refine qz (Bm.rd 0 rfl qcm) (qba Br rfl λh1 B1 u1=>?_);refine qz (B1.rd 0 rfl qcm) (qy ⟨l,scs,rfl,?_,?_,?_⟩)
  ·have nS:¬S kr:=λa=>(C kr (.inl a)).2.2.1 rfl;exact(V.upd u1 nS λk e=>(C k (.inr e)).2.2.1).sq.mono λ_ _=>trivial
  ·exact(Vs.upd u1 qbm λk e=>by cases e;exactλe=>Z e.symm).sq.mono λ_ _=>trivial
  ·exact(M.next (u1.md (T:=λj=>j=kr) rfl) λj hj e=>by omega).grow λ_ _ a=>a
 | succ k ih =>
  intro i hi m sc l x K S h hm hs M B Br Bm V C Vs;rw[k0v];refine qz (B.rd 0 rfl qcn) (qbb (qbx (by omega)) ?_);have zM:=M.size;have zB:=B.lt;have zr:=Br.lt;have zm:=Bm.lt;have zs:js<h.blks.size:=Vs.lt;have Qb:Sq EI h (λj=>SL j/\j<hE.blks.size) ls labels:=Q.bound.md M λj _ a=>a;refine k7z Qb B Vs hs hL (λh2 ba jg U lg V2=>?_) labels.length 0 (by omega) (ql _) (j:=none) trivial (GF.none EI T.int h Fp.no);rw[kxy,Q.len];refine qbc (qby (by omega)) ?_;have B2:=U.has B;have aj:=U.has Br;have X:=U.has Bm;have M2:Md Fp.no hE h2:=M.thenG U;refine qz (X.rd 0 rfl qcm) ?_;refine rd8 B2 ?_;have ak:=Vs.grow U;have al:Sq Ef.tb h2 (λj=>St j/\j<hE.blks.size) tsl ts:=Qt.bound.md M2 λj _ a=>a;refine(k34 (z:=labels.length) hc V2.sq al ak (λa=>a.elim (λe=>by have:=opt_ge lg e;omega) id) (λa=>by have:=a.2;omega) (kny _ _ _) hs hL ah hz).call λv h3 ⟨nd,jn,ev,bb,Vn,am,Y⟩=>?_;subst ev;refine qz rfl (qbb rfl (qz (seenAt rfl qcm) ?_));refine qbe (Y.same X I 0 1) ?_;refine q0 λH b4 F=>?_;have ad:=Y.has X I;refine qbe (F.same ad 0 1) ?_;refine qz (kch (n:=1) b4 (by rw[k0d];rfl)) ?_;have bc:=U.size
  have V4:GF EM kbz H (λj=>S j/\j<h.blks.size) l K m:=by
   have an:=V.bound.grow U;exact(GF.md Y (λj a e=>(C j (.inl a.1)).2.2.2.2 e) an λk e x=>(C k (.inr e)).2.2.2.2 x).grow F
  obtain⟨s5,h5,e5,V5,u5⟩:=V4.push (P:=Pg) (T:=Fp.opt (some jn)) (cs:=[nd.v]) (x:=(growS c ts (gradS c sc labels) 64 [firstW labels.length] [Nd.no] sc).1) ⟨nd,rfl,(Vn.grow F).sq.mono λj a=>a.elim id False.elim⟩ (by
   cases K with
   | none=>trivial
   | some y =>
    intro e;cases e;have:=V.lt;have this:jn<h.blks.size:=this;omega) (ky9 (by omega))
  refine qz e5 (qz qcm ?_);have A:Md (λj=>K=some j) H h5:=UpdO.md u5 λk e=>e;have z3:=Y.size;have z4:h3.blks.size<=H.blks.size:=F.size;have z5:=A.size;have B5:=A.has ((F.has (Y.has B2 ag))) (λe=>(C kc (.inr e)).2.1 rfl);have ap:=A.has ((F.has (Y.has aj Z))) (λe=>(C kr (.inr e)).2.2.1 rfl);have aq:=A.has ((F.has ad)) (λe=>(C km (.inr e)).2.2.2.1 rfl);have ar:GF EI T.int h5 Fp.no scs (some js) (growS c ts (gradS c sc labels) 64 [firstW labels.length] [Nd.no] sc).2:=GF.md A (S:=Fp.no) (λj a _=>a) (am.grow F) λk e x=>by cases e;exact(C js (.inr x)).2.2.2.2 rfl
  refine qba aq rfl λh6 B6 u6=>?_;rw[kj (by omega)]
  have hF:∀j,(Fp.or (λj=>S j/\j<h.blks.size) (Fp.opt (some jn)) j/\j<H.blks.size)\/some H.blks.size=some j->hE.blks.size<=j/\j≠kc/\j≠kr/\j≠km/\j≠js:=by
   rintro j (⟨a | a,b⟩ | a)
   ·exact C j (.inl a.1)
   ·cases a;omega
   ·cases a;omega
  have nK:¬(Fp.or (λj=>S j/\j<h.blks.size) (Fp.opt (some jn)) km/\km<H.blks.size):=λa=>(hF km (.inl a)).2.2.2.1 rfl;have:=ih (i+1) (by omega) (m++[(growS c ts (gradS c sc labels) 64 [firstW labels.length] [Nd.no] sc).1]) (growS c ts (gradS c sc labels) 64 [firstW labels.length] [Nd.no] sc).2 s5 x (some H.blks.size) _ h6 (by simp[hm]) ?_ ?_ (B5.updr ae u6) (ap.updr af u6) B6 (V5.upd u6 nK λk e=>by cases e;omega) hF (ar.upd u6 qbm λk e=>by cases e;exactλe=>I e.symm)
  ·exact this
  ·have:=krl c ts (gradS c sc labels) 64 [firstW labels.length] [Nd.no] sc;omega
  ·have M4:Md Fp.no hE H:=(M2.next Y λj hj e=>by omega).thenG F;exact(M4.next A λj hj e=>by have:=(C j (.inr e)).1;omega).next (u6.md (T:=λj=>j=km) rfl) λj hj e=>by omega
theorem kbdp(Qt:Sq Ef.tb hE St tsl ts)(Q:Sq EI hE SL ls labels):Runs (go (.fn kdt [.agg c.cells,tsl.v,ls.v]) hE) (kyd hE (trainC c ts labels).1 (trainC c ts labels).2.1 (trainC c ts labels).2.2):=by
 show Runs (go (.fn kdt [.agg [.i c.trees,.i c.depth,.i c.lambda,.i c.gamma,.i c.num,.i c.den,.i c.loss,.i c.clip],tsl.v,ls.v]) hE) _;rw[k60];refine q0 λh1 b1 g1=>q0 λh2 b2 g2=>?_;have y:=g2.has b1;refine qz (y.rd 0 rfl qcn) (qz (y.rd 1 rfl qcn) (qz (y.rd 2 rfl qcn) (qz (y.rd 3 rfl qcn) (qz (y.rd 4 rfl qcn) (qz (y.rd 5 rfl qcn) (qz (y.rd 6 rfl qcn) (qz (y.rd 7 rfl qcn) ?_)))))));have K:=g1.trans g2;refine(kbgi (c:=c) (Qt.grow K) (Q.grow K)).call λv V ⟨ev,U⟩=>?_;subst ev;refine qz (seen qcn) ?_;have G3:=K.trans U;have z1:=g1.size;refine qbd (λa=>?_) λa=>?_
 ·have A:¬faultC c ts labels=0:=by
   intro e;rw[e]at a;simp at a
  refine qba (U.has b2) rfl λF b4 u4=>qz (b4.rd 0 rfl qcm) (qy ⟨⟨none,0,.is 0⟩,⟨none,0,.is 0⟩,?_,?_,?_,?_⟩)
  ·unfold trainC;rw[if_neg A]
  ·unfold trainC;rw[if_neg A];exact Sq.nil EM F Fp.all
  ·unfold trainC;rw[if_neg A];exact Sq.nil EI F Fp.all
  ·exact G3.updr (by omega) u4
 ·have A:faultC c ts labels=0:=by simpa using a
  have hh:=A;obtain⟨hc,H,ac,I,X,aa⟩:=kn9 hh;have hp:0<ts.length:=List.length_pos_iff.2 H
  have hL:labels.length<=256:=by
   have Y:ts.getD 0 Tb.no=ts[0]:=by simp[List.getD,hp]
   rw[X,Y];have:=(krf I hp).1;unfold tabR idsR at this;simp at this;omega
  have hd:=qbo hc;obtain⟨F,e4,g4,V4⟩:=GF.mk (E:=EI) (elem:=T.int) (S:=Fp.no) (h:=V) (n:=labels.length) (bytes:=Pg.bytesOf T.int) (l:=(ls.len:Int)) (c:=(ls.len:Int)) (cs:=[.i 0]) (x:=(0:Int)) (λh'=>rfl) qbm (by rw[Q.len]) (by rw[Q.len]) (by rw[kll];omega) (by omega);refine qz e4 ?_;refine q0 λZ b5 g5=>?_;have C:Grow h2 Z:=(U.trans g4).trans g5;have G5:=K.trans C;have z2:=b1.lt;have ad:=b2.lt;have z3:=U.size;have z4:V.blks.size<F.blks.size:=V4.lt;unfold trainC;rw[if_pos A];exact kbkw A Qt Q (kc:=hE.blks.size) (kr:=h1.blks.size) (km:=F.blks.size) (js:=V.blks.size) (by omega) (by omega) (by omega) (by omega) (by omega) (by omega) (by omega) (by omega) (by omega) (by omega) c.trees.toNat 0 (by omega) [] (List.replicate labels.length 0) _ _ none Fp.no Z rfl (by simp) (G5.md _) (C.has y) (C.has b2) b5 (GF.none EM kbz Z Fp.no) (λj a=>by rcases a with a | a;exact a.elim;cases a) (V4.grow g5)
end
end Go.Ab
set_option maxRecDepth 10000
namespace Go.Ab
open Go.Proofs Go.Num Go.Heap
section
variable{h:AH}{c:Cfg}{kc:Nat}{tsl:Sl}{ts:List Tb}{St:Fp}
theorem few_18(B:h.has kc c.cells kbm):∀(k i:Nat),i+k=6->∀a b:Int,Runs (go (.pt kb3 km9 [(2,.p (.new kc 0)),(5,.i a),(9,.i b),(10,.i (i:Int))]) h) λv h'=>(∃r:Bool,v=.bool r)/\h'=h:=by
 have y:∀a b:Int,Runs (cond (decide (a<=2000)) (((h.cell ((Ref.new kc 0).add 0)).bind (AV.asInt .i64)).bind λA=>some (.bool (decide ((IntKind.wrap .i64 (b*(imax 0 (imin A 16))))<=20000)),h)) (some (.bool false,h))) λv h'=>(∃r:Bool,v=.bool r)/\h'=h:=λa b =>
  qbd (λ_=>qz (B.rd 0 rfl qcn) (qy ⟨⟨_,rfl⟩,rfl⟩)) λ_=>qy ⟨⟨_,rfl⟩,rfl⟩
 intro k
 induction k with
 | zero =>
  intro i hi a b;rw[kyn];refine qz (B.rd 1 rfl qcn) (qbd (λd=>?_) λd=>y a b);exact qbc (qby (by omega)) (y a b)
 | succ k ih =>
  intro i hi a b;rw[kyn];refine qz (B.rd 1 rfl qcn) (qbd (λd=>?_) λd=>y a b);refine qbb (qbx (by omega)) ?_;rw[kj (by omega)];exact ih (i+1) (by omega) _ _
theorem few_8(Q:Sq Ef.tb h St tsl ts){p:Nat}(U:p<ts.length)(V:p<20)
  (H:∀a b:Int,Runs (go (.pt kb3 kip [(1,tsl.v),(2,.p (.new kc 0)),(5,.i a),(6,.i b),(7,.i ((p+1:Nat):Int))]) h) λv h'=>(∃r:Bool,v=.bool r)/\h'=h) :
  ∀(k i:Nat),i+k=20->∀a b:Int,Runs (go (.pt kb3 kkf [(1,tsl.v),(2,.p (.new kc 0)),(5,.i a),(6,.i b),(7,.i (p:Int)),(8,.i (i:Int))]) h) λv h'=>(∃r:Bool,v=.bool r)/\h'=h:=by
 obtain⟨r,s1,s2,s3,e,c1,A,C,n⟩:=Q.tb U
 have y:∀a b:Int,Runs (cond (decide (a>2000)) (some (.bool false,h)) (go (.pt kb3 kip [(1,tsl.v),(2,.p (.new kc 0)),(5,.i a),(6,.i b),(7,.i (IntKind.wrap .i64 ((p:Int)+1)))]) h)) λv h'=>(∃r:Bool,v=.bool r)/\h'=h:=λa b =>
  qbd (λ_=>qy ⟨⟨_,rfl⟩,rfl⟩) λ_=>by
   rw[kj (by omega)];exact H a b
 intro k
 induction k with
 | zero =>
  intro i hi a b;rw[kv8];refine qz e (qz C (qbd (λd=>?_) λd=>y a b));exact qbc (qby (by omega)) (y a b)
 | succ k ih =>
  intro i hi a b;rw[kv8];refine qz e (qz C (qbd (λd=>?_) λd=>y a b));rw[n.cols.len,qbw]at d;obtain⟨r2,t,X,Y,-,n'⟩:=n.cols.sl (show i<ts[p].cols.length by omega);refine qbb (qbx (by omega)) (qz e (qz C (qz X (qz Y (qz e (qz A ?_))))));rw[kj (i:=i) (by omega)];refine qbd (λF=>?_) λF=>ih (i+1) (by omega) _ _;rw[n.bins.len,qbw]at F;obtain⟨r3,I,K⟩:=n.bins.int (show i<ts[p].bins.length by omega);refine qz e (qz A (qz I (qz K (qbd (λZ=>?_) λZ=>ih (i+1) (by omega) _ _))));exact qz e (qz A (qz I (qz K (ih (i+1) (by omega) _ _))))
theorem few_4(B:h.has kc c.cells kbm)(y:Sq Ef.tb h St tsl ts):∀(k i:Nat),i+k=20->∀a b:Int,Runs (go (.pt kb3 kip [(1,tsl.v),(2,.p (.new kc 0)),(5,.i a),(6,.i b),(7,.i (i:Int))]) h) λv h'=>(∃r:Bool,v=.bool r)/\h'=h:=by
 intro k
 induction k with
 | zero =>
  intro i hi a b;rw[k3f];refine qbd (λd=>qbc (qby (by omega)) (few_18 B 6 0 (by omega) _ _)) λd=>few_18 B 6 0 (by omega) _ _
 | succ k ih =>
  intro i hi a b;rw[k3f];refine qbd (λd=>?_) λd=>few_18 B 6 0 (by omega) _ _;rw[y.len,qbw]at d;have A:i<ts.length:=by omega
  obtain⟨r,s1,s2,s3,e,C,H,F,n⟩:=y.tb A;refine qbb (qbx (by omega)) (qz e (qz C (qz e (qz F ?_))));exact few_8 y A (by omega) (λa b=>ih (i+1) (by omega) a b) 20 0 (by omega) _ _
theorem few_is(A:Sq Ef.tb h St tsl ts):Runs (go (.fn kb3 [.agg c.cells,tsl.v]) h) λv h'=>(∃r:Bool,v=.bool r)/\Grow h h':=by
 show Runs (go (.fn kb3 [.agg [.i c.trees,.i c.depth,.i c.lambda,.i c.gamma,.i c.num,.i c.den,.i c.loss,.i c.clip],tsl.v]) h) _;rw[kbf8];exact q0 λh1 b1 y=>(few_4 (c:=c) b1 (A.grow y) 20 0 (by omega) 0 0).imp λv h' ⟨a,b⟩=>⟨a,by rw[b];exact y⟩
end
section
variable{h:AH}{S S':Fp}{s u:Sl}{m:List (List Nd)}
theorem same_9(M:Sq EM h S s m)(Q:Sq EM h S' u m){C F:Nat}(B1:h.has C [s.v] kcr)(B2:h.has F [u.v] kcr){z:Nat}(K:z<m.length)
  (H:Runs (go (.pt kd5 km4 [(2,.p (.new C 0)),(3,.p (.new F 0)),(5,.i ((z+1:Nat):Int))]) h) λv h'=>v=.bool true/\h'=h) :
  ∀(k i:Nat),i+k=m[z].length->Runs (go (.pt kd5 kp4 [(2,.p (.new C 0)),(3,.p (.new F 0)),(5,.i (z:Int)),(6,.i (i:Int))]) h) λv h'=>v=.bool true/\h'=h:=by
 obtain⟨r1,t1,I,-,a1,n1⟩:=M.sl K;obtain⟨r2,t2,U,-,a2,V⟩:=Q.sl K;have X:=M.short;intro k
 induction k with
 | zero =>
  intro i hi;rw[kzv];refine qz (B1.rd 0 rfl qcm) (qz I (qz a1 ?_));rw[n1.len];refine qbc (qby (by omega)) ?_;rw[kj (by omega)];exact H
 | succ k ih =>
  intro i hi;have A:i<m[z].length:=by omega
  obtain⟨r3,y,Y,Z,y2,y3,y4,y5,y6⟩:=n1.nd A;obtain⟨r4,x,x0,x1,x2,x3,x4,x5,x6⟩:=V.nd A;rw[kzv];refine qz (B1.rd 0 rfl qcm) (qz I (qz a1 (qbb (qbx (by rw[n1.len];omega)) ?_)));refine qz (B1.rd 0 rfl qcm) (qz I (qz a1 (qz y (qz Y (qz Z (qz y2 (qz y3 (qz y4 (qz y5 (qz y6 ?_))))))))));refine qz (B2.rd 0 rfl qcm) (qz U (qz a2 (qz x (qz x0 (qz x1 (qz x2 (qz x3 (qz x4 (qz x5 (qz x6 ?_))))))))));refine qbc (by simp) ?_;rw[kj (by have:=n1.short;omega)];exact ih (i+1) (by omega)
theorem same_4(M:Sq EM h S s m)(A:Sq EM h S' u m){C F:Nat}(B1:h.has C [s.v] kcr)(B2:h.has F [u.v] kcr) :
  ∀(k z:Nat),z+k=m.length->Runs (go (.pt kd5 km4 [(2,.p (.new C 0)),(3,.p (.new F 0)),(5,.i (z:Int))]) h) λv h'=>v=.bool true/\h'=h:=by
 intro k
 induction k with
 | zero =>
  intro z H;rw[k05];refine qz (B1.rd 0 rfl qcm) ?_;rw[M.len];exact qbc (qby (by omega)) (qy ⟨rfl,rfl⟩)
 | succ k ih =>
  intro z H;have y:z<m.length:=by omega
  obtain⟨r1,t1,I,-,a1,n1⟩:=M.sl y;obtain⟨r2,t2,K,-,a2,Q⟩:=A.sl y;rw[k05];refine qz (B1.rd 0 rfl qcm) (qbb (qbx (by rw[M.len];omega)) ?_);refine qz (B1.rd 0 rfl qcm) (qz I (qz a1 (qz (B2.rd 0 rfl qcm) (qz K (qz a2 ?_)))));refine qbc (by rw[n1.len,Q.len];simp) ?_;exact same_9 M A B1 B2 y (ih (z+1) (by omega)) m[z].length 0 (by omega)
theorem kbej(M:Sq EM h S s m)(A:Sq EM h S' u m):Runs (go (.fn kd5 [.agg [s.v],.agg [u.v]]) h) λv h'=>v=.bool true/\Grow h h':=by
 rw[k5u];refine q0 λh1 b1 C=>q0 λF b2 y=>?_;have G:=C.trans y;refine qz ((y.has b1).rd 0 rfl qcm) (qz (b2.rd 0 rfl qcm) (qbc (by rw[M.len,A.len];simp) ?_));exact(same_4 (M.grow G) (A.grow G) (y.has b1) b2 m.length 0 (by omega)).imp λv h' ⟨a,b⟩=>⟨a,by rw[b];exact G⟩
end
theorem CentralTrainsCard_law(h:AH)(U:Tab h){x1 x2 x3:AV}(z1:ArgV Pg h kbm x1)(z2:ArgV Pg h kui x2)(z3:ArgV Pg h kc1 x3):∃h',go (.fn kus [x1,x2,x3]) h=some (.bool true,h'):=by
 obtain⟨c,rfl⟩:=cfg_of z1;obtain⟨tsl,ts,rfl,K⟩:=k86 z2;obtain⟨ls,F,rfl,Q⟩:=int_of z3
 suffices H:Runs (go (.fn kus [.agg [.i c.trees,.i c.depth,.i c.lambda,.i c.gamma,.i c.num,.i c.den,.i c.loss,.i c.clip],tsl.v,ls.v]) h) λv _=>v=.bool true by
  obtain⟨_,h',e,rfl⟩:=H;exact⟨h',e⟩
 rw[kbbs];refine q0 λh1 b1 X=>?_;refine(kbid (U.grow X)).call λv h2 ⟨e,Y⟩=>?_;subst e;have Z:=X.trans Y;have B2:=Y.has b1;refine qz (seen rfl) ?_;refine rd8 B2 ?_;refine(few_is (c:=c) (K.grow Z)).call λv h3 ⟨⟨r,e⟩,g3⟩=>?_;subst e;have I:=Z.trans g3;have B3:=g3.has B2;refine qz (seen rfl) (qbd (λ_=>qy rfl) λ_=>?_);refine rd8 B3 ?_;refine(k3c (c:=c) (U.grow I) (K.grow I) (Q.grow I)).call λv h4 ⟨s,e,V,g4⟩=>?_;subst e;refine qz rfl (qz rfl (qbb rfl (qz (seenAt rfl qcm) (qz (seen qcn) ?_))));refine q0 λh5 b5 g5=>qba b5 rfl λh6 b6 u6=>?_;have y:Grow h4 h6:=g5.updr (qbp _) u6;have G6:=(I.trans g4).trans y;have B6:=(g4.trans y).has B3;refine rd8 B6 ?_;refine(kbdp (c:=c) (K.grow G6) (Q.grow G6)).call λv h7 ⟨s',u,e,V',W,g7⟩=>?_;subst e;refine qz rfl (qz rfl (qbb rfl (qz (seenAt rfl qcm) (qz (seen qcm) (qz (seen qcn) ?_)))));refine q0 λh8 b8 g8=>qba b8 rfl λh9 b9 u9=>?_;have A:Grow h7 h9:=g8.updr (qbp _) u9;have C:=g7.trans A;refine qz ((C.has b6).rd 0 rfl qcm) (qz (b9.rd 0 rfl qcm) ?_);refine(kbej (V.grow (y.trans C)) (V'.grow A)).call λv aa ⟨e,ac⟩=>?_;subst e;refine qz (seen rfl) (qbb rfl (qbb rfl (qy ?_)));rw[qbx rfl]
end Go.Ab
set_option maxRecDepth 10000
namespace Go.Ab
open Go.Proofs Go.Num
section
variable{ts:List Tb}{z:Nat}{c:Cfg}{g sc labels:List Int}
end
end Go.Ab
set_option maxRecDepth 10000
namespace Go.Ab
open Go.Proofs Go.Num Go.Heap
section
variable{h0:AH}{tsl ls l:Sl}{ts:List Tb}{labels:List Int}{St:Fp}{p kc km:Nat}{s2:Sl}{P:AV->AH->Prop}
end
end Go.Ab
set_option maxRecDepth 10000
namespace Go.Ab
open Go.Proofs Go.Num Go.Heap
section
variable{c:Cfg}{ts:List Tb}{g:List Int}{D N k:Nat}{sc0 sc:List Int}{V:List Wt}{nodes:List Nd}{x:Wt}
end
end Go.Ab
set_option maxRecDepth 10000
namespace Go.Ab
open Go.Proofs Go.Num Go.Heap
section
variable{c:Cfg}{ts:List Tb}{g:List Int}{D N k:Nat}{sc0 sc:List Int}{V:List Wt}{t:List Nd}
end
end Go.Ab
set_option maxRecDepth 10000
namespace Go.Ab
open Go.Proofs Go.Num Go.Heap
section
variable{h0:AH}{tsl:Sl}{ts:List Tb}{St:Fp}{p i:Nat}
end
section
variable{c:Cfg}{tsl ls us ml:Sl}{kc km:Nat}{hB:AH}{D:Nat}{P:AV->AH->Prop}
end
end Go.Ab
