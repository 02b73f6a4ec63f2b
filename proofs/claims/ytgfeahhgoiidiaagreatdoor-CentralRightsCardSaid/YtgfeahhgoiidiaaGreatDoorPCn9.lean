/- Words and laws that the last text joins. -/
import Derived.Test.YtgfeahhgoiidiaaGreatDoorPH1
import Derived.Test.YtgfeahhgoiidiaaGreatDoorPG3
set_option linter.unusedVariables false
set_option linter.unusedSimpArgs false
set_option linter.unusedSectionVars false
set_option maxRecDepth 10000
namespace Go.Ab
open Go.Proofs Go.Num Go.Heap
theorem Md.same{h h':AH}{T:Fp}(m:Md T h h'){i:Nat}{cs:List AV}{e:TypeId}(b:h.has i cs e)(n:¬T i)(o k:Nat):SameAt h h' (.new i o) k:=⟨fun j _=>by
 rw[Ref.add_new];simp only[AH.cell,m.blk i b.lt n],fun _=>m.blk i b.lt n⟩
theorem k9n{n:Nat}(h:n≤1000000):growOk Pg n kbz 1=true:=by
 unfold growOk;rw[k7j,kw3];have h1:n*24≤ks:=by simp only[ks];omega
 have h2:n≤ks:=by simp only[ks];omega
 simp[h1,h2]
section
variable{h0:AH}{S S':Fp}{s t:Sl}
theorem k0s{xs ys:List Int}(n:Sq EI h0 S s xs)(m:Sq EI h0 S' t ys)(hl:xs.length=ys.length):∀(k i:Nat),i+k=xs.length→
  go (.pt kgx kne [(0,s.v),(1,t.v),(12,.int .i64 (xs.length:Int)),(13,.int .i64 (i:Int))]) h0=some (.bool (decide (xs.drop i=ys.drop i)),h0):=by
 intro k
 induction k with
 | zero =>
  intro i hi;rw[ktt,condF (decide_eq_false (by omega)),List.drop_of_length_le (by omega),List.drop_of_length_le (by omega)];rfl
 | succ k ih =>
  intro i hi;have h1:i<xs.length:=by omega
  have h2:i<ys.length:=by omega
  obtain⟨r,e1,e2⟩:=n.int h1;obtain⟨q,e3,e4⟩:=m.int h2;rw[ktt,e1,e3,condT (decide_eq_true (by omega))];simp only[Option.bind_some,e2,e4];by_cases c:xs[i]=ys[i]
  ·rw[condF (by rw[decide_eq_true c];rfl),ko (by have:=n.short;omega),ih (i+1) (by omega),List.drop_eq_getElem_cons h1,List.drop_eq_getElem_cons h2];rw[decide_eq_decide.2 (show xs.drop (i+1)=ys.drop (i+1)↔xs[i]::xs.drop (i+1)=ys[i]::ys.drop (i+1)from⟨fun e=>by rw[c,e],fun e=>(List.cons.inj e).2⟩)]
  ·rw[condT (by rw[decide_eq_false c];rfl),List.drop_eq_getElem_cons h1,List.drop_eq_getElem_cons h2,decide_eq_false (fun e=>c (List.cons.inj e).1)]
theorem kbaf{xs ys:List Int}(n:Sq EI h0 S s xs)(m:Sq EI h0 S' t ys):go (.fn kgx [s.v,t.v]) h0=some (.bool (decide (xs=ys)),h0):=by
 rw[kbbt,n.len,m.len];by_cases c:xs.length=ys.length
 ·rw[condF (by rw[decide_eq_true (by omega)];rfl)];exact k0s n m c xs.length 0 (by omega)
 ·rw[condT (by rw[decide_eq_false (by omega)];rfl),decide_eq_false (fun e=>c (by rw[e]))]
theorem k1u{xs:List Int}(n:Sq EI h0 S s xs):Runs (go (.fn kdg [s.v,.func (.func kdj) [] []]) h0) fun v h'=>v=.bool (oddL xs)∧Grow h0 h':=by
 rw[kbco];refine Runs.contains (xs:=xs) ?_;rw[k7h,n.len];refine km2 (n:=xs.length) (G:=fun z h=>go (.pt kbn kcg [(0,s.v),(1,.func (.func kdj) [] []),(7,.int .i64 (xs.length:Int)),(8,.int .i64 z)]) h) (fun i h P hi g hT hF=>?_) (fun h g=>?_) xs.length 0 (by omega) (Grow.refl h0) (fun j hj=>by omega)
 ·obtain⟨r,e1,e2⟩:=(n.grow g).int hi;rw[List.getElem?_eq_getElem hi]at hT hF;simp only[Option.any_some]at hT hF;show Runs (go _ _) _;rw[kuc];refine Runs.ifT (decide_eq_true (by omega)) (Runs.step e1 (Runs.step e2 ?_))
  have key:go (.fn kdj [.int .i64 xs[i]]) h=some (.bool (decide (xs[i] < -1048576)||decide (xs[i]>1048576)),h):=by
   rw[kbbd];cases decide (xs[i] < -1048576)<;>rfl
  refine Runs.step key (Runs.step (seen rfl) ?_);rw[ko (by have:=n.short;omega)];exact Runs.cond (fun c=>Runs.ret (hT h g c)) fun c=>hF h g c
 ·rw[kuc,condF (decide_eq_false (by omega))]
end
section
variable{c:Cfg}{scs ls tsl:Sl}{labels:List Int}{ts:List Tb}{hE:AH}{St SL:Fp}
theorem k2b(Qt:Sq Ef.tb hE St tsl ts)(Q:Sq EI hE SL ls labels)(h16:ts.length≤16)(hp:0<ts.length):∀(k i:Nat),i+k=ts.length→∀{h:AH},Grow hE h→
  Runs (go (.pt kf8 kna [(1,tsl.v),(2,ls.v),(23,tsl.v),(24,.int .i64 (ts.length:Int)),(25,.int .i64 (i:Int))]) h) fun v h'=>v=.int .i64 (if((ts.drop i).any fun t=>!tabR t||(!decide (t.ids=(ts.getD 0 Tb.no).ids)||decide (t.ids.length=0)))=true then 20 else if labels.length≠(ts.getD 0 Tb.no).ids.length then 1 else if oddL labels then 1 else 0)∧Grow hE h':=by
 have hg0:ts.getD 0 Tb.no=ts[0]:=by simp[List.getD,hp]
 rw[hg0];intro k
 induction k with
 | zero =>
  intro i hi h g;rw[kx6,List.drop_of_length_le (by omega)];refine Runs.ifF (decide_eq_false (by omega)) ?_;obtain⟨r,s1,s2,s3,e,c1,c2,c3,n⟩:=(Qt.grow g).tb hp;refine Runs.step e (Runs.step c1 ?_);rw[(Q.grow g).len,n.ids.len];refine Runs.cond (fun a=>Runs.ret ⟨?_,g⟩) fun a=>?_
  ·have:labels.length≠ts[0].ids.length:=by
    intro e;rw[e,decide_eq_true rfl]at a;cases a
   simp[this]
  ·have:labels.length=ts[0].ids.length:=by
    rw[Bool.not_eq_false',decide_eq_true_eq]at a;omega
   refine(k1u (Q.grow g)).call fun v h1 ⟨ev,g1⟩=>?_;subst ev;refine Runs.step (seen rfl) (Runs.cond (fun b=>Runs.ret ⟨?_,g.trans g1⟩) fun b=>Runs.ret ⟨?_,g.trans g1⟩)
   ·simp[this,b]
   ·simp[this,b]
 | succ k ih =>
  intro i hi h g;have hlt:i<ts.length:=by omega
  obtain⟨r,s1,s2,s3,e,c1,c2,c3,n⟩:=(Qt.grow g).tb hlt;obtain⟨r0,t1,t2,t3,e0,d1,d2,d3,n0⟩:=(Qt.grow g).tb hp;rw[kx6,List.drop_eq_getElem_cons hlt,List.any_cons];refine Runs.ifT (decide_eq_true (by omega)) (Runs.step e (Runs.step c1 (Runs.step c2 (Runs.step c3 (Runs.new fun h1 b1 g1=>Runs.puts b1 rfl fun h2 b2 u2=>?_)))));have G2:Grow h h2:=g1.updr (Nat.le_refl _) u2;refine Runs.step (b2.rd 0 rfl (asSl_v _)) (Runs.step (b2.rd 1 rfl (asSl_v _)) (Runs.step (b2.rd 2 rfl (asSl_v _)) ?_));refine(kxi (n.grow G2)).call fun v h3 ⟨ev,g3⟩=>?_;subst ev;have G3:=G2.trans g3;refine Runs.step (seen rfl) (Runs.cond (fun a=>Runs.ret ⟨?_,g.trans G3⟩) fun a=>?_)
  ·rw[Bool.not_eq_true']at a;simp[a]
  rw[Bool.not_eq_false']at a;obtain⟨r0,t1,t2,t3,e0,d1,d2,d3,n0⟩:=(Qt.grow (g.trans G3)).tb hp;refine Runs.step ((g3.has b2).rd 0 rfl (asSl_v _)) (Runs.step e0 (Runs.step d1 ?_));refine Runs.step (kbaf (n.grow G3).ids n0.ids) (Runs.step (seen rfl) (Runs.cond (fun b=>Runs.ret ⟨?_,g.trans G3⟩) fun b=>?_))
  ·rw[Bool.not_eq_true']at b;simp[b]
  rw[Bool.not_eq_false']at b;refine Runs.step ((g3.has b2).rd 0 rfl (asSl_v _)) ?_;rw[n.ids.len];refine Runs.cond (fun d=>Runs.ret ⟨?_,g.trans G3⟩) fun d=>?_
  ·have:ts[i].ids.length=0:=by
    have:=of_decide_eq_true d;omega
   simp[this]
  rw[ko (by omega)]
  have hne:decide (ts[i].ids.length=0)=false:=by
   have:=of_decide_eq_false d;exact decide_eq_false (by omega)
  rw[a,b,hne];exact ih (i+1) (by omega) (g.trans G3)
theorem k0e(Qt:Sq Ef.tb hE St tsl ts)(Q:Sq EI hE SL ls labels):Runs (go (.fn kf8 [.agg c.cells,tsl.v,ls.v]) hE) fun v h'=>v=.int .i64 (faultC c ts labels)∧Grow hE h':=by
 unfold Cfg.cells;rw[k5j];refine Runs.new fun h1 b1 g1=>?_;refine Runs.step (b1.rd 0 rfl (ke _ _)) (Runs.step (b1.rd 1 rfl (ke _ _)) (Runs.step (b1.rd 2 rfl (ke _ _)) (Runs.step (b1.rd 3 rfl (ke _ _)) (Runs.step (b1.rd 4 rfl (ke _ _)) (Runs.step (b1.rd 5 rfl (ke _ _)) (Runs.step (b1.rd 6 rfl (ke _ _)) (Runs.step (b1.rd 7 rfl (ke _ _)) ?_)))))));obtain⟨h2,e2,g2⟩:=kpr c h1;have G:=g1.trans g2;refine Runs.step e2 (Runs.step (seen rfl) ?_);rw[Qt.len];unfold faultC;refine Runs.cond (fun a=>Runs.ret ⟨by simp[a],G⟩) fun a=>?_;rw[if_neg (by simp[a])];refine Runs.cond (fun b=>Runs.ret ⟨?_,G⟩) fun b=>?_
 ·have:ts.length=0:=by have:=of_decide_eq_true b;omega
  simp[this]
 have hb:¬ts.length=0:=by have:=of_decide_eq_false b;omega
 rw[if_neg hb];refine Runs.cond (fun d=>Runs.ret ⟨?_,G⟩) fun d=>?_
 ·have:ts.length>16:=by have:=of_decide_eq_true d;omega
  simp[this]
 have hd:¬ts.length>16:=by have:=of_decide_eq_false d;omega
 rw[if_neg hd];have:=k2b Qt Q (by omega) (by omega) ts.length 0 (by omega) G;rw[List.drop_zero]at this;exact this
theorem kq9(c:Cfg)(ts:List Tb)(g:List Int):∀(n:Nat)(W:List Wt)(nodes:List Nd)(sc:List Int),(growS c ts g n W nodes sc).2.length=sc.length
 | 0,W,nodes,sc=>rfl
 | n+1,[],nodes,sc=>rfl
 | n+1,x::W,nodes,sc=>by
  rw[growS];cases bestS c ts g x with
  | nil=>exact(kq9 c ts g n W _ _).trans (koq _ _ _)
  | cons b bs=>exact kq9 c ts g n _ _ sc
theorem kwn(c:Cfg)(sc labels:List Int):(gradS c sc labels).length=labels.length:=by simp[gradS]
theorem k2g{hB:AH}{sc:List Int}{gsl:Sl}{jg js kc kr km:Nat}{tr i0:Int}(Q:Sq EI hB SL ls labels)(B:hB.has kc c.cells kdu)(V:GF EI T.int hB Fp.no scs (some js) sc)(hsc:sc.length=labels.length)(hL:labels.length≤256)(nL:¬SL jg)(hk:kc≠jg)(hj:js≠jg){P:AV→AH→Prop}
  (H:∀h',Md (fun j=>j=jg) hB h'→GF EI T.int h' Fp.no gsl (some jg) (gradS c sc labels)→Runs (go (.pt kc0 kjm [(1,tsl.v),(2,ls.v),(3,.ptr (some (.new kc 0))),(6,.ptr (some (.new kr 0))),(9,scs.v),(10,.ptr (some (.new km 0))),(11,gsl.v),(26,.int .i64 tr),(27,.int .i64 i0),(32,ls.v),(33,.int .i64 (labels.length:Int)),(34,.int .i64 (labels.length:Int))]) h') P) :
  ∀(k i:Nat),i+k=labels.length→∀{h:AH},Md (fun j=>j=jg) hB h→GF EI T.int h Fp.no gsl (some jg) ((gradS c sc labels).take i++List.replicate k 0)→
  Runs (go (.pt kc0 kjm [(1,tsl.v),(2,ls.v),(3,.ptr (some (.new kc 0))),(6,.ptr (some (.new kr 0))),(9,scs.v),(10,.ptr (some (.new km 0))),(11,gsl.v),(26,.int .i64 tr),(27,.int .i64 i0),(32,ls.v),(33,.int .i64 (labels.length:Int)),(34,.int .i64 (i:Int))]) h) P:=by
 have hgl:=kwn c sc labels;intro k
 induction k with
 | zero =>
  intro i hi h m v;obtain rfl:i=labels.length:=by omega
  rw[List.take_of_length_le (by omega)]at v;exact H h m (by simpa using v)
 | succ k ih =>
  intro i hi h m v;have hlt:i<labels.length:=by omega
  have hls:i<sc.length:=by omega
  have Q1:=Q.md m fun j a e=>nL (e▸a);have B1:=m.has B hk;have V1:=GF.md m (S:=Fp.no) (fun j a _=>a) V fun k e=>by cases e;exact hj
  obtain⟨r,e1,e2⟩:=Q1.int hlt;obtain⟨r2,e3,e4⟩:=V1.sq.int hls;rw[ktl];refine Runs.ifT (decide_eq_true (by omega)) (Runs.step e1 (Runs.step e2 ?_));refine Runs.step (B1.rd 0 rfl (ke _ _)) (Runs.step (B1.rd 1 rfl (ke _ _)) (Runs.step (B1.rd 2 rfl (ke _ _)) (Runs.step (B1.rd 3 rfl (ke _ _)) (Runs.step (B1.rd 4 rfl (ke _ _)) (Runs.step (B1.rd 5 rfl (ke _ _)) (Runs.step (B1.rd 6 rfl (ke _ _)) (Runs.step (B1.rd 7 rfl (ke _ _)) ?_)))))));refine Runs.step e3 (Runs.step e4 ?_);obtain⟨h1,e5,g1⟩:=k2f c sc[i] labels[i] h;refine Runs.step e5 (Runs.step rfl (Runs.step (seen (ke _ _)) (Runs.step (seen (ke _ _)) ?_)));have v1:=v.grow g1;have hvl:((gradS c sc labels).take i++List.replicate (k+1) 0).length=labels.length:=by simp;omega
  obtain⟨r3,h2,e6,p6,V2,u2⟩:=v1.set (T:=Fp.no) (x:=(c.grad sc[i] labels[i]).1) (show EI.has h1 Fp.no [.int .i64 (c.grad sc[i] labels[i]).1] _ from rfl) Fp.not_no (kbb (show i<_ by rw[hvl];exact hlt));rw[← v1.len]at e6;have u2:Upd h1 h2 jg:=u2;refine Runs.step e6 (Runs.step p6 ?_);rw[ko (by omega)];refine ih (i+1) (by omega) ((m.thenG g1).trans (u2.md rfl)) ?_
  have hset:((gradS c sc labels).take i++List.replicate (k+1) 0).set i (c.grad sc[i] labels[i]).1=(gradS c sc labels).take (i+1)++List.replicate k 0:=by
   have hti:((gradS c sc labels).take i).length=i:=by simp;omega
   rw[List.set_append_right _ _ (by omega),hti,Nat.sub_self,List.replicate_succ,List.set_cons_zero,List.take_succ_eq_append_getElem (by omega),List.append_assoc];congr 1;simp[gradS,List.getD,hls,hlt]
  rw[← hset];exact V2.mono (fun j x=>x.elim id id) Fp.not_no
def TrainP(hE:AH)(m:List (List Nd))(e:Int)(v:AV)(h':AH):Prop:=∃s:Sl,v=.tup [.agg [s.v],.int .i64 e]∧Sq EM h' Fp.all s m∧Grow hE h'
theorem k5f(T0:Tab hE)(hf:faultC c ts labels=0)(Qt:Sq Ef.tb hE St tsl ts)(Q:Sq EI hE SL ls labels){kc kr km js:Nat}(hc0:hE.blks.size≤kc)(hr0:hE.blks.size≤kr)(hm0:hE.blks.size≤km)(hj0:hE.blks.size≤js)(ncm:kc≠km)(ncr:kc≠kr)(nrm:kr≠km)(ncj:kc≠js)(nrj:kr≠js)(nmj:km≠js) :
  ∀(k i:Nat),i+k=c.trees.toNat→∀(m:List (List Nd))(sc:List Int)(l x:Sl)(jm:Option Nat)(S:Fp)(h:AH),m.length=i→sc.length=labels.length→Md Fp.no hE h→h.has kc c.cells kdu→h.has kr [x.v] kce→h.has km [l.v] kce→GF EM kbz h S l jm m→(∀j,S j∨jm=some j→hE.blks.size≤j∧j≠kc∧j≠kr∧j≠km∧j≠js)→GF EI T.int h Fp.no scs (some js) sc→
  Runs (go (.pt kc0 knc [(1,tsl.v),(2,ls.v),(3,.ptr (some (.new kc 0))),(6,.ptr (some (.new kr 0))),(9,scs.v),(10,.ptr (some (.new km 0))),(26,.int .i64 c.trees),(27,.int .i64 (i:Int))]) h) (TrainP hE (trainS c ts labels k m sc).1 0):=by
 obtain⟨hc,hts0,h16,hbad,hll,hodd⟩:=kr5 hf;have hd:=Cfg.right_depth hc;have hp:0<ts.length:=List.length_pos_iff.2 hts0;have hg0:ts.getD 0 Tb.no=ts[0]:=by simp[List.getD,hp]
 have hz:∀(p:Nat)(hp:p<ts.length),tabR ts[p]=true∧ts[p].ids.length=labels.length:=fun p hp=>by
  obtain⟨a,b,_⟩:=ktz hbad hp;exact⟨a,by rw[b,hll]⟩
 have hL:labels.length≤256:=by
  rw[← (hz 0 hp).2];have:=(hz 0 hp).1;unfold tabR idsR at this;simp at this;omega
 intro k
 induction k with
 | zero =>
  intro i hi m sc l x jm S h hm hs M B Br Bm V hS Vs;rw[kts];refine Runs.ifF (decide_eq_false (by omega)) ?_;refine Runs.step (Bm.rd 0 rfl (asSl_v _)) (Runs.puts Br rfl fun h1 B1 u1=>?_);refine Runs.step (B1.rd 0 rfl (asSl_v _)) (Runs.ret ⟨l,rfl,?_,?_⟩)
  ·have nS:¬S kr:=fun a=>(hS kr (.inl a)).2.2.1 rfl;exact(V.upd u1 nS fun k e=>(hS k (.inr e)).2.2.1).sq.mono fun _ _=>trivial
  ·exact(M.next (u1.md (T:=fun j=>j=kr) rfl) fun j hj e=>by omega).grow fun _ _ a=>a
 | succ k ih =>
  intro i hi m sc l x jm S h hm hs M B Br Bm V hS Vs;rw[kts];refine Runs.ifT (decide_eq_true (by omega)) ?_;obtain⟨h1,e1,g1,V1⟩:=GF.mk (E:=EI) (elem:=T.int) (S:=Fp.no) (h:=h) (n:=labels.length) (bytes:=Pg.bytesOf T.int) (l:=(ls.len:Int)) (c:=(ls.len:Int)) (cs:=[.int .i64 0]) (x:=(0:Int)) (fun h'=>rfl) Fp.not_no (by rw[Q.len]) (by rw[Q.len]) (by rw[knl];omega) (by omega);refine Runs.step e1 ?_;rw[Q.len];have zM:=M.size;have zB:=B.lt;have zr:=Br.lt;have zm:=Bm.lt;have zs:js<h.blks.size:=Vs.lt;have M1:=M.thenG g1;have Qb:Sq EI h1 (fun j=>SL j∧j<hE.blks.size) ls labels:=Q.bound.md M1 fun j _ a=>a;have Qtb:Sq Ef.tb h1 (fun j=>St j∧j<hE.blks.size) tsl ts:=Qt.bound.md M1 fun j _ a=>a;refine k2g (jg:=h.blks.size) Qb (g1.has B) (Vs.grow g1) hs hL (fun a=>by have:=a.2;omega) (by omega) (by omega) (fun h2 m2 V2=>?_) labels.length 0 (by omega) (Md.refl _ _) (by simpa using V1);rw[ktl];refine Runs.ifF (decide_eq_false (by omega)) ?_;have B2:=m2.has (g1.has B) (by omega);have Br2:=m2.has (g1.has Br) (by omega);have Bm2:=m2.has (g1.has Bm) (by omega);have M2:Md Fp.no hE h2:=M1.next m2 fun j hj e=>by omega
  refine Runs.step (Bm2.rd 0 rfl (asSl_v _)) ?_;refine Runs.step (B2.rd 0 rfl (ke _ _)) (Runs.step (B2.rd 1 rfl (ke _ _)) (Runs.step (B2.rd 2 rfl (ke _ _)) (Runs.step (B2.rd 3 rfl (ke _ _)) (Runs.step (B2.rd 4 rfl (ke _ _)) (Runs.step (B2.rd 5 rfl (ke _ _)) (Runs.step (B2.rd 6 rfl (ke _ _)) (Runs.step (B2.rd 7 rfl (ke _ _)) ?_)))))));have Vs2:GF EI T.int h2 Fp.no scs (some js) sc:=GF.md m2 (S:=Fp.no) (fun j a _=>a) (Vs.grow g1) fun k e=>by cases e;omega
  have Qt2:Sq Ef.tb h2 (fun j=>St j∧j<hE.blks.size) tsl ts:=Qt.bound.md M2 fun j _ a=>a;refine(k3a (z:=labels.length) (T0.md M2) hc V2.sq Qt2 Vs2 (fun a=>a.elim (fun e=>by cases e;omega) id) (fun a=>by have:=a.2;omega) (kwn _ _ _) hs hL h16 hz).call fun v h3 ⟨nd,jn,ev,hjn,Vn,Vs3,m3⟩=>?_;subst ev;refine Runs.step rfl (Runs.ifT rfl (Runs.step (seenAt rfl (asSl_v _)) ?_));refine Runs.when (m3.same Bm2 nmj 0 1) ?_;refine Runs.new fun h4 b4 g4=>?_;have Bm3:=m3.has Bm2 nmj;refine Runs.when (g4.same Bm3 0 1) ?_;refine Runs.step (kd2 (n:=1) b4 (by rw[ko9];rfl)) ?_;have zh1:=g1.size;have zh2:=m2.size;have nSg:∀j,j=h.blks.size→¬(S j∧j<h.blks.size):=fun j e a=>by have:=a.2;omega
  have V4:GF EM kbz h4 (fun j=>S j∧j<h.blks.size) l jm m:=by
   have V2':=GF.md m2 (fun j a e=>by have:=a.2;omega) (V.bound.grow g1) fun k e x=>by
    subst e;have:=V.lt;have this:k<h.blks.size:=this;omega
   exact(GF.md m3 (fun j a e=>(hS j (.inl a.1)).2.2.2.2 e) V2' fun k e x=>(hS k (.inr e)).2.2.2.2 x).grow g4
  obtain⟨s5,h5,e5,V5,u5⟩:=V4.push (P:=Pg) (T:=Fp.opt (some jn)) (cs:=[nd.v]) (x:=(growS c ts (gradS c sc labels) 64 [firstW labels.length] [Nd.no] sc).1) ⟨nd,rfl,(Vn.grow g4).sq.mono fun j a=>a.elim id False.elim⟩ (by
   cases jm with
   | none=>trivial
   | some y =>
    intro e;cases e;have:=V.lt;have this:jn<h.blks.size:=this;omega) (k9n (by omega))
  refine Runs.step e5 (Runs.step (asSl_v _) ?_);have hjm4:∀y,jm=some y→y<h.blks.size:=fun y e=>by subst e;exact V.lt
  have u5m:Md (fun j=>jm=some j) h4 h5:=UpdO.md u5 fun k e=>e;have z3:=m3.size;have z4:h3.blks.size≤h4.blks.size:=g4.size;have z5:=u5m.size;have B5:=u5m.has ((g4.has (m3.has B2 ncj))) (fun e=>(hS kc (.inr e)).2.1 rfl);have Br5:=u5m.has ((g4.has (m3.has Br2 nrj))) (fun e=>(hS kr (.inr e)).2.2.1 rfl);have Bm5:=u5m.has ((g4.has Bm3)) (fun e=>(hS km (.inr e)).2.2.2.1 rfl);have Vs5:GF EI T.int h5 Fp.no scs (some js) (growS c ts (gradS c sc labels) 64 [firstW labels.length] [Nd.no] sc).2:=GF.md u5m (S:=Fp.no) (fun j a _=>a) (Vs3.grow g4) fun k e x=>by cases e;exact(hS js (.inr x)).2.2.2.2 rfl
  refine Runs.puts Bm5 rfl fun h6 B6 u6=>?_;rw[ko (by omega)]
  have hF:∀j,(Fp.or (fun j=>S j∧j<h.blks.size) (Fp.opt (some jn)) j∧j<h4.blks.size)∨some h4.blks.size=some j→hE.blks.size≤j∧j≠kc∧j≠kr∧j≠km∧j≠js:=by
   rintro j (⟨a | a,b⟩ | a)
   ·exact hS j (.inl a.1)
   ·cases a;omega
   ·cases a;omega
  have nK:¬(Fp.or (fun j=>S j∧j<h.blks.size) (Fp.opt (some jn)) km∧km<h4.blks.size):=fun a=>(hF km (.inl a)).2.2.2.1 rfl;have:=ih (i+1) (by omega) (m++[(growS c ts (gradS c sc labels) 64 [firstW labels.length] [Nd.no] sc).1]) (growS c ts (gradS c sc labels) 64 [firstW labels.length] [Nd.no] sc).2 s5 x (some h4.blks.size) _ h6 (by simp[hm]) ?_ ?_ (B5.updr ncm u6) (Br5.updr nrm u6) B6 (V5.upd u6 nK fun k e=>by cases e;omega) hF (Vs5.upd u6 Fp.not_no fun k e=>by cases e;exact fun e=>nmj e.symm)
  ·exact this
  ·have:=kq9 c ts (gradS c sc labels) 64 [firstW labels.length] [Nd.no] sc;omega
  ·have M4:Md Fp.no hE h4:=(M2.next m3 fun j hj e=>by omega).thenG g4;exact(M4.next u5m fun j hj e=>by have:=(hS j (.inr e)).1;omega).next (u6.md (T:=fun j=>j=km) rfl) fun j hj e=>by omega
theorem k5q(T0:Tab hE)(Qt:Sq Ef.tb hE St tsl ts)(Q:Sq EI hE SL ls labels):Runs (go (.fn kc0 [.agg c.cells,tsl.v,ls.v]) hE) (TrainP hE (trainC c ts labels).1 (trainC c ts labels).2.2):=by
 show Runs (go (.fn kc0 [.agg [.int .i64 c.trees,.int .i64 c.depth,.int .i64 c.lambda,.int .i64 c.gamma,.int .i64 c.num,.int .i64 c.den,.int .i64 c.loss,.int .i64 c.clip],tsl.v,ls.v]) hE) _;rw[kbbs];refine Runs.new fun h1 b1 g1=>Runs.new fun h2 b2 g2=>?_;have b1':=g2.has b1;refine Runs.step (b1'.rd 0 rfl (ke _ _)) (Runs.step (b1'.rd 1 rfl (ke _ _)) (Runs.step (b1'.rd 2 rfl (ke _ _)) (Runs.step (b1'.rd 3 rfl (ke _ _)) (Runs.step (b1'.rd 4 rfl (ke _ _)) (Runs.step (b1'.rd 5 rfl (ke _ _)) (Runs.step (b1'.rd 6 rfl (ke _ _)) (Runs.step (b1'.rd 7 rfl (ke _ _)) ?_)))))));have G2:=g1.trans g2;refine(k0e (c:=c) (Qt.grow G2) (Q.grow G2)).call fun v h3 ⟨ev,g3⟩=>?_;subst ev;refine Runs.step (seen (ke _ _)) ?_;have G3:=G2.trans g3;have z1:=g1.size;refine Runs.cond (fun a=>?_) fun a=>?_
 ·have hf:¬faultC c ts labels=0:=by
   intro e;rw[e]at a;simp at a
  refine Runs.puts (g3.has b2) rfl fun h4 b4 u4=>Runs.step (b4.rd 0 rfl (asSl_v _)) (Runs.ret ⟨⟨none,0,.is 0⟩,?_,?_,?_⟩)
  ·unfold trainC;rw[if_neg hf]
  ·unfold trainC;rw[if_neg hf];exact Sq.nil EM h4 Fp.all
  ·exact G3.updr (by omega) u4
 ·have hf:faultC c ts labels=0:=by simpa using a
  have hh:=hf;obtain⟨hc,hts0,h16,hbad,hll,hodd⟩:=kr5 hh;have hp:0<ts.length:=List.length_pos_iff.2 hts0
  have hL:labels.length≤256:=by
   have hg0:ts.getD 0 Tb.no=ts[0]:=by simp[List.getD,hp]
   rw[hll,hg0];have:=(ktz hbad hp).1;unfold tabR idsR at this;simp at this;omega
  have hd:=Cfg.right_depth hc;obtain⟨h4,e4,g4,V4⟩:=GF.mk (E:=EI) (elem:=T.int) (S:=Fp.no) (h:=h3) (n:=labels.length) (bytes:=Pg.bytesOf T.int) (l:=(ls.len:Int)) (c:=(ls.len:Int)) (cs:=[.int .i64 0]) (x:=(0:Int)) (fun h'=>rfl) Fp.not_no (by rw[Q.len]) (by rw[Q.len]) (by rw[knl];omega) (by omega);refine Runs.step e4 ?_;refine Runs.new fun h5 b5 g5=>?_;have G35:Grow h2 h5:=(g3.trans g4).trans g5;have G5:=G2.trans G35;refine Runs.step ((G35.has b1').rd 0 rfl (ke _ _)) ?_;have z2:=b1.lt;have z2':=b2.lt;have z3:=g3.size;have z4:h3.blks.size<h4.blks.size:=V4.lt;have z12:h2.blks.size=h2.blks.size:=rfl;unfold trainC;rw[if_pos hf];exact k5f T0 hf Qt Q (kc:=hE.blks.size) (kr:=h1.blks.size) (km:=h4.blks.size) (js:=h3.blks.size) (by omega) (by omega) (by omega) (by omega) (by omega) (by omega) (by omega) (by omega) (by omega) (by omega) c.trees.toNat 0 (by omega) [] (List.replicate labels.length 0) _ _ none Fp.no h5 rfl (by simp) (G5.md _) (G35.has b1') (G35.has b2) b5 (GF.none EM kbz h5 Fp.no) (fun j a=>by rcases a with a | a;exact a.elim;cases a) (V4.grow g5)
end
def awT:Tb:=⟨[0,1,2,3],[2],[[0,0,1,1]]⟩
def awC:Cfg:=⟨1,1,1,0,1,1,0,0⟩
def awM:List Nd:=[⟨false,0,0,0,0,1,2⟩,leafN 6,leafN (-7)]
theorem kvz:(trainC awC [awT] [10,10,-10,-10]).1=[awM]∧(trainC awC [awT] [10,10,-10,-10]).2.2=0:=by decide +kernel
theorem khu{h:AH}{i:Nat}{xs:List Int}{e:TypeId}(b:h.has i (xs.map (AV.int .i64)) e)(hs:xs.length≤9223372036854775807):Sq EI h (Fp.or (fun j=>j=i) Fp.no) ⟨some (.new i 0),xs.length,.is xs.length⟩ xs:=by
 refine Sq.lit (rows:=xs.map fun x=>[AV.int .i64 x]) (e:=e) ?_ ?_ rfl hs
 ·have:(xs.map fun x=>[AV.int .i64 x]).flatten=xs.map (AV.int .i64):=by
   clear b hs
   induction xs with
   | nil=>rfl
   | cons x xs ih=>rw[List.map_cons,List.flatten_cons,ih];rfl
  rw[this];exact b
 ·clear b hs
  induction xs with
  | nil=>exact .nil
  | cons x xs ih=>exact .cons rfl ih
section
variable{h0:AH}
theorem k8v(T0:Tab h0):Runs (go (.fn kqj []) h0) fun v h'=>v=.bool true∧Grow h0 h':=by
 rw[k0i];refine Runs.new fun h1 b1 g1=>Runs.new fun h2 b2 g2=>Runs.new fun h3 b3 g3=>Runs.new fun h4 b4 g4=>Runs.new fun h5 b5 g5=>Runs.puts b5 rfl fun h6 b6 u6=>?_;have G6:Grow h4 h6:=g5.updr (Nat.le_refl _) u6;refine Runs.step (b6.rd 0 rfl (asSl_v _)) (Runs.step (b6.rd 1 rfl (asSl_v _)) (Runs.step (b6.rd 2 rfl (asSl_v _)) ?_));refine Runs.new fun h7 b7 g7=>Runs.new fun h8 b8 g8=>?_;have G48:=(G6.trans g7).trans g8;have G08:Grow h0 h8:=(((g1.trans g2).trans g3).trans g4).trans G48;have q1:Sq EI h8 Fp.all ⟨some (.new h0.blks.size 0),4,.is 4⟩ [0,1,2,3]:=(khu (xs:=[0,1,2,3]) (((g2.trans g3).trans g4 |>.trans G48).has b1) (by decide)).mono fun _ _=>trivial;have q2:Sq EI h8 Fp.all ⟨some (.new h1.blks.size 0),1,.is 1⟩ [2]:=(khu (xs:=[2]) (((g3.trans g4).trans G48).has b2) (by decide)).mono fun _ _=>trivial;have q3:Sq EI h8 Fp.all ⟨some (.new h2.blks.size 0),4,.is 4⟩ [0,0,1,1]:=(khu (xs:=[0,0,1,1]) ((g4.trans G48).has b3) (by decide)).mono fun _ _=>trivial;have q4:Sq (Ef.seq EI) h8 Fp.all ⟨some (.new h3.blks.size 0),1,.is 1⟩ [[0,0,1,1]]:=(Sq.lit (E:=Ef.seq EI) (rows:=[[Sl.v ⟨some (.new h2.blks.size 0),4,.is 4⟩]]) (G48.has b4) (.cons ⟨_,rfl,q3⟩ .nil) rfl).mono fun _ _=>trivial;have q5:Sq Ef.tb h8 Fp.all ⟨some (.new h6.blks.size 0),1,.is 1⟩ [awT]:=(Sq.lit (E:=Ef.tb) (S:=Fp.all) (xs:=[awT]) (rows:=[[Sl.v ⟨some (.new h0.blks.size 0),4,.is 4⟩,Sl.v ⟨some (.new h1.blks.size 0),1,.is 1⟩,Sl.v ⟨some (.new h3.blks.size 0),1,.is 1⟩]]) (g8.has b7) (.cons ⟨_,_,_,rfl,q1,q2,q4⟩ .nil) rfl).mono fun _ _=>trivial;have Q:Sq EI h8 Fp.all ⟨some (.new h7.blks.size 0),4,.is 4⟩ [10,10,-10,-10]:=(khu (xs:=[10,10,-10,-10]) b8 (by decide)).mono fun _ _=>trivial;refine(k5q (c:=awC) (T0.grow G08) q5 Q).call fun v h9 ⟨s,e,V,g9⟩=>?_;subst e;rw[kvz.1]at V;rw[kvz.2];refine Runs.step rfl (Runs.step rfl (Runs.ifT rfl (Runs.step (seenAt rfl (asSl_v _)) (Runs.step (seen (ke _ _)) ?_))));refine Runs.new fun h10 b10 g10=>Runs.puts b10 rfl fun h11 b11 u11=>?_;have g911:Grow h9 h11:=g10.updr (Nat.le_refl _) u11;have V:=V.grow g911;refine Runs.ifF rfl (Runs.step (b11.rd 0 rfl (asSl_v _)) ?_);have ln:s.len=1:=V.len;rw[ln];refine Runs.ifF rfl (Runs.step (b11.rd 0 rfl (asSl_v _)) ?_);obtain⟨r,s',e1,-,e2,n'⟩:=V.sl (i:=0) (by decide);have n':Sq Ef.nd h11 Fp.all s' awM:=n';have ln':s'.len=3:=n'.len;refine Runs.step e1 (Runs.step e2 ?_);rw[ln'];refine Runs.ifF rfl (Runs.step (b11.rd 0 rfl (asSl_v _)) (Runs.step e1 (Runs.step e2 ?_)));obtain⟨r0,a0,a1,-⟩:=n'.nd (i:=0) (by decide);obtain⟨r1,b0,-,b1',-⟩:=n'.nd (i:=1) (by decide);obtain⟨r2,c0,-,c1',-⟩:=n'.nd (i:=2) (by decide);refine Runs.step a0 (Runs.step a1 (Runs.ifT rfl (Runs.step b0 (Runs.step b1' (Runs.ifT rfl (Runs.step c0 (Runs.step c1' (Runs.ret ⟨rfl,?_⟩))))))));exact(G08.trans g9).trans g911
end
end Go.Ab
set_option maxRecDepth 10000
namespace Go.Ab
open Go.Proofs Go.Num Go.Heap
section
variable{row:List (List Int)}{t:List Nd}{hE:AH}{S Sr:Fp}{tl rl ml:Sl}{kn kt:Nat}{s n z:Int}
end
section
variable{row:List (List Int)}{m:List (List Nd)}{hE:AH}{S Sr:Fp}{rl ml:Sl}
end
end Go.Ab
set_option maxRecDepth 10000
namespace Go.Ab
open Go.Proofs Go.Num Go.Heap
section
variable{h0:AH}{Sg Sx St:Fp}{gs x s1 s2 s3:Sl}{g:List Int}{R:List Nat}{t:Tb}
end
section
variable{h0:AH}{Sg Sx St:Fp}{gs tsl x:Sl}{g:List Int}{R:List Nat}{z:Nat}{ts:List Tb}
end
end Go.Ab
set_option maxRecDepth 10000
namespace Go.Ab
open Go.Proofs Go.Num Go.Heap
section
variable{c:Cfg}{hE:AH}{scs gs tsl nd ws x:Sl}{js kc kr jn jw:Nat}{S Sx St Sg:Fp}{nodes:List Nd}{L:List (List Nat×Nat)}{sc g:List Int}{ts:List Tb}{h:AH}{R:List Nat}
end
end Go.Ab
set_option maxRecDepth 10000
namespace Go.Ab
open Go.Proofs Go.Num Go.Heap
theorem Grow.rdR{h h':AH}(g:Grow h h'){r:Ref}{A:Type}{f:AV→Option A}{x:A}(e:(h.cell r).bind f=some x):(h'.cell r).bind f=some x:=by
 obtain⟨v,hv,hf⟩:=Option.bind_eq_some_iff.1 e;rw[g.cell_some hv];exact hf
section
variable{c:Cfg}{hE:AH}{scs gs tsl nd ws x:Sl}{js kc kr jn jw:Nat}{S Sx St Sg:Fp}{nodes:List Nd}{L:List (List Nat×Nat)}{sc g:List Int}{ts:List Tb}{h:AH}{R:List Nat}
end
end Go.Ab
set_option maxRecDepth 10000
namespace Go.Ab
open Go.Proofs Go.Num Go.Heap
section
variable{c:Cfg}{z D:Nat}{scs gs tsl:Sl}{g:List Int}{ts:List Tb}{hE:AH}{St Sg:Fp}{js kc kr:Nat}
end
end Go.Ab
set_option maxRecDepth 10000
namespace Go.Ab
open Go.Proofs Go.Num Go.Heap
section
variable{h0:AH}{S S':Fp}{s t:Sl}
end
section
variable{c:Cfg}{scs ls tsl:Sl}{labels:List Int}{ts:List Tb}{hE:AH}{St SL:Fp}
end
end Go.Ab
set_option maxRecDepth 10000
namespace Go.Ab
open Go.Proofs Go.Num Go.Heap
section
variable{h:AH}{c:Cfg}{kc:Nat}{tsl:Sl}{ts:List Tb}{St:Fp}
end
section
variable{h:AH}{S S':Fp}{s u:Sl}{m:List (List Nd)}
end
end Go.Ab
set_option maxRecDepth 10000
namespace Go.Ab
open Go.Proofs Go.Num
section
variable{ts:List Tb}{z:Nat}{c:Cfg}{g sc labels:List Int}
end
end Go.Ab
set_option maxRecDepth 10000
namespace Go.Ab
open Go.Proofs Go.Num Go.Heap
section
variable{h0:AH}{tsl ls l:Sl}{ts:List Tb}{labels:List Int}{St:Fp}{p kc km:Nat}{s2:Sl}{P:AV→AH→Prop}
end
end Go.Ab
set_option maxRecDepth 10000
namespace Go.Ab
open Go.Proofs Go.Num Go.Heap
section
variable{c:Cfg}{ts:List Tb}{g:List Int}{D N k:Nat}{sc0 sc:List Int}{V:List Wt}{nodes:List Nd}{x:Wt}
end
end Go.Ab
set_option maxRecDepth 10000
namespace Go.Ab
open Go.Proofs Go.Num Go.Heap
section
variable{c:Cfg}{ts:List Tb}{g:List Int}{D N k:Nat}{sc0 sc:List Int}{V:List Wt}{t:List Nd}
end
end Go.Ab
set_option maxRecDepth 10000
namespace Go.Ab
open Go.Proofs Go.Num Go.Heap
section
variable{h0:AH}{tsl:Sl}{ts:List Tb}{St:Fp}{p i:Nat}
end
section
variable{c:Cfg}{tsl ls us ml:Sl}{kc km:Nat}{hB:AH}{D:Nat}{P:AV→AH→Prop}
end
end Go.Ab
set_option maxRecDepth 10000
namespace Go.Ab
open Go.Proofs Go.Num
theorem kh1(n:Int):IntKind.wrap .u32 n=n%4294967296:=by
 simp[IntKind.wrap,IntKind.bits,IntKind.signed]
theorem wrapU8(n:Int):IntKind.wrap .u8 n=n%256:=by
 simp[IntKind.wrap,IntKind.bits,IntKind.signed]
theorem kf4{a b:Nat}(ha:a<4294967296)(hb:b<4294967296):ixor .u32 (a:Int) (b:Int)=((a ^^^ b:Nat):Int):=by
 unfold ixor;rw[show IntKind.bits .u32=32 from rfl,kh1];have e1:BitVec.ofInt 32 (a:Int)=BitVec.ofNat 32 a:=rfl;have e2:BitVec.ofInt 32 (b:Int)=BitVec.ofNat 32 b:=rfl;rw[e1,e2,BitVec.toNat_xor,BitVec.toNat_ofNat,BitVec.toNat_ofNat,Nat.mod_eq_of_lt (show a<2^32 from ha),Nat.mod_eq_of_lt (show b<2^32 from hb)];have:a ^^^ b<2^32:=Nat.xor_lt_two_pow ha hb;omega
theorem xor_u8{a b:Nat}(ha:a<256)(hb:b<256):ixor .u8 (a:Int) (b:Int)=((a ^^^ b:Nat):Int):=by
 unfold ixor;rw[show IntKind.bits .u8=8 from rfl,wrapU8];have e1:BitVec.ofInt 8 (a:Int)=BitVec.ofNat 8 a:=rfl;have e2:BitVec.ofInt 8 (b:Int)=BitVec.ofNat 8 b:=rfl;rw[e1,e2,BitVec.toNat_xor,BitVec.toNat_ofNat,BitVec.toNat_ofNat,Nat.mod_eq_of_lt (show a<2^8 from ha),Nat.mod_eq_of_lt (show b<2^8 from hb)];have:a ^^^ b<2^8:=Nat.xor_lt_two_pow ha hb;omega
theorem kri(x n:Nat)(hn:n≤32):ishr .u32 (x:Int) (n:Int)=((x/2^n:Nat):Int):=by
 unfold ishr;rw[Int.toNat_natCast,show IntKind.bits .u32=32 from rfl,Nat.min_eq_left hn];have:((2:Int)^n)=((2^n:Nat):Int):=by simp
 rw[this,Int.fdiv_eq_ediv_of_nonneg _ (Int.natCast_nonneg _)];exact(Int.natCast_ediv _ _).symm
def numB(n:Nat):List Nat:=if h:n≥128 then(n%128+128)::numB (n/128)else [n]
theorem kqi{n:Nat}(h:n≥128):numB n=(n%128+128)::numB (n/128):=by rw[numB,dif_pos h]
theorem kij{n:Nat}(h:¬n≥128):numB n=[n]:=by rw[numB,dif_neg h]
theorem kwd:∀(k n:Nat),n<128^(k+1)→(numB n).length≤k+1
 | 0,n,h=>by
  rw[kij (by simp at h;omega)];simp
 | k+1,n,h=>by
  by_cases c:n≥128
  ·rw[kqi c,List.length_cons];have:=kwd k (n/128) (by rw[Nat.div_lt_iff_lt_mul (by decide)];rw[Nat.pow_succ]at h;exact h);omega
  ·rw[kij c];simp
theorem or128:∀x:_root_.Fin 256,ior .u8 (x.val:Int) 128=((x.val%128+128:Nat):Int):=by decide +kernel
theorem kba9(n:Nat):ior .u8 (IntKind.wrap .u8 (n:Int)) 128=((n%128+128:Nat):Int):=by
 rw[wrapU8,show(n:Int)%256=((n%256:Nat):Int) by omega];have:=or128 ⟨n%256,Nat.mod_lt _ (by decide)⟩;rw[this];congr 1;show n%256%128+128=_;omega
def zig(a:Int):Nat:=if a≥0 then(2*a).toNat else(-2*a-1).toNat
theorem zig_lt{a:Int}(h1:-9223372036854775808≤a)(h2:a≤9223372036854775807):zig a<18446744073709551616:=by
 unfold zig;split<;>omega
theorem kbdd{a:Int}(h1:-9223372036854775808≤a)(h2:a≤9223372036854775807):ixor .u64 (ishl .u64 (IntKind.wrap .u64 a) 1) (IntKind.wrap .u64 (ishr .i64 a 63))=((zig a:Nat):Int):=by
 have e1:ishl .u64 (IntKind.wrap .u64 a) 1=(2*a)%18446744073709551616:=by
  unfold ishl;rw[wrapU,wrapU];show(a%18446744073709551616*2^(1:Nat))%18446744073709551616=_;omega
 have e2:ishr .i64 a 63=if a≥0 then 0 else -1:=by
  unfold ishr;show a.fdiv (2^(63:Nat))=_;rw[Int.fdiv_eq_ediv_of_nonneg _ (by decide)];split<;>omega
 rw[e1,e2];unfold ixor zig;rw[show IntKind.bits .u64=64 from rfl,wrapU,wrapU];by_cases c:a≥0
 ·rw[if_pos c,if_pos c];have:(2*a)%18446744073709551616=(((2*a).toNat:Nat):Int):=by omega
  rw[this];have e3:BitVec.ofInt 64 (((2*a).toNat:Nat):Int)=BitVec.ofNat 64 (2*a).toNat:=rfl;rw[e3,show BitVec.ofInt 64 (0%18446744073709551616)=0#64 from rfl,BitVec.xor_zero,BitVec.toNat_ofNat,Nat.mod_eq_of_lt (by omega)];omega
 ·rw[if_neg c,if_neg c];have:(2*a)%18446744073709551616=(((18446744073709551616+2*a).toNat:Nat):Int):=by omega
  rw[this];have e3:BitVec.ofInt 64 (((18446744073709551616+2*a).toNat:Nat):Int)=BitVec.ofNat 64 (18446744073709551616+2*a).toNat:=rfl;rw[e3,show BitVec.ofInt 64 (-1%18446744073709551616)=BitVec.allOnes 64 from by decide,BitVec.xor_allOnes,BitVec.toNat_not,BitVec.toNat_ofNat,Nat.mod_eq_of_lt (by omega)];omega
def crcP:Nat:=3988292384
def crcS(r:Nat):Nat:=if r%2=1 then(r/2) ^^^ crcP else r/2
def crcN:Nat→Nat→Nat
 | 0,r=>r
 | n+1,r=>crcN n (crcS r)
def crcB(r c:Nat):Nat:=crcN 8 (r ^^^ c)
def crcL(l:List Nat)(r:Nat):Nat:=l.foldl crcB r
theorem kqv{r:Nat}(h:r<4294967296):crcS r<4294967296:=by
 unfold crcS crcP;split
 ·exact Nat.xor_lt_two_pow (n:=32) (by omega) (by decide)
 ·omega
theorem kro:∀(n:Nat){r:Nat},r<4294967296→crcN n r<4294967296
 | 0,_,h=>h
 | n+1,_,h=>kro n (kqv h)
theorem kom{r c:Nat}(h:r<4294967296)(hc:c<256):crcB r c<4294967296:=kro 8 (Nat.xor_lt_two_pow (n:=32) h (by omega))
theorem kws:∀(l:List Nat){r:Nat},r<4294967296→(∀c∈l,c<256)→crcL l r<4294967296
 | [],_,h,_=>h
 | c::l,_,h,hl=>kws l (kom h (hl c (by simp))) fun x hx=>hl x (by simp[hx])
theorem k7f(a b:Nat):crcS (a ^^^ b)=crcS a ^^^ crcS b:=by
 have hm:(a ^^^ b)%2=(a%2+b%2)%2:=by
  have:=Nat.xor_mod_two_eq_one (a:=a) (b:=b);have h1:=Nat.mod_lt (a ^^^ b) (show 2>0 by decide);generalize (a ^^^ b)%2=q at *
  have h2:=Nat.mod_lt a (show 2>0 by decide);have h3:=Nat.mod_lt b (show 2>0 by decide);generalize a%2=u at *
  generalize b%2=v at *
  have hu:u=0∨u=1:=by omega
  have hv:v=0∨v=1:=by omega
  rcases hu with rfl | rfl<;>rcases hv with rfl | rfl<;>simp at this⊢<;>omega
 have hd:(a ^^^ b)/2=a/2 ^^^ b/2:=Nat.xor_div_two;unfold crcS;rw[hm,hd];generalize a/2=x;generalize b/2=y;have ha:a%2=0∨a%2=1:=by omega
 have hb:b%2=0∨b%2=1:=by omega
 generalize crcP=p;rcases ha with ha | ha<;>rcases hb with hb | hb<;>rw[ha,hb]<;>apply Nat.eq_of_testBit_eq<;>intro i<;>simp[Nat.testBit_xor]<;>cases x.testBit i<;>cases y.testBit i<;>cases p.testBit i<;>rfl
theorem kvh:∀(n a b:Nat),crcN n (a ^^^ b)=crcN n a ^^^ crcN n b
 | 0,_,_=>rfl
 | n+1,a,b=>by
  rw[crcN,crcN,crcN,k7f,kvh n]
theorem kzq(z:Nat):crcS (z*2)=z:=by
 unfold crcS;rw[if_neg (by omega)];omega
theorem k66(y:Nat):crcN 8 (y*256)=y:=by
 have h:∀(n z:Nat),crcN (n+1) (z*2*2^n)=crcN n (z*2^n):=fun n z=>by
  rw[crcN,show z*2*2^n=z*2^n*2 by rw[Nat.mul_assoc,Nat.mul_comm 2,← Nat.mul_assoc],kzq]
 have e:∀n z,crcN n (z*2^n)=z:=by
  intro n
  induction n with
  | zero=>intro z;simp[crcN]
  | succ n ih =>
   intro z;rw[show z*2^(n+1)=z*2*2^n by rw[Nat.pow_succ,Nat.mul_comm (2^n),← Nat.mul_assoc],h,ih]
 exact e 8 y
theorem k3v(r:Nat):r=(r/256*256) ^^^ (r%256):=by
 apply Nat.eq_of_testBit_eq;intro i;rw[Nat.testBit_xor,show(256:Nat)=2^8 from rfl,Nat.testBit_mul_two_pow,Nat.testBit_div_two_pow,Nat.testBit_mod_two_pow];by_cases h:8≤i
 ·have:¬i<8:=by omega
  simp[h,this]
 ·have:i<8:=by omega
  simp[h,this]
theorem kz9(r c:Nat):crcB r c=(r/256) ^^^ crcN 8 ((r%256) ^^^ c):=by
 unfold crcB
 conv=>lhs;rw[k3v r]
 rw[Nat.xor_assoc,kvh,k66]
theorem k1h{r c:Nat}(hc:c<256):(r%256) ^^^ c<256:=Nat.xor_lt_two_pow (n:=8) (Nat.mod_lt _ (by decide)) hc
def intB(a:Int):List Nat:=numB (zig a)
def nodeB(x:Nd):List Nat:=(if x.leaf then 1 else 0)::[x.weight,x.party,x.feature,x.cut,x.left,x.right].flatMap intB
def treeB(t:List Nd):List Nat:=numB t.length++t.flatMap nodeB
def modB(m:List (List Nd)):List Nat:=numB m.length++m.flatMap treeB
end Go.Ab
set_option maxRecDepth 10000
namespace Go.Ab
open Go.Proofs Go.Num Go.Heap
def Ef.oct:Ef Nat where
 w:=1
 pos:=by decide
 has _ _ cs b:=cs=[.int .u8 (b:Int)]∧b<256
 len e:=by rw[e.1];rfl
 grow _ e:=e
 mono _ e:=e
 upd _ _ e:=e
 bound e:=e
@[reducible] def EO:Ef Nat:=Ef.oct
theorem kot{n:Nat}(h:n≤70368744177664):growOk Pg n kj 1=true:=by
 unfold growOk;rw[k9v,k58];have h1:n*1≤ks:=by simp only[ks];omega
 have h2:n≤ks:=by simp only[ks];omega
 simp[h1,h2]
theorem oct_at{h:AH}{S:Fp}{s:Sl}{bs:List Nat}(n:Sq EO h S s bs){i:Nat}(hi:i<bs.length):∃r:Ref,idx s.ref s.len (i:Int) 1=some r∧(h.cell r).bind (AV.asInt .u8)=some ((bs[i]:Nat):Int)∧bs[i]<256:=by
 obtain⟨r,cs,e1,⟨rfl,e2⟩,e3⟩:=n.at (i:=(i:Int)) (kgg hi);rw[n.len];exact⟨r,e1,e3.rd0 (Grow.refl h) (f:=AV.asInt .u8) rfl (ke _ _),e2⟩
def OctP(hE:AH)(l:List Nat)(v:AV)(h':AH):Prop:=Grow hE h'∧∃(y:Sl)(j:Option Nat),v=y.v∧LeO hE.blks.size j∧GF EO kj h' Fp.no y j l
section
variable{h hE:AH}{s:Sl}{j:Option Nat}{L bs:List Nat}{P:AV→AH→Prop}
theorem khk{X:Int}{x:Nat}(hX:X=(x:Int))(hx:x<256)(V:GF EO kj h Fp.no s j L)(hl:L.length+1≤70368744177664){K:Sl→AH→Option (AV×AH)}
  (H:∀s' h2 h3,Grow h h2→h.blks.size<h2.blks.size→UpdO h2 h3 j→GF EO kj h3 Fp.no s' (some h2.blks.size) (L++[x])→Runs (K s' h3) P) :
  Runs (newK h (.cells [.int .u8 X] kj) fun h3r h3=>(kbd Pg kj ((⟨some h3r,1,.is 1⟩:Sl).v) h3).bind fun p5=>(kz Pg s p5.1 p5.2 kj 1 h3).bind fun q4=>(AV.asSl q4.1).bind fun l6=>K l6 q4.2) P:=by
 subst hX;refine Runs.new fun h2 b2 g2=>?_;refine Runs.step (kd2 b2 (by rw[kok];rfl)) ?_;obtain⟨t',h3,e7,V3,u3⟩:=(V.grow g2).push (T:=Fp.no) (cs:=[.int .u8 (x:Int)]) (x:=x) ⟨rfl,hx⟩ NotO.no (kot hl);exact Runs.step e7 (Runs.step (asSl_v _) (H t' h2 h3 g2 b2.lt u3 (V3.mono (fun j x=>x.1.elim id id) NotO.no)))
theorem kbav:∀(k n:Nat),n<128^(k+1)→n<18446744073709551616→∀(h:AH)(s:Sl)(j:Option Nat)(L:List Nat),L.length+k≤100→Grow hE h→LeO hE.blks.size j→GF EO kj h Fp.no s j L→
  Runs (go (.pt kev kl8 [(0,.int .u64 (n:Int)),(3,s.v)]) h) (OctP hE (L++numB n)):=by
 intro k
 induction k with
 | zero =>
  intro n hn hn64 h s j L hL g lj V;have hs:¬n≥128:=by simp at hn;omega
  rw[krx,kij hs];refine Runs.ifF (decide_eq_false (by omega)) ?_;refine khk (x:=n) (K:=fun l h=>some (l.v,h)) ?_ (by omega) V (by omega) fun s' h2 h3 g2 l2 u3 V3=>?_
  ·rw[wrapU8];omega
  ·exact Runs.ret ⟨(g.trans g2).updo lj u3,s',some h2.blks.size,rfl,show _≤_ from(g.trans g2).size,V3⟩
 | succ k ih =>
  intro n hn hn64 h s j L hL g lj V;rw[krx];by_cases c:n≥128
  ·rw[kqi c,kba9,show ishr .u64 (n:Int) 7=((n/128:Nat):Int)from kpt n 7];refine Runs.ifT (decide_eq_true (by omega)) ?_;refine khk (x:=n%128+128) rfl (by omega) V (by omega) fun s' h2 h3 g2 l2 u3 V3=>?_;have:=ih (n/128) (by rw[Nat.div_lt_iff_lt_mul (by decide)];rw[Nat.pow_succ]at hn;exact hn) (by omega) h3 s' (some h2.blks.size) (L++[n%128+128]) (by rw[List.length_append,List.length_singleton];omega) ((g.trans g2).updo lj u3) (show _≤_ from(g.trans g2).size) V3;rw[List.append_assoc]at this;exact this
  ·rw[kij c];refine Runs.ifF (decide_eq_false (by omega)) ?_;refine khk (x:=n) (K:=fun l h=>some (l.v,h)) ?_ (by omega) V (by omega) fun s' h2 h3 g2 l2 u3 V3=>?_
   ·rw[wrapU8];omega
   ·exact Runs.ret ⟨(g.trans g2).updo lj u3,s',some h2.blks.size,rfl,show _≤_ from(g.trans g2).size,V3⟩
theorem kn5{n:Nat}(hn:n<18446744073709551616):Runs (go (.fn kev [.int .u64 (n:Int)]) hE) (OctP hE (numB n)):=by
 rw[kzb];exact kbav 9 n (by omega) hn hE _ none [] (by simp) (Grow.refl _) trivial (GF.none EO kj hE Fp.no)
theorem ky0(n:Nat):IntKind.wrap .u8 (IntKind.wrap .u64 ((Int.tmod (n:Int) 128)+128))=((n%128+128:Nat):Int):=by
 rw[Int.tmod_eq_emod_of_nonneg (Int.natCast_nonneg _),wrapU,wrapU8];omega
theorem kbbn{n:Nat}(h:n<18446744073709551616):IntKind.wrap .u64 (Int.tdiv (n:Int) 128)=((n/128:Nat):Int):=by
 rw[Int.tdiv_eq_ediv_of_nonneg (Int.natCast_nonneg _),wrapU];omega
theorem k2y:∀(k n:Nat),n<128^(k+1)→n<18446744073709551616→∀(h:AH)(s:Sl)(j:Option Nat)(L:List Nat),L.length+k≤100→Grow hE h→LeO hE.blks.size j→GF EO kj h Fp.no s j L→
  Runs (go (.pt ker klb [(0,.int .u64 (n:Int)),(3,s.v)]) h) (OctP hE (L++numB n)):=by
 intro k
 induction k with
 | zero =>
  intro n hn hn64 h s j L hL g lj V;have hs:¬n≥128:=by simp at hn;omega
  rw[kxp,kij hs];refine Runs.ifF (decide_eq_false (by omega)) ?_;refine khk (x:=n) (K:=fun l h=>some (l.v,h)) ?_ (by omega) V (by omega) fun s' h2 h3 g2 l2 u3 V3=>?_
  ·rw[wrapU8];omega
  ·exact Runs.ret ⟨(g.trans g2).updo lj u3,s',some h2.blks.size,rfl,show _≤_ from(g.trans g2).size,V3⟩
 | succ k ih =>
  intro n hn hn64 h s j L hL g lj V;rw[kxp];by_cases c:n≥128
  ·rw[kqi c,ky0,kbbn hn64];refine Runs.ifT (decide_eq_true (by omega)) ?_;refine khk (x:=n%128+128) rfl (by omega) V (by omega) fun s' h2 h3 g2 l2 u3 V3=>?_;have:=ih (n/128) (by rw[Nat.div_lt_iff_lt_mul (by decide)];rw[Nat.pow_succ]at hn;exact hn) (by omega) h3 s' (some h2.blks.size) (L++[n%128+128]) (by rw[List.length_append,List.length_singleton];omega) ((g.trans g2).updo lj u3) (show _≤_ from(g.trans g2).size) V3;rw[List.append_assoc]at this;exact this
  ·rw[kij c];refine Runs.ifF (decide_eq_false (by omega)) ?_;refine khk (x:=n) (K:=fun l h=>some (l.v,h)) ?_ (by omega) V (by omega) fun s' h2 h3 g2 l2 u3 V3=>?_
   ·rw[wrapU8];omega
   ·exact Runs.ret ⟨(g.trans g2).updo lj u3,s',some h2.blks.size,rfl,show _≤_ from(g.trans g2).size,V3⟩
theorem kq6{n:Nat}(hn:n<18446744073709551616):Runs (go (.fn ker [.int .u64 (n:Int)]) hE) (OctP hE (numB n)):=by
 rw[k6h];exact k2y 9 n (by omega) hn hE _ none [] (by simp) (Grow.refl _) trivial (GF.none EO kj hE Fp.no)
def Fits(a:Int):Prop:=-9223372036854775808≤a∧a≤9223372036854775807
theorem k5m{a:Int}(ha:Fits a):Runs (go (.fn krm [.int .i64 a]) hE) (OctP hE (intB a)):=by
 rw[k3s,kbdd ha.1 ha.2];refine(kn5 (zig_lt ha.1 ha.2)).call fun v h' ⟨g,y,j,e,lj,V⟩=>?_;subst e;exact Runs.step (seen (asSl_v _)) (Runs.ret ⟨g,y,j,rfl,lj,V⟩)
theorem kbai{a:Int}(ha:Fits a)(h:AH):go (.fn kqu [.int .i64 a]) h=some (.int .u64 (zig a:Int),h):=by
 obtain⟨h1,h2⟩:=ha;rw[kbbl];unfold zig;by_cases c:a≥0
 ·rw[condT (decide_eq_true c),if_pos c,wrapU,wrapU,show 2*(a%18446744073709551616)%18446744073709551616=((2*a).toNat:Int) by omega]
 ·rw[condF (decide_eq_false c),if_neg c,wrap64 (n:=a+1) (by omega) (by omega),wrap64 (n:=0-(a+1)) (by omega) (by omega),wrapU,wrapU,wrapU,show(2*((0-(a+1))%18446744073709551616)%18446744073709551616+1)%18446744073709551616=((-2*a-1).toNat:Int) by omega]
theorem k6x{a:Int}(ha:Fits a):Runs (go (.fn krk [.int .i64 a]) hE) (OctP hE (intB a)):=by
 rw[k08];refine Runs.step (kbai ha hE) (Runs.step (seen (ke _ _)) ?_);refine(kq6 (zig_lt ha.1 ha.2)).call fun v h' ⟨g,y,j,e,lj,V⟩=>?_;subst e;exact Runs.step (seen (asSl_v _)) (Runs.ret ⟨g,y,j,rfl,lj,V⟩)
end
theorem kwl{R:Type}:∀(xs:List Int)(get:Nat→Option AV)(o:Nat)(k:List AV→Option R),(∀(i:Nat)(hi:i<xs.length),get (o+i)=some (.int .u32 xs[i]))→kb7 get (List.replicate xs.length (.int .u32)) o k=k (xs.map (AV.int .u32))
 | [],get,o,k,_=>rfl
 | x::xs,get,o,k,H=>by
  rw[List.length_cons,List.replicate_succ];have h0:=H 0 (by simp);simp only[Nat.add_zero,List.getElem_cons_zero]at h0;simp only[kb7,leafK,h0,Option.bind_some,ke];rw[kwl xs get (o+1) (fun vs=>k (.int .u32 x::vs)) fun i hi=>?_]
  ·rfl
  ·have:=H (i+1) (by simp;omega);simp only[List.getElem_cons_succ]at this;rw[Nat.add_assoc,Nat.add_comm 1];exact this
theorem kog{R:Type}{xs:List Int}(hl:xs.length=256){get:Nat→Option AV}{k:List AV→Option R}(H:∀(i:Nat)(hi:i<xs.length),get i=some (.int .u32 xs[i])):kb7 get (List.replicate 256 (.int .u32)) 0 k=k (xs.map (AV.int .u32)):=by
 have:=kwl xs get 0 k fun i hi=>by rw[Nat.zero_add];exact H i hi
 rw[hl]at this;exact this
theorem kvk(r:Ref){k:Nat}(hk:k<256):idx (some r) 256 (k:Int) 1=some (r.add k):=by
 unfold idx;have:(k:Int)<256:=by omega
 simp[this]
theorem koj{h:AH}{i:Nat}{xs:List Int}{e:TypeId}(b:h.has i (xs.map (AV.int .u32)) e)(k:Nat)(hk:k<xs.length):h.cell ((Ref.new i 0).add k)=some (.int .u32 xs[k]):=by
 rw[Ref.add_new,Nat.zero_add,b.cell];simp[hk]
def crcT(n:Nat):List Int:=(List.range 256).map fun j=>if j<n then(crcN 8 j:Int)else 0
theorem kcl(n:Nat):(crcT n).length=256:=by simp[crcT]
theorem ktd{n k:Nat}(hk:k<256):(crcT n)[k]'(by rw[kcl];exact hk)=if k<n then(crcN 8 k:Int)else 0:=by simp[crcT]
theorem k5h:List.replicate 256 (AV.int .u32 0)=(crcT 0).map (AV.int .u32):=by
 apply List.ext_getElem
 ·rw[List.length_replicate,List.length_map,kcl]
 ·intro i h1 h2;rw[List.length_replicate]at h1;rw[List.getElem_replicate,List.getElem_map,ktd h1,if_neg (Nat.not_lt_zero _)]
theorem k3o{n:Nat}(hn:n<256):((crcT n).map (AV.int .u32)).take n++[.int .u32 (crcN 8 n:Int)]++((crcT n).map (AV.int .u32)).drop (n+1)=(crcT (n+1)).map (AV.int .u32):=by
 apply List.ext_getElem?;intro i;have hl:(List.take n (List.map (AV.int .u32) (crcT n))).length=n:=by simp[kcl];omega
 rcases Nat.lt_trichotomy i n with h | h | h
 ·rw[List.append_assoc,List.getElem?_append_left (by omega)];have h1:i<256:=by omega
  have h2:i<n+1:=by omega
  simp[crcT,h,h1,h2]
 ·subst h;rw[List.append_assoc,List.getElem?_append_right (by omega),hl,Nat.sub_self];simp[crcT,hn]
 ·rw[List.getElem?_append_right (by rw[List.length_append,hl,List.length_singleton];omega),List.length_append,hl,List.length_singleton,List.getElem?_drop,show n+1+(i-(n+1))=i by omega];have h1:¬i<n:=by omega
  have h2:¬i<n+1:=by omega
  by_cases c:i<256
  ·simp[crcT,h1,h2,c]
  ·simp[crcT,c]
theorem k3t{r:Nat}(h:r<4294967296):ixor .u32 (ishr .u32 (r:Int) 1) (iand .u32 3988292384 (IntKind.wrap .u32 (0-(iand .u32 (r:Int) 1))))=((crcS r:Nat):Int):=by
 have e1:iand .u32 (r:Int) 1=((r%2:Nat):Int):=by
  unfold iand;rw[show IntKind.bits .u32=32 from rfl,kh1];have q1:BitVec.ofInt 32 (r:Int)=BitVec.ofNat 32 r:=rfl;have q2:BitVec.ofInt 32 (1:Int)=BitVec.ofNat 32 1:=rfl;rw[q1,q2,BitVec.toNat_and,BitVec.toNat_ofNat,BitVec.toNat_ofNat,Nat.mod_eq_of_lt (show r<2^32 from h),show 1%2^32=1 from rfl,Nat.and_one_is_mod];omega
 rw[e1,show ishr .u32 (r:Int) 1=((r/2:Nat):Int)from kri r 1 (by decide)];unfold crcS;have hm:r%2=0∨r%2=1:=by omega
 rcases hm with hm | hm
 ·rw[hm,if_neg (by decide),show iand .u32 3988292384 (IntKind.wrap .u32 (0-((0:Nat):Int)))=((0:Nat):Int) by decide,kf4 (by omega) (by decide),Nat.xor_zero]
 ·rw[hm,if_pos rfl,show iand .u32 3988292384 (IntKind.wrap .u32 (0-((1:Nat):Int)))=((3988292384:Nat):Int) by decide,kf4 (by omega) (by decide)];rfl
section
variable{hE:AH}{P:AV→AH→Prop}
theorem k6b{k1 k2 i:Nat}(hi:i<256)(h2:hE.blks.size≤k2)
  (H:∀h',Grow hE h'→h'.has k2 ((crcT (i+1)).map (AV.int .u32)) kef→h'.has k1 ((crcT 0).map (AV.int .u32)) kef→Runs (go (.pt kc5 ki2 [(0,.ptr (some (.new k1 0))),(1,.ptr (some (.new k2 0))),(4,.int .i64 ((i+1:Nat):Int))]) h') P) {h:AH} (g:Grow hE h) (B2:h.has k2 ((crcT i).map (AV.int .u32)) kef) (B1:h.has k1 ((crcT 0).map (AV.int .u32)) kef) (ne:k1≠k2) :
  ∀(n k r:Nat),k+n=8→r<4294967296→crcN n r=crcN 8 i→
  Runs (go (.pt kc5 kmi [(0,.ptr (some (.new k1 0))),(1,.ptr (some (.new k2 0))),(2,.int .i64 (i:Int)),(3,.int .u32 (r:Int)),(4,.int .i64 (i:Int)),(9,.int .i64 (k:Int))]) h) P:=by
 intro n
 induction n with
 | zero =>
  intro k r hk hr e;have e:r=crcN 8 i:=e;rw[kum];refine Runs.ifF (decide_eq_false (by omega)) ?_
  have hidx:idx (some (Ref.new k2 0)) 256 (i:Int) 1=some ((Ref.new k2 0).add i):=by
   exact kvk _ (by omega)
  refine Runs.step hidx ?_;rw[e];refine Runs.putAt (o:=i) B2 (by rw[List.length_map,kcl];simp;omega) (k3o hi) fun h' B u=>?_;rw[ko (by omega)];exact H h' (g.updr h2 u) B (B1.updr ne u)
 | succ n ih =>
  intro k r hk hr e;rw[kum];refine Runs.ifT (decide_eq_true (by omega)) ?_;rw[k3t hr,ko (by omega)];exact ih (k+1) (crcS r) (by omega) (kqv hr) e
theorem k9s{k1 k2:Nat}(h1:hE.blks.size≤k1)(h2:hE.blks.size≤k2)(ne:k1≠k2):∀(n i:Nat),i+n=256→∀(h:AH),Grow hE h→h.has k2 ((crcT i).map (AV.int .u32)) kef→h.has k1 ((crcT 0).map (AV.int .u32)) kef→
  Runs (go (.pt kc5 ki2 [(0,.ptr (some (.new k1 0))),(1,.ptr (some (.new k2 0))),(4,.int .i64 (i:Int))]) h) fun v h'=>v=.agg ((crcT 256).map (AV.int .u32))∧Grow hE h':=by
 intro n
 induction n with
 | zero =>
  intro i hi h g B2 B1;obtain rfl:i=256:=by omega
  rw[ktx];refine Runs.ifF (decide_eq_false (by decide)) ?_;rw[kog (kcl 256) fun i hi=>koj B2 i hi];refine Runs.ifT (by rw[List.length_map,kcl];rfl) (Runs.puts B1 (by rw[List.length_map,List.length_map,kcl,kcl]) fun h' B u=>?_);rw[kog (kcl 256) fun i hi=>koj B i hi];exact Runs.ret ⟨rfl,g.updr h1 u⟩
 | succ n ih =>
  intro i hi h g B2 B1;rw[ktx];refine Runs.ifT (decide_eq_true (by omega)) ?_;rw[kh1,show(i:Int)%4294967296=(i:Int) by omega];exact k6b (by omega) h2 (fun h' g' B2' B1'=>ih (i+1) (by omega) h' g' B2' B1') g B2 B1 ne 8 0 i rfl (by omega) rfl
theorem kzk:Runs (go (.fn kc5 []) hE) fun v h'=>v=.agg ((crcT 256).map (AV.int .u32))∧Grow hE h':=by
 rw[k8t];refine Runs.new fun h1 b1 g1=>Runs.new fun h2 b2 g2=>?_;have z1:=b1.lt;have b1:=g2.has b1;rw[k5h]at b1 b2;exact k9s (Nat.le_refl _) g1.size (by omega) 256 0 rfl h2 (g1.trans g2) b2 b1
theorem sum_4{kt:Nat}{s:Sl}{S:Fp}{bs:List Nat}(N:Sq EO hE S s bs)(B:hE.has kt ((crcT 256).map (AV.int .u32)) kef):∀(n i r:Nat),i+n=bs.length→r<4294967296→
  Runs (go (.pt kg6 knm [(3,.ptr (some (.new kt 0))),(4,.int .u32 (r:Int)),(8,s.v),(9,.int .i64 (bs.length:Int)),(10,.int .i64 (i:Int))]) hE) fun v h'=>v=.int .u32 ((crcL (bs.drop i) r ^^^ 4294967295:Nat):Int)∧h'=hE:=by
 intro n
 induction n with
 | zero =>
  intro i r hi hr;rw[ks8,List.drop_of_length_le (by omega)];refine Runs.ifF (decide_eq_false (by omega)) (Runs.ret ⟨?_,rfl⟩);rw[show cond (IntKind.signed .u32) (-1) (IntKind.max .u32)=((4294967295:Nat):Int) by decide,kf4 (by decide) hr,Nat.xor_comm];rfl
 | succ n ih =>
  intro i r hi hr;have hlt:i<bs.length:=by omega
  obtain⟨q,e1,e2,e3⟩:=oct_at N hlt;rw[ks8];refine Runs.ifT (decide_eq_true (by omega)) (Runs.step e1 (Runs.step e2 ?_));have hx:=k1h (r:=r) e3;rw[wrapU8,show(r:Int)%256=((r%256:Nat):Int) by omega,xor_u8 (Nat.mod_lt _ (by decide)) e3]
  have hidx:idx (some (Ref.new kt 0)) 256 (((r%256) ^^^ bs[i]:Nat):Int) 1=some ((Ref.new kt 0).add ((r%256) ^^^ bs[i])):=by
   exact kvk _ (by omega)
  have hcell:(hE.cell ((Ref.new kt 0).add ((r%256) ^^^ bs[i]))).bind (AV.asInt .u32)=some ((crcN 8 ((r%256) ^^^ bs[i]):Nat):Int):=by
   rw[koj B _ (by rw[kcl];exact hx),ktd hx,if_pos hx];rfl
  refine Runs.step hidx (Runs.step hcell ?_);have h8:crcN 8 ((r%256) ^^^ bs[i])<4294967296:=kro 8 (by omega);rw[show ishr .u32 (r:Int) 8=((r/256:Nat):Int)from kri r 8 (by decide),kf4 (by omega) h8,← kz9,ko (by have:=N.short;omega)];rw[List.drop_eq_getElem_cons hlt];exact ih (i+1) _ (by omega) (kom hr e3)
theorem k7z{s:Sl}{S:Fp}{bs:List Nat}(N:Sq EO hE S s bs):Runs (go (.fn kg6 [s.v]) hE) fun v h'=>v=.int .u32 ((crcL bs 4294967295 ^^^ 4294967295:Nat):Int)∧Grow hE h':=by
 rw[k0q];refine(kzk).call fun v h1 ⟨e,g1⟩=>?_;subst e;refine Runs.step rfl (Runs.ifT (by rw[List.length_map,kcl];rfl) ?_);rw[kog (kcl 256) fun i hi=>by simp[hi]];refine Runs.new fun h2 b2 g2=>Runs.ifT (by rw[List.length_map,kcl];rfl) (Runs.puts b2 (by rw[List.length_map,kcl,List.length_replicate]) fun h3 b3 u3=>?_);have G:Grow hE h3:=g1.trans (g2.updr (Nat.le_refl _) u3);rw[N.len];exact(sum_4 (N.grow G) b3 bs.length 0 4294967295 (by omega) (by decide)).imp fun v h' ⟨a,b⟩=>⟨a,by rw[b];exact G⟩
theorem kbdx{r:Nat}(h:r<4294967296){A:Type}{a:Int→A}:cond (decide ((Int.tmod (r:Int) 2)=1)) (a (ixor .u32 (IntKind.wrap .u32 (Int.tdiv (r:Int) 2)) 3988292384)) (a (IntKind.wrap .u32 (Int.tdiv (r:Int) 2)))=a ((crcS r:Nat):Int):=by
 have e1:Int.tmod (r:Int) 2=((r%2:Nat):Int):=by rw[Int.tmod_eq_emod_of_nonneg (Int.natCast_nonneg _)];omega
 have e2:IntKind.wrap .u32 (Int.tdiv (r:Int) 2)=((r/2:Nat):Int):=by rw[Int.tdiv_eq_ediv_of_nonneg (Int.natCast_nonneg _),kh1];omega
 rw[e1,e2];unfold crcS;by_cases c:r%2=1
 ·rw[if_pos c,condT (decide_eq_true (by omega)),show(3988292384:Int)=((crcP:Nat):Int)from rfl,kf4 (by omega) (by decide)]
 ·rw[if_neg c,condF (decide_eq_false (by omega))]
theorem k6l{s:Sl}{i:Int}{h:AH}:∀(n k r:Nat),k+n=8→r<4294967296→Runs (go (.pt kcq kjx [(0,s.v),(3,.int .u32 ((crcN n r:Nat):Int)),(4,.int .i64 (IntKind.wrap .i64 (i+1)))]) h) P→
  Runs (go (.pt kcq khe [(0,s.v),(3,.int .u32 (r:Int)),(4,.int .i64 i),(5,.int .i64 (k:Int))]) h) P:=by
 intro n
 induction n with
 | zero =>
  intro k r hk hr H;rw[kwc];exact Runs.ifF (decide_eq_false (by omega)) H
 | succ n ih =>
  intro k r hk hr H;rw[kwc];refine Runs.ifT (decide_eq_true (by omega)) ?_;rw[kbdx (a:=fun x=>go (.pt kcq khe [(0,s.v),(3,.int .u32 x),(4,.int .i64 i),(5,.int .i64 (IntKind.wrap .i64 ((k:Int)+1)))]) h) hr,ko (by omega)];exact ih (k+1) (crcS r) (by omega) (kqv hr) H
theorem k2j{s:Sl}{S:Fp}{bs:List Nat}(N:Sq EO hE S s bs):∀(n i r:Nat),i+n=bs.length→r<4294967296→
  Runs (go (.pt kcq kjx [(0,s.v),(3,.int .u32 (r:Int)),(4,.int .i64 (i:Int))]) hE) fun v h'=>v=.int .u32 ((crcL (bs.drop i) r ^^^ 4294967295:Nat):Int)∧h'=hE:=by
 intro n
 induction n with
 | zero =>
  intro i r hi hr;rw[kyg,List.drop_of_length_le (by omega),N.len];refine Runs.ifF (decide_eq_false (by omega)) (Runs.ret ⟨?_,rfl⟩);rw[show(4294967295:Int)=((4294967295:Nat):Int)from rfl,kf4 hr (by decide)];rfl
 | succ n ih =>
  intro i r hi hr;have hlt:i<bs.length:=by omega
  obtain⟨q,e1,e2,e3⟩:=oct_at N hlt;rw[kyg];refine Runs.ifT (decide_eq_true (by rw[N.len];omega)) (Runs.step e1 (Runs.step e2 ?_));rw[kh1,show((bs[i]:Nat):Int)%4294967296=((bs[i]:Nat):Int) by omega,kf4 hr (by omega)];have hx:r ^^^ bs[i]<4294967296:=Nat.xor_lt_two_pow (n:=32) hr (by omega);refine k6l 8 0 _ rfl hx ?_;rw[ko (by have:=N.short;omega),List.drop_eq_getElem_cons hlt];exact ih (i+1) _ (by omega) (kom hr e3)
theorem kbdz{s:Sl}{S:Fp}{bs:List Nat}(N:Sq EO hE S s bs):Runs (go (.fn kcq [s.v]) hE) fun v h'=>v=.int .u32 ((crcL bs 4294967295 ^^^ 4294967295:Nat):Int)∧Grow hE h':=by
 rw[k0w];exact(k2j N bs.length 0 4294967295 (by omega) (by decide)).imp fun v h' ⟨a,b⟩=>⟨a,by rw[b];exact Grow.refl _⟩
end
def Nd.Fits(x:Nd):Prop:=Go.Ab.Fits x.weight∧Go.Ab.Fits x.party∧Go.Ab.Fits x.feature∧Go.Ab.Fits x.cut∧Go.Ab.Fits x.left∧Go.Ab.Fits x.right
def Nd.nums(x:Nd):List Int:=[x.weight,x.party,x.feature,x.cut,x.left,x.right]
theorem Nd.Fits.all{x:Nd}(h:x.Fits):∀n∈x.nums,Go.Ab.Fits n:=by
 obtain⟨h1,h2,h3,h4,h5,h6⟩:=h;intro n hn;unfold Nd.nums at hn;simp only[List.mem_cons,List.not_mem_nil,or_false]at hn;rcases hn with rfl | rfl | rfl | rfl | rfl | rfl<;>assumption
theorem knv(n:Nat):0<(numB n).length:=by
 rw[numB];split<;>simp
theorem kk2{h:AH}{s y:Sl}{j:Option Nat}{L bs:List Nat}{Sy:Fp}(Y:Sq EO h Sy y bs)(hb:0<bs.length)(V:GF EO kj h Fp.no s j L)(hl:L.length+bs.length≤70368744177664) :
  ∃flat s' h3,kbd Pg kj y.v h=some (flat,bs.length)∧kz Pg s flat bs.length kj 1 h=some (s'.v,h3)∧UpdO h h3 j∧GF EO kj h3 Fp.no s' (some h.blks.size) (L++bs):=by
 obtain⟨rows,c,a⟩:=Y.rows;have hr:rows.length=bs.length:=All2.length a;have c:Cells h y (Pg.cellsOf kj) rows.flatten:=by rw[kok];exact c
 have a':All2 (EO.has h Fp.no) rows bs:=a;obtain⟨t',h3,e7,V3,u3⟩:=V.pushs (P:=Pg) (T:=Fp.no) a' hr hb NotO.no (kot hl);have e:=kou c;rw[Y.len]at e;exact⟨_,t',h3,e,e7,u3,V3.mono (fun j x=>x.1.elim id id) NotO.no⟩
theorem kuf{h h2:AH}{s:Sl}{j:Option Nat}{L:List Nat}{x b:Nat}{e:TypeId}(g2:Grow h h2)(b2:h2.has b [.int .u8 (x:Int)] e)(hx:x<256)(V:GF EO kj h Fp.no s j L)(hl:L.length+1≤70368744177664) :
  ∃s' h3,kbd Pg kj ((⟨some (.new b 0),1,.is 1⟩:Sl).v) h2=some ([.int .u8 (x:Int)],1)∧kz Pg s [.int .u8 (x:Int)] 1 kj 1 h2=some (s'.v,h3)∧UpdO h2 h3 j∧GF EO kj h3 Fp.no s' (some h2.blks.size) (L++[x]):=by
 obtain⟨t',h3,e7,V3,u3⟩:=(V.grow g2).push (P:=Pg) (T:=Fp.no) (cs:=[.int .u8 (x:Int)]) (x:=x) ⟨rfl,hx⟩ NotO.no (kot hl);exact⟨t',h3,kd2 b2 (by rw[kok];rfl),e7,u3,V3.mono (fun j x=>x.1.elim id id) NotO.no⟩
section
variable{hE:AH}{ml tl:Sl}{n z tn k:Int}{P:AV→AH→Prop}{b kb:Nat}{vals:List Int}{S St:Fp}{t:List Nd}{m:List (List Nd)}
theorem kbd1(hf:∀x∈vals,Fits x)(hs:vals.length≤100){L0:List Nat}(H:∀h' s' j',Grow hE h'→LeO hE.blks.size j'→GF EO kj h' Fp.no s' j' (L0++vals.flatMap intB)→Runs (go (.pt kb3 kjb [(3,s'.v),(17,ml.v),(18,.int .i64 n),(19,.int .i64 z),(31,tl.v),(32,.int .i64 tn),(33,.int .i64 (IntKind.wrap .i64 (k+1)))]) h') P) :
  ∀(q i:Nat),i+q=vals.length→∀(h:AH)(s:Sl)(j:Option Nat),Grow hE h→LeO hE.blks.size j→GF EO kj h Fp.no s j (L0++(vals.take i).flatMap intB)→h.has b (vals.map (AV.int .i64)) T.int→(∀y,j=some y→y≠b)→(L0++(vals.take i).flatMap intB).length+((vals.drop i).flatMap intB).length≤70368744177664→
  Runs (go (.pt kb3 kke [(3,s.v),(17,ml.v),(18,.int .i64 n),(19,.int .i64 z),(31,tl.v),(32,.int .i64 tn),(33,.int .i64 k),(55,(⟨some (.new b 0),vals.length,.is vals.length⟩:Sl).v),(56,.int .i64 (vals.length:Int)),(57,.int .i64 (i:Int))]) h) P:=by
 intro q
 induction q with
 | zero =>
  intro i hi h s j g lj V B ne hl;obtain rfl:i=vals.length:=by omega
  rw[List.take_length]at V;rw[ktw];exact Runs.ifF (decide_eq_false (by omega)) (H h s j g lj V)
 | succ q ih =>
  intro i hi h s j g lj V B ne hl;have hlt:i<vals.length:=by omega
  obtain⟨r,e1,e2⟩:=(khu B (by omega)).int hlt;have hd:(vals.drop i).flatMap intB=intB vals[i]++(vals.drop (i+1)).flatMap intB:=by rw[List.drop_eq_getElem_cons hlt,List.flatMap_cons]
  rw[hd,List.length_append (bs:=(vals.drop (i+1)).flatMap intB)]at hl;rw[ktw];refine Runs.ifT (decide_eq_true (by omega)) (Runs.step e1 (Runs.step e2 ?_));refine(k5m (hf _ (List.getElem_mem hlt))).call fun v h2 ⟨g2,y,jy,e,lj2,Y⟩=>?_;subst e;obtain⟨fl,s',h3,a1,a2,u3,V3⟩:=kk2 Y.sq (knv _) (V.grow g2) (by have:(intB vals[i]).length=(numB (zig vals[i])).length:=rfl;omega);refine Runs.step (seen (asSl_v _)) (Runs.step a1 (Runs.step a2 (Runs.step (asSl_v _) ?_)));rw[ko (by omega)];have B3:h3.has b (vals.map (AV.int .i64)) T.int:=(UpdO.md u3 fun k e=>e).has (g2.has B) fun e=>ne b e rfl;have hbl:=B.lt;have z2:=g2.size
  have hset:(vals.take (i+1)).flatMap intB=(vals.take i).flatMap intB++intB vals[i]:=by
   rw[List.take_succ_eq_append_getElem hlt,List.flatMap_append,List.flatMap_cons,List.flatMap_nil,List.append_nil]
  refine ih (i+1) (by omega) h3 s' (some h2.blks.size) ((g.trans g2).updo lj u3) (show _≤_ from(g.trans g2).size) ?_ B3 (fun y e=>by cases e;omega) ?_
  ·rw[hset,← List.append_assoc];exact V3
  ·rw[hset,← List.append_assoc,List.length_append (bs:=intB vals[i])];omega
theorem k24{i0:Int}(hf:∀x∈vals,Fits x)(hs:vals.length≤100){L0:List Nat}(H:∀h' s' j',Grow hE h'→LeO hE.blks.size j'→GF EO kj h' Fp.no s' j' (L0++vals.flatMap intB)→Runs (go (.pt kb2 kkd [(1,.ptr (some (.new kb 0))),(3,s'.v),(4,.int .i64 z),(5,tl.v),(6,.int .i64 (IntKind.wrap .i64 (k+1)))]) h') P) :
  ∀(q i:Nat),i+q=vals.length→∀(h:AH)(s:Sl)(j:Option Nat),Grow hE h→LeO hE.blks.size j→GF EO kj h Fp.no s j (L0++(vals.take i).flatMap intB)→h.has b (vals.map (AV.int .i64)) T.int→(∀y,j=some y→y≠b)→(L0++(vals.take i).flatMap intB).length+((vals.drop i).flatMap intB).length≤70368744177664→
  Runs (go (.pt kb2 kkh [(1,.ptr (some (.new kb 0))),(3,s.v),(4,.int .i64 z),(5,tl.v),(6,.int .i64 k),(8,(⟨some (.new b 0),vals.length,.is vals.length⟩:Sl).v),(9,.int .i64 (i:Int))]) h) P:=by
 intro q
 induction q with
 | zero =>
  intro i hi h s j g lj V B ne hl;obtain rfl:i=vals.length:=by omega
  rw[List.take_length]at V;rw[kty];exact Runs.ifF (decide_eq_false (by dsimp only;omega)) (H h s j g lj V)
 | succ q ih =>
  intro i hi h s j g lj V B ne hl;have hlt:i<vals.length:=by omega
  obtain⟨r,e1,e2⟩:=(khu B (by omega)).int hlt;have hd:(vals.drop i).flatMap intB=intB vals[i]++(vals.drop (i+1)).flatMap intB:=by rw[List.drop_eq_getElem_cons hlt,List.flatMap_cons]
  rw[hd,List.length_append (bs:=(vals.drop (i+1)).flatMap intB)]at hl;rw[kty];refine Runs.ifT (decide_eq_true (by dsimp only;omega)) (Runs.step e1 (Runs.step e2 ?_));refine(k6x (hf _ (List.getElem_mem hlt))).call fun v h2 ⟨g2,y,jy,e,lj2,Y⟩=>?_;subst e;obtain⟨fl,s',h3,a1,a2,u3,V3⟩:=kk2 Y.sq (knv _) (V.grow g2) (by have:(intB vals[i]).length=(numB (zig vals[i])).length:=rfl;omega);refine Runs.step (seen (asSl_v _)) (Runs.step a1 (Runs.step a2 (Runs.step (asSl_v _) ?_)));rw[ko (by omega)];have B3:h3.has b (vals.map (AV.int .i64)) T.int:=(UpdO.md u3 fun k e=>e).has (g2.has B) fun e=>ne b e rfl;have hbl:=B.lt;have z2:=g2.size
  have hset:(vals.take (i+1)).flatMap intB=(vals.take i).flatMap intB++intB vals[i]:=by
   rw[List.take_succ_eq_append_getElem hlt,List.flatMap_append,List.flatMap_cons,List.flatMap_nil,List.append_nil]
  refine ih (i+1) (by omega) h3 s' (some h2.blks.size) ((g.trans g2).updo lj u3) (show _≤_ from(g.trans g2).size) ?_ B3 (fun y e=>by cases e;omega) ?_
  ·rw[hset,← List.append_assoc];exact V3
  ·rw[hset,← List.append_assoc,List.length_append (bs:=intB vals[i])];omega
theorem csum_7{z:Nat}(hz:z≤8796093022208)(N:Sq Ef.nd hE St tl t)(ht:t.length≤100000)(hf:∀x∈t,x.Fits){L0:List Nat}
  (H:∀h' s' j',Grow hE h'→LeO hE.blks.size j'→GF EO kj h' Fp.no s' j' (L0++t.flatMap nodeB)→Runs (go (.pt kb3 kks [(3,s'.v),(17,ml.v),(18,.int .i64 n),(19,.int .i64 ((z+1:Nat):Int))]) h') P) :
  ∀(q k:Nat),k+q=t.length→∀(h:AH)(s:Sl)(j:Option Nat),Grow hE h→LeO hE.blks.size j→GF EO kj h Fp.no s j (L0++(t.take k).flatMap nodeB)→(L0++(t.take k).flatMap nodeB).length+((t.drop k).flatMap nodeB).length≤70368744177664→
  Runs (go (.pt kb3 kjb [(3,s.v),(17,ml.v),(18,.int .i64 n),(19,.int .i64 (z:Int)),(31,tl.v),(32,.int .i64 (t.length:Int)),(33,.int .i64 (k:Int))]) h) P:=by
 intro q
 induction q with
 | zero =>
  intro k hk h s j g lj V hl;obtain rfl:k=t.length:=by omega
  rw[List.take_length]at V;rw[kyc];refine Runs.ifF (decide_eq_false (by omega)) ?_;rw[ko (by omega)];exact H h s j g lj V
 | succ q ih =>
  intro k hk h s j g lj V hl;have hlt:k<t.length:=by omega
  obtain⟨r,y,y0,y1,y2,y3,y4,y5,y6⟩:=(N.grow g).nd hlt;have hd:(t.drop k).flatMap nodeB=nodeB t[k]++(t.drop (k+1)).flatMap nodeB:=by rw[List.drop_eq_getElem_cons hlt,List.flatMap_cons]
  have hnl:(nodeB t[k]).length=1+(t[k].nums.flatMap intB).length:=by unfold nodeB;rw[List.length_cons];exact Nat.add_comm _ _
  have hset:(t.take (k+1)).flatMap nodeB=(t.take k).flatMap nodeB++nodeB t[k]:=by
   rw[List.take_succ_eq_append_getElem hlt,List.flatMap_append,List.flatMap_cons,List.flatMap_nil,List.append_nil]
  rw[hd,List.length_append (bs:=(t.drop (k+1)).flatMap nodeB),hnl]at hl;rw[kyc];refine Runs.ifT (decide_eq_true (by omega)) (Runs.step y (Runs.step y0 (Runs.step y1 (Runs.step y2 (Runs.step y3 (Runs.step y4 (Runs.step y5 (Runs.step y6 ?_))))))));refine Runs.new fun h3 b3 g3=>Runs.puts b3 rfl fun h4 Bn u4=>?_;have G4:Grow h h4:=g3.updr (Nat.le_refl _) u4;have zn:=Bn.lt;refine Runs.step (Bn.rd 0 rfl rfl) (Runs.cond (fun c=>?_) fun c=>?_)
  all_goals
   refine Runs.new fun h5 b5 g5=>?_;have b5':h5.has h4.blks.size [.int .u8 ((if t[k].leaf=true then 1 else 0:Nat):Int)] kj:=by rw[c];exact b5
   obtain⟨s',h6,a1,a2,u6,V6⟩:=kuf g5 b5' (by split<;>decide) (V.grow G4) (by omega);rw[c]at a1 a2;refine Runs.step a1 (Runs.step a2 (Runs.step (asSl_v _) ?_));have zj:∀y,j=some y→y<h.blks.size:=fun y e=>opt_lt V.lt e;have B6:=(UpdO.md u6 fun k e=>e).has (g5.has Bn) fun e=>by have:=zj _ e;omega
   refine Runs.step (B6.rd 1 rfl (ke _ _)) (Runs.step (B6.rd 2 rfl (ke _ _)) (Runs.step (B6.rd 3 rfl (ke _ _)) (Runs.step (B6.rd 4 rfl (ke _ _)) (Runs.step (B6.rd 5 rfl (ke _ _)) (Runs.step (B6.rd 6 rfl (ke _ _)) ?_)))));refine Runs.new fun h7 b7 g7=>?_;have G6:Grow hE h6:=((g.trans G4).trans g5).updo lj u6;have z6:=(UpdO.md u6 fun k e=>e).size;have z5:=b5.lt;have z7:=g7.size;have V7:=V6.grow g7;have hnb:∀L:List Nat,L++(t[k].nums.flatMap intB)=L++(t[k].nums.flatMap intB):=fun _=>rfl;refine kbd1 (vals:=t[k].nums) (hf _ (List.getElem_mem hlt)).all (show 6≤100 by decide) (L0:=L0++(t.take k).flatMap nodeB++[if t[k].leaf=true then 1 else 0]) (fun h' s'' j' g' lj' V'=>?_) 6 0 rfl h7 s' (some h5.blks.size) (G6.trans g7) (show _≤_ from((g.trans G4).trans g5).size) (by rw[List.take_zero,List.flatMap_nil,List.append_nil];exact V7) b7 (fun y e=>by cases e;exact Nat.ne_of_lt V6.lt) (by rw[List.take_zero,List.flatMap_nil,List.append_nil,List.drop_zero,List.length_append,List.length_singleton];omega);rw[ko (by omega)];refine ih (k+1) (by omega) h' s'' j' g' lj' ?_ ?_
   ·rw[hset,← List.append_assoc];have:nodeB t[k]=[if t[k].leaf=true then 1 else 0]++t[k].nums.flatMap intB:=rfl;rw[this,← List.append_assoc];exact V'
   ·rw[hset,← List.append_assoc,List.length_append (bs:=nodeB t[k]),hnl];omega
theorem rsum_8{z:Nat}(hz:z≤8796093022208)(N:Sq Ef.nd hE St tl t)(ht:t.length≤100000)(hf:∀x∈t,x.Fits){L0:List Nat}
  (H:∀h' s' j',Grow hE h'→LeO hE.blks.size j'→GF EO kj h' Fp.no s' j' (L0++t.flatMap nodeB)→Runs (go (.pt kb2 ki8 [(1,.ptr (some (.new kb 0))),(3,s'.v),(4,.int .i64 ((z+1:Nat):Int))]) h') P) :
  ∀(q k:Nat),k+q=t.length→∀(h:AH)(s:Sl)(j:Option Nat),Grow hE h→LeO hE.blks.size j→GF EO kj h Fp.no s j (L0++(t.take k).flatMap nodeB)→(L0++(t.take k).flatMap nodeB).length+((t.drop k).flatMap nodeB).length≤70368744177664→
  Runs (go (.pt kb2 kkd [(1,.ptr (some (.new kb 0))),(3,s.v),(4,.int .i64 (z:Int)),(5,tl.v),(6,.int .i64 (k:Int))]) h) P:=by
 intro q
 induction q with
 | zero =>
  intro k hk h s j g lj V hl;obtain rfl:k=t.length:=by omega
  rw[List.take_length]at V;rw[kr2,N.len];refine Runs.ifF (decide_eq_false (by omega)) ?_;rw[ko (by omega)];exact H h s j g lj V
 | succ q ih =>
  intro k hk h s j g lj V hl;have hlt:k<t.length:=by omega
  obtain⟨r,y,y0,y1,y2,y3,y4,y5,y6⟩:=(N.grow g).nd hlt;have hd:(t.drop k).flatMap nodeB=nodeB t[k]++(t.drop (k+1)).flatMap nodeB:=by rw[List.drop_eq_getElem_cons hlt,List.flatMap_cons]
  have hnl:(nodeB t[k]).length=1+(t[k].nums.flatMap intB).length:=by unfold nodeB;rw[List.length_cons];exact Nat.add_comm _ _
  have hset:(t.take (k+1)).flatMap nodeB=(t.take k).flatMap nodeB++nodeB t[k]:=by
   rw[List.take_succ_eq_append_getElem hlt,List.flatMap_append,List.flatMap_cons,List.flatMap_nil,List.append_nil]
  rw[hd,List.length_append (bs:=(t.drop (k+1)).flatMap nodeB),hnl]at hl;rw[kr2];refine Runs.ifT (decide_eq_true (by rw[N.len];omega)) (Runs.step y (Runs.step y0 (Runs.step y1 (Runs.step y2 (Runs.step y3 (Runs.step y4 (Runs.step y5 (Runs.step y6 ?_))))))));refine Runs.new fun h3 b3 g3=>Runs.puts b3 rfl fun h4 Bn u4=>?_;have G4:Grow h h4:=g3.updr (Nat.le_refl _) u4;have zn:=Bn.lt;refine Runs.step (Bn.rd 0 rfl rfl) (Runs.cond (fun c=>?_) fun c=>?_)
  all_goals
   refine Runs.new fun h5 b5 g5=>?_;have b5':h5.has h4.blks.size [.int .u8 ((if t[k].leaf=true then 1 else 0:Nat):Int)] kj:=by rw[c];exact b5
   obtain⟨s',h6,a1,a2,u6,V6⟩:=kuf g5 b5' (by split<;>decide) (V.grow G4) (by omega);rw[c]at a1 a2;refine Runs.step a1 (Runs.step a2 (Runs.step (asSl_v _) ?_));have zj:∀y,j=some y→y<h.blks.size:=fun y e=>opt_lt V.lt e;have B6:=(UpdO.md u6 fun k e=>e).has (g5.has Bn) fun e=>by have:=zj _ e;omega
   refine Runs.step (B6.rd 1 rfl (ke _ _)) (Runs.step (B6.rd 2 rfl (ke _ _)) (Runs.step (B6.rd 3 rfl (ke _ _)) (Runs.step (B6.rd 4 rfl (ke _ _)) (Runs.step (B6.rd 5 rfl (ke _ _)) (Runs.step (B6.rd 6 rfl (ke _ _)) ?_)))));refine Runs.new fun h7 b7 g7=>?_;have G6:Grow hE h6:=((g.trans G4).trans g5).updo lj u6;have z6:=(UpdO.md u6 fun k e=>e).size;have z5:=b5.lt;have z7:=g7.size;have V7:=V6.grow g7;refine k24 (i0:=0) (vals:=t[k].nums) (hf _ (List.getElem_mem hlt)).all (show 6≤100 by decide) (L0:=L0++(t.take k).flatMap nodeB++[if t[k].leaf=true then 1 else 0]) (fun h' s'' j' g' lj' V'=>?_) 6 0 rfl h7 s' (some h5.blks.size) (G6.trans g7) (show _≤_ from((g.trans G4).trans g5).size) (by rw[List.take_zero,List.flatMap_nil,List.append_nil];exact V7) b7 (fun y e=>by cases e;exact Nat.ne_of_lt V6.lt) (by rw[List.take_zero,List.flatMap_nil,List.append_nil,List.drop_zero,List.length_append,List.length_singleton];omega);rw[ko (by omega)];refine ih (k+1) (by omega) h' s'' j' g' lj' ?_ ?_
   ·rw[hset,← List.append_assoc];have:nodeB t[k]=[if t[k].leaf=true then 1 else 0]++t[k].nums.flatMap intB:=rfl;rw[this,← List.append_assoc];exact V'
   ·rw[hset,← List.append_assoc,List.length_append (bs:=nodeB t[k]),hnl];omega
end
def crcF(L:List Nat):Nat:=(crcL L 4294967295 ^^^ 4294967295)/4
theorem kxk{L:List Nat}(h:∀c∈L,c<256):crcL L 4294967295 ^^^ 4294967295<4294967296:=Nat.xor_lt_two_pow (n:=32) (kws L (by decide) h) (by decide)
theorem ku8{h:AH}{S:Fp}{s:Sl}{bs:List Nat}(n:Sq EO h S s bs):∀c∈bs,c<256:=by
 intro c hc;obtain⟨i,hi,rfl⟩:=List.getElem_of_mem hc;obtain⟨_,_,_,e⟩:=oct_at n hi;exact e
theorem knq{n:Nat}(h:n<18446744073709551616):(numB n).length≤10:=kwd 9 n (by omega)
theorem kbd7{x:Nd}(h:x.Fits):(nodeB x).length≤61:=by
 obtain⟨h1,h2,h3,h4,h5,h6⟩:=h;have e:∀{a:Int},Fits a→(intB a).length≤10:=fun h=>knq (zig_lt h.1 h.2);have:=e h1;have:=e h2;have:=e h3;have:=e h4;have:=e h5;have:=e h6;unfold nodeB;simp only[List.flatMap_cons,List.flatMap_nil,List.length_cons,List.length_append,List.length_nil];omega
theorem ks9:∀{t:List Nd},(∀x∈t,x.Fits)→(t.flatMap nodeB).length≤61*t.length
 | [],_=>by simp
 | x::t,h=>by
  rw[List.flatMap_cons,List.length_append,List.length_cons];have:=kbd7 (h x (by simp));have:=ks9 (t:=t) fun y hy=>h y (by simp[hy]);omega
def nodesN(m:List (List Nd)):Nat:=(m.map List.length).sum
theorem ksw(t:List Nd)(m:List (List Nd)):nodesN (t::m)=t.length+nodesN m:=rfl
theorem kqe:∀{m:List (List Nd)}{t:List Nd},t∈m→t.length≤nodesN m
 | x::m,t,h=>by
  rw[ksw];rcases List.mem_cons.1 h with rfl | h
  ·omega
  ·have:=kqe h;omega
theorem krt:∀{m:List (List Nd)},nodesN m≤100000→(∀t∈m,∀x∈t,x.Fits)→(m.flatMap treeB).length≤10*m.length+61*nodesN m
 | [],_,_=>by simp
 | t::m,hn,h=>by
  rw[ksw]at hn⊢;rw[List.flatMap_cons,List.length_append,List.length_cons];have h1:=ks9 (h t (by simp));have h2:=krt (m:=m) (by omega) fun y hy=>h y (by simp[hy]);have h3:=knq (n:=t.length) (by omega);have h4:(treeB t).length=(numB t.length).length+(t.flatMap nodeB).length:=by unfold treeB;rw[List.length_append]
  omega
section
variable{hE:AH}{ml:Sl}{S:Fp}{m:List (List Nd)}{kb:Nat}
theorem csum_3(M:Sq EM hE S ml m)(hm:m.length≤5864062014805)(hn:nodesN m≤100000)(hf:∀t∈m,∀x∈t,x.Fits){L0:List Nat} :
  ∀(q z:Nat),z+q=m.length→∀(h:AH)(s:Sl)(j:Option Nat),Grow hE h→LeO hE.blks.size j→GF EO kj h Fp.no s j (L0++(m.take z).flatMap treeB)→(L0++(m.take z).flatMap treeB).length+((m.drop z).flatMap treeB).length≤70368744177664→
  Runs (go (.pt kb3 kks [(3,s.v),(17,ml.v),(18,.int .i64 (m.length:Int)),(19,.int .i64 (z:Int))]) h) fun v h'=>v=.int .i64 (crcF (L0++m.flatMap treeB):Int)∧Grow hE h':=by
 intro q
 induction q with
 | zero =>
  intro z hz h s j g lj V hl;obtain rfl:z=m.length:=by omega
  rw[List.take_length]at V;rw[ksj];refine Runs.ifF (decide_eq_false (by omega)) ?_;refine(k7z V.sq).call fun v h' ⟨e,g'⟩=>?_;subst e;have hc:=kxk (ku8 V.sq);refine Runs.step (seen (ke _ _)) (Runs.ret ⟨?_,g.trans g'⟩);rw[show ishr .u32 ((crcL (L0++m.flatMap treeB) 4294967295 ^^^ 4294967295:Nat):Int) 2=((crcF (L0++m.flatMap treeB):Nat):Int)from kri _ 2 (by decide)];unfold crcF;rw[wrap64 (by omega) (by omega)]
 | succ q ih =>
  intro z hz h s j g lj V hl;have hlt:z<m.length:=by omega
  have hmem:=List.getElem_mem hlt;have htl:=kqe hmem;obtain⟨r,tl,e1,-,e2,N⟩:=M.sl hlt;have hd:(m.drop z).flatMap treeB=treeB m[z]++(m.drop (z+1)).flatMap treeB:=by rw[List.drop_eq_getElem_cons hlt,List.flatMap_cons]
  have hnl:(treeB m[z]).length=(numB m[z].length).length+(m[z].flatMap nodeB).length:=by unfold treeB;rw[List.length_append]
  have hset:(m.take (z+1)).flatMap treeB=(m.take z).flatMap treeB++treeB m[z]:=by
   rw[List.take_succ_eq_append_getElem hlt,List.flatMap_append,List.flatMap_cons,List.flatMap_nil,List.append_nil]
  rw[hd,List.length_append (bs:=(m.drop (z+1)).flatMap treeB),hnl]at hl;rw[ksj];refine Runs.ifT (decide_eq_true (by omega)) (Runs.step e1 (Runs.step (g.rdR e2) ?_));refine Runs.new fun h3 b3 g3=>Runs.puts b3 rfl fun h4 Bt u4=>?_;have G4:Grow h h4:=g3.updr (Nat.le_refl _) u4;refine Runs.step (Bt.rd 0 rfl (asSl_v _)) ?_;rw[N.len,wrapU,show(m[z].length:Int)%18446744073709551616=(m[z].length:Int) by omega];refine(kn5 (n:=m[z].length) (by omega)).call fun v h5 ⟨g5,y,jy,e,lj5,Y⟩=>?_;subst e;obtain⟨fl,s',h6,a1,a2,u6,V6⟩:=kk2 Y.sq (knv _) (V.grow (G4.trans g5)) (by omega);refine Runs.step (seen (asSl_v _)) (Runs.step a1 (Runs.step a2 (Runs.step (asSl_v _) ?_)));have zj:∀y,j=some y→y<h.blks.size:=fun y e=>opt_lt V.lt e;have B6:=(UpdO.md u6 fun k e=>e).has (g5.has Bt) fun e=>by have:=zj _ e;omega
  refine Runs.step (B6.rd 0 rfl (asSl_v _)) ?_;rw[N.len];have G5:Grow hE h5:=(g.trans G4).trans g5;refine csum_7 (t:=m[z]) (z:=z) (by omega) N (by omega) (hf _ hmem) (L0:=L0++(m.take z).flatMap treeB++numB m[z].length) (fun h' s'' j' g' lj' V'=>?_) m[z].length 0 (by omega) h6 s' (some h5.blks.size) (G5.updo lj u6) (show _≤_ from G5.size) (by rw[List.take_zero,List.flatMap_nil,List.append_nil];exact V6) (by rw[List.take_zero,List.flatMap_nil,List.append_nil,List.drop_zero,List.length_append (bs:=numB m[z].length)];omega);refine ih (z+1) (by omega) h' s'' j' g' lj' ?_ ?_
  ·rw[hset,← List.append_assoc];have:treeB m[z]=numB m[z].length++m[z].flatMap nodeB:=rfl;rw[this,← List.append_assoc];exact V'
  ·rw[hset,← List.append_assoc,List.length_append (bs:=treeB m[z]),hnl];omega
theorem rsum_3(M:Sq EM hE S ml m)(B:hE.has kb [ml.v] kce)(hm:m.length≤5864062014805)(hn:nodesN m≤100000)(hf:∀t∈m,∀x∈t,x.Fits){L0:List Nat} :
  ∀(q z:Nat),z+q=m.length→∀(h:AH)(s:Sl)(j:Option Nat),Grow hE h→LeO hE.blks.size j→GF EO kj h Fp.no s j (L0++(m.take z).flatMap treeB)→(L0++(m.take z).flatMap treeB).length+((m.drop z).flatMap treeB).length≤70368744177664→
  Runs (go (.pt kb2 ki8 [(1,.ptr (some (.new kb 0))),(3,s.v),(4,.int .i64 (z:Int))]) h) fun v h'=>v=.int .i64 (crcF (L0++m.flatMap treeB):Int)∧Grow hE h':=by
 intro q
 induction q with
 | zero =>
  intro z hz h s j g lj V hl;obtain rfl:z=m.length:=by omega
  rw[List.take_length]at V;rw[ks6];refine Runs.step ((g.has B).rd 0 rfl (asSl_v _)) ?_;rw[M.len];refine Runs.ifF (decide_eq_false (by omega)) ?_;refine(kbdz V.sq).call fun v h' ⟨e,g'⟩=>?_;subst e;have hc:=kxk (ku8 V.sq);refine Runs.step (seen (ke _ _)) (Runs.ret ⟨?_,g.trans g'⟩);unfold crcF;generalize crcL (L0++m.flatMap treeB) 4294967295 ^^^ 4294967295=c at *
  rw[Int.tdiv_eq_ediv_of_nonneg (Int.natCast_nonneg _),kh1,show((c:Int)/4)%4294967296=((c/4:Nat):Int) by omega,wrap64 (by omega) (by omega)]
 | succ q ih =>
  intro z hz h s j g lj V hl;have hlt:z<m.length:=by omega
  have hmem:=List.getElem_mem hlt;have htl:=kqe hmem;obtain⟨r,tl,e1,-,e2,N⟩:=M.sl hlt;have hd:(m.drop z).flatMap treeB=treeB m[z]++(m.drop (z+1)).flatMap treeB:=by rw[List.drop_eq_getElem_cons hlt,List.flatMap_cons]
  have hnl:(treeB m[z]).length=(numB m[z].length).length+(m[z].flatMap nodeB).length:=by unfold treeB;rw[List.length_append]
  have hset:(m.take (z+1)).flatMap treeB=(m.take z).flatMap treeB++treeB m[z]:=by
   rw[List.take_succ_eq_append_getElem hlt,List.flatMap_append,List.flatMap_cons,List.flatMap_nil,List.append_nil]
  rw[hd,List.length_append (bs:=(m.drop (z+1)).flatMap treeB),hnl]at hl;rw[ks6];refine Runs.step ((g.has B).rd 0 rfl (asSl_v _)) ?_;rw[M.len];rw[M.len]at e1;refine Runs.ifT (decide_eq_true (by omega)) (Runs.step ((g.has B).rd 0 rfl (asSl_v _)) ?_);rw[M.len];refine Runs.step e1 (Runs.step (g.rdR e2) ?_);rw[N.len,wrapU,show(m[z].length:Int)%18446744073709551616=(m[z].length:Int) by omega];refine(kq6 (n:=m[z].length) (by omega)).call fun v h5 ⟨g5,y,jy,e,lj5,Y⟩=>?_;subst e;obtain⟨fl,s',h6,a1,a2,u6,V6⟩:=kk2 Y.sq (knv _) (V.grow g5) (by omega);refine Runs.step (seen (asSl_v _)) (Runs.step a1 (Runs.step a2 (Runs.step (asSl_v _) ?_)));have G5:Grow hE h5:=g.trans g5;refine rsum_8 (t:=m[z]) (z:=z) (by omega) N (by omega) (hf _ hmem) (L0:=L0++(m.take z).flatMap treeB++numB m[z].length) (fun h' s'' j' g' lj' V'=>?_) m[z].length 0 (by omega) h6 s' (some h5.blks.size) (G5.updo lj u6) (show _≤_ from G5.size) (by rw[List.take_zero,List.flatMap_nil,List.append_nil];exact V6) (by rw[List.take_zero,List.flatMap_nil,List.append_nil,List.drop_zero,List.length_append (bs:=numB m[z].length)];omega);refine ih (z+1) (by omega) h' s'' j' g' lj' ?_ ?_
  ·rw[hset,← List.append_assoc];have:treeB m[z]=numB m[z].length++m[z].flatMap nodeB:=rfl;rw[this,← List.append_assoc];exact V'
  ·rw[hset,← List.append_assoc,List.length_append (bs:=treeB m[z]),hnl];omega
theorem kbcj(M:Sq EM hE S ml m)(hm:m.length≤5864062014805)(hn:nodesN m≤100000)(hf:∀t∈m,∀x∈t,x.Fits):Runs (go (.fn kb3 [.agg [ml.v]]) hE) fun v h'=>v=.int .i64 (crcF (modB m):Int)∧Grow hE h':=by
 have hb:=krt hn hf;have h10:=knq (n:=m.length) (by omega);rw[k2t];refine Runs.new fun h1 b1 g1=>Runs.step (b1.rd 0 rfl (asSl_v _)) ?_;rw[M.len,wrapU,show(m.length:Int)%18446744073709551616=(m.length:Int) by omega];refine(kn5 (n:=m.length) (by omega)).call fun v h2 ⟨g2,y,jy,e,lj,Y⟩=>?_;subst e;refine Runs.step (seen (asSl_v _)) (Runs.step ((g2.has b1).rd 0 rfl (asSl_v _)) ?_);rw[M.len];have z1:=b1.lt
 have lj:LeO hE.blks.size jy:=by
  cases jy with
  | none=>trivial
  | some k=>exact Nat.le_trans (Nat.le_of_lt z1) lj
 exact csum_3 M hm hn hf (L0:=numB m.length) m.length 0 (by omega) h2 y jy (g1.trans g2) lj (by rw[List.take_zero,List.flatMap_nil,List.append_nil];exact Y) (by rw[List.take_zero,List.flatMap_nil,List.append_nil,List.drop_zero];omega)
theorem k4k(M:Sq EM hE S ml m)(hm:m.length≤5864062014805)(hn:nodesN m≤100000)(hf:∀t∈m,∀x∈t,x.Fits):Runs (go (.fn kb2 [.agg [ml.v]]) hE) fun v h'=>v=.int .i64 (crcF (modB m):Int)∧Grow hE h':=by
 have hb:=krt hn hf;have h10:=knq (n:=m.length) (by omega);rw[k9o];refine Runs.new fun h1 b1 g1=>Runs.step (b1.rd 0 rfl (asSl_v _)) ?_;rw[M.len,wrapU,show(m.length:Int)%18446744073709551616=(m.length:Int) by omega];refine(kq6 (n:=m.length) (by omega)).call fun v h2 ⟨g2,y,jy,e,lj,Y⟩=>?_;subst e;refine Runs.step (seen (asSl_v _)) ?_;refine(rsum_3 (M.grow g1) b1 hm hn hf (L0:=numB m.length) m.length 0 (by omega) h2 y jy g2 lj (by rw[List.take_zero,List.flatMap_nil,List.append_nil];exact Y) (by rw[List.take_zero,List.flatMap_nil,List.append_nil,List.drop_zero];omega)).imp fun v h' ⟨a,b⟩=>⟨a,g1.trans b⟩
theorem k78(M:Sq EM hE S ml m)(B:hE.has kb [ml.v] kce)(hm:m.length≤5864062014805)(ht:∀t∈m,t.length≤5864062014805)(hf:∀t∈m,∀x∈t,x.Fits):∀(q i:Nat),i+q=m.length→nodesN (m.take i)≤100000→
  Runs (go (.pt kgy kmu [(1,.ptr (some (.new kb 0))),(3,.bool true),(4,.int .i64 (nodesN (m.take i):Int)),(5,.int .i64 (i:Int))]) hE) fun v _=>v=.bool true:=by
 intro q
 induction q with
 | zero =>
  intro i hi hn;obtain rfl:i=m.length:=by omega
  rw[List.take_length]at hn;rw[kxc];refine Runs.step (B.rd 0 rfl (asSl_v _)) ?_;rw[M.len];refine Runs.ifF (decide_eq_false (by omega)) (Runs.step (B.rd 0 rfl (asSl_v _)) ?_);refine(kbcd M).call fun v h1 ⟨e,g1⟩=>?_;subst e;refine Runs.step (seen rfl) (Runs.step ((g1.has B).rd 0 rfl (asSl_v _)) ?_);refine(kbcj (M.grow g1) hm hn hf).call fun v h2 ⟨e,g2⟩=>?_;subst e;have G2:=g1.trans g2;refine Runs.step (seen (ke _ _)) (Runs.ifT rfl (Runs.step ((G2.has B).rd 0 rfl (asSl_v _)) ?_));refine(k0z (M.grow G2)).call fun v h3 ⟨e,g3⟩=>?_;subst e;have G3:=G2.trans g3;refine Runs.step (seen rfl) (Runs.ifT (by simp) (Runs.step ((G3.has B).rd 0 rfl (asSl_v _)) ?_));refine(k4k (M.grow G3) hm hn hf).call fun v h4 ⟨e,g4⟩=>?_;subst e;exact Runs.step (seen (ke _ _)) (Runs.ret (by rw[decide_eq_true rfl]))
 | succ q ih =>
  intro i hi hn;have hlt:i<m.length:=by omega
  obtain⟨r,tl,e1,-,e2,N⟩:=M.sl hlt
  have hset:nodesN (m.take (i+1))=nodesN (m.take i)+m[i].length:=by
   unfold nodesN;rw[List.take_succ_eq_append_getElem hlt,List.map_append,List.sum_append];simp
  rw[kxc];refine Runs.step (B.rd 0 rfl (asSl_v _)) ?_;rw[M.len];rw[M.len]at e1;refine Runs.ifT (decide_eq_true (by omega)) (Runs.step (B.rd 0 rfl (asSl_v _)) ?_);rw[M.len];refine Runs.step e1 (Runs.step e2 ?_);rw[N.len];have hs:=N.short;refine Runs.cond (fun _=>Runs.ret rfl) fun c=>?_;have c:=of_decide_eq_false c;have hbig:=ht _ (List.getElem_mem hlt);rw[wrap64 (by omega) (by omega)]at c⊢;rw[ko (by omega),show(nodesN (m.take i):Int)+(m[i].length:Int)=((nodesN (m.take (i+1)):Nat):Int) by omega];exact ih (i+1) (by omega) (by omega)
end
def Ef.sub{α:Type}(E:Ef α)(p:α→Prop):Ef {x:α // p x} where
 w:=E.w
 pos:=E.pos
 has h S cs a:=E.has h S cs a.1
 len e:=E.len e
 grow g e:=E.grow g e
 mono f e:=E.mono f e
 upd n u e:=E.upd n u e
 bound e:=E.bound e
theorem All2.val{α β:Type}{p:α→Prop}{R:β→α→Prop}:∀{l:List β}{xs:List {x:α // p x}},All2 (fun b x=>R b x.1) l xs→All2 R l (xs.map Subtype.val)
 | _,_,.nil=>.nil
 | _,_,.cons a b=>.cons a b.val
theorem Sq.unsub{α:Type}{E:Ef α}{p:α→Prop}{h:AH}{S:Fp}{s:Sl}{xs:List {x:α // p x}}(n:Sq (E.sub p) h S s xs):Sq E h S s (xs.map Subtype.val):=by
 obtain⟨rows,c,a⟩:=n.rows;exact⟨⟨rows,c,a.val⟩,by rw[List.length_map];exact n.len,by rw[List.length_map];exact n.short,by rw[List.length_map];exact n.at'⟩
theorem Sq.of_argP{P:Program}{α:Type}{E:Ef α}{S:Fp}{h:AH}{t e:TypeId}{cs:List AV}(p:α→Prop)(hu:P.underlying t=some (.slice e))(hw:P.cellsOf e=E.w)(elem:∀es,ArgT P h e es→∃a,E.has h S es a∧p a)(a:ArgT P h t cs) :
  ∃(s:Sl)(xs:List α),cs=[s.v]∧Sq E h S s xs∧(∀x∈xs,p x)∧xs.length*P.bytesOf e≤reachBytes:=by
 obtain⟨s,xs,e1,n⟩:=Sq.of_arg (E:=E.sub p) (S:=S) hu hw (fun es t=>by
  obtain⟨x,h1,h2⟩:=elem es t;exact⟨⟨x,h2⟩,h1⟩) a
 have m:=n.unsub;refine⟨s,xs.map Subtype.val,e1,m,fun x hx=>?_,?_⟩
 ·obtain⟨y,-,rfl⟩:=List.mem_map.1 hx;exact y.2
 ·rw[← m.len];rcases a.sliceZ hu with e2 | ⟨ad,len,cap,e2,h1,h2,hz,h3⟩
  ·rw[e1]at e2;injection e2 with e2;injection e2 with _ e3;rw[e3,Nat.zero_mul];exact Nat.zero_le _
  ·rw[e1]at e2;injection e2 with e2;injection e2 with _ e3;rw[e3];exact hz
theorem kh2{x:Int}(h:(Lit.int .i64 x).wf=true):Fits x:=by
 have:-9223372036854775808≤x∧x≤9223372036854775807:=by simpa[Lit.wf,IntKind.has,IntKind.min,IntKind.max,IntKind.bits,IntKind.signed]using h
 exact this
theorem k2m{h:AH}{cs:List AV}(a:ArgT Pg h kbl cs):∃x:Nd,cs=x.cells∧x.Fits:=by
 obtain⟨hl,hf⟩:=a.struct k86;rw[kn8]at hl
 match cs,hl with
 | [x0,x1,x2,x3,x4,x5,x6],_ =>
  simp[knf,k3b]at hf;obtain⟨h0,h1,h2,h3,h4,h5,h6⟩:=hf;obtain⟨b,e0⟩:=h0.bool k6j;obtain⟨y1,e1,w1⟩:=h1.int kig;obtain⟨y2,e2,w2⟩:=h2.int kig;obtain⟨y3,e3,w3⟩:=h3.int kig;obtain⟨y4,e4,w4⟩:=h4.int kig;obtain⟨y5,e5,w5⟩:=h5.int kig;obtain⟨y6,e6,w6⟩:=h6.int kig;cases e0;cases e1;cases e2;cases e3;cases e4;cases e5;cases e6;exact⟨⟨b,y1,y2,y3,y4,y5,y6⟩,rfl,kh2 w1,kh2 w2,kh2 w3,kh2 w4,kh2 w5,kh2 w6⟩
theorem k4p{h:AH}{x:AV}(a:ArgV Pg h kce x):∃(s:Sl)(m:List (List Nd)),x=.agg [s.v]∧Sq EM h Fp.no s m∧m.length≤5864062014805∧∀t∈m,t.length≤5864062014805∧∀x∈t,x.Fits:=by
 unfold ArgV at a;rw[kw6]at a;obtain⟨cs,rfl,t⟩:=a;obtain⟨hl,hf⟩:=t.struct kw6;rw[k72]at hl
 match cs,hl with
 | [x0],_ =>
  simp[kbd5]at hf
  obtain⟨s,m,e,n,hp,hz⟩:=Sq.of_argP (E:=EM) (S:=Fp.no) (fun t=>t.length≤5864062014805∧∀x∈t,x.Fits) k5o ko9 (fun es t=>by
   obtain⟨hl,hf⟩:=t.struct k1v;rw[ko9]at hl
   match es,hl with
   | [y0],_ =>
    simp[k2k]at hf;obtain⟨s',l,e,n,hp,hz⟩:=Sq.of_argP (E:=Ef.nd) (S:=Fp.no) Nd.Fits k4s kn8 (fun es t=>k2m t) hf;cases e;rw[kqs,show reachBytes=140737488351232 from rfl]at hz;exact⟨l,⟨s',rfl,n⟩,by omega,hp⟩) hf
  cases e;rw[kw3,show reachBytes=140737488351232 from rfl]at hz;exact⟨s,m,rfl,n,by omega,hp⟩
theorem CentralRightsCard_law(h:AH)(T0:Tab h){x1:AV}(z1:ArgV Pg h kce x1):∃h',go (.fn kgy [x1]) h=some (.bool true,h'):=by
 obtain⟨ml,m,rfl,M,hm,hall⟩:=k4p z1
 suffices H:Runs (go (.fn kgy [.agg [ml.v]]) h) fun v _=>v=.bool true by
  obtain⟨_,h',e,rfl⟩:=H;exact⟨h',e⟩
 rw[kbbj];refine Runs.new fun h1 b1 g1=>?_;refine(k8v (T0.grow g1)).call fun v h2 ⟨e,g2⟩=>?_;subst e;have G2:=g1.trans g2;refine Runs.step (seen rfl) ?_;exact k78 (M.grow G2) (g2.has b1) hm (fun t ht=>(hall t ht).1) (fun t ht=>(hall t ht).2) m.length 0 (by omega) (Nat.zero_le _)
end Go.Ab
