/- Words and laws that the last text joins. -/
import Derived.Test.YtndomkpijjibiaaGreatDoorPE5
import Derived.Test.YtndomkpijjibiaaGreatDoorPS37
set_option linter.unusedVariables false
set_option linter.unusedSimpArgs false
set_option linter.unusedSectionVars false
set_option maxRecDepth 10000
namespace Go.Ab
open Go.Proofs Go.Num
noncomputable def oddC(ns:List Nat)(C:List (List Nat)):Bool:=C.any fun c=>!kfl ns c
noncomputable def sumsC(qs:List Nat)(C:List (List Nat))(R:Nat×Nat→List Nat)(l:List (Nat×Nat)):List (List Nat):=l.map fun p=>prodC qs C (R p) [1]
noncomputable def kbw(ns:List Nat)(t:Tb)(n:Int)(w:List Nat)(C:List (List Nat)):List (List Nat)×Int:=if !kcz ns then([],1)else if faultH t n w (C.length:Int)=0 then if oddC ns C then([],11)else(sumsC (kd7 ns) C (rowsL t n w) (cutsL t),0)else([],faultH t n w (C.length:Int))
theorem own_av{h:AH}{p:Sl}{xs:List Nat}(o:Own h p){m:Nat}(k:¬Av p m xs):h.blks.size≤m:=by
 rcases Nat.lt_or_ge m h.blks.size with hm | hm
 ·exact absurd (Av.of_own o hm) k
 ·exact hm
section
variable{h0:AH}{S:Fp}{s1 s2 s3 s u z:Sl}{t:Tb}{n:Int}{w ns:List Nat}{C:List (List Nat)}
theorem k76{k:Nat}{e:TypeId}(N:Nats h0 z ns)(hk:h0.has k [z.v] e)(q:Sq Ef.nats h0 S u C):Runs (go (.fn kdg [u.v,.func (.func kbv) [] [.ptr (some (.new k 0))]]) h0) fun v h'=>v=.bool (oddC ns C)∧Grow h0 h':=by
 rw[k3k];refine Runs.contains (xs:=C) ?_;rw[k3p,q.len];refine kdz (n:=C.length) (G:=fun z h=>go (.pt kbe kb8 [(0,u.v),(1,.func (.func kbv) [] [.ptr (some (.new k 0))]),(7,.int .i64 (C.length:Int)),(8,.int .i64 z)]) h) (fun i h P hi gg hT hF=>?_) (fun h gg=>?_) C.length 0 (by omega) (Grow.refl h0) (fun j hj=>by omega)
 ·obtain⟨r,s',e1,e2,n',-⟩:=(q.grow gg).nats hi;rw[List.getElem?_eq_getElem hi]at hT hF;simp only[Option.any_some]at hT hF;show Runs (go _ _) _;rw[ksj];refine Runs.ifT (decide_eq_true (by omega)) (Runs.step e1 (Runs.step e2 ?_))
  have key:Runs (go (.fn kbv [s'.v,.ptr (some (.new k 0))]) h) fun v h'=>v=.bool (!kfl ns C[i])∧Grow h h':=by
   rw[k0f,Option.bind_some];refine Runs.step ((gg.has hk).rd0 rfl (asSl_v _)) ?_;refine(krl (N.grow gg) n').call fun v h1 ⟨e,g1⟩=>?_;subst e;exact Runs.step (seen rfl) (Runs.ret ⟨rfl,g1⟩)
  refine key.call fun v h1 ⟨e,g1⟩=>?_;subst e;refine Runs.step (seen rfl) ?_;rw[kf (by have:=q.short;omega)];exact Runs.cond (fun c=>Runs.ret (hT h1 (gg.trans g1) c)) fun c=>hF _ (gg.trans g1) c
 ·rw[ksj,condF (decide_eq_false (by omega))]
noncomputable def hNote(s1 s2 s3:Sl)(n:Int)(s u z:Sl)(m:Int)(b0 b1 b2 b3 bf bo:Nat)(fv g:AV)(st:LoopState):ABlk:=kec kp5 kcg 0 st none [(0,z.v),(1,.agg [s1.v,s2.v,s3.v]),(2,.agg [.int .i64 n,s.v]),(3,u.v),(4,.ptr (some (.new b0 0))),(5,.ptr (some (.new b1 0))),(6,.ptr (some (.new b2 0))),(7,.ptr (some (.new b3 0))),(8,(⟨none,0,.is 0⟩:Sl).v),(9,.int .i64 0),(10,.int .i64 0),(11,.ptr (some (.new bf 0))),(12,.ptr (some (.new bo 0))),(18,z.v),(19,.bool true),(20,.bool false),(21,.agg [s1.v,s2.v,s3.v]),(22,.agg [.int .i64 n,s.v]),(23,u.v),(24,.int .i64 m),(25,.int .i64 0),(26,.int .i64 0),(27,.bool false),(29,u.v),(30,.func (.func kbv) [] [.ptr (some (.new b0 0))]),(31,.bool false),(32,z.v),(33,fv),(34,.agg [s1.v,s2.v,s3.v]),(35,.agg [.int .i64 n,s.v]),(36,g)]
theorem k9m{note:LoopState→ABlk}{hs hr:AH}{b3 bf bo l kq:Nat}{x4 y tq to:Sl}{j jo:Option Nat}{e3 e4 e5:TypeId}{R qs:List Nat}{Su So:Fp}{xs:List (List Nat)}(hbl:bo≠l)(hbs:bo<hs.blks.size)(hls:l<hs.blks.size)(hrs:hs.blks.size≤hr.blks.size)(ljo:LeO hs.blks.size jo)(hlt:∀x∈R,x<C.length)(hR:R.length≤300)(hxs:xs.length<1000)
  (hend:∀h',h'.blks[l]?=some (note .busy)→kcj l none h'=some (.bool true,h'.setBlk l (note .ready))) (V:GF EI T.int hr Fp.no y j (zs R)) (B3:hr.has b3 [u.v] e3) (Q:Sq Ef.nats hr Su u C) (Bf:hr.has bf [.func (.func kd0) [] [.ptr (some (.new kq 0))]] e4) (Bq:hr.has kq [tq.v] e5) (Nq:Nats hr tq qs) (hn:hr.blks[l]?=some (note .busy)) (Bo:hr.has bo [to.v] kem) (hSo:∀m,So m→hs.blks.size≤m) (Vo:GF Ef.nats kr hr So to jo xs):∀(k i:Nat),i+k=R.length→∀(h:AH)(p:Sl),Grow hr h→Own hr p→Nats h p (prodC qs C (R.take i) [1])→
  Runs (go (.rpt l kcg kli [(7,.ptr (some (.new b3 0))),(8,x4.v),(9,.int .i64 0),(11,.ptr (some (.new bf 0))),(12,.ptr (some (.new bo 0))),(15,p.v),(40,y.v),(41,.int .i64 (R.length:Int)),(42,.int .i64 (i:Int))]) h) fun v h'=>v=.bool true∧Md (fun m=>m=bo∨m=l∨jo=some m) hr h'∧h'.blks[l]?=some (note .ready)∧∃(S:Fp)(t:Sl)(j:Option Nat),(∀m,S m→hs.blks.size≤m)∧h'.has bo [t.v] kem∧LeO hs.blks.size j∧GF Ef.nats kr h' S t j (xs++[prodC qs C R [1]]):=by
 intro k
 induction k with
 | zero =>
  intro i hi h p G O N;obtain rfl:i=R.length:=by omega
  rw[List.take_length]at N;rw[kvt];refine Runs.ifF (decide_eq_false (by omega)) (Runs.step ((G.has Bo).rd0 rfl (asSl_v _)) ?_);refine Runs.new fun h1 b1 g1=>?_;have G1:=G.trans g1;have n1:=(G1.blk l (Array.getElem?_eq_some_iff.1 hn).1).trans hn;have lt:=Vo.lt
  have:=k8v (note:=note) (hs:=hs) (E:=Ef.nats) (Tx:=fun m=>¬Av p m (prodC qs C R [1])) (x:=prodC qs C R [1]) hSo (fun m hm=>Nat.le_trans hrs (own_av O hm)) (by
   cases jo with
   | none=>exact trivial
   | some a =>
    intro hm;have:=own_av O hm;have:a<hr.blks.size:=lt;omega) (G1.has Bo) n1 hbl hbs hls (Nat.le_trans hrs G1.size) ljo (Vo.grow G1) (show Ef.nats.has h1 _ [p.v] _ from⟨p,rfl,N.grow g1,fun j hj=>hj⟩) (kkj (by omega)) b1 (by rw[kkk];rfl) hend
  exact this.imp fun v h' ⟨e,m5,n5,o5⟩=>⟨e,G1.thenM m5,n5,o5⟩
 | succ k ih =>
  intro i hi h p G O N;have hi':i<R.length:=by omega
  have hz:i<(zs R).length:=by rw[zs_len];exact hi'
  obtain⟨r,e1,e2⟩:=(V.grow G).sq.int hz;have hx':(zs R)[i]=((R[i]:Nat):Int):=by simp[zs]
  have hg:=hlt _ (List.getElem_mem hi');obtain⟨r2,s',e4,e5,N',-⟩:=(Q.grow G).nats hg;rw[kvt];refine Runs.ifT (decide_eq_true (by omega)) (Runs.step e1 (Runs.step e2 (Runs.step (show h.cell (.new bf 0)=some _ from(G.has Bf).cell 0) (Runs.step ((G.has B3).rd0 rfl (asSl_v _)) ?_))));rw[hx'];refine Runs.step e4 (Runs.step e5 ?_);show Runs ((callF Pg go kd0 [p.v,s'.v,.ptr (some (.new kq 0))] h).bind _) _;rw[kbdk];refine(kbal N N' (Nq.grow G) (G.has Bq)).call fun v h1 ⟨p',e,N1,g1,O1⟩=>?_;subst e;refine Runs.step (seen (asSl_v _)) ?_;rw[kf (by omega)];refine ih (i+1) (by omega) h1 p' (G.trans g1) (O1.of_le G) ?_;rw[List.take_succ_eq_append_getElem hi'];unfold prodC at N1⊢;rw[List.foldl_append];have:C.getD R[i] []=C[R[i]]:=by simp[List.getD,hg]
  rw[List.foldl_cons,List.foldl_nil,this];exact N1
theorem kbc7{hs h:AH}{b0 b1 b2 b3 bf bo l kq N0:Nat}{tq:Sl}{gv fv:AV}{m:Int}{d:List (Nat×Nat)}{f c:Nat}{y:Sl}{j:Option Nat}{qs:List Nat}{e4 e5:TypeId}(hbl:bo≠l)(hbs:bo<hs.blks.size)(hls:l<hs.blks.size)(h3:b3<N0)(hf:bf<N0)(hq:kq<N0)(hd:d.length<1000)(hb:C.length=t.ids.length)(hids:t.ids.length≤256)(hN0:N0≤bo)(hNl:N0≤l)(B3:hs.has b3 [u.v] kem)(Q:Sq Ef.nats hs (Fp.below N0) u C)(hfv:fv=.func (.func kd0) [] [.ptr (some (.new kq 0))])(Bf:hs.has bf [fv] e4)(Bq:hs.has kq [tq.v] e5)(Nq:Nats hs tq qs)(Aq:∀j,¬Av tq j qs→j<N0)
  (I:LpS Ef.nats kr kem (hNote s1 s2 s3 n s u z m b0 b1 b2 b3 bf bo fv gv) hs bo l (sumsC qs C (rowsL t n w) d) h) (V:GF EI T.int h Fp.no y j (zs (rowsL t n w (f,c)))):Runs (go (.round l [.agg [.int .i64 (f:Int),.int .i64 (c:Int)],y.v]) h) fun v h'=>v=.bool true∧LpS Ef.nats kr kem (hNote s1 s2 s3 n s u z m b0 b1 b2 b3 bf bo fv gv) hs bo l (sumsC qs C (rowsL t n w) (d++[(f,c)])) h':=by
 obtain⟨M,hn,So,to,jo,hSo,Bo,ljo,Vo⟩:=I;have hll:l<h.blks.size:=(Array.getElem?_eq_some_iff.1 hn).1;have hsz:=M.size
 have dis:Dis (Fp.below N0) (fun m=>m=bo∨m=l):=fun k a b=>by
  have a:k<N0:=a;rcases b with rfl | rfl<;>omega
 have no:∀k,k<N0→¬(k=bo∨k=l):=fun k a b=>by rcases b with rfl | rfl<;>omega
 have B3h:=M.has B3 (no _ h3);have Bfh:=M.has Bf (no _ hf);have Bqh:=M.has Bq (no _ hq);have Qh:=Q.md M dis;have Nqh:Nats h tq qs:=Nq.mdE (S:=Fp.below N0) Aq M dis;rw[kbc9 l none _ _ _ _ _ _ _ _ _ _ _ _ _ _ _ _ _ _ _ _ _ _ _ _ _ _ _ _ _ _ _ _ _ _ _ _ _ _ _ _ _ _ _ hn,kp6 (h:=h) hn,Option.bind_some];generalize hq':h.setBlk l _=h1;have u1:Upd h h1 l:=by rw[← hq'];exact AH.setBlk_Upd _
 have n1:h1.blks[l]?=some (hNote s1 s2 s3 n s u z m b0 b1 b2 b3 bf bo fv gv .busy):=by rw[← hq'];exact AH.setBlk_get hll
 have hu1:=u1.size;by_cases hyl:j=some l
 ·subst hyl;exfalso;obtain⟨_,_,_,_,rows,e,b,_⟩:=V;rw[AH.has,hn]at b;unfold hNote kec at b;cases b
 refine Runs.new fun h2 b2' g2=>?_;have V1:GF EI T.int h1 Fp.no y j (zs (rowsL t n w (f,c))):=V.upd u1 Fp.not_no fun k e e2=>hyl (by rw[e,e2]);have Q1:Sq Ef.nats h1 (Fp.below N0) u C:=Qh.upd (by intro k;have k:l<N0:=k;omega) u1;have Nq1:Nats h1 tq qs:=Nqh.upda (Classical.byContradiction fun k=>by have:=Aq _ k;omega) u1;have B31:=B3h.updr (show b3≠l by omega) u1;have Bf1:=Bfh.updr (show bf≠l by omega) u1;have Bq1:=Bqh.updr (show kq≠l by omega) u1;have Bo1:=Bo.updr hbl u1;have Vo1:GF Ef.nats kr h1 So to jo (sumsC qs C (rowsL t n w) d):=Vo.upd u1 (fun x=>by have:=hSo _ x;omega) (kdn hls ljo);rw[V.len,zs_len];rw[hfv]at Bf1;have O:Own h1 ⟨some (.new h1.blks.size 0),1,.is 1⟩:=Own.box (Grow.refl _);have N2:Nats h2 ⟨some (.new h1.blks.size 0),1,.is 1⟩ (prodC qs C ((rowsL t n w (f,c)).take 0) [1]):=Nats.of_has (xs:=[1]) b2' (by simp) (by simp);have:=k9m (note:=hNote s1 s2 s3 n s u z m b0 b1 b2 b3 bf bo fv gv) (hs:=hs) (x4:=⟨none,0,.is 0⟩) (R:=rowsL t n w (f,c)) (xs:=sumsC qs C (rowsL t n w) d) hbl hbs hls (by omega) ljo (fun x hx=>by rw[hb];exact k3b x hx) (by have:=kbcx (t:=t) (n:=n) (w:=w) (p:=(f,c));omega) (by unfold sumsC;rw[List.length_map];exact hd) (fun h' hn'=>by rw[kpm hn'];rfl) V1 B31 Q1 Bf1 Bq1 Nq1 n1 Bo1 hSo Vo1 (rowsL t n w (f,c)).length 0 (by omega) h2 _ g2 O N2;refine this.imp fun v h' ⟨e,m5,n5,o5⟩=>⟨e,?_⟩
 have hsum:sumsC qs C (rowsL t n w) (d++[(f,c)])=sumsC qs C (rowsL t n w) d++[prodC qs C (rowsL t n w (f,c)) [1]]:=by
  unfold sumsC;rw[List.map_append];rfl
 rw[hsum];exact LpS.next (h:=h) (xs:=sumsC qs C (rowsL t n w) d) (M.trans (u1.md (.inr rfl))) ljo m5 n5 o5
theorem k19(T0:Tab h0)(M:Nats h0 z ns)(q:TabAt h0 S s1 s2 s3 t)(N:Nats h0 s w)(Q:Sq Ef.nats h0 S u C):Runs (go (.fn kcg [z.v,.agg [s1.v,s2.v,s3.v],.agg [.int .i64 n,s.v],u.v]) h0) fun v h'=>Grow h0 h'∧∃(S:Fp)(y:Sl)(j:Option Nat),v=.tup [y.v,.int .i64 (kbw ns t n w C).2]∧(∀m,S m→h0.blks.size≤m)∧LeO h0.blks.size j∧GF Ef.nats kr h' S y j (kbw ns t n w C).1:=by
 rw[kbds];refine Runs.new fun ha ba ga=>Runs.new fun h1 b1 g1=>Runs.new fun h2 b2 g2=>Runs.new fun h3 b3 g3=>?_;have g13:=(g1.trans g2).trans g3;have Ba:=g13.has ba;have B1:=g3.has (g2.has b1);have B2:=g3.has b2;have za:=ba.lt;have z1:=b1.lt;have z2:=b2.lt;have z3:=b3.lt;have G3:Grow h0 h3:=ga.trans g13;refine Runs.step (Ba.rd0 rfl (asSl_v _)) ?_
 have nope:∀{h:AH}(c:Int),Grow h0 h→kbw ns t n w C=([],c)→Runs (some (AV.tup [(⟨none,0,.is 0⟩:Sl).v,.int .i64 c],h)) fun v h'=>Grow h0 h'∧∃(S:Fp)(y:Sl)(j:Option Nat),v=.tup [y.v,.int .i64 (kbw ns t n w C).2]∧(∀m,S m→h0.blks.size≤m)∧LeO h0.blks.size j∧GF Ef.nats kr h' S y j (kbw ns t n w C).1:=fun c g e=>by
  rw[e];exact Runs.ret ⟨g,Fp.no,⟨none,0,.is 0⟩,none,rfl,fun m x=>x.elim,trivial,GF.none _ _ _ _⟩
 refine(kpx (M.grow G3)).call fun v h4 ⟨e,g4⟩=>?_;subst e;have G4:=G3.trans g4;refine Runs.step (seen rfl) (Runs.cond (fun c=>nope 1 G4 (by unfold kbw;rw[if_pos c])) fun cM=>?_);have B1:=g4.has B1;have B2:=g4.has B2;have B3:=g4.has b3;refine Runs.step (B1.rd 0 rfl (asSl_v _)) (Runs.step (B1.rd 1 rfl (asSl_v _)) (Runs.step (B1.rd 2 rfl (asSl_v _)) (Runs.step (B2.rd 0 rfl (kc _ _)) (Runs.step (B2.rd 1 rfl (asSl_v _)) (Runs.step (B3.rd0 rfl (asSl_v _)) ?_)))));rw[Q.len];refine(k9k (q.grow G4) (N.grow G4)).call fun v h5 ⟨e,g5⟩=>?_;subst e;have G5:=G4.trans g5;have B3:=g5.has B3;refine Runs.step (seen rfl) (Runs.cond (fun c=>?_) fun c=>?_)
 ·rw[Bool.not_eq_true',decide_eq_false_iff_not]at c;exact nope _ G5 (by unfold kbw;rw[if_neg (by rw[cM];simp),if_neg c])
 rw[Bool.not_eq_false',decide_eq_true_eq]at c;obtain⟨hR,hR2,hn,hm⟩:=k4m c;rw[c];refine Runs.step (B3.rd0 rfl (asSl_v _)) ?_;have Ba5:=(g4.trans g5).has Ba;refine(k76 (M.grow G5) Ba5 (Q.grow G5)).call fun v h6 ⟨e,g6⟩=>?_;subst e;have G6:=G5.trans g6;refine Runs.step (seen rfl) (Runs.cond (fun c2=>nope 11 G6 (by unfold kbw;rw[if_neg (by rw[cM];simp),if_pos c,if_pos c2])) fun c2=>?_)
 have hpl:kbw ns t n w C=(sumsC (kd7 ns) C (rowsL t n w) (cutsL t),0):=by
  unfold kbw;rw[if_neg (by rw[cM];simp),if_pos c,if_neg (by rw[c2];simp)]
 rw[hpl];dsimp only;rw[Bool.not_eq_false']at cM;rw[cM];refine Runs.step ((g6.has Ba5).rd0 rfl (asSl_v _)) ?_;refine(kzw (M.grow G6)).call fun v h7 ⟨kq,tq,e,hkq,Bq,Nq,g7⟩=>?_;subst e;have G7:=G6.trans g7;have g37:=((g4.trans g5).trans g6).trans g7;refine Runs.new fun h8 b8 g8=>Runs.ifT rfl ?_;dsimp only;refine Runs.puts b8 rfl fun h9 b9 u9=>?_;have g79:Grow h7 h9:=g8.updr (Nat.le_refl _) u9;refine Runs.new fun h10 b10 g10=>?_;have g310:=(g37.trans g79).trans g10;have B1':=g310.has (g3.has (g2.has b1));have B2':=g310.has (g3.has b2);have z7:=g37.size;have zq:=Bq.lt;have z8:=b8.lt;have z9:=b9.lt;have z10:=b10.lt;have y9:=g79.size;refine Runs.step (B1'.rd 0 rfl (asSl_v _)) (Runs.step (B1'.rd 1 rfl (asSl_v _)) (Runs.step (B1'.rd 2 rfl (asSl_v _)) (Runs.step (B2'.rd 0 rfl (kc _ _)) (Runs.step (B2'.rd 1 rfl (asSl_v _)) ?_))))
 have k0:Runs (go (.fn kje [.agg [s1.v,s2.v,s3.v],.agg [.int .i64 n,s.v]]) h10) fun v h'=>∃c1 c2:Nat,v=.func (.func kbn) [] [.ptr (some (.new c1 0)),.ptr (some (.new c2 0))]∧h10.blks.size≤c1∧h10.blks.size≤c2∧h'.has c1 [s1.v,s2.v,s3.v] ku∧h'.has c2 [.int .i64 n,s.v] ky∧Grow h10 h':=by
  rw[kuc];exact Runs.new fun h4 b4 g4=>Runs.new fun h5 b5 g5=>Runs.ret ⟨_,_,rfl,Nat.le_refl _,g4.size,g5.has b4,b5,g4.trans g5⟩
 refine k0.call fun v h11 ⟨c1,c2',e,l1,l2,d1,d2,g11⟩=>?_;subst e;dsimp only;rw[k9t,kpn];refine Runs.newM fun h12 hb g12=>?_;rw[kx3];generalize hgv:(AV.func (.func kbn) [] [AV.ptr (some (Ref.new c1 0)),AV.ptr (some (Ref.new c2' 0))])=gv at hb;generalize hfv:(AV.func (.func kd0) [] [AV.ptr (some (Ref.new kq 0))])=fv at hb b9;have g312:=(g310.trans g11).trans g12;have g712:=((g79.trans g10).trans g11).trans g12;have G12:Grow h0 h12:=G3.trans g312;have y10:=g10.size;have z11:=d1.lt;have z12:=d2.lt;have z13:h11.blks.size<h12.blks.size:=(Array.getElem?_eq_some_iff.1 hb).1;have zz0:=G3.size;have E12:EachOk (Fp.below h0.blks.size) s1 s2 s3 s t n w c1 c2' h12:=⟨T0.grow G12,q.bound.grow G12,N.grow G12,g12.has d1,g12.has d2⟩;have I0:LpS Ef.nats kr kem (hNote s1 s2 s3 n s u z (C.length:Int) h0.blks.size ha.blks.size h1.blks.size h2.blks.size h7.blks.size h9.blks.size fv gv) h12 h9.blks.size h11.blks.size (sumsC (kd7 ns) C (rowsL t n w) []) h12:=⟨Md.refl _ _,hb,Fp.no,_,none,fun m x=>x.elim,g12.has (g11.has b10),trivial,GF.none _ _ _ _⟩;have k1:=kv1 (l:=h11.blks.size) (Inv:=fun d h=>LpS Ef.nats kr kem (hNote s1 s2 s3 n s u z (C.length:Int) h0.blks.size ha.blks.size h1.blks.size h2.blks.size h7.blks.size h9.blks.size fv gv) h12 h9.blks.size h11.blks.size (sumsC (kd7 ns) C (rowsL t n w) d) h) (fun d h I=>E12.md I.md (fun j a b=>by have a:j<h0.blks.size:=a;rcases b with rfl | rfl<;>omega) (fun j hj=>Classical.byContradiction fun k=>hj (Av.of_base N (Nat.le_of_not_lt k))) (by omega) (by omega)) (fun d h h' I g=>I.grow g) hR (fun d f c h y j hf hc hd I V=>kbc7 (N0:=h9.blks.size) (by omega) (by omega) (by omega) (by omega) (by omega) (by omega) hd (by omega) (kco hR).1 (by omega) (by omega) (g312.has b3) ((Q.bound.mono fun _ x=>(show _<h9.blks.size by have:=x.2;omega)).grow G12) hfv.symm ((g10.trans (g11.trans g12)).has b9) (g712.has Bq) (Nq.grow g712) (fun j hj=>Classical.byContradiction fun k=>hj (Av.of_base Nq (by omega))) I V) I0;show Runs ((go (.fn kbn [.func (.yield h11.blks.size) [] [],.ptr (some (.new c1 0)),.ptr (some (.new c2' 0))]) h12).bind _) _;refine k1.call fun v h13 ⟨e,I⟩=>?_;obtain⟨Mm,hn9,So,t',j,hSo,B,lj,V⟩:=I;dsimp only;rw[kpk hn9,Option.bind_some,k80];have u7:Upd h13 (h13.setBlk h11.blks.size .dead) h11.blks.size:=AH.setBlk_Upd _;have zz:=Mm.size;have G13:Grow h0 h13:=(G12.thenM Mm).grow fun j hj=>by intro k;rcases k with rfl | rfl<;>omega
 refine Runs.step ((B.updr (by omega) u7).rd0 rfl (asSl_v _)) (Runs.ret ⟨G13.updr (by omega) u7,So,t',j,rfl,fun m hm=>by have:=hSo m hm;omega,LeO.trans (by omega) lj,?_⟩);exact V.upd u7 (fun x=>by have:=hSo _ x;omega) (kdn (by omega) lj)
end
end Go.Ab
namespace Go.Ab
open Go.Num
noncomputable def drawS(n:Nat)(bs:List Nat):Option Nat×List Nat:=if n-1=0 then(some 0,bs)else drawn (bl (n-1)) n bs
theorem kqz{n x:Nat}(hn:0<n){bs:List Nat}(h:(drawS n bs).1=some x):x<n:=by
 unfold drawS at h;split at h
 ·cases h;exact hn
 ·exact(k6u bs.length (Nat.le_refl _) h).1
def swapL(l:List Nat)(i j:Nat):List Nat:=(l.set i (l.getD j 0)).set j (l.getD i 0)
noncomputable def shufF:Nat→List Nat→List Nat→Option (List Nat)×List Nat
 | 0,l,bs=>(some l,bs)
 | i+1,l,bs=>match (drawS (i+2) bs).1 with
  | none=>(none,(drawS (i+2) bs).2)
  | some j=>shufF i (swapL l (i+1) j) (drawS (i+2) bs).2
theorem klg(l:List Nat)(i j:Nat):(swapL l i j).length=l.length:=by simp[swapL]
theorem k35{l:List Nat}{i j n:Nat}(hi:i<l.length)(hj:j<l.length)(h:∀x∈l,x<n):∀x∈swapL l i j,x<n:=by
 intro x hx
 have gd:∀k,k<l.length→l.getD k 0<n:=fun k hk=>by
  rw[List.getD_eq_getElem?_getD,List.getElem?_eq_getElem hk];exact h _ (List.getElem_mem hk)
 rcases List.mem_or_eq_of_mem_set hx with h1 | h1
 ·rcases List.mem_or_eq_of_mem_set h1 with h2 | h2
  ·exact h _ h2
  ·rw[h2];exact gd j hj
 ·rw[h1];exact gd i hi
theorem kxs{n:Nat}:∀(i:Nat)(l bs:List Nat),i<l.length∨i=0→(∀x∈l,x<n)→∀o,(shufF i l bs).1=some o→o.length=l.length∧∀x∈o,x<n:=by
 intro i
 induction i with
 | zero =>
  intro l bs _ h o e;cases e;exact⟨rfl,h⟩
 | succ i ih =>
  intro l bs hi h o e;rw[shufF]at e;have hi:i+1<l.length:=by omega
  cases hd:(drawS (i+2) bs).1 with
  | none=>rw[hd]at e;cases e
  | some j =>
   rw[hd]at e;have hj:=kqz (by omega) hd;have:=ih _ _ (.inl (by rw[klg];omega)) (k35 hi (by omega) h) o e;rwa[klg]at this
structure Gv where
 f:Nat
 c:Nat
 t:Int
 n:Int
 deriving DecidableEq
structure Mk where
 given:List Gv
 nodes:List (Int×Int)
noncomputable def issueF(m:Mk)(bs:List Nat)(t n:Int)(cuts:List (Nat×Nat)):(Option (List Nat)×Int)×Mk×List Nat :=
 if oddI t=true∨oddI n=true∨(t,n)∈m.nodes∨1048576<m.given.length+cuts.length then((none,1),m,bs)
 else match (shufF (cuts.length-1) (List.range cuts.length) bs).1 with
  | none=>((none,7),m,(shufF (cuts.length-1) (List.range cuts.length) bs).2)
  | some o=>((some o,0),⟨m.given++o.map fun k=>⟨(cuts.getD k (0,0)).1,(cuts.getD k (0,0)).2,t,n⟩,m.nodes++[(t,n)]⟩,(shufF (cuts.length-1) (List.range cuts.length) bs).2)
end Go.Ab
set_option maxRecDepth 10000
namespace Go.Ab
open Go.Proofs Go.Num
structure Ses where
 phase:Int
 why:Int
 now:Int
 wait:Option (Int×List Int)
def oddK(k:Int):Bool:=decide (k<1)||decide (k>11)
def awaitF(s:Ses)(l:List Int):Ses×Int :=
 if s.phase≠0 then(s,17)else if l.length=0∨l.any oddK=true then(s,1)else if s.wait.isSome=true then(s,18)else({s with wait:=some (s.now,l)},0)
def overF(s:Ses)(p e:Int):Ses:={s with phase:=p,why:=e,wait:=none}
def waitL(s:Ses):List Int:=match s.wait with
 | none=>[]
 | some (_,l)=>l
def stakeF(s:Ses)(kind a:Int):Ses×Int :=
 if s.phase≠0 then(s,17)else if kind=11 then(overF s 2 (if 1≤a∧a≤1000 then a else 18),0)else if(waitL s).any (fun x=>decide (x=kind))=false then(overF s 2 18,18)else({s with wait:=none},0)
def kge(s:Ses)(e:Int):Ses×Int :=
 if s.phase≠0 then(s,17)else if e<1∨e>1000 then(s,1)else(overF s 2 e,0)
def Fp.nw(a b:Nat):Fp:=fun j=>a≤j∧j<b
theorem GF.noI{e:TypeId}{h:AH}{S:Fp}{s:Sl}:∀{i:Option Nat}{xs:List Int},GF EI e h S s i xs→GF EI e h Fp.no s i xs
 | .none,_,v=>v
 | .some k,_,⟨l,a,r,ln,rows,e',b,c,r2⟩=>⟨l,Fp.not_no,r,ln,rows,e',b,c,r2.imp fun _ _ x=>x⟩
structure Chg(S S':Fp)(h h':AH):Prop where
 md:Md S h h'
 sub:∀j,S' j→S j∨(h.blks.size≤j∧j<h'.blks.size)
theorem Chg.grow{S:Fp}{h h':AH}(g:Grow h h'):Chg S S h h':=⟨g.md _,fun j x=>.inl x⟩
def WaitAt(h:AH)(S:Fp)(i m:Nat):Option (Int×List Int)→Prop
 | none=>MapIs h m []
 | some p=>∃s,MapIs h m [(0,.agg [.int .i64 p.1,s.v])]∧Sq EI h (fun j=>S j∧j≠i∧j≠m) s p.2
def SesAt(h:AH)(S:Fp)(i:Nat)(q:Int×Int×Int)(σ:Ses):Prop:=S i∧∃m,S m∧m≠i∧h.has i [.int .i64 q.1,.int .i64 q.2.1,.int .i64 q.2.2,.int .i64 σ.now,.int .i64 σ.phase,.int .i64 σ.why,.map (some m)] kv9∧WaitAt h S i m σ.wait
def PQ(q:Int×Int×Int):Prop:=q.1≠0∧0<q.2.1
theorem SesAt.md{h h':AH}{S U:Fp}{i:Nat}{q:Int×Int×Int}{σ:Ses}(t:SesAt h S i q σ)(m:Md U h h')(d:Dis S U):SesAt h' S i q σ:=by
 obtain⟨a,k,b,c,e,w⟩:=t;refine⟨a,k,b,c,m.has e (fun x=>d i a x),?_⟩;cases hw:σ.wait with
 | none=>rw[hw]at w;exact MapIs.md w m fun x=>d k b x
 | some p =>
  rw[hw]at w;obtain⟨s,w1,w2⟩:=w;exact⟨s,w1.md m fun x=>d k b x,w2.md m (d.mono (fun j x=>x.1) fun j x=>x)⟩
theorem SesAt.grow{h h':AH}{S:Fp}{i:Nat}{q:Int×Int×Int}{σ:Ses}(t:SesAt h S i q σ)(g:Grow h h'):SesAt h' S i q σ:=t.md (g.md Fp.no) Dis.no
theorem SesAt.mono{h:AH}{S U:Fp}{i:Nat}{q:Int×Int×Int}{σ:Ses}(t:SesAt h S i q σ)(f:∀j,S j→U j):SesAt h U i q σ:=by
 obtain⟨a,k,b,c,e,w⟩:=t;refine⟨f _ a,k,f _ b,c,e,?_⟩;cases hw:σ.wait with
 | none=>rw[hw]at w;exact w
 | some p =>
  rw[hw]at w;obtain⟨s,w1,w2⟩:=w;exact⟨s,w1,w2.mono fun j x=>⟨f j x.1,x.2⟩⟩
section
variable{h:AH}{S Sk:Fp}{i:Nat}{q:Int×Int×Int}{σ:Ses}
theorem k1z{a b c:Int}:Runs (go (.fn kpj [.int .i64 a,.int .i64 b,.int .i64 c]) h) fun v h'=>Grow h h'∧
  ((v=.tup [.ptr none,.int .i64 1]∧¬(2≤b∧b≤16∧0≤a∧a<b∧1≤c∧c≤1073741824))∨
   (2≤b∧b≤16∧0≤a∧a<b∧1≤c∧c≤1073741824)∧∃i,v=.tup [.ptr (some (.new i 0)),.int .i64 0]∧SesAt h' (Fp.nw h.blks.size h'.blks.size) i (a,b,c) ⟨0,0,0,none⟩):=by
 rw[kzi]
 have no:∀{p:Prop},(p→¬(2≤b∧b≤16∧0≤a∧a<b∧1≤c∧c≤1073741824))→p→Runs (some (AV.tup [.ptr none,.int .i64 1],h)) fun v h'=>Grow h h'∧
  ((v=.tup [.ptr none,.int .i64 1]∧¬(2≤b∧b≤16∧0≤a∧a<b∧1≤c∧c≤1073741824))∨
   (2≤b∧b≤16∧0≤a∧a<b∧1≤c∧c≤1073741824)∧∃i,v=.tup [.ptr (some (.new i 0)),.int .i64 0]∧SesAt h' (Fp.nw h.blks.size h'.blks.size) i (a,b,c) ⟨0,0,0,none⟩):=fun{p} f x=>Runs.ret ⟨Grow.refl h,.inl ⟨rfl,f x⟩⟩
 refine Runs.cond (fun k=>no (fun x=>by omega) (of_decide_eq_true k)) fun k1=>Runs.cond (fun k=>no (fun x=>by omega) (of_decide_eq_true k)) fun k2=>Runs.cond (fun k=>no (fun x=>by omega) (of_decide_eq_true k)) fun k3=>Runs.cond (fun k=>no (fun x=>by omega) (of_decide_eq_true k)) fun k4=>Runs.cond (fun k=>no (fun x=>by omega) (of_decide_eq_true k)) fun k5=>Runs.cond (fun k=>no (fun x=>by omega) (of_decide_eq_true k)) fun k6=>?_;rw[decide_eq_false_iff_not]at k1 k2 k3 k4 k5 k6;refine Runs.newMap fun h1 b1 g1=>Runs.new fun h2 b2 g2=>Runs.ret ⟨g1.trans g2,.inr ⟨by omega,h1.blks.size,rfl,?_⟩⟩;have z1:=b1.lt;have z2:=b2.lt;have z3:=g1.size;exact⟨⟨z3,z2⟩,h.blks.size,⟨Nat.le_refl _,by omega⟩,by omega,b2,b1.grow g2⟩
theorem kx7(t:SesAt h S i q σ)(p:PQ q):go (.fn knd [.ptr (some (.new i 0)),.int .i64 0]) h=some (.bool true,h):=by
 obtain⟨a,m,b,c,e,w⟩:=t;obtain⟨p1,p2⟩:=p;rw[k2b];have:Runs (cond (decide ((0:Int)≥0)) (
 (some (Ref.new i 0)).bind fun r3 =>
 ((h.cell (r3.add 1)).bind (AV.asInt .i64)).bind fun n4 =>
 cond (decide (0<n4)) (
 (some (Ref.new i 0)).bind fun r5 =>
 ((h.cell (r5.add 0)).bind (AV.asInt .i64)).bind fun n6 =>
 cond (!decide (0=n6)) (
 (some (Ref.new i 0)).bind fun r7 =>
 ((h.cell (r7.add 0)).bind (AV.asInt .i64)).bind fun n8 =>
 cond (decide (n8=0)) (
 some (.bool true,h)) (
 some (.bool (decide ((0:Int)=0)),h))) (
 some (.bool false,h))) (
 some (.bool false,h))) (
 some (AV.bool false,h))) fun v h'=>v=.bool true∧h'=h:=by
  refine Runs.ifT rfl (Runs.step rfl (Runs.step (e.rd 1 rfl (kc _ _)) (Runs.ifT (decide_eq_true p2) (Runs.step rfl (Runs.step (e.rd 0 rfl (kc _ _)) (Runs.ifT (by rw[Bool.not_eq_true',decide_eq_false_iff_not];exact fun x=>p1 x.symm) (Runs.step rfl (Runs.step (e.rd 0 rfl (kc _ _)) (Runs.ifF (decide_eq_false p1) (Runs.ret ⟨rfl,rfl⟩))))))))))
 obtain⟨v,h',e,rfl,rfl⟩:=this;exact e
theorem k6q{s:Sl}{xs:List Int}(n:Sq EI h Sk s xs):Runs (go (.fn kca [s.v,.func (.func kda) [] []]) h) fun v h'=>v=.bool (xs.any oddK)∧Grow h h':=by
 rw[k27];refine Runs.contains (xs:=xs) ?_;rw[ky3,n.len];refine kdz (n:=xs.length) (G:=fun z h=>go (.pt kba kbo [(0,s.v),(1,.func (.func kda) [] []),(7,.int .i64 (xs.length:Int)),(8,.int .i64 z)]) h) (fun i h P hi g hT hF=>?_) (fun h g=>?_) xs.length 0 (by omega) (Grow.refl h) (fun j hj=>by omega)
 ·obtain⟨r,e1,e2⟩:=(n.grow g).int hi;rw[List.getElem?_eq_getElem hi]at hT hF;simp only[Option.any_some]at hT hF
  have e3:go (.fn kda [.int .i64 xs[i]]) h=some (.bool (oddK xs[i]),h):=by
   rw[k6j];unfold oddK;cases decide (xs[i]<1)<;>rfl
  show Runs (go _ _) _;rw[ksl];refine Runs.ifT (decide_eq_true (by omega)) (Runs.step e1 (Runs.step e2 (Runs.step e3 (Runs.step (seen rfl) ?_))));rw[kf (by have:=n.short;omega)];exact Runs.cond (fun c=>Runs.ret (hT h g c)) fun c=>hF h g c
 ·rw[ksl,condF (decide_eq_false (by omega))]
theorem kyd{s:Sl}{xs:List Int}(n:Sq EI h Sk s xs)(x:Int):Runs (go (.fn koq [s.v,.int .i64 x]) h) fun v h'=>v=.bool (xs.any fun y=>decide (y=x))∧Grow h h':=by
 rw[k8c];refine Runs.contains (xs:=xs) ?_;rw[k5h,n.len];refine kdz (n:=xs.length) (G:=fun z h=>go (.pt kh5 knc [(0,s.v),(1,.int .i64 x),(7,.int .i64 (xs.length:Int)),(8,.int .i64 z)]) h) (fun i h P hi g hT hF=>?_) (fun h g=>?_) xs.length 0 (by omega) (Grow.refl h) (fun j hj=>by omega)
 ·obtain⟨r,e1,e2⟩:=(n.grow g).int hi;rw[List.getElem?_eq_getElem hi]at hT hF;simp only[Option.any_some]at hT hF;show Runs (go _ _) _;rw[kr7];refine Runs.ifT (decide_eq_true (by omega)) (Runs.step e1 (Runs.step e2 ?_));rw[kf (by have:=n.short;omega)];exact Runs.cond (fun c=>Runs.ret (hT h g (by rw[decide_eq_true_eq]at c⊢;exact c.symm))) fun c=>hF h g (by rw[decide_eq_false_iff_not]at c⊢;exact fun e=>c e.symm)
 ·rw[kr7,condF (decide_eq_false (by omega))]
theorem k56(t:SesAt h S i q σ):go (.fn knm [.ptr (some (.new i 0))]) h=some (.tup [.int .i64 σ.phase,.int .i64 σ.why],h):=by
 obtain⟨a,m,b,c,e,w⟩:=t;rw[k7n,Option.bind_some,e.rd 4 rfl (kc _ _),Option.bind_some,Option.bind_some,e.rd 5 rfl (kc _ _),Option.bind_some]
theorem kp7(t:SesAt h S i q σ)(p e:Int):Runs (go (.fn kfb [.ptr (some (.new i 0)),.int .i64 p,.int .i64 e]) h) fun v h'=>v=.tup []∧SesAt h' S i q (overF σ p e)∧Md S h h':=by
 obtain⟨a,m,b,c,e0,w⟩:=t;rw[k0e];refine Runs.step rfl (Runs.putAt e0 (cs':=[.int .i64 q.1,.int .i64 q.2.1,.int .i64 q.2.2,.int .i64 σ.now,.int .i64 p,.int .i64 σ.why,.map (some m)]) (by simp) (by simp) fun h1 b1 u1=>?_);refine Runs.step rfl (Runs.putAt b1 (cs':=[.int .i64 q.1,.int .i64 q.2.1,.int .i64 q.2.2,.int .i64 σ.now,.int .i64 p,.int .i64 e,.map (some m)]) (by simp) (by simp) fun h2 b2 u2=>?_);refine Runs.step rfl (Runs.step (b2.rd 6 rfl rfl) ?_);have m2:Md S h h2:=(u1.md a).trans (u2.md a)
 have hm:∃l,MapIs h2 m l:=by
  have ne:∀{h h':AH}{l},MapIs h m l→Upd h h' i→MapIs h' m l:=fun x u=>x.md (u.md (T:=fun j=>j=i) rfl) c;cases hw:σ.wait with
  | none=>rw[hw]at w;exact⟨_,ne (ne w u1) u2⟩
  | some pp =>
   rw[hw]at w;obtain⟨s,w1,w2⟩:=w;exact⟨_,ne (ne w1 u1) u2⟩
 obtain⟨l,hm⟩:=hm;obtain⟨h3,e3,m3,u3⟩:=hm.clear;refine Runs.step e3 (Runs.ret ⟨rfl,⟨a,m,b,c,b2.updr (fun x=>c x.symm) u3,m3⟩,m2.trans (u3.md b)⟩)
theorem k1h(t:SesAt h S i q σ)(e:Int):Runs (go (.fn krh [.ptr (some (.new i 0)),.int .i64 e]) h) fun v h'=>v=.int .i64 (kge σ e).2∧SesAt h' S i q (kge σ e).1∧Md S h h':=by
 have t0:=t;obtain⟨a,m,b,c,e0,w⟩:=t;rw[k7o];unfold kge;refine Runs.step rfl (Runs.step (e0.rd 4 rfl (kc _ _)) (Runs.cond (fun k=>?_) fun k=>?_))
 ·rw[Bool.not_eq_true',decide_eq_false_iff_not]at k;rw[if_pos k];exact Runs.ret ⟨rfl,t0,Md.refl _ _⟩
 ·rw[Bool.not_eq_false',decide_eq_true_eq]at k;rw[if_neg (by omega)];refine Runs.cond (fun k1=>?_) fun k1=>Runs.cond (fun k2=>?_) fun k2=>?_
  ·rw[decide_eq_true_eq]at k1;rw[if_pos (.inl k1)];exact Runs.ret ⟨rfl,t0,Md.refl _ _⟩
  ·rw[decide_eq_true_eq]at k2;rw[if_pos (.inr k2)];exact Runs.ret ⟨rfl,t0,Md.refl _ _⟩
  ·rw[decide_eq_false_iff_not]at k1 k2;rw[if_neg (by omega)];exact(kp7 t0 2 e).call fun v h' ⟨e1,t1,m1⟩=>by subst e1;exact Runs.step rfl (Runs.ret ⟨rfl,t1,m1⟩)
theorem kpy{m:Nat}{o:Option (Int×List Int)}(w:WaitAt h S i m o):∃(x:Option AV)(t:Int)(s:Sl)(l:List Int),mapGet h (some m) .i64 0=some x∧x.isSome=o.isSome∧x.getD (.agg [.int .i64 0,(⟨none,0,.is 0⟩:Sl).v])=.agg [.int .i64 t,s.v]∧Sq EI h Fp.all s l∧(∀σ:Ses,σ.wait=o→waitL σ=l)∧∃L,MapIs h m L∧(∀h',(MapIs h' m (kvDel L 0))→MapIs h' m [])∧(o=none→L=[]):=by
 cases o with
 | none =>
  refine⟨none,0,⟨none,0,.is 0⟩,[],MapIs.get w 0,rfl,rfl,Sq.nil _ _ _,fun σ hσ=>by unfold waitL;rw[hσ],[],w,fun h' x=>x,fun _=>rfl⟩
 | some p =>
  obtain⟨s,w1,w2⟩:=w;refine⟨some _,p.1,s,p.2,w1.get 0,rfl,rfl,w2.mono fun _ _=>trivial,fun σ hσ=>by unfold waitL;rw[hσ],_,w1,fun h' x=>x,fun x=>by cases x⟩
theorem kr1(t:SesAt h S i q σ)(p:PQ q){s:Sl}{xs:List Int}(n:Sq EI h Sk s xs)(hx:xs.length≤100)(hS:∀j,S j→j<h.blks.size):Runs (go (.fn khh [.ptr (some (.new i 0)),.int .i64 0,s.v]) h) fun v h'=>v=.int .i64 (awaitF σ xs).2∧∃S',SesAt h' S' i q (awaitF σ xs).1∧Chg S S' h h':=by
 have t0:=t;obtain⟨a,m,b,c,e0,w⟩:=t;rw[kbdp];obtain⟨x,tt,sl,l,e1,e2,e3,n1,-,L,mL,-,hL⟩:=kpy w;refine Runs.step rfl (Runs.step (e0.rd 6 rfl rfl) (Runs.step e1 ?_));rw[e3];refine Runs.step rfl (Runs.ifT rfl (Runs.step rfl (Runs.step rfl ?_)));refine Runs.new fun h1 b1 g1=>Runs.puts b1 rfl fun h2 b2 u2=>?_;have g2:Grow h h2:=g1.updr (Nat.le_refl _) u2;refine Runs.step rfl (Runs.step ((g2.has e0).rd 4 rfl (kc _ _)) ?_);unfold awaitF;refine Runs.cond (fun k=>?_) fun k=>?_
 ·rw[Bool.not_eq_true',decide_eq_false_iff_not]at k;rw[if_pos k];exact Runs.ret ⟨rfl,S,t0.grow g2,Chg.grow g2⟩
 rw[Bool.not_eq_false',decide_eq_true_eq]at k;rw[if_neg (by omega)];refine Runs.step (kx7 (t0.grow g2) p) (Runs.step (seen rfl) (Runs.ifF rfl ?_));rw[n.len];refine Runs.cond (fun k1=>?_) fun k1=>?_
 ·rw[decide_eq_true_eq]at k1;rw[if_pos (.inl (by omega))];exact Runs.ret ⟨rfl,S,t0.grow g2,Chg.grow g2⟩
 rw[decide_eq_false_iff_not]at k1;refine(k6q (n.grow g2)).call fun v h3 ⟨e,g3⟩=>?_;subst e;have G:=g2.trans g3;refine Runs.step (seen rfl) (Runs.cond (fun k2=>?_) fun k2=>?_)
 ·rw[if_pos (.inr k2)];exact Runs.ret ⟨rfl,S,t0.grow G,Chg.grow G⟩
 rw[if_neg (fun x=>x.elim (fun y=>by omega) fun y=>by rw[k2]at y;cases y),e2];refine Runs.cond (fun k3=>?_) fun k3=>?_
 ·rw[if_pos k3];exact Runs.ret ⟨rfl,S,t0.grow G,Chg.grow G⟩
 rw[if_neg (by rw[k3];simp)];have e4:=G.has e0;refine Runs.step rfl (Runs.step (e4.rd 6 rfl rfl) (Runs.step rfl (Runs.step (e4.rd 3 rfl (kc _ _)) ?_)));refine(ktj (n.grow G) (by omega)).call fun v h4 ⟨s',j,e,v4,g4,l4⟩=>?_;subst e;refine Runs.step (seen (asSl_v _)) (Runs.when (g4.same e4 3 1) (Runs.when (g4.same e4 6 1) (Runs.step rfl ?_)))
 have hw:σ.wait=none:=by
  cases h5:σ.wait with
  | none=>rfl
  | some y=>rw[h5]at k3;cases k3
 have hL':=hL hw;subst hL';obtain⟨h5,e5,m5,u5⟩:=(mL.grow (G.trans g4)).put 0 (.agg [.int .i64 σ.now,s'.v]);have lm:=mL.lt;have li:=e0.lt;have lj:LtO h4.blks.size j:=v4.lt;have z4:=(G.trans g4).size;have z3:=G.size;have z5:=u5.size;refine Runs.step e5 (Runs.ret ⟨rfl,fun y=>S y∨(h.blks.size≤y∧y<h5.blks.size),⟨.inl a,m,.inl b,c,(g4.has e4).updr (fun x=>c x.symm) u5,s',m5,?_⟩,⟨((G.trans g4).md _).trans (u5.md b),fun y hy=>hy⟩⟩)
 have k4:∀y,(Fp.or (Fp.opt j) Fp.no) y→h.blks.size≤y∧y<h4.blks.size:=fun y hy=>by
  rcases hy with h6 | h6
  ·have h7:j=some y:=h6;subst h7;have l4:h3.blks.size≤y:=l4;have lj:y<h4.blks.size:=lj;omega
  ·exact h6.elim
 refine(v4.noI.sq.md (u5.md (T:=fun y=>y=m) rfl) fun y h1 h2=>?_).mono fun y h1=>?_
 ·have:=k4 y h1;omega
 ·have:=k4 y h1;exact⟨.inr ⟨by omega,by omega⟩,by omega,by omega⟩
theorem k59(t:SesAt h S i q σ)(p:PQ q)(kd a b c:Int)(s1 s2 s3:Sl):Runs (go (.fn knl [.ptr (some (.new i 0)),.int .i64 0,.agg [.int .i64 kd,.int .i64 a,.int .i64 b,.int .i64 c,s1.v,s2.v,s3.v]]) h) fun v h'=>v=.int .i64 (stakeF σ kd a).2∧SesAt h' S i q (stakeF σ kd a).1∧Md S h h':=by
 have t0:=t;obtain⟨a',m,b',c',e0,w⟩:=t;rw[k7s];refine Runs.new fun h1 b1 g1=>?_;have t1:=t0.grow g1;unfold stakeF;refine Runs.step rfl (Runs.step ((g1.has e0).rd 4 rfl (kc _ _)) (Runs.cond (fun k=>?_) fun k=>?_))
 ·rw[Bool.not_eq_true',decide_eq_false_iff_not]at k;rw[if_pos k];exact Runs.ret ⟨rfl,t1,g1.md _⟩
 rw[Bool.not_eq_false',decide_eq_true_eq]at k;rw[if_neg (by omega)];refine Runs.step (kx7 t1 p) (Runs.step (seen rfl) (Runs.ifF rfl (Runs.step (b1.rd 0 rfl (kc _ _)) (Runs.cond (fun k1=>?_) fun k1=>?_))))
 ·rw[decide_eq_true_eq]at k1;rw[if_pos k1]
  have ov:∀e:Int,e=(if 1≤a∧a≤1000 then a else 18)→Runs ((go (.fn kfb [.ptr (some (.new i 0)),.int .i64 2,.int .i64 e]) h1).bind fun q19=>(AV.asTup0 q19.1).bind fun _=>some (.int .i64 0,q19.2)) fun v h'=>v=.int .i64 0∧SesAt h' S i q (overF σ 2 (if 1≤a∧a≤1000 then a else 18))∧Md S h h':=fun e he=>by
   rw[← he];exact(kp7 t1 2 e).call fun v h2 ⟨e2,t2,m2⟩=>by subst e2;exact Runs.step rfl (Runs.ret ⟨rfl,t2,g1.thenM m2⟩)
  refine Runs.step (b1.rd 1 rfl (kc _ _)) (Runs.cond (fun k2=>Runs.step (b1.rd 1 rfl (kc _ _)) (Runs.cond (fun k3=>Runs.step (b1.rd 1 rfl (kc _ _)) (ov _ ?_)) fun k3=>ov _ ?_)) fun k2=>ov _ ?_)
  ·rw[decide_eq_true_eq]at k2 k3;rw[if_pos ⟨k2,k3⟩]
  ·rw[decide_eq_false_iff_not]at k3;rw[if_neg fun x=>k3 x.2]
  ·rw[decide_eq_false_iff_not]at k2;rw[if_neg fun x=>k2 x.1]
 rw[decide_eq_false_iff_not]at k1;rw[if_neg k1];obtain⟨x,tt,sl,l,e1,e2,e3,n1,hl,L,mL,mD,hL⟩:=kpy w;have mL1:=mL.grow g1
 have e1':mapGet h1 (some m) .i64 0=some x:=by
  obtain⟨x',tt',sl',l',f1,f2,f3,f4,f5,L',f6,-,-⟩:=kpy w;rw[mL1.get 0];rw[mL.get 0]at e1;exact e1
 refine Runs.step rfl (Runs.step ((g1.has e0).rd 6 rfl rfl) (Runs.step (b1.rd 0 rfl (kc _ _)) (Runs.step e1' ?_)));rw[e3];refine Runs.step rfl (Runs.ifT rfl (Runs.step rfl (Runs.step rfl (Runs.when (kgu b1 b1 0 1) ?_))));refine(kyd (n1.grow g1) kd).call fun v h2 ⟨e,g2⟩=>?_;subst e;rw[hl σ rfl];have G:=g1.trans g2;refine Runs.step (seen rfl) (Runs.cond (fun k2=>?_) fun k2=>?_)
 ·rw[Bool.not_eq_true']at k2;rw[if_pos k2];exact(kp7 (t0.grow G) 2 18).call fun v h3 ⟨e4,t3,m3⟩=>by subst e4;exact Runs.step rfl (Runs.ret ⟨rfl,t3,G.thenM m3⟩)
 ·rw[Bool.not_eq_false']at k2;rw[if_neg (by rw[k2];simp)];refine Runs.step rfl (Runs.step ((G.has e0).rd 6 rfl rfl) ?_);obtain⟨h3,e4,m4,u4⟩:=(mL1.grow g2).del 0;refine Runs.step e4 (Runs.ret ⟨rfl,⟨a',m,b',c',(G.has e0).updr (fun x=>c' x.symm) u4,mD _ m4⟩,G.thenM (u4.md b')⟩)
end
theorem k24{n:Nat}(hn:0<n)(hb:n<B^64)(bs:List Nat):drawF (digs B n) bs=toldD (drawS n bs):=by
 have h0:(digs B n).length≠0:=by
  intro e;have:=(kqs B2).1 (List.length_eq_zero_iff.1 e);omega
 unfold drawF drawS;rw[if_pos ⟨kg6 hb,h0⟩,kv B2];split
 ·unfold toldD;dsimp only;rw[kcm]
 ·rfl
theorem smallD{m:Nat}(h:m<18446744073709551616):smallN (digs B m)=(m,true):=by
 have hb:m<B^64:=by have:=kw6;omega
 unfold smallN
 have hl:(digs B m).length≤1:=by
  rw[kbi B2,Nat.pow_one];exact h
 rw[if_pos ⟨kg6 hb,hl⟩];by_cases h0:m=0
 ·subst h0;rw[kcm];rfl
 ·rw[kfr B2 h0,Nat.mod_eq_of_lt h];rfl
def smallV(r:Option Nat):AV:=.tup [.int .i64 ((r.getD 0:Nat):Int),.int .i64 (match r with | none=>7 | some _=>0)]
section
variable{h:AH}{S:Fp}{i n:Nat}{bs:List Nat}
theorem kbaq(t:TapeA h S i bs)(h1:1≤n)(h2:n≤100000):Runs (go (.fn kg4 [.ptr (some (.new i 0)),.int .i64 (n:Int)]) h) fun v h'=>v=smallV (drawS n bs).1∧TapeA h' S i (drawS n bs).2∧Md (fun j=>j=i) h h':=by
 have hnB:n<18446744073709551616:=by omega
 have hb:n<B^64:=by have:=kw6;omega
 rw[kbey];refine Runs.ifF (decide_eq_false (by omega)) ?_;have hw:IntKind.wrap .u64 (n:Int)=(n:Int):=by rw[wrapU];omega
 rw[hw];obtain⟨s,hh,e1,n1,g1,o1⟩:=kx4 (h:=h) (x:=n) hnB;refine Runs.step e1 (Runs.step (seen (asSl_v _)) ?_)
 have hlen:(digs B n).length≤63:=by
  have:(digs B n).length≤1:=by
   rw[kbi B2,Nat.pow_one];exact hnB
  omega
 refine(k20 (t.grow g1) n1 (Av.of_own o1 t.lt) (.inl hlen)).call fun v h2 ⟨s2,e2,n2,o2,t2,m2⟩=>?_;subst e2;rw[k24 h1 hb]at n2 t2⊢;refine Runs.step rfl (Runs.step (seen (asSl_v _)) (Runs.step (seen (kc _ _)) (Runs.step (k7i n2) (Runs.step rfl (Runs.step (seen (kc _ _)) (Runs.step (seen rfl) ?_))))));have hx:∀x,(drawS n bs).1=some x→x<n:=fun x e=>kqz h1 e;refine Runs.ret ⟨?_,t2,g1.thenM m2⟩;unfold toldD smallV;generalize hr:(drawS n bs).1=r at *
 cases r with
 | none =>
  dsimp only;rw[show smallN []=(0,true)from rfl];rfl
 | some x =>
  have:=hx x rfl;dsimp only[Option.getD_some];rw[smallD (by omega)];dsimp only;rw[wrap64 (by omega) (by omega)]
theorem kbes{l:List Nat}{i j:Nat}(hi:i<l.length)(hj:j<l.length):((zs l).set i (zs l)[j]!).set j (zs l)[i]! = zs (swapL l i j):=by
 unfold zs swapL;rw[List.map_set,List.map_set]
 have g:∀k,k<l.length→(l.map fun x:Nat=>(x:Int))[k]! = ((l.getD k 0:Nat):Int):=fun k hk=>by
  rw[List.getElem!_eq_getElem?_getD,List.getElem?_map,List.getD_eq_getElem?_getD,List.getElem?_eq_getElem hk];rfl
 rw[g i hi,g j hj]
def ShufP(S:Fp)(h:AH)(i:Nat)(r:Option (List Nat)×List Nat)(v:AV)(h':AH):Prop:=TapeA h' S i r.2∧Md (fun j=>j=i) h h'∧
 match r.1 with
 | none=>v=.tup [(⟨none,0,.is 0⟩:Sl).v,.int .i64 7]
 | some o=>∃(s:Sl)(k:Nat),v=.tup [s.v,.int .i64 0]∧h.blks.size≤k∧GF EI T.int h' Fp.no s (some k) (zs o)
theorem k8j{h0:AH}(hS:∀j,S j→j<h0.blks.size){s:Sl}{k:Nat}(hk:h0.blks.size≤k):∀(c:Nat)(l bs:List Nat){h:AH},(c<l.length∨c=0)→l.length≤16384→TapeA h S i bs→GF EI T.int h Fp.no s (some k) (zs l)→Md (fun j=>j=i) h0 h→
  Runs (go (.pt kdr klo [(6,s.v),(8,.func (.func kg4) [.ptr (some (.new i 0))] []),(9,.int .i64 (c:Int))]) h) (ShufP S h0 i (shufF c l bs)):=by
 intro c
 induction c with
 | zero =>
  intro l bs h hc hl t V M;rw[kqm];refine Runs.ifF rfl (Runs.ret ⟨t,M,s,k,rfl,hk,V⟩)
 | succ c ih =>
  intro l bs h hc hl t V M;have hc:c+1<l.length:=by omega
  have hik:i≠k:=by have:=hS _ t.2.1;omega
  rw[kqm];refine Runs.ifT (decide_eq_true (by omega)) ?_;have hw:IntKind.wrap .i64 (((c+1:Nat):Int)+1)=((c+2:Nat):Int):=by rw[wrap64 (by omega) (by omega)];omega
  have hw2:IntKind.wrap .i64 (((c+1:Nat):Int)-1)=(c:Int):=by rw[wrap64 (by omega) (by omega)];omega
  rw[hw,hw2];refine(kbaq t (n:=c+2) (by omega) (by omega)).call fun v h1 ⟨e,t1,m1⟩=>?_;subst e;have V1:GF EI T.int h1 Fp.no s (some k) (zs l):=V.md m1 Dis.no.symm fun x hx=>by cases hx;exact fun e=>hik e.symm
  unfold smallV;rw[shufF];cases hd:(drawS (c+2) bs).1 with
  | none =>
   refine Runs.step rfl (Runs.step (seen (kc _ _)) (Runs.step (seen (kc _ _)) (Runs.ifT rfl (Runs.ret ⟨t1,M.trans m1,rfl⟩))))
  | some j =>
   have hj:=kqz (by omega) hd;have hjl:j<l.length:=by omega
   have zl:=zs_len l;dsimp only;refine Runs.step rfl (Runs.step (seen (kc _ _)) (Runs.step (seen (kc _ _)) (Runs.ifF rfl ?_)));dsimp only[Option.getD_some];obtain⟨r1,e1,e2⟩:=V1.sq.int (i:=j) (by omega);obtain⟨r2,e3,e4⟩:=V1.sq.int (i:=c+1) (by omega);refine Runs.step e1 (Runs.step e2 (Runs.step e3 (Runs.step e4 ?_)));obtain⟨r3,h3,e5,e6,V3,u3⟩:=V1.set (T:=Fp.no) (cs:=[.int .i64 (zs l)[j]]) (x:=(zs l)[j]) rfl NotO.no (z:=((c+1:Nat):Int)) (j:=c+1) (kbd (by omega));rw[← V1.len]at e5;refine Runs.step e5 (Runs.step e6 ?_);have V3':=V3.noI;obtain⟨r4,h4,e7,e8,V4,u4⟩:=V3'.set (T:=Fp.no) (cs:=[.int .i64 (zs l)[c+1]]) (x:=(zs l)[c+1]) rfl NotO.no (z:=(j:Int)) (j:=j) (kbd (by rw[List.length_set];omega));rw[List.length_set,← V1.len]at e7;refine Runs.step e7 (Runs.step e8 ?_);have V4':=V4.noI
   have hsw:((zs l).set (c+1) (zs l)[j]).set j (zs l)[c+1]=zs (swapL l (c+1) j):=by
    rw[← kbes hc hjl,List.getElem!_eq_getElem?_getD,List.getElem!_eq_getElem?_getD,List.getElem?_eq_getElem (by omega),List.getElem?_eq_getElem (by omega)];rfl
   rw[hsw]at V4';have mk:Md (fun x=>x=k) h1 h4:=(UpdO.md (T:=fun x=>x=k) u3 fun x hx=>by cases hx;rfl).trans (UpdO.md (T:=fun x=>x=k) u4 fun x hx=>by cases hx;rfl);refine ih _ _ (by rw[klg];omega) (by rw[klg];omega) (t1.md mk fun x hx he=>?_) V4' ((M.trans m1).next mk fun x hx he=>?_)
   ·have:=hS x hx;omega
   ·omega
theorem k9v(t:TapeA h S i bs)(hn:n≤16384):Runs (go (.fn kdr [.ptr (some (.new i 0)),.int .i64 (n:Int)]) h) (ShufP S h i (shufF (n-1) (List.range n) bs)):=by
 rw[k3x];refine Runs.ifF rfl (Runs.ifF (decide_eq_false (by omega)) (Runs.ifF (decide_eq_false (by omega)) ?_));obtain⟨s,h1,e1,V1,g1⟩:=kwj (h:=h) (n:=n) (by omega);refine Runs.step e1 ?_;have hS:=t.1
 have fill:∀(d c:Nat),c+d=n→∀{h2:AH},GF EI T.int h2 Fp.no s (some h.blks.size) (zs (List.range c)++List.replicate d 0)→Grow h h2→
   Runs (go (.pt kdr kml [(0,.ptr (some (.new i 0))),(1,.int .i64 (n:Int)),(6,s.v),(25,.int .i64 (n:Int)),(26,.int .i64 (c:Int))]) h2) (ShufP S h i (shufF (n-1) (List.range n) bs)):=by
  intro d
  induction d with
  | zero =>
   intro c hc h2 V g;obtain rfl:c=n:=by omega
   rw[ktu];refine Runs.ifF (decide_eq_false (by omega)) ?_;rw[List.replicate_zero,List.append_nil]at V;rcases Nat.eq_zero_or_pos c with h0 | h0
   ·subst h0;rw[show IntKind.wrap .i64 (((0:Nat):Int)-1)=-1 from by rw[wrap64 (by omega) (by omega)];rfl,kqm];exact Runs.ifF rfl (Runs.ret ⟨t.grow g,g.md _,s,_,rfl,Nat.le_refl _,V⟩)
   ·rw[show IntKind.wrap .i64 ((c:Int)-1)=((c-1:Nat):Int)from by rw[wrap64 (by omega) (by omega)];omega];exact k8j hS (Nat.le_refl _) (c-1) _ _ (by rw[List.length_range];omega) (by rw[List.length_range];omega) (t.grow g) V (g.md _)
  | succ d ih =>
   intro c hc h2 V g;rw[ktu];refine Runs.ifT (decide_eq_true (by omega)) ?_;have zl:(zs (List.range c)++List.replicate (d+1) (0:Int)).length=n:=by rw[List.length_append,zs_len,List.length_range,List.length_replicate];omega
   obtain⟨r,h3,e2,e3,V3,u3⟩:=V.set (T:=Fp.no) (cs:=[.int .i64 (c:Int)]) (x:=(c:Int)) rfl NotO.no (z:=(c:Int)) (j:=c) (kbd (by omega));rw[← V.len]at e2;refine Runs.step e2 (Runs.step e3 ?_);rw[kf (by omega)];refine ih (c+1) (by omega) ?_ (g.updr (i:=h.blks.size) (Nat.le_refl _) u3);have:=V3.noI
   have he:(zs (List.range c)++List.replicate (d+1) (0:Int)).set c (c:Int)=zs (List.range (c+1))++List.replicate d 0:=by
    have hl:(zs (List.range c)).length=c:=by rw[zs_len,List.length_range]
    rw[List.set_append_right _ _ (by omega),hl,Nat.sub_self,List.replicate_succ,List.set_cons_zero,List.range_succ,zs_app,List.append_assoc];rfl
   rw[he]at this;exact this
 have hl:=V1.len;rw[List.length_replicate]at hl;dsimp only;rw[hl];exact fill n 0 (by omega) V1 g1
end
def Gv.cells(x:Gv):List AV:=[.int .i64 (x.f:Int),.int .i64 (x.c:Int),.int .i64 x.t,.int .i64 x.n]
@[reducible] def Ef.gv:Ef Gv where
 w:=4
 pos:=by decide
 has _ _ cs x:=cs=x.cells
 len e:=by rw[e];rfl
 grow _ e:=e
 mono _ e:=e
 upd _ _ e:=e
 bound e:=e
theorem kbc6{n:Nat}(h:n≤2000000):growOk Pg n kcr 4=true:=by
 unfold growOk;rw[kbdf,k0d];have h1:n*32≤kg:=by simp only[kg];omega
 have h2:n≤kg:=by simp only[kg];omega
 simp[h1,h2]
theorem k4l{n:Nat}(h:n≤2000000):growOk Pg n T.int 1=true:=by
 unfold growOk;rw[kpd,kks];have h1:n*8≤kg:=by simp only[kg];omega
 have h2:n≤kg:=by simp only[kg];omega
 simp[h1,h2]
theorem GF.noG{e:TypeId}{h:AH}{S:Fp}{s:Sl}:∀{i:Option Nat}{xs:List Gv},GF Ef.gv e h S s i xs→GF Ef.gv e h Fp.no s i xs
 | .none,_,v=>v
 | .some k,_,⟨l,a,r,ln,rows,e',b,c,r2⟩=>⟨l,Fp.not_no,r,ln,rows,e',b,c,r2.imp fun _ _ x=>x⟩
def MaskAt(h:AH)(S:Fp)(i:Nat)(m:Mk):Prop:=S i∧m.given.length≤1048576∧∃(b:Nat)(s:Sl)(j:Option Nat),S b∧b≠i∧h.has i [s.v,.map (some b)] km2∧MapP h b m.nodes∧GF Ef.gv kcr h Fp.no s j m.given∧∀k,j=some k→S k∧k≠i∧k≠b
theorem MaskAt.md{h h':AH}{S U:Fp}{i:Nat}{m:Mk}(t:MaskAt h S i m)(d:Md U h h')(x:Dis S U):MaskAt h' S i m:=by
 obtain⟨a,l,b,s,j,c,n,B,M,V,k⟩:=t;exact⟨a,l,b,s,j,c,n,d.has B (x i a),M.md d (x b c),V.md d Dis.no.symm fun y hy=>x y (k y hy).1,k⟩
theorem MaskAt.grow{h h':AH}{S:Fp}{i:Nat}{m:Mk}(t:MaskAt h S i m)(g:Grow h h'):MaskAt h' S i m:=t.md (g.md Fp.no) Dis.no
theorem MaskAt.mono{h:AH}{S U:Fp}{i:Nat}{m:Mk}(t:MaskAt h S i m)(f:∀j,S j→U j):MaskAt h U i m:=by
 obtain⟨a,l,b,s,j,c,n,B,M,V,k⟩:=t;exact⟨f _ a,l,b,s,j,f _ c,n,B,M,V,fun y hy=>⟨f _ (k y hy).1,(k y hy).2⟩⟩
def findF(l:List Gv)(id:Int):Gv×Bool:=if 0≤id∧id<(l.length:Int)then(l.getD id.toNat ⟨0,0,0,0⟩,true)else(⟨0,0,0,0⟩,false)
def cutV(x:Gv):AV:=.agg [.int .i64 (x.f:Int),.int .i64 (x.c:Int)]
section
variable{h:AH}{S:Fp}{i:Nat}{m:Mk}
theorem k8g:Runs (go (.fn ko9 []) h) fun v h'=>Grow h h'∧∃i,v=.ptr (some (.new i 0))∧MaskAt h' (Fp.nw h.blks.size h'.blks.size) i ⟨[],[]⟩:=by
 rw[k8u];refine Runs.newP fun h1 b1 g1=>Runs.new fun h2 b2 g2=>Runs.ret ⟨g1.trans g2,h1.blks.size,rfl,?_⟩;have z1:=b1.lt;have z2:=b2.lt;have z3:=g1.size;exact⟨⟨z3,z2⟩,Nat.zero_le _,h.blks.size,_,none,⟨Nat.le_refl _,by omega⟩,by omega,b2,b1.md (g2.md Fp.no) Fp.not_no,GF.none _ _ _ _,fun k e=>by cases e⟩
theorem k3q(t:MaskAt h S i m)(id:Int):Runs (go (.fn kpa [.ptr (some (.new i 0)),.int .i64 id]) h) fun v h'=>Grow h h'∧v=.tup [.int .i64 (findF m.given id).1.t,.int .i64 (findF m.given id).1.n,cutV (findF m.given id).1,.bool (findF m.given id).2]:=by
 obtain⟨a,l,b,s,j,c,n,B,M,V,k⟩:=t;rw[k94];refine Runs.new fun h1 b1 g1=>?_;unfold findF;refine Runs.cond (fun k1=>?_) fun k1=>?_
 ·rw[decide_eq_true_eq]at k1;rw[if_neg (by omega)];refine Runs.puts b1 rfl fun h2 b2 u2=>Runs.step (b2.rd 0 rfl (kc _ _)) (Runs.step (b2.rd 1 rfl (kc _ _)) (Runs.ret ⟨g1.updr (Nat.le_refl _) u2,rfl⟩))
 rw[decide_eq_false_iff_not]at k1;have B1:=g1.has B;refine Runs.step rfl (Runs.step (B1.rd 0 rfl (asSl_v _)) ?_);rw[V.len];refine Runs.cond (fun k2=>?_) fun k2=>?_
 ·rw[decide_eq_true_eq]at k2;rw[if_neg (by omega)];refine Runs.puts b1 rfl fun h2 b2 u2=>Runs.step (b2.rd 0 rfl (kc _ _)) (Runs.step (b2.rd 1 rfl (kc _ _)) (Runs.ret ⟨g1.updr (Nat.le_refl _) u2,rfl⟩))
 rw[decide_eq_false_iff_not]at k2;rw[if_pos ⟨by omega,by omega⟩];obtain⟨p,rfl⟩:∃p:Nat,id=p:=⟨id.toNat,by omega⟩;have hp:p<m.given.length:=by omega
 refine Runs.step rfl (Runs.step (B1.rd 0 rfl (asSl_v _)) ?_);obtain⟨r,cs,e1,e2,L⟩:=(V.grow g1).sq.at (kd2 hp);have e2:cs=(m.given[p]).cells:=e2;subst e2;rw[V.len];have gr:=Grow.refl h1;refine Runs.step e1 (Runs.step (L.rd gr 0 rfl (kc _ _)) (Runs.step (L.rd gr 1 rfl (kc _ _)) (Runs.step (L.rd gr 2 rfl (kc _ _)) (Runs.step (L.rd gr 3 rfl (kc _ _)) ?_))));refine Runs.new fun h2 b2 g2=>Runs.puts b2 rfl fun h3 b3 u3=>?_;have hne:h.blks.size≠h1.blks.size:=by have:=b1.lt;omega
 have b1':=(g2.has b1).updr hne u3;have i0:∀z,idx (some ((Ref.new h1.blks.size 0).add 2)) 2 0 1=some z→z=Ref.new h1.blks.size 2:=fun z hz=>by cases hz;rfl
 refine Runs.step (a:=Ref.new h1.blks.size 2) rfl (Runs.step (show(h3.cell (.new h1.blks.size 2)).bind (AV.asInt .i64)=some _ from b3.rd 2 rfl (kc _ _)) (Runs.step (a:=Ref.new h1.blks.size 3) rfl (Runs.step (show(h3.cell (.new h1.blks.size 3)).bind (AV.asInt .i64)=some _ from b3.rd 3 rfl (kc _ _)) ?_)));refine Runs.step (show(h3.cell (((Ref.new h1.blks.size 0).add 0).add 0)).bind (AV.asInt .i64)=some _ from b3.rd 0 rfl (kc _ _)) (Runs.step (show(h3.cell (((Ref.new h1.blks.size 0).add 0).add 1)).bind (AV.asInt .i64)=some _ from b3.rd 1 rfl (kc _ _)) ?_);refine Runs.puts b1' rfl fun h4 b4 u4=>Runs.step (b4.rd 0 rfl (kc _ _)) (Runs.step (b4.rd 1 rfl (kc _ _)) (Runs.ret ⟨?_,?_⟩))
 ·have z1:=g1.size;exact((g1.trans g2).updr z1 u3).updr (Nat.le_refl _) u4
 ·dsimp only;rw[Int.toNat_natCast,List.getD_eq_getElem?_getD,List.getElem?_eq_getElem hp];rfl
end
section
variable{h0:AH}{S U:Fp}{i it b:Nat}{m:Mk}{bs:List Nat}{t n:Int}
def addG(m:Mk)(t n:Int)(cuts:List (Nat×Nat))(o:List Nat):List Gv:=m.given++o.map fun k=>⟨(cuts.getD k (0,0)).1,(cuts.getD k (0,0)).2,t,n⟩
def idsG(m:Mk)(k:Nat):List Int:=(List.range k).map fun x=>((m.given.length+x:Nat):Int)
theorem kbfd{j0:Option Nat}{cuts:List (Nat×Nat)}{o:List Nat}{sc so:Sl}{bat ko:Nat}(ho:∀x∈o,x<cuts.length)(hz:m.given.length+o.length≤1048576)(hib:b≠i)(hi:i<h0.blks.size)(hb:b<h0.blks.size)(hn:(t,n)∉m.nodes)(hbi:bat≠i)(hbb:bat≠b)(hko:ko<h0.blks.size)(hbat:bat<h0.blks.size)(hki:ko≠i)(hkb:ko≠b)(Bat:h0.has bat [.int .i64 t,.int .i64 n] ktt)(O:GF EI T.int h0 Fp.no so (some ko) (zs o))(Q:Sq EP h0 U sc (zc cuts))(hU:∀j,U j→j≠i∧j≠b∧j<h0.blks.size)(M0:MapP h0 b m.nodes)(hj0:∀k,j0=some k→k≠i∧k≠b∧k≠bat∧k≠ko∧¬U k∧k<h0.blks.size):∀(d c:Nat),c+d=o.length→∀{h:AH}{s si:Sl}{j ji:Option Nat},Md (fun x=>x=i∨j0=some x) h0 h→h.has i [s.v,.map (some b)] km2→GF Ef.gv kcr h Fp.no s j (addG m t n cuts (o.take c))→(j=j0∨LeO h0.blks.size j)→GF EI T.int h Fp.no si ji (idsG m c)→LeO h0.blks.size ji→(∀k,j=some k→ji≠some k)→
  Runs (go (.pt kf1 kna [(0,.ptr (some (.new i 0))),(4,sc.v),(14,.ptr (some (.new bat 0))),(15,so.v),(17,si.v),(60,so.v),(61,.int .i64 (o.length:Int)),(62,.int .i64 (c:Int))]) h) fun v h'=>∃(s si:Sl)(j ji:Option Nat),v=.tup [so.v,si.v,.int .i64 0]∧Md (fun x=>x=i∨j0=some x∨x=b) h0 h'∧h'.has i [s.v,.map (some b)] km2∧GF Ef.gv kcr h' Fp.no s j (addG m t n cuts o)∧(j=j0∨LeO h0.blks.size j)∧GF EI T.int h' Fp.no si ji (idsG m o.length)∧LeO h0.blks.size ji∧MapP h' b (m.nodes++[(t,n)])∧(∀k,j=some k→ji≠some k):=by
 intro d
 induction d with
 | zero =>
  intro c hc h s si j ji MD B V hj I hji hne;obtain rfl:c=o.length:=by omega
  rw[List.take_length]at V;rw[kr2];have Bat':=MD.has Bat (fun x=>x.elim hbi fun e=>(hj0 _ e).2.2.1 rfl);have M':=M0.md MD (fun x=>x.elim hib fun e=>(hj0 _ e).2.1 rfl);refine Runs.ifF (decide_eq_false (by omega)) (Runs.step rfl (Runs.step (B.rd 1 rfl rfl) (Runs.step (Bat'.rd 0 rfl (kc _ _)) (Runs.step (Bat'.rd 1 rfl (kc _ _)) (Runs.step rfl ?_)))));obtain⟨h1,e1,m1,u1⟩:=M'.put hn;refine Runs.step e1 (Runs.ret ⟨s,si,j,ji,rfl,(MD.mono fun x _ y=>y.imp id .inl).next (u1.md (T:=fun x=>x=b) rfl) fun x _ y=>.inr (.inr y),B.updr (fun x=>hib x.symm) u1,V.upd u1 Fp.not_no fun k e=>?_,hj,I.upd u1 Fp.not_no fun k e=>?_,hji,m1,hne⟩)
  ·rcases hj with rfl | hj
   ·exact(hj0 k e).2.1
   ·subst e;have:h0.blks.size≤k:=hj;omega
  ·subst e;have:h0.blks.size≤k:=hji;omega
 | succ d ih =>
  intro c hc h s si j ji MD B V hj I hji hne;have hlt:c<o.length:=by omega
  have hz':c<(zs o).length:=by rw[zs_len];exact hlt
  have Bat':=MD.has Bat (fun x=>x.elim hbi fun e=>(hj0 _ e).2.2.1 rfl)
  have O':GF EI T.int h Fp.no so (some ko) (zs o):=O.md MD Dis.no.symm fun x e y=>by
   cases e;exact y.elim hki fun e=>(hj0 _ e).2.2.2.1 rfl
  have Q':=Q.md MD fun x hx y=>y.elim (hU x hx).1 fun e=>(hj0 _ e).2.2.2.2.1 hx;obtain⟨r,e1,e2⟩:=O'.sq.int hz';have hx':(zs o)[c]=((o[c]:Nat):Int):=by simp[zs]
  have hoc:=ho _ (List.getElem_mem hlt);rw[kr2];refine Runs.ifT (decide_eq_true (by omega)) (Runs.step e1 (Runs.step e2 (Runs.step rfl (Runs.step (B.rd 0 rfl (asSl_v _)) ?_))));rw[hx',V.len];have hsz:=MD.size;refine Runs.new fun h1 b1 g1=>?_;refine Runs.step (kcd b1 (by rw[kf5];rfl)) ?_;have li:(idsG m c).length=c:=by simp[idsG]
  have lg:(addG m t n cuts (o.take c)).length=m.given.length+c:=by
   unfold addG;rw[List.length_append,List.length_map,List.length_take];omega
  obtain⟨si',h2,e3,I2,u2⟩:=(I.grow g1).push (T:=Fp.no) (cs:=[.int .i64 ((addG m t n cuts (o.take c)).length:Int)]) (x:=((addG m t n cuts (o.take c)).length:Int)) rfl NotO.no (k4l (by rw[li];omega));refine Runs.step e3 (Runs.step (asSl_v _) ?_);have m2:Md (Fp.opt ji) h1 h2:=u2.md fun k e=>e
  have no:∀{x:Nat},x<h0.blks.size→¬Fp.opt ji x:=fun hx e=>by
   have e:ji=some _:=e;subst e;have:h0.blks.size≤_:=hji;omega
  have B2:=m2.has (g1.has B) (no hi);have V2:GF Ef.gv kcr h2 Fp.no s j (addG m t n cuts (o.take c)):=(V.grow g1).md m2 Dis.no.symm fun k e y=>hne k e y;have Bat2:=m2.has (g1.has Bat') (no hbat);have Q2:=(Q'.grow g1).md m2 fun x hx y=>no (hU x hx).2.2 y;obtain⟨r2,e4,e5,e6⟩:=Q2.two (i:=o[c]) (by rw[zc_len];exact hoc)
  have hz1:(zc cuts)[o[c]]'(by rw[zc_len];exact hoc)=(((cuts.getD o[c] (0,0)).1:Int),((cuts.getD o[c] (0,0)).2:Int)):=by
   simp[zc,List.getD_eq_getElem?_getD,List.getElem?_eq_getElem hoc]
  rw[hz1]at e5 e6;have sl:sc.len=(zc cuts).length:=Q2.len;refine Runs.step rfl (Runs.step (B2.rd 0 rfl (asSl_v _)) (Runs.step e4 (Runs.step e5 (Runs.step e6 (Runs.step (Bat2.rd 0 rfl (kc _ _)) (Runs.step (Bat2.rd 1 rfl (kc _ _)) ?_))))));refine Runs.new fun h3 b3 g3=>Runs.when (g3.same B2 0 1) ?_;refine Runs.step (kcd b3 (by rw[kyx];rfl)) ?_;obtain⟨s',h4,e7,V4,u4⟩:=(V2.grow g3).push (T:=Fp.no) (cs:=(⟨(cuts.getD o[c] (0,0)).1,(cuts.getD o[c] (0,0)).2,t,n⟩:Gv).cells) (x:=⟨(cuts.getD o[c] (0,0)).1,(cuts.getD o[c] (0,0)).2,t,n⟩) rfl NotO.no (kbc6 (by rw[lg];omega));refine Runs.step e7 (Runs.step (asSl_v _) (Runs.step rfl ?_))
  have jn:∀k,j=some k→k≠i∧k≠b∧k<h3.blks.size:=fun k e=>by
   have z:k<h3.blks.size:=by have:=(V2.grow g3).lt;rw[e]at this;exact this
   rcases hj with rfl | hj
   ·exact⟨(hj0 k e).1,(hj0 k e).2.1,z⟩
   ·rw[e]at hj;have:h0.blks.size≤k:=hj;exact⟨by omega,by omega,z⟩
  have m4:Md (Fp.opt j) h3 h4:=u4.md fun k e=>e;have B4:=m4.has (g3.has B2) (fun e=>(jn _ e).1 rfl);refine Runs.putAt B4 (cs':=[s'.v,.map (some b)]) (by simp) (by simp) fun h5 b5 u5=>?_;rw[kf (by omega)];have z1:=g1.size;have z2:h1.blks.size≤h2.blks.size:=m2.size;have z3:h2.blks.size≤h3.blks.size:=g3.size;have z4:h3.blks.size≤h4.blks.size:=m4.size;have b1l:=b1.lt;have b3l:h2.blks.size<h3.blks.size:=b3.lt;have hgr:Grow h0 h1→True:=fun _=>trivial;refine ih (c+1) (by omega) (j:=some h3.blks.size) (ji:=some h1.blks.size) ?_ b5 ?_ (.inr (show h0.blks.size≤h3.blks.size by omega)) ?_ (show h0.blks.size≤h1.blks.size by omega) (fun k e e2=>by have e:=Option.some.inj e;have e2:=Option.some.inj e2;omega)
  ·have a1:=((MD.thenG g1).next m2 fun x hx y=>absurd y (no hx)).thenG g3
   have a2:=a1.next m4 fun x hx y=>by
    have y:j=some x:=y;rcases hj with rfl | hj
    ·exact .inr y
    ·rw[y]at hj;have:h0.blks.size≤x:=hj;omega
   exact a2.next (u5.md (T:=fun x=>x=i) rfl) fun x hx y=>.inl y
  ·have e9:addG m t n cuts (o.take (c+1))=addG m t n cuts (o.take c)++[⟨(cuts.getD o[c] (0,0)).1,(cuts.getD o[c] (0,0)).2,t,n⟩]:=by
    unfold addG;rw[List.take_succ_eq_append_getElem hlt,List.map_append,List.append_assoc];rfl
   rw[e9];exact V4.noG.upd u5 Fp.not_no fun k e=>by cases e;omega
  ·have e9:idsG m (c+1)=idsG m c++[((addG m t n cuts (o.take c)).length:Int)]:=by
    unfold idsG;rw[List.range_succ,List.map_append,lg];rfl
   rw[e9];have I3:GF EI T.int h3 Fp.no si' (some h1.blks.size) (idsG m c++[((addG m t n cuts (o.take c)).length:Int)]):=I2.noI.grow g3
   exact(I3.md m4 Dis.no.symm fun k e y=>by
    cases e;have y:j=some h1.blks.size:=y;rcases hj with rfl | hj
    ·have:=(hj0 _ y).2.2.2.2.2;omega
    ·have:h1.blks.size<h1.blks.size:=by have:=(V.grow g1).lt;rw[y]at this;have h9:j=some h1.blks.size:=y;have q:=V.lt;rw[h9]at q;have q:h1.blks.size<h.blks.size:=q;omega
     omega).upd u5 Fp.not_no fun k e=>by cases e;omega
end
def IssP(h:AH)(S St:Fp)(i it:Nat)(m:Mk)(r:(Option (List Nat)×Int)×Mk×List Nat)(v:AV)(h':AH):Prop :=
 TapeA h' St it r.2.2∧∃S',MaskAt h' S' i r.2.1∧Md (fun j=>S j∨j=it) h h'∧(∀j,S' j→S j∨(h.blks.size≤j∧j<h'.blks.size))∧
  ((r.1.1=none∧r.1.2≠0∧v=.tup [(⟨none,0,.is 0⟩:Sl).v,(⟨none,0,.is 0⟩:Sl).v,.int .i64 r.1.2])∨
   ∃(o:List Nat)(so si:Sl)(ko:Nat)(ji:Option Nat),r.1=(some o,0)∧v=.tup [so.v,si.v,.int .i64 0]∧h.blks.size≤ko∧GF EI T.int h' Fp.no so (some ko) (zs o)∧GF EI T.int h' Fp.no si ji (idsG m o.length)∧LeO h.blks.size ji)
theorem kup{m:Mk}{bs:List Nat}{t n:Int}{cuts:List (Nat×Nat)}(h:oddI t=true∨oddI n=true∨(t,n)∈m.nodes∨1048576<m.given.length+cuts.length):issueF m bs t n cuts=((none,1),m,bs):=if_pos h
theorem kt9{m:Mk}{bs:List Nat}{t n:Int}{cuts:List (Nat×Nat)}(h:¬(oddI t=true∨oddI n=true∨(t,n)∈m.nodes∨1048576<m.given.length+cuts.length)):issueF m bs t n cuts=(match (shufF (cuts.length-1) (List.range cuts.length) bs).1 with
  | none=>((none,7),m,(shufF (cuts.length-1) (List.range cuts.length) bs).2)
  | some o=>((some o,0),⟨addG m t n cuts o,m.nodes++[(t,n)]⟩,(shufF (cuts.length-1) (List.range cuts.length) bs).2)):=by
 unfold issueF;rw[if_neg h];rfl
theorem k1j(m:Mk)(t n:Int)(cuts:List (Nat×Nat))(o:List Nat):(addG m t n cuts o).length=m.given.length+o.length:=by
 unfold addG;rw[List.length_append,List.length_map]
section
variable{h:AH}{S St U:Fp}{i it:Nat}{m:Mk}{bs:List Nat}
theorem kbbl{cuts:List (Nat×Nat)}{sc:Sl}(Mh:MaskAt h S i m)(ta:TapeA h St it bs)(dis:Dis S St)(hS:∀j,S j→j<h.blks.size)(Q:Sq EP h U sc (zc cuts))(hU:∀j,U j→¬S j∧¬St j∧j<h.blks.size)(hc:cuts.length≤1000)(t n:Int) :
  Runs (go (.fn kf1 [.ptr (some (.new i 0)),.ptr (some (.new it 0)),.int .i64 t,.int .i64 n,sc.v]) h) (IssP h S St i it m (issueF m bs t n cuts)):=by
 have Mh0:=Mh;obtain⟨a,l,b,s,j,c,nb,B,M,V,k⟩:=Mh;have hit:St it:=ta.2.1;rw[kbdw];refine Runs.new fun h1 b1 g1=>Runs.puts b1 rfl fun h2 b2 u2=>?_;have g2:Grow h h2:=g1.updr (Nat.le_refl _) u2
 have odd:∀(x:Int)(h:AH),go (.fn kmy [.int .i64 x]) h=some (.bool (oddI x),h):=fun x h=>by
  rw[k3u];unfold oddI;cases decide (x<0)<;>rfl
 have nope:(oddI t=true∨oddI n=true∨(t,n)∈m.nodes∨1048576<m.given.length+cuts.length)→Runs (some (AV.tup [(⟨none,0,.is 0⟩:Sl).v,(⟨none,0,.is 0⟩:Sl).v,.int .i64 1],h2)) (IssP h S St i it m (issueF m bs t n cuts)):=fun hh=>by
  rw[kup hh];exact Runs.ret ⟨ta.grow g2,S,Mh0.grow g2,g2.md _,fun j x=>.inl x,.inl ⟨rfl,show(1:Int)≠0 by decide,rfl⟩⟩
 refine Runs.step (odd _ _) (Runs.step (seen rfl) (Runs.cond (fun k1=>nope (.inl k1)) fun k1=>?_));refine Runs.step (odd _ _) (Runs.step (seen rfl) (Runs.cond (fun k2=>nope (.inr (.inl k2))) fun k2=>?_));have B2:=g2.has B;refine Runs.step rfl (Runs.step (B2.rd 1 rfl rfl) (Runs.step (b2.rd 0 rfl (kc _ _)) (Runs.step (b2.rd 1 rfl (kc _ _)) ?_)));have M2:MapP h2 b m.nodes:=M.md (g2.md Fp.no) Fp.not_no;refine Runs.step (M2.get t n) ?_
 have hg:((if(t,n)∈m.nodes then some (AV.bool true)else none).getD (.bool false))=.bool (decide ((t,n)∈m.nodes)):=by
  split
  ·rename_i hm;rw[decide_eq_true hm];rfl
  ·rename_i hm;rw[decide_eq_false hm];rfl
 rw[hg];refine Runs.step rfl (Runs.cond (fun k3=>nope (.inr (.inr (.inl (of_decide_eq_true k3))))) fun k3=>?_);refine Runs.step rfl (Runs.step (B2.rd 0 rfl (asSl_v _)) ?_);have hlc:sc.len=cuts.length:=by rw[Q.len,zc_len]
 rw[V.len,hlc];have hw:IntKind.wrap .i64 ((m.given.length:Int)+(cuts.length:Int))=((m.given.length+cuts.length:Nat):Int):=by rw[wrap64 (by omega) (by omega)];omega
 rw[hw];refine Runs.cond (fun k4=>nope (.inr (.inr (.inr (by rw[decide_eq_true_eq]at k4;omega))))) fun k4=>?_;rw[decide_eq_false_iff_not]at k3 k4
 have hgo:¬(oddI t=true∨oddI n=true∨(t,n)∈m.nodes∨1048576<m.given.length+cuts.length):=fun x=>by
  rcases x with x | x | x | x
  ·rw[k1]at x;cases x
  ·rw[k2]at x;cases x
  ·exact k3 x
  ·omega
 rw[kt9 hgo];refine(k9v (ta.grow g2) (n:=cuts.length) (by omega)).call fun v h3 ⟨t3,m3,e3⟩=>?_;have m03:Md (fun j=>S j∨j=it) h h3:=(g2.md _).trans (m3.mono fun x _ y=>.inr y);have Mh3:MaskAt h3 S i m:=(Mh0.grow g2).md m3 fun x hx y=>by subst y;exact dis _ hx hit
 generalize hr:shufF (cuts.length-1) (List.range cuts.length) bs=r at *
 cases hr1:r.1 with
 | none =>
  rw[hr1]at e3;dsimp only at e3;subst e3;exact Runs.step rfl (Runs.step (seen (asSl_v _)) (Runs.step (seen (kc _ _)) (Runs.ifT rfl (Runs.ret ⟨t3,S,Mh3,m03,fun j x=>.inl x,.inl ⟨rfl,show(7:Int)≠0 by decide,rfl⟩⟩))))
 | some o =>
  rw[hr1]at e3;obtain⟨so,ko,e3,hko,O⟩:=e3;subst e3;refine Runs.step rfl (Runs.step (seen (asSl_v _)) (Runs.step (seen (kc _ _)) (Runs.ifF rfl ?_)));obtain⟨ol,olt⟩:=kxs (n:=cuts.length) (cuts.length-1) (List.range cuts.length) bs (by rw[List.length_range];omega) (fun x hx=>List.mem_range.1 hx) o (by rw[hr,hr1]);rw[List.length_range]at ol;have z1:h.blks.size<h2.blks.size:=by have:=b2.lt;omega
  have z2:h2.blks.size≤h3.blks.size:=m3.size;have zi:=hS _ a;have zb:=hS _ c;have zit:=ta.lt;have nbit:b≠it:=fun e=>dis _ c (e▸hit);have niit:i≠it:=fun e=>dis _ a (e▸hit);have lko:ko<h3.blks.size:=O.lt;have B3:=m3.has B2 niit;have hj:∀x,j=some x→x≠it∧x<h.blks.size∧S x:=fun x e=>⟨fun e2=>dis _ (k x e).1 (e2▸hit),hS _ (k x e).1,(k x e).1⟩;have V3:GF Ef.gv kcr h3 Fp.no s j m.given:=(V.grow g2).md m3 Dis.no.symm fun x e y=>(hj x e).1 y;have Q3:=(Q.grow g2).md m3 fun x hx y=>by subst y;exact(hU _ hx).2.1 hit
  have so_l:so.len=o.length:=by rw[O.len,zs_len]
  rw[so_l];have lp:=kbfd (h0:=h3) (U:=U) (i:=i) (b:=b) (m:=m) (t:=t) (n:=n) (j0:=j) (cuts:=cuts) (o:=o) (sc:=sc) (so:=so) (bat:=h.blks.size) (ko:=ko) olt (by omega) nb (by omega) (by omega) k3 (by omega) (by omega) lko (by omega) (by omega) (by omega) (m3.has b2 (by omega)) O Q3 (fun x hx=>⟨fun e=>(hU x hx).1 (e▸a),fun e=>(hU x hx).1 (e▸c),by have:=(hU x hx).2.2;omega⟩) (M2.md m3 nbit) (fun x e=>⟨(k x e).2.1,(k x e).2.2,by have:=(hj x e).2.1;omega,by have:=(hj x e).2.1;omega,fun hx=>(hU x hx).1 (hj x e).2.2,by have:=(hj x e).2.1;omega⟩) o.length 0 (by omega) (h:=h3) (s:=s) (si:=⟨none,0,.is 0⟩) (j:=j) (ji:=none) (Md.refl _ _) B3 (by unfold addG;rw[List.take_zero,List.map_nil,List.append_nil];exact V3) (.inl rfl) (GF.none _ _ _ _) trivial (fun x _ e=>by cases e);refine lp.imp fun v h4 ⟨s4,si,j4,ji,e4,m4,B4,V4,hj4,I4,hji,M4,ne4⟩=>?_;subst e4;have z4:=m4.size
  have hko2:∀x,(x=i∨j=some x∨x=b)→S x:=fun x y=>by
   rcases y with rfl | y | rfl
   ·exact a
   ·exact(hj x y).2.2
   ·exact c
  refine⟨t3.md m4 fun x hx y=>dis x (hko2 x y) hx,fun x=>S x∨(h.blks.size≤x∧x<h4.blks.size),?_,m03.trans (m4.mono fun x _ y=>.inl (hko2 x y)),fun x hx=>hx,.inr ⟨o,so,si,ko,ji,rfl,rfl,by omega,?_,I4,LeO.trans (by omega) hji⟩⟩
  ·refine⟨.inl a,?_,b,s4,j4,.inl c,nb,B4,M4,V4,fun x e=>?_⟩
   ·show(addG m t n cuts o).length≤_;rw[k1j];omega
   ·have lt4:x<h4.blks.size:=by have:=V4.lt;rw[e]at this;exact this
    rcases hj4 with rfl | hj4
    ·exact⟨.inl (k x e).1,(k x e).2⟩
    ·rw[e]at hj4;have:h3.blks.size≤x:=hj4;exact⟨.inr ⟨by omega,lt4⟩,by omega,by omega⟩
  ·refine O.md m4 Dis.no.symm fun x e y=>?_;cases e;have:=hS _ (hko2 _ y);omega
end
structure Pt where
 ses:Ses
 msk:Mk
 bytes:List Nat
 key:List Nat
 trees:Int
 tree:Int
 hidden:List (List Nat)
 result:Int
structure PtL where
 bs:Nat
 bm:Nat
 bt:Nat
 s1:Sl
 s2:Sl
 s3:Sl
 ks:Sl
 hs:Sl
 us:Sl
 nm:Option Nat
def col(C:Nat→Nat)(k:Nat):Fp:=fun j=>C j=k
def PtL.box(L:PtL)(p:Pt):List AV:=[.ptr (some (.new L.bs 0)),.ptr (some (.new L.bm 0)),L.s1.v,L.s2.v,L.s3.v,.ptr (some (.new L.bt 0)),L.ks.v,.int .i64 p.trees,.int .i64 p.tree,L.hs.v,.map L.nm,.int .i64 p.result,L.us.v]
structure PtIn(h:AH)(C:Nat→Nat)(bp:Nat)(q:Int×Int×Int)(L:PtL)(t:Tb)(p:Pt):Prop where
 lt:∀j,C j≠0→j<h.blks.size
 cbp:C bp=1
 box:h.has bp (L.box p) kky
 ses:SesAt h (col C 2) L.bs q p.ses
 mask:MaskAt h (col C 3) L.bm p.msk
 tape:TapeA h (col C 4) L.bt p.bytes
 key:Nats h L.ks p.key
 keyAv:∀j,¬Av L.ks j p.key→C j=5
 hid:Sq Ef.nats h (col C 6) L.hs p.hidden
 nodes:∀m,L.nm=some m→C m=7∧∃l,MapIs h m l
 tab:TabAt h (col C 8) L.s1 L.s2 L.s3 t
 pq:PQ q
 right:tabR t=true
 live:0≤p.tree→L.nm≠none
 low:-1≤p.tree∧p.tree≤16∧p.trees≤16
def Rc(C:Nat→Nat)(a b k:Nat):Nat→Nat:=fun j=>if j<a then C j else if j<b then k else 0
theorem Rc.old{C:Nat→Nat}{a b k j:Nat}(h:j<a):Rc C a b k j=C j:=if_pos h
theorem Rc.new{C:Nat→Nat}{a b k j:Nat}(h1:a≤j)(h2:j<b):Rc C a b k j=k:=by
 unfold Rc;rw[if_neg (by omega),if_pos h2]
theorem Rc.lt{C:Nat→Nat}{a b k j:Nat}(hab:a≤b)(h:Rc C a b k j≠0):j<b:=by
 unfold Rc at h;split at h
 ·omega
 ·split at h
  ·assumption
  ·exact absurd rfl h
theorem TapeA.mono{h:AH}{S U:Fp}{i:Nat}{bs:List Nat}(t:TapeA h S i bs)(f:∀j,S j→U j)(g:∀j,U j→j<h.blks.size):TapeA h U i bs:=by
 obtain⟨z,a,l,s,b,n⟩:=t;exact⟨g,f _ a,l,s,b,n.mono fun j x=>⟨f _ x.1,x.2⟩⟩
theorem TabAt.mono{h:AH}{S U:Fp}{s1 s2 s3:Sl}{t:Tb}(n:TabAt h S s1 s2 s3 t)(f:∀j,S j→U j):TabAt h U s1 s2 s3 t:=⟨n.ids.mono f,n.bins.mono f,n.cols.mono f⟩
section
variable{h h':AH}{C:Nat→Nat}{bp:Nat}{q:Int×Int×Int}{L:PtL}{t:Tb}{p:Pt}
theorem PtIn.parts(P:PtIn h C bp q L t p){K:Nat→Prop}{k:Nat}(hk:K k)(h0:∀c,K c→c≠0)(m:Md (fun j=>K (C j)) h h') :
  (∀j,Rc C h.blks.size h'.blks.size k j≠0→j<h'.blks.size)∧Rc C h.blks.size h'.blks.size k bp=1∧(¬K 1→h'.has bp (L.box p) kky)∧(¬K 2→SesAt h' (col (Rc C h.blks.size h'.blks.size k) 2) L.bs q p.ses)∧(¬K 3→MaskAt h' (col (Rc C h.blks.size h'.blks.size k) 3) L.bm p.msk)∧
  (¬K 4→TapeA h' (col (Rc C h.blks.size h'.blks.size k) 4) L.bt p.bytes)∧(¬K 5→Nats h' L.ks p.key∧∀j,¬Av L.ks j p.key→Rc C h.blks.size h'.blks.size k j=5)∧(¬K 6→Sq Ef.nats h' (col (Rc C h.blks.size h'.blks.size k) 6) L.hs p.hidden)∧(¬K 7→∀m,L.nm=some m→Rc C h.blks.size h'.blks.size k m=7∧∃l,MapIs h' m l)∧
  (¬K 8→TabAt h' (col (Rc C h.blks.size h'.blks.size k) 8) L.s1 L.s2 L.s3 t)∧∀c j,c≠0→C j=c→Rc C h.blks.size h'.blks.size k j=c:=by
 have hz:=m.size
 have up:∀c j,c≠0→C j=c→Rc C h.blks.size h'.blks.size k j=c:=fun c j hc e=>by
  have:j<h.blks.size:=P.lt j (by rw[e];exact hc);rw[Rc.old this,e]
 have dis:∀c,¬K c→Dis (col C c) (fun j=>K (C j)):=fun c hc j a b=>hc (by rw[← show C j=c from a];exact b);have lt':∀j,Rc C h.blks.size h'.blks.size k j≠0→j<h'.blks.size:=fun j hj=>Rc.lt hz hj;refine⟨lt',up 1 _ (by decide) P.cbp,fun hn=>?_,fun hn=>?_,fun hn=>?_,fun hn=>?_,fun hn=>?_,fun hn=>?_,fun hn x e=>?_,fun hn=>?_,up⟩
 ·exact m.has P.box (dis 1 hn _ P.cbp)
 ·exact(P.ses.md m (dis 2 hn)).mono fun j x=>up 2 j (by decide) x
 ·exact(P.mask.md m (dis 3 hn)).mono fun j x=>up 3 j (by decide) x
 ·exact(P.tape.md m (dis 4 hn)).mono (fun j x=>up 4 j (by decide) x) fun j x=>lt' j (by rw[show Rc C h.blks.size h'.blks.size k j=4 from x];decide)
 ·exact⟨P.key.mdE (S:=col C 5) P.keyAv m (dis 5 hn),fun j x=>up 5 j (by decide) (P.keyAv j x)⟩
 ·exact(P.hid.md m (dis 6 hn)).mono fun j x=>up 6 j (by decide) x
 ·obtain⟨a,l,b⟩:=P.nodes x e;exact⟨up 7 x (by decide) a,l,b.md m (dis 7 hn x a)⟩
 ·exact(P.tab.md m (dis 8 hn)).mono fun j x=>up 8 j (by decide) x
theorem PtIn.md(P:PtIn h C bp q L t p){U:Fp}(m:Md U h h')(d:∀j,U j→C j=0):PtIn h' C bp q L t p:=by
 have dis:∀c,c≠0→Dis (col C c) U:=fun c hc j a b=>hc (by rw[← show C j=c from a];exact d j b);exact{lt:=fun j x=>Nat.lt_of_lt_of_le (P.lt j x) m.size,cbp:=P.cbp,box:=m.has P.box (dis 1 (by decide) _ P.cbp),ses:=P.ses.md m (dis 2 (by decide)),mask:=P.mask.md m (dis 3 (by decide)),tape:=P.tape.md m (dis 4 (by decide)),key:=P.key.mdE (S:=col C 5) P.keyAv m (dis 5 (by decide)),keyAv:=P.keyAv,hid:=P.hid.md m (dis 6 (by decide)),nodes:=fun x e=>⟨(P.nodes x e).1,(P.nodes x e).2.elim fun l b=>⟨l,b.md m (dis 7 (by decide) x (P.nodes x e).1)⟩⟩,tab:=P.tab.md m (dis 8 (by decide)),pq:=P.pq,right:=P.right,live:=P.live,low:=P.low}
theorem PtIn.grow(P:PtIn h C bp q L t p)(g:Grow h h'):PtIn h' C bp q L t p:=P.md (g.md Fp.no) fun _ x=>x.elim
theorem PtIn.setSes(P:PtIn h C bp q L t p){S':Fp}{σ:Ses}(s:SesAt h' S' L.bs q σ)(c:Chg (col C 2) S' h h'):PtIn h' (Rc C h.blks.size h'.blks.size 2) bp q L t {p with ses:=σ}:=by
 obtain⟨a1,a2,a3,a4,a5,a6,a7,a8,a9,a10,a11⟩:=P.parts (K:=fun c=>c=2) (k:=2) rfl (by intro c e;omega) (c.md.mono fun j _ x=>x);exact{lt:=a1,cbp:=a2,box:=a3 (by decide),ses:=s.mono fun j x=>(c.sub j x).elim (fun y=>a11 2 j (by decide) y) fun y=>Rc.new y.1 y.2,mask:=a5 (by decide),tape:=a6 (by decide),key:=(a7 (by decide)).1,keyAv:=(a7 (by decide)).2,hid:=a8 (by decide),nodes:=a9 (by decide),tab:=a10 (by decide),pq:=P.pq,right:=P.right,live:=P.live,low:=P.low}
def PtTo(h:AH)(C:Nat→Nat)(bp:Nat)(q:Int×Int×Int)(t:Tb)(h':AH)(p:Pt):Prop:=∃C' L',PtIn h' C' bp q L' t p∧Md (fun j=>C j≠0) h h'∧∀j,j<h.blks.size→C' j=C j
theorem PtTo.refl(P:PtIn h C bp q L t p):PtTo h C bp q t h p:=⟨C,L,P,Md.refl _ _,fun _ _=>rfl⟩
theorem PtTo.grow(P:PtIn h C bp q L t p)(g:Grow h h'):PtTo h C bp q t h' p:=⟨C,L,P.grow g,g.md _,fun _ _=>rfl⟩
theorem PtTo.ses(P:PtIn h C bp q L t p){S':Fp}{σ:Ses}(s:SesAt h' S' L.bs q σ)(c:Chg (col C 2) S' h h'):PtTo h C bp q t h' {p with ses:=σ} :=
 ⟨_,L,P.setSes s c,c.md.mono fun j _ x=>by rw[show C j=2 from x];decide,fun j x=>Rc.old x⟩
theorem PtTo.next{h1:AH}{p2:Pt}{C1:Nat→Nat}(m:Md (fun j=>C j≠0) h h1)(e:∀j,j<h.blks.size→C1 j=C j)(b:PtTo h1 C1 bp q t h' p2):PtTo h C bp q t h' p2:=by
 obtain⟨C',L',P',m',e'⟩:=b;exact⟨C',L',P',m.next m' fun j hj x=>by rwa[e j hj]at x,fun j hj=>(e' j (Nat.lt_of_lt_of_le hj m.size)).trans (e j hj)⟩
theorem ktb(P:PtIn h C bp q L t p)(id:Int):Runs (go (.fn klw [.ptr (some (.new bp 0)),.int .i64 id]) h) fun v h'=>Grow h h'∧v=.tup [cutV (findF p.msk.given id).1,.bool (findF p.msk.given id).2]:=by
 rw[k87];refine Runs.new fun h1 b1 g1=>Runs.step rfl (Runs.step ((g1.has P.box).rd 1 rfl rfl) ?_);refine(k3q (P.mask.grow g1) id).call fun v h2 ⟨g2,e⟩=>?_;subst e;refine Runs.step rfl (Runs.step (seen (kc _ _)) (Runs.step (seen (kc _ _)) (Runs.step rfl (Runs.ifT rfl (Runs.step rfl (Runs.step rfl (Runs.step (seen rfl) ?_)))))));refine Runs.new fun h3 b3 g3=>Runs.puts b3 rfl fun h4 b4 u4=>Runs.step (b4.rd 0 rfl (kc _ _)) (Runs.step (b4.rd 1 rfl (kc _ _)) ?_);have z1:=b1.lt;have z2:=g2.size;have z0:=g1.size;have hne:h.blks.size≠h2.blks.size:=by omega
 have b1':=(g3.has (g2.has b1)).updr hne u4;have hle:h.blks.size≤h2.blks.size:=by omega
 refine Runs.puts b1' rfl fun h5 b5 u5=>Runs.step (b5.rd 0 rfl (kc _ _)) (Runs.step (b5.rd 1 rfl (kc _ _)) (Runs.ret ⟨?_,rfl⟩));exact(((g1.trans g2).trans g3).updr hle u4).updr (Nat.le_refl _) u5
theorem ku6(P:PtIn h C bp q L t p):go (.fn kng [.ptr (some (.new bp 0))]) h=some (.bool (decide (p.ses.phase=0)),h):=by
 rw[k4t,Option.bind_some,P.box.rd (f:=AV.asPtr) 0 rfl rfl,Option.bind_some,k56 P.ses];rfl
end
end Go.Ab
set_option maxRecDepth 10000
namespace Go.Ab
open Go.Proofs Go.Num
open Classical in
noncomputable def newC(Stp St S2 S3:Fp)(bp:Nat):Nat→Nat:=fun j=>if Stp j then 4 else if St j then 8 else if j=bp then 1 else if S2 j then 2 else if S3 j then 3 else 0
theorem ks7{Stp St S2 S3:Fp}{bp j:Nat}(h:newC Stp St S2 S3 bp j≠0):Stp j∨St j∨j=bp∨S2 j∨S3 j:=by
 unfold newC at h;split at h
 ·exact .inl (by assumption)
 split at h
 ·exact .inr (.inl (by assumption))
 split at h
 ·exact .inr (.inr (.inl (by assumption)))
 split at h
 ·exact .inr (.inr (.inr (.inl (by assumption))))
 split at h
 ·exact .inr (.inr (.inr (.inr (by assumption))))
 ·exact absurd rfl h
open Classical in
noncomputable def partE(a b c:Int)(t:Tb):Int:=if¬(2≤b∧b≤16∧0≤a∧a<b∧1≤c∧c≤1073741824)∨a=0 then 1 else if tabR t=false then 20 else 0
theorem k71:awaitF ⟨0,0,0,none⟩ [1]=(⟨0,0,0,some (0,[1])⟩,0):=by
 simp[awaitF,oddK]
section
variable{h:AH}{St Stp:Fp}{s1 s2 s3:Sl}{t:Tb}{it:Nat}{bs:List Nat}
theorem kbe4(Tq:TabAt h St s1 s2 s3 t)(ta:TapeA h Stp it bs)(dis:Dis St Stp)(hSt:∀j,St j→j<h.blks.size)(a b c:Int):Runs (go (.fn kkw [.int .i64 a,.int .i64 b,.int .i64 c,.agg [s1.v,s2.v,s3.v],.ptr (some (.new it 0))]) h) fun v h'=>Grow h h'∧
  ((partE a b c t≠0∧v=.tup [.ptr none,.int .i64 (partE a b c t)])∨partE a b c t=0∧∃bp C L,v=.tup [.ptr (some (.new bp 0)),.int .i64 0]∧PtIn h' C bp (a,b,c) L t ⟨⟨0,0,0,some (0,[1])⟩,⟨[],[]⟩,bs,[],0,-1,[],0⟩∧∀j,C j≠0→Stp j∨St j∨h.blks.size≤j):=by
 have hTp:=ta.1;rw[k5l];refine Runs.new fun h1 b1 g1=>?_
 have nope:∀{h2:AH}(e:Int),partE a b c t=e→e≠0→Grow h h2→Runs (some (AV.tup [.ptr none,.int .i64 e],h2)) fun v h'=>Grow h h'∧
  ((partE a b c t≠0∧v=.tup [.ptr none,.int .i64 (partE a b c t)])∨partE a b c t=0∧∃bp C L,v=.tup [.ptr (some (.new bp 0)),.int .i64 0]∧PtIn h' C bp (a,b,c) L t ⟨⟨0,0,0,some (0,[1])⟩,⟨[],[]⟩,bs,[],0,-1,[],0⟩∧∀j,C j≠0→Stp j∨St j∨h.blks.size≤j):=fun e hq he g=>by
  subst hq;exact Runs.ret ⟨g,.inl ⟨he,rfl⟩⟩
 refine k1z.call fun v h2 ⟨g2,e2⟩=>?_;have G2:=g1.trans g2;rcases e2 with⟨rfl,hq⟩ | ⟨hq,bs',rfl,se⟩
 ·exact Runs.step rfl (Runs.step (seen rfl) (Runs.step (seen (kc _ _)) (Runs.ifT rfl (nope 1 (if_pos (.inl hq)) (by decide) G2))))
 refine Runs.step rfl (Runs.step (seen rfl) (Runs.step (seen (kc _ _)) (Runs.ifF rfl (Runs.cond (fun k=>nope 1 (if_pos (.inr (of_decide_eq_true k))) (by decide) G2) fun k=>?_))));rw[decide_eq_false_iff_not]at k;refine Runs.ifF rfl ?_;have B2:=g2.has b1;refine Runs.step (B2.rd 0 rfl (asSl_v _)) (Runs.step (B2.rd 1 rfl (asSl_v _)) (Runs.step (B2.rd 2 rfl (asSl_v _)) ?_));refine(khj (Tq.grow G2)).call fun v h3 ⟨e,g3⟩=>?_;subst e;have G3:=G2.trans g3;refine Runs.step (seen rfl) (Runs.cond (fun k2=>nope 20 (by rw[Bool.not_eq_true']at k2;unfold partE;rw[if_neg (fun x=>x.elim (fun y=>y hq) k),if_pos k2]) (by decide) G3) fun k2=>?_);rw[Bool.not_eq_false']at k2
 have ne0:partE a b c t=0:=by
  unfold partE;rw[if_neg (fun x=>x.elim (fun y=>y hq) k),if_neg (by rw[k2];simp)]
 refine Runs.new fun h4 b4 g4=>?_;have lit:Sq EI h4 (Fp.or (fun j=>j=h3.blks.size) Fp.no) ⟨some (.new h3.blks.size 0),1,.is 1⟩ [1]:=Sq.lit (rows:=[[.int .i64 1]]) b4 (.cons rfl .nil) rfl;have pq:PQ (a,b,c):=⟨k,by show 0<b;omega⟩;have z1:h.blks.size<h1.blks.size:=b1.lt;have z2:h1.blks.size≤h2.blks.size:=g2.size;have z3:h2.blks.size≤h3.blks.size:=g3.size;have z4:h3.blks.size≤h4.blks.size:=g4.size;refine(kr1 (se.grow (g3.trans g4)) pq lit (by decide) (fun j x=>by have x:h1.blks.size≤j∧j<h2.blks.size:=x;omega)).call fun v h5 ⟨e,S2,s5,c5⟩=>?_;subst e;rw[k71]at s5;dsimp only at s5;have z5:h4.blks.size≤h5.blks.size:=c5.md.size;have B5:=c5.md.has (g4.has (g3.has B2)) (fun x=>by have x:h1.blks.size≤h.blks.size∧_:=x;omega);refine Runs.step (seen (kc _ _)) (Runs.step (B5.rd 0 rfl (asSl_v _)) (Runs.step (B5.rd 1 rfl (asSl_v _)) (Runs.step (B5.rd 2 rfl (asSl_v _)) ?_)));refine k8g.call fun v h6 ⟨g6,im,e,M6⟩=>?_;subst e;have z6:h5.blks.size≤h6.blks.size:=g6.size;refine Runs.step (seen rfl) (Runs.when (g6.same B5 0 3) ?_);refine Runs.new fun h7 b7 g7=>?_;have z7:h6.blks.size<h7.blks.size:=b7.lt;have G5:Grow h h5:=((G3.trans g4).thenM c5.md).grow fun j hj x=>by have x:h1.blks.size≤j∧_:=x;omega
 have G7:=(G5.trans g6).trans g7
 have hS2:∀j,S2 j→h1.blks.size≤j∧j<h5.blks.size:=fun j x=>by
  rcases c5.sub j x with y | y
  ·have y:h1.blks.size≤j∧j<h2.blks.size:=y;omega
  ·omega
 have c4:∀j,Stp j→newC Stp St S2 (Fp.nw h5.blks.size h6.blks.size) h6.blks.size j=4:=fun j x=>if_pos x
 have c8:∀j,St j→newC Stp St S2 (Fp.nw h5.blks.size h6.blks.size) h6.blks.size j=8:=fun j x=>by
  unfold newC;rw[if_neg (fun y=>dis j x y),if_pos x]
 have nn:∀j,h.blks.size≤j→¬Stp j∧¬St j:=fun j hj=>⟨fun x=>by have:=hTp j x;omega,fun x=>by have:=hSt j x;omega⟩
 have c1:newC Stp St S2 (Fp.nw h5.blks.size h6.blks.size) h6.blks.size h6.blks.size=1:=by
  obtain⟨n1,n2⟩:=nn h6.blks.size (by omega);unfold newC;rw[if_neg n1,if_neg n2,if_pos rfl]
 have c2:∀j,S2 j→newC Stp St S2 (Fp.nw h5.blks.size h6.blks.size) h6.blks.size j=2:=fun j x=>by
  have:=hS2 j x;obtain⟨n1,n2⟩:=nn j (by omega);unfold newC;rw[if_neg n1,if_neg n2,if_neg (by omega),if_pos x]
 have c3:∀j,Fp.nw h5.blks.size h6.blks.size j→newC Stp St S2 (Fp.nw h5.blks.size h6.blks.size) h6.blks.size j=3:=fun j x=>by
  have y:h5.blks.size≤j∧j<h6.blks.size:=x;obtain⟨n1,n2⟩:=nn j (by omega);unfold newC;rw[if_neg n1,if_neg n2,if_neg (by omega),if_neg (fun w=>by have:=hS2 j w;omega),if_pos x]
 have lt:∀j,newC Stp St S2 (Fp.nw h5.blks.size h6.blks.size) h6.blks.size j≠0→j<h7.blks.size:=fun j x=>by
  rcases ks7 x with y | y | y | y | y
  ·have:=hTp j y;omega
  ·have:=hSt j y;omega
  ·omega
  ·have:=hS2 j y;omega
  ·have y:h5.blks.size≤j∧j<h6.blks.size:=y;omega
 refine Runs.ret ⟨G7,.inr ⟨ne0,h6.blks.size,newC Stp St S2 (Fp.nw h5.blks.size h6.blks.size) h6.blks.size,⟨bs',im,it,s1,s2,s3,⟨none,0,.is 0⟩,⟨none,0,.is 0⟩,⟨none,0,.is 0⟩,none⟩,rfl,?_,?_⟩⟩
 ·exact{lt:=lt,cbp:=c1,box:=b7,ses:=(s5.grow (g6.trans g7)).mono c2,mask:=(M6.grow g7).mono c3,tape:=(ta.grow G7).mono c4 (fun j x=>lt j (by rw[show _=4 from x];decide)),key:=Nats.nil _,keyAv:=fun j x=>absurd (Av.nil _ _) x,hid:=Sq.nil _ _ _,nodes:=fun m e=>(by cases e),tab:=(Tq.grow G7).mono c8,pq:=pq,right:=k2,live:=fun x=>absurd x (show¬(0:Int)≤-1 by decide),low:=⟨show(-1:Int)≤-1 by decide,show(-1:Int)≤16 by decide,show(0:Int)≤16 by decide⟩}
 ·intro j x;rcases ks7 x with y | y | y | y | y
  ·exact .inl y
  ·exact .inr (.inl y)
  ·exact .inr (.inr (by omega))
  ·exact .inr (.inr (by have:=hS2 j y;omega))
  ·have y:h5.blks.size≤j∧j<h6.blks.size:=y;exact .inr (.inr (by omega))
theorem k2h(Tq:TabAt h St s1 s2 s3 t)(ta:TapeA h Stp it bs)(dis:Dis St Stp)(hSt:∀j,St j→j<h.blks.size)(a b c:Int):Runs (go (.fn kkw [.int .i64 a,.int .i64 b,.int .i64 c,.agg [s1.v,s2.v,s3.v],.ptr (some (.new it 0))]) h) fun v h'=>Grow h h'∧
  ((∃e:Int,e≠0∧v=.tup [.ptr none,.int .i64 e])∨∃bp C L,v=.tup [.ptr (some (.new bp 0)),.int .i64 0]∧PtIn h' C bp (a,b,c) L t ⟨⟨0,0,0,some (0,[1])⟩,⟨[],[]⟩,bs,[],0,-1,[],0⟩∧∀j,C j≠0→Stp j∨St j∨h.blks.size≤j) :=
 (kbe4 Tq ta dis hSt a b c).imp fun v h' ⟨g,d⟩=>⟨g,d.elim (fun⟨x,y⟩=>.inl ⟨_,x,y⟩) fun⟨_,y⟩=>.inr y⟩
end
end Go.Ab
set_option maxRecDepth 10000
namespace Go.Ab
open Go.Proofs Go.Num
@[reducible] def noS:Sl:=⟨none,0,.is 0⟩
abbrev Ans:=List Ms×Int×Pt
theorem Rc.ne2{C:Nat→Nat}{a b k j:Nat}(hj:a≤j)(hk:k≠2):Rc C a b k j≠2:=by
 unfold Rc;rw[if_neg (by omega)];split
 ·exact hk
 ·decide
def PtTo2(h:AH)(C:Nat→Nat)(bp:Nat)(q:Int×Int×Int)(t:Tb)(h':AH)(p:Pt):Prop:=∃C' L',PtIn h' C' bp q L' t p∧Md (fun j=>C j≠0) h h'∧(∀j,j<h.blks.size→C' j=C j)∧∀j,h.blks.size≤j→C' j≠2
theorem PtTo2.grow{h h':AH}{C:Nat→Nat}{bp:Nat}{q:Int×Int×Int}{L:PtL}{t:Tb}{p:Pt}(P:PtIn h C bp q L t p)(g:Grow h h'):PtTo2 h C bp q t h' p :=
 ⟨C,L,P.grow g,g.md _,fun _ _=>rfl,fun j hj e=>by have:=P.lt j (by rw[e];decide);omega⟩
def Did(h:AH)(C:Nat→Nat)(bp:Nat)(q:Int×Int×Int)(t:Tb)(r:Ans)(v:AV)(h':AH):Prop:=(∃s:Sl,v=.tup [s.v,.int .i64 r.2.1]∧Sq Ef.msg h' (Fp.from h.blks.size) s r.1)∧PtTo2 h C bp q t h' r.2.2
open Classical in
noncomputable def setupF(t:Tb)(p:Pt)(m:Ms):Ans :=
 if m.a≠(t.ids.length:Int)then([],20,p)else if m.b<1∨m.b>16∨kcz (m.nats.getD 0 [])=false then([],1,p)
 else([⟨2,(t.ids.length:Int),(t.cols.length:Int),0,[],[],[]⟩],0,{p with key:=m.nats.getD 0 [],trees:=m.b})
open Classical in
noncomputable def gradsF(t:Tb)(p:Pt)(m:Ms):Ans :=
 if m.a≠p.tree+1∨m.a≥p.trees then([],18,p)else if m.nats.length≠t.ids.length then([],1,p)else if oddC p.key m.nats=true then([],11,p)
 else([],0,{p with tree:=m.a,hidden:=m.nats})
theorem kos{h:AH}{S:Fp}{i:Nat}{m:Ms}{e:TypeId}{s5 s6 s7:Sl}(b:h.has i (m.cells s5 s6 s7) e)(hi:S i)(n:MsAt h S s5 s6 s7 m):Sq Ef.msg h S ⟨some (.new i 0),1,.is 1⟩ [m] :=
 (Sq.lit (E:=Ef.msg) (S:=S) (n:=1) (xs:=[m]) (rows:=[m.cells s5 s6 s7]) (by simpa using b) (.cons ⟨s5,s6,s7,rfl,n⟩ .nil) rfl).mono fun j x=>x.elim (fun y=>by rw[show j=i from y];exact hi) id
section
variable{h:AH}{C:Nat→Nat}{bp:Nat}{q:Int×Int×Int}{L:PtL}{t:Tb}{p:Pt}{Sm:Fp}{m:Ms}{s5 s6 s7:Sl}
theorem kber(P:PtIn h C bp q L t p)(M:MsAt h Sm s5 s6 s7 m)(hm:m.nats.length=1)(hl:∀x∈m.nats,x.length≤4):Runs (go (.fn kgx [.ptr (some (.new bp 0)),.agg (m.cells s5 s6 s7)]) h) (Did h C bp q t (setupF t p m)):=by
 rw[kzj];refine Runs.new fun h1 b1 g1=>?_;have P1:=P.grow g1
 have nope:∀{h2:AH}(e:Int),setupF t p m=([],e,p)→Grow h h2→Runs (some (AV.tup [noS.v,.int .i64 e],h2)) (Did h C bp q t (setupF t p m)):=fun e he g=>by
  rw[he];exact Runs.ret ⟨⟨_,rfl,Sq.nil _ _ _⟩,PtTo2.grow P g⟩
 have k0:m.nats.getD 0 []=m.nats[0]:=by rw[List.getD_eq_getElem?_getD,List.getElem?_eq_getElem (by omega)];rfl
 unfold setupF at nope⊢;have B1:=P1.box;refine Runs.step rfl (Runs.step (show(h1.cell (((Ref.new bp 0).add 2).add 0)).bind AV.asSl=some L.s1 from B1.rd 2 rfl (asSl_v _)) (Runs.step (b1.rd 1 rfl (kc _ _)) ?_));rw[P1.tab.ids.len];refine Runs.cond (fun k=>nope 20 (if_pos (by rw[Bool.not_eq_true',decide_eq_false_iff_not]at k;exact k)) g1) fun k1=>?_;rw[Bool.not_eq_false',decide_eq_true_eq]at k1;have r1:¬m.a≠(t.ids.length:Int):=fun x=>x k1;refine Runs.step (b1.rd 2 rfl (kc _ _)) (Runs.cond (fun k=>nope 1 (by rw[if_neg r1,if_pos (.inl (of_decide_eq_true k))]) g1) fun k2=>?_);refine Runs.step (b1.rd 2 rfl (kc _ _)) (Runs.cond (fun k=>nope 1 (by rw[if_neg r1,if_pos (.inr (.inl (of_decide_eq_true k)))]) g1) fun k3=>?_);rw[decide_eq_false_iff_not]at k2 k3;obtain⟨r,sk,e1,e2,N,-⟩:=(M.grow g1).nats.nats (i:=0) (by omega);have e1:idx s7.ref s7.len 0 1=some r:=e1;refine Runs.step (b1.rd 6 rfl (asSl_v _)) (Runs.step e1 (Runs.step e2 ?_));refine(kpx N).call fun v h2 ⟨e,g2⟩=>?_;subst e;have G2:=g1.trans g2;refine Runs.step (seen rfl) (Runs.cond (fun k=>nope 1 (by rw[Bool.not_eq_true']at k;rw[if_neg r1,if_pos (.inr (.inr (by rw[k0];exact k)))]) G2) fun k4=>?_);rw[Bool.not_eq_false']at k4;rw[if_neg r1,if_neg (by rw[k0,k4];rintro (x | x | x);exact k2 x;exact k3 x;cases x),k0];have b2:=g2.has b1;obtain⟨r',sk',e3,e4,N2,-⟩:=(M.grow G2).nats.nats (i:=0) (by omega);have e3:idx s7.ref s7.len 0 1=some r':=e3;refine Runs.step (b2.rd 6 rfl (asSl_v _)) (Runs.step e3 (Runs.step e4 (Runs.step (b2.rd 2 rfl (kc _ _)) ?_)));have hl0:m.nats[0].length≤4:=hl _ (List.getElem_mem _);obtain⟨s',h3,e5,N3,g3,o3⟩:=khr N2 (by omega);have G3:=G2.trans g3;refine Runs.step e5 (Runs.step (seen (asSl_v _)) (Runs.when (g3.same b2 2 1) (Runs.step rfl ?_)));have B3:=g3.has (g2.has B1);refine Runs.putAt B3 (cs':=({L with ks:=s'}:PtL).box p) (by simp[PtL.box]) rfl fun h4 B4 u4=>?_;have hne:h.blks.size≠bp:=by have:=P.box.lt;omega
 have b4:=(g3.has b2).updr hne u4;refine Runs.when (kgu (g3.has b2) b4 2 1) (Runs.step rfl ?_);refine Runs.putAt B4 (cs':=({L with ks:=s'}:PtL).box {p with key:=m.nats[0],trees:=m.b}) (by simp[PtL.box]) rfl fun h5 B5 u5=>?_;refine Runs.step rfl (Runs.step (show(h5.cell (((Ref.new bp 0).add 2).add 2)).bind AV.asSl=some L.s3 from B5.rd 4 rfl (asSl_v _)) ?_);refine Runs.new fun h6 b6 g6=>Runs.ret ⟨⟨_,rfl,kos (m:=⟨2,(t.ids.length:Int),(t.cols.length:Int),0,[],[],[]⟩) (s5:=noS) (s6:=noS) (s7:=noS) (by rw[← P1.tab.cols.len];exact b6) (show h.blks.size≤h5.blks.size from Nat.le_trans G3.size (Nat.le_trans u4.size u5.size)) ⟨Sq.nil _ _ _,Sq.nil _ _ _,Sq.nil _ _ _⟩⟩,?_⟩;have mb:Md (fun j=>j=bp) h h6:=(G3.thenM ((u4.md (T:=fun j=>j=bp) rfl).trans (u5.md (T:=fun j=>j=bp) rfl))).thenG g6;obtain⟨a1,a2,a3,a4,a5,a6,a7,a8,a9,a10,a11⟩:=P.parts (K:=fun c=>c=1∨c=5) (k:=5) (.inr rfl) (by intro c e;omega) (mb.mono fun j _ x=>.inl (by rw[x];exact P.cbp))
 have N6:Nats h6 s' m.nats[0]:=by
  have d:∀j,j=bp→Av s' j m.nats[0]:=fun j e=>Av.of_own o3 (by have:=(g1.trans g2).has P.box;rw[e];exact this.lt);exact((N3.md (u4.md (T:=fun j=>j=bp) rfl) d).md (u5.md (T:=fun j=>j=bp) rfl) d).grow g6
 have z6:h3.blks.size≤h6.blks.size:=Nat.le_trans u4.size (Nat.le_trans u5.size g6.size);refine⟨_,{L with ks:=s'},{lt:=a1,cbp:=a2,box:=g6.has B5,ses:=a4 (by decide),mask:=a5 (by decide),tape:=a6 (by decide),key:=N6,keyAv:=fun j x=>?_,hid:=a8 (by decide),nodes:=a9 (by decide),tab:=a10 (by decide),pq:=P.pq,right:=P.right,live:=P.live,low:=⟨P.low.1,P.low.2.1,by show m.b≤16;omega⟩},mb.mono fun j _ x=>by rw[x,P.cbp];decide,fun j x=>Rc.old x,fun j hj=>Rc.ne2 hj (by decide)⟩;have hj:=own_av o3 x;have hz:=G2.size;refine Rc.new (by omega) ?_;exact Classical.byContradiction fun y=>x (Av.of_base N6 (by omega))
end
theorem Upd.sameB{h h':AH}{i j o:Nat}(u:Upd h h' i)(hj:j≠i)(hl:j<h.blks.size):SameAt h h' (.new j o) 0:=⟨fun k hk=>absurd hk (Nat.not_lt_zero _),fun _=>u.blk j hj hl⟩
def HidG(hb h:AH)(C:Nat→Nat)(hs:Sl)(xs:List (List Nat)):Prop:=∃(S:Fp)(j:Option Nat),(∀x,S x→C x=6)∧(∀x,j=some x→C x=6∧hb.blks.size≤x)∧GF Ef.nats kr h S hs j xs
section
variable{C:Nat→Nat}{bp:Nat}{q:Int×Int×Int}{L:PtL}{t:Tb}{p:Pt}{Sm:Fp}{m:Ms}{s5 s6 s7:Sl}
theorem k9o{h:AH}{b9:Nat}{e:TypeId}{S:Fp}{u:Sl}{X:List (List Nat)}(P:PtIn h C bp q L t p)(B9:h.has b9 [.ptr (some (.new bp 0))] e)(Q:Sq Ef.nats h S u X):Runs (go (.fn kdg [u.v,.func (.func kcu) [] [.ptr (some (.new b9 0))]]) h) fun v h'=>v=.bool (oddC p.key X)∧Grow h h':=by
 rw[kbe6];refine Runs.contains (xs:=X) ?_;rw[kbd7,Q.len];refine kdz (n:=X.length) (G:=fun z h=>go (.pt kbe kb8 [(0,u.v),(1,.func (.func kcu) [] [.ptr (some (.new b9 0))]),(7,.int .i64 (X.length:Int)),(8,.int .i64 z)]) h) (fun i h P' hi gg hT hF=>?_) (fun h g=>?_) X.length 0 (by omega) (Grow.refl h) (fun j hj=>by omega)
 ·obtain⟨r,s',e1,e2,n',-⟩:=(Q.grow gg).nats hi;rw[List.getElem?_eq_getElem hi]at hT hF;simp only[Option.any_some]at hT hF;show Runs (go _ _) _;rw[kxl];refine Runs.ifT (decide_eq_true (by omega)) (Runs.step e1 (Runs.step e2 ?_))
  have key:Runs (go (.fn kcu [s'.v,.ptr (some (.new b9 0))]) h) fun v h'=>v=.bool (!kfl p.key X[i])∧Grow h h':=by
   rw[kbdd];refine Runs.step rfl (Runs.step ((gg.has B9).rd0 rfl rfl) (Runs.step rfl (Runs.step ((gg.has P.box).rd 6 rfl (asSl_v _)) ?_)));refine(krl (P.key.grow gg) n').call fun v h1 ⟨e,g1⟩=>?_;subst e;exact Runs.step (seen rfl) (Runs.ret ⟨rfl,g1⟩)
  refine key.call fun v h1 ⟨e,g1⟩=>?_;subst e;refine Runs.step (seen rfl) ?_;rw[kf (by have:=Q.short;omega)];exact Runs.cond (fun c=>Runs.ret (hT h1 (gg.trans g1) c)) fun c=>hF _ (gg.trans g1) c
 ·rw[kxl,condF (decide_eq_false (by omega))]
theorem kz4{hb:AH}{b9:Nat}{e:TypeId}{u:Sl}{X:List (List Nat)}{Cb:Nat→Nat}(Q:Sq Ef.nats hb Sm u X)(hSm:¬Sm bp)(B9:hb.has b9 [.ptr (some (.new bp 0))] e)(h9:b9≠bp)(hX:X.length≤256)(hl:∀x∈X,x.length≤4)(p0:Pt):∀(d c:Nat),c+d=X.length→∀{h:AH}{C:Nat→Nat}{L:PtL}{p:Pt},Md (fun j=>j=bp) hb h→PtIn h C bp q L t p→(∀j,j<hb.blks.size→C j=Cb j)→(∀j,hb.blks.size≤j→C j≠2)→HidG hb h C L.hs p.hidden→p={p0 with hidden:=X.take c}→
  Runs (go (.pt kdt kk7 [(2,.ptr (some (.new b9 0))),(55,u.v),(56,.int .i64 (X.length:Int)),(57,.int .i64 (c:Int))]) h) fun v h'=>v=.tup [noS.v,.int .i64 0]∧Md (fun j=>j=bp) hb h'∧∃C' L',PtIn h' C' bp q L' t {p0 with hidden:=X}∧(∀j,j<hb.blks.size→C' j=Cb j)∧∀j,hb.blks.size≤j→C' j≠2:=by
 intro d
 induction d with
 | zero =>
  intro c hc h C L p MD P hC h2C H hp;obtain rfl:c=X.length:=by omega
  rw[List.take_length]at hp;subst hp;rw[kst];exact Runs.ifF (decide_eq_false (by omega)) (Runs.ret ⟨rfl,MD,C,L,P,hC,h2C⟩)
 | succ d ih =>
  intro c hc h C L p MD P hC h2C H hp0;have hp:p.hidden.length=c:=by rw[hp0];show(X.take c).length=c;rw[List.length_take];omega
  have hlt:c<X.length:=by omega
  obtain⟨S,jh,hS,hj,V⟩:=H;have Q':=Q.md MD fun x hx y=>hSm (y▸hx);have B9':=MD.has B9 h9;obtain⟨r,s0,e1,e2,N,-⟩:=Q'.nats hlt;rw[kst];refine Runs.ifT (decide_eq_true (by omega)) (Runs.step e1 (Runs.step e2 (Runs.step (B9'.rd0 rfl rfl) (Runs.step (B9'.rd0 rfl rfl) (Runs.step rfl (Runs.step (P.box.rd 9 rfl (asSl_v _)) ?_))))));have hxl:=hl _ (List.getElem_mem hlt);obtain⟨s',h1,e3,N1,g1,o1⟩:=khr N (by omega);refine Runs.step e3 (Runs.step (seen (asSl_v _)) (Runs.when (g1.same P.box 9 1) (Runs.when (g1.same B9' 0 1) (Runs.when (g1.same B9' 0 1) ?_))));have box1:=g1.has P.box;have B91:=g1.has B9';refine Runs.new fun h2 b2 g2=>Runs.when (g2.same box1 9 1) (Runs.when (g2.same B91 0 1) (Runs.when (g2.same B91 0 1) ?_));refine Runs.step (kcd b2 (by rw[kkk];rfl)) ?_;have g12:=g1.trans g2
  have no:NotO (fun j=>¬Av s' j X[c]) jh:=by
   cases jh with
   | none=>trivial
   | some a =>
    intro hm;have:=own_av o1 hm;have:a<h.blks.size:=V.lt;omega
  obtain⟨s2,h3,e4,V3,u3⟩:=(V.grow g12).push (T:=fun j=>¬Av s' j X[c]) (cs:=[s'.v]) (x:=X[c]) ⟨s',rfl,N1.grow g2,fun j hj=>hj⟩ no (kkj (by omega));refine Runs.step e4 (Runs.step (asSl_v _) ?_);have m3:Md (Fp.opt jh) h2 h3:=u3.md fun k e=>e;have jne:∀k,jh=some k→k≠bp∧hb.blks.size≤k:=fun k e=>⟨fun e2=>by have:=(hj k e).1;rw[e2,P.cbp]at this;exact absurd this (by decide),(hj k e).2⟩;have B92:=g2.has B91;have B93:=m3.has B92 (fun e=>by have:=(jne _ e).2;have:=B9.lt;omega);refine Runs.when (kgu B92 B93 0 1) (Runs.step rfl ?_);have box3:=m3.has (g2.has box1) (fun e=>(jne _ e).1 rfl);refine Runs.putAt box3 (cs':=({L with hs:=s2}:PtL).box {p with hidden:=p.hidden++[X[c]]}) (by simp[PtL.box]) rfl fun h4 b4 u4=>?_;rw[kf (by omega)];have z0:=MD.size;have z1:h.blks.size≤h1.blks.size:=g1.size;have z2:h1.blks.size<h2.blks.size:=b2.lt;have z3:h2.blks.size<h3.blks.size:=by have:=V3.lt;exact this
  have z4:h3.blks.size≤h4.blks.size:=u4.size;have m04:Md (fun j=>C j=1∨C j=6) h h4:=((g12.md _).next (m3.mono fun j _ x=>.inr (hj j x).1) fun j hj x=>x).trans ((u4.md (T:=fun j=>j=bp) rfl).mono fun j _ x=>.inl (by rw[x];exact P.cbp));obtain⟨a1,a2,a3,a4,a5,a6,a7,a8,a9,a10,a11⟩:=P.parts (K:=fun c=>c=1∨c=6) (k:=6) (.inr rfl) (by intro c e;omega) m04
  have V4:GF Ef.nats kr h4 (fun j=>(Fp.or S fun j=>¬Av s' j X[c]) j∧j<h2.blks.size) s2 (some h2.blks.size) (p.hidden++[X[c]]):=by
   have zb:=P.box.lt;refine V3.upd u4 (fun hh=>?_) fun k e=>by cases e;omega
   rcases hh.1 with y | y
   ·have:=hS _ y;rw[P.cbp]at this;exact absurd this (by decide)
   ·have:=own_av o1 y;omega
  have c6:∀j,(Fp.or S fun j=>¬Av s' j X[c]) j→j<h2.blks.size→Rc C h.blks.size h4.blks.size 6 j=6:=fun j y z=>by
   rcases y with y | y
   ·exact a11 6 j (by decide) (hS j y)
   ·exact Rc.new (own_av o1 y) (by omega)
  have hH:Sq Ef.nats h4 (col (Rc C h.blks.size h4.blks.size 6) 6) s2 (p.hidden++[X[c]]):=V4.sq.mono fun j y=>by
   rcases y with y | y
   ·cases y;exact Rc.new (by omega) (by omega)
   ·exact c6 j y.1 y.2
  have P4:PtIn h4 (Rc C h.blks.size h4.blks.size 6) bp q {L with hs:=s2} t {p with hidden:=p.hidden++[X[c]]}:={lt:=a1,cbp:=a2,box:=b4,ses:=a4 (by decide),mask:=a5 (by decide),tape:=a6 (by decide),key:=(a7 (by decide)).1,keyAv:=(a7 (by decide)).2,hid:=hH,nodes:=a9 (by decide),tab:=a10 (by decide),pq:=P.pq,right:=P.right,live:=P.live,low:=P.low}
  refine ih (c+1) (by omega) ?_ P4 (fun j hj=>by rw[Rc.old (by omega)];exact hC j hj) (fun j hj=>by
   rcases Nat.lt_or_ge j h.blks.size with x | x
   ·rw[Rc.old x];exact h2C j hj
   ·exact Rc.ne2 x (by decide)) ⟨_,some h2.blks.size,fun j y=>c6 j y.1 y.2,fun x e=>by cases e;exact⟨Rc.new (by omega) (by omega),by omega⟩,V4⟩ (by rw[hp0,List.take_succ_eq_append_getElem hlt])
  refine((MD.thenG g12).next m3 fun j hj x=>absurd (jne _ x).2 (by omega)).trans (u4.md rfl)
theorem k0i{h:AH}(P:PtIn h C bp q L t p)(M:MsAt h Sm s5 s6 s7 m)(hSm:∀j,Sm j→C j=0)(hl:∀x∈m.nats,x.length≤4):Runs (go (.fn kdt [.ptr (some (.new bp 0)),.agg (m.cells s5 s6 s7)]) h) (Did h C bp q t (gradsF t p m)):=by
 rw[kzd];refine Runs.new fun h0 b0 g0=>Runs.new fun h1 b1 g1=>?_;have G1:=g0.trans g1;have P1:=P.grow G1
 have nope:∀{h2:AH}(e:Int),gradsF t p m=([],e,p)→Grow h h2→Runs (some (AV.tup [noS.v,.int .i64 e],h2)) (Did h C bp q t (gradsF t p m)):=fun e he g=>by
  rw[he];exact Runs.ret ⟨⟨_,rfl,Sq.nil _ _ _⟩,PtTo2.grow P g⟩
 unfold gradsF at nope⊢;have B1:=P1.box;have B0:=g1.has b0;have hb:=P.box.lt;have lw:=P.low;have hw:IntKind.wrap .i64 (p.tree+1)=p.tree+1:=wrap64 (by omega) (by omega);refine Runs.step (b1.rd 1 rfl (kc _ _)) (Runs.step (B0.rd0 rfl rfl) (Runs.step rfl (Runs.step (B1.rd 8 rfl (kc _ _)) (Runs.cond (fun k=>nope 18 (if_pos (.inl (by rw[Bool.not_eq_true',decide_eq_false_iff_not,hw]at k;exact k))) G1) fun k1=>?_))));refine Runs.step (b1.rd 1 rfl (kc _ _)) (Runs.step (B0.rd0 rfl rfl) (Runs.step rfl (Runs.step (B1.rd 7 rfl (kc _ _)) (Runs.cond (fun k=>nope 18 (if_pos (.inr (of_decide_eq_true k))) G1) fun k2=>?_))));rw[Bool.not_eq_false',decide_eq_true_eq,hw]at k1;rw[decide_eq_false_iff_not]at k2;have r1:¬(m.a≠p.tree+1∨m.a≥p.trees):=fun x=>x.elim (fun y=>y k1) k2;have M1:=M.grow G1;refine Runs.step (b1.rd 6 rfl (asSl_v _)) (Runs.step (B0.rd0 rfl rfl) (Runs.step rfl (Runs.step (show(h1.cell (((Ref.new bp 0).add 2).add 0)).bind AV.asSl=some L.s1 from B1.rd 2 rfl (asSl_v _)) ?_)));rw[M1.nats.len,P1.tab.ids.len];refine Runs.cond (fun k=>nope 1 (by rw[Bool.not_eq_true',decide_eq_false_iff_not]at k;rw[if_neg r1,if_pos (by omega)]) G1) fun k3=>?_;rw[Bool.not_eq_false',decide_eq_true_eq]at k3;have r2:¬m.nats.length≠t.ids.length:=by omega
 refine Runs.step (b1.rd 6 rfl (asSl_v _)) ?_;refine(k9o P1 B0 M1.nats).call fun v h2 ⟨e,g2⟩=>?_;subst e;have G2:=G1.trans g2;refine Runs.step (seen rfl) (Runs.cond (fun k=>nope 11 (by rw[if_neg r1,if_neg r2,if_pos k]) G2) fun k4=>?_);rw[if_neg r1,if_neg r2,if_neg (by rw[k4];simp)];refine Runs.newMap fun h3 M3 g3=>?_;have z0:h.blks.size<h0.blks.size:=b0.lt;have z1:h0.blks.size<h1.blks.size:=b1.lt;have z2:h1.blks.size≤h2.blks.size:=g2.size;have z3:h2.blks.size<h3.blks.size:=M3.lt;have B03:=g3.has (g2.has B0);have B13:=g3.has (g2.has B1);have b13:=g3.has (g2.has b1);refine Runs.step (B03.rd0 rfl rfl) (Runs.step (B03.rd0 rfl rfl) (Runs.step (B03.rd0 rfl rfl) (Runs.step (b13.rd 1 rfl (kc _ _)) (Runs.step rfl ?_))));refine Runs.putAt B13 (cs':=L.box {p with tree:=m.a}) (by simp[PtL.box]) rfl fun h4 B4 u4=>?_;have B04:=B03.updr (show h.blks.size≠bp by omega) u4;have b14:=b13.updr (show h0.blks.size≠bp by omega) u4;have z4:=u4.size;refine Runs.when (kgu B03 B04 0 1) (Runs.when (kgu B03 B04 0 1) (Runs.when (u4.sameB (j:=h2.blks.size) (by omega) z3) (Runs.step rfl ?_)));refine Runs.putAt B4 (cs':=({L with hs:=noS}:PtL).box {p with tree:=m.a}) (by simp[PtL.box]) rfl fun h5 B5 u5=>?_;have B05:=B04.updr (show h.blks.size≠bp by omega) u5;have b15:=b14.updr (show h0.blks.size≠bp by omega) u5;have z5:=u5.size;refine Runs.when (kgu B04 B05 0 1) (Runs.when (u5.sameB (j:=h2.blks.size) (by omega) (by omega)) (Runs.step rfl ?_));refine Runs.putAt B5 (cs':=({L with hs:=noS,nm:=some h2.blks.size}:PtL).box {p with tree:=m.a,hidden:=[]}) (by simp[PtL.box]) rfl fun h6 B6 u6=>?_;have b16:=b15.updr (show h0.blks.size≠bp by omega) u6;have B06:=B05.updr (show h.blks.size≠bp by omega) u6;have z6:=u6.size;have mu:Md (fun j=>j=bp) h3 h6:=((u4.md (T:=fun j=>j=bp) rfl).trans (u5.md rfl)).trans (u6.md rfl);have m06:Md (fun j=>j=bp) h h6:=((G2.trans g3).thenM mu);refine Runs.step (b16.rd 6 rfl (asSl_v _)) ?_;have M6:=M.nats.md m06 fun j x y=>by have:=hSm j x;rw[y,P.cbp]at this;exact absurd this (by decide)
 obtain⟨a1,a2,a3,a4,a5,a6,a7,a8,a9,a10,a11⟩:=P.parts (K:=fun c=>c=1∨c=6∨c=7) (k:=7) (.inr (.inr rfl)) (by intro c e;omega) (m06.mono fun j _ x=>.inl (by rw[x];exact P.cbp))
 have hN:∀x,(some h2.blks.size:Option Nat)=some x→Rc C h.blks.size h6.blks.size 7 x=7∧∃l,MapIs h6 x l:=fun x e=>by
  cases e;exact⟨Rc.new (by omega) (by omega),[],M3.md mu (show h2.blks.size≠bp by omega)⟩
 have P6:PtIn h6 (Rc C h.blks.size h6.blks.size 7) bp q {L with hs:=noS,nm:=some h2.blks.size} t {p with tree:=m.a,hidden:=[]}:={lt:=a1,cbp:=a2,box:=B6,ses:=a4 (by decide),mask:=a5 (by decide),tape:=a6 (by decide),key:=(a7 (by decide)).1,keyAv:=(a7 (by decide)).2,hid:=Sq.nil _ _ _,nodes:=hN,tab:=a10 (by decide),pq:=P.pq,right:=P.right,live:=fun _ e=>(by cases e),low:=⟨by show -1≤m.a;omega,by show m.a≤16;omega,lw.2.2⟩};have hid:=(kco P.right).1;rw[M6.len];have lp:=kz4 (q:=q) (t:=t) (Sm:=Sm) (bp:=bp) (b9:=h.blks.size) (Cb:=Rc C h.blks.size h6.blks.size 7) M6 (fun x=>by have:=hSm _ x;rw[P.cbp]at this;exact absurd this (by decide)) B06 (by omega) (by omega) hl {p with tree:=m.a,hidden:=[]} m.nats.length 0 (by omega) (Md.refl _ _) P6 (fun j hj=>rfl) (fun j hj=>Rc.ne2 (by omega) (by decide)) ⟨Fp.no,none,fun x y=>y.elim,fun x e=>(by cases e),GF.none _ _ _ _⟩ rfl;refine lp.imp fun v h7 ⟨e,m7,C',L',P',eC,e2C⟩=>?_;subst e
 exact⟨⟨_,rfl,Sq.nil _ _ _⟩,C',L',P',(m06.mono fun j _ x=>by rw[x,P.cbp];decide).next m7 fun j _ x=>by rw[x,P.cbp];decide,fun j hj=>by rw[eC j (by omega)];exact Rc.old hj,fun j hj=>by
  rcases Nat.lt_or_ge j h6.blks.size with x | x
  ·rw[eC j x];exact Rc.ne2 hj (by decide)
  ·exact e2C j x⟩
end
theorem krz(t:Tb)(hR:tabR t=true):(cutsL t).length≤1000:=by
 have hc:=(kco hR).2.1;have hb:=(kco hR).2.2.1;have ha:=(kco hR).2.2.2
 have:(cutsL t).length≤31*t.cols.length:=by
  unfold cutsL;rw[if_pos hR];refine krk t _ fun i hi=>?_;obtain⟨h1,h2,h3,-⟩:=kfz (ha i hi) hi hb;unfold nb;rw[List.getD_eq_getElem?_getD,List.getElem?_eq_getElem h1];simp;omega
 omega
section
variable{C:Nat→Nat}{bp:Nat}{q:Int×Int×Int}{L:PtL}{t:Tb}{p:Pt}{Sm S:Fp}{m:Ms}{s s5 s6 s7:Sl}{h h0:AH}
def oddR(n:Nat)(xs:List Int):Bool:=xs.any fun x=>decide (x<0)||decide (x≥(n:Int))
def SetW(n:Nat)(xs:List Int)(w:List Nat):Prop:=w.length=(n+63)/64∧∀b:Nat,wbit w b=decide ((b:Int)∈xs)
theorem k7q{xs:List Int}{n:Nat}(Q:Sq EI h0 S s xs)(hn:n≤65536):Runs (go (.fn kep [.int .i64 (n:Int),s.v]) h0) fun v h'=>Grow h0 h'∧∃(k:Int)(y:Sl)(w:List Nat)(e:Int),v=.tup [.agg [.int .i64 k,y.v],.int .i64 e]∧Nats h' y w∧Own h0 y∧((e=1∧oddR n xs=true)∨e=0∧oddR n xs=false∧k=(n:Int)∧SetW n xs w):=by
 unfold oddR;by_cases hx:(xs.any fun x=>decide (x<0)||decide (x≥(n:Int)))=true
 ·rw[kua];refine Runs.new fun h1 b1 g1=>Runs.new fun h2 b2 g2=>Runs.step ((g2.has b1).rd0 rfl (kc _ _)) ?_;refine(kpf hn).call fun v h3 ⟨g3,t,i,e,hi,V⟩=>?_;subst e;refine Runs.step rfl (Runs.step rfl (Runs.ifT rfl (Runs.step rfl (Runs.step (seenAt rfl (asSl_v _)) (Runs.step rfl ?_)))));dsimp only;refine Runs.new fun h4 b4 g4=>Runs.puts b4 rfl fun h5 b5 u5=>Runs.ifF rfl ?_;have s1:h0.blks.size<h1.blks.size:=b1.lt;have s2:h1.blks.size<h2.blks.size:=b2.lt;have s4:h2.blks.size≤h3.blks.size:=g3.size;have G4:Grow h0 h4:=(((g1.trans g2).trans g3).trans g4);have G5:Grow h0 h5:=G4.updr (by have:=G4.size;omega) u5;have G25:Grow h2 h5:=(g3.trans g4).updr (by omega) u5;refine(kxa (Q.grow G5) (G25.has (g2.has b1))).call fun v h6 ⟨e,g6⟩=>?_;subst e;rw[hx];refine Runs.step (seen rfl) (Runs.ifT rfl ?_);refine Runs.puts (g6.has (G25.has b2)) rfl fun h7 b7 u7=>Runs.step (b7.rd 0 rfl (kc _ _)) (Runs.step (b7.rd 1 rfl (asSl_v _)) (Runs.ret ⟨(G5.trans g6).updr (by omega) u7,0,noS,[],1,rfl,Nats.nil _,Own.nil _,.inl ⟨rfl,rfl⟩⟩))
 ·have hx:(xs.any fun x=>decide (x<0)||decide (x≥(n:Int)))=false:=by simpa using hx
  have hz:∃l:List Nat,xs=zs l∧∀x∈l,x<n:=by
   refine⟨xs.map Int.toNat,?_,?_⟩
   ·unfold zs;rw[List.map_map];refine(List.map_id xs).symm.trans (List.map_congr_left fun x hx'=>?_);have:=List.any_eq_false.1 hx x hx';simp at this;show x=((x.toNat:Nat):Int);omega
   ·intro y hy;rw[List.mem_map]at hy;obtain⟨x,hx',rfl⟩:=hy;have:=List.any_eq_false.1 hx x hx';simp at this;omega
  obtain⟨l,rfl,hl⟩:=hz;refine(kta Q hl hn).imp fun v h' ⟨g,y,w,e,N,lw,o,hb⟩=>⟨g,_,y,w,0,e,N,o,.inr ⟨rfl,hx,rfl,lw,fun b=>?_⟩⟩;rw[hb b,decide_eq_decide];unfold zs;rw[List.mem_map];constructor
  ·intro x;exact⟨b,x,rfl⟩
  ·rintro ⟨y,h1,h2⟩
   have:y=b:=by omega
   rwa[← this]
theorem k36{n0:Nat}{W:Fp}{idl:List Int}{hb:AH}{o:List Nat}{ys:List (List Nat)}{so sy sr ids:Sl}{U V:Fp}{b9 b13 b57 bn:Nat}{l0:List (Int×AV)}{nb:Int}{Lb:List AV}(hbox:hb.has bp Lb kky)(hn:Lb[10]?=some (.map (some bn)))(M0:MapIs hb bn l0)(B9:hb.has b9 (m.cells s5 s6 s7) kbu)(B13:hb.has b13 [.int .i64 nb,sr.v] ky)(O:Sq EI hb U so (zs o))(Y:Sq Ef.nats hb V sy ys)(hy:∀x∈o,x<ys.length)(ho:o.length≤1000)(n1:bp<b57)(n2:b9<b57)(n3:b13<b57)(n4:bn<b57)(hU:∀j,U j→j<b57)(hV:∀j,V j→j<b57∧j≠bn∧n0≤j)(I:Sq EI hb W ids idl)(hW:∀j,W j→j<b57∧j≠bn∧n0≤j)(hn0:n0≤hb.blks.size)(hb57:b57<hb.blks.size):∀(d c:Nat),c+d=o.length→∀{h:AH}{z:Sl}{S:Fp}{j:Option Nat},Md (fun x=>x=b57) hb h→h.has b57 [.int .i64 5,.int .i64 m.a,.int .i64 m.b,.int .i64 0,ids.v,noS.v,z.v] kbu→(∀x,S x→x<h.blks.size∧x≠b57∧x≠bn∧n0≤x)→LeO hb.blks.size j→GF Ef.nats kr h S z j ((o.take c).map fun k=>ys.getD k [])→
  Runs (go (.pt kdj kkq [(0,.ptr (some (.new bp 0))),(3,.ptr (some (.new b9 0))),(6,.ptr (some (.new b13 0))),(10,sy.v),(11,.ptr (some (.new b57 0))),(87,so.v),(88,.int .i64 (o.length:Int)),(89,.int .i64 (c:Int))]) h) fun v h'=>(∃z:Sl,v=.tup [z.v,.int .i64 0]∧Sq Ef.msg h' (Fp.from n0) z [⟨5,m.a,m.b,0,idl,[],o.map fun k=>ys.getD k []⟩])∧Md (fun x=>x=b57∨x=bn) hb h'∧∃l,MapIs h' bn l:=by
 intro d
 induction d with
 | zero =>
  intro c hc h z S j MD B hS hj G;have hbox':=MD.has hbox (by omega);have M':=M0.md MD (by omega);have B9':=MD.has B9 (by omega);have B13':=MD.has B13 (by omega);rw[kxb];refine Runs.ifF (decide_eq_false (by omega)) (Runs.step rfl (Runs.step (hbox'.rd 10 hn rfl) (Runs.step (B9'.rd 2 rfl (kc _ _)) (Runs.step (B13'.rd 0 rfl (kc _ _)) (Runs.step (B13'.rd 1 rfl (asSl_v _)) ?_)))));refine Runs.new fun h1 b1 g1=>Runs.when (g1.same B9' 2 1) (Runs.when (g1.same hbox' 10 1) (Runs.step rfl ?_));obtain⟨h2,e2,m2,u2⟩:=(M'.grow g1).put m.b (.ptr (some (.new h.blks.size 0)));refine Runs.step e2 ?_;have B2:=(g1.has B).updr (show b57≠bn by omega) u2;refine Runs.step (B2.rd 0 rfl (kc _ _)) (Runs.step (B2.rd 1 rfl (kc _ _)) (Runs.step (B2.rd 2 rfl (kc _ _)) (Runs.step (B2.rd 3 rfl (kc _ _)) (Runs.step (B2.rd 4 rfl (asSl_v _)) (Runs.step (B2.rd 5 rfl (asSl_v _)) (Runs.step (B2.rd 6 rfl (asSl_v _)) ?_))))));obtain rfl:c=o.length:=by omega
  rw[List.take_length]at G;have jbn:∀x,j=some x→hb.blks.size≤x:=fun x e=>by subst e;exact hj
  have hbn:bn<hb.blks.size:=by omega
  have I2:Sq EI h2 W ids idl:=((I.md MD fun x a b=>by have:=hW x a;omega).grow g1).upd (fun x=>(hW _ x).2.1 rfl) u2;have G2:GF Ef.nats kr h2 S z j (o.map fun k=>ys.getD k []):=(G.grow g1).upd u2 (fun x=>(hS _ x).2.2.1 rfl) fun k e=>by have:=jbn k e;omega
  refine Runs.new fun h3 b3 g3=>Runs.ret ⟨⟨_,rfl,kos (m:=⟨5,m.a,m.b,0,idl,[],o.map fun k=>ys.getD k []⟩) b3 (show n0≤h2.blks.size by have:=u2.size;have:=g1.size;have:=MD.size;omega) ⟨(I2.grow g3).mono fun x y=>(hW x y).2.2,Sq.nil _ _ _,(G2.grow g3).sq.mono fun x y=>by
   rcases y with y | y
   ·have:=jbn x y;exact Nat.le_trans hn0 this
   ·exact(hS x y).2.2.2⟩⟩,?_,_,m2.grow g3⟩
  exact(((MD.mono fun x _ y=>.inl y).thenG g1).trans (u2.md (T:=fun x=>x=b57∨x=bn) (.inr rfl))).thenG g3
 | succ d ih =>
  intro c hc h z S j MD B hS hj G;have hlt:c<o.length:=by omega
  have hz':c<(zs o).length:=by rw[zs_len];exact hlt
  have O':=O.md MD fun x a b=>by have:=hU x a;omega
  have Y':=Y.md MD fun x a b=>by have:=(hV x a).1;omega
  obtain⟨r,e1,e2⟩:=O'.int hz';have hx':(zs o)[c]=((o[c]:Nat):Int):=by simp[zs]
  have hoc:=hy _ (List.getElem_mem hlt);obtain⟨r2,s',e3,e4,N,hN⟩:=Y'.nats (i:=o[c]) hoc;rw[kxb];refine Runs.ifT (decide_eq_true (by omega)) (Runs.step e1 (Runs.step e2 (Runs.step (B.rd 6 rfl (asSl_v _)) ?_)));rw[hx'];refine Runs.step e3 (Runs.step e4 ?_);refine Runs.new fun h1 b1 g1=>Runs.when (g1.same B 6 1) ?_;refine Runs.step (kcd b1 (by rw[kkk];rfl)) ?_;have z0:=MD.size;have z1:h.blks.size<h1.blks.size:=b1.lt
  have no:NotO V j:=by
   cases j with
   | none=>trivial
   | some a =>
    intro hm;have:=(hV _ hm).1;have:hb.blks.size≤a:=hj;omega
  have lz:((o.take c).map fun k=>ys.getD k []).length=c:=by
   rw[List.length_map,List.length_take];omega
  obtain⟨z',h2,e5,G2,u2⟩:=(G.grow g1).push (T:=V) (cs:=[s'.v]) (x:=ys[o[c]]) ⟨s',rfl,N.grow g1,hN⟩ no (kkj (by rw[lz];omega));refine Runs.step e5 (Runs.step (asSl_v _) ?_);have m2:Md (Fp.opt j) h1 h2:=u2.md fun k e=>e
  have jn:∀x,Fp.opt j x→hb.blks.size≤x:=fun x e=>by
   have e:j=some x:=e;subst e;exact hj
  have B2:=m2.has (g1.has B) (fun e=>by have:=jn _ e;omega);have z2:h1.blks.size<h2.blks.size:=G2.lt;refine Runs.putAt B2 (cs':=[.int .i64 5,.int .i64 m.a,.int .i64 m.b,.int .i64 0,ids.v,noS.v,z'.v]) (by simp) (by simp) fun h3 b3 u3=>?_;have z3:h2.blks.size≤h3.blks.size:=u3.size;rw[kf (by omega)];refine ih (c+1) (by omega) (S:=fun x=>(Fp.or S V) x∧x<h1.blks.size) (j:=some h1.blks.size) ?_ b3 (fun x hx=>⟨by have:=hx.2;omega,?_⟩) (show hb.blks.size≤h1.blks.size by omega) ?_
  ·exact((MD.thenG g1).next m2 fun x hx y=>absurd (jn x y) (by omega)).trans (u3.md rfl)
  ·rcases hx.1 with y | y
   ·exact(hS x y).2
   ·have:=hV x y;omega
  ·have e9:((o.take (c+1)).map fun k=>ys.getD k [])=((o.take c).map fun k=>ys.getD k [])++[ys[o[c]]]:=by
    rw[List.take_succ_eq_append_getElem hlt,List.map_append];simp[List.getD_eq_getElem?_getD,List.getElem?_eq_getElem hoc]
   rw[e9];refine G2.upd u3 (fun hx=>?_) fun k e=>by cases e;omega
   rcases hx.1 with y | y
   ·exact(hS _ y).2.1 rfl
   ·have:=hV _ y;omega
end
theorem k88{m:Mk}{bs:List Nat}{t n:Int}{cuts:List (Nat×Nat)}{o:List Nat}{e:Int}(h:(issueF m bs t n cuts).1=(some o,e)):o.length=cuts.length∧∀x∈o,x<cuts.length:=by
 by_cases k:oddI t=true∨oddI n=true∨(t,n)∈m.nodes∨1048576<m.given.length+cuts.length
 ·rw[kup k]at h;cases h
 ·rw[kt9 k]at h;have ok:=kxs (n:=cuts.length) (cuts.length-1) (List.range cuts.length) bs (by rw[List.length_range];omega) (fun x hx=>List.mem_range.1 hx);generalize hr:shufF (cuts.length-1) (List.range cuts.length) bs=r at *
  cases hr1:r.1 with
  | none=>rw[hr1]at h;cases h
  | some o' =>
   rw[hr1]at h;cases h;have:=ok o hr1;rwa[List.length_range]at this
theorem k92{ns:List Nat}{t:Tb}{n:Int}{w:List Nat}{X:List (List Nat)}(h:(kbw ns t n w X).2=0):(kbw ns t n w X).1.length=(cutsL t).length:=by
 unfold kbw at h⊢;split at h
 ·cases h
 ·rename_i h1;rw[if_neg h1];split at h
  ·rename_i h2;rw[if_pos h2];split at h
   ·cases h
   ·rename_i h3;rw[if_neg h3];unfold sumsC;rw[List.length_map]
  ·rename_i h2;exact absurd h h2
abbrev AskR(t:Tb)(p:Pt)(m:Ms)(r:Ans):Prop :=
 (m.a≠p.tree∧r=([],18,p))∨(m.a=p.tree∧oddR t.ids.length m.rows=true∧r=([],1,p))∨
 (m.a=p.tree∧oddR t.ids.length m.rows=false∧
  (((issueF p.msk p.bytes m.a m.b (cutsL t)).1.1=none∧r=([],(issueF p.msk p.bytes m.a m.b (cutsL t)).1.2,{p with msk:=(issueF p.msk p.bytes m.a m.b (cutsL t)).2.1,bytes:=(issueF p.msk p.bytes m.a m.b (cutsL t)).2.2}))∨
   ∃(o:List Nat)(w:List Nat),(issueF p.msk p.bytes m.a m.b (cutsL t)).1=(some o,0)∧(∀x∈w,x<B)∧SetW t.ids.length m.rows w∧
    (((kbw p.key t (t.ids.length:Int) w p.hidden).2≠0∧r=([],(kbw p.key t (t.ids.length:Int) w p.hidden).2,{p with msk:=(issueF p.msk p.bytes m.a m.b (cutsL t)).2.1,bytes:=(issueF p.msk p.bytes m.a m.b (cutsL t)).2.2}))∨
    ((kbw p.key t (t.ids.length:Int) w p.hidden).2=0∧r=([⟨5,m.a,m.b,0,idsG p.msk o.length,[],o.map fun k=>(kbw p.key t (t.ids.length:Int) w p.hidden).1.getD k []⟩],0,{p with msk:=(issueF p.msk p.bytes m.a m.b (cutsL t)).2.1,bytes:=(issueF p.msk p.bytes m.a m.b (cutsL t)).2.2})))))
section
variable{C:Nat→Nat}{bp:Nat}{q:Int×Int×Int}{L:PtL}{t:Tb}{p:Pt}{Sm:Fp}{m:Ms}{s5 s6 s7:Sl}{h:AH}
theorem ask_is(T0:Tab h)(P:PtIn h C bp q L t p)(M:MsAt h Sm s5 s6 s7 m)(ha:oddI m.a=false):Runs (go (.fn kdj [.ptr (some (.new bp 0)),.agg (m.cells s5 s6 s7)]) h) (fun v h'=>∃r,AskR t p m r∧Did h C bp q t r v h'):=by
 rw[k9f];refine Runs.new fun h1 b1 g1=>?_;have P1:=P.grow g1;have nope:∀{h2:AH}{v:AV}{r:Ans},r.2.2=p→v=AV.tup [noS.v,.int .i64 r.2.1]→r.1=[]→Grow h h2→Did h C bp q t r v h2:=fun{h2 v r} e1 e2 e3 g=>⟨⟨_,e2,by rw[e3];exact Sq.nil _ _ _⟩,by rw[e1];exact PtTo2.grow P g⟩;refine Runs.step (b1.rd 1 rfl (kc _ _)) (Runs.step rfl (Runs.step (P1.box.rd 8 rfl (kc _ _)) (Runs.cond (fun k=>Runs.ret ⟨([],18,p),.inl ⟨by rw[Bool.not_eq_true',decide_eq_false_iff_not]at k;exact k,rfl⟩,nope rfl rfl rfl g1⟩) fun k1=>?_)));rw[Bool.not_eq_false',decide_eq_true_eq]at k1;refine Runs.new fun h2 b2 g2=>?_;have G2:=g1.trans g2;have P2:=P.grow G2;refine Runs.step rfl (Runs.step (show(h2.cell (((Ref.new bp 0).add 2).add 0)).bind AV.asSl=some L.s1 from P2.box.rd 2 rfl (asSl_v _)) (Runs.step ((g2.has b1).rd 5 rfl (asSl_v _)) ?_));rw[P2.tab.ids.len];have hR:=P.right;have hids:=(kco hR).1;refine(k7q ((M.grow G2).rows) (n:=t.ids.length) (by omega)).call fun v h3 ⟨g3,n20,l21,w,e22,e,N,o3,hof⟩=>?_;subst e;refine Runs.step rfl (Runs.step rfl (Runs.ifT rfl (Runs.step rfl (Runs.step rfl (Runs.step (seen (kc _ _)) (Runs.when (g3.same b2 0 0) ?_))))));have z0:h.blks.size<h1.blks.size:=b1.lt;have z1:h1.blks.size<h2.blks.size:=b2.lt;have z2:h2.blks.size≤h3.blks.size:=g3.size;refine Runs.puts (g3.has b2) rfl fun h4 b4 u4=>?_;have z3:h3.blks.size≤h4.blks.size:=u4.size;have G4:Grow h h4:=(G2.trans g3).updr (by omega) u4;refine Runs.cond (fun k=>?_) fun k2=>?_
 ·rw[Bool.not_eq_true',decide_eq_false_iff_not]at k;rcases hof with⟨rfl,ho⟩ | ⟨e0,-⟩
  ·exact Runs.ret ⟨([],1,p),.inr (.inl ⟨k1,ho,rfl⟩),nope rfl rfl rfl G4⟩
  ·exact absurd e0 k
 rw[Bool.not_eq_false',decide_eq_true_eq]at k2;subst k2;rcases hof with⟨e0,-⟩ | ⟨-,ho,e20,hw⟩
 ·exact absurd e0 (by decide)
 subst e20;have P4:=P.grow G4;have b14:=(g3.has (g2.has b1)).updr (show h.blks.size≠h1.blks.size by omega) u4;have N4:Nats h4 l21 w:=N.upda (Av.of_own o3 b2.lt) u4;refine Runs.step rfl (Runs.step (P4.box.rd 1 rfl rfl) (Runs.step rfl (Runs.step (P4.box.rd 5 rfl rfl) (Runs.step (b14.rd 1 rfl (kc _ _)) (Runs.step (b14.rd 2 rfl (kc _ _)) (Runs.step rfl ?_))))));refine Runs.step (show(h4.cell (((Ref.new bp 0).add 2).add 0)).bind AV.asSl=some L.s1 from P4.box.rd 2 rfl (asSl_v _)) (Runs.step (show(h4.cell (((Ref.new bp 0).add 2).add 1)).bind AV.asSl=some L.s2 from P4.box.rd 3 rfl (asSl_v _)) (Runs.step (show(h4.cell (((Ref.new bp 0).add 2).add 2)).bind AV.asSl=some L.s3 from P4.box.rd 4 rfl (asSl_v _)) ?_));refine(k7a (T0.grow G4) P4.tab).call fun v h5 ⟨g5,y,jy,e,ly,Vy⟩=>?_;subst e;have z4:h4.blks.size≤h5.blks.size:=g5.size;have G5:=G4.trans g5;have P5:=P.grow G5;have b15:=g5.has b14;have b45:=g5.has b4;have Q5:=Vy.sq;refine Runs.step (seen (asSl_v _)) (Runs.when (g5.same b14 2 1) (Runs.when (g5.same b14 1 1) (Runs.when (g5.same P4.box 5 1) (Runs.when (g5.same P4.box 1 1) ?_))));have zp:bp<h.blks.size:=P.box.lt;have ltC:∀j,C j≠0→j<h.blks.size:=P.lt
 have hUj:∀j,(Fp.or (Fp.opt jy) Fp.no) j→h4.blks.size≤j∧j<h5.blks.size:=fun j hj=>by
  rcases hj with hj | hj
  ·have hj:jy=some j:=hj;subst hj;have l1:h4.blks.size≤j:=ly;have l2:j<h5.blks.size:=Vy.lt;omega
  ·exact hj.elim
 have C0:∀j,h.blks.size≤j→C j=0:=fun j hj=>Classical.byContradiction fun x=>by have:=ltC j x;omega
 refine(kbbl P5.mask P5.tape (fun j a b=>by have a:C j=3:=a;have b:C j=4:=b;omega) (fun j x=>P5.lt j (by rw[show C j=3 from x];decide)) Q5 (fun j hj=>by
  have:=hUj j hj;have c0:=C0 j (by omega);exact⟨fun x=>by have x:C j=3:=x;omega,fun x=>by have x:C j=4:=x;omega,this.2⟩) (krz t hR) m.a m.b).call fun v h6 ⟨t6,S6,M6,m6,sub6,e6⟩=>?_
 have z5:h5.blks.size≤h6.blks.size:=m6.size;have t4:C L.bt=4:=P.tape.2.1;have m56:Md (fun j=>C j=3∨C j=4) h5 h6:=m6.mono fun j _ x=>x.imp (fun y=>y) fun y=>by rw[y];exact t4
 obtain⟨a1,a2,a3,a4,a5,a6,a7,a8,a9,a10,a11⟩:=P5.parts (K:=fun c=>c=3∨c=4) (k:=3) (.inl rfl) (by intro c e;omega) m56;have hM:MaskAt h6 (col (Rc C h5.blks.size h6.blks.size 3) 3) L.bm (issueF p.msk p.bytes m.a m.b (cutsL t)).2.1:=M6.mono fun j x=>(sub6 j x).elim (fun y=>a11 3 j (by decide) y) fun y=>Rc.new y.1 y.2;have hT:TapeA h6 (col (Rc C h5.blks.size h6.blks.size 3) 4) L.bt (issueF p.msk p.bytes m.a m.b (cutsL t)).2.2:=t6.mono (fun j x=>a11 4 j (by decide) x) fun j x=>a1 j (by rw[show Rc C h5.blks.size h6.blks.size 3 j=4 from x];decide);have P6:PtIn h6 (Rc C h5.blks.size h6.blks.size 3) bp q L t {p with msk:=(issueF p.msk p.bytes m.a m.b (cutsL t)).2.1,bytes:=(issueF p.msk p.bytes m.a m.b (cutsL t)).2.2}:={lt:=a1,cbp:=a2,box:=a3 (by decide),ses:=a4 (by decide),mask:=hM,tape:=hT,key:=(a7 (by decide)).1,keyAv:=(a7 (by decide)).2,hid:=a8 (by decide),nodes:=a9 (by decide),tab:=a10 (by decide),pq:=P.pq,right:=P.right,live:=P.live,low:=P.low};have M06:Md (fun j=>C j≠0) h h6:=(G5.md _).trans (m56.mono fun j _ x=>by omega);have E06:∀j,j<h.blks.size→Rc C h5.blks.size h6.blks.size 3 j=C j:=fun j hj=>Rc.old (by omega)
 have to6:∀{h7:AH},Grow h6 h7→PtTo2 h C bp q t h7 {p with msk:=(issueF p.msk p.bytes m.a m.b (cutsL t)).2.1,bytes:=(issueF p.msk p.bytes m.a m.b (cutsL t)).2.2}:=fun{h7} g=>⟨_,L,P6.grow g,M06.thenG g,E06,fun j hj=>by
  rcases Nat.lt_or_ge j h5.blks.size with x | x
  ·rw[Rc.old x,C0 j hj];decide
  ·exact Rc.ne2 x (by decide)⟩
 rcases e6 with⟨r1,r2,e⟩ | ⟨o,so,si,ko,ji,r1,e,hko,O,I,hji⟩
 ·subst e;refine Runs.step rfl (Runs.step (seen (asSl_v _)) (Runs.step (seen (asSl_v _)) (Runs.step (seen (kc _ _)) (Runs.ifT (by rw[Bool.not_eq_true',decide_eq_false_iff_not];exact r2) (Runs.ret ⟨([],(issueF p.msk p.bytes m.a m.b (cutsL t)).1.2,{p with msk:=(issueF p.msk p.bytes m.a m.b (cutsL t)).2.1,bytes:=(issueF p.msk p.bytes m.a m.b (cutsL t)).2.2}),.inr (.inr ⟨k1,ho,.inl ⟨r1,rfl⟩⟩),⟨⟨_,rfl,Sq.nil _ _ _⟩,to6 (Grow.refl _)⟩⟩)))))
 subst e;refine Runs.step rfl (Runs.step (seen (asSl_v _)) (Runs.step (seen (asSl_v _)) (Runs.step (seen (kc _ _)) (Runs.ifF rfl ?_))));obtain⟨ol,olt⟩:=k88 r1;have nt:∀x,h.blks.size≤x→¬(C x=3∨C x=4):=fun x hx=>by have:=C0 x hx;omega
 have b16:=m56.has b15 (nt _ (Nat.le_refl _));have b46:=m56.has b45 (nt _ (by omega));have N5:Nats h6 l21 w:=(N4.grow g5).mdE (S:=fun j=>¬Av l21 j w) (fun j x=>x) m56 fun j x y=>nt j (by have:=own_av o3 x;omega) y;have B6:=P6.box;refine Runs.step rfl (Runs.step (B6.rd 6 rfl (asSl_v _)) (Runs.step rfl ?_));refine Runs.step (show(h6.cell (((Ref.new bp 0).add 2).add 0)).bind AV.asSl=some L.s1 from B6.rd 2 rfl (asSl_v _)) (Runs.step (show(h6.cell (((Ref.new bp 0).add 2).add 1)).bind AV.asSl=some L.s2 from B6.rd 3 rfl (asSl_v _)) (Runs.step (show(h6.cell (((Ref.new bp 0).add 2).add 2)).bind AV.asSl=some L.s3 from B6.rd 4 rfl (asSl_v _)) ?_));refine Runs.step (b46.rd 0 rfl (kc _ _)) (Runs.step (b46.rd 1 rfl (asSl_v _)) (Runs.step rfl (Runs.step (B6.rd 9 rfl (asSl_v _)) ?_)));refine(k19 ((T0.grow G5).md m56) P6.key (P6.tab.mono (U:=Fp.all) fun _ _=>trivial) N5 (P6.hid.mono (T:=Fp.all) fun _ _=>trivial)).call fun v h7 ⟨g7,Sy,sy,jy2,e,hSy,hjy,Vs⟩=>?_;subst e;refine Runs.step rfl (Runs.step (seen (asSl_v _)) (Runs.step (seen (kc _ _)) (Runs.cond (fun k=>Runs.ret ⟨([],(kbw p.key t (t.ids.length:Int) w p.hidden).2,{p with msk:=(issueF p.msk p.bytes m.a m.b (cutsL t)).2.1,bytes:=(issueF p.msk p.bytes m.a m.b (cutsL t)).2.2}),.inr (.inr ⟨k1,ho,.inr ⟨o,w,r1,N5.lt,hw,.inl ⟨by rw[Bool.not_eq_true',decide_eq_false_iff_not]at k;exact k,rfl⟩⟩⟩),⟨⟨_,rfl,Sq.nil _ _ _⟩,to6 g7⟩⟩) fun k3=>?_)));rw[Bool.not_eq_false',decide_eq_true_eq]at k3;have hlen:=k92 k3;have b17:=g7.has b16;have b47:=g7.has b46;refine Runs.step (b17.rd 1 rfl (kc _ _)) (Runs.step (b17.rd 2 rfl (kc _ _)) ?_);refine Runs.new fun h8 b8 g8=>Runs.puts b8 rfl fun h9 b9 u9=>?_;have z6:h6.blks.size≤h7.blks.size:=g7.size;have z7:h7.blks.size<h8.blks.size:=b8.lt;have z8:h8.blks.size≤h9.blks.size:=u9.size;have g79:Grow h7 h9:=g8.updr (Nat.le_refl _) u9;have P7:=P6.grow g7
 have hnm:∃bn,L.nm=some bn:=by
  have l:=P.live (by
   have:¬m.a<0:=by
    unfold oddI at ha;rw[Bool.or_eq_false_iff,decide_eq_false_iff_not]at ha;exact ha.1
   omega)
  cases hx:L.nm with
  | none=>exact absurd hx l
  | some b=>exact⟨b,rfl⟩
 obtain⟨bn,hbn⟩:=hnm;obtain⟨cn,l0,Mn⟩:=P7.nodes bn hbn;have zn:bn<h6.blks.size:=P6.lt bn (by rw[(P6.nodes bn hbn).1];decide);have lko:ko<h6.blks.size:=O.lt;have Y9:=(Vs.sq.bound.grow g79);have O9:=(O.grow (g7.trans g79)).sq;have sol:so.len=o.length:=by rw[O.len,zs_len]
 rw[sol]
 refine(k36 (m:=m) (hb:=h9) (o:=o) (n0:=h.blks.size) (W:=Fp.or (Fp.opt ji) Fp.no) (idl:=idsG p.msk o.length) (ys:=(kbw p.key t (t.ids.length:Int) w p.hidden).1) (so:=so) (sy:=sy) (sr:=l21) (ids:=si) (bp:=bp) (b9:=h.blks.size) (b13:=h1.blks.size) (b57:=h7.blks.size) (bn:=bn) (nb:=(t.ids.length:Int)) (g79.has P7.box) (by show some (AV.map L.nm)=_;rw[hbn]) (Mn.grow g79) (g79.has b17) (g79.has b47) O9 Y9 (fun x hx=>by rw[hlen];exact olt x hx) (by rw[ol];exact krz t hR) (by omega) (by omega) (by omega) (by omega) (fun j hj=>by
  rcases hj with hj | hj
  ·have hj:ko=j:=Option.some.inj hj;omega
  ·exact hj.elim) (fun j hj=>by
  have hj2:j<h7.blks.size:=hj.2;have zc:=P6.lt bn (by rw[(P6.nodes bn hbn).1];decide)
  have hj3:h6.blks.size≤j:=by
   rcases hj.1 with x | x
   ·have x:jy2=some j:=x;rw[x]at hjy;exact hjy
   ·exact hSy j x
  exact⟨hj2,by omega,by omega⟩) (I.grow (g7.trans g79)).sq (fun j hj=>by
  rcases hj with hj | hj
  ·have hj:ji=some j:=hj;have l1:j<h6.blks.size:=by have:=I.lt;rw[hj]at this;exact this
   rw[hj]at hji;have hji:h5.blks.size≤j:=hji;have cn5:C bn=7:=(P5.nodes bn hbn).1;have:=ltC bn (by rw[cn5];decide);exact⟨by omega,by omega,by omega⟩
  ·exact hj.elim) (by omega) (by omega) o.length 0 (by omega) (Md.refl _ _) b9 (S:=Fp.no) (j:=none) (fun x hx=>hx.elim) trivial (GF.none _ _ _ _)).imp fun v h10 ⟨⟨z,e,hz⟩,m10,l,hl⟩=>?_
 subst e
 have m710:Md (fun j=>Rc C h5.blks.size h6.blks.size 3 j=7) h7 h10:=(g79.md _).next m10 fun j hj x=>by
  rcases x with x | x
  ·omega
  ·rw[x];exact cn
 obtain⟨c1,c2,c3,c4,c5,c6,c7,c8,c9,c10,c11⟩:=P7.parts (K:=fun c=>c=7) (k:=7) rfl (by intro c e;omega) m710
 have hN:∀x,L.nm=some x→Rc (Rc C h5.blks.size h6.blks.size 3) h7.blks.size h10.blks.size 7 x=7∧∃l,MapIs h10 x l:=fun x e=>by
  rw[hbn]at e;cases e;exact⟨c11 7 _ (by decide) cn,l,hl⟩
 have P10:PtIn h10 (Rc (Rc C h5.blks.size h6.blks.size 3) h7.blks.size h10.blks.size 7) bp q L t {p with msk:=(issueF p.msk p.bytes m.a m.b (cutsL t)).2.1,bytes:=(issueF p.msk p.bytes m.a m.b (cutsL t)).2.2}:={lt:=c1,cbp:=c2,box:=c3 (by decide),ses:=c4 (by decide),mask:=c5 (by decide),tape:=c6 (by decide),key:=(c7 (by decide)).1,keyAv:=(c7 (by decide)).2,hid:=c8 (by decide),nodes:=hN,tab:=c10 (by decide),pq:=P.pq,right:=P.right,live:=P.live,low:=P.low};have z9:h7.blks.size≤h10.blks.size:=m710.size
 exact⟨_,.inr (.inr ⟨k1,ho,.inr ⟨o,w,r1,N5.lt,hw,.inr ⟨k3,rfl⟩⟩⟩),⟨⟨z,rfl,hz⟩,_,L,P10,(M06.thenG g7).next m710 fun j hj x=>by rw[← E06 j hj,x];decide,fun j hj=>by rw[Rc.old (by omega)];exact E06 j hj,fun j hj=>by
  rcases Nat.lt_or_ge j h7.blks.size with x | x
  ·rw[Rc.old x];rcases Nat.lt_or_ge j h5.blks.size with y | y
   ·rw[Rc.old y,C0 j hj];decide
   ·exact Rc.ne2 y (by decide)
  ·exact Rc.ne2 x (by decide)⟩⟩
end
theorem kyu(args:List AV)(h:AH):callF Pg go kgx args h=go (.fn kgx args) h:=by kernel_rfl
theorem k1t(args:List AV)(h:AH):callF Pg go kdt args h=go (.fn kdt args) h:=by kernel_rfl
theorem kyw(args:List AV)(h:AH):callF Pg go kdj args h=go (.fn kdj args) h:=by kernel_rfl
def deedsL(l1 l3 l4 l6:Sl):List (Int×AV):=[(1,.agg [.func (.func kgx) [] [],l1.v]),(3,.agg [.func (.func kdt) [] [],l3.v]),(4,.agg [.func (.func kdj) [] [],l4.v]),(6,.agg [.func (.func ko4) [] [],l6.v]),(10,.agg [.func (.func kow) [] [],noS.v])]
theorem kyl{h:AH}:Runs (go (.fn kov []) h) fun v h'=>Grow h h'∧∃(md:Nat)(l1 l3 l4 l6:Sl),v=.map (some md)∧MapIs h' md (deedsL l1 l3 l4 l6)∧Sq EI h' (Fp.from h.blks.size) l1 [3]∧Sq EI h' (Fp.from h.blks.size) l3 [3,4,10]∧Sq EI h' (Fp.from h.blks.size) l4 [3,4,6,10]∧l1.ref≠none∧l3.ref≠none∧l4.ref≠none:=by
 rw[ky5];refine Runs.newMap fun h1 M1 g1=>Runs.new fun h2 b2 g2=>?_;have z1:h.blks.size<h1.blks.size:=M1.lt;have z2:h1.blks.size<h2.blks.size:=b2.lt;obtain⟨h3,e3,M3,u3⟩:=(M1.grow g2).put 1 (.agg [.func (.func kgx) [] [],(⟨some (.new h1.blks.size 0),1,.is 1⟩:Sl).v]);refine Runs.step e3 (Runs.new fun h4 b4 g4=>?_);have z3:h2.blks.size≤h3.blks.size:=u3.size;have z4:h3.blks.size<h4.blks.size:=b4.lt;obtain⟨h5,e5,M5,u5⟩:=(M3.grow g4).put 3 (.agg [.func (.func kdt) [] [],(⟨some (.new h3.blks.size 0),3,.is 3⟩:Sl).v]);refine Runs.step e5 (Runs.new fun h6 b6 g6=>?_);have z5:h4.blks.size≤h5.blks.size:=u5.size;have z6:h5.blks.size<h6.blks.size:=b6.lt;obtain⟨h7,e7,M7,u7⟩:=(M5.grow g6).put 4 (.agg [.func (.func kdj) [] [],(⟨some (.new h5.blks.size 0),4,.is 4⟩:Sl).v]);refine Runs.step e7 (Runs.new fun h8 b8 g8=>?_);have z7:h6.blks.size≤h7.blks.size:=u7.size;have z8:h7.blks.size<h8.blks.size:=b8.lt;obtain⟨h9,e9,M9,u9⟩:=(M7.grow g8).put 6 (.agg [.func (.func ko4) [] [],(⟨some (.new h7.blks.size 0),4,.is 4⟩:Sl).v]);refine Runs.step e9 ?_;obtain⟨h10,e10,M10,u10⟩:=M9.put 10 (.agg [.func (.func kow) [] [],noS.v]);refine Runs.step e10 ?_;have c2:=((((g8.has (((g6.has ((g4.has (b2.updr (by omega) u3)).updr (by omega) u5)).updr (by omega) u7))).updr (by omega) u9)).updr (by omega) u10);have c4:=(((g8.has (((g6.has (b4.updr (by omega) u5)).updr (by omega) u7))).updr (by omega) u9)).updr (by omega) u10;have c6:=((g8.has (b6.updr (by omega) u7)).updr (by omega) u9).updr (by omega) u10
 have lit:∀{i n:Nat}{rows:List (List AV)}{e:TypeId}{xs:List Int},h10.has i rows.flatten e→All2 (EI.has h10 Fp.no) rows xs→xs.length=n→n≤9223372036854775807→h.blks.size≤i→Sq EI h10 (Fp.from h.blks.size) ⟨some (.new i 0),n,.is n⟩ xs:=fun b a hn hs hi=>(Sq.lit b a hn hs).mono fun j x=>by
  rcases x with x | x
  ·rw[show j=_ from x];exact hi
  ·exact x.elim
 have G:Grow h h10:=((((((((g1.trans g2).updr (Nat.le_refl _) u3).trans g4).updr (Nat.le_refl _) u5).trans g6).updr (Nat.le_refl _) u7).trans g8).updr (Nat.le_refl _) u9).updr (Nat.le_refl _) u10;refine Runs.ret ⟨G,h.blks.size,_,_,_,_,rfl,M10,?_,?_,?_,(fun x=>by cases x),(fun x=>by cases x),fun x=>by cases x⟩
 ·exact lit (rows:=[[.int .i64 3]]) c2 (.cons rfl .nil) rfl (by decide) (by omega)
 ·exact lit (rows:=[[.int .i64 3],[.int .i64 4],[.int .i64 10]]) c4 (.cons rfl (.cons rfl (.cons rfl .nil))) rfl (by decide) (by omega)
 ·exact lit (rows:=[[.int .i64 3],[.int .i64 4],[.int .i64 6],[.int .i64 10]]) c6 (.cons rfl (.cons rfl (.cons rfl (.cons rfl .nil)))) rfl (by decide) (by omega)
section
variable{C:Nat→Nat}{bp:Nat}{q:Int×Int×Int}{L:PtL}{t:Tb}{p:Pt}{Sm:Fp}{m:Ms}{s5 s6 s7:Sl}{h:AH}
def abM(e:Int):Ms:=⟨11,e,0,0,[],[],[]⟩
def nextK(k:Int):List Int:=if k=1 then [3]else if k=3 then [3,4,10]else [3,4,6,10]
def tailF(a:Ans)(next:List Int):List Ms×Pt:=if a.2.1≠0 then([abM a.2.1],{a.2.2 with ses:=(kge a.2.2.ses a.2.1).1})else(a.1,{a.2.2 with ses:=(awaitF a.2.2.ses next).1})
def DeedR(t:Tb)(p:Pt)(m:Ms)(a:Ans):Prop:=(m.kind=1∧a=setupF t p m)∨(m.kind=3∧a=gradsF t p m)∨(m.kind=4∧AskR t p m a)
def TakeR(t:Tb)(p:Pt)(m:Ms)(r:List Ms×Pt):Prop :=
 (p.ses.phase≠0∧r=([],p))∨(p.ses.phase=0∧¬m.ok∧r=([abM 16],{p with ses:=(kge p.ses 16).1}))∨
 (p.ses.phase=0∧m.ok∧(stakeF p.ses m.kind m.a).2≠0∧r=([abM (stakeF p.ses m.kind m.a).2],{p with ses:=(kge (stakeF p.ses m.kind m.a).1 (stakeF p.ses m.kind m.a).2).1}))∨
 (p.ses.phase=0∧m.ok∧(stakeF p.ses m.kind m.a).2=0∧(stakeF p.ses m.kind m.a).1.phase≠0∧r=([],{p with ses:=(stakeF p.ses m.kind m.a).1}))∨
 (p.ses.phase=0∧m.ok∧(stakeF p.ses m.kind m.a).2=0∧(stakeF p.ses m.kind m.a).1.phase=0∧∃a,DeedR t {p with ses:=(stakeF p.ses m.kind m.a).1} m a∧r=tailF a (nextK m.kind))
def Took(h:AH)(C:Nat→Nat)(bp:Nat)(q:Int×Int×Int)(t:Tb)(r:List Ms×Pt)(v:AV)(h':AH):Prop:=(∃s:Sl,v=s.v∧Sq Ef.msg h' Fp.all s r.1)∧PtTo h C bp q t h' r.2
theorem Took.next{h1 h':AH}{C1:Nat→Nat}{r:List Ms×Pt}{v:AV}(m:Md (fun j=>C j≠0) h h1)(e:∀j,j<h.blks.size→C1 j=C j)(b:Took h1 C1 bp q t r v h'):Took h C bp q t r v h':=⟨b.1,PtTo.next m e b.2⟩
theorem fail_f(P:PtIn h C bp q L t p)(e:Int):Runs (go (.fn kf8 [.ptr (some (.new bp 0)),.int .i64 e]) h) (Took h C bp q t ([abM e],{p with ses:=(kge p.ses e).1})):=by
 rw[k5u];refine Runs.step rfl (Runs.step (P.box.rd 0 rfl rfl) ?_);refine(k1h P.ses e).call fun v h1 ⟨e1,s1,m1⟩=>?_;subst e1;refine Runs.step (seen (kc _ _)) (Runs.new fun h2 b2 g2=>Runs.ret ⟨⟨_,rfl,kos (m:=abM e) (s5:=noS) (s6:=noS) (s7:=noS) b2 trivial ⟨Sq.nil _ _ _,Sq.nil _ _ _,Sq.nil _ _ _⟩⟩,?_⟩);exact PtTo.ses P (s1.grow g2) ⟨m1.thenG g2,fun j x=>.inl x⟩
theorem k06{bd:Nat}{fv:AV}{ln:Sl}{next:List Int}{Sn:Fp}(P:PtIn h C bp q L t p)(Bd:h.has bd [fv,ln.v] ktw)(hbd:C bd=0)(Qn:Sq EI h Sn ln next)(hSn:∀j,Sn j→C j=0)(hn:next.length≤100)(hr:ln.ref≠none){x:Option (AV×AH)}{R:Ans→Prop}(D:Runs x fun v h'=>∃a,R a∧Did h C bp q t a v h') :
  Runs (x.bind fun q57 =>
 (AV.asTup2 q57.1).bind fun p69 =>
 ((some p69.1).bind AV.asSl).bind fun l70 =>
 ((some p69.2).bind (AV.asInt .i64)).bind fun n71 =>
 cond (!decide (n71=0)) (
 (go (.fn kf8 [.ptr (some (.new bp 0)),.int .i64 n71]) q57.2).bind fun q72 =>
 ((some q72.1).bind AV.asSl).bind fun l73 =>
 some (l73.v,q72.2)) (
 ((q57.2.cell ((Ref.new bd 0).add 1)).bind AV.asSl).bind fun l74 =>
 cond (!l74.ref.isNone) (
 (some (Ref.new bp 0)).bind fun r75 =>
 ((q57.2.cell (r75.add 0)).bind AV.asPtr).bind fun p76 =>
 ((q57.2.cell ((Ref.new bd 0).add 1)).bind AV.asSl).bind fun l77 =>
 (go (.fn khh [.ptr p76,.int .i64 0,l77.v]) q57.2).bind fun q78 =>
 ((some q78.1).bind (AV.asInt .i64)).bind fun n79 =>
 some (l70.v,q78.2)) (
 some (l70.v,q57.2)))) (fun v h'=>∃a,R a∧Took h C bp q t (tailF a next) v h'):=by
 refine D.call fun v h1 ⟨a,ra,⟨s,ev,Qs⟩,C1,L1,P1,m1,e1,e2⟩=>?_;subst ev;have Bd1:=m1.has Bd (fun y=>y hbd);have Qn1:=Qn.md m1 fun j a b=>b (hSn j a);unfold tailF;refine Runs.step rfl (Runs.step (seen (asSl_v _)) (Runs.step (seen (kc _ _)) (Runs.cond (fun k=>?_) fun k=>?_)))
 ·rw[Bool.not_eq_true',decide_eq_false_iff_not]at k;refine(fail_f P1 a.2.1).call fun v h2 ⟨⟨s2,ev,Q2⟩,to⟩=>?_;subst ev;exact Runs.step (seen (asSl_v _)) (Runs.ret ⟨a,ra,by rw[if_pos k];exact⟨⟨s2,rfl,Q2⟩,PtTo.next m1 e1 to⟩⟩)
 ·rw[Bool.not_eq_false',decide_eq_true_eq]at k;refine Runs.step (Bd1.rd 1 rfl (asSl_v _)) (Runs.ifT (by cases hx:ln.ref with | none=>exact absurd hx hr | some _=>rfl) ?_);refine Runs.step rfl (Runs.step (P1.box.rd 0 rfl rfl) (Runs.step (Bd1.rd 1 rfl (asSl_v _)) ?_));refine(kr1 P1.ses P1.pq Qn1 hn (fun j x=>P1.lt j (by rw[show C1 j=2 from x];decide))).call fun v h2 ⟨ev,S',s2,c2⟩=>?_;subst ev;have Q2:=Qs.md c2.md fun j x y=>e2 j x y;exact Runs.step (seen (kc _ _)) (Runs.ret ⟨a,ra,by rw[if_neg (by omega)];exact⟨⟨s,rfl,Q2.mono fun _ _=>trivial⟩,PtTo.next m1 e1 (PtTo.ses P1 s2 c2)⟩⟩)
theorem kok(T0:Tab h)(P:PtIn h C bp q L t p)(M:MsAt h Sm s5 s6 s7 m)(hSm:∀j,Sm j→C j=0∧j<h.blks.size)(hk:m.kind=1∨m.kind=3∨m.kind=4):Runs (go (.fn kiy [.ptr (some (.new bp 0)),.agg (m.cells s5 s6 s7)]) h) (fun v h'=>∃r,TakeR t p m r∧Took h C bp q t r v h'):=by
 rw[kbah];refine Runs.new fun h1 b1 g1=>?_;have P1:=P.grow g1;refine Runs.step (ku6 P1) (Runs.step (seen rfl) (Runs.cond (fun k=>Runs.ret ⟨([],p),.inl ⟨by rw[Bool.not_eq_true',decide_eq_false_iff_not]at k;exact k,rfl⟩,⟨⟨_,rfl,Sq.nil _ _ _⟩,PtTo.grow P g1⟩⟩) fun k0=>?_));rw[Bool.not_eq_false',decide_eq_true_eq]at k0;refine Runs.step (b1.rd 0 rfl (kc _ _)) (Runs.step (b1.rd 1 rfl (kc _ _)) (Runs.step (b1.rd 2 rfl (kc _ _)) (Runs.step (b1.rd 3 rfl (kc _ _)) (Runs.step (b1.rd 4 rfl (asSl_v _)) (Runs.step (b1.rd 5 rfl (asSl_v _)) (Runs.step (b1.rd 6 rfl (asSl_v _)) ?_))))));refine(kpu (M.grow g1)).call fun v h2 ⟨⟨z,e,hz⟩,g2⟩=>?_;subst e;have G2:=g1.trans g2;have P2:=P.grow G2;have b2:=g2.has b1;refine Runs.step (seen rfl) (Runs.cond (fun k=>?_) fun k1=>?_)
 ·rw[Bool.not_eq_true']at k;refine(fail_f P2 16).call fun v h3 to=>?_;obtain⟨s,e,Qs⟩:=to.1;subst e;exact Runs.step (seen (asSl_v _)) (Runs.ret ⟨_,.inr (.inl ⟨k0,(fun x=>by rw[hz.2 x]at k;cases k),rfl⟩),Took.next (G2.md _) (fun _ _=>rfl) to⟩)
 rw[Bool.not_eq_false']at k1;have ok:=hz.1 k1;refine Runs.step rfl (Runs.step (P2.box.rd 0 rfl rfl) ?_);refine Runs.step (b2.rd 0 rfl (kc _ _)) (Runs.step (b2.rd 1 rfl (kc _ _)) (Runs.step (b2.rd 2 rfl (kc _ _)) (Runs.step (b2.rd 3 rfl (kc _ _)) (Runs.step (b2.rd 4 rfl (asSl_v _)) (Runs.step (b2.rd 5 rfl (asSl_v _)) (Runs.step (b2.rd 6 rfl (asSl_v _)) ?_))))));refine(k59 P2.ses P2.pq m.kind m.a m.b m.c s5 s6 s7).call fun v h3 ⟨e,s3,m3⟩=>?_;subst e;have P3:=P2.setSes s3 ⟨m3,fun j x=>.inl x⟩;have z1:h.blks.size<h1.blks.size:=b1.lt;have z2:h1.blks.size≤h2.blks.size:=g2.size;have z3:h2.blks.size≤h3.blks.size:=m3.size;have M03:Md (fun j=>C j≠0) h h3:=(G2.md _).trans (m3.mono fun j _ x=>by rw[show C j=2 from x];decide);have E03:∀j,j<h.blks.size→Rc C h2.blks.size h3.blks.size 2 j=C j:=fun j hj=>Rc.old (by omega);have b3:=m3.has b2 (fun x=>by have:=P.lt h.blks.size (by rw[show C h.blks.size=2 from x];decide);omega);refine Runs.step (seen (kc _ _)) (Runs.cond (fun k=>?_) fun k2=>?_)
 ·rw[Bool.not_eq_true',decide_eq_false_iff_not]at k;refine(fail_f P3 _).call fun v h4 to=>?_;obtain⟨s,e,Qs⟩:=to.1;subst e;exact Runs.step (seen (asSl_v _)) (Runs.ret ⟨_,.inr (.inr (.inl ⟨k0,ok,k,rfl⟩)),Took.next M03 E03 to⟩)
 rw[Bool.not_eq_false',decide_eq_true_eq]at k2;refine Runs.step (ku6 P3) (Runs.step (seen rfl) (Runs.cond (fun k=>Runs.ret ⟨_,.inr (.inr (.inr (.inl ⟨k0,ok,k2,by rw[Bool.not_eq_true',decide_eq_false_iff_not]at k;exact k,rfl⟩))),Took.next M03 E03 ⟨⟨_,rfl,Sq.nil _ _ _⟩,PtTo.refl P3⟩⟩) fun k3=>?_));rw[Bool.not_eq_false',decide_eq_true_eq]at k3;refine Runs.new fun h4 b4 g4=>Runs.step ((g4.has b3).rd 0 rfl (kc _ _)) ?_;refine kyl.call fun v h5 ⟨g5,md,l1,l3,l4,l6,e,M5,q1,q3,q4,r1,r3,r4⟩=>?_;subst e;have z4:h3.blks.size<h4.blks.size:=b4.lt;have z5:h4.blks.size≤h5.blks.size:=g5.size;have b35:=g5.has (g4.has b3);have b45:=g5.has b4;refine Runs.step (seen rfl) (Runs.when (g5.same (g4.has b3) 0 1) (Runs.when (g5.same b4 0 0) (Runs.step (M5.get m.kind) ?_)));have G35:=g4.trans g5;have T3:Tab h3:=T0.md M03;have M3:MsAt h3 Sm s5 s6 s7 m:=M.md M03 fun j a b=>b (hSm j a).1;have C0:∀j,h3.blks.size≤j→Rc C h2.blks.size h3.blks.size 2 j=0:=fun j hj=>Classical.byContradiction fun x=>by have:=P3.lt j x;omega
 have ok2:=ok;obtain⟨hh,hl,he⟩:=ok
 have hnat:∀x∈m.nats,x.length≤4:=fun x hx=>by
  have:=List.any_eq_false.1 hl.2.2.1.2.2 x hx;unfold natNo at this;simp at this;omega
 have hSm3:∀j,Sm j→Rc C h2.blks.size h3.blks.size 2 j=0:=fun j x=>by rw[E03 j (hSm j x).2];exact(hSm j x).1
 obtain⟨fid,ln,next,hget,qn,rn,hn,hnx,hcf,hdo⟩:∃(fid:FuncId)(ln:Sl)(next:List Int),kvGet (deedsL l1 l3 l4 l6) m.kind=some (.agg [.func (.func fid) [] [],ln.v])∧Sq EI h5 (Fp.from h4.blks.size) ln next∧ln.ref≠none∧next.length≤100∧next=nextK m.kind∧
   (∀(args:List AV)(h:AH),callF Pg go fid args h=go (.fn fid args) h)∧
   (∀{h6:AH},Tab h6→PtIn h6 (Rc C h2.blks.size h3.blks.size 2) bp q L t {p with ses:=(stakeF p.ses m.kind m.a).1}→MsAt h6 Sm s5 s6 s7 m→Runs (go (.fn fid [.ptr (some (.new bp 0)),.agg (m.cells s5 s6 s7)]) h6) fun v h'=>∃a,DeedR t {p with ses:=(stakeF p.ses m.kind m.a).1} m a∧Did h6 (Rc C h2.blks.size h3.blks.size 2) bp q t a v h'):=by
  rcases hk with hk | hk | hk
  ·exact⟨_,l1,[3],by rw[hk];rfl,q1,r1,by decide,by rw[hk];rfl,kyu,fun T6 P6 M6=>(kber P6 M6 (he.1 hk) hnat).imp fun v h' d=>⟨_,.inl ⟨hk,rfl⟩,d⟩⟩
  ·exact⟨_,l3,_,by rw[hk];rfl,q3,r3,by decide,by rw[hk];rfl,k1t,fun T6 P6 M6=>(k0i P6 M6 hSm3 hnat).imp fun v h' d=>⟨_,.inr (.inl ⟨hk,rfl⟩),d⟩⟩
  ·exact⟨_,l4,_,by rw[hk];rfl,q4,r4,by decide,by rw[hk];rfl,kyw,fun T6 P6 M6=>(ask_is T6 P6 M6 hh.2.2.1).imp fun v h' ⟨a,ra,d⟩=>⟨a,.inr (.inr ⟨hk,ra⟩),d⟩⟩
 show Runs ((AV.asAgg ((kvGet (deedsL l1 l3 l4 l6) m.kind).getD (.agg [.nilFunc,noS.v]))).bind _) _;rw[hget];refine Runs.step rfl (Runs.ifT rfl (Runs.step rfl (Runs.step rfl (Runs.when (kgu b45 b45 0 0) ?_))));refine Runs.puts b45 rfl fun h6 b6 u6=>Runs.step (b6.cell 0) ?_;have b36:=b35.updr (show h.blks.size≠h3.blks.size by omega) u6;refine Runs.step (b36.rd 0 rfl (kc _ _)) (Runs.step (b36.rd 1 rfl (kc _ _)) (Runs.step (b36.rd 2 rfl (kc _ _)) (Runs.step (b36.rd 3 rfl (kc _ _)) (Runs.step (b36.rd 4 rfl (asSl_v _)) (Runs.step (b36.rd 5 rfl (asSl_v _)) (Runs.step (b36.rd 6 rfl (asSl_v _)) ?_))))));refine Runs.yieldF ?_;have G6:Grow h3 h6:=G35.updr (Nat.le_refl _) u6;have P6:=P3.grow G6;have D:=hdo (T3.grow G6) P6 (M3.grow G6);show Runs ((callF Pg go fid ([]++[.ptr (some (.new bp 0)),.agg (m.cells s5 s6 s7)]++[]) h6).bind _) _;rw[hcf];have qn6:Sq EI h6 (Fp.from h4.blks.size) ln next:=qn.upd (i:=h3.blks.size) (fun x=>by have x:h4.blks.size≤h3.blks.size:=x;omega) u6;have:=k06 (x:=go (.fn fid [.ptr (some (.new bp 0)),.agg (m.cells s5 s6 s7)]) h6) P6 b6 (C0 _ (Nat.le_refl _)) qn6 (fun j x=>C0 j (by have x:h4.blks.size≤j:=x;omega)) hn rn D;exact this.imp fun v h7 ⟨a,ra,to⟩=>⟨_,.inr (.inr (.inr (.inr ⟨k0,ok2,k2,k3,a,ra,by rw[hnx]⟩))),Took.next (M03.thenG G6) E03 to⟩
end
end Go.Ab
set_option maxRecDepth 10000
namespace Go.Ab
open Go.Proofs Go.Num
open Classical in
noncomputable def replyF(g:Gv×Bool)(t:Tb)(m:Ms):(Int×Int×Int×Int)×Int :=
 if tabR t=false then((0,0,0,0),20)else if¬m.ok∨m.kind≠8 then((0,0,0,0),16)else if g.2=false then((0,0,0,0),21)
 else if m.b≥(t.ids.length:Int)∨t.cols.length≤g.1.f then((0,0,0,0),1)
 else((9,m.a,m.b,if(t.cols.getD g.1.f []).getD m.b.toNat 0≤(g.1.c:Int)then 1 else 0),0)
@[reducible] def msgV(k a b c z:Int):AV:=.tup [.agg [.int .i64 k,.int .i64 a,.int .i64 b,.int .i64 c,noS.v,noS.v,noS.v],.int .i64 z]
noncomputable def repV(g:Gv×Bool)(t:Tb)(m:Ms):AV:=msgV (replyF g t m).1.1 (replyF g t m).1.2.1 (replyF g t m).1.2.2.1 (replyF g t m).1.2.2.2 (replyF g t m).2
theorem kfk{h:AH}{i:Nat}{cs:List AV}{k a b c z:Int}{ty:TypeId}(B:h.has i cs ty)(hl:cs.length=7):Runs ((h.puts (.new i 0) [.int .i64 k,.int .i64 a,.int .i64 b,.int .i64 c,noS.v,noS.v,noS.v]).bind fun h15 =>
 ((h15.cell ((Ref.new i 0).add 0)).bind (AV.asInt .i64)).bind fun n16 =>
 ((h15.cell ((Ref.new i 0).add 1)).bind (AV.asInt .i64)).bind fun n17 =>
 ((h15.cell ((Ref.new i 0).add 2)).bind (AV.asInt .i64)).bind fun n18 =>
 ((h15.cell ((Ref.new i 0).add 3)).bind (AV.asInt .i64)).bind fun n19 =>
 ((h15.cell ((Ref.new i 0).add 4)).bind AV.asSl).bind fun l20 =>
 ((h15.cell ((Ref.new i 0).add 5)).bind AV.asSl).bind fun l21 =>
 ((h15.cell ((Ref.new i 0).add 6)).bind AV.asSl).bind fun l22 =>
 some (.tup [.agg [.int .i64 n16,.int .i64 n17,.int .i64 n18,.int .i64 n19,l20.v,l21.v,l22.v],.int .i64 z],h15)) fun v h'=>v=msgV k a b c z∧Upd h h' i:=by
 refine Runs.puts B (by rw[hl];rfl) fun h1 b1 u1=>?_;exact Runs.step (b1.rd 0 rfl (kc _ _)) (Runs.step (b1.rd 1 rfl (kc _ _)) (Runs.step (b1.rd 2 rfl (kc _ _)) (Runs.step (b1.rd 3 rfl (kc _ _)) (Runs.step (b1.rd 4 rfl (asSl_v _)) (Runs.step (b1.rd 5 rfl (asSl_v _)) (Runs.step (b1.rd 6 rfl (asSl_v _)) (Runs.ret ⟨rfl,u1⟩)))))))
section
variable{h:AH}{St Sm:Fp}{s1 s2 s3 s5 s6 s7:Sl}{t:Tb}{m:Ms}{g:Gv×Bool}
theorem kbat{h:AH}(Q:TabAt h St s1 s2 s3 t)(hR:tabR t=true){f:Nat}(hf:f<t.cols.length){b:Int}(h0:0≤b)(hb:b<(t.ids.length:Int)):∃(r:Ref)(sc:Sl)(r2:Ref),idx s3.ref s3.len (f:Int) 1=some r∧(h.cell r).bind AV.asSl=some sc∧idx sc.ref sc.len b 1=some r2∧(h.cell r2).bind (AV.asInt .i64)=some ((t.cols.getD f []).getD b.toNat 0):=by
 obtain⟨n,rfl⟩:∃n:Nat,b=n:=⟨b.toNat,by omega⟩;obtain⟨r,sc,e1,e2,-,n2⟩:=Q.cols.sl hf;have ha:=kco hR;obtain⟨hb',-,-,hc⟩:=kfz (ha.2.2.2 f hf) hf ha.2.2.1;obtain⟨r2,e3,e4⟩:=n2.int (i:=n) (by omega);refine⟨r,sc,r2,e1,e2,e3,?_⟩;rw[e4,Int.toNat_natCast,List.getD_eq_getElem?_getD,List.getD_eq_getElem?_getD,List.getElem?_eq_getElem hf];simp only[Option.getD_some];rw[List.getElem?_eq_getElem (by omega)];rfl
theorem kbel{C:Nat→Nat}{bp:Nat}{q:Int×Int×Int}{L:PtL}{tp:Tb}{p:Pt}(P:PtIn h C bp q L tp p)(Q:TabAt h St s1 s2 s3 t)(M:MsAt h Sm s5 s6 s7 m):Runs (go (.fn ko6 [.ptr (some (.new bp 0)),.agg [s1.v,s2.v,s3.v],.agg (m.cells s5 s6 s7)]) h) fun v h'=>v=repV (findF p.msk.given m.a) t m∧Grow h h':=by
 rw[kben];refine Runs.new fun h1 b1 g1=>Runs.new fun h2 b2 g2=>Runs.new fun h3 b3 g3=>Runs.ifF rfl ?_;have z1:h.blks.size<h1.blks.size:=b1.lt;have z2:h1.blks.size<h2.blks.size:=b2.lt;have G3:=(g1.trans g2).trans g3;have B1:=g3.has (g2.has b1);have B2:=g3.has b2;unfold repV
 have fin:∀{h4 h5:AH}{k a b c z:Int},Grow h3 h4→(replyF (findF p.msk.given m.a) t m)=((k,a,b,c),z)→∀v h',(v=msgV k a b c z∧Upd h4 h' h2.blks.size)→v=msgV (replyF (findF p.msk.given m.a) t m).1.1 (replyF (findF p.msk.given m.a) t m).1.2.1 (replyF (findF p.msk.given m.a) t m).1.2.2.1 (replyF (findF p.msk.given m.a) t m).1.2.2.2 (replyF (findF p.msk.given m.a) t m).2∧Grow h h':=fun{h4 h5 k a b c z} g e v h' ⟨ev,u⟩=>by
  rw[e];exact⟨ev,(G3.trans g).updr (by omega) u⟩
 refine Runs.step (B1.rd 0 rfl (asSl_v _)) (Runs.step (B1.rd 1 rfl (asSl_v _)) (Runs.step (B1.rd 2 rfl (asSl_v _)) ?_));refine(khj (Q.grow G3)).call fun v h4 ⟨e,g4⟩=>?_;subst e;refine Runs.step (seen rfl) (Runs.cond (fun k=>?_) fun k1=>?_)
 ·rw[Bool.not_eq_true']at k;exact(kfk (g4.has b3) rfl).imp (fin (h5:=h4) g4 (by unfold replyF;rw[if_pos k]))
 rw[Bool.not_eq_false']at k1;have r1:¬tabR t=false:=by rw[k1];simp
 have B24:=g4.has B2;refine Runs.step (B24.rd 0 rfl (kc _ _)) (Runs.step (B24.rd 1 rfl (kc _ _)) (Runs.step (B24.rd 2 rfl (kc _ _)) (Runs.step (B24.rd 3 rfl (kc _ _)) (Runs.step (B24.rd 4 rfl (asSl_v _)) (Runs.step (B24.rd 5 rfl (asSl_v _)) (Runs.step (B24.rd 6 rfl (asSl_v _)) ?_))))));refine(kpu (M.grow (G3.trans g4))).call fun v h5 ⟨⟨z,e,hz⟩,g5⟩=>?_;subst e;have g45:=g4.trans g5;have b35:=g45.has b3;refine Runs.step (seen rfl) (Runs.cond (fun k=>?_) fun k2=>?_)
 ·rw[Bool.not_eq_true']at k;exact(kfk b35 rfl).imp (fin (h5:=h4) g45 (by unfold replyF;rw[if_neg r1,if_pos (.inl fun x=>by rw[hz.2 x]at k;cases k)]))
 rw[Bool.not_eq_false']at k2;have ok:=hz.1 k2;have B25:=g45.has B2;refine Runs.step (B25.rd 0 rfl (kc _ _)) (Runs.cond (fun k=>?_) fun k3=>?_)
 ·rw[Bool.not_eq_true',decide_eq_false_iff_not]at k;exact(kfk b35 rfl).imp (fin (h5:=h4) g45 (by unfold replyF;rw[if_neg r1,if_pos (.inr k)]))
 rw[Bool.not_eq_false',decide_eq_true_eq]at k3;have r2:¬(¬m.ok∨m.kind≠8):=fun x=>x.elim (fun y=>y ok) fun y=>y k3;refine Runs.step (B25.rd 1 rfl (kc _ _)) ?_;refine(ktb (P.grow (G3.trans g45)) m.a).call fun v h6 ⟨g6,e⟩=>?_;subst e;generalize findF p.msk.given m.a=g at *
 refine Runs.step rfl (Runs.step rfl (Runs.ifT rfl (Runs.step rfl (Runs.step rfl (Runs.step (seen rfl) ?_)))));refine Runs.new fun h7 b7 g7=>Runs.puts b7 rfl fun h8 b8 u8=>?_;have g67:=g6.trans g7;have g58:Grow h5 h8:=g67.updr g6.size u8;have g38:=g45.trans g58;have b38:=g58.has b35;refine Runs.cond (fun k=>?_) fun k4=>?_
 ·rw[Bool.not_eq_true']at k;exact(kfk b38 rfl).imp (fin (h5:=h4) g38 (by unfold replyF;rw[if_neg r1,if_neg r2,if_pos k]))
 rw[Bool.not_eq_false']at k4;have r3:¬g.2=false:=by rw[k4];simp
 have B28:=g38.has B2;have B18:=g38.has B1;have Q8:=Q.grow (G3.trans g38);refine Runs.step (B28.rd 2 rfl (kc _ _)) (Runs.step (B18.rd 0 rfl (asSl_v _)) ?_);rw[Q8.ids.len];refine Runs.cond (fun k=>?_) fun k5=>?_
 ·rw[decide_eq_true_eq]at k;exact(kfk b38 rfl).imp (fin (h5:=h4) g38 (by unfold replyF;rw[if_neg r1,if_neg r2,if_neg r3,if_pos (.inl k)]))
 rw[decide_eq_false_iff_not]at k5;refine Runs.step (b8.rd 0 rfl (kc _ _)) (Runs.step (B18.rd 2 rfl (asSl_v _)) ?_);rw[Q8.cols.len];refine Runs.cond (fun k=>?_) fun k6=>?_
 ·rw[decide_eq_true_eq]at k;exact(kfk b38 rfl).imp (fin (h5:=h4) g38 (by unfold replyF;rw[if_neg r1,if_neg r2,if_neg r3,if_pos (.inr (by omega))]))
 rw[decide_eq_false_iff_not]at k6;refine Runs.step (B28.rd 1 rfl (kc _ _)) (Runs.step (B28.rd 2 rfl (kc _ _)) ?_);refine Runs.new fun h9 b9 g9=>Runs.puts b9 rfl fun h10 b10 u10=>?_;have g810:Grow h8 h10:=g9.updr (Nat.le_refl _) u10
 have hob:0≤m.b:=by
  have:=ok.1.2.2.2.1;unfold oddI at this;rw[Bool.or_eq_false_iff,decide_eq_false_iff_not]at this;omega
 obtain⟨r,sc,r',e1,e2,e3,e4⟩:=kbat (Q8.grow g810) k1 (f:=g.1.f) (by omega) hob (by omega);rw[Q8.cols.len]at e1;have B110:=g810.has B18;have B210:=g810.has B28;have b810:=g810.has b8;refine Runs.step (B110.rd 2 rfl (asSl_v _)) (Runs.step (b810.rd 0 rfl (kc _ _)) ?_);rw[Q8.cols.len];refine Runs.step e1 (Runs.step e2 (Runs.step (B210.rd 2 rfl (kc _ _)) (Runs.step e3 (Runs.step e4 (Runs.step (b810.rd 1 rfl (kc _ _)) ?_)))));have b310:=g810.has b38;have hn:h2.blks.size≠h8.blks.size:=by have:=b38.lt;omega
 have r4:¬(m.b≥(t.ids.length:Int)∨t.cols.length≤g.1.f):=by omega
 refine Runs.cond (fun k=>?_) fun k=>?_
 ·rw[decide_eq_true_eq]at k;refine Runs.putAt b10 (cs':=[.int .i64 9,.int .i64 m.a,.int .i64 m.b,.int .i64 1,noS.v,noS.v,noS.v]) (by simp) (by simp) fun h11 b11 u11=>?_;refine Runs.step (b11.rd 0 rfl (kc _ _)) (Runs.step (b11.rd 1 rfl (kc _ _)) (Runs.step (b11.rd 2 rfl (kc _ _)) (Runs.step (b11.rd 3 rfl (kc _ _)) (Runs.step (b11.rd 4 rfl (asSl_v _)) (Runs.step (b11.rd 5 rfl (asSl_v _)) (Runs.step (b11.rd 6 rfl (asSl_v _)) ?_))))));have b311:=b310.updr hn u11;exact(kfk b311 rfl).imp (fin (h5:=h4) (g38.trans (g810.updr (Nat.le_refl _) u11)) (by unfold replyF;rw[if_neg r1,if_neg r2,if_neg r3,if_neg r4,if_pos k]))
 ·rw[decide_eq_false_iff_not]at k;refine Runs.step (b10.rd 0 rfl (kc _ _)) (Runs.step (b10.rd 1 rfl (kc _ _)) (Runs.step (b10.rd 2 rfl (kc _ _)) (Runs.step (b10.rd 3 rfl (kc _ _)) (Runs.step (b10.rd 4 rfl (asSl_v _)) (Runs.step (b10.rd 5 rfl (asSl_v _)) (Runs.step (b10.rd 6 rfl (asSl_v _)) ?_))))));exact(kfk b310 rfl).imp (fin (h5:=h4) (g38.trans g810) (by unfold replyF;rw[if_neg r1,if_neg r2,if_neg r3,if_neg r4,if_neg k]))
end
end Go.Ab
