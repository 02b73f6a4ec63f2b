/- squeezed -/
import Derived.Test.YtgfeahhgoiidiaaGreatDoorPAbsMd
set_option linter.unusedVariables false
set_option linter.unusedSimpArgs false
set_option linter.unusedSectionVars false

set_option maxRecDepth 10000
namespace Go.Ab
open Go.Proofs Go.Num
theorem k4j{z:Nat}{w:List Nat}{p:Nat→Bool}(r:btR (z:Int) w=true):((List.range z).filter p).filter (wbit w)=(btL (z:Int) w).filter p:=by
 unfold btL;rw[r,if_pos rfl,Int.toNat_natCast,List.filter_filter,List.filter_filter];apply List.filter_congr;intro x _;exact Bool.and_comm _ _
structure SplI(h0:AH)(z:Nat)(ts:List Tb)(g:List Int)(R:List Nat)(D:List Spl)(l:Sl)(jl:Option Nat)(s:Sl)(js:Option Nat)(h:AH):Prop where
 grow:Grow h0 h
 ll:LeO h0.blks.size jl
 ls:LeO h0.blks.size js
 ne:∀k,jl=some k→js≠some k
 spl:∃S:Fp,(∀m,S m→h0.blks.size≤m)∧NotO S js∧GF (Ef.spr z) T.kd4 h S l jl (D.map fun x=>⟨x,R.filter (leftS ts x)⟩)
 sum:GF EP T.kbc h Fp.no s js (D.map fun x=>sumR g (R.filter (leftS ts x)))
theorem opt_lt{n k:Nat}:∀{j:Option Nat},LtO n j→j=some k→k<n
 | some _,l,e=>by cases e;exact l
theorem opt_ge{n k:Nat}:∀{j:Option Nat},LeO n j→j=some k→n≤k
 | some _,l,e=>by cases e;exact l
theorem kta(ts:List Tb)(n:Nat):kdj ts (n+1)=kdj ts n++kfv n (ts.getD n Tb.no):=by
 unfold kdj;rw[List.range_succ,List.flatMap_append];simp
section
variable{h0:AH}{Sg Sb:Fp}{gs ys:Sl}{g:List Int}{R:List Nat}{z:Nat}{ts:List Tb}
theorem kxq(T0:Tab h0)(Q:Sq EI h0 Sg gs g)(By:BitsAt h0 Sb z ys R)(hz:z≤g.length)(hz2:z≤256){p:Nat}(hp:p<ts.length){s1 s2 s3:Sl}{St:Fp}(qt:TabAt h0 St s1 s2 s3 ts[p])(hR:tabR ts[p]=true)(hid:ts[p].ids.length=z){b bt:Nat}(hb0:b<h0.blks.size)(Bb:h0.has b [.int .i64 (z:Int),ys.v] T.kw){f:Nat}(hf:f<ts[p].cols.length){D0:List Spl}(hD0:D0.length≤16*512){tsl bn:Sl}{m1 m2:Int}{P:AV→AH→Prop}
  (hP:∀h l jl s js,SplI h0 z ts g R (D0++(cutsTo ts[p] (f+1)).map fun x=>(p,x.1,x.2)) l jl s js h→h.has bt [s1.v,s2.v,s3.v] T.kbi→(∀k,jl=some k∨js=some k→k≠bt)→Runs (go (.pt F.kcd Td.kke [(1,gs.v),(5,.ptr (some (.new b 0))),(8,l.v),(9,s.v),(10,.int .i64 (p:Int)),(11,.ptr (some (.new bt 0))),(17,tsl.v),(18,.int .i64 m1),(19,.int .i64 (p:Int)),(25,bn.v),(26,.int .i64 m2),(27,.int .i64 ((f+1:Nat):Int))]) h) P) :
  ∀(k c:Nat),c+k=nb ts[p] f→∀h l jl s js,SplI h0 z ts g R (D0++(cutsTo ts[p] f++(List.range c).map fun c=>(f,c)).map fun x=>(p,x.1,x.2)) l jl s js h→h.has bt [s1.v,s2.v,s3.v] T.kbi→(∀k,jl=some k∨js=some k→k≠bt)→
  Runs (go (.pt F.kcd Td.kmx [(1,gs.v),(5,.ptr (some (.new b 0))),(8,l.v),(9,s.v),(10,.int .i64 (p:Int)),(11,.ptr (some (.new bt 0))),(12,.int .i64 (f:Int)),(17,tsl.v),(18,.int .i64 m1),(19,.int .i64 (p:Int)),(25,bn.v),(26,.int .i64 m2),(27,.int .i64 (f:Int)),(33,.int .i64 (nb ts[p] f:Int)),(34,.int .i64 (c:Int))]) h) P:=by
 obtain⟨hids,hcols,hbins,hall⟩:=kf8 hR;obtain⟨hb,hb2,hb32,hcl⟩:=kgu (hall f hf) hf hbins;have hgd:ts[p].bins.getD f 0=ts[p].bins[f]:=by simp[List.getD,hb]
 have hnb:(nb ts[p] f:Int)=ts[p].bins[f]-1:=by
  unfold nb;rw[hgd];omega
 have htp:ts.getD p Tb.no=ts[p]:=by simp[List.getD,hp]
 have hlen:(cutsTo ts[p] f).length≤31*f:=kok ts[p] f fun i hi=>by
  obtain⟨hb',h2',h32',-⟩:=kgu (hall i (by omega)) (by omega) hbins;have:ts[p].bins.getD i 0=ts[p].bins[i]:=by simp[List.getD,hb']
  unfold nb;rw[this];omega
 intro k
 induction k with
 | zero =>
  intro c hc h l jl s js I Bt hbt;obtain rfl:c=nb ts[p] f:=by omega
  rw[← ks0]at I;rw[kvb];refine Runs.ifF (decide_eq_false (by omega)) ?_;rw[kq (by omega)];exact hP h l jl s js I Bt hbt
 | succ k ih =>
  intro c hc h l jl s js I Bt hbt;have hcb:(c:Int)<ts[p].bins.getD f 0:=by rw[hgd];omega
  obtain⟨G,ll,ls,hne,⟨S,hS,nS,V⟩,W⟩:=I;have ltl:=V.lt;have lts:=W.lt;have hsz:=G.size
  have hnl:(D0++(cutsTo ts[p] f++(List.range c).map fun c=>(f,c)).map fun x=>(p,x.1,x.2)).length≤20000:=by
   simp only[List.length_append,List.length_map,List.length_range];omega
  rw[kvb];refine Runs.ifT (decide_eq_true (by omega)) (Runs.step (Bt.rd 0 rfl (asSl_v _)) (Runs.step (Bt.rd 1 rfl (asSl_v _)) (Runs.step (Bt.rd 2 rfl (asSl_v _)) ?_)));refine(k43 (qt.grow G) hR hf hcb).call fun v h1 ⟨g1,y1,w1,e,N1,o1,l1,m1'⟩=>?_;subst e;refine Runs.step rfl (Runs.step rfl (Runs.ifT rfl (Runs.step rfl (Runs.step (seenAt rfl (asSl_v _)) (Runs.step rfl ?_)))));dsimp only;refine Runs.new fun h2 b2 g2=>Runs.puts b2 rfl fun h3 b3 u3=>?_;have g13:Grow h1 h3:=g2.updr (Nat.le_refl _) u3;have G3:=(G.trans g1).trans g13;refine Runs.step (b3.rd 0 rfl (kb _ _)) (Runs.step (b3.rd 1 rfl (asSl_v _)) (Runs.step ((G3.has Bb).rd 0 rfl (kb _ _)) (Runs.step ((G3.has Bb).rd 1 rfl (asSl_v _)) ?_)));rw[hid];rw[hid]at l1;obtain⟨wy,Ny,ay,ry,ly⟩:=By
  have hleft:∀x∈leftR ts[p] f (c:Int),x<z:=fun x hx=>by
   unfold leftR at hx;rw[← hid];exact List.mem_range.1 (List.mem_filter.1 hx).1
  obtain⟨r1,l1'⟩:=ofP_bt (by omega) hleft l1 m1';refine(k6i (N1.grow g13) (Ny.grow G3) r1 ry).call fun v h4 pp=>?_;obtain⟨g4,y4,e4,T4,e,B4,hT4,o4⟩:=pp.bits;subst e
  have hrows:(btL (z:Int) w1).filter (wbit wy)=R.filter (leftS ts (p,f,c)):=by
   have e1:btL (z:Int) w1=(List.range z).filter (leftP ts[p] f (c:Int)):=by
    rw[l1'];apply List.filter_congr;intro i hi;rw[Bool.eq_iff_iff,decide_eq_true_eq];unfold leftR;rw[List.mem_filter,hid];exact⟨fun h=>h.2,fun h=>⟨hi,h⟩⟩
   rw[e1,k4j ry,ly];apply List.filter_congr;intro i _;unfold leftS;rw[htp]
  rw[hrows]at B4;refine Runs.step rfl (Runs.step rfl (Runs.ifT rfl (Runs.step rfl (Runs.step (seenAt rfl (asSl_v _)) (Runs.step rfl ?_)))));dsimp only;have z1:=g1.size;have z3:=b3.lt;have z4:=g4.size;have z13:=g13.size;refine Runs.puts (g4.has b3) rfl fun h5 b5 u5=>Runs.step (b5.rd 0 rfl (kb _ _)) (Runs.step (b5.rd 1 rfl (asSl_v _)) (Runs.new fun h6 b6 g6=>?_));have G15:Grow h1 h5:=(g13.trans g4).updr (Nat.le_refl _) u5;have B5:BitsAt h5 T4 z y4 (R.filter (leftS ts (p,f,c))):=B4.upd (fun x=>by have:=hT4 _ x;omega) u5;have g06:Grow h h6:=(g1.trans G15).trans g6;refine Runs.step (kc2 b6 (by rw[k0c];rfl)) ?_;have z5:=u5.size;have z6:=g6.size
  obtain⟨l',h7,e7,V7,u7⟩:=(V.grow g06).push (T:=T4) (show(Ef.spr z).has h6 T4 _ ⟨(p,f,c),R.filter (leftS ts (p,f,c))⟩from⟨y4,rfl,B5.grow g6⟩) (by
   cases jl with
   | none=>trivial
   | some a =>
    intro hm;have:=hT4 _ hm;have:a<h.blks.size:=ltl;omega) (kz8 (by rw[List.length_map];omega))
  refine Runs.step e7 (Runs.step (asSl_v _) ?_);have m7:Md (Fp.opt jl) h6 h7:=u7.md fun k e=>e;have njl:∀{m:Nat},h.blks.size≤m→¬Fp.opt jl m:=fun hm e=>by have:=opt_lt ltl e;omega
  have b7:=m7.has (g6.has b5) (njl (by omega));refine Runs.step (b7.rd 0 rfl (kb _ _)) (Runs.step (b7.rd 1 rfl (asSl_v _)) ?_);have G7:Grow h0 h7:=(G.trans g06).updo ll u7;have B7:BitsAt h7 T4 z y4 (R.filter (leftS ts (p,f,c))):=(B5.grow g6).md m7 fun m a e=>by have:=hT4 _ a;have:=opt_lt ltl e;omega
  refine(kur (T0.grow G7) (Q.grow G7) B7 hz (by omega)).call fun v h8 ⟨e,g8⟩=>?_;subst e;refine Runs.step rfl (Runs.ifT rfl (Runs.step rfl (Runs.step rfl (Runs.new fun h9 b9 g9=>?_))));refine Runs.step (kc2 b9 (by rw[k5f];rfl)) ?_;have g79:=g8.trans g9;have W7:GF EP T.kbc h7 Fp.no s js _:=GF.md m7 (fun j a _=>a) (W.grow g06) fun k e e2=>hne k e2 e;obtain⟨s',h10,e10,W10,u10⟩:=(W7.grow g79).push (T:=Fp.no) (EP.of _ _) NotO.no (k6v (by rw[List.length_map];omega));refine Runs.step e10 (Runs.step (asSl_v _) ?_);have m10:Md (Fp.opt js) h9 h10:=u10.md fun k e=>e;rw[kq (by omega)];have z7:=m7.size;have z9:=g79.size;have z9':=b9.lt;have v7:h6.blks.size<h7.blks.size:=V7.lt
  have hnew:(D0++(cutsTo ts[p] f++(List.range (c+1)).map fun c=>(f,c)).map fun x=>(p,x.1,x.2))=(D0++(cutsTo ts[p] f++(List.range c).map fun c=>(f,c)).map fun x=>(p,x.1,x.2))++[(p,f,c)]:=by
   rw[List.range_succ];simp
  refine ih (c+1) (by omega) h10 l' (some h6.blks.size) s' (some h9.blks.size) ?_ ?_ ?_
  ·rw[hnew];refine⟨(G7.trans g79).updo ls u10,show _≤_ by omega,show _≤_ by omega,fun k e e2=>by injection e with e;injection e2 with e2;omega,⟨fun j=>(Fp.or S T4) j∧j<h6.blks.size,?_,?_,?_⟩,?_⟩
   ·exact fun m hm=>hm.1.elim (hS m) fun a=>by have:=hT4 _ a;omega
   ·exact fun hm=>by have:=hm.2;omega
   ·rw[List.map_append]
    have V10:=GF.md m10 (T:=Fp.opt js) (S:=fun j=>(Fp.or S T4) j∧j<h6.blks.size) (fun m a e=>by
     rcases a.1 with a1 | a1
     ·subst e;exact nS a1
     ·have:=hT4 _ a1;have:=opt_lt lts e;omega) (V7.grow g79) (fun k e e2=>by cases e;have:=opt_lt lts e2;omega)
    exact V10
   ·rw[List.map_append];exact W10.mono (fun j x=>x.1.elim id id) NotO.no
  ·exact m10.has (g79.has (m7.has (g06.has Bt) fun e=>hbt _ (.inl e) rfl)) fun e=>hbt _ (.inr e) rfl
  ·have zb:=Bt.lt;intro k hk;rcases hk with hk | hk<;>cases hk<;>omega
theorem k5b(T0:Tab h0)(Q:Sq EI h0 Sg gs g)(By:BitsAt h0 Sb z ys R)(hz:z≤g.length)(hz2:z≤256){p:Nat}(hp:p<ts.length)(hp16:ts.length≤16){s1 s2 s3:Sl}{St:Fp}(qt:TabAt h0 St s1 s2 s3 ts[p])(hR:tabR ts[p]=true)(hid:ts[p].ids.length=z){b bt:Nat}(hb0:b<h0.blks.size)(Bb:h0.has b [.int .i64 (z:Int),ys.v] T.kw){D0:List Spl}(hD0:D0.length≤16*512){tsl:Sl}{m1:Int}{P:AV→AH→Prop}
  (hP:∀h l jl s js,SplI h0 z ts g R (D0++kfv p ts[p]) l jl s js h→Runs (go (.pt F.kcd Td.kjk [(1,gs.v),(5,.ptr (some (.new b 0))),(8,l.v),(9,s.v),(17,tsl.v),(18,.int .i64 m1),(19,.int .i64 ((p+1:Nat):Int))]) h) P) :
  ∀(k f:Nat),f+k=ts[p].cols.length→∀h l jl s js,SplI h0 z ts g R (D0++(cutsTo ts[p] f).map fun x=>(p,x.1,x.2)) l jl s js h→h.has bt [s1.v,s2.v,s3.v] T.kbi→(∀k,jl=some k∨js=some k→k≠bt)→
  Runs (go (.pt F.kcd Td.kke [(1,gs.v),(5,.ptr (some (.new b 0))),(8,l.v),(9,s.v),(10,.int .i64 (p:Int)),(11,.ptr (some (.new bt 0))),(17,tsl.v),(18,.int .i64 m1),(19,.int .i64 (p:Int)),(25,s2.v),(26,.int .i64 (ts[p].bins.length:Int)),(27,.int .i64 (f:Int))]) h) P:=by
 obtain⟨hids,hcols,hbins,hall⟩:=kf8 hR;intro k
 induction k with
 | zero =>
  intro f hf h l jl s js I Bt hbt;obtain rfl:f=ts[p].cols.length:=by omega
  rw[ktx];refine Runs.ifF (decide_eq_false (by omega)) ?_;rw[kq (by omega)];exact hP h l jl s js I
 | succ k ih =>
  intro f hf h l jl s js I Bt hbt;have hf':f<ts[p].cols.length:=by omega
  obtain⟨hb,hb2,hb32,hcl⟩:=kgu (hall f hf') hf' hbins;have hgd:ts[p].bins.getD f 0=ts[p].bins[f]:=by simp[List.getD,hb]
  obtain⟨r,e1,e2⟩:=(qt.bins.grow I.grow).int hb;rw[ktx];refine Runs.ifT (decide_eq_true (by omega)) (Runs.step e1 (Runs.step e2 ?_));rw[wrap64 (by omega) (by omega),show ts[p].bins[f]-1=(nb ts[p] f:Int)from by unfold nb;rw[hgd];omega];exact kxq T0 Q By hz hz2 hp qt hR hid hb0 Bb hf' hD0 (fun h l jl s js I Bt hbt=>ih (f+1) (by omega) h l jl s js I Bt hbt) (nb ts[p] f) 0 (by omega) h l jl s js (by simpa using I) Bt hbt
theorem k80{p:Nat}{t:Tb}(hR:tabR t=true):(kfv p t).length≤496:=by
 obtain⟨hids,hcols,hbins,hall⟩:=kf8 hR;unfold kfv;rw[List.length_map]
 have:=kok t t.cols.length fun i hi=>by
  obtain⟨hb',h2',h32',-⟩:=kgu (hall i hi) hi hbins;have:t.bins.getD i 0=t.bins[i]:=by simp[List.getD,hb']
  unfold nb;rw[this];omega
 omega
theorem kq5(hts:∀(p:Nat)(hp:p<ts.length),tabR ts[p]=true):∀n,n≤ts.length→(kdj ts n).length≤496*n
 | 0,_=>by simp[kdj]
 | n+1,h=>by
  rw[kta,List.length_append];have h1:=kq5 hts n (by omega);have:ts.getD n Tb.no=ts[n]:=by simp[List.getD,show n<ts.length by omega]
  rw[this];have h2:=k80 (p:=n) (hts n (by omega));omega
theorem k7w(T0:Tab h0)(Q:Sq EI h0 Sg gs g)(By:BitsAt h0 Sb z ys R)(hz:z≤g.length)(hz2:z≤256)(hp16:ts.length≤16){tsl:Sl}{St:Fp}(Qt:Sq Ef.tb h0 St tsl ts)(hts:∀(p:Nat)(hp:p<ts.length),tabR ts[p]=true∧ts[p].ids.length=z){b:Nat}(hb0:b<h0.blks.size)(Bb:h0.has b [.int .i64 (z:Int),ys.v] T.kw) :
  ∀(k p:Nat),p+k=ts.length→∀h l jl s js,SplI h0 z ts g R (kdj ts p) l jl s js h→
  Runs (go (.pt F.kcd Td.kjk [(1,gs.v),(5,.ptr (some (.new b 0))),(8,l.v),(9,s.v),(17,tsl.v),(18,.int .i64 (ts.length:Int)),(19,.int .i64 (p:Int))]) h) fun v h'=>∃l jl s js,v=.tup [l.v,s.v]∧SplI h0 z ts g R (kbw ts) l jl s js h':=by
 intro k
 induction k with
 | zero =>
  intro p hp h l jl s js I;obtain rfl:p=ts.length:=by omega
  rw[ktc];exact Runs.ifF (decide_eq_false (by omega)) (Runs.ret ⟨l,jl,s,js,rfl,I⟩)
 | succ k ih =>
  intro p hp h l jl s js I;have hp':p<ts.length:=by omega
  obtain⟨hR,hid⟩:=hts p hp';obtain⟨r,s1,s2,s3,e1,e2,e3,e4,qt⟩:=(Qt).tb hp';have G:=I.grow;obtain⟨r',s1',s2',s3',e1',e2',e3',e4',qt'⟩:=(Qt.grow G).tb hp';rw[ktc];rw[Qt.len]at e1'⊢;refine Runs.ifT (decide_eq_true (by omega)) (Runs.step e1' (Runs.step e2' (Runs.step e3' (Runs.step e4' (Runs.new fun h1 b1 g1=>Runs.puts b1 rfl fun h2 b2 u2=>Runs.step (b2.rd 1 rfl (asSl_v _)) ?_)))));have g02:Grow h h2:=g1.updr (Nat.le_refl _) u2
  have es:s1'=s1∧s2'=s2∧s3'=s3:=by
   rw[Qt.len]at e1;rw[e1]at e1';cases e1'
   have f:∀(o:Nat)(a b:Sl),(h0.cell (r.add o)).bind AV.asSl=some a→(h.cell (r.add o)).bind AV.asSl=some b→b=a:=fun o a b ha hb=>by
    obtain⟨v,hv,hva⟩:=Option.bind_eq_some_iff.1 ha;rw[G.cell_some hv,Option.bind_some,hva]at hb;cases hb;rfl
   exact⟨f 0 _ _ e2 e2',f 1 _ _ e3 e3',f 2 _ _ e4 e4'⟩
  obtain⟨rfl,rfl,rfl⟩:=es;have htp:ts.getD p Tb.no=ts[p]:=by simp[List.getD,hp']
  have I2:SplI h0 z ts g R (kdj ts p) l jl s js h2:=by
   obtain⟨G,ll,ls,hne,⟨S,hS,nS,V⟩,W⟩:=I;exact⟨G.trans g02,ll,ls,hne,⟨S,hS,nS,V.grow g02⟩,W.grow g02⟩
  have hjl:∀k,jl=some k∨js=some k→k≠h.blks.size:=fun k hk=>by
   obtain⟨G,ll,ls,hne,⟨S,hS,nS,V⟩,W⟩:=I;rcases hk with hk | hk
   ·have:=opt_lt V.lt hk;omega
   ·have:=opt_lt W.lt hk;omega
  have hlen:=kq5 (fun p hp=>(hts p hp).1) p (by omega);rw[qt.bins.len];refine k5b T0 Q By hz hz2 hp' hp16 qt hR hid hb0 Bb (bt:=h.blks.size) (D0:=kdj ts p) (by omega) (fun h l jl s js I=>?_) ts[p].cols.length 0 (by omega) h2 l jl s js (by simpa[cutsTo]using I2) b2 hjl;refine ih (p+1) (by omega) h l jl s js ?_;rw[kta,htp];exact I
theorem k2n(T0:Tab h0)(Q:Sq EI h0 Sg gs g)(By:BitsAt h0 Sb z ys R)(hz:z≤g.length)(hz2:z≤256)(hp16:ts.length≤16){tsl:Sl}{St:Fp}(Qt:Sq Ef.tb h0 St tsl ts)(hts:∀(p:Nat)(hp:p<ts.length),tabR ts[p]=true∧ts[p].ids.length=z) :
  Runs (go (.fn F.kcd [tsl.v,gs.v,.agg [.int .i64 (z:Int),ys.v]]) h0) fun v h'=>Grow h0 h'∧∃(l s:Sl)(S S':Fp),v=.tup [l.v,s.v]∧Sq (Ef.spr z) h' S l ((kbw ts).map fun x=>⟨x,R.filter (leftS ts x)⟩)∧Sq EP h' S' s (sumsS ts g R)∧∀m,S m→h0.blks.size≤m:=by
 rw[kw8];refine Runs.new fun h1 b1 g1=>?_;rw[Qt.len];refine(k7w (T0.grow g1) (Q.grow g1) (By.grow g1) hz hz2 hp16 (Qt.grow g1) hts b1.lt b1 ts.length 0 (by omega) h1 _ none _ none ⟨Grow.refl _,trivial,trivial,(fun k e=>by cases e),⟨Fp.no,fun m x=>x.elim,trivial,GF.none _ _ _ _⟩,GF.none _ _ _ _⟩).imp fun v h' ⟨l,jl,s,js,e,I⟩=>?_;obtain⟨G,ll,ls,hne,⟨S,hS,nS,V⟩,W⟩:=I;refine⟨g1.trans G,l,s,_,_,e,V.sq,W.sq,fun m hm=>?_⟩;have:=g1.size;rcases hm with hm | hm
 ·have:=opt_ge ll hm;omega
 ·have:=hS m hm;omega
end
end Go.Ab

/- squeezed -/
set_option maxRecDepth 10000
namespace Go.Ab
open Go.Proofs Go.Num Go.Heap
@[reducible] def Ef.wt(z:Nat):Ef Wt where
 w:=4
 pos:=by decide
 has h S cs x:=∃y:Sl,cs=[.int .i64 (x.place:Int),.int .i64 (x.deep:Int),.int .i64 (z:Int),y.v]∧BitsAt h S z y x.rows
 len:=fun⟨_,e,_⟩=>by rw[e];rfl
 grow g:=fun⟨a,e,n⟩=>⟨a,e,n.grow g⟩
 mono f:=fun⟨a,e,n⟩=>⟨a,e,n.mono f⟩
 upd no u:=fun⟨a,e,n⟩=>⟨a,e,n.upd no u⟩
 bound:=fun⟨a,e,n⟩=>⟨a,e,n.bound⟩
theorem kz2{n:Nat}(h:n≤1000000):growOk Pg n T.kbf 4=true:=by
 unfold growOk;rw[k7u,kzs];have h1:n*48≤ki:=by simp only[ki];omega
 have h2:n*4≤ki:=by simp only[ki];omega
 have h3:n≤ki:=by simp only[ki];omega
 simp[h1,h2,h3]
def keyW(x:Wt):Int:=(x.place:Int)
def QAt(z bq:Nat)(S:Fp)(q:List Wt)(k:Nat)(h:AH):Prop:=k≠bq∧¬S bq∧∃s:Sl,h.has bq [s.v] T.kvg∧GQ (Ef.wt z) T.kbf h S s k q
theorem QAt.grow{z bq k:Nat}{S:Fp}{q:List Wt}{h h':AH}(Q:QAt z bq S q k h)(g:Grow h h'):QAt z bq S q k h':=by
 obtain⟨a,b,s,B,V⟩:=Q;exact⟨a,b,s,g.has B,V.grow g⟩
theorem QAt.md{z bq k:Nat}{S T:Fp}{q:List Wt}{h h':AH}(Q:QAt z bq S q k h)(m:Md T h h')(d:Dis S T)(n1:¬T k)(n2:¬T bq):QAt z bq S q k h':=by
 obtain⟨a,b,s,B,V⟩:=Q;exact⟨a,b,s,m.has B n2,V.md m d n1⟩
theorem QAt.lt{z bq k:Nat}{S:Fp}{q:List Wt}{h:AH}(Q:QAt z bq S q k h):k<h.blks.size∧bq<h.blks.size:=by
 obtain⟨a,b,s,B,V⟩:=Q;exact⟨V.lt,B.lt⟩
theorem QAt.mono{z bq k:Nat}{S T:Fp}{q:List Wt}{h:AH}(Q:QAt z bq S q k h)(f:∀j,S j→T j)(n1:¬T k)(n2:¬T bq):QAt z bq T q k h:=by
 obtain⟨a,b,s,B,V⟩:=Q;exact⟨a,n2,s,B,V.mono f n1⟩
theorem at_key(q:List Wt){i:Nat}(hi:i<q.length):at' keyW q i=(q[i].place:Int):=by
 unfold at' keyW;rw[List.getElem?_eq_getElem hi];rfl
section
variable{z bq k:Nat}{S:Fp}{q:List Wt}{h:AH}{s:Sl}
theorem wt_at(V:GQ (Ef.wt z) T.kbf h S s k q){i:Nat}(hi:i<q.length):∃(r:Ref)(y:Sl),idx s.ref s.len (i:Int) 4=some r∧(h.cell (r.add 0)).bind (AV.asInt .i64)=some (q[i].place:Int)∧(h.cell (r.add 1)).bind (AV.asInt .i64)=some (q[i].deep:Int)∧(h.cell (r.add 2)).bind (AV.asInt .i64)=some (z:Int)∧(h.cell (r.add 3)).bind AV.asSl=some y∧BitsAt h S z y q[i].rows:=by
 obtain⟨r,cs,e1,⟨y,rfl,B⟩,l⟩:=V.at hi;have g:=Grow.refl h;exact⟨r,y,e1,l.rd g 0 rfl (kb _ _),l.rd g 1 rfl (kb _ _),l.rd g 2 rfl (kb _ _),l.rd g 3 rfl (asSl_v _),B⟩
theorem kpo(V:GQ (Ef.wt z) T.kbf h S s k q){i j:Nat}(hi:i<q.length)(hj:j<q.length):go (.fn F.kfw [s.v,.int .i64 (i:Int),.int .i64 (j:Int)]) h=some (.bool (decide (at' keyW q i<at' keyW q j)),h):=by
 obtain⟨r1,y1,e1,a1,-⟩:=wt_at V hi;obtain⟨r2,y2,e2,a2,-⟩:=wt_at V hj;rw[k92,e1,Option.bind_some,a1,Option.bind_some,e2,Option.bind_some,a2,Option.bind_some,at_key q hi,at_key q hj]
theorem kr5(V:GQ (Ef.wt z) T.kbf h S s k q){i j:Nat}(hi:i<q.length)(hj:j<q.length):Runs (go (.fn F.kfc [s.v,.int .i64 (i:Int),.int .i64 (j:Int)]) h) fun v h'=>v=.tup []∧GQ (Ef.wt z) T.kbf h' S s k (swapL q i j)∧Upd h h' k:=by
 obtain⟨r1,y1,e1,a0,a1,a2,a3,B1⟩:=wt_at V hj;obtain⟨r2,y2,e2,c0,c1,c2,c3,B2⟩:=wt_at V hi;rw[kbaj];refine Runs.step e1 (Runs.step a0 (Runs.step a1 (Runs.step a2 (Runs.step a3 (Runs.step e2 (Runs.step c0 (Runs.step c1 (Runs.step c2 (Runs.step c3 (Runs.step e2 ?_))))))))));have nS:=V.not;obtain⟨r3,h1,e3,p3,V1,u1⟩:=V.set (T:=S) (x:=q[j]) (show(Ef.wt z).has h S _ q[j]from⟨y1,rfl,B1⟩) nS hi;rw[e2]at e3;cases e3;refine Runs.step p3 ?_;have V1:=V1.mono (T:=S) (fun j x=>x.elim id id) nS;have hj':j<(q.set i q[j]).length:=by rw[List.length_set];exact hj
 obtain⟨r4,h2,e4,p4,V2,u2⟩:=V1.set (T:=S) (x:=q[i]) (show(Ef.wt z).has h1 S _ q[i]from⟨y2,rfl,B2.upd nS u1⟩) nS hj';refine Runs.step e4 (Runs.step p4 (Runs.ret ⟨rfl,?_,u1.trans u2⟩))
 have:swapL q i j=(q.set i q[j]).set j q[i]:=by
  unfold swapL;rw[List.getElem?_eq_getElem hi,List.getElem?_eq_getElem hj]
 rw[this];exact V2.mono (T:=S) (fun j x=>x.elim id id) nS
theorem k71{i0:Int}{n:Nat}(hn64:n≤1000000):∀(m i:Nat),n≤m+i→i≤1000000→∀(h:AH)(q:List Wt),n≤q.length→QAt z bq S q k h→
  Runs (go (.pt F.kd9 Td.kgd [(0,.iface T.kbp (.ptr (some (.new bq 0)))),(1,.int .i64 i0),(2,.int .i64 (n:Int)),(7,.int .i64 (i:Int))]) h) fun v h'=>(∃b,v=.bool b)∧QAt z bq S (downL keyW n m i q) k h'∧Md (fun j=>j=k) h h':=by
 intro m
 induction m with
 | zero =>
  intro i hm hi h q hq Q;rw[kua];rw[wrap64 (n:=2*(i:Int)) (by omega) (by omega),wrap64 (n:=2*(i:Int)+1) (by omega) (by omega)];exact Runs.ifT (decide_eq_true (by omega)) (Runs.ret ⟨⟨_,rfl⟩,Q,Md.refl _ _⟩)
 | succ m ih =>
  intro i hm hi h q hq Q;rw[kua];rw[wrap64 (n:=2*(i:Int)) (by omega) (by omega),wrap64 (n:=2*(i:Int)+1) (by omega) (by omega),wrap64 (n:=2*(i:Int)+1+1) (by omega) (by omega),show 2*(i:Int)+1+1=((2*i+2:Nat):Int)from by omega,show 2*(i:Int)+1=((2*i+1:Nat):Int)from by omega];refine Runs.cond (fun c=>?_) fun c=>?_
  ·rw[decide_eq_true_eq]at c;refine Runs.ret ⟨⟨_,rfl⟩,?_,Md.refl _ _⟩;unfold downL;rw[if_neg (by omega)];exact Q
  rw[decide_eq_false_iff_not]at c;refine Runs.ifF (decide_eq_false (by omega)) ?_;obtain⟨hk,hb,s,B,V⟩:=Q;have h1:2*i+1<n:=by omega
  have fin:∀j:Nat,j<n→j≠i→kidL keyW n i q=j→Runs (((h.cell (.new bq 0)).bind AV.asSl).bind fun l18=>(go (.fn F.kfw [l18.v,.int .i64 (j:Int),.int .i64 (i:Int)]) h).bind fun q19=>((some q19.1).bind AV.asBool).bind fun b20=>cond (!b20) (some (.bool (decide ((i:Int)>i0)),q19.2)) (((q19.2.cell (.new bq 0)).bind AV.asSl).bind fun l21=>(go (.fn F.kfc [l21.v,.int .i64 (i:Int),.int .i64 (j:Int)]) q19.2).bind fun q22=>(AV.asTup0 q22.1).bind fun _=>go (.pt F.kd9 Td.kgd [(0,.iface T.kbp (.ptr (some (.new bq 0)))),(1,.int .i64 i0),(2,.int .i64 (n:Int)),(7,.int .i64 (j:Int))]) q22.2)) fun v h'=>(∃b,v=.bool b)∧QAt z bq S (downL keyW n (m+1) i q) k h'∧Md (fun j=>j=k) h h':=by
   intro j hj hji hkid;refine Runs.step (B.rd0 rfl (asSl_v _)) (Runs.step (kpo V (i:=j) (j:=i) (by omega) (by omega)) (Runs.step (seen rfl) ?_));refine Runs.cond (fun c2=>?_) fun c2=>?_
   ·rw[Bool.not_eq_true',decide_eq_false_iff_not]at c2;refine Runs.ret ⟨⟨_,rfl⟩,?_,Md.refl _ _⟩;unfold downL;rw[if_pos h1,hkid,if_neg c2];exact⟨hk,hb,s,B,V⟩
   ·rw[Bool.not_eq_false',decide_eq_true_eq]at c2;refine Runs.step (B.rd0 rfl (asSl_v _)) ?_;refine(kr5 V (i:=i) (j:=j) (by omega) (by omega)).call fun v h2 ⟨e,V2,u2⟩=>?_;subst e;refine Runs.step rfl ?_;have:=ih j (by rcases koa keyW n i q with⟨e,_⟩ | ⟨e,_⟩<;>omega) (by omega) h2 (swapL q i j) (by rw[kfk];exact hq) ⟨hk,hb,s,B.updr (fun e=>hk e.symm) u2,V2⟩;refine this.imp fun v h' ⟨e,Q',md⟩=>⟨e,?_,(u2.md (T:=fun j=>j=k) rfl).trans md⟩;unfold downL;rw[if_pos h1,hkid,if_pos c2];exact Q'
  refine Runs.cond (fun c1=>?_) fun c1=>?_
  ·rw[decide_eq_true_eq]at c1;refine Runs.step (B.rd0 rfl (asSl_v _)) (Runs.step (kpo V (i:=2*i+2) (j:=2*i+1) (by omega) (by omega)) (Runs.step (seen rfl) ?_));refine Runs.cond (fun c2=>?_) fun c2=>?_
   ·rw[decide_eq_true_eq]at c2;exact fin (2*i+2) (by omega) (by omega) (by unfold kidL;rw[if_pos ⟨by omega,c2⟩])
   ·rw[decide_eq_false_iff_not]at c2;exact fin (2*i+1) (by omega) (by omega) (by unfold kidL;rw[if_neg fun hh=>c2 hh.2])
  ·rw[decide_eq_false_iff_not]at c1;exact fin (2*i+1) (by omega) (by omega) (by unfold kidL;rw[if_neg fun hh=>c1 (by omega)])
theorem k8j(Q:QAt z bq S q k h)(hq:0<q.length)(hq2:q.length≤1000){x:Wt}(hx:(downL keyW (q.length-1) q.length 0 (swapL q 0 (q.length-1)))[q.length-1]?=some x) :
  Runs (go (.fn F.kq1 [.iface T.kbp (.ptr (some (.new bq 0)))]) h) fun v h'=>∃y:Sl,v=.iface T.kbf (.agg [.int .i64 (x.place:Int),.int .i64 (x.deep:Int),.int .i64 (z:Int),y.v])∧BitsAt h' S z y x.rows∧QAt z bq S (popL keyW q) k h'∧Md (fun j=>j=k∨j=bq) h h':=by
 obtain⟨hk,hb,s,B,V⟩:=Q;rw[k2q];refine Runs.step (B.rd0 rfl (asSl_v _)) (Runs.step (klb _ _) (Runs.step (seen rfl) (Runs.step (B.rd0 rfl (asSl_v _)) ?_)));have ln:s.len=q.length:=V.sq.len;dsimp only;rw[ln,wrap64 (n:=(q.length:Int)-1) (by omega) (by omega),show(q.length:Int)-1=((q.length-1:Nat):Int)from by omega];refine(kr5 V (i:=0) (j:=q.length-1) (by omega) (by omega)).call fun v h1 ⟨e,V1,u1⟩=>?_;subst e;refine Runs.step rfl ?_;have B1:=B.updr (fun e=>hk e.symm) u1
 have kd:Runs (go (.fn F.kd9 [.iface T.kbp (.ptr (some (.new bq 0))),.int .i64 0,.int .i64 ((q.length-1:Nat):Int)]) h1) fun v h'=>(∃b,v=.bool b)∧QAt z bq S (downL keyW (q.length-1) q.length 0 (swapL q 0 (q.length-1))) k h'∧Md (fun j=>j=k) h1 h':=by
  rw[kx4];exact k71 (by omega) q.length 0 (by omega) (by omega) h1 _ (by rw[kfk];omega) ⟨hk,hb,s,B1,V1⟩
 refine kd.call fun v h2 ⟨⟨b,e⟩,⟨_,_,s2,B2,V2⟩,m2⟩=>?_;subst e;refine Runs.step (seen rfl) ?_;generalize hd:downL keyW (q.length-1) q.length 0 (swapL q 0 (q.length-1))=d at *
 have hdl:d.length=q.length:=by rw[← hd,kns,kfk]
 have hi:q.length-1<d.length:=by omega
 have hxd:d[q.length-1]=x:=by
  rw[List.getElem?_eq_getElem hi]at hx
  simpa using hx
 have ln2:s2.len=d.length:=V2.sq.len;obtain⟨r,y,e1,a0,a1,a2,a3,By⟩:=wt_at V2 hi;rw[hxd]at a0 a1 By
 have kp:Runs (go (.fn F.kqf [.ptr (some (.new bq 0))]) h2) fun v h'=>v=.iface T.kbf (.agg [.int .i64 (x.place:Int),.int .i64 (x.deep:Int),.int .i64 (z:Int),y.v])∧QAt z bq S (d.take (q.length-1)) k h'∧BitsAt h' S z y x.rows∧Md (fun j=>j=bq) h2 h':=by
  rw[kyr,Option.bind_some];refine Runs.step (B2.rd0 rfl (asSl_v _)) ?_;rw[Option.bind_some];refine Runs.step (B2.rd0 rfl (asSl_v _)) ?_;rw[wrap64 (n:=(s2.len:Int)-1) (by omega) (by omega),show(s2.len:Int)-1=((q.length-1:Nat):Int)from by omega];refine Runs.step e1 (Runs.step a0 (Runs.step a1 (Runs.step a2 (Runs.step a3 (Runs.new fun h3 b3 g3=>Runs.puts b3 rfl fun h4 b4 u4=>?_)))));have g24:Grow h2 h4:=g3.updr (Nat.le_refl _) u4;rw[Option.bind_some];have B4:=g24.has B2;refine Runs.step (B4.rd0 rfl (asSl_v _)) ?_;obtain⟨s5,e5,V5⟩:=(V2.grow g24).cut (n:=q.length-1) (by omega);refine Runs.step e5 ?_;rw[Option.bind_some];refine Runs.puts B4 rfl fun h6 B6 u6=>?_;have zb:=B2.lt;have b6:=b4.updr (i:=bq) (by omega) u6;refine Runs.step (b6.rd 0 rfl (kb _ _)) (Runs.step (b6.rd 1 rfl (kb _ _)) (Runs.step (b6.rd 2 rfl (kb _ _)) (Runs.step (b6.rd 3 rfl (asSl_v _)) (Runs.ret ⟨rfl,⟨hk,hb,s5,B6,V5.upd u6 hb hk⟩,(By.grow g24).upd hb u6,(g24.md _).trans (u6.md rfl)⟩))))
 refine kp.call fun v h3 ⟨e,Q3,By3,m3⟩=>?_;subst e;refine Runs.ret ⟨y,rfl,By3,?_,?_⟩
 ·unfold popL;rw[hd];exact Q3
 ·exact((u1.md (.inl rfl)).trans (m2.mono fun _ _ e=>.inl e)).trans (m3.mono fun _ _ e=>.inr e)
theorem kra(Q:QAt z bq S q k h)(hq2:q.length≤1000){x:Wt}{y:Sl}{Tx:Fp}(By:BitsAt h Tx z y x.rows)(nk:¬Tx k)(nb:¬Tx bq)(hx:∀w∈q,keyW w≤keyW x) :
  Runs (go (.fn F.kk2 [.iface T.kbp (.ptr (some (.new bq 0))),.iface T.kbf (.agg [.int .i64 (x.place:Int),.int .i64 (x.deep:Int),.int .i64 (z:Int),y.v])]) h) fun v h'=>v=.tup []∧∃(S':Fp)(k':Nat),(∀m,S' m→S m∨Tx m)∧QAt z bq S' (q++[x]) k' h'∧Md (fun j=>j=k∨j=bq) h h'∧(k'=k∨h.blks.size≤k'):=by
 obtain⟨hk,hb,s,B,V⟩:=Q;rw[k5w];have zb:=B.lt;have zk:=V.lt
 have kp:Runs (go (.fn F.kp6 [.ptr (some (.new bq 0)),.iface T.kbf (.agg [.int .i64 (x.place:Int),.int .i64 (x.deep:Int),.int .i64 (z:Int),y.v])]) h) fun v h'=>v=.tup []∧∃(S':Fp)(k':Nat),(∀m,S' m→S m∨Tx m)∧QAt z bq S' (q++[x]) k' h'∧Md (fun j=>j=k∨j=bq) h h'∧(k'=k∨h.blks.size≤k'):=by
  rw[k06,Option.bind_some];refine Runs.step (B.rd0 rfl (asSl_v _)) (Runs.new fun h1 b1 g1=>?_);refine Runs.when (g1.same B 0 1) ?_;refine Runs.step (kc2 b1 (by rw[kzk];rfl)) ?_;obtain⟨s',h2,k',e2,V2,u2,hk'⟩:=(V.grow g1).push (T:=Tx) (show(Ef.wt z).has h1 Tx _ x from⟨y,rfl,By.grow g1⟩) nk (kz2 (by omega));refine Runs.step e2 (Runs.step (asSl_v _) ?_);rw[Option.bind_some];have B2:=(g1.has B).updr (i:=k) (fun e=>hk e.symm) u2;have z1:=g1.size
  have hne:k'≠bq:=by
   rcases hk' with rfl | rfl
   ·exact hk
   ·omega
  have nbS:¬((Fp.or S Tx) bq∧bq<h1.blks.size):=fun x=>x.1.elim hb nb;refine Runs.puts B2 rfl fun h3 B3 u3=>Runs.ret ⟨rfl,_,k',fun m x=>x.1,⟨hne,nbS,s',B3,V2.upd u3 nbS hne⟩,?_,?_⟩
  ·exact((g1.md _).trans (u2.md (.inl rfl))).trans (u3.md (.inr rfl))
  ·rcases hk' with rfl | rfl
   ·exact .inl rfl
   ·exact .inr z1
 refine kp.call fun v h2 ⟨e,S',k',hS',Q2,m2,hk2⟩=>?_;subst e;refine Runs.step rfl ?_;have Q2':=Q2;obtain⟨hk',hb',s2,B2,V2⟩:=Q2;have ln:s2.len=q.length+1:=by rw[V2.sq.len,List.length_append];rfl
 refine Runs.step (B2.rd0 rfl (asSl_v _)) (Runs.step (klb _ _) (Runs.step (seen rfl) ?_));dsimp only;rw[ln,wrap64 (n:=((q.length+1:Nat):Int)-1) (by omega) (by omega),show((q.length+1:Nat):Int)-1=(q.length:Int)from by omega]
 have ku:Runs (go (.fn F.khb [.iface T.kbp (.ptr (some (.new bq 0))),.int .i64 (q.length:Int)]) h2) fun v h'=>v=.tup []∧h'=h2:=by
  rw[k3p,kxi];refine Runs.cond (fun c=>Runs.ret ⟨rfl,rfl⟩) fun c=>?_;rw[decide_eq_false_iff_not]at c;by_cases h0:q.length=0
  ·rw[h0]at c;exact absurd (by decide) c
  ·rw[wrap64 (n:=(q.length:Int)-1) (by omega) (by omega),show(q.length:Int)-1=((q.length-1:Nat):Int)from by omega,show Int.tdiv ((q.length-1:Nat):Int) 2=(((q.length-1)/2:Nat):Int)from rfl,wrap64 (n:=(((q.length-1)/2:Nat):Int)) (by omega) (by omega)];have hl:(q++[x]).length=q.length+1:=by simp
   refine Runs.step (B2.rd0 rfl (asSl_v _)) (Runs.step (kpo V2 (i:=q.length) (j:=(q.length-1)/2) (by omega) (by omega)) (Runs.step (seen rfl) ?_));refine Runs.ifT ?_ (Runs.ret ⟨rfl,rfl⟩);rw[Bool.not_eq_true',decide_eq_false_iff_not];have hm:(q.length-1)/2<q.length:=by omega
   have e1:at' keyW (q++[x]) q.length=keyW x:=by
    unfold at';rw[List.getElem?_append_right (Nat.le_refl _)];simp
   have e2:at' keyW (q++[x]) ((q.length-1)/2)=keyW q[(q.length-1)/2]:=by
    unfold at';rw[List.getElem?_append_left hm,List.getElem?_eq_getElem hm];rfl
   rw[e1,e2];have:=hx _ (List.getElem_mem hm);omega
 refine ku.call fun v h3 ⟨e,e'⟩=>?_;subst e;subst e';exact Runs.step rfl (Runs.ret ⟨rfl,S',k',hS',Q2',m2,hk2⟩)
end
end Go.Ab

/- squeezed -/
set_option maxRecDepth 10000
namespace Go.Ab
open Go.Proofs Go.Num Go.Heap
theorem k4q{n:Nat}(h:n≤1000000):growOk Pg n T.kb8 7=true:=by
 unfold growOk;rw[kzd,kt4];have h1:n*56≤ki:=by simp only[ki];omega
 have h2:n*7≤ki:=by simp only[ki];omega
 have h3:n≤ki:=by simp only[ki];omega
 simp[h1,h2,h3]
theorem kps(w:Int):∀(R:List Nat)(sc:List Int),(addS w R sc).length=sc.length
 | [],_=>rfl
 | i::R,sc=>by
  unfold addS;rw[List.foldl_cons];have:=kps w R (sc.set i (IntKind.wrap .i64 (sc.getD i 0+w)));unfold addS at this;rw[this,List.length_set]
structure Pl where
 c:Nat
 r:Nat
 t:Nat
 q:Nat
 s:Nat
 n:Nat
 k:Nat
def Pl.all(p:Pl)(j:Nat):Prop:=j=p.c∨j=p.r∨j=p.t∨j=p.q∨j=p.s∨j=p.n∨j=p.k
structure Pl.ok(p:Pl):Prop where
 cr:p.c≠p.r
 ct:p.c≠p.t
 cq:p.c≠p.q
 cs:p.c≠p.s
 cn:p.c≠p.n
 ck:p.c≠p.k
 rt:p.r≠p.t
 rq:p.r≠p.q
 rs:p.r≠p.s
 rn:p.r≠p.n
 rk:p.r≠p.k
 tq:p.t≠p.q
 ts:p.t≠p.s
 tn:p.t≠p.n
 tk:p.t≠p.k
 qs:p.q≠p.s
 qn:p.q≠p.n
 qk:p.q≠p.k
 sn:p.s≠p.n
 sk:p.s≠p.k
 nk:p.n≠p.k
def Cfg.cells(c:Cfg):List AV:=[.int .i64 c.trees,.int .i64 c.depth,.int .i64 c.lambda,.int .i64 c.gamma,.int .i64 c.num,.int .i64 c.den,.int .i64 c.loss,.int .i64 c.clip]
structure GrAt(c:Cfg)(z:Nat)(scs:Sl)(p:Pl)(q:List Wt)(nodes:List Nd)(sc:List Int)(h:AH):Prop where
 ok:p.ok
 cfg:h.has p.c c.cells T.kb0
 res:h.has p.r [(⟨none,0,.is 0⟩:Sl).v] T.kch
 tree:∃nd:Sl,h.has p.t [nd.v] T.kch∧GF Ef.nd T.kb8 h Fp.no nd (some p.n) nodes
 que:∃S:Fp,(∀m,S m→¬p.all m)∧QAt z p.q S q p.k h
 sco:GF EI T.int h Fp.no scs (some p.s) sc
def Pl.ch(p:Pl)(j:Nat):Prop:=j=p.r∨j=p.t∨j=p.q∨j=p.s∨j=p.n∨j=p.k
section
variable{hE:AH}{c:Cfg}{z:Nat}{scs gs tsl:Sl}{p:Pl}{q:List Wt}{nodes:List Nd}{sc g:List Int}{ts:List Tb}{h:AH}
theorem GrAt.grow(A:GrAt c z scs p q nodes sc h){h':AH}(G:Grow h h'):GrAt c z scs p q nodes sc h':=by
 obtain⟨ok,cfg,res,⟨nd,B,V⟩,⟨S,hS,Q⟩,sco⟩:=A;exact⟨ok,G.has cfg,G.has res,⟨nd,G.has B,V.grow G⟩,⟨S,hS,Q.grow G⟩,sco.grow G⟩
theorem GrAt.lt(A:GrAt c z scs p q nodes sc h):∀j,p.all j→j<h.blks.size:=by
 obtain⟨ok,cfg,res,⟨nd,B,V⟩,⟨S,hS,Q⟩,sco⟩:=A
 rintro j (rfl | rfl | rfl | rfl | rfl | rfl | rfl)
 ·exact cfg.lt
 ·exact res.lt
 ·exact B.lt
 ·exact Q.lt.2
 ·exact sco.lt
 ·exact V.lt
 ·exact Q.lt.1
theorem GrAt.upd(A:GrAt c z scs p q nodes sc h){h':AH}{i:Nat}(u:Upd h h' i)(hi:h.blks.size≤i∨(¬p.all i∧∀S:Fp,QAt z p.q S q p.k h→(∀m,S m→¬p.all m)→∃S':Fp,QAt z p.q S' q p.k h∧(∀m,S' m→¬p.all m)∧¬S' i)):GrAt c z scs p q nodes sc h':=by
 have hl:=A.lt;obtain⟨ok,cfg,res,⟨nd,B,V⟩,⟨S,hS,Q⟩,sco⟩:=A
 have na:¬p.all i:=by
  rcases hi with hi | hi
  ·intro x;have:=hl i x;omega
  ·exact hi.1
 have ne:∀j,p.all j→j≠i:=fun j hj e=>na (e▸hj)
 obtain⟨S',Q',hS',nS⟩:∃S':Fp,QAt z p.q S' q p.k h∧(∀m,S' m→¬p.all m)∧¬S' i:=by
  rcases hi with hi | hi
  ·obtain⟨a,b,s,Bq,Vq⟩:=Q;exact⟨fun j=>S j∧j<h.blks.size,⟨a,fun x=>b x.1,s,Bq,Vq.bound⟩,fun m x=>hS m x.1,fun x=>by have:=x.2;omega⟩
  ·exact hi.2 S Q hS
 refine⟨ok,cfg.updr (ne _ (.inl rfl)) u,res.updr (ne _ (.inr (.inl rfl))) u,⟨nd,B.updr (ne _ (by simp[Pl.all])) u,V.upd u Fp.not_no fun k e=>by cases e;exact ne _ (by simp[Pl.all])⟩,⟨S',hS',Q'.md (u.md (T:=fun j=>j=i) rfl) (fun j a e=>nS (e▸a)) (ne _ (by simp[Pl.all])) (ne _ (by simp[Pl.all]))⟩,sco.upd u Fp.not_no fun k e=>by cases e;exact ne _ (by simp[Pl.all])⟩
theorem kx1{w:Int}{x:Sl}{R:List Nat}(hR:∀i∈R,i<sc.length)(hl:R.length≤100000){P:AV→AH→Prop} :
  ∀(k i:Nat),i+k=R.length→∀(h:AH)(sc':List Int),(∃Sx:Fp,¬Sx p.s∧Sq EI h Sx x (zs R))→sc'.length=sc.length→GrAt c z scs p q nodes sc' h→sc'=addS w (R.take i) sc→(∀h',Md (fun j=>j=p.s) h h'→GrAt c z scs p q nodes (addS w R sc) h'→Runs (go (.pt F.kby Td.kfo [(1,tsl.v),(2,gs.v),(3,scs.v),(4,.ptr (some (.new p.c 0))),(8,.ptr (some (.new p.r 0))),(11,.ptr (some (.new p.t 0))),(12,.ptr (some (.new p.q 0)))]) h') P)→
  Runs (go (.pt F.kby Td.kkl [(1,tsl.v),(2,gs.v),(3,scs.v),(4,.ptr (some (.new p.c 0))),(8,.ptr (some (.new p.r 0))),(11,.ptr (some (.new p.t 0))),(12,.ptr (some (.new p.q 0))),(18,.int .i64 w),(92,x.v),(93,.int .i64 (R.length:Int)),(94,.int .i64 (i:Int))]) h) P:=by
 intro k
 induction k with
 | zero =>
  intro i hi h sc' X hl' A e hP;obtain rfl:i=R.length:=by omega
  rw[List.take_length]at e;subst e;rw[kwc];exact Runs.ifF (decide_eq_false (by omega)) (hP h (Md.refl _ _) A)
 | succ k ih =>
  intro i hi h sc' ⟨Sx,nx,X⟩ hl' A e hP;have hi':i<R.length:=by omega
  have hz:i<(zs R).length:=by rw[zs_len];exact hi'
  obtain⟨r1,e1,e2⟩:=X.int hz;have ex:(zs R)[i]=((R[i]:Nat):Int):=by simp[zs]
  rw[ex]at e2;have hg:R[i]<sc'.length:=by rw[hl'];exact hR _ (List.getElem_mem hi')
  have ln:scs.len=sc'.length:=A.sco.len;obtain⟨r2,e3,e4⟩:=A.sco.sq.int hg;rw[kwc];refine Runs.ifT (decide_eq_true (by omega)) (Runs.step e1 (Runs.step e2 (Runs.step e3 (Runs.step e4 (Runs.step e3 ?_)))));have hgd:sc'.getD R[i] 0=sc'[R[i]]:=by simp[List.getD,hg]
  obtain⟨r3,h1,e5,p5,V5,u5⟩:=A.sco.set (T:=Fp.no) (x:=IntKind.wrap .i64 (sc'[R[i]]+w)) (show EI.has h Fp.no [.int .i64 (IntKind.wrap .i64 (sc'[R[i]]+w))] _ from rfl) Fp.not_no (kbd hg);have e5:idx scs.ref sc'.length ((R[i]:Nat):Int) 1=some r3:=e5;rw[← ln,e3]at e5;cases e5;refine Runs.step p5 ?_;rw[kq (by omega)];have u5:Upd h h1 p.s:=u5
  have A1:GrAt c z scs p q nodes (sc'.set R[i] (IntKind.wrap .i64 (sc'[R[i]]+w))) h1:=by
   obtain⟨ok,cfg,res,⟨nd,B,V⟩,⟨S,hS,Q⟩,sco⟩:=A;refine⟨ok,cfg.updr ok.cs u5,res.updr ok.rs u5,⟨nd,B.updr ok.ts u5,V.upd u5 Fp.not_no fun k e=>by cases e;exact ok.sn.symm⟩,⟨S,hS,Q.md (u5.md (T:=fun j=>j=p.s) rfl) (fun j a e=>hS j a (by subst e;simp[Pl.all])) ok.sk.symm ok.qs⟩,V5.mono (fun j x=>x.elim id id) Fp.not_no⟩
  refine ih (i+1) (by omega) h1 _ ⟨Sx,nx,X.upd nx u5⟩ (by rw[List.length_set];exact hl') A1 ?_ fun h' m A'=>hP h' ((u5.md (T:=fun j=>j=p.s) rfl).trans m) A';rw[List.take_succ_eq_append_getElem hi'];unfold addS at e⊢;rw[List.foldl_append,List.foldl_cons,List.foldl_nil,← e,hgd]
end
end Go.Ab

/- squeezed -/
set_option maxRecDepth 10000
namespace Go.Ab
open Go.Proofs Go.Num Go.Heap
theorem kzt(c:Cfg)(s:Int×Int){h:AH}:Runs (go (.fn F.ki3 [.agg [.int .i64 c.trees,.int .i64 c.depth,.int .i64 c.lambda,.int .i64 c.gamma,.int .i64 c.num,.int .i64 c.den,.int .i64 c.loss,.int .i64 c.clip],.agg [.int .i64 s.1,.int .i64 s.2]]) h) fun v h'=>(∃e:Int,v=.tup [.int .i64 (kd0 c s),.int .i64 e])∧Grow h h' :=
 (k1w c.trees c.depth c.lambda c.gamma c.num c.den c.loss c.clip s.1 s.2).imp fun v h' ⟨e,g⟩=>⟨⟨_,e⟩,g⟩
section
variable{c:Cfg}{z:Nat}{scs gs tsl y sb l:Sl}{p:Pl}{q:List Wt}{nodes:List Nd}{sc g:List Int}{ts:List Tb}{h:AH}{Sy Sl':Fp}{x:Wt}
theorem GrAt.setn(A:GrAt c z scs p q nodes sc h){i:Nat}(hi:i<nodes.length)(y:Nd):∃(nd:Sl)(r:Ref)(h':AH),h.has p.t [nd.v] T.kch∧idx nd.ref nd.len (i:Int) 7=some r∧h.puts r y.cells=some h'∧Upd h h' p.n∧GrAt c z scs p q (nodes.set i y) sc h':=by
 obtain⟨ok,cfg,res,⟨nd,B,V⟩,⟨S,hS,Q⟩,sco⟩:=A;obtain⟨r,h1,e1,p1,V1,u1⟩:=V.set (T:=Fp.no) (x:=y) (show Ef.nd.has h Fp.no y.cells y from rfl) Fp.not_no (kbd hi);have u1:Upd h h1 p.n:=u1;have e1:idx nd.ref nodes.length (i:Int) 7=some r:=e1;rw[← V.len]at e1;refine⟨nd,r,h1,B,e1,p1,u1,ok,cfg.updr ok.cn u1,res.updr ok.rn u1,⟨nd,B.updr ok.tn u1,V1.mono (fun j x=>x.elim id id) Fp.not_no⟩,⟨S,hS,Q.md (u1.md (T:=fun j=>j=p.n) rfl) (fun j a e=>hS j a (by subst e;simp[Pl.all])) ok.nk.symm ok.qn⟩,sco.upd u1 Fp.not_no fun k e=>by cases e;exact ok.sn⟩
theorem ky7(T0:Tab h)(A:GrAt c z scs p q nodes sc h){b18 b26:Nat}(n18:¬p.all b18)(B18:h.has b18 [.int .i64 (x.place:Int),.int .i64 (x.deep:Int),.int .i64 (z:Int),y.v] T.kbf)(B26:h.has b26 [.int .i64 (sumR g x.rows).1,.int .i64 (sumR g x.rows).2] T.kbc)(By:BitsAt h Sy z y x.rows)(hSy:∀m,Sy m→¬p.all m)(hpl:x.place<nodes.length)(hscl:sc.length=z)(hz:z≤256)(hsb:sb.len=0){P:AV→AH→Prop}
  (hP:∀h',Md p.ch h h'→GrAt c z scs p q (nodes.set x.place (leafN (kd0 c (sumR g x.rows)))) (addS (kd0 c (sumR g x.rows)) x.rows sc) h'→Runs (go (.pt F.kby Td.kfo [(1,tsl.v),(2,gs.v),(3,scs.v),(4,.ptr (some (.new p.c 0))),(8,.ptr (some (.new p.r 0))),(11,.ptr (some (.new p.t 0))),(12,.ptr (some (.new p.q 0)))]) h') P) :
  Runs (go (.pt F.kby Td.khz [(1,tsl.v),(2,gs.v),(3,scs.v),(4,.ptr (some (.new p.c 0))),(8,.ptr (some (.new p.r 0))),(11,.ptr (some (.new p.t 0))),(12,.ptr (some (.new p.q 0))),(13,.ptr (some (.new b18 0))),(14,.ptr (some (.new b26 0))),(15,sb.v),(16,l.v)]) h) P:=by
 have hsub:=By.lt;rw[krb,hsb];have C:=A.cfg;refine Runs.ifT rfl ?_;refine Runs.step (C.rd 0 rfl (kb _ _)) (Runs.step (C.rd 1 rfl (kb _ _)) (Runs.step (C.rd 2 rfl (kb _ _)) (Runs.step (C.rd 3 rfl (kb _ _)) (Runs.step (C.rd 4 rfl (kb _ _)) (Runs.step (C.rd 5 rfl (kb _ _)) (Runs.step (C.rd 6 rfl (kb _ _)) (Runs.step (C.rd 7 rfl (kb _ _)) (Runs.step (B26.rd 0 rfl (kb _ _)) (Runs.step (B26.rd 1 rfl (kb _ _)) ?_)))))))));refine(kzt c (sumR g x.rows)).call fun v h1 ⟨⟨e,he⟩,g1⟩=>?_;subst he;refine Runs.step rfl (Runs.step (seen (kb _ _)) (Runs.step (seen (kb _ _)) ?_));dsimp only;have A1:=A.grow g1;obtain⟨nd,r,h2,Bt,e1,p2,u2,A2⟩:=A1.setn hpl (leafN (kd0 c (sumR g x.rows)));refine Runs.step (Bt.rd 0 rfl (asSl_v _)) (Runs.step ((g1.has B18).rd 0 rfl (kb _ _)) (Runs.step e1 (Runs.step p2 ?_)));have n18n:b18≠p.n:=fun e=>n18 (by subst e;simp[Pl.all]);have B18':=(g1.has B18).updr n18n u2;refine Runs.step (B18'.rd 2 rfl (kb _ _)) (Runs.step (B18'.rd 3 rfl (asSl_v _)) ?_);have By2:=(By.grow g1).upd (fun x=>hSy _ x (by simp[Pl.all])) u2;obtain⟨w,N,a,rr,ll⟩:=By2;have T2:Tab h2:=(T0.grow g1).md (u2.md (T:=fun j=>j=p.n) rfl);refine(kww (n:=(z:Int)) T2 N).call fun v h3 ⟨g3,xl,j,e,lj,X⟩=>?_;subst e;rw[ll]at X;refine Runs.step (seen (asSl_v _)) ?_;rw[X.len,zs_len];have hlen:x.rows.length≤z:=by have:=hsub.length_le;rwa[List.length_range]at this
 have A3:=A2.grow g3;have hs:=A2.lt p.s (by simp[Pl.all]);refine kx1 (sc:=sc) (fun i hi=>by rw[hscl];exact List.mem_range.1 (hsub.subset hi)) (by omega) x.rows.length 0 (by omega) h3 sc ⟨_,?_,X.sq⟩ rfl A3 rfl fun h' m A'=>hP h' ?_ A'
 ·rintro (k | k)
  ·have:=opt_ge lj k;omega
  ·exact k
 ·exact((g1.md _).trans ((u2.md (T:=p.ch) (by simp[Pl.ch])).thenG g3)).trans (m.mono fun j _ e=>by subst e;simp[Pl.ch])
end
end Go.Ab

/- squeezed -/
set_option maxRecDepth 10000
namespace Go.Ab
open Go.Proofs Go.Num Go.Heap
theorem k9r{z:Nat}{w R:List Nat}(r:btR (z:Int) w=true)(l:btL (z:Int) w=R){i:Nat}(hi:i<z):wbit w i=decide (i∈R):=by
 rw[← l];unfold btL;rw[r,if_pos rfl,Int.toNat_natCast,Bool.eq_iff_iff,decide_eq_true_eq,List.mem_filter,List.mem_range];exact⟨fun h=>⟨hi,h⟩,fun h=>h.2⟩
section
variable{c:Cfg}{z:Nat}{scs gs tsl y sb l:Sl}{p:Pl}{q:List Wt}{nodes:List Nd}{sc g:List Int}{ts:List Tb}{h:AH}{Sy Sl' Sb:Fp}{x:Wt}{b:Int}{bs:List Int}
theorem Sq.spr{L:List SpR}(n:Sq (Ef.spr z) h Sl' l L){i:Nat}(hi:i<L.length):∃(r:Ref)(y:Sl),idx l.ref l.len (i:Int) 9=some r∧(h.cell (r.add 0)).bind AV.asBool=some false∧(h.cell (r.add 1)).bind (AV.asInt .i64)=some 0∧(h.cell (r.add 2)).bind (AV.asInt .i64)=some (L[i].spl.1:Int)∧(h.cell (r.add 3)).bind (AV.asInt .i64)=some (L[i].spl.2.1:Int)∧(h.cell (r.add 4)).bind (AV.asInt .i64)=some (L[i].spl.2.2:Int)∧(h.cell (r.add 5)).bind (AV.asInt .i64)=some 0∧(h.cell (r.add 6)).bind (AV.asInt .i64)=some 0∧(h.cell (r.add 7)).bind (AV.asInt .i64)=some (z:Int)∧(h.cell (r.add 8)).bind AV.asSl=some y∧BitsAt h Sl' z y L[i].rows:=by
 obtain⟨r,cs,e1,⟨y,rfl,B⟩,k⟩:=n.at (kee hi);rw[n.len];have g:=Grow.refl h;exact⟨r,y,e1,k.rd g 0 rfl rfl,k.rd g 1 rfl (kb _ _),k.rd g 2 rfl (kb _ _),k.rd g 3 rfl (kb _ _),k.rd g 4 rfl (kb _ _),k.rd g 5 rfl (kb _ _),k.rd g 6 rfl (kb _ _),k.rd g 7 rfl (kb _ _),k.rd g 8 rfl (asSl_v _),B⟩
theorem k1c(T0:Tab h)(A:GrAt c z scs p q nodes sc h){b18 b26:Nat}(n18:¬p.all b18)(B18:h.has b18 [.int .i64 (x.place:Int),.int .i64 (x.deep:Int),.int .i64 (z:Int),y.v] T.kbf)(By:BitsAt h Sy z y x.rows)(hSy:∀m,Sy m→¬p.all m)(hpl:x.place<nodes.length)(hn:nodes.length≤63)(hq:q.length≤64)(hdeep:x.deep≤64)(hz:z≤256)(hqp:∀w∈q,w.place<nodes.length)(hsb:Sq (Ef.int .i64) h Sb sb (b::bs)){L:List SpR}(hL:Sq (Ef.spr z) h Sl' l L)(hSl:∀m,Sl' m→¬p.all m){j:Nat}(hb:b=(j:Int))(hj:j<L.length)(hrow:L[j].rows=x.rows.filter (leftS ts L[j].spl)){P:AV→AH→Prop}
  (hP:∀(h':AH)(p':Pl),p'.c=p.c→p'.r=p.r→p'.t=p.t→p'.q=p.q→p'.s=p.s→Md p.ch h h'→(p'.n=p.n∨h.blks.size≤p'.n)→(p'.k=p.k∨h.blks.size≤p'.k)→GrAt c z scs p' (q++kidsS ts x L[j].spl nodes.length) (nodes.set x.place (splitN L[j].spl nodes.length (nodes.length+1))++[Nd.no,Nd.no]) sc h'→Runs (go (.pt F.kby Td.kfo [(1,tsl.v),(2,gs.v),(3,scs.v),(4,.ptr (some (.new p.c 0))),(8,.ptr (some (.new p.r 0))),(11,.ptr (some (.new p.t 0))),(12,.ptr (some (.new p.q 0)))]) h') P) :
  Runs (go (.pt F.kby Td.khz [(1,tsl.v),(2,gs.v),(3,scs.v),(4,.ptr (some (.new p.c 0))),(8,.ptr (some (.new p.r 0))),(11,.ptr (some (.new p.t 0))),(12,.ptr (some (.new p.q 0))),(13,.ptr (some (.new b18 0))),(14,.ptr (some (.new b26 0))),(15,sb.v),(16,l.v)]) h) P:=by
 have hsub:=By.lt;have hlt:=A.lt;have B18lt:=B18.lt;rw[krb];have ln:sb.len=bs.length+1:=hsb.len;have hsh:=hsb.short;refine Runs.ifF (decide_eq_false (by omega)) ?_;obtain⟨r1,e1,e2⟩:=hsb.int (i:=0) (by simp);have e2':(h.cell r1).bind (AV.asInt .i64)=some (j:Int):=by rw[e2];simp[hb]
 obtain⟨r2,y2,e3,a0,a1,a2,a3,a4,a5,a6,a7,a8,B2⟩:=hL.spr hj;refine Runs.step e1 (Runs.step e2' (Runs.step e3 (Runs.step a0 (Runs.step a1 (Runs.step a2 (Runs.step a3 (Runs.step a4 (Runs.step a5 (Runs.step a6 (Runs.step a7 (Runs.step a8 ?_)))))))))));generalize hs:L[j].spl=s at *
 rw[hrow]at B2;refine Runs.new fun h1 b1 g1=>Runs.puts b1 rfl fun h2 b2 u2=>?_;have g02:Grow h h2:=g1.updr (Nat.le_refl _) u2;refine Runs.step (b2.rd 0 rfl rfl) (Runs.step (b2.rd 1 rfl (kb _ _)) (Runs.step (b2.rd 2 rfl (kb _ _)) (Runs.step (b2.rd 3 rfl (kb _ _)) (Runs.step (b2.rd 4 rfl (kb _ _)) (Runs.step (b2.rd 5 rfl (kb _ _)) (Runs.step (b2.rd 6 rfl (kb _ _)) ?_))))));refine Runs.new fun h3 b3 g3=>Runs.puts b3 rfl fun h4 b4 u4=>?_;have g24:Grow h2 h4:=g3.updr (Nat.le_refl _) u4;have g04:=g02.trans g24;have z2:=b2.lt;have z4:=b4.lt;have A4:=A.grow g04;obtain⟨nd,Bt,V⟩:=A4.tree;have lnd:nd.len=nodes.length:=V.len;refine Runs.step (Bt.rd 0 rfl (asSl_v _)) (Runs.step (Bt.rd 0 rfl (asSl_v _)) ?_);rw[lnd];have nall:∀{m:Nat},h.blks.size≤m→¬p.all m:=fun hm a=>by have:=hlt _ a;omega
 have tne:p.t≠h2.blks.size:=fun e=>by have:=hlt p.t (by simp[Pl.all]);have:=g02.size;omega
 refine Runs.putAt (o:=5) b4 (by simp) rfl fun h5 b5 u5=>?_;have Bt5:=Bt.updr tne u5;refine Runs.when (kvq Bt Bt5 0 1) ?_;rw[kq (by omega)];refine Runs.putAt (o:=6) b5 (by simp) rfl fun h6 b6 u6=>?_;have g46:Grow h2 h6:=((g3.updr (Nat.le_refl _) u4).updr (Nat.le_refl _) u5).updr (Nat.le_refl _) u6;have g06:=g02.trans g46;have A6:=A.grow g06;have B18':=g06.has B18;obtain⟨nd6,r6,h7,Bt6,e6,p7,u7,A7⟩:=A6.setn hpl (splitN s nodes.length (nodes.length+1));refine Runs.step (Bt6.rd 0 rfl (asSl_v _)) (Runs.step (B18'.rd 0 rfl (kb _ _)) (Runs.step (b6.rd 0 rfl rfl) (Runs.step (b6.rd 1 rfl (kb _ _)) (Runs.step (b6.rd 2 rfl (kb _ _)) (Runs.step (b6.rd 3 rfl (kb _ _)) (Runs.step (b6.rd 4 rfl (kb _ _)) (Runs.step (b6.rd 5 rfl (kb _ _)) (Runs.step (b6.rd 6 rfl (kb _ _)) (Runs.step e6 (Runs.step p7 ?_))))))))));have z6:=b6.lt;have z06:=g06.size;have z02:=g02.size;have nlt:=hlt p.n (by simp[Pl.all]);have b2':h7.has h.blks.size _ T.kd4:=(g46.has b2).updr (by omega) u7;have b6':h7.has h2.blks.size _ T.kb8:=b6.updr (by omega) u7;have B18'':=B18'.updr (fun e=>n18 (by subst e;simp[Pl.all])) u7;have m07:Md p.ch h h7:=(g06.md _).trans (u7.md (by simp[Pl.ch]));have By7:BitsAt h7 (fun j=>Sy j∧j<h.blks.size) z y x.rows:=(By.bound.grow g06).upd (fun k=>hSy _ k.1 (by simp[Pl.all])) u7;have B27:BitsAt h7 (fun j=>Sl' j∧j<h.blks.size) z y2 (x.rows.filter (leftS ts s)):=(B2.bound.grow g06).upd (fun k=>hSl _ k.1 (by simp[Pl.all])) u7;obtain⟨ok7,cfg7,res7,⟨nd7,Bt7,V7⟩,⟨S70,hS70,Q70⟩,sco7⟩:=A7
 obtain⟨S7,hS7,hS7b,Q7⟩:∃S:Fp,(∀m,S m→¬p.all m)∧(∀m,S m→m<h7.blks.size)∧QAt z p.q S q p.k h7:=by
  obtain⟨a,b,s',Bq,Vq⟩:=Q70;exact⟨fun j=>S70 j∧j<h7.blks.size,fun m k=>hS70 m k.1,fun m k=>k.2,a,fun k=>b k.1,s',Bq,Vq.bound⟩
 refine Runs.step (Bt7.rd 0 rfl (asSl_v _)) (Runs.new fun h8 b8 g8=>?_);refine Runs.step (kc2 (n:=2) b8 (by rw[k60];rfl)) ?_;have hset:(nodes.set x.place (splitN s nodes.length (nodes.length+1))).length=nodes.length:=List.length_set;obtain⟨nd9,h9,e9,V9,u9⟩:=(V7.grow g8).pushs (T:=Fp.no) (rows':=[Nd.no.cells,Nd.no.cells]) (ys:=[Nd.no,Nd.no]) (n:=2) (.cons rfl (.cons rfl .nil)) rfl (by decide) NotO.no (k4q (by omega));refine Runs.step e9 (Runs.step (asSl_v _) ?_);dsimp only;have u9:Upd h8 h9 p.n:=u9;have Bt9:=(g8.has Bt7).updr ok7.tn u9;refine Runs.putAt (o:=0) (cs':=[nd9.v]) Bt9 (by simp) rfl fun h10 B10 u10=>?_;have z7:=u7.size;have z8:=g8.size;have z9:=u9.size;have z10:=u10.size;have m710:Md (fun j=>j=p.n∨j=p.t) h7 h10:=((g8.md _).trans (u9.md (.inl rfl))).trans (u10.md (.inr rfl));have tlt:=hlt p.t (by simp[Pl.all]);have nold:∀{m:Nat},h.blks.size≤m→¬(m=p.n∨m=p.t):=fun hm a=>by omega
 have b2'':=m710.has b2' (nold (Nat.le_refl _));have b6'':=m710.has b6' (nold (by omega));have B18x:=m710.has B18'' fun e=>n18 (by rcases e with rfl | rfl<;>simp[Pl.all]);have By10:=By7.md m710 fun j a e=>hSy j a.1 (by rcases e with rfl | rfl<;>simp[Pl.all]);have B210:=B27.md m710 fun j a e=>hSl j a.1 (by rcases e with rfl | rfl<;>simp[Pl.all]);have m010:Md p.ch h h10:=m07.trans (m710.mono fun j _ e=>by rcases e with rfl | rfl<;>simp[Pl.ch]);have V10:GF Ef.nd T.kb8 h10 Fp.no nd9 (some h8.blks.size) (nodes.set x.place (splitN s nodes.length (nodes.length+1))++[Nd.no,Nd.no]):=(V9.mono (fun j k=>k.1.elim id id) Fp.not_no).upd u10 Fp.not_no fun k e=>by cases e;omega
 refine Runs.step (B18x.rd 2 rfl (kb _ _)) (Runs.step (B18x.rd 3 rfl (asSl_v _)) (Runs.step (b2''.rd 7 rfl (kb _ _)) (Runs.step (b2''.rd 8 rfl (asSl_v _)) ?_)));have By10':=By10;obtain⟨wy,Ny,ay,ry,ly⟩:=By10';have B210':=B210;obtain⟨w2,N2,ax2,rr2,l2⟩:=B210';refine(k4l Ny N2 ry rr2).call fun v h11 pp=>?_;obtain⟨g11,y3,er,T3,e,B3,hT3,o3⟩:=pp.bits;subst e
 have hrows:((btL (z:Int) wy).filter fun i=>!wbit w2 i)=x.rows.filter fun i=>!leftS ts s i:=by
  rw[ly];apply List.filter_congr;intro i hi;rw[k9r rr2 l2 (List.mem_range.1 (hsub.subset hi))];congr 1;rw[Bool.eq_iff_iff,decide_eq_true_eq,List.mem_filter];exact⟨fun h=>h.2,fun h=>⟨hi,h⟩⟩
 rw[hrows]at B3;refine Runs.step rfl (Runs.step rfl (Runs.ifT rfl (Runs.step rfl (Runs.step (seenAt rfl (asSl_v _)) (Runs.step rfl ?_)))));dsimp only;refine Runs.new fun h12 b12 g12=>Runs.puts b12 rfl fun h13 b13 u13=>?_;have g1113:Grow h11 h13:=g12.updr (Nat.le_refl _) u13;have g1013:=g11.trans g1113;have b2x:=g1013.has b2'';have b6x:=g1013.has b6'';have B18y:=g1013.has B18x;refine Runs.step (b6x.rd 5 rfl (kb _ _)) (Runs.step (B18y.rd 1 rfl (kb _ _)) (Runs.step (b2x.rd 7 rfl (kb _ _)) (Runs.step (b2x.rd 8 rfl (asSl_v _)) ?_)));rw[kq (i:=x.deep) (by omega)];have z11:=g11.size;have z13:=b13.lt;have klt:=hlt p.k (by simp[Pl.all]);have qlt:=hlt p.q (by simp[Pl.all]);have Q13:QAt z p.q S7 q p.k h13:=(Q7.md m710 (fun j a e=>hS7 j a (by rcases e with rfl | rfl<;>simp[Pl.all])) (by rintro (e | e);exact ok7.nk e.symm;exact ok7.tk e.symm) (by rintro (e | e);exact ok7.qn e;exact ok7.tq e.symm)).grow g1013
 have Q13:QAt z p.q (fun j=>S7 j∧j<h13.blks.size) q p.k h13:=by
  obtain⟨a,b,s',Bq,Vq⟩:=Q13;exact⟨a,fun k=>b k.1,s',Bq,Vq.bound⟩
 have B213:=B210.grow g1013;have By13:=By10.grow g1013;refine(kra Q13 (by omega) (x:=⟨nodes.length,x.deep+1,x.rows.filter (leftS ts s)⟩) B213 (fun k=>hSl _ k.1 (by simp[Pl.all])) (fun k=>hSl _ k.1 (by simp[Pl.all])) (fun w hw=>by have:=hqp w hw;unfold keyW;show(w.place:Int)≤(nodes.length:Int);omega)).call fun v h14 ⟨e,S14,k14,hS14,Q14,m14,hk14⟩=>?_;subst e;refine Runs.step rfl ?_;have nold2:∀{m:Nat},h.blks.size≤m→¬(m=p.k∨m=p.q):=fun hm a=>by omega
 have b6y:=m14.has b6x (nold2 (by omega));have B18z:=m14.has B18y fun e=>n18 (by rcases e with rfl | rfl<;>simp[Pl.all]);have b13':=m14.has b13 (nold2 (by omega));refine Runs.step (b6y.rd 6 rfl (kb _ _)) (Runs.step (B18z.rd 1 rfl (kb _ _)) (Runs.step (b13'.rd 0 rfl (kb _ _)) (Runs.step (b13'.rd 1 rfl (asSl_v _)) ?_)));rw[kq (i:=x.deep) (by omega)];have hT3':∀m,T3 m→h10.blks.size≤m:=hT3;have B3':BitsAt h13 (fun j=>T3 j∧j<h13.blks.size) z y3 (x.rows.filter fun i=>!leftS ts s i):=(B3.grow g1113).bound;have B314:=B3'.md m14 fun j a e=>by have:=hT3' j a.1;rcases e with rfl | rfl<;>omega
 have z14:=m14.size
 refine(kra Q14 (by rw[List.length_append];simp;omega) (x:=⟨nodes.length+1,x.deep+1,x.rows.filter fun i=>!leftS ts s i⟩) B314 (fun k=>by
  have:=hT3' _ k.1;rcases hk14 with e | e
  ·omega
  ·have:=k.2;omega) (fun k=>by have:=hT3' _ k.1;omega) (fun w hw=>by
  unfold keyW;show(w.place:Int)≤((nodes.length+1:Nat):Int);rcases List.mem_append.1 hw with hw | hw
  ·have:=hqp w hw;omega
  ·rw[List.mem_singleton.1 hw];show(nodes.length:Int)≤_;omega)).call fun v h15 ⟨e,S15,k15,hS15,Q15,m15,hk15⟩=>?_
 subst e;refine Runs.step rfl ?_;rw[List.append_assoc]at Q15;have hk14s:k14=p.k∨h13.blks.size≤k14:=hk14;have hk15s:k15=k14∨h14.blks.size≤k15:=hk15
 have hk:k15=p.k∨h13.blks.size≤k15:=by
  rcases hk15s with e | e
  ·rw[e];exact hk14s
  ·exact .inr (by omega)
 have q14lt:=Q14.lt.1
 have m1315:Md (fun j=>j=p.k∨j=p.q) h13 h15:=m14.next m15 fun j hj e=>by
  rcases e with rfl | rfl
  ·rcases hk14s with e | e
   ·exact .inl e
   ·omega
  ·exact .inr rfl
 have m1015:Md (fun j=>j=p.k∨j=p.q) h10 h15:=(g1013.md _).trans m1315;have clt:=hlt p.c (by simp[Pl.all]);have rlt:=hlt p.r (by simp[Pl.all]);have slt:=hlt p.s (by simp[Pl.all])
 have hok:Pl.ok ⟨p.c,p.r,p.t,p.q,p.s,h8.blks.size,k15⟩:=by
  obtain⟨o1,o2,o3',o4,o5,o6,o7,o8,o9,o10,o11,o12,o13,o14,o15,o16,o17,o18,o19,o20,o21⟩:=ok7
  have kk:∀{m:Nat},m<h.blks.size→m≠p.k→m≠k15:=fun h1 h2 e=>by
   rcases hk with e2 | e2
   ·exact h2 (e.trans e2)
   ·omega
  refine⟨o1,o2,o3',o4,by show p.c≠h8.blks.size;omega,kk clt o6,o7,o8,o9,by show p.r≠h8.blks.size;omega,kk rlt o11,o12,o13,by show p.t≠h8.blks.size;omega,kk tlt o15,o16,by show p.q≠h8.blks.size;omega,kk qlt o18,by show p.s≠h8.blks.size;omega,kk slt o20,?_⟩;show h8.blks.size≠k15;have:=V10.lt;have:h8.blks.size<h10.blks.size:=this;rcases hk with e2 | e2<;>omega
 have n8:h8.blks.size<h10.blks.size:=V10.lt;refine hP h15 ⟨p.c,p.r,p.t,p.q,p.s,h8.blks.size,k15⟩ rfl rfl rfl rfl rfl ?_ (.inr (by show h.blks.size≤h8.blks.size;omega)) (by rcases hk with e | e;exact .inl e;exact .inr (by show h.blks.size≤k15;omega)) ⟨hok,?_,?_,⟨nd9,?_,?_⟩,⟨S15,?_,Q15⟩,?_⟩
 ·exact m010.trans (m1015.mono fun j _ e=>by rcases e with rfl | rfl<;>simp[Pl.ch])
 ·exact m1015.has (m710.has cfg7 (by rintro (e | e);exact ok7.cn e;exact ok7.ct e)) (by rintro (e | e);exact ok7.ck e;exact ok7.cq e)
 ·exact m1015.has (m710.has res7 (by rintro (e | e);exact ok7.rn e;exact ok7.rt e)) (by rintro (e | e);exact ok7.rk e;exact ok7.rq e)
 ·exact m1015.has B10 (by rintro (e | e);exact ok7.tk e;exact ok7.tq e)
 ·have V15:GF Ef.nd T.kb8 h15 Fp.no nd9 (some h8.blks.size) (nodes.set x.place (splitN s nodes.length (nodes.length+1))++[Nd.no,Nd.no]):=GF.md m1015 (S:=Fp.no) (fun j a _=>a) V10 fun k e x=>by cases e;rcases x with e | e<;>omega
  exact V15
 ·intro m hm;have hb15:=Q15.2.1;obtain⟨-,-,s15,-,V15⟩:=Q15;have hn15:=V15.not
  have src:(S7 m∧m<h13.blks.size)∨(Sl' m∧m<h.blks.size)∨(T3 m∧m<h13.blks.size):=by
   rcases hS15 m hm with a | a
   ·rcases hS14 m a with a | a
    ·exact .inl a
    ·exact .inr (.inl a)
   ·exact .inr (.inr a)
  have nal:∀j,p.all j→j≠p.n→j≠p.k→m≠j:=fun j hj h1 h2 e=>by
   subst e;rcases src with a | a | a
   ·exact hS7 _ a.1 hj
   ·exact hSl _ a.1 hj
   ·have:=hT3' _ a.1;have:=hlt _ hj;omega
  rintro (e | e | e | e | e | e | e)
  ·exact nal p.c (by simp[Pl.all]) ok7.cn ok7.ck e
  ·exact nal p.r (by simp[Pl.all]) ok7.rn ok7.rk e
  ·exact nal p.t (by simp[Pl.all]) ok7.tn ok7.tk e
  ·exact nal p.q (by simp[Pl.all]) ok7.qn ok7.qk e
  ·exact nal p.s (by simp[Pl.all]) ok7.sn ok7.sk e
  ·have e:m=h8.blks.size:=e;subst e;rcases src with a | a | a
   ·have:=hS7b _ a.1;omega
   ·have:=a.2;omega
   ·have:=hT3' _ a.1;omega
  ·have e:m=k15:=e;subst e;exact hn15 hm
 ·exact GF.md m1015 (S:=Fp.no) (fun j a _=>a) (GF.md m710 (S:=Fp.no) (fun j a _=>a) sco7 fun k e x=>by cases e;rcases x with e | e;exact ok7.sn e;exact ok7.ts e.symm) fun k e x=>by cases e;rcases x with e | e;exact ok7.sk e;exact ok7.qs e.symm
end
end Go.Ab

/- squeezed -/
set_option maxRecDepth 10000
namespace Go.Ab
open Go.Proofs Go.Num Go.Heap
def GrowP(c:Cfg)(scs:Sl)(js:Nat)(hE:AH)(r:List Nd×List Int)(v:AV)(h':AH):Prop:=∃(nd:Sl)(jn:Nat),v=.agg [nd.v]∧hE.blks.size≤jn∧GF Ef.nd T.kb8 h' Fp.no nd (some jn) r.1∧GF EI T.int h' Fp.no scs (some js) r.2∧Md (fun j=>j=js) hE h'
section
variable{c:Cfg}{z D:Nat}{scs gs tsl:Sl}{g:List Int}{ts:List Tb}{hE:AH}{St Sg:Fp}
theorem k6t(T0:Tab hE)(hc:c.right=true)(hD:c.depth=(D:Int))(Q:Sq EI hE Sg gs g)(Qt:Sq Ef.tb hE St tsl ts){js:Nat}(hjs:js<hE.blks.size)(nSg:¬Sg js)(nSt:¬St js)(hg:g.length=z)(hz2:z≤256)(hp16:ts.length≤16)(hts:∀(p:Nat)(hp:p<ts.length),tabR ts[p]=true∧ts[p].ids.length=z) :
  ∀(n:Nat)(W q:List Wt)(nodes:List Nd)(sc:List Int)(p:Pl)(h:AH),GrowOk D n z W nodes→q.Perm W→IsHeap keyW q.length q→sc.length=z→GrAt c z scs p q nodes sc h→Md (fun j=>j=js) hE h→p.s=js→hE.blks.size≤p.c→hE.blks.size≤p.r→hE.blks.size≤p.t→hE.blks.size≤p.q→hE.blks.size≤p.n→hE.blks.size≤p.k→
  Runs (go (.pt F.kby Td.kfo [(1,tsl.v),(2,gs.v),(3,scs.v),(4,.ptr (some (.new p.c 0))),(8,.ptr (some (.new p.r 0))),(11,.ptr (some (.new p.t 0))),(12,.ptr (some (.new p.q 0)))]) h) (GrowP c scs js hE (growS c ts g n W nodes sc)):=by
 intro n
 induction n with
 | zero =>
  intro W q nodes sc p h ok hp hh hsc A M hs g1 g2 g3 g4 g5 g6
  have hW:W=[]:=by
   have:=muW_le ok.deep;have:=ok.mu;exact List.length_eq_zero_iff.1 (by omega)
  subst hW;obtain rfl:=hp.eq_nil;obtain⟨S,hS,-,-,s,Bq,Vq⟩:=A.que;rw[kte];refine Runs.step (Bq.rd0 rfl (asSl_v _)) (Runs.step (klb _ _) (Runs.step (seen rfl) ?_));dsimp only;have ln:s.len=0:=Vq.sq.len;rw[ln];refine Runs.ifF rfl ?_;obtain⟨nd,Bt,V⟩:=A.tree;refine Runs.step (Bt.rd 0 rfl (asSl_v _)) (Runs.puts A.res rfl fun h1 B1 u1=>?_);have nr:p.n≠p.r:=A.ok.rn.symm;have sr:p.s≠p.r:=A.ok.rs.symm;refine Runs.step (B1.rd 0 rfl (asSl_v _)) (Runs.ret ⟨nd,p.n,rfl,g5,V.upd u1 Fp.not_no fun k e=>by cases e;exact nr,?_,M.next (u1.md (T:=fun j=>j=p.r) rfl) fun j hj e=>by omega⟩);subst hs;exact A.sco.upd u1 Fp.not_no fun k e=>by cases e;exact sr
 | succ n ih =>
  intro W q nodes sc p h ok hp hh hsc A M hs g1 g2 g3 g4 g5 g6;have hw63:=ok.nodes63 (by have:=Cfg.right_depth hc;omega);obtain⟨S,hS,Qq⟩:=A.que;have Qq':=Qq;obtain⟨hkq,hbq,s,Bq,Vq⟩:=Qq';have ln:s.len=q.length:=Vq.sq.len;have hql:q.length=W.length:=hp.length_eq;rw[kte];refine Runs.step (Bq.rd0 rfl (asSl_v _)) (Runs.step (klb _ _) (Runs.step (seen rfl) ?_));dsimp only;rw[ln];cases W with
  | nil =>
   obtain rfl:=hp.eq_nil;refine Runs.ifF rfl ?_;obtain⟨nd,Bt,V⟩:=A.tree;refine Runs.step (Bt.rd 0 rfl (asSl_v _)) (Runs.puts A.res rfl fun h1 B1 u1=>?_);have nr:p.n≠p.r:=A.ok.rn.symm;have sr:p.s≠p.r:=A.ok.rs.symm;refine Runs.step (B1.rd 0 rfl (asSl_v _)) (Runs.ret ⟨nd,p.n,rfl,g5,V.upd u1 Fp.not_no fun k e=>by cases e;exact nr,?_,M.next (u1.md (T:=fun j=>j=p.r) rfl) fun j hj e=>by omega⟩);subst hs;exact A.sco.upd u1 Fp.not_no fun k e=>by cases e;exact sr
  | cons x W =>
   have hWl:=muW_le ok.deep;have hpl:=ok.first
   have hlW:(x::W).length≤63:=by
    have h1:=ok.size;have h2:=Cfg.right_depth hc;have h3:2^(D+1)≤2^6:=Nat.pow_le_pow_right (by decide) (by omega);have h4:=ok.place 0 (by simp);simp only[List.getElem_cons_zero]at h4;omega
   obtain⟨e0,ex,pp,hh'⟩:=k1q keyW hh (x:=x) (W:=W) (fun y hy=>by have:=ok.least y hy;unfold keyW;omega) hp;refine Runs.ifT (decide_eq_true (by simp at hql;omega)) ?_;refine(k8j Qq (by simp at hql;omega) (by omega) ex).call fun v h1 ⟨y,e,By,Q1,m1⟩=>?_;subst e;have hdl:=ok.deep x (by simp);have hd5:=Cfg.right_depth hc;have hsub:=ok.rows x (by simp);refine Runs.step rfl (Runs.ifT rfl (Runs.step rfl (Runs.ifT rfl (Runs.step rfl (Runs.step rfl (Runs.step rfl (Runs.step (seenAt rfl (asSl_v _)) ?_)))))))
   have A1:GrAt c z scs p (popL keyW q) nodes sc h1:=by
    obtain⟨o,cfg,res,⟨nd,Bt,V⟩,-,sco⟩:=A;exact⟨o,m1.has cfg (by rintro (e | e);exact o.ck e;exact o.cq e),m1.has res (by rintro (e | e);exact o.rk e;exact o.rq e),⟨nd,m1.has Bt (by rintro (e | e);exact o.tk e;exact o.tq e),GF.md m1 (S:=Fp.no) (fun j a _=>a) V fun k e x=>by cases e;rcases x with e | e;exact o.nk e;exact o.qn e.symm⟩,⟨S,hS,Q1⟩,GF.md m1 (S:=Fp.no) (fun j a _=>a) sco fun k e x=>by cases e;rcases x with e | e;exact o.sk e;exact o.qs e.symm⟩
   have M1:Md (fun j=>j=js) hE h1:=M.next m1 fun j hj e=>by rcases e with rfl | rfl<;>omega
   have hl1:=A1.lt;have hz1:=M1.size;refine Runs.new fun h2 b2 g12=>Runs.puts b2 rfl fun h3 b3 u3=>?_;have G13:Grow h1 h3:=g12.updr (Nat.le_refl _) u3;refine Runs.step (b3.rd 2 rfl (kb _ _)) (Runs.step (b3.rd 3 rfl (asSl_v _)) ?_);have dg:∀{T:Fp},(∀j,T j→j=js∨hE.blks.size≤j)→True:=fun _=>trivial;have Q3:Sq EI h3 Sg gs g:=(Q.md M1 fun j a e=>nSg (e▸a)).grow G13;have Qt3:Sq Ef.tb h3 St tsl ts:=(Qt.md M1 fun j a e=>nSt (e▸a)).grow G13;have T3:Tab h3:=(T0.md M1).grow G13;refine(kur T3 Q3 (By.grow G13) (by omega) (by omega)).call fun v h4 ⟨e,g34⟩=>?_;subst e;refine Runs.step rfl (Runs.ifT rfl (Runs.step rfl (Runs.step rfl ?_)));refine Runs.new fun h5 b5 g45=>Runs.puts b5 rfl fun h6 b6 u6=>?_;have G46:Grow h4 h6:=g45.updr (Nat.le_refl _) u6;have G36:Grow h3 h6:=g34.trans G46;have G16:Grow h1 h6:=G13.trans G36;have B18:=G36.has b3;have A6:=A1.grow G16;refine Runs.step (B18.rd 1 rfl (kb _ _)) (Runs.step (A6.cfg.rd 1 rfl (kb _ _)) ?_);have n18:¬p.all h1.blks.size:=fun a=>by have:=hl1 _ a;omega
   have By6:=(By.grow G16);have M6:Md (fun j=>j=js) hE h6:=M1.thenG G16;have least:=ok.least
   have leafCase:∀{sb l:Sl}{h7:AH}{b26:Nat},Grow h6 h7→h7.has b26 [.int .i64 (sumR g x.rows).1,.int .i64 (sumR g x.rows).2] T.kbc→bestS c ts g x=[]→sb.len=0→Runs (go (.pt F.kby Td.khz [(1,tsl.v),(2,gs.v),(3,scs.v),(4,.ptr (some (.new p.c 0))),(8,.ptr (some (.new p.r 0))),(11,.ptr (some (.new p.t 0))),(12,.ptr (some (.new p.q 0))),(13,.ptr (some (.new h1.blks.size 0))),(14,.ptr (some (.new b26 0))),(15,sb.v),(16,l.v)]) h7) (GrowP c scs js hE (growS c ts g (n+1) (x::W) nodes sc)):=by
    intro sb l h7 b26 G67 B26 hbest hsb;have A7:=A6.grow G67;refine ky7 ((T0.md M6).grow G67) A7 n18 (G67.has B18) B26 (By6.grow G67) hS hpl hsc (by omega) hsb fun h' m A'=>?_
    have:growS c ts g (n+1) (x::W) nodes sc=growS c ts g n W (nodes.set x.place (leafN (kd0 c (sumR g x.rows)))) (addS (kd0 c (sumR g x.rows)) x.rows sc):=by
     rw[growS,hbest]
    rw[this];refine ih W (popL keyW q) _ _ p h' (ok.leaf _) pp hh' (by rw[kps];exact hsc) A' ((M6.thenG G67).next m fun j hj e=>?_) hs g1 g2 g3 g4 g5 g6;rcases e with rfl | rfl | rfl | rfl | rfl | rfl<;>omega
   refine Runs.cond (fun hdp=>?_) fun hdp=>?_
   ·rw[decide_eq_true_eq]at hdp;refine Runs.step (B18.rd 2 rfl (kb _ _)) (Runs.step (B18.rd 3 rfl (asSl_v _)) ?_);refine(k2n ((T0.md M6)) (Q3.grow G36) By6 (by omega) hz2 hp16 (Qt3.grow G36) hts).call fun v h7 ⟨G67,l,sl,Sl',Ss,e,VL,VS,hSl⟩=>?_;subst e;refine Runs.step rfl (Runs.step (seen (asSl_v _)) (Runs.step (seen (asSl_v _)) ?_));have A7:=A6.grow G67;have b26:=G67.has b6;refine Runs.step (A7.cfg.rd 2 rfl (kb _ _)) (Runs.step (A7.cfg.rd 3 rfl (kb _ _)) (Runs.step (b26.rd 0 rfl (kb _ _)) (Runs.step (b26.rd 1 rfl (kb _ _)) ?_)));refine(k0m (xs:=sumsS ts g x.rows) (VS.mono fun _ _=>trivial) c.lambda c.gamma (sumR g x.rows).1 (sumR g x.rows).2).call fun v h8 ⟨sb,e,Vb,G78⟩=>?_;subst e;refine Runs.step rfl (Runs.step (seen (asSl_v _)) (Runs.step (seen (kb _ _)) ?_))
    have hbest:bestS c ts g x=(bestF c.lambda c.gamma (sumR g x.rows).1 (sumR g x.rows).2 (sumsS ts g x.rows)).1:=by
     unfold bestS;rw[if_pos hdp]
    rw[← hbest]at Vb;cases hbb:bestS c ts g x with
    | nil =>
     rw[hbb]at Vb;exact leafCase (G67.trans G78) (G78.has b26) hbb Vb.len
    | cons b bs =>
     rw[hbb]at Vb;obtain⟨j,hj,hjl⟩:=k61 (c:=c) (ts:=ts) (g:=g) (x:=x) b (by rw[hbb];simp);have hjL:j<((kbw ts).map fun s=>(⟨s,x.rows.filter (leftS ts s)⟩:SpR)).length:=by rw[List.length_map];exact hjl
     have hget:((kbw ts).map fun s=>(⟨s,x.rows.filter (leftS ts s)⟩:SpR))[j]=⟨(kbw ts)[j],x.rows.filter (leftS ts (kbw ts)[j])⟩:=by rw[List.getElem_map]
     have hgs:(kbw ts).getD b.toNat (0,0,0)=(kbw ts)[j]:=by rw[hj];simp[List.getD,hjl]
     have z67:=G67.size;have z16:=G16.size;have A8:=A7.grow G78;refine k1c (ts:=ts) ((T0.md M6).grow (G67.trans G78)) A8 n18 ((G67.trans G78).has B18) ((By6.grow G67).grow G78) hS hpl hw63 (by rw[pp.length_eq];simp at hlW;omega) (by omega) hz2 (fun w hw=>ok.below w (List.mem_cons_of_mem _ (pp.mem_iff.1 hw))) Vb (VL.grow G78) (fun m hm a=>by have:=hSl m hm;have:=hl1 _ a;omega) hj hjL (by rw[hget]) fun h' p' e1 e2 e3 e4 e5 m hn' hk' A'=>?_;rw[hget]at A';have hx:x.deep<D:=by omega
     have hgrow:growS c ts g (n+1) (x::W) nodes sc=growS c ts g n (W++kidsS ts x (kbw ts)[j] nodes.length) (nodes.set x.place (splitN (kbw ts)[j] nodes.length (nodes.length+1))++[Nd.no,Nd.no]) sc:=by
      rw[growS,hbb];dsimp only;rw[hgs]
     rw[hgrow,← e1,← e2,← e3,← e4]
     have hkey:∀w∈popL keyW q,keyW w≤keyW ⟨nodes.length,x.deep+1,x.rows.filter (leftS ts (kbw ts)[j])⟩:=fun w hw=>by
      have:=ok.below w (List.mem_cons_of_mem _ (pp.mem_iff.1 hw));unfold keyW;show(w.place:Int)≤(nodes.length:Int);omega
     have hheap:IsHeap keyW (popL keyW q++kidsS ts x (kbw ts)[j] nodes.length).length (popL keyW q++kidsS ts x (kbw ts)[j] nodes.length):=by
      have h1:=kuw keyW hh' hkey
      have h2:=kuw keyW h1 (y:=⟨nodes.length+1,x.deep+1,x.rows.filter fun i=>!leftS ts (kbw ts)[j] i⟩) fun w hw=>by
       rcases List.mem_append.1 hw with hw | hw
       ·have:=hkey w hw;unfold keyW at this⊢;have this:(w.place:Int)≤(nodes.length:Int):=this;show(w.place:Int)≤((nodes.length+1:Nat):Int);omega
       ·rw[List.mem_singleton.1 hw];unfold keyW;show(nodes.length:Int)≤((nodes.length+1:Nat):Int);omega
      rw[List.append_assoc]at h2;exact h2
     have z78:=G78.size;have z8:hE.blks.size≤h8.blks.size:=by omega
     refine ih _ _ _ sc p' h' (ok.split hx ts _ _) (pp.append (List.Perm.refl _)) hheap hsc A' ((M6.thenG (G67.trans G78)).next m fun j hj e=>?_) (e5.trans hs) (by omega) (by omega) (by omega) (by omega) (by rcases hn' with e | e<;>omega) (by rcases hk' with e | e<;>omega);rcases e with rfl | rfl | rfl | rfl | rfl | rfl<;>omega
   ·rw[decide_eq_false_iff_not]at hdp;exact leafCase (Grow.refl _) b6 (by unfold bestS;rw[if_neg hdp]) rfl
theorem ko9{c:Cfg}{ts:List Tb}{g:List Int}{D N:Nat}(hD:c.depth=(D:Int)):∀(n m:Nat)(W:List Wt)(nodes:List Nd)(sc:List Int),n≤m→GrowOk D n N W nodes→growS c ts g n W nodes sc=growS c ts g m W nodes sc
 | 0,m,W,nodes,sc,_,ok=>by
  have hW:W=[]:=by
   have:=muW_le ok.deep;have:=ok.mu;exact List.length_eq_zero_iff.1 (by omega)
  subst hW;cases m<;>rfl
 | n+1,0,W,nodes,sc,h,ok=>by omega
 | n+1,m+1,[],nodes,sc,h,ok=>rfl
 | n+1,m+1,x::W,nodes,sc,h,ok=>by
  rw[growS,growS];cases hb:bestS c ts g x with
  | nil=>exact ko9 hD n m W _ _ (by omega) (ok.leaf _)
  | cons b bs =>
   have:=kbb1 hb;exact ko9 hD n m _ _ sc (by omega) (ok.split (by omega) ts _ _)
theorem k1b(T0:Tab hE)(hc:c.right=true)(Q:Sq EI hE Sg gs g)(Qt:Sq Ef.tb hE St tsl ts){js:Nat}{sc:List Int}(V:GF EI T.int hE Fp.no scs (some js) sc)(nSg:¬Sg js)(nSt:¬St js)(hg:g.length=z)(hsc:sc.length=z)(hz2:z≤256)(hp16:ts.length≤16)(hts:∀(p:Nat)(hp:p<ts.length),tabR ts[p]=true∧ts[p].ids.length=z) :
  Runs (go (.fn F.kby [.agg c.cells,tsl.v,gs.v,scs.v]) hE) (GrowP c scs js hE (growS c ts g 64 [firstW z] [Nd.no] sc)):=by
 have hd:=Cfg.right_depth hc;obtain⟨D,hD⟩:∃D:Nat,c.depth=(D:Int):=⟨c.depth.toNat,by omega⟩;have hjs:js<hE.blks.size:=V.lt;unfold Cfg.cells;rw[kbal];refine Runs.new fun h1 b1 g1=>Runs.new fun h2 b2 g2=>?_;rw[Q.len,hg];refine(k0w (n:=z) (by omega)).call fun v h3 pp=>?_;obtain⟨g3,t3,e3,S3,e,B3,hS3,o3⟩:=pp.bits;subst e;refine Runs.step rfl (Runs.step rfl (Runs.ifT rfl (Runs.step rfl (Runs.step (seenAt rfl (asSl_v _)) (Runs.step rfl ?_)))));dsimp only;refine Runs.new fun h4 b4 g4=>Runs.puts b4 rfl fun h5 b5 u5=>?_;have G35:Grow h3 h5:=g4.updr (Nat.le_refl _) u5;obtain⟨h6,e6,g6,V6⟩:=GF.mk (E:=Ef.nd) (elem:=T.kb8) (S:=Fp.no) (h:=h5) (n:=1) (bytes:=Pg.bytesOf T.kb8) (l:=1) (c:=1) (cs:=Nd.no.cells) (x:=Nd.no) (fun h'=>rfl) Fp.not_no rfl rfl (by rw[kt4];decide) (by decide);refine Runs.step e6 ?_;dsimp only;refine Runs.new fun h7 b7 g7=>Runs.puts b7 rfl fun h8 b8 u8=>?_;have G68:Grow h6 h8:=g7.updr (Nat.le_refl _) u8;have b5':=(g6.trans G68).has b5;refine Runs.step (b5'.rd 0 rfl (kb _ _)) (Runs.step (b5'.rd 1 rfl (asSl_v _)) (Runs.new fun h9 b9 g9=>Runs.new fun h10 b10 g10=>?_));have z1:=b1.lt;have z2:=b2.lt;have z3:=g3.size;have z4:=b4.lt;have z5:=b5.lt;have z6:=V6.lt;have z6':h5.blks.size<h6.blks.size:=z6;have z8:=b8.lt;have z9:=b9.lt;have z10:=b10.lt;have G26:Grow h2 h6:=(g3.trans G35).trans g6;have G610:Grow h6 h10:=(G68.trans g9).trans g10;have G510:Grow h5 h10:=g6.trans G610;have GE:Grow hE h10:=((g1.trans g2).trans G26).trans G610;have B310:BitsAt h10 (fun j=>S3 j∧j<h3.blks.size) z t3 (List.range z):=((B3.bound.grow G35).grow G510);have zE1:=g1.size;have zE2:=g2.size;have z35:=G35.size;have z68:=G68.size;have z810:=g9.size
 have A:GrAt c z scs ⟨hE.blks.size,h1.blks.size,h6.blks.size,h9.blks.size,js,h5.blks.size,h8.blks.size⟩ [firstW z] [Nd.no] sc h10:=by
  refine⟨⟨?_,?_,?_,?_,?_,?_,?_,?_,?_,?_,?_,?_,?_,?_,?_,?_,?_,?_,?_,?_,?_⟩,(((g2.trans G26).trans G610).has b1),((G26.trans G610).has b2),⟨_,(g9.trans g10).has b8,V6.grow G610⟩,⟨fun j=>S3 j∧j<h3.blks.size,?_,?_,?_,_,b10,?_⟩,V.grow GE⟩
  all_goals first
   | (dsimp only;omega)
   | skip
  ·intro m hm a;have h1:=hS3 m hm.1;have h2:=hm.2;unfold Pl.all at a;dsimp only at a;omega
  ·refine GQ.lit (rows:=[[.int .i64 0,.int .i64 0,.int .i64 (z:Int),t3.v]]) (e:=T.kbf) (g10.has b9) (.cons ⟨t3,rfl,B310⟩ .nil) ?_ rfl;intro hm;have h2:=hm.2;omega
 have ok:GrowOk D (2^(D+1)-1) z [firstW z] [Nd.no]:=GrowOk.start
 have h64:2^(D+1)-1≤64:=by
  have:2^(D+1)≤2^6:=Nat.pow_le_pow_right (by decide) (by omega);omega
 rw[← ko9 hD _ 64 [firstW z] [Nd.no] sc h64 ok];exact k6t T0 hc hD Q Qt hjs nSg nSt hg hz2 hp16 hts _ [firstW z] [firstW z] [Nd.no] sc _ h10 ok (List.Perm.refl _) (fun k k0 kn=>by simp at kn;omega) hsc A (GE.md _) rfl (Nat.le_refl _) (by dsimp only;omega) (by dsimp only;omega) (by dsimp only;omega) (by dsimp only;omega) (by dsimp only;omega)
end
end Go.Ab

/- squeezed -/
set_option maxRecDepth 10000
namespace Go.Ab
open Go.Proofs Go.Num Go.Heap
theorem Md.same{h h':AH}{T:Fp}(m:Md T h h'){i:Nat}{cs:List AV}{e:TypeId}(b:h.has i cs e)(n:¬T i)(o k:Nat):SameAt h h' (.new i o) k:=⟨fun j _=>by
 rw[Ref.add_new];simp only[AH.cell,m.blk i b.lt n],fun _=>m.blk i b.lt n⟩
theorem k5n{n:Nat}(h:n≤1000000):growOk Pg n T.kch 1=true:=by
 unfold growOk;rw[k4r,kys];have h1:n*24≤ki:=by simp only[ki];omega
 have h2:n≤ki:=by simp only[ki];omega
 simp[h1,h2]
section
variable{h0:AH}{S S':Fp}{s t:Sl}
theorem k1a{xs ys:List Int}(n:Sq EI h0 S s xs)(m:Sq EI h0 S' t ys)(hl:xs.length=ys.length):∀(k i:Nat),i+k=xs.length→
  go (.pt F.kgz Td.km2 [(0,s.v),(1,t.v),(12,.int .i64 (xs.length:Int)),(13,.int .i64 (i:Int))]) h0=some (.bool (decide (xs.drop i=ys.drop i)),h0):=by
 intro k
 induction k with
 | zero =>
  intro i hi;rw[kr6,condF (decide_eq_false (by omega)),List.drop_of_length_le (by omega),List.drop_of_length_le (by omega)];rfl
 | succ k ih =>
  intro i hi;have h1:i<xs.length:=by omega
  have h2:i<ys.length:=by omega
  obtain⟨r,e1,e2⟩:=n.int h1;obtain⟨q,e3,e4⟩:=m.int h2;rw[kr6,e1,e3,condT (decide_eq_true (by omega))];simp only[Option.bind_some,e2,e4];by_cases c:xs[i]=ys[i]
  ·rw[condF (by rw[decide_eq_true c];rfl),kq (by have:=n.short;omega),ih (i+1) (by omega),List.drop_eq_getElem_cons h1,List.drop_eq_getElem_cons h2];rw[decide_eq_decide.2 (show xs.drop (i+1)=ys.drop (i+1)↔xs[i]::xs.drop (i+1)=ys[i]::ys.drop (i+1)from⟨fun e=>by rw[c,e],fun e=>(List.cons.inj e).2⟩)]
  ·rw[condT (by rw[decide_eq_false c];rfl),List.drop_eq_getElem_cons h1,List.drop_eq_getElem_cons h2,decide_eq_false (fun e=>c (List.cons.inj e).1)]
theorem k1g{xs ys:List Int}(n:Sq EI h0 S s xs)(m:Sq EI h0 S' t ys):go (.fn F.kgz [s.v,t.v]) h0=some (.bool (decide (xs=ys)),h0):=by
 rw[k5a,n.len,m.len];by_cases c:xs.length=ys.length
 ·rw[condF (by rw[decide_eq_true (by omega)];rfl)];exact k1a n m c xs.length 0 (by omega)
 ·rw[condT (by rw[decide_eq_false (by omega)];rfl),decide_eq_false (fun e=>c (by rw[e]))]
theorem k5x{xs:List Int}(n:Sq EI h0 S s xs):Runs (go (.fn F.kdi [s.v,.func (.func F.kdb) [] []]) h0) fun v h'=>v=.bool (oddL xs)∧Grow h0 h':=by
 rw[kxk];refine Runs.contains (xs:=xs) ?_;rw[k0g,n.len];refine kkx (n:=xs.length) (G:=fun z h=>go (.pt F.kbo Td.kck [(0,s.v),(1,.func (.func F.kdb) [] []),(7,.int .i64 (xs.length:Int)),(8,.int .i64 z)]) h) (fun i h P hi g hT hF=>?_) (fun h g=>?_) xs.length 0 (by omega) (Grow.refl h0) (fun j hj=>by omega)
 ·obtain⟨r,e1,e2⟩:=(n.grow g).int hi;rw[List.getElem?_eq_getElem hi]at hT hF;simp only[Option.any_some]at hT hF;show Runs (go _ _) _;rw[ks5];refine Runs.ifT (decide_eq_true (by omega)) (Runs.step e1 (Runs.step e2 ?_))
  have key:go (.fn F.kdb [.int .i64 xs[i]]) h=some (.bool (decide (xs[i] < -1048576)||decide (xs[i]>1048576)),h):=by
   rw[k3m];cases decide (xs[i] < -1048576)<;>rfl
  refine Runs.step key (Runs.step (seen rfl) ?_);rw[kq (by have:=n.short;omega)];exact Runs.cond (fun c=>Runs.ret (hT h g c)) fun c=>hF h g c
 ·rw[ks5,condF (decide_eq_false (by omega))]
end
section
variable{c:Cfg}{scs ls tsl:Sl}{labels:List Int}{ts:List Tb}{hE:AH}{St SL:Fp}
theorem kyv(Qt:Sq Ef.tb hE St tsl ts)(Q:Sq EI hE SL ls labels)(h16:ts.length≤16)(hp:0<ts.length):∀(k i:Nat),i+k=ts.length→∀{h:AH},Grow hE h→
  Runs (go (.pt F.kf0 Td.kko [(1,tsl.v),(2,ls.v),(23,tsl.v),(24,.int .i64 (ts.length:Int)),(25,.int .i64 (i:Int))]) h) fun v h'=>v=.int .i64 (if((ts.drop i).any fun t=>!tabR t||(!decide (t.ids=(ts.getD 0 Tb.no).ids)||decide (t.ids.length=0)))=true then 20 else if labels.length≠(ts.getD 0 Tb.no).ids.length then 1 else if oddL labels then 1 else 0)∧Grow hE h':=by
 have hg0:ts.getD 0 Tb.no=ts[0]:=by simp[List.getD,hp]
 rw[hg0];intro k
 induction k with
 | zero =>
  intro i hi h g;rw[kre,List.drop_of_length_le (by omega)];refine Runs.ifF (decide_eq_false (by omega)) ?_;obtain⟨r,s1,s2,s3,e,c1,c2,c3,n⟩:=(Qt.grow g).tb hp;refine Runs.step e (Runs.step c1 ?_);rw[(Q.grow g).len,n.ids.len];refine Runs.cond (fun a=>Runs.ret ⟨?_,g⟩) fun a=>?_
  ·have:labels.length≠ts[0].ids.length:=by
    intro e;rw[e,decide_eq_true rfl]at a;cases a
   simp[this]
  ·have:labels.length=ts[0].ids.length:=by
    rw[Bool.not_eq_false',decide_eq_true_eq]at a;omega
   refine(k5x (Q.grow g)).call fun v h1 ⟨ev,g1⟩=>?_;subst ev;refine Runs.step (seen rfl) (Runs.cond (fun b=>Runs.ret ⟨?_,g.trans g1⟩) fun b=>Runs.ret ⟨?_,g.trans g1⟩)
   ·simp[this,b]
   ·simp[this,b]
 | succ k ih =>
  intro i hi h g;have hlt:i<ts.length:=by omega
  obtain⟨r,s1,s2,s3,e,c1,c2,c3,n⟩:=(Qt.grow g).tb hlt;obtain⟨r0,t1,t2,t3,e0,d1,d2,d3,n0⟩:=(Qt.grow g).tb hp;rw[kre,List.drop_eq_getElem_cons hlt,List.any_cons];refine Runs.ifT (decide_eq_true (by omega)) (Runs.step e (Runs.step c1 (Runs.step c2 (Runs.step c3 (Runs.new fun h1 b1 g1=>Runs.puts b1 rfl fun h2 b2 u2=>?_)))));have G2:Grow h h2:=g1.updr (Nat.le_refl _) u2;refine Runs.step (b2.rd 0 rfl (asSl_v _)) (Runs.step (b2.rd 1 rfl (asSl_v _)) (Runs.step (b2.rd 2 rfl (asSl_v _)) ?_));refine(kt5 (n.grow G2)).call fun v h3 ⟨ev,g3⟩=>?_;subst ev;have G3:=G2.trans g3;refine Runs.step (seen rfl) (Runs.cond (fun a=>Runs.ret ⟨?_,g.trans G3⟩) fun a=>?_)
  ·rw[Bool.not_eq_true']at a;simp[a]
  rw[Bool.not_eq_false']at a;obtain⟨r0,t1,t2,t3,e0,d1,d2,d3,n0⟩:=(Qt.grow (g.trans G3)).tb hp;refine Runs.step ((g3.has b2).rd 0 rfl (asSl_v _)) (Runs.step e0 (Runs.step d1 ?_));refine Runs.step (k1g (n.grow G3).ids n0.ids) (Runs.step (seen rfl) (Runs.cond (fun b=>Runs.ret ⟨?_,g.trans G3⟩) fun b=>?_))
  ·rw[Bool.not_eq_true']at b;simp[b]
  rw[Bool.not_eq_false']at b;refine Runs.step ((g3.has b2).rd 0 rfl (asSl_v _)) ?_;rw[n.ids.len];refine Runs.cond (fun d=>Runs.ret ⟨?_,g.trans G3⟩) fun d=>?_
  ·have:ts[i].ids.length=0:=by
    have:=of_decide_eq_true d;omega
   simp[this]
  rw[kq (by omega)]
  have hne:decide (ts[i].ids.length=0)=false:=by
   have:=of_decide_eq_false d;exact decide_eq_false (by omega)
  rw[a,b,hne];exact ih (i+1) (by omega) (g.trans G3)
theorem k52(Qt:Sq Ef.tb hE St tsl ts)(Q:Sq EI hE SL ls labels):Runs (go (.fn F.kf0 [.agg c.cells,tsl.v,ls.v]) hE) fun v h'=>v=.int .i64 (faultC c ts labels)∧Grow hE h':=by
 unfold Cfg.cells;rw[k1h];refine Runs.new fun h1 b1 g1=>?_;refine Runs.step (b1.rd 0 rfl (kb _ _)) (Runs.step (b1.rd 1 rfl (kb _ _)) (Runs.step (b1.rd 2 rfl (kb _ _)) (Runs.step (b1.rd 3 rfl (kb _ _)) (Runs.step (b1.rd 4 rfl (kb _ _)) (Runs.step (b1.rd 5 rfl (kb _ _)) (Runs.step (b1.rd 6 rfl (kb _ _)) (Runs.step (b1.rd 7 rfl (kb _ _)) ?_)))))));obtain⟨h2,e2,g2⟩:=kp7 c h1;have G:=g1.trans g2;refine Runs.step e2 (Runs.step (seen rfl) ?_);rw[Qt.len];unfold faultC;refine Runs.cond (fun a=>Runs.ret ⟨by simp[a],G⟩) fun a=>?_;rw[if_neg (by simp[a])];refine Runs.cond (fun b=>Runs.ret ⟨?_,G⟩) fun b=>?_
 ·have:ts.length=0:=by have:=of_decide_eq_true b;omega
  simp[this]
 have hb:¬ts.length=0:=by have:=of_decide_eq_false b;omega
 rw[if_neg hb];refine Runs.cond (fun d=>Runs.ret ⟨?_,G⟩) fun d=>?_
 ·have:ts.length>16:=by have:=of_decide_eq_true d;omega
  simp[this]
 have hd:¬ts.length>16:=by have:=of_decide_eq_false d;omega
 rw[if_neg hd];have:=kyv Qt Q (by omega) (by omega) ts.length 0 (by omega) G;rw[List.drop_zero]at this;exact this
theorem kof(c:Cfg)(ts:List Tb)(g:List Int):∀(n:Nat)(W:List Wt)(nodes:List Nd)(sc:List Int),(growS c ts g n W nodes sc).2.length=sc.length
 | 0,W,nodes,sc=>rfl
 | n+1,[],nodes,sc=>rfl
 | n+1,x::W,nodes,sc=>by
  rw[growS];cases bestS c ts g x with
  | nil=>exact(kof c ts g n W _ _).trans (kps _ _ _)
  | cons b bs=>exact kof c ts g n _ _ sc
theorem kr0(c:Cfg)(sc labels:List Int):(gradS c sc labels).length=labels.length:=by simp[gradS]
theorem kbay{hB:AH}{sc:List Int}{gsl:Sl}{jg js kc kr km:Nat}{tr i0:Int}(Q:Sq EI hB SL ls labels)(B:hB.has kc c.cells T.kb0)(V:GF EI T.int hB Fp.no scs (some js) sc)(hsc:sc.length=labels.length)(hL:labels.length≤256)(nL:¬SL jg)(hk:kc≠jg)(hj:js≠jg){P:AV→AH→Prop}
  (H:∀h',Md (fun j=>j=jg) hB h'→GF EI T.int h' Fp.no gsl (some jg) (gradS c sc labels)→Runs (go (.pt F.kcl Td.kjf [(1,tsl.v),(2,ls.v),(3,.ptr (some (.new kc 0))),(6,.ptr (some (.new kr 0))),(9,scs.v),(10,.ptr (some (.new km 0))),(11,gsl.v),(26,.int .i64 tr),(27,.int .i64 i0),(32,ls.v),(33,.int .i64 (labels.length:Int)),(34,.int .i64 (labels.length:Int))]) h') P) :
  ∀(k i:Nat),i+k=labels.length→∀{h:AH},Md (fun j=>j=jg) hB h→GF EI T.int h Fp.no gsl (some jg) ((gradS c sc labels).take i++List.replicate k 0)→
  Runs (go (.pt F.kcl Td.kjf [(1,tsl.v),(2,ls.v),(3,.ptr (some (.new kc 0))),(6,.ptr (some (.new kr 0))),(9,scs.v),(10,.ptr (some (.new km 0))),(11,gsl.v),(26,.int .i64 tr),(27,.int .i64 i0),(32,ls.v),(33,.int .i64 (labels.length:Int)),(34,.int .i64 (i:Int))]) h) P:=by
 have hgl:=kr0 c sc labels;intro k
 induction k with
 | zero =>
  intro i hi h m v;obtain rfl:i=labels.length:=by omega
  rw[List.take_of_length_le (by omega)]at v;exact H h m (by simpa using v)
 | succ k ih =>
  intro i hi h m v;have hlt:i<labels.length:=by omega
  have hls:i<sc.length:=by omega
  have Q1:=Q.md m fun j a e=>nL (e▸a);have B1:=m.has B hk;have V1:=GF.md m (S:=Fp.no) (fun j a _=>a) V fun k e=>by cases e;exact hj
  obtain⟨r,e1,e2⟩:=Q1.int hlt;obtain⟨r2,e3,e4⟩:=V1.sq.int hls;rw[ksj];refine Runs.ifT (decide_eq_true (by omega)) (Runs.step e1 (Runs.step e2 ?_));refine Runs.step (B1.rd 0 rfl (kb _ _)) (Runs.step (B1.rd 1 rfl (kb _ _)) (Runs.step (B1.rd 2 rfl (kb _ _)) (Runs.step (B1.rd 3 rfl (kb _ _)) (Runs.step (B1.rd 4 rfl (kb _ _)) (Runs.step (B1.rd 5 rfl (kb _ _)) (Runs.step (B1.rd 6 rfl (kb _ _)) (Runs.step (B1.rd 7 rfl (kb _ _)) ?_)))))));refine Runs.step e3 (Runs.step e4 ?_);obtain⟨h1,e5,g1⟩:=k07 c sc[i] labels[i] h;refine Runs.step e5 (Runs.step rfl (Runs.step (seen (kb _ _)) (Runs.step (seen (kb _ _)) ?_)));have v1:=v.grow g1;have hvl:((gradS c sc labels).take i++List.replicate (k+1) 0).length=labels.length:=by simp;omega
  obtain⟨r3,h2,e6,p6,V2,u2⟩:=v1.set (T:=Fp.no) (x:=(c.grad sc[i] labels[i]).1) (show EI.has h1 Fp.no [.int .i64 (c.grad sc[i] labels[i]).1] _ from rfl) Fp.not_no (kbd (show i<_ by rw[hvl];exact hlt));rw[← v1.len]at e6;have u2:Upd h1 h2 jg:=u2;refine Runs.step e6 (Runs.step p6 ?_);rw[kq (by omega)];refine ih (i+1) (by omega) ((m.thenG g1).trans (u2.md rfl)) ?_
  have hset:((gradS c sc labels).take i++List.replicate (k+1) 0).set i (c.grad sc[i] labels[i]).1=(gradS c sc labels).take (i+1)++List.replicate k 0:=by
   have hti:((gradS c sc labels).take i).length=i:=by simp;omega
   rw[List.set_append_right _ _ (by omega),hti,Nat.sub_self,List.replicate_succ,List.set_cons_zero,List.take_succ_eq_append_getElem (by omega),List.append_assoc];congr 1;simp[gradS,List.getD,hls,hlt]
  rw[← hset];exact V2.mono (fun j x=>x.elim id id) Fp.not_no
def TrainP(hE:AH)(m:List (List Nd))(e:Int)(v:AV)(h':AH):Prop:=∃s:Sl,v=.tup [.agg [s.v],.int .i64 e]∧Sq EM h' Fp.all s m∧Grow hE h'
theorem k99(T0:Tab hE)(hf:faultC c ts labels=0)(Qt:Sq Ef.tb hE St tsl ts)(Q:Sq EI hE SL ls labels){kc kr km js:Nat}(hc0:hE.blks.size≤kc)(hr0:hE.blks.size≤kr)(hm0:hE.blks.size≤km)(hj0:hE.blks.size≤js)(ncm:kc≠km)(ncr:kc≠kr)(nrm:kr≠km)(ncj:kc≠js)(nrj:kr≠js)(nmj:km≠js) :
  ∀(k i:Nat),i+k=c.trees.toNat→∀(m:List (List Nd))(sc:List Int)(l x:Sl)(jm:Option Nat)(S:Fp)(h:AH),m.length=i→sc.length=labels.length→Md Fp.no hE h→h.has kc c.cells T.kb0→h.has kr [x.v] T.kcz→h.has km [l.v] T.kcz→GF EM T.kch h S l jm m→(∀j,S j∨jm=some j→hE.blks.size≤j∧j≠kc∧j≠kr∧j≠km∧j≠js)→GF EI T.int h Fp.no scs (some js) sc→
  Runs (go (.pt F.kcl Td.km1 [(1,tsl.v),(2,ls.v),(3,.ptr (some (.new kc 0))),(6,.ptr (some (.new kr 0))),(9,scs.v),(10,.ptr (some (.new km 0))),(26,.int .i64 c.trees),(27,.int .i64 (i:Int))]) h) (TrainP hE (trainS c ts labels k m sc).1 0):=by
 obtain⟨hc,hts0,h16,hbad,hll,hodd⟩:=kip hf;have hd:=Cfg.right_depth hc;have hp:0<ts.length:=List.length_pos_iff.2 hts0;have hg0:ts.getD 0 Tb.no=ts[0]:=by simp[List.getD,hp]
 have hz:∀(p:Nat)(hp:p<ts.length),tabR ts[p]=true∧ts[p].ids.length=labels.length:=fun p hp=>by
  obtain⟨a,b,_⟩:=knd hbad hp;exact⟨a,by rw[b,hll]⟩
 have hL:labels.length≤256:=by
  rw[← (hz 0 hp).2];have:=(hz 0 hp).1;unfold tabR idsR at this;simp at this;omega
 intro k
 induction k with
 | zero =>
  intro i hi m sc l x jm S h hm hs M B Br Bm V hS Vs;rw[kug];refine Runs.ifF (decide_eq_false (by omega)) ?_;refine Runs.step (Bm.rd 0 rfl (asSl_v _)) (Runs.puts Br rfl fun h1 B1 u1=>?_);refine Runs.step (B1.rd 0 rfl (asSl_v _)) (Runs.ret ⟨l,rfl,?_,?_⟩)
  ·have nS:¬S kr:=fun a=>(hS kr (.inl a)).2.2.1 rfl;exact(V.upd u1 nS fun k e=>(hS k (.inr e)).2.2.1).sq.mono fun _ _=>trivial
  ·exact(M.next (u1.md (T:=fun j=>j=kr) rfl) fun j hj e=>by omega).grow fun _ _ a=>a
 | succ k ih =>
  intro i hi m sc l x jm S h hm hs M B Br Bm V hS Vs;rw[kug];refine Runs.ifT (decide_eq_true (by omega)) ?_;obtain⟨h1,e1,g1,V1⟩:=GF.mk (E:=EI) (elem:=T.int) (S:=Fp.no) (h:=h) (n:=labels.length) (bytes:=Pg.bytesOf T.int) (l:=(ls.len:Int)) (c:=(ls.len:Int)) (cs:=[.int .i64 0]) (x:=(0:Int)) (fun h'=>rfl) Fp.not_no (by rw[Q.len]) (by rw[Q.len]) (by rw[knb];omega) (by omega);refine Runs.step e1 ?_;rw[Q.len];have zM:=M.size;have zB:=B.lt;have zr:=Br.lt;have zm:=Bm.lt;have zs:js<h.blks.size:=Vs.lt;have M1:=M.thenG g1;have Qb:Sq EI h1 (fun j=>SL j∧j<hE.blks.size) ls labels:=Q.bound.md M1 fun j _ a=>a;have Qtb:Sq Ef.tb h1 (fun j=>St j∧j<hE.blks.size) tsl ts:=Qt.bound.md M1 fun j _ a=>a;refine kbay (jg:=h.blks.size) Qb (g1.has B) (Vs.grow g1) hs hL (fun a=>by have:=a.2;omega) (by omega) (by omega) (fun h2 m2 V2=>?_) labels.length 0 (by omega) (Md.refl _ _) (by simpa using V1);rw[ksj];refine Runs.ifF (decide_eq_false (by omega)) ?_;have B2:=m2.has (g1.has B) (by omega);have Br2:=m2.has (g1.has Br) (by omega);have Bm2:=m2.has (g1.has Bm) (by omega);have M2:Md Fp.no hE h2:=M1.next m2 fun j hj e=>by omega
  refine Runs.step (Bm2.rd 0 rfl (asSl_v _)) ?_;refine Runs.step (B2.rd 0 rfl (kb _ _)) (Runs.step (B2.rd 1 rfl (kb _ _)) (Runs.step (B2.rd 2 rfl (kb _ _)) (Runs.step (B2.rd 3 rfl (kb _ _)) (Runs.step (B2.rd 4 rfl (kb _ _)) (Runs.step (B2.rd 5 rfl (kb _ _)) (Runs.step (B2.rd 6 rfl (kb _ _)) (Runs.step (B2.rd 7 rfl (kb _ _)) ?_)))))));have Vs2:GF EI T.int h2 Fp.no scs (some js) sc:=GF.md m2 (S:=Fp.no) (fun j a _=>a) (Vs.grow g1) fun k e=>by cases e;omega
  have Qt2:Sq Ef.tb h2 (fun j=>St j∧j<hE.blks.size) tsl ts:=Qt.bound.md M2 fun j _ a=>a;refine(k1b (z:=labels.length) (T0.md M2) hc V2.sq Qt2 Vs2 (fun a=>a.elim (fun e=>by cases e;omega) id) (fun a=>by have:=a.2;omega) (kr0 _ _ _) hs hL h16 hz).call fun v h3 ⟨nd,jn,ev,hjn,Vn,Vs3,m3⟩=>?_;subst ev;refine Runs.step rfl (Runs.ifT rfl (Runs.step (seenAt rfl (asSl_v _)) ?_));refine Runs.when (m3.same Bm2 nmj 0 1) ?_;refine Runs.new fun h4 b4 g4=>?_;have Bm3:=m3.has Bm2 nmj;refine Runs.when (g4.same Bm3 0 1) ?_;refine Runs.step (kc2 (n:=1) b4 (by rw[k7r];rfl)) ?_;have zh1:=g1.size;have zh2:=m2.size;have nSg:∀j,j=h.blks.size→¬(S j∧j<h.blks.size):=fun j e a=>by have:=a.2;omega
  have V4:GF EM T.kch h4 (fun j=>S j∧j<h.blks.size) l jm m:=by
   have V2':=GF.md m2 (fun j a e=>by have:=a.2;omega) (V.bound.grow g1) fun k e x=>by
    subst e;have:=V.lt;have this:k<h.blks.size:=this;omega
   exact(GF.md m3 (fun j a e=>(hS j (.inl a.1)).2.2.2.2 e) V2' fun k e x=>(hS k (.inr e)).2.2.2.2 x).grow g4
  obtain⟨s5,h5,e5,V5,u5⟩:=V4.push (P:=Pg) (T:=Fp.opt (some jn)) (cs:=[nd.v]) (x:=(growS c ts (gradS c sc labels) 64 [firstW labels.length] [Nd.no] sc).1) ⟨nd,rfl,(Vn.grow g4).sq.mono fun j a=>a.elim id False.elim⟩ (by
   cases jm with
   | none=>trivial
   | some y =>
    intro e;cases e;have:=V.lt;have this:jn<h.blks.size:=this;omega) (k5n (by omega))
  refine Runs.step e5 (Runs.step (asSl_v _) ?_);have hjm4:∀y,jm=some y→y<h.blks.size:=fun y e=>by subst e;exact V.lt
  have u5m:Md (fun j=>jm=some j) h4 h5:=UpdO.md u5 fun k e=>e;have z3:=m3.size;have z4:h3.blks.size≤h4.blks.size:=g4.size;have z5:=u5m.size;have B5:=u5m.has ((g4.has (m3.has B2 ncj))) (fun e=>(hS kc (.inr e)).2.1 rfl);have Br5:=u5m.has ((g4.has (m3.has Br2 nrj))) (fun e=>(hS kr (.inr e)).2.2.1 rfl);have Bm5:=u5m.has ((g4.has Bm3)) (fun e=>(hS km (.inr e)).2.2.2.1 rfl);have Vs5:GF EI T.int h5 Fp.no scs (some js) (growS c ts (gradS c sc labels) 64 [firstW labels.length] [Nd.no] sc).2:=GF.md u5m (S:=Fp.no) (fun j a _=>a) (Vs3.grow g4) fun k e x=>by cases e;exact(hS js (.inr x)).2.2.2.2 rfl
  refine Runs.puts Bm5 rfl fun h6 B6 u6=>?_;rw[kq (by omega)]
  have hF:∀j,(Fp.or (fun j=>S j∧j<h.blks.size) (Fp.opt (some jn)) j∧j<h4.blks.size)∨some h4.blks.size=some j→hE.blks.size≤j∧j≠kc∧j≠kr∧j≠km∧j≠js:=by
   rintro j (⟨a | a,b⟩ | a)
   ·exact hS j (.inl a.1)
   ·cases a;omega
   ·cases a;omega
  have nK:¬(Fp.or (fun j=>S j∧j<h.blks.size) (Fp.opt (some jn)) km∧km<h4.blks.size):=fun a=>(hF km (.inl a)).2.2.2.1 rfl;have:=ih (i+1) (by omega) (m++[(growS c ts (gradS c sc labels) 64 [firstW labels.length] [Nd.no] sc).1]) (growS c ts (gradS c sc labels) 64 [firstW labels.length] [Nd.no] sc).2 s5 x (some h4.blks.size) _ h6 (by simp[hm]) ?_ ?_ (B5.updr ncm u6) (Br5.updr nrm u6) B6 (V5.upd u6 nK fun k e=>by cases e;omega) hF (Vs5.upd u6 Fp.not_no fun k e=>by cases e;exact fun e=>nmj e.symm)
  ·exact this
  ·have:=kof c ts (gradS c sc labels) 64 [firstW labels.length] [Nd.no] sc;omega
  ·have M4:Md Fp.no hE h4:=(M2.next m3 fun j hj e=>by omega).thenG g4;exact(M4.next u5m fun j hj e=>by have:=(hS j (.inr e)).1;omega).next (u6.md (T:=fun j=>j=km) rfl) fun j hj e=>by omega
theorem kn2(T0:Tab hE)(Qt:Sq Ef.tb hE St tsl ts)(Q:Sq EI hE SL ls labels):Runs (go (.fn F.kcl [.agg c.cells,tsl.v,ls.v]) hE) (TrainP hE (trainC c ts labels).1 (trainC c ts labels).2.2):=by
 show Runs (go (.fn F.kcl [.agg [.int .i64 c.trees,.int .i64 c.depth,.int .i64 c.lambda,.int .i64 c.gamma,.int .i64 c.num,.int .i64 c.den,.int .i64 c.loss,.int .i64 c.clip],tsl.v,ls.v]) hE) _;rw[k5v];refine Runs.new fun h1 b1 g1=>Runs.new fun h2 b2 g2=>?_;have b1':=g2.has b1;refine Runs.step (b1'.rd 0 rfl (kb _ _)) (Runs.step (b1'.rd 1 rfl (kb _ _)) (Runs.step (b1'.rd 2 rfl (kb _ _)) (Runs.step (b1'.rd 3 rfl (kb _ _)) (Runs.step (b1'.rd 4 rfl (kb _ _)) (Runs.step (b1'.rd 5 rfl (kb _ _)) (Runs.step (b1'.rd 6 rfl (kb _ _)) (Runs.step (b1'.rd 7 rfl (kb _ _)) ?_)))))));have G2:=g1.trans g2;refine(k52 (c:=c) (Qt.grow G2) (Q.grow G2)).call fun v h3 ⟨ev,g3⟩=>?_;subst ev;refine Runs.step (seen (kb _ _)) ?_;have G3:=G2.trans g3;have z1:=g1.size;refine Runs.cond (fun a=>?_) fun a=>?_
 ·have hf:¬faultC c ts labels=0:=by
   intro e;rw[e]at a;simp at a
  refine Runs.puts (g3.has b2) rfl fun h4 b4 u4=>Runs.step (b4.rd 0 rfl (asSl_v _)) (Runs.ret ⟨⟨none,0,.is 0⟩,?_,?_,?_⟩)
  ·unfold trainC;rw[if_neg hf]
  ·unfold trainC;rw[if_neg hf];exact Sq.nil EM h4 Fp.all
  ·exact G3.updr (by omega) u4
 ·have hf:faultC c ts labels=0:=by simpa using a
  have hh:=hf;obtain⟨hc,hts0,h16,hbad,hll,hodd⟩:=kip hh;have hp:0<ts.length:=List.length_pos_iff.2 hts0
  have hL:labels.length≤256:=by
   have hg0:ts.getD 0 Tb.no=ts[0]:=by simp[List.getD,hp]
   rw[hll,hg0];have:=(knd hbad hp).1;unfold tabR idsR at this;simp at this;omega
  have hd:=Cfg.right_depth hc;obtain⟨h4,e4,g4,V4⟩:=GF.mk (E:=EI) (elem:=T.int) (S:=Fp.no) (h:=h3) (n:=labels.length) (bytes:=Pg.bytesOf T.int) (l:=(ls.len:Int)) (c:=(ls.len:Int)) (cs:=[.int .i64 0]) (x:=(0:Int)) (fun h'=>rfl) Fp.not_no (by rw[Q.len]) (by rw[Q.len]) (by rw[knb];omega) (by omega);refine Runs.step e4 ?_;refine Runs.new fun h5 b5 g5=>?_;have G35:Grow h2 h5:=(g3.trans g4).trans g5;have G5:=G2.trans G35;refine Runs.step ((G35.has b1').rd 0 rfl (kb _ _)) ?_;have z2:=b1.lt;have z2':=b2.lt;have z3:=g3.size;have z4:h3.blks.size<h4.blks.size:=V4.lt;have z12:h2.blks.size=h2.blks.size:=rfl;unfold trainC;rw[if_pos hf];exact k99 T0 hf Qt Q (kc:=hE.blks.size) (kr:=h1.blks.size) (km:=h4.blks.size) (js:=h3.blks.size) (by omega) (by omega) (by omega) (by omega) (by omega) (by omega) (by omega) (by omega) (by omega) (by omega) c.trees.toNat 0 (by omega) [] (List.replicate labels.length 0) _ _ none Fp.no h5 rfl (by simp) (G5.md _) (G35.has b1') (G35.has b2) b5 (GF.none EM T.kch h5 Fp.no) (fun j a=>by rcases a with a | a;exact a.elim;cases a) (V4.grow g5)
end
end Go.Ab

/- squeezed -/
set_option maxRecDepth 10000
namespace Go.Ab
open Go.Proofs Go.Num Go.Heap
theorem km5{h:AH}{cs:List AV}(a:ArgT Pg h T.kbm cs):∃(s:Sl)(xs:List Int),cs=[s.v]∧Sq EI h Fp.no s xs:=k8t Fp.no kr3 kce kew a
theorem k33{h:AH}{x:AV}(a:ArgV Pg h T.kol x):∃(s:Sl)(ts:List Tb),x=s.v∧Sq Ef.tb h Fp.no s ts:=by
 unfold ArgV at a;rw[kut]at a
 obtain⟨s,xs,e,n⟩:=Sq.of_arg (E:=Ef.tb) (S:=Fp.no) kut kpg (fun es t=>by
  obtain⟨hl,hf⟩:=t.struct k2r;rw[kpg]at hl
  match es,hl with
  | [x0,x1,x2],_ =>
   simp[kn3,k8s]at hf;obtain⟨h0,h1,h2⟩:=hf;obtain⟨s1,xs,e0,n0⟩:=km5 h0;obtain⟨s2,ys,e1,n1⟩:=km5 h1
   obtain⟨s3,zs,e2,n2⟩:=Sq.of_arg (E:=Ef.seq EI) (S:=Fp.no) k44 kn3 (fun es t=>by
    obtain⟨s,l,e,n⟩:=km5 t;exact⟨l,s,e,n⟩) h2
   cases e0;cases e1;cases e2;exact⟨⟨xs,ys,zs⟩,s1,s2,s3,rfl,n0,n1,n2⟩) a
 cases e;exact⟨s,xs,rfl,n⟩
theorem int_of{h:AH}{x:AV}(a:ArgV Pg h T.kbm x):∃(s:Sl)(xs:List Int),x=s.v∧Sq EI h Fp.no s xs:=by
 unfold ArgV at a;rw[kr3]at a;obtain⟨s,xs,e,n⟩:=km5 a;cases e;exact⟨s,xs,rfl,n⟩
theorem cfg_of{h:AH}{x:AV}(a:ArgV Pg h T.kb0 x):∃c:Cfg,x=.agg c.cells:=by
 unfold ArgV at a;rw[klv]at a;obtain⟨cs,rfl,t⟩:=a;obtain⟨hl,hf⟩:=t.struct klv;rw[kw4]at hl
 match cs,hl with
 | [x0,x1,x2,x3,x4,x5,x6,x7],_ =>
  simp[kew]at hf;obtain⟨h0,h1,h2,h3,h4,h5,h6,h7⟩:=hf;obtain⟨y0,e0,_⟩:=h0.int kce;obtain⟨y1,e1,_⟩:=h1.int kce;obtain⟨y2,e2,_⟩:=h2.int kce;obtain⟨y3,e3,_⟩:=h3.int kce;obtain⟨y4,e4,_⟩:=h4.int kce;obtain⟨y5,e5,_⟩:=h5.int kce;obtain⟨y6,e6,_⟩:=h6.int kce;obtain⟨y7,e7,_⟩:=h7.int kce;cases e0;cases e1;cases e2;cases e3;cases e4;cases e5;cases e6;cases e7;exact⟨⟨y0,y1,y2,y3,y4,y5,y6,y7⟩,rfl⟩
def awT:Tb:=⟨[0,1,2,3],[2],[[0,0,1,1]]⟩
def awC:Cfg:=⟨1,1,1,0,1,1,0,0⟩
def awM:List Nd:=[⟨false,0,0,0,0,1,2⟩,leafN 6,leafN (-7)]
theorem kwa:(trainC awC [awT] [10,10,-10,-10]).1=[awM]∧(trainC awC [awT] [10,10,-10,-10]).2.2=0:=by decide +kernel
theorem kmd{h:AH}{i:Nat}{xs:List Int}{e:TypeId}(b:h.has i (xs.map (AV.int .i64)) e)(hs:xs.length≤9223372036854775807):Sq EI h (Fp.or (fun j=>j=i) Fp.no) ⟨some (.new i 0),xs.length,.is xs.length⟩ xs:=by
 refine Sq.lit (rows:=xs.map fun x=>[AV.int .i64 x]) (e:=e) ?_ ?_ rfl hs
 ·have:(xs.map fun x=>[AV.int .i64 x]).flatten=xs.map (AV.int .i64):=by
   clear b hs
   induction xs with
   | nil=>rfl
   | cons x xs ih=>rw[List.map_cons,List.flatten_cons,ih];rfl
  rw[this];exact b
 ·clear b hs
  induction xs with
  | nil=>exact .nil
  | cons x xs ih=>exact .cons rfl ih
section
variable{h0:AH}
theorem kxp(T0:Tab h0):Runs (go (.fn F.kpm []) h0) fun v h'=>v=.bool true∧Grow h0 h':=by
 rw[k65];refine Runs.new fun h1 b1 g1=>Runs.new fun h2 b2 g2=>Runs.new fun h3 b3 g3=>Runs.new fun h4 b4 g4=>Runs.new fun h5 b5 g5=>Runs.puts b5 rfl fun h6 b6 u6=>?_;have G6:Grow h4 h6:=g5.updr (Nat.le_refl _) u6;refine Runs.step (b6.rd 0 rfl (asSl_v _)) (Runs.step (b6.rd 1 rfl (asSl_v _)) (Runs.step (b6.rd 2 rfl (asSl_v _)) ?_));refine Runs.new fun h7 b7 g7=>Runs.new fun h8 b8 g8=>?_;have G48:=(G6.trans g7).trans g8;have G08:Grow h0 h8:=(((g1.trans g2).trans g3).trans g4).trans G48;have q1:Sq EI h8 Fp.all ⟨some (.new h0.blks.size 0),4,.is 4⟩ [0,1,2,3]:=(kmd (xs:=[0,1,2,3]) (((g2.trans g3).trans g4 |>.trans G48).has b1) (by decide)).mono fun _ _=>trivial;have q2:Sq EI h8 Fp.all ⟨some (.new h1.blks.size 0),1,.is 1⟩ [2]:=(kmd (xs:=[2]) (((g3.trans g4).trans G48).has b2) (by decide)).mono fun _ _=>trivial;have q3:Sq EI h8 Fp.all ⟨some (.new h2.blks.size 0),4,.is 4⟩ [0,0,1,1]:=(kmd (xs:=[0,0,1,1]) ((g4.trans G48).has b3) (by decide)).mono fun _ _=>trivial;have q4:Sq (Ef.seq EI) h8 Fp.all ⟨some (.new h3.blks.size 0),1,.is 1⟩ [[0,0,1,1]]:=(Sq.lit (E:=Ef.seq EI) (rows:=[[Sl.v ⟨some (.new h2.blks.size 0),4,.is 4⟩]]) (G48.has b4) (.cons ⟨_,rfl,q3⟩ .nil) rfl).mono fun _ _=>trivial;have q5:Sq Ef.tb h8 Fp.all ⟨some (.new h6.blks.size 0),1,.is 1⟩ [awT]:=(Sq.lit (E:=Ef.tb) (S:=Fp.all) (xs:=[awT]) (rows:=[[Sl.v ⟨some (.new h0.blks.size 0),4,.is 4⟩,Sl.v ⟨some (.new h1.blks.size 0),1,.is 1⟩,Sl.v ⟨some (.new h3.blks.size 0),1,.is 1⟩]]) (g8.has b7) (.cons ⟨_,_,_,rfl,q1,q2,q4⟩ .nil) rfl).mono fun _ _=>trivial;have Q:Sq EI h8 Fp.all ⟨some (.new h7.blks.size 0),4,.is 4⟩ [10,10,-10,-10]:=(kmd (xs:=[10,10,-10,-10]) b8 (by decide)).mono fun _ _=>trivial;refine(kn2 (c:=awC) (T0.grow G08) q5 Q).call fun v h9 ⟨s,e,V,g9⟩=>?_;subst e;rw[kwa.1]at V;rw[kwa.2];refine Runs.step rfl (Runs.step rfl (Runs.ifT rfl (Runs.step (seenAt rfl (asSl_v _)) (Runs.step (seen (kb _ _)) ?_))));refine Runs.new fun h10 b10 g10=>Runs.puts b10 rfl fun h11 b11 u11=>?_;have g911:Grow h9 h11:=g10.updr (Nat.le_refl _) u11;have V:=V.grow g911;refine Runs.ifF rfl (Runs.step (b11.rd 0 rfl (asSl_v _)) ?_);have ln:s.len=1:=V.len;rw[ln];refine Runs.ifF rfl (Runs.step (b11.rd 0 rfl (asSl_v _)) ?_);obtain⟨r,s',e1,-,e2,n'⟩:=V.sl (i:=0) (by decide);have n':Sq Ef.nd h11 Fp.all s' awM:=n';have ln':s'.len=3:=n'.len;refine Runs.step e1 (Runs.step e2 ?_);rw[ln'];refine Runs.ifF rfl (Runs.step (b11.rd 0 rfl (asSl_v _)) (Runs.step e1 (Runs.step e2 ?_)));obtain⟨r0,a0,a1,-⟩:=n'.nd (i:=0) (by decide);obtain⟨r1,b0,-,b1',-⟩:=n'.nd (i:=1) (by decide);obtain⟨r2,c0,-,c1',-⟩:=n'.nd (i:=2) (by decide);refine Runs.step a0 (Runs.step a1 (Runs.ifT rfl (Runs.step b0 (Runs.step b1' (Runs.ifT rfl (Runs.step c0 (Runs.step c1' (Runs.ret ⟨rfl,?_⟩))))))));exact(G08.trans g9).trans g911
end
end Go.Ab

/- squeezed -/
set_option maxRecDepth 10000
namespace Go.Ab
open Go.Proofs Go.Num Go.Heap
section
variable{row:List (List Int)}{t:List Nd}{hE:AH}{S Sr:Fp}{tl rl ml:Sl}{kn kt:Nat}{s n z:Int}
end
section
variable{row:List (List Int)}{m:List (List Nd)}{hE:AH}{S Sr:Fp}{rl ml:Sl}
end
end Go.Ab

/- squeezed -/
set_option maxRecDepth 10000
namespace Go.Ab
open Go.Proofs Go.Num Go.Heap
section
variable{h0:AH}{Sg Sx St:Fp}{gs x s1 s2 s3:Sl}{g:List Int}{R:List Nat}{t:Tb}
end
section
variable{h0:AH}{Sg Sx St:Fp}{gs tsl x:Sl}{g:List Int}{R:List Nat}{z:Nat}{ts:List Tb}
end
end Go.Ab

/- squeezed -/
set_option maxRecDepth 10000
namespace Go.Ab
open Go.Proofs Go.Num Go.Heap
@[reducible] def Ef.wg:Ef (List Nat×Nat) where
 w:=2
 pos:=by decide
 has h S cs x:=∃y:Sl,cs=[y.v,.int .i64 (x.2:Int)]∧Sq EI h S y (zs x.1)
 len:=fun⟨_,e,_⟩=>by rw[e];rfl
 grow g:=fun⟨a,e,n⟩=>⟨a,e,n.grow g⟩
 mono f:=fun⟨a,e,n⟩=>⟨a,e,n.mono f⟩
 upd no u:=fun⟨a,e,n⟩=>⟨a,e,n.upd no u⟩
 bound:=fun⟨a,e,n⟩=>⟨a,e,n.bound⟩
theorem Sq.wg{h:AH}{S:Fp}{s:Sl}{xs:List (List Nat×Nat)}(n:Sq Ef.wg h S s xs){i:Nat}(hi:i<xs.length):∃(r:Ref)(y:Sl),idx s.ref s.len (i:Int) 2=some r∧(h.cell (r.add 0)).bind AV.asSl=some y∧(h.cell (r.add 1)).bind (AV.asInt .i64)=some ((xs[i].2:Nat):Int)∧Sq EI h S y (zs xs[i].1):=by
 obtain⟨r,cs,e1,⟨y,rfl,t⟩,l⟩:=n.at (kee hi);rw[n.len];exact⟨r,y,e1,l.rd (Grow.refl _) 0 rfl (asSl_v _),l.rd (Grow.refl _) 1 rfl (kb _ _),t⟩
structure RgAt(c:Cfg)(hE:AH)(scs:Sl)(js kc kr:Nat)(nd ws:Sl)(jn jw:Nat)(S:Fp)(nodes:List Nd)(L:List (List Nat×Nat))(sc:List Int)(h:AH):Prop where
 md:Md (fun j=>j=js) hE h
 cfg:h.has kc c.cells T.kb0
 res:∃x:Sl,h.has kr [x.v] T.kch
 nds:GF Ef.nd T.kb8 h Fp.no nd (some jn) nodes
 wts:GF Ef.wg T.k7s h S ws (some jw) L
 sco:GF EI T.int h Fp.no scs (some js) sc
 fS:∀m,S m→hE.blks.size≤m∧m≠kc∧m≠kr∧m≠jn
 ge:hE.blks.size≤kc∧hE.blks.size≤kr∧hE.blks.size≤jn∧hE.blks.size≤jw
 ne:kc≠kr∧kc≠jn∧kc≠jw∧kr≠jn∧kr≠jw∧jn≠jw
section
variable{c:Cfg}{hE:AH}{scs gs tsl nd ws x:Sl}{js kc kr jn jw:Nat}{S Sx St Sg:Fp}{nodes:List Nd}{L:List (List Nat×Nat)}{sc g:List Int}{ts:List Tb}{h:AH}{R:List Nat}
theorem RgAt.grow(A:RgAt c hE scs js kc kr nd ws jn jw S nodes L sc h){h':AH}(g:Grow h h'):RgAt c hE scs js kc kr nd ws jn jw S nodes L sc h':=by
 obtain⟨md,cfg,⟨y,res⟩,nds,wts,sco,fS,ge,ne⟩:=A;exact⟨md.thenG g,g.has cfg,⟨y,g.has res⟩,nds.grow g,wts.grow g,sco.grow g,fS,ge,ne⟩
theorem RgAt.setn(A:RgAt c hE scs js kc kr nd ws jn jw S nodes L sc h)(hjs:js<hE.blks.size){i:Nat}(hi:i<nodes.length)(y:Nd):∃(r:Ref)(h':AH),idx nd.ref nd.len (i:Int) 7=some r∧h.puts r y.cells=some h'∧Upd h h' jn∧RgAt c hE scs js kc kr nd ws jn jw S (nodes.set i y) L sc h':=by
 obtain⟨md,cfg,⟨z,res⟩,nds,wts,sco,fS,ge,ne⟩:=A;obtain⟨n1,n2,n3,n4,n5,n6⟩:=ne;obtain⟨ge1,ge2,ge3,ge4⟩:=ge;obtain⟨r,h1,e1,p1,V1,u1⟩:=nds.set (T:=Fp.no) (x:=y) (show Ef.nd.has h Fp.no y.cells y from rfl) Fp.not_no (kbd hi);have u1:Upd h h1 jn:=u1;have e1:idx nd.ref nodes.length (i:Int) 7=some r:=e1;rw[← nds.len]at e1;refine⟨r,h1,e1,p1,u1,md.next (u1.md (T:=fun j=>j=jn) rfl) (fun j hj e=>by omega),cfg.updr n2 u1,⟨z,res.updr n4 u1⟩,V1.mono (fun j x=>x.elim id id) Fp.not_no,wts.upd u1 (fun a=>(fS _ a).2.2.2 rfl) (fun k e=>by cases e;exact fun e=>n6 e.symm),sco.upd u1 Fp.not_no (fun k e=>by cases e;omega),fS,⟨ge1,ge2,ge3,ge4⟩,⟨n1,n2,n3,n4,n5,n6⟩⟩
end
end Go.Ab

/- squeezed -/
set_option maxRecDepth 10000
namespace Go.Ab
open Go.Proofs Go.Num Go.Heap
section
variable{c:Cfg}{hE:AH}{scs gs tsl nd ws x:Sl}{js kc kr jn jw:Nat}{S Sx St Sg:Fp}{nodes:List Nd}{L:List (List Nat×Nat)}{sc g:List Int}{ts:List Tb}{h:AH}{R:List Nat}
theorem RgAt.lts(A:RgAt c hE scs js kc kr nd ws jn jw S nodes L sc h):kc<h.blks.size∧kr<h.blks.size∧jn<h.blks.size∧jw<h.blks.size∧js<h.blks.size∧hE.blks.size≤h.blks.size:=by
 obtain⟨md,cfg,⟨z,res⟩,nds,wts,sco,fS,ge,ne⟩:=A;exact⟨cfg.lt,res.lt,nds.lt,wts.lt,sco.lt,md.size⟩
end
end Go.Ab

/- squeezed -/
set_option maxRecDepth 10000
namespace Go.Ab
open Go.Proofs Go.Num Go.Heap
section
variable{c:Cfg}{z D:Nat}{scs gs tsl:Sl}{g:List Int}{ts:List Tb}{hE:AH}{St Sg:Fp}{js kc kr:Nat}
end
end Go.Ab

/- squeezed -/
set_option maxRecDepth 10000
namespace Go.Ab
open Go.Proofs Go.Num Go.Heap
section
variable{h0:AH}{S S':Fp}{s t:Sl}
end
section
variable{c:Cfg}{scs ls tsl:Sl}{labels:List Int}{ts:List Tb}{hE:AH}{St SL:Fp}
end
end Go.Ab

/- squeezed -/
set_option maxRecDepth 10000
namespace Go.Ab
open Go.Proofs Go.Num Go.Heap
section
variable{h:AH}{c:Cfg}{kc:Nat}{tsl:Sl}{ts:List Tb}{St:Fp}
theorem few_18(B:h.has kc c.cells T.kb0):∀(k i:Nat),i+k=6→∀a b:Int,Runs (go (.pt F.kbs Td.kj3 [(2,.ptr (some (.new kc 0))),(5,.int .i64 a),(9,.int .i64 b),(10,.int .i64 (i:Int))]) h) fun v h'=>(∃r:Bool,v=.bool r)∧h'=h:=by
 have fin:∀a b:Int,Runs (cond (decide (a≤2000)) (((h.cell ((Ref.new kc 0).add 0)).bind (AV.asInt .i64)).bind fun n6=>some (.bool (decide ((IntKind.wrap .i64 (b*(imax 0 (imin n6 16))))≤20000)),h)) (some (.bool false,h))) fun v h'=>(∃r:Bool,v=.bool r)∧h'=h:=fun a b =>
  Runs.cond (fun _=>Runs.step (B.rd 0 rfl (kb _ _)) (Runs.ret ⟨⟨_,rfl⟩,rfl⟩)) fun _=>Runs.ret ⟨⟨_,rfl⟩,rfl⟩
 intro k
 induction k with
 | zero =>
  intro i hi a b;rw[kum];refine Runs.step (B.rd 1 rfl (kb _ _)) (Runs.cond (fun d=>?_) fun d=>fin a b);exact Runs.ifF (decide_eq_false (by omega)) (fin a b)
 | succ k ih =>
  intro i hi a b;rw[kum];refine Runs.step (B.rd 1 rfl (kb _ _)) (Runs.cond (fun d=>?_) fun d=>fin a b);refine Runs.ifT (decide_eq_true (by omega)) ?_;rw[kq (by omega)];exact ih (i+1) (by omega) _ _
theorem few_8(Qt:Sq Ef.tb h St tsl ts){p:Nat}(hp:p<ts.length)(hp2:p<20)
  (H:∀a b:Int,Runs (go (.pt F.kbs Td.kf4 [(1,tsl.v),(2,.ptr (some (.new kc 0))),(5,.int .i64 a),(6,.int .i64 b),(7,.int .i64 ((p+1:Nat):Int))]) h) fun v h'=>(∃r:Bool,v=.bool r)∧h'=h) :
  ∀(k i:Nat),i+k=20→∀a b:Int,Runs (go (.pt F.kbs Td.kik [(1,tsl.v),(2,.ptr (some (.new kc 0))),(5,.int .i64 a),(6,.int .i64 b),(7,.int .i64 (p:Int)),(8,.int .i64 (i:Int))]) h) fun v h'=>(∃r:Bool,v=.bool r)∧h'=h:=by
 obtain⟨r,s1,s2,s3,e,c1,c2,c3,n⟩:=Qt.tb hp
 have fin:∀a b:Int,Runs (cond (decide (a>2000)) (some (.bool false,h)) (go (.pt F.kbs Td.kf4 [(1,tsl.v),(2,.ptr (some (.new kc 0))),(5,.int .i64 a),(6,.int .i64 b),(7,.int .i64 (IntKind.wrap .i64 ((p:Int)+1)))]) h)) fun v h'=>(∃r:Bool,v=.bool r)∧h'=h:=fun a b =>
  Runs.cond (fun _=>Runs.ret ⟨⟨_,rfl⟩,rfl⟩) fun _=>by
   rw[kq (by omega)];exact H a b
 intro k
 induction k with
 | zero =>
  intro i hi a b;rw[kvn];refine Runs.step e (Runs.step c3 (Runs.cond (fun d=>?_) fun d=>fin a b));exact Runs.ifF (decide_eq_false (by omega)) (fin a b)
 | succ k ih =>
  intro i hi a b;rw[kvn];refine Runs.step e (Runs.step c3 (Runs.cond (fun d=>?_) fun d=>fin a b));rw[n.cols.len,decide_eq_true_eq]at d;obtain⟨r2,t,e1,e2,-,n'⟩:=n.cols.sl (show i<ts[p].cols.length by omega);refine Runs.ifT (decide_eq_true (by omega)) (Runs.step e (Runs.step c3 (Runs.step e1 (Runs.step e2 (Runs.step e (Runs.step c2 ?_))))));rw[kq (i:=i) (by omega)];refine Runs.cond (fun d2=>?_) fun d2=>ih (i+1) (by omega) _ _;rw[n.bins.len,decide_eq_true_eq]at d2;obtain⟨r3,e3,e4⟩:=n.bins.int (show i<ts[p].bins.length by omega);refine Runs.step e (Runs.step c2 (Runs.step e3 (Runs.step e4 (Runs.cond (fun d3=>?_) fun d3=>ih (i+1) (by omega) _ _))));exact Runs.step e (Runs.step c2 (Runs.step e3 (Runs.step e4 (ih (i+1) (by omega) _ _))))
theorem few_4(B:h.has kc c.cells T.kb0)(Qt:Sq Ef.tb h St tsl ts):∀(k i:Nat),i+k=20→∀a b:Int,Runs (go (.pt F.kbs Td.kf4 [(1,tsl.v),(2,.ptr (some (.new kc 0))),(5,.int .i64 a),(6,.int .i64 b),(7,.int .i64 (i:Int))]) h) fun v h'=>(∃r:Bool,v=.bool r)∧h'=h:=by
 intro k
 induction k with
 | zero =>
  intro i hi a b;rw[kwj];refine Runs.cond (fun d=>Runs.ifF (decide_eq_false (by omega)) (few_18 B 6 0 (by omega) _ _)) fun d=>few_18 B 6 0 (by omega) _ _
 | succ k ih =>
  intro i hi a b;rw[kwj];refine Runs.cond (fun d=>?_) fun d=>few_18 B 6 0 (by omega) _ _;rw[Qt.len,decide_eq_true_eq]at d;have hp:i<ts.length:=by omega
  obtain⟨r,s1,s2,s3,e,c1,c2,c3,n⟩:=Qt.tb hp;refine Runs.ifT (decide_eq_true (by omega)) (Runs.step e (Runs.step c1 (Runs.step e (Runs.step c3 ?_))));exact few_8 Qt hp (by omega) (fun a b=>ih (i+1) (by omega) a b) 20 0 (by omega) _ _
theorem few_is(Qt:Sq Ef.tb h St tsl ts):Runs (go (.fn F.kbs [.agg c.cells,tsl.v]) h) fun v h'=>(∃r:Bool,v=.bool r)∧Grow h h':=by
 show Runs (go (.fn F.kbs [.agg [.int .i64 c.trees,.int .i64 c.depth,.int .i64 c.lambda,.int .i64 c.gamma,.int .i64 c.num,.int .i64 c.den,.int .i64 c.loss,.int .i64 c.clip],tsl.v]) h) _;rw[k0u];exact Runs.new fun h1 b1 g1=>(few_4 (c:=c) b1 (Qt.grow g1) 20 0 (by omega) 0 0).imp fun v h' ⟨a,b⟩=>⟨a,by rw[b];exact g1⟩
end
section
variable{h:AH}{S S':Fp}{s u:Sl}{m:List (List Nd)}
theorem same_9(M:Sq EM h S s m)(M':Sq EM h S' u m){k1 k2:Nat}(B1:h.has k1 [s.v] T.kcz)(B2:h.has k2 [u.v] T.kcz){z:Nat}(hz:z<m.length)
  (H:Runs (go (.pt F.kc8 Td.kjj [(2,.ptr (some (.new k1 0))),(3,.ptr (some (.new k2 0))),(5,.int .i64 ((z+1:Nat):Int))]) h) fun v h'=>v=.bool true∧h'=h) :
  ∀(k i:Nat),i+k=m[z].length→Runs (go (.pt F.kc8 Td.kmb [(2,.ptr (some (.new k1 0))),(3,.ptr (some (.new k2 0))),(5,.int .i64 (z:Int)),(6,.int .i64 (i:Int))]) h) fun v h'=>v=.bool true∧h'=h:=by
 obtain⟨r1,t1,e1,-,a1,n1⟩:=M.sl hz;obtain⟨r2,t2,e2,-,a2,n2⟩:=M'.sl hz;have hzs:=M.short;intro k
 induction k with
 | zero =>
  intro i hi;rw[ksz];refine Runs.step (B1.rd 0 rfl (asSl_v _)) (Runs.step e1 (Runs.step a1 ?_));rw[n1.len];refine Runs.ifF (decide_eq_false (by omega)) ?_;rw[kq (by omega)];exact H
 | succ k ih =>
  intro i hi;have hlt:i<m[z].length:=by omega
  obtain⟨r3,y,y0,y1,y2,y3,y4,y5,y6⟩:=n1.nd hlt;obtain⟨r4,x,x0,x1,x2,x3,x4,x5,x6⟩:=n2.nd hlt;rw[ksz];refine Runs.step (B1.rd 0 rfl (asSl_v _)) (Runs.step e1 (Runs.step a1 (Runs.ifT (decide_eq_true (by rw[n1.len];omega)) ?_)));refine Runs.step (B1.rd 0 rfl (asSl_v _)) (Runs.step e1 (Runs.step a1 (Runs.step y (Runs.step y0 (Runs.step y1 (Runs.step y2 (Runs.step y3 (Runs.step y4 (Runs.step y5 (Runs.step y6 ?_))))))))));refine Runs.step (B2.rd 0 rfl (asSl_v _)) (Runs.step e2 (Runs.step a2 (Runs.step x (Runs.step x0 (Runs.step x1 (Runs.step x2 (Runs.step x3 (Runs.step x4 (Runs.step x5 (Runs.step x6 ?_))))))))));refine Runs.ifF (by simp) ?_;rw[kq (by have:=n1.short;omega)];exact ih (i+1) (by omega)
theorem same_4(M:Sq EM h S s m)(M':Sq EM h S' u m){k1 k2:Nat}(B1:h.has k1 [s.v] T.kcz)(B2:h.has k2 [u.v] T.kcz) :
  ∀(k z:Nat),z+k=m.length→Runs (go (.pt F.kc8 Td.kjj [(2,.ptr (some (.new k1 0))),(3,.ptr (some (.new k2 0))),(5,.int .i64 (z:Int))]) h) fun v h'=>v=.bool true∧h'=h:=by
 intro k
 induction k with
 | zero =>
  intro z hz;rw[ktm];refine Runs.step (B1.rd 0 rfl (asSl_v _)) ?_;rw[M.len];exact Runs.ifF (decide_eq_false (by omega)) (Runs.ret ⟨rfl,rfl⟩)
 | succ k ih =>
  intro z hz;have hlt:z<m.length:=by omega
  obtain⟨r1,t1,e1,-,a1,n1⟩:=M.sl hlt;obtain⟨r2,t2,e2,-,a2,n2⟩:=M'.sl hlt;rw[ktm];refine Runs.step (B1.rd 0 rfl (asSl_v _)) (Runs.ifT (decide_eq_true (by rw[M.len];omega)) ?_);refine Runs.step (B1.rd 0 rfl (asSl_v _)) (Runs.step e1 (Runs.step a1 (Runs.step (B2.rd 0 rfl (asSl_v _)) (Runs.step e2 (Runs.step a2 ?_)))));refine Runs.ifF (by rw[n1.len,n2.len];simp) ?_;exact same_9 M M' B1 B2 hlt (ih (z+1) (by omega)) m[z].length 0 (by omega)
theorem k0n(M:Sq EM h S s m)(M':Sq EM h S' u m):Runs (go (.fn F.kc8 [.agg [s.v],.agg [u.v]]) h) fun v h'=>v=.bool true∧Grow h h':=by
 rw[kzv];refine Runs.new fun h1 b1 g1=>Runs.new fun h2 b2 g2=>?_;have G:=g1.trans g2;refine Runs.step ((g2.has b1).rd 0 rfl (asSl_v _)) (Runs.step (b2.rd 0 rfl (asSl_v _)) (Runs.ifF (by rw[M.len,M'.len];simp) ?_));exact(same_4 (M.grow G) (M'.grow G) (g2.has b1) b2 m.length 0 (by omega)).imp fun v h' ⟨a,b⟩=>⟨a,by rw[b];exact G⟩
end
end Go.Ab

/- squeezed -/
set_option maxRecDepth 10000
namespace Go.Ab
open Go.Proofs Go.Num
theorem kos(n:Int):IntKind.wrap .i64 n=(n+9223372036854775808)%18446744073709551616-9223372036854775808:=by
 unfold IntKind.wrap;simp only[IntKind.bits,IntKind.signed];simp;split<;>omega
theorem k23(a b:Int):IntKind.wrap .i64 (IntKind.wrap .i64 a+b)=IntKind.wrap .i64 (a+b):=by
 rw[kos,kos,kos];omega
def revT(t:Tb):Tb:=⟨t.ids.reverse,t.bins,t.cols.map List.reverse⟩
def mir(z:Nat)(R:List Nat):List Nat:=(R.map fun i=>z-1-i).reverse
def mirW(z:Nat)(x:Wt):Wt:=⟨x.place,x.deep,mir z x.rows⟩
theorem kkv{l:List Int}{z i:Nat}(hl:l.length=z)(hi:i<z):l.reverse.getD (z-1-i) 0=l.getD i 0:=by
 rw[List.getD,List.getD,List.getElem?_reverse (by omega),hl,show z-1-(z-1-i)=i by omega]
theorem tb_rev(ts:List Tb)(p:Nat):(ts.map revT).getD p Tb.no=revT (ts.getD p Tb.no):=by
 rw[List.getD,List.getD,List.getElem?_map];cases ts[p]?<;>rfl
theorem krr(l:List (List Int))(f:Nat):(l.map List.reverse).getD f []=(l.getD f []).reverse:=by
 rw[List.getD,List.getD,List.getElem?_map];cases l[f]?<;>rfl
theorem ky1(t:Tb):cutsTo (revT t) (revT t).cols.length=cutsTo t t.cols.length:=by
 have:(revT t).cols.length=t.cols.length:=List.length_map _;rw[this];rfl
theorem k1j(ts:List Tb):∀n,kdj (ts.map revT) n=kdj ts n:=by
 intro n;unfold kdj
 have:(fun p=>kfv p ((ts.map revT).getD p Tb.no))=fun p=>kfv p (ts.getD p Tb.no):=by
  funext p;rw[tb_rev];unfold kfv;rw[ky1]
 rw[this]
theorem kry(ts:List Tb):kbw (ts.map revT)=kbw ts:=by
 unfold kbw;rw[List.length_map];exact k1j ts _
def Wide(ts:List Tb)(z:Nat):Prop:=∀p f,f<(ts.getD p Tb.no).cols.length→((ts.getD p Tb.no).cols.getD f []).length=z
section
variable{ts:List Tb}{z:Nat}{c:Cfg}{g sc labels:List Int}
theorem kpx(hw:Wide ts z)(x:Spl){i:Nat}(hi:i<z):leftS (ts.map revT) x (z-1-i)=leftS ts x i:=by
 unfold leftS leftP;rw[tb_rev];show decide (((((ts.getD x.1 Tb.no).cols.map List.reverse).getD x.2.1 []).getD (z-1-i) 0)≤_)=_;rw[krr];rcases Nat.lt_or_ge x.2.1 (ts.getD x.1 Tb.no).cols.length with h | h
 ·rw[kkv (hw _ _ h) hi]
 ·have:(ts.getD x.1 Tb.no).cols.getD x.2.1 []=[]:=by
   rw[List.getD,List.getElem?_eq_none h];rfl
  rw[this];rfl
theorem ko3(R:List Nat)(p q:Nat→Bool)(h:∀i∈R,q (z-1-i)=p i):(mir z R).filter q=mir z (R.filter p):=by
 unfold mir;rw[List.filter_reverse,List.filter_map];congr 2;apply List.filter_congr;intro i hi;exact h i hi
theorem kba9(R:List Nat):(mir z R).length=R.length:=by simp[mir]
theorem kqt(g:List Int):∀(R:List Nat)(a:Int),sumG g R (IntKind.wrap .i64 a)=IntKind.wrap .i64 (a+(R.map fun i=>g.getD i 0).sum)
 | [],a=>by simp[sumG]
 | i::R,a=>by
  have:=kqt g R (a+g.getD i 0);unfold sumG at this⊢;rw[List.foldl_cons,k23,this,List.map_cons,List.sum_cons];congr 1;omega
theorem k62(hg:g.length=z){R:List Nat}(hR:∀i∈R,i<z):sumG g.reverse (mir z R) 0=sumG g R 0:=by
 have h0:IntKind.wrap .i64 0=0:=wrap64 (by omega) (by omega);have h1:=kqt g.reverse (mir z R) 0;have h2:=kqt g R 0;rw[h0]at h1 h2;rw[h1,h2];congr 2;unfold mir;rw[List.map_reverse,List.sum_reverse,List.map_map];congr 1;apply List.map_congr_left;intro i hi;exact kkv hg (hR i hi)
theorem kow(hg:g.length=z){R:List Nat}(hR:∀i∈R,i<z):sumR g.reverse (mir z R)=sumR g R:=by
 unfold sumR;rw[k62 hg hR,kba9]
theorem k7q(hw:Wide ts z)(hg:g.length=z){R:List Nat}(hR:∀i∈R,i<z):sumsS (ts.map revT) g.reverse (mir z R)=sumsS ts g R:=by
 unfold sumsS;rw[kry];apply List.map_congr_left;intro x _;rw[ko3 R (leftS ts x) _ fun i hi=>kpx hw x (hR i hi)];exact kow hg fun i hi=>hR i (List.mem_filter.1 hi).1
theorem k9z(hw:Wide ts z)(hg:g.length=z){x:Wt}(hR:∀i∈x.rows,i<z):bestS c (ts.map revT) g.reverse (mirW z x)=bestS c ts g x:=by
 unfold bestS;show(if(x.deep:Int)<c.depth then(bestF c.lambda c.gamma (sumR g.reverse (mir z x.rows)).1 (sumR g.reverse (mir z x.rows)).2 (sumsS (ts.map revT) g.reverse (mir z x.rows))).1 else [])=_;rw[kow hg hR,k7q hw hg hR]
theorem ki7(w:Int):∀(R:List Nat)(sc:List Int),(addS w R sc).length=sc.length
 | [],_=>rfl
 | i::R,sc=>by
  unfold addS;rw[List.foldl_cons];have:=ki7 w R (sc.set i (IntKind.wrap .i64 (sc.getD i 0+w)));unfold addS at this;rw[this,List.length_set]
theorem kpa(w:Int):∀(R:List Nat)(sc:List Int),R.Nodup→∀j,j<sc.length→(addS w R sc).getD j 0=if j∈R then IntKind.wrap .i64 (sc.getD j 0+w)else sc.getD j 0
 | [],sc,_,j,_=>by simp[addS]
 | i::R,sc,nd,j,hj=>by
  rw[List.nodup_cons]at nd;have:=kpa w R (sc.set i (IntKind.wrap .i64 (sc.getD i 0+w))) nd.2 j (by rw[List.length_set];exact hj);unfold addS at this⊢;rw[List.foldl_cons,this];by_cases e:i=j
  ·subst e;rw[if_neg nd.1,if_pos (by simp)];simp[List.getD,hj]
  ·have hset:(sc.set i (IntKind.wrap .i64 (sc.getD i 0+w))).getD j 0=sc.getD j 0:=by
    rw[List.getD,List.getElem?_set_ne e];rfl
   rw[hset];by_cases hm:j∈R
   ·rw[if_pos hm,if_pos (by simp[hm])]
   ·rw[if_neg hm,if_neg (by simp[hm];omega)]
theorem kw1{R:List Nat}(hR:∀i∈R,i<z){j:Nat}(hj:j<z):j∈mir z R↔z-1-j∈R:=by
 unfold mir;rw[List.mem_reverse,List.mem_map];constructor
 ·rintro ⟨i,hi,e⟩
  have:=hR i hi;rw[← e,show z-1-(z-1-i)=i by omega];exact hi
 ·intro h;exact⟨z-1-j,h,by omega⟩
theorem knp{α:Type}{l:List α}(h:l.Nodup):l.reverse.Nodup:=by
 unfold List.Nodup at h⊢;rw[List.pairwise_reverse];exact h.imp fun h=>h.symm
theorem k7g{R:List Nat}(hR:∀i∈R,i<z)(nd:R.Nodup):(mir z R).Nodup:=by
 refine knp ?_;unfold List.Nodup at nd⊢;rw[List.pairwise_map];exact nd.imp_of_mem fun ha hb h e=>h (by have:=hR _ ha;have:=hR _ hb;omega)
theorem k2f(hs:sc.length=z){R:List Nat}(hR:∀i∈R,i<z)(nd:R.Nodup)(w:Int):addS w (mir z R) sc.reverse=(addS w R sc).reverse:=by
 have hl:(addS w (mir z R) sc.reverse).length=z:=by rw[ki7,List.length_reverse,hs]
 have hl2:(addS w R sc).length=z:=by rw[ki7,hs]
 apply List.ext_getElem
 ·rw[hl,List.length_reverse,hl2]
 intro j h1 h2;have hj:j<z:=by omega
 have e1:(addS w (mir z R) sc.reverse)[j]=(addS w (mir z R) sc.reverse).getD j 0:=by simp[List.getD,h1]
 have e2:(addS w R sc).reverse[j]=(addS w R sc).getD (z-1-j) 0:=by
  rw[List.getElem_reverse];simp[List.getD,hl2,show z-1-j<z by omega]
 have e3:sc.reverse.getD j 0=sc.getD (z-1-j) 0:=by
  have:=kkv (l:=sc) hs (i:=z-1-j) (by omega);rwa[show z-1-(z-1-j)=j by omega]at this
 rw[e1,e2,kpa w _ _ (k7g hR nd) j (by rw[List.length_reverse];omega),kpa w _ _ nd _ (by omega),e3];by_cases m:z-1-j∈R
 ·rw[if_pos m,if_pos ((kw1 hR hj).2 m)]
 ·rw[if_neg m,if_neg fun h=>m ((kw1 hR hj).1 h)]
theorem kn8(hw:Wide ts z)(hg:g.length=z):∀(n:Nat)(W:List Wt)(nodes:List Nd)(sc:List Int),sc.length=z→(∀x∈W,x.rows.Sublist (List.range z))→
  growS c (ts.map revT) g.reverse n (W.map (mirW z)) nodes sc.reverse=((growS c ts g n W nodes sc).1,(growS c ts g n W nodes sc).2.reverse)
 | 0,W,nodes,sc,_,_=>rfl
 | n+1,[],nodes,sc,_,_=>rfl
 | n+1,x::W,nodes,sc,hs,hW=>by
  have hx:=hW x (by simp);have hR:∀i∈x.rows,i<z:=fun i hi=>List.mem_range.1 (hx.subset hi);have nd:x.rows.Nodup:=List.nodup_range.sublist hx;have hW':∀y∈W,y.rows.Sublist (List.range z):=fun y hy=>hW y (by simp[hy]);rw[List.map_cons,growS,growS,k9z hw hg hR];cases bestS c ts g x with
  | nil =>
   show growS c (ts.map revT) g.reverse n (W.map (mirW z)) (nodes.set x.place (leafN (kd0 c (sumR g.reverse (mir z x.rows))))) (addS (kd0 c (sumR g.reverse (mir z x.rows))) (mir z x.rows) sc.reverse)=_;rw[kow hg hR,k2f hs hR nd];exact kn8 hw hg n W _ _ (by rw[ki7,hs]) hW'
  | cons b bs =>
   dsimp only;rw[kry]
   have hk:∀s,kidsS (ts.map revT) (mirW z x) s nodes.length=(kidsS ts x s nodes.length).map (mirW z):=fun s=>by
    unfold kidsS;show [(⟨nodes.length,x.deep+1,(mir z x.rows).filter (leftS (ts.map revT) s)⟩:Wt),⟨nodes.length+1,x.deep+1,(mir z x.rows).filter fun i=>!leftS (ts.map revT) s i⟩]=_;rw[ko3 x.rows (leftS ts s) _ fun i hi=>kpx hw s (hR i hi),ko3 x.rows (fun i=>!leftS ts s i) _ fun i hi=>by rw[kpx hw s (hR i hi)]];rfl
   rw[hk,← List.map_append];refine kn8 hw hg n _ _ sc hs fun y hy=>?_;rcases List.mem_append.1 hy with hy | hy
   ·exact hW' y hy
   ·unfold kidsS at hy;simp only[List.mem_cons,List.not_mem_nil,or_false]at hy;rcases hy with rfl | rfl<;>exact List.filter_sublist.trans hx
theorem kbbe(hl:labels.length=z)(hs:sc.length=z):gradS c sc.reverse labels.reverse=(gradS c sc labels).reverse:=by
 unfold gradS;apply List.ext_getElem
 ·simp
 intro j h1 h2;have hj:j<z:=by simp at h1;omega
 have e:∀l:List Int,l.length=z→l.reverse.getD j 0=l.getD (z-1-j) 0:=fun l h=>by
  have:=kkv (l:=l) h (i:=z-1-j) (by omega);rwa[show z-1-(z-1-j)=j by omega]at this
 rw[List.getElem_reverse,List.getElem_map,List.getElem_map,List.getElem_range,List.getElem_range,e _ hs,e _ hl,List.length_map,List.length_range,hl]
theorem kzi(z:Nat):mirW z (firstW z)=firstW z:=by
 unfold mirW firstW;congr 1;unfold mir;apply List.ext_getElem
 ·simp
 intro j h1 h2;simp at h1 h2;rw[List.getElem_reverse];simp;omega
theorem kyq(hw:Wide ts z)(hl:labels.length=z)(hs:sc.length=z):treeS c (ts.map revT) labels.reverse sc.reverse=((treeS c ts labels sc).1,(treeS c ts labels sc).2.reverse):=by
 unfold treeS;rw[kbbe hl hs,List.length_reverse,hl]
 have h:=kn8 (c:=c) hw (g:=gradS c sc labels) (by simp[gradS,hl]) 64 [firstW z] [Nd.no] sc hs fun x hx=>by
  rw[List.mem_singleton.1 hx];exact List.Sublist.refl _
 rw[List.map_cons,List.map_nil,kzi]at h;exact h
theorem knr(c:Cfg)(ts:List Tb)(g:List Int):∀(n:Nat)(W:List Wt)(nodes:List Nd)(sc:List Int),(growS c ts g n W nodes sc).2.length=sc.length
 | 0,W,nodes,sc=>rfl
 | n+1,[],nodes,sc=>rfl
 | n+1,x::W,nodes,sc=>by
  rw[growS];cases bestS c ts g x with
  | nil=>exact(knr c ts g n W _ _).trans (ki7 _ _ _)
  | cons b bs=>exact knr c ts g n _ _ sc
theorem kr7(hw:Wide ts z)(hl:labels.length=z):∀(n:Nat)(m:List (List Nd))(sc:List Int),sc.length=z→(trainS c (ts.map revT) labels.reverse n m sc.reverse).1=(trainS c ts labels n m sc).1
 | 0,m,sc,_=>rfl
 | n+1,m,sc,hs=>by
  rw[trainS,trainS,kyq hw hl hs];exact kr7 hw hl n _ _ ((knr c ts _ 64 _ _ sc).trans hs)
theorem k4i(t:Tb):tabR (revT t)=tabR t:=by
 have hc:(revT t).cols.length=t.cols.length:=List.length_map _
 have hi:idsR (revT t).ids=idsR t.ids:=by
  unfold idsR;show(decide (t.ids.reverse.length≤256)&&(!(t.ids.reverse.any _)&&decide t.ids.reverse.Nodup))=_;rw[List.length_reverse,List.any_reverse];congr 2;rw[decide_eq_decide];exact⟨fun h=>by have:=knp h;rwa[List.reverse_reverse]at this,knp⟩
 have hk:colR (revT t)=colR t:=by
  funext i;unfold colR;show(!decide (t.bins.getD i 0<2)&&!decide (t.bins.getD i 0>32)&&decide (((t.cols.map List.reverse).getD i []).length=t.ids.reverse.length)&&!((t.cols.map List.reverse).getD i []).any _)=_;rw[krr,List.length_reverse,List.length_reverse,List.any_reverse];rfl
 unfold tabR;rw[hi,hc,hk];rfl
theorem kbaz(h:faultC c ts labels=0):faultC c (ts.map revT) labels.reverse=0:=by
 obtain⟨hc,hts0,h16,hbad,hll,hodd⟩:=kip h;have h0:ts.length≠0:=fun e=>hts0 (List.length_eq_zero_iff.1 e);have hi0:((ts.map revT).getD 0 Tb.no).ids=(ts.getD 0 Tb.no).ids.reverse:=by rw[tb_rev];rfl
 have hb:badT (ts.map revT)=false:=by
  unfold badT;rw[hi0,List.any_map,← hbad];unfold badT;congr 1;funext t;show(!tabR (revT t)||(!decide (t.ids.reverse=_)||decide (t.ids.reverse.length=0)))=_;rw[k4i,List.length_reverse];congr 3;exact decide_eq_decide.2 List.reverse_inj
 have ho:oddL labels.reverse=false:=by
  unfold oddL at hodd⊢;rw[List.any_reverse];exact hodd
 unfold faultC;rw[hc,hb,ho,hi0,List.length_map,List.length_reverse,List.length_reverse,hll];simp[h0];omega
theorem k5c(hbad:badT ts=false)(hll:labels.length=(ts.getD 0 Tb.no).ids.length):Wide ts labels.length:=by
 intro p f hf;rcases Nat.lt_or_ge p ts.length with hp | hp
 ·have e:ts.getD p Tb.no=ts[p]:=by simp[List.getD,hp]
  rw[e]at hf⊢;obtain⟨a,b,_⟩:=knd hbad hp;obtain⟨hids,hcols,hbins,hall⟩:=kf8 a;obtain⟨hb,hb2,hb32,hcl⟩:=kgu (hall f hf) hf hbins;have:ts[p].cols.getD f []=ts[p].cols[f]:=by simp[List.getD,hf]
  rw[this,hcl,b,hll]
 ·have e:ts.getD p Tb.no=Tb.no:=by
   rw[List.getD,List.getElem?_eq_none hp];rfl
  rw[e]at hf;exact absurd hf (Nat.not_lt_zero _)
theorem k8a(h:faultC c ts labels=0):(trainC c (ts.map revT) labels.reverse).1=(trainC c ts labels).1∧(trainC c (ts.map revT) labels.reverse).2.2=0:=by
 obtain⟨hc,hts0,h16,hbad,hll,hodd⟩:=kip h;unfold trainC;rw[if_pos h,if_pos (kbaz h),List.length_reverse];refine⟨?_,rfl⟩;have:=kr7 (c:=c) (k5c hbad hll) rfl c.trees.toNat [] (List.replicate labels.length 0) (by simp);rw[List.reverse_replicate]at this;exact this
end
end Go.Ab

/- squeezed -/
set_option maxRecDepth 10000
namespace Go.Ab
open Go.Proofs Go.Num Go.Heap
@[reducible] def nilT:Sl:=⟨none,0,.is 0⟩
theorem kbbf{n:Nat}(h:n≤1000000):growOk Pg n T.kbm 1=true:=by
 unfold growOk;rw[k9w,k7x];have h1:n*24≤ki:=by simp only[ki];omega
 have h2:n≤ki:=by simp only[ki];omega
 simp[h1,h2]
theorem kxs{n:Nat}(h:n≤1000000):growOk Pg n T.kbi 3=true:=by
 unfold growOk;rw[kw9,kbao];have h1:n*72≤ki:=by simp only[ki];omega
 have h2:n*3≤ki:=by simp only[ki];omega
 have h3:n≤ki:=by simp only[ki];omega
 simp[h1,h2,h3]
theorem LeO.down{n:Nat}:∀{j:Option Nat},LeO (n+1) j→LeO n j
 | none,_=>trivial
 | some k,h=>Nat.le_of_succ_le h
theorem kqe{l:List Int}{k:Nat}(hk:k<l.length):(l.drop k).reverse=(l.drop (k+1)).reverse++[l[k]]:=by
 rw[List.drop_eq_getElem_cons hk,List.reverse_cons]
structure TnAt(h0:AH)(I:List Int)(s2:Sl)(L:List (List Int))(u w:Sl)(ju jc:Option Nat)(Sc:Fp)(h:AH):Prop where
 g:Grow h0 h
 lu:LeO (h0.blks.size+1) ju
 lc:LeO (h0.blks.size+1) jc
 sc:∀m,Sc m→h0.blks.size+1≤m
 ne:∀k,ju=some k→jc≠some k∧¬Sc k
 b:h.has h0.blks.size [u.v,s2.v,w.v] T.kbi
 u:GF EI T.int h Fp.no u ju I
 w:GF (Ef.seq EI) T.kbm h Sc w jc L
theorem TnAt.grow{h0 h h':AH}{I:List Int}{s2:Sl}{L:List (List Int)}{u w:Sl}{ju jc:Option Nat}{Sc:Fp}(A:TnAt h0 I s2 L u w ju jc Sc h)(g:Grow h h'):TnAt h0 I s2 L u w ju jc Sc h' :=
 ⟨A.g.trans g,A.lu,A.lc,A.sc,A.ne,g.has A.b,A.u.grow g,A.w.grow g⟩
section
variable{h0:AH}{tsl ls l:Sl}{ts:List Tb}{labels:List Int}{St:Fp}{p kc km:Nat}{s2:Sl}{P:AV→AH→Prop}
theorem k8l(Qt:Sq Ef.tb h0 St tsl ts)(hp:p<ts.length)(hz:ts[p].ids.length≤256)
  (H:∀h u j,TnAt h0 ts[p].ids.reverse s2 [] u nilT j none Fp.no h→Runs (go (.pt F.kbg Td.kie [(1,tsl.v),(2,ls.v),(3,.ptr (some (.new kc 0))),(9,.ptr (some (.new km 0))),(11,l.v),(12,.int .i64 (p:Int)),(13,.ptr (some (.new h0.blks.size 0))),(15,.int .i64 0)]) h) P) :
  ∀(k:Nat),k≤ts[p].ids.length→∀(h:AH)(u:Sl)(j:Option Nat),TnAt h0 (ts[p].ids.drop k).reverse s2 [] u nilT j none Fp.no h→
  Runs (go (.pt F.kbg Td.knk [(1,tsl.v),(2,ls.v),(3,.ptr (some (.new kc 0))),(9,.ptr (some (.new km 0))),(11,l.v),(12,.int .i64 (p:Int)),(13,.ptr (some (.new h0.blks.size 0))),(14,.int .i64 ((k:Int)-1))]) h) P:=by
 intro k
 induction k with
 | zero =>
  intro hk h u j A;rw[ksk];refine Runs.ifF (decide_eq_false (by omega)) (H h u j ?_)
  simpa using A
 | succ k ih =>
  intro hk h u j A;obtain⟨g,lu,lc,sc,ne,b,V,W⟩:=A;have hlt:k<ts[p].ids.length:=by omega
  obtain⟨r,s1,s2',s3,e,c1,c2,c3,n⟩:=(Qt.grow g).tb hp;obtain⟨r2,e1,e2⟩:=n.ids.int hlt;rw[ksk,show((k+1:Nat):Int)-1=(k:Int) by omega];refine Runs.ifT (decide_eq_true (by omega)) (Runs.step (b.rd 0 rfl (asSl_v _)) (Runs.step e (Runs.step c1 (Runs.step e1 (Runs.step e2 (Runs.new fun h2 b2 g2=>?_))))));refine Runs.when (g2.same b 0 1) ?_;refine Runs.step (kc2 b2 (by rw[kew];rfl)) ?_;obtain⟨t',h3,e7,V3,u3⟩:=(V.grow g2).push (T:=Fp.no) (cs:=[.int .i64 ts[p].ids[k]]) (x:=ts[p].ids[k]) rfl NotO.no (kjw (by rw[List.length_reverse,List.length_drop];omega));refine Runs.step e7 (Runs.step (asSl_v _) ?_);have zb:=b.lt;have z2:=g2.size;have m3:Md (Fp.opt j) h2 h3:=u3.md fun k e=>e;have b3:=m3.has (g2.has b) (fun e=>by have:=opt_ge lu e;omega);refine Runs.putAt (o:=0) (cs':=[t'.v,s2.v,nilT.v]) b3 (by simp) rfl fun h4 b4 u4=>?_;rw[wrap64 (by omega) (by omega)];refine ih (by omega) h4 t' (some h2.blks.size) ⟨((g.trans g2).updo lu.down u3).updr (Nat.le_refl _) u4,show _≤_ by omega,trivial,fun m a=>a.elim,fun k e=>⟨(fun x=>nomatch x),id⟩,b4,?_,GF.none (Ef.seq EI) T.kbm h4 Fp.no⟩;rw[kqe hlt];exact(V3.mono (fun j x=>x.1.elim id id) NotO.no).upd u4 Fp.not_no fun k e=>by cases e;omega
theorem k4b{I:List Int}{L:List (List Int)}{u w:Sl}{ju jc:Option Nat}{Sc:Fp}{hs:AH}(Qt:Sq Ef.tb h0 St tsl ts)(hp:p<ts.length){f:Nat}(hf:f<ts[p].cols.length)(hc:ts[p].cols[f].length≤256)(hL:L.length≤256)(A:TnAt h0 I s2 L u w ju jc Sc hs)
  (H:∀h w' jc' Sc',TnAt h0 I s2 (L++[ts[p].cols[f].reverse]) u w' ju jc' Sc' h→Runs (go (.pt F.kbg Td.kie [(1,tsl.v),(2,ls.v),(3,.ptr (some (.new kc 0))),(9,.ptr (some (.new km 0))),(11,l.v),(12,.int .i64 (p:Int)),(13,.ptr (some (.new h0.blks.size 0))),(15,.int .i64 (IntKind.wrap .i64 ((f:Int)+1)))]) h) P) :
  ∀(k:Nat),k≤ts[p].cols[f].length→∀(h:AH)(v:Sl)(j:Option Nat),Grow hs h→LeO hs.blks.size j→GF EI T.int h Fp.no v j (ts[p].cols[f].drop k).reverse→
  Runs (go (.pt F.kbg Td.kkn [(1,tsl.v),(2,ls.v),(3,.ptr (some (.new kc 0))),(9,.ptr (some (.new km 0))),(11,l.v),(12,.int .i64 (p:Int)),(13,.ptr (some (.new h0.blks.size 0))),(15,.int .i64 (f:Int)),(16,v.v),(17,.int .i64 ((k:Int)-1))]) h) P:=by
 intro k
 induction k with
 | zero =>
  intro hk h v j gs lj V;have luz:=A.u.lt;have lbz:=A.b.lt;obtain⟨g,lu,lc,sc,ne,b,U,W⟩:=A.grow gs;rw[ks4];refine Runs.ifF (decide_eq_false (by omega)) (Runs.step (b.rd 2 rfl (asSl_v _)) (Runs.new fun h2 b2 g2=>?_));refine Runs.step (kc2 b2 (by rw[kn3];rfl)) ?_;have hd:(ts[p].cols[f].drop 0).reverse=ts[p].cols[f].reverse:=by rw[List.drop_zero]
  rw[hd]at V;have zb:=b.lt;have z2:=g2.size;have zs:=gs.size;have wl:=W.lt
  obtain⟨w',h3,e3,W3,u3⟩:=(W.grow g2).push (P:=Pg) (T:=Fp.opt j) (cs:=[v.v]) (x:=ts[p].cols[f].reverse) ⟨v,rfl,(V.grow g2).sq.mono fun m a=>a.elim id False.elim⟩ (by
   cases jc with
   | none=>trivial
   | some y =>
    intro e;have h1:=opt_ge lj e;have h2:=opt_lt A.w.lt (rfl:some y=some y);omega) (kbbf (by omega))
  refine Runs.step e3 (Runs.step (asSl_v _) ?_);have m3:Md (Fp.opt jc) h2 h3:=u3.md fun k e=>e;have b3:=m3.has (g2.has b) (fun e=>by have:=opt_ge lc e;omega);refine Runs.putAt (o:=2) (cs':=[u.v,s2.v,w'.v]) b3 (by simp) rfl fun h4 b4 u4=>?_
  have hF:∀m,((Fp.or Sc (Fp.opt j)) m∧m<h2.blks.size)→h0.blks.size+1≤m:=fun m a=>by
   rcases a.1 with a | a
   ·exact sc m a
   ·have:=opt_ge lj a;omega
  refine H h4 w' (some h2.blks.size) _ ⟨((g.trans g2).updo lc.down u3).updr (Nat.le_refl _) u4,lu,show _≤_ by omega,hF,fun k e=>⟨fun x=>?_,fun x=>?_⟩,b4,?_,W3.upd u4 (fun a=>by have:=hF _ a;omega) fun k e=>by cases e;omega⟩
  ·cases x;have:=opt_lt luz e;omega
  ·rcases x.1 with a | a
   ·exact(ne k e).2 a
   ·have h1:=opt_ge lj a;have h2:=opt_lt luz e;omega
  ·exact(GF.md m3 (S:=Fp.no) (fun j a _=>a) (U.grow g2) fun k e a=>(ne k e).1 a).upd u4 Fp.not_no fun k e=>by have:=opt_ge lu e;omega
 | succ k ih =>
  intro hk h v j gs lj V;have hlt:k<ts[p].cols[f].length:=by omega
  obtain⟨r,s1,s2',s3,e,c1,c2,c3,n⟩:=(Qt.grow (A.g.trans gs)).tb hp;obtain⟨r1,t,e1,e2,-,n'⟩:=n.cols.sl hf;obtain⟨r2,e3,e4⟩:=n'.int hlt;rw[ks4,show((k+1:Nat):Int)-1=(k:Int) by omega];refine Runs.ifT (decide_eq_true (by omega)) (Runs.step e (Runs.step c3 (Runs.step e1 (Runs.step e2 (Runs.step e3 (Runs.step e4 (Runs.new fun h2 b2 g2=>?_)))))));refine Runs.step (kc2 b2 (by rw[kew];rfl)) ?_;obtain⟨t',h3,e7,V3,u3⟩:=(V.grow g2).push (T:=Fp.no) (cs:=[.int .i64 ts[p].cols[f][k]]) (x:=ts[p].cols[f][k]) rfl NotO.no (kjw (by rw[List.length_reverse,List.length_drop];omega));refine Runs.step e7 (Runs.step (asSl_v _) ?_);rw[wrap64 (by omega) (by omega)];refine ih (by omega) h3 t' (some h2.blks.size) ((gs.trans g2).updo lj u3) (show _≤_ from(gs.trans g2).size) ?_;rw[kqe hlt];exact V3.mono (fun j x=>x.1.elim id id) NotO.no
theorem k7a{I:List Int}{u:Sl}{ju:Option Nat}{hB:AH}(GB:Grow hB h0)(hll:ls.len=labels.length)(Qt:Sq Ef.tb h0 St tsl ts)(hp:p<ts.length)(hp16:ts.length≤16)(hL:labels.length≤256)(hc:∀(f:Nat)(hf:f<ts[p].cols.length),ts[p].cols[f].length=labels.length)(hcl:ts[p].cols.length≤16){S:Fp}{jl:Option Nat}{D:List Tb}(O:GF Ef.tb T.kbi h0 S l jl D)(hD:D.length≤16){s1 s3:Sl}(qt:TabAt h0 St s1 s2 s3 ts[p])(hSt:∀m,St m→m<hB.blks.size)(lB:LeO hB.blks.size jl)
  (H:∀h l' jl' S',Grow hB h→LeO hB.blks.size jl'→GF Ef.tb T.kbi h S' l' jl' (D++[⟨I,ts[p].bins,ts[p].cols.map List.reverse⟩])→Runs (go (.pt F.kbg Td.kjl [(1,tsl.v),(2,ls.v),(3,.ptr (some (.new kc 0))),(9,.ptr (some (.new km 0))),(11,l'.v),(12,.int .i64 ((p+1:Nat):Int))]) h) P) :
  ∀(k f:Nat),f+k=ts[p].cols.length→∀(h:AH)(w:Sl)(jc:Option Nat)(Sc:Fp),TnAt h0 I s2 ((ts[p].cols.take f).map List.reverse) u w ju jc Sc h→
  Runs (go (.pt F.kbg Td.kie [(1,tsl.v),(2,ls.v),(3,.ptr (some (.new kc 0))),(9,.ptr (some (.new km 0))),(11,l.v),(12,.int .i64 (p:Int)),(13,.ptr (some (.new h0.blks.size 0))),(15,.int .i64 (f:Int))]) h) P:=by
 intro k
 induction k with
 | zero =>
  intro f hf h w jc Sc A;obtain⟨r,r1,r2,r3,e,c1,c2,c3,n⟩:=(Qt.grow A.g).tb hp;obtain⟨g,lu,lc,sc,ne,b,U,W⟩:=A;rw[List.take_of_length_le (by omega)]at W;rw[kuh];refine Runs.step e (Runs.step c3 ?_);rw[n.cols.len];refine Runs.ifF (decide_eq_false (by omega)) (Runs.step (b.rd 0 rfl (asSl_v _)) (Runs.step (b.rd 1 rfl (asSl_v _)) (Runs.step (b.rd 2 rfl (asSl_v _)) (Runs.new fun h2 b2 g2=>?_))));refine Runs.step (kc2 b2 (by rw[kpg];rfl)) ?_;have G2:=g.trans g2
  obtain⟨l',h3,e3,O3,u3⟩:=(O.grow G2).push (P:=Pg) (T:=fun m=>St m∨h0.blks.size+1≤m) (cs:=[u.v,s2.v,w.v]) (x:=⟨I,ts[p].bins,ts[p].cols.map List.reverse⟩) ⟨u,s2,w,rfl,(U.grow g2).sq.mono fun m a=>.inr (a.elim (fun e=>opt_ge lu e) fun e=>e.elim),(qt.bins.grow G2).mono fun m a=>.inl a,(W.grow g2).sq.mono fun m a=>.inr (a.elim (fun e=>opt_ge lc e) fun e=>sc m e)⟩ (by
   cases jl with
   | none=>trivial
   | some y =>
    have h1:=opt_ge lB (rfl:some y=some y);have h2:=opt_lt O.lt (rfl:some y=some y);intro a;rcases a with a | a
    ·have:=hSt _ a;omega
    ·omega) (kxs (by omega))
  refine Runs.step e3 (Runs.step (asSl_v _) ?_);rw[kq (by omega)];exact H h3 l' (some h2.blks.size) _ ((GB.trans G2).updo lB u3) (show _≤_ from(GB.trans G2).size) O3
 | succ k ih =>
  intro f hf h w jc Sc A;have hf':f<ts[p].cols.length:=by omega
  obtain⟨r,r1,r2,r3,e,c1,c2,c3,n⟩:=(Qt.grow A.g).tb hp;have hcf:=hc f hf';rw[kuh];refine Runs.step e (Runs.step c3 ?_);rw[n.cols.len];refine Runs.ifT (decide_eq_true (by omega)) ?_;rw[hll,wrap64 (by omega) (by omega)];refine k4b Qt hp hf' (by omega) (by rw[List.length_map,List.length_take];omega) A (fun h' w' jc' Sc' A'=>?_) labels.length (by omega) h _ none (Grow.refl _) trivial ?_
  ·rw[kq (by omega)];refine ih (f+1) (by omega) h' w' jc' Sc' ?_;rw[List.take_succ_eq_append_getElem hf',List.map_append];exact A'
  ·rw[List.drop_of_length_le (by omega)];exact GF.none EI T.int h Fp.no
theorem kba0{hB:AH}(hll:ls.len=labels.length)(Qt:Sq Ef.tb hB St tsl ts)(hp16:ts.length≤16)(hL:labels.length≤256)(hts:∀(p:Nat)(hp:p<ts.length),tabR ts[p]=true∧ts[p].ids.length=labels.length)(hSt:∀m,St m→m<hB.blks.size)
  (H:∀h l' S',Grow hB h→Sq Ef.tb h S' l' (ts.map revT)→Runs (go (.pt F.kbg Td.khj [(2,ls.v),(3,.ptr (some (.new kc 0))),(9,.ptr (some (.new km 0))),(11,l'.v),(18,nilT.v),(19,.int .i64 ((labels.length:Int)-1))]) h) P) :
  ∀(k i:Nat),i+k=ts.length→∀(h:AH)(l:Sl)(jl:Option Nat)(S:Fp),Grow hB h→LeO hB.blks.size jl→GF Ef.tb T.kbi h S l jl ((ts.take i).map revT)→
  Runs (go (.pt F.kbg Td.kjl [(1,tsl.v),(2,ls.v),(3,.ptr (some (.new kc 0))),(9,.ptr (some (.new km 0))),(11,l.v),(12,.int .i64 (i:Int))]) h) P:=by
 intro k
 induction k with
 | zero =>
  intro i hi h l jl S G lB O;rw[List.take_of_length_le (by omega)]at O;rw[kwx,Qt.len];refine Runs.ifF (decide_eq_false (by omega)) ?_;rw[hll,wrap64 (by omega) (by omega)];exact H h l _ G O.sq
 | succ k ih =>
  intro i hi h l jl S G lB O;have hlt:i<ts.length:=by omega
  obtain⟨hR,hid⟩:=hts i hlt;obtain⟨hids,hcols,hbins,hall⟩:=kf8 hR;obtain⟨r,s1,s2,s3,e,c1,c2,c3,n⟩:=(Qt.grow G).tb hlt;rw[kwx];refine Runs.ifT (decide_eq_true (by rw[Qt.len];omega)) (Runs.step e (Runs.step c2 (Runs.new fun h1 b1 g1=>Runs.puts b1 rfl fun h2 b2 u2=>?_)));have g2:Grow h h2:=g1.updr (Nat.le_refl _) u2;rw[hll,wrap64 (by omega) (by omega)];refine k8l (h0:=h) (s2:=s2) (Qt.grow G) hlt (by omega) (fun h3 u j A=>?_) labels.length (by omega) h2 _ none ⟨g2,trivial,trivial,(fun m a=>a.elim),(fun k e=>by cases e),b2,?_,GF.none (Ef.seq EI) T.kbm h2 Fp.no⟩
  ·refine k7a G hll (Qt.grow G) hlt hp16 hL (fun f hf=>?_) hcols O (by rw[List.length_map,List.length_take];omega) n hSt lB (fun h4 l' jl' S' G4 lB' O'=>?_) ts[i].cols.length 0 (by omega) h3 nilT none Fp.no A
   ·obtain⟨hb,hb2,hb32,hcl⟩:=kgu (hall f hf) hf hbins;rw[hcl,hid]
   ·refine ih (i+1) (by omega) h4 l' jl' S' G4 lB' ?_;rw[List.take_succ_eq_append_getElem hlt,List.map_append];exact O'
  ·rw[List.drop_of_length_le (by omega)];exact GF.none EI T.int h2 Fp.no
theorem kbba{hB:AH}{SL:Fp}(hL:labels.length≤256)(Q:Sq EI hB SL ls labels)
  (H:∀h v S',Grow hB h→Sq EI h S' v labels.reverse→Runs (go (.pt F.kbg Td.khj [(2,ls.v),(3,.ptr (some (.new kc 0))),(9,.ptr (some (.new km 0))),(11,l.v),(18,v.v),(19,.int .i64 (((0:Nat):Int)-1))]) h) P) :
  ∀(k:Nat),k≤labels.length→∀(h:AH)(v:Sl)(j:Option Nat),Grow hB h→LeO hB.blks.size j→GF EI T.int h Fp.no v j (labels.drop k).reverse→
  Runs (go (.pt F.kbg Td.khj [(2,ls.v),(3,.ptr (some (.new kc 0))),(9,.ptr (some (.new km 0))),(11,l.v),(18,v.v),(19,.int .i64 ((k:Int)-1))]) h) P:=by
 intro k
 induction k with
 | zero =>
  intro hk h v j G lj V;rw[List.drop_zero]at V;exact H h v _ G V.sq
 | succ k ih =>
  intro hk h v j G lj V;have hlt:k<labels.length:=by omega
  obtain⟨r2,e3,e4⟩:=(Q.grow G).int hlt;rw[krt,show((k+1:Nat):Int)-1=(k:Int) by omega];refine Runs.ifT (decide_eq_true (by omega)) (Runs.step e3 (Runs.step e4 (Runs.new fun h2 b2 g2=>?_)));refine Runs.step (kc2 b2 (by rw[kew];rfl)) ?_;obtain⟨t',h3,e7,V3,u3⟩:=(V.grow g2).push (T:=Fp.no) (cs:=[.int .i64 labels[k]]) (x:=labels[k]) rfl NotO.no (kjw (by rw[List.length_reverse,List.length_drop];omega));refine Runs.step e7 (Runs.step (asSl_v _) ?_);rw[wrap64 (by omega) (by omega)];refine ih (by omega) h3 t' (some h2.blks.size) ((G.trans g2).updo lj u3) (show _≤_ from(G.trans g2).size) ?_;rw[kqe hlt];exact V3.mono (fun j x=>x.1.elim id id) NotO.no
end
theorem k1o(c:Cfg)(ts:List Tb)(labels:List Int):faultC c ts labels=0∨faultC c ts labels=1∨faultC c ts labels=20:=by
 unfold faultC
 repeat' split
 all_goals simp
theorem CentralTurnedCard_law(h:AH)(T0:Tab h){x1 x2 x3:AV}(z1:ArgV Pg h T.kb0 x1)(z2:ArgV Pg h T.kol x2)(z3:ArgV Pg h T.kbm x3):∃h',go (.fn F.kbg [x1,x2,x3]) h=some (.bool true,h'):=by
 obtain⟨c,rfl⟩:=cfg_of z1;obtain⟨tsl,ts,rfl,Qt⟩:=k33 z2;obtain⟨ls,labels,rfl,Q⟩:=int_of z3
 suffices H:Runs (go (.fn F.kbg [.agg [.int .i64 c.trees,.int .i64 c.depth,.int .i64 c.lambda,.int .i64 c.gamma,.int .i64 c.num,.int .i64 c.den,.int .i64 c.loss,.int .i64 c.clip],tsl.v,ls.v]) h) fun v _=>v=.bool true by
  obtain⟨_,h',e,rfl⟩:=H;exact⟨h',e⟩
 rw[kbbl];refine Runs.new fun h1 b1 g1=>?_;refine(kxp (T0.grow g1)).call fun v h2 ⟨e,g2⟩=>?_;subst e;have G2:=g1.trans g2;have B2:=g2.has b1;refine Runs.step (seen rfl) ?_;refine Runs.step (B2.rd 0 rfl (kb _ _)) (Runs.step (B2.rd 1 rfl (kb _ _)) (Runs.step (B2.rd 2 rfl (kb _ _)) (Runs.step (B2.rd 3 rfl (kb _ _)) (Runs.step (B2.rd 4 rfl (kb _ _)) (Runs.step (B2.rd 5 rfl (kb _ _)) (Runs.step (B2.rd 6 rfl (kb _ _)) (Runs.step (B2.rd 7 rfl (kb _ _)) ?_)))))));refine(few_is (c:=c) (Qt.grow G2)).call fun v h3 ⟨⟨r,e⟩,g3⟩=>?_;subst e;have G3:=G2.trans g3;have B3:=g3.has B2;refine Runs.step (seen rfl) (Runs.ifF rfl (Runs.cond (fun _=>Runs.ret rfl) fun _=>?_));refine Runs.step (B3.rd 0 rfl (kb _ _)) (Runs.step (B3.rd 1 rfl (kb _ _)) (Runs.step (B3.rd 2 rfl (kb _ _)) (Runs.step (B3.rd 3 rfl (kb _ _)) (Runs.step (B3.rd 4 rfl (kb _ _)) (Runs.step (B3.rd 5 rfl (kb _ _)) (Runs.step (B3.rd 6 rfl (kb _ _)) (Runs.step (B3.rd 7 rfl (kb _ _)) ?_)))))));refine(kn2 (c:=c) (T0.grow G3) (Qt.grow G3) (Q.grow G3)).call fun v h4 ⟨s,e,V,g4⟩=>?_;subst e;refine Runs.step rfl (Runs.step rfl (Runs.ifT rfl (Runs.step (seenAt rfl (asSl_v _)) (Runs.step (seen (kb _ _)) ?_))));refine Runs.new fun h5 b5 g5=>Runs.puts b5 rfl fun h6 b6 u6=>?_;have g46:Grow h4 h6:=g5.updr (Nat.le_refl _) u6;have G6:=(G3.trans g4).trans g46;have B6:=(g4.trans g46).has B3
 have he:(trainC c ts labels).2.2=faultC c ts labels:=by
  unfold trainC;split
  ·rename_i h;exact h.symm
  ·rfl
 rw[he];refine Runs.cond (fun a=>?_) fun a=>?_
 ·rcases k1o c ts labels with hf | hf | hf
  ·rw[hf]at a;cases a
  ·rw[hf];exact Runs.ifT rfl (Runs.ret rfl)
  ·rw[hf];exact Runs.ifF rfl (Runs.ret rfl)
 have hf:faultC c ts labels=0:=by simpa using a
 obtain⟨hc,hts0,h16,hbad,hll,hodd⟩:=kip hf;have hp:0<ts.length:=List.length_pos_iff.2 hts0
 have hz:∀(p:Nat)(hp:p<ts.length),tabR ts[p]=true∧ts[p].ids.length=labels.length:=fun p hp=>by
  obtain⟨a,b,_⟩:=knd hbad hp;exact⟨a,by rw[b,hll]⟩
 have hL:labels.length≤256:=by
  rw[← (hz 0 hp).2];exact(kf8 (hz 0 hp).1).1
 refine kba0 (labels:=labels) (Q.grow G6).len (Qt.grow G6).bound h16 hL hz (fun m a=>a.2) (fun h7 l' S' G7 O=>?_) ts.length 0 (by omega) h6 _ none Fp.no (Grow.refl _) trivial (GF.none Ef.tb T.kbi h6 Fp.no);refine kbba hL ((Q.grow G6).grow G7) (fun h8 v S8 G8 W=>?_) labels.length (Nat.le_refl _) h7 _ none (Grow.refl _) trivial ?_
 ·rw[krt];have B8:=(G7.trans G8).has B6;refine Runs.ifF (decide_eq_false (by omega)) ?_;refine Runs.step (B8.rd 0 rfl (kb _ _)) (Runs.step (B8.rd 1 rfl (kb _ _)) (Runs.step (B8.rd 2 rfl (kb _ _)) (Runs.step (B8.rd 3 rfl (kb _ _)) (Runs.step (B8.rd 4 rfl (kb _ _)) (Runs.step (B8.rd 5 rfl (kb _ _)) (Runs.step (B8.rd 6 rfl (kb _ _)) (Runs.step (B8.rd 7 rfl (kb _ _)) ?_)))))));refine(kn2 (c:=c) (T0.grow ((G6.trans G7).trans G8)) (O.grow G8) W).call fun v h9 ⟨s9,e,V9,g9⟩=>?_;subst e;obtain⟨q1,q2⟩:=k8a hf;rw[q1]at V9;rw[q2];refine Runs.step rfl (Runs.step rfl (Runs.ifT rfl (Runs.step (seenAt rfl (asSl_v _)) (Runs.step (seen (kb _ _)) ?_))));refine Runs.new fun h10 b10 g10=>Runs.puts b10 rfl fun h11 b11 u11=>?_;have g911:Grow h9 h11:=g10.updr (Nat.le_refl _) u11;have g611:=((G7.trans G8).trans g9).trans g911;refine Runs.step ((g611.has b6).rd 0 rfl (asSl_v _)) (Runs.step (b11.rd 0 rfl (asSl_v _)) ?_);refine(k0n (V.grow (g46.trans g611)) (V9.grow g911)).call fun v h12 ⟨e,g12⟩=>?_;subst e;exact Runs.step (seen rfl) (Runs.ifT rfl (Runs.ret rfl))
 ·rw[List.drop_length];exact GF.none EI T.int h7 Fp.no
end Go.Ab
