/- Words and laws that the last text joins. -/
import Derived.Test.YtndomkpijjibiaaGreatDoorPE5
import Derived.Test.YtndomkpijjibiaaGreatDoorPH20
import Derived.Test.YtndomkpijjibiaaGreatDoorPS37
set_option linter.unusedVariables false
set_option linter.unusedSimpArgs false
set_option linter.unusedSectionVars false
set_option maxRecDepth 10000
namespace Go.Ab
open Go.Proofs Go.Num
def Tb.no:Tb:=⟨[],[],[]⟩
def rowT(ts:List Tb)(i:Nat):List (List Int):=ts.map fun t=>t.cols.map fun l=>l.getD i 0
theorem opt_lt{n k:Nat}:∀{j:Option Nat},LtO n j→j=some k→k<n
 | some _,l,e=>by cases e;exact l
theorem opt_ge{n k:Nat}:∀{j:Option Nat},LeO n j→j=some k→n≤k
 | some _,l,e=>by cases e;exact l
@[reducible] def Ef.tb:Ef Tb where
 w:=3
 pos:=by decide
 has h S cs t:=∃s1 s2 s3:Sl,cs=[s1.v,s2.v,s3.v]∧TabAt h S s1 s2 s3 t
 len:=fun⟨_,_,_,e,_⟩=>by rw[e];rfl
 grow g:=fun⟨a,b,c,e,n⟩=>⟨a,b,c,e,n.grow g⟩
 mono f:=fun⟨a,b,c,e,n⟩=>⟨a,b,c,e,⟨n.ids.mono f,n.bins.mono f,n.cols.mono f⟩⟩
 upd no u:=fun⟨a,b,c,e,n⟩=>⟨a,b,c,e,⟨n.ids.upd no u,n.bins.upd no u,n.cols.upd no u⟩⟩
 bound:=fun⟨a,b,c,e,n⟩=>⟨a,b,c,e,⟨n.ids.bound,n.bins.bound,n.cols.bound⟩⟩
theorem Sq.tb{h:AH}{S:Fp}{s:Sl}{ts:List Tb}(n:Sq Ef.tb h S s ts){i:Nat}(hi:i<ts.length):∃(r:Ref)(s1 s2 s3:Sl),idx s.ref s.len (i:Int) 3=some r∧(h.cell (r.add 0)).bind AV.asSl=some s1∧(h.cell (r.add 1)).bind AV.asSl=some s2∧(h.cell (r.add 2)).bind AV.asSl=some s3∧TabAt h S s1 s2 s3 ts[i]:=by
 obtain⟨r,cs,e1,⟨s1,s2,s3,rfl,t⟩,l⟩:=n.at (kd2 hi);rw[n.len];exact⟨r,s1,s2,s3,e1,l.rd (Grow.refl _) 0 rfl (asSl_v _),l.rd (Grow.refl _) 1 rfl (asSl_v _),l.rd (Grow.refl _) 2 rfl (asSl_v _),t⟩
theorem k3d{n:Nat}(h:n≤1000000):growOk Pg n kbr 1=true:=by
 unfold growOk;rw[kbdx,kbad];have h1:n*24≤kg:=by simp only[kg];omega
 have h2:n≤kg:=by simp only[kg];omega
 simp[h1,h2]
theorem k9h{n:Nat}(h:n≤1000000):growOk Pg n ku 3=true:=by
 unfold growOk;rw[k1g,k60];have h1:n*72≤kg:=by simp only[kg];omega
 have h2:n*3≤kg:=by simp only[kg];omega
 have h3:n≤kg:=by simp only[kg];omega
 simp[h1,h2,h3]
def evalN(row:List (List Int))(t:List Nd):Nat→Nat→Option Int
 | 0,_=>none
 | f+1,i=>if(t.getD i Nd.no).leaf=true then some (t.getD i Nd.no).weight else if(t.getD i Nd.no).party≥(row.length:Int)then none
  else if(t.getD i Nd.no).feature≥((row.getD (t.getD i Nd.no).party.toNat []).length:Int)then none
  else evalN row t f (if(row.getD (t.getD i Nd.no).party.toNat []).getD (t.getD i Nd.no).feature.toNat 0≤(t.getD i Nd.no).cut then(t.getD i Nd.no).left.toNat else(t.getD i Nd.no).right.toNat)
def evalM(row:List (List Int)):List (List Nd)→Int→Int×Int
 | [],s=>(s,0)
 | t::m,s=>match evalN row t 64 0 with
  | none=>(0,1)
  | some w=>evalM row m (IntKind.wrap .i64 (s+w))
def evalF(row:List (List Int))(m:List (List Nd)):Int×Int:=if modR m=true then evalM row m 0 else(0,1)
theorem kvc{t:List Nd}(h:treeR t=true):1≤t.length∧t.length≤63∧∀(i:Nat)(hi:i<t.length),(t[i]).may (i:Int) (t.length:Int):=by
 unfold treeR at h;simp only[Bool.and_eq_true,Bool.not_eq_true',decide_eq_false_iff_not,List.all_eq_true,List.mem_range]at h;obtain⟨⟨h1,h2⟩,h3⟩:=h;refine⟨by omega,by omega,fun i hi=>?_⟩;have:=h3 i hi;unfold nodesR at this;rw[decide_eq_true_eq]at this
 simpa[List.getD,hi]using this
section
variable{row:List (List Int)}{t:List Nd}{hE:AH}{S Sr:Fp}{tl rl ml:Sl}{kn kt:Nat}{s n z:Int}
theorem ref_10(hm:treeR t=true)(N:Sq Ef.nd hE S tl t)(R:Sq (Ef.seq EI) hE Sr rl row){P:AV→AH→Prop} :
  ∀(f i:Nat)(hi:i<t.length),t.length≤i+f→∀(h:AH),Grow hE h→
  (∀w h',evalN row t f i=some w→Grow hE h'→Runs (go (.pt kct kjk [(1,rl.v),(2,.ptr (some (.new kt 0))),(7,.int .i64 (IntKind.wrap .i64 (s+w))),(8,.int .i64 (IntKind.wrap .i64 (z+1)))]) h') P)→
  (∀h',evalN row t f i=none→Grow hE h'→P (.tup [.int .i64 0,.int .i64 1]) h')→
  Runs (go (.pt kct kjj [(1,rl.v),(2,.ptr (some (.new kt 0))),(7,.int .i64 s),(8,.int .i64 z),(9,tl.v),(10,.int .i64 (i:Int))]) h) P:=by
 obtain⟨h1,h63,may⟩:=kvc hm;intro f
 induction f with
 | zero=>intro i hi hf;omega
 | succ f ih =>
  intro i hi hf h g H0 H1;have hx:t.getD i Nd.no=t[i]:=by simp[List.getD,hi]
  have hmay:=may i hi;rw[evalN,hx]at H0 H1;unfold Nd.may at hmay;obtain⟨r3,y,y0,y1,y2,y3,y4,y5,y6⟩:=(N.grow g).nd hi;rw[k9b];refine Runs.step y (Runs.step y0 (Runs.cond (fun c=>?_) fun c=>?_))
  ·rw[Bool.not_eq_true']at c;rw[c,if_neg (by decide)]at hmay H0 H1;obtain⟨-,hp0,-,hf0,-,-,-,hl1,hl2,hr1,hr2,-⟩:=hmay;refine Runs.step y (Runs.step y0 (Runs.step y1 (Runs.step y2 (Runs.step y3 (Runs.step y4 (Runs.step y5 (Runs.step y6 ?_)))))));refine Runs.new fun h3 b3 g3=>Runs.puts b3 rfl fun h4 Bn u4=>?_;have G:Grow h h4:=g3.updr (Nat.le_refl _) u4;have g:=g.trans G;refine Runs.step (Bn.rd 2 rfl (kc _ _)) ?_;rw[R.len];refine Runs.cond (fun d=>?_) fun d=>?_
   ·rw[decide_eq_true_eq]at d;rw[if_pos d]at H1;exact Runs.ret (H1 h4 rfl g)
   rw[decide_eq_false_iff_not]at d;rw[if_neg d]at H0 H1;obtain⟨p,hp⟩:∃p:Nat,(t[i]).party=(p:Int):=⟨(t[i]).party.toNat,by omega⟩;obtain⟨q,hq⟩:∃q:Nat,(t[i]).feature=(q:Int):=⟨(t[i]).feature.toNat,by omega⟩;have hpl:p<row.length:=by omega
   have hgr:row.getD (t[i]).party.toNat []=row[p]:=by rw[hp];simp[List.getD,hpl]
   rw[hgr]at H0 H1;obtain⟨r,s',e1,e2,-,n'⟩:=(R.grow g).sl hpl;rw[← hp]at e1;rw[R.len]at e1;refine Runs.step (Bn.rd 3 rfl (kc _ _)) (Runs.step (Bn.rd 2 rfl (kc _ _)) (Runs.step e1 (Runs.step e2 ?_)));rw[n'.len];refine Runs.cond (fun d2=>?_) fun d2=>?_
   ·rw[decide_eq_true_eq]at d2;rw[if_pos d2]at H1;exact Runs.ret (H1 h4 rfl g)
   rw[decide_eq_false_iff_not]at d2;rw[if_neg d2]at H0 H1;have hql:q<(row[p]).length:=by omega
   have hgq:(row[p]).getD (t[i]).feature.toNat 0=row[p][q]:=by rw[hq];simp[List.getD,hql]
   rw[hgq]at H0 H1;obtain⟨r2,e3,e4⟩:=n'.int hql;rw[← hq]at e3;rw[n'.len]at e3;refine Runs.step (Bn.rd 6 rfl (kc _ _)) (Runs.step (Bn.rd 2 rfl (kc _ _)) (Runs.step e1 (Runs.step e2 (Runs.step (Bn.rd 3 rfl (kc _ _)) ?_))));rw[n'.len];refine Runs.step e3 (Runs.step e4 (Runs.step (Bn.rd 4 rfl (kc _ _)) ?_));refine Runs.cond (fun b=>?_) fun b=>?_
   ·rw[decide_eq_true_eq]at b;rw[if_pos b]at H0 H1;obtain⟨j,hj⟩:∃j:Nat,(t[i]).left=(j:Int):=⟨(t[i]).left.toNat,by omega⟩;rw[hj,Int.toNat_natCast]at H0 H1;refine Runs.step (Bn.rd 5 rfl (kc _ _)) ?_;rw[hj];exact ih j (by omega) (by omega) h4 g H0 H1
   ·rw[decide_eq_false_iff_not]at b;rw[if_neg b]at H0 H1;obtain⟨j,hj⟩:∃j:Nat,(t[i]).right=(j:Int):=⟨(t[i]).right.toNat,by omega⟩;rw[hj,Int.toNat_natCast]at H0 H1;rw[hj];exact ih j (by omega) (by omega) h4 g H0 H1
  ·rw[Bool.not_eq_false']at c;rw[c,if_pos rfl]at H0;exact Runs.step y (Runs.step y1 (H0 _ h rfl g))
end
section
variable{row:List (List Int)}{m:List (List Nd)}{hE:AH}{S Sr:Fp}{rl ml:Sl}
theorem kbeb{m:List (List Nd)}(h:modR m=true):m.length≤16∧∀(k:Nat)(hk:k<m.length),treeR m[k]=true:=by
 unfold modR at h;simp only[Bool.and_eq_true,Bool.not_eq_true',decide_eq_false_iff_not,List.all_eq_true]at h;exact⟨by omega,fun k hk=>h.2 _ (List.getElem_mem hk)⟩
theorem ref_6(hm:modR m=true)(M:Sq EM hE S ml m)(R:Sq (Ef.seq EI) hE Sr rl row){kb:Nat}(B:hE.has kb [ml.v] kbh):∀(k z:Nat),z+k=m.length→∀(s:Int){h:AH},Grow hE h→
  Runs (go (.pt kct kjk [(1,rl.v),(2,.ptr (some (.new kb 0))),(7,.int .i64 s),(8,.int .i64 (z:Int))]) h) fun v h'=>v=.tup [.int .i64 (evalM row (m.drop z) s).1,.int .i64 (evalM row (m.drop z) s).2]∧Grow hE h':=by
 obtain⟨h16,hT⟩:=kbeb hm;intro k
 induction k with
 | zero =>
  intro z hz s h g;rw[kt5,List.drop_of_length_le (by omega)];refine Runs.step ((g.has B).rd 0 rfl (asSl_v _)) ?_;rw[M.len];exact Runs.ifF (decide_eq_false (by omega)) (Runs.ret ⟨rfl,g⟩)
 | succ k ih =>
  intro z hz s h g;have hlt:z<m.length:=by omega
  have ht:=hT z hlt;obtain⟨h1,h63,may⟩:=kvc ht;obtain⟨r,tl,e1,-,e2,n'⟩:=(M.grow g).sl hlt;rw[kt5,List.drop_eq_getElem_cons hlt];have B1:=g.has B;refine Runs.step (B1.rd 0 rfl (asSl_v _)) ?_;rw[M.len];rw[M.len]at e1;refine Runs.ifT (decide_eq_true (by omega)) (Runs.step (B1.rd 0 rfl (asSl_v _)) ?_);rw[M.len];refine Runs.step e1 (Runs.step e2 ?_);rw[evalM];refine ref_10 (t:=m[z]) (hE:=h) ht n' (R.grow g) 64 0 h1 (by omega) h (Grow.refl _) (fun w h' e g'=>?_) (fun h' e g'=>?_)
  ·rw[e,kf (by omega)];exact ih (z+1) (by omega) _ (g.trans g')
  ·rw[e];exact⟨rfl,g.trans g'⟩
theorem k2q(M:Sq EM hE S ml m)(R:Sq (Ef.seq EI) hE Sr rl row):Runs (go (.fn kct [.agg [ml.v],rl.v]) hE) fun v h'=>v=.tup [.int .i64 (evalF row m).1,.int .i64 (evalF row m).2]∧Grow hE h':=by
 rw[k5d];refine Runs.new fun h1 b1 g1=>Runs.step (b1.rd 0 rfl (asSl_v _)) ?_;refine(kyt (M.grow g1)).call fun v h2 ⟨e,g2⟩=>?_;subst e;have G:=g1.trans g2;refine Runs.step (seen rfl) ?_;unfold evalF;refine Runs.cond (fun c=>Runs.ret ⟨?_,G⟩) fun c=>?_
 ·rw[Bool.not_eq_true']at c;rw[c];rfl
 rw[Bool.not_eq_false']at c;rw[if_pos c];exact(ref_6 c (M.grow G) (R.grow G) (g2.has b1) m.length 0 (by omega) 0 (Grow.refl _)).imp fun v h' ⟨a,b⟩=>⟨a,G.trans b⟩
end
section
variable{h0:AH}{tsl:Sl}{ts:List Tb}{St:Fp}{p i:Nat}
theorem row_7(Qt:Sq Ef.tb h0 St tsl ts)(hp:p<ts.length)(hp16:ts.length≤16)(hcl:ts[p].cols.length≤16)(hi:∀(f:Nat)(hf:f<ts[p].cols.length),i<(ts[p].cols[f]).length){L:List (List Int)}(hL:L.length≤16){w:Sl}{jc:Option Nat}{Sc:Fp}{h1:AH}(g1:Grow h0 h1)(lc:LeO h0.blks.size jc)(W:GF (Ef.seq EI) kbr h1 Sc w jc L){P:AV→AH→Prop}
  (H:∀h w' jc' Sc',Grow h0 h→LeO h0.blks.size jc'→GF (Ef.seq EI) kbr h Sc' w' jc' (L++[ts[p].cols.map fun l=>l.getD i 0])→Runs (go (.pt kc0 kjz [(0,tsl.v),(1,.int .i64 (i:Int)),(5,w'.v),(6,.int .i64 ((p+1:Nat):Int))]) h) P) :
  ∀(k f:Nat),f+k=ts[p].cols.length→∀(h:AH)(v:Sl)(j:Option Nat),Grow h1 h→LeO h1.blks.size j→GF EI T.int h Fp.no v j ((ts[p].cols.take f).map fun l=>l.getD i 0)→
  Runs (go (.pt kc0 kl2 [(0,tsl.v),(1,.int .i64 (i:Int)),(5,w.v),(6,.int .i64 (p:Int)),(7,v.v),(8,.int .i64 (f:Int))]) h) P:=by
 intro k
 induction k with
 | zero =>
  intro f hf h v j g lj V;obtain rfl:f=ts[p].cols.length:=by omega
  rw[List.take_length]at V;obtain⟨r,s1,s2,s3,e,c1,c2,c3,n⟩:=(Qt.grow (g1.trans g)).tb hp;rw[ksz];refine Runs.step e (Runs.step c3 ?_);rw[n.cols.len];refine Runs.ifF (decide_eq_false (by omega)) (Runs.new fun h2 b2 g2=>?_);refine Runs.step (kcd b2 (by rw[kir];rfl)) ?_;have wl:=W.lt;have z1:=g1.size
  obtain⟨w',h3,e3,W3,u3⟩:=((W.grow g).grow g2).push (P:=Pg) (T:=Fp.opt j) (cs:=[v.v]) (x:=ts[p].cols.map fun l=>l.getD i 0) ⟨v,rfl,(V.grow g2).sq.mono fun m a=>a.elim id False.elim⟩ (by
   cases jc with
   | none=>trivial
   | some y =>
    intro e;have h1:=opt_ge lj e;have h2:=opt_lt wl (rfl:some y=some y);omega) (k3d (by omega))
  refine Runs.step e3 (Runs.step (asSl_v _) ?_);rw[kf (by omega)];have G2:=(g1.trans g).trans g2;exact H h3 w' (some h2.blks.size) _ (G2.updo lc u3) (show _≤_ from G2.size) W3
 | succ k ih =>
  intro f hf h v j g lj V;have hf':f<ts[p].cols.length:=by omega
  obtain⟨r,s1,s2,s3,e,c1,c2,c3,n⟩:=(Qt.grow (g1.trans g)).tb hp;obtain⟨r1,t,e1,e2,-,n'⟩:=n.cols.sl hf';obtain⟨r2,e3,e4⟩:=n'.int (hi f hf');rw[ksz];refine Runs.step e (Runs.step c3 ?_);rw[n.cols.len];refine Runs.ifT (decide_eq_true (by omega)) (Runs.step e (Runs.step c3 ?_));refine Runs.step e1 (Runs.step e2 (Runs.step e3 (Runs.step e4 (Runs.new fun h2 b2 g2=>?_))));refine Runs.step (kcd b2 (by rw[kf5];rfl)) ?_;have hx:=hi f hf';obtain⟨t',h3,e7,V3,u3⟩:=(V.grow g2).push (T:=Fp.no) (cs:=[.int .i64 ts[p].cols[f][i]]) (x:=ts[p].cols[f][i]) rfl NotO.no (krb (by rw[List.length_map,List.length_take];omega));refine Runs.step e7 (Runs.step (asSl_v _) ?_);rw[kf (by omega)];refine ih (f+1) (by omega) h3 t' (some h2.blks.size) ((g.trans g2).updo lj u3) (show _≤_ from(g.trans g2).size) ?_;have hg:(ts[p].cols[f]).getD i 0=ts[p].cols[f][i]:=by simp[List.getD,hx]
  rw[List.take_succ_eq_append_getElem hf',List.map_append,List.map_cons,List.map_nil,hg];exact V3.mono (fun j x=>x.1.elim id id) NotO.no
theorem row_3(Qt:Sq Ef.tb h0 St tsl ts)(hp16:ts.length≤16)(hcl:∀(p:Nat)(hp:p<ts.length),ts[p].cols.length≤16∧∀(f:Nat)(hf:f<ts[p].cols.length),i<(ts[p].cols[f]).length) :
  ∀(k p:Nat),p+k=ts.length→∀(h:AH)(w:Sl)(jc:Option Nat)(Sc:Fp),Grow h0 h→LeO h0.blks.size jc→GF (Ef.seq EI) kbr h Sc w jc ((ts.take p).map fun t=>t.cols.map fun l=>l.getD i 0)→
  Runs (go (.pt kc0 kjz [(0,tsl.v),(1,.int .i64 (i:Int)),(5,w.v),(6,.int .i64 (p:Int))]) h) fun v h'=>Grow h0 h'∧∃(y:Sl)(S:Fp),v=y.v∧Sq (Ef.seq EI) h' S y (rowT ts i):=by
 intro k
 induction k with
 | zero =>
  intro p hp h w jc Sc g lc W;obtain rfl:p=ts.length:=by omega
  rw[List.take_length]at W;rw[ktd,Qt.len];exact Runs.ifF (decide_eq_false (by omega)) (Runs.ret ⟨g,w,_,rfl,W.sq⟩)
 | succ k ih =>
  intro p hp h w jc Sc g lc W;have hp':p<ts.length:=by omega
  obtain⟨h1,h2⟩:=hcl p hp';rw[ktd,Qt.len];refine Runs.ifT (decide_eq_true (by omega)) ?_;refine row_7 Qt hp' hp16 h1 h2 (by rw[List.length_map,List.length_take];omega) g lc W (fun h w' jc' Sc' g' lc' W'=>?_) ts[p].cols.length 0 (by omega) h _ none (Grow.refl _) trivial (GF.none EI T.int h Fp.no);refine ih (p+1) (by omega) h w' jc' Sc' g' lc' ?_;rw[List.take_succ_eq_append_getElem hp',List.map_append];exact W'
theorem kyp(Qt:Sq Ef.tb h0 St tsl ts)(hp16:ts.length≤16)(hcl:∀(p:Nat)(hp:p<ts.length),ts[p].cols.length≤16∧∀(f:Nat)(hf:f<ts[p].cols.length),i<(ts[p].cols[f]).length) :
  Runs (go (.fn kc0 [tsl.v,.int .i64 (i:Int)]) h0) fun v h'=>Grow h0 h'∧∃(y:Sl)(S:Fp),v=y.v∧Sq (Ef.seq EI) h' S y (rowT ts i):=by
 rw[k17];exact row_3 Qt hp16 hcl ts.length 0 (by omega) h0 _ none Fp.no (Grow.refl _) trivial (GF.none (Ef.seq EI) kbr h0 Fp.no)
end
def gvOf(G:List (List Gv))(x:Nd):Gv×Bool:=findF (G.getD (x.party.toNat-1) []) x.feature
def unN(G:List (List Gv))(x:Nd):Nd:=if x.leaf=true∨x.party=0 then x else{x with feature:=((gvOf G x).1.f:Int),cut:=((gvOf G x).1.c:Int)}
def unM(G:List (List Gv))(m:List (List Nd)):List (List Nd):=m.map fun l=>l.map (unN G)
structure Jo(m:List (List Nd))(G:List (List Gv))(ts:List Tb)(n:Nat):Prop where
 mok:modR m=true
 len:ts.length=G.length+1
 tab:∀p (hp:p<ts.length),tabR ts[p]=true∧ts[p].ids.length=n
 party:∀l∈m,∀x∈l,x.leaf=false→x.party<(ts.length:Int)
 own:∀l∈m,∀x∈l,x.leaf=false→x.party=0→∀hp:0<ts.length,x.feature<(ts[0].cols.length:Int)
 node:∀l∈m,∀x∈l,x.leaf=false→x.party≠0→(gvOf G x).2=true∧∀hp:x.party.toNat<ts.length,(gvOf G x).1.f<ts[x.party.toNat].cols.length
 cuts:∀l∈G,∀g∈l,g.c≤31
theorem kxk(G:List (List Gv))(x:Nd):(unN G x).leaf=x.leaf∧(unN G x).weight=x.weight∧(unN G x).party=x.party∧(unN G x).left=x.left∧(unN G x).right=x.right:=by
 unfold unN;split<;>exact⟨rfl,rfl,rfl,rfl,rfl⟩
theorem k31{l:List Gv}(h:∀g∈l,g.c≤31)(id:Int):(findF l id).1.c≤31:=by
 unfold findF;split
 ·rename_i k;have:id.toNat<l.length:=by omega
  show(l.getD id.toNat _).c≤31;rw[List.getD,List.getElem?_eq_getElem this];exact h _ (List.getElem_mem this)
 ·exact Nat.zero_le _
section
variable{m:List (List Nd)}{G:List (List Gv)}{ts:List Tb}{n:Nat}
theorem gvOf_c(h:∀l∈G,∀g∈l,g.c≤31)(x:Nd):(gvOf G x).1.c≤31:=by
 unfold gvOf;refine k31 (fun g hg=>?_) _;by_cases k:x.party.toNat-1<G.length
 ·rw[List.getD,List.getElem?_eq_getElem k]at hg;exact h _ (List.getElem_mem k) g hg
 ·rw[List.getD,List.getElem?_eq_none (by omega)]at hg;cases hg
theorem Jo.unN(J:Jo m G ts n){k:Nat}(hk:k<m.length){i:Nat}(hi:i<m[k].length)(hl:(m[k][i]).leaf=false) :
  ∃hp:(m[k][i]).party.toNat<ts.length,0≤(m[k][i]).party∧0≤(unN G m[k][i]).feature∧(unN G m[k][i]).feature.toNat<ts[(m[k][i]).party.toNat].cols.length∧0≤(unN G m[k][i]).cut∧(unN G m[k][i]).cut≤31:=by
 have hm:=(kc6 J.mok hk).2.2 i hi;unfold Nd.may at hm;rw[hl,if_neg (by decide)]at hm;have h1:=J.party _ (List.getElem_mem hk) _ (List.getElem_mem hi) hl;have hp:(m[k][i]).party.toNat<ts.length:=by omega
 refine⟨hp,hm.2.1,?_⟩;unfold Go.Ab.unN;by_cases h0:(m[k][i]).party=0
 ·rw[if_pos (.inr h0)];have h2:=J.own _ (List.getElem_mem hk) _ (List.getElem_mem hi) hl h0 (by omega);have e:(m[k][i]).party.toNat=0:=by omega
  refine⟨by omega,?_,by omega,by omega⟩;simp only[e];omega
 ·rw[if_neg (by rw[hl];simp[h0])];have h2:=(J.node _ (List.getElem_mem hk) _ (List.getElem_mem hi) hl h0).2 hp;have h3:=gvOf_c J.cuts (m[k][i]);refine⟨Int.natCast_nonneg _,?_,Int.natCast_nonneg _,?_⟩
  ·show(((gvOf G m[k][i]).1.f:Nat):Int).toNat<_;rw[Int.toNat_natCast];exact h2
  ·show(((gvOf G m[k][i]).1.c:Nat):Int)≤31;omega
theorem kf0:(unM G m).length=m.length:=List.length_map _
theorem kk3{k:Nat}(hk:k<m.length):(unM G m)[k]'(by rw[kf0];exact hk)=m[k].map (unN G):=List.getElem_map _
theorem Jo.unM(J:Jo m G ts n):modR (unM G m)=true:=by
 have h16:=kgb J.mok;unfold modR;simp only[Bool.and_eq_true,Bool.not_eq_true',decide_eq_false_iff_not,List.all_eq_true];refine⟨by rw[kf0];omega,fun l hl=>?_⟩;obtain⟨k,hk,rfl⟩:=List.mem_iff_getElem.1 hl;rw[kf0]at hk;rw[kk3 hk];obtain⟨h1,h63,hmay⟩:=kc6 J.mok hk;unfold treeR;simp only[Bool.and_eq_true,Bool.not_eq_true',decide_eq_false_iff_not,List.all_eq_true,List.mem_range,List.length_map];refine⟨⟨by omega,by omega⟩,fun i hi=>?_⟩;unfold nodesR;rw[decide_eq_true_eq,List.length_map];have e:(m[k].map (Go.Ab.unN G)).getD i Nd.no=Go.Ab.unN G m[k][i]:=by simp[List.getD,hi]
 rw[e];have hm:=hmay i hi;obtain⟨e1,e2,e3,e4,e5⟩:=kxk G m[k][i];unfold Nd.may at hm⊢;rw[e1,e2,e3,e4,e5];cases hl:(m[k][i]).leaf
 ·rw[hl]at hm;obtain⟨hp,h2,h3,h4,h5,h6⟩:=J.unN hk hi hl;have ht:=(kvx (J.tab _ hp).1).2;rw[if_neg (by decide)]at hm⊢;omega
 ·rw[hl]at hm;have:Go.Ab.unN G m[k][i]=m[k][i]:=by unfold Go.Ab.unN;rw[if_pos (.inl hl)]
  rw[this];exact hm
theorem k5y{row:List (List Int)}{t:List Nd}(h:∀(i:Nat)(hi:i<t.length),(t[i]).may (i:Int) (t.length:Int)):∀(f f' i:Nat),i<t.length→t.length≤i+f→t.length≤i+f'→evalN row t f i=evalN row t f' i:=by
 intro f
 induction f with
 | zero=>intro f' i hi h1;omega
 | succ f ih =>
  intro f' i hi h1 h2;obtain⟨f',rfl⟩:∃g,f'=g+1:=⟨f'-1,by omega⟩;rw[evalN,evalN];have hm:=h i hi;have e:t.getD i Nd.no=t[i]:=by simp[List.getD,hi]
  rw[e];unfold Nd.may at hm;by_cases hl:(t[i]).leaf=true
  ·rw[if_pos hl,if_pos hl]
  rw[if_neg hl]at hm;rw[if_neg hl,if_neg hl]
  have key:∀b:Prop,[Decidable b]→evalN row t f (if b then(t[i]).left.toNat else(t[i]).right.toNat)=evalN row t f' (if b then(t[i]).left.toNat else(t[i]).right.toNat):=by
   intro b _;split
   ·exact ih _ _ (by omega) (by omega) (by omega)
   ·exact ih _ _ (by omega) (by omega) (by omega)
  rw[key]
def restE(row:List (List Int))(pl:List (List Nd))(tree node:Nat)(s:Int):Int×Int:=match pl.drop tree with
 | []=>(s,0)
 | t::m'=>match evalN row t 64 node with
  | none=>(0,1)
  | some v=>evalM row m' (IntKind.wrap .i64 (s+v))
theorem ko3(row:List (List Int))(pl:List (List Nd))(k:Nat)(s:Int):restE row pl k 0 s=evalM row (pl.drop k) s:=by
 unfold restE;cases pl.drop k with
 | nil=>rw[evalM]
 | cons t m'=>first | (rw[evalM];done) | (rw[evalM];exact rfl)
theorem kp2{row:List (List Int)}{pl:List (List Nd)}{k:Nat}(hk:k<pl.length)(node:Nat)(s:Int):restE row pl k node s=match evalN row pl[k] 64 node with | none=>(0,1) | some v=>evalM row (pl.drop (k+1)) (IntKind.wrap .i64 (s+v)):=by
 unfold restE;rw[List.drop_eq_getElem_cons hk]
def binT(ts:List Tb)(r:Nat)(x:Nd):Int:=((ts.getD x.party.toNat Tb.no).cols.getD x.feature.toNat []).getD r 0
theorem k1a{r p:Nat}(hp:p<ts.length):(rowT ts r).getD p []=ts[p].cols.map fun l=>l.getD r 0:=by
 unfold rowT;rw[List.getD,List.getElem?_eq_getElem (by rw[List.length_map];exact hp),List.getElem_map];rfl
theorem Jo.kid(J:Jo m G ts n){k:Nat}(hk:k<m.length){i:Nat}(hi:i<m[k].length)(hl:(m[k][i]).leaf=false)(r:Nat)(s:Int) :
  restE (rowT ts r) (Go.Ab.unM G m) k i s=restE (rowT ts r) (Go.Ab.unM G m) k (if binT ts r (Go.Ab.unN G m[k][i])≤(Go.Ab.unN G m[k][i]).cut then(m[k][i]).left.toNat else(m[k][i]).right.toNat) s:=by
 have hk':k<(Go.Ab.unM G m).length:=by rw[kf0];exact hk
 rw[kp2 hk',kp2 hk'];obtain⟨h1,h63,hmay⟩:=kc6 J.unM hk';have el:((Go.Ab.unM G m)[k]).length=m[k].length:=by rw[kk3 hk,List.length_map]
 have hm:=(kc6 J.mok hk).2.2 i hi;unfold Nd.may at hm;rw[hl,if_neg (by decide)]at hm
 have key:evalN (rowT ts r) (Go.Ab.unM G m)[k] 64 i=evalN (rowT ts r) (Go.Ab.unM G m)[k] 63 (if binT ts r (Go.Ab.unN G m[k][i])≤(Go.Ab.unN G m[k][i]).cut then(m[k][i]).left.toNat else(m[k][i]).right.toNat):=by
  rw[evalN];have e:(Go.Ab.unM G m)[k].getD i Nd.no=Go.Ab.unN G m[k][i]:=by rw[kk3 hk];simp[List.getD,hi]
  obtain⟨e1,-,e3,e4,e5⟩:=kxk G m[k][i];obtain⟨hp,h2,h3,h4,-,-⟩:=J.unN hk hi hl;rw[e,e1,hl,if_neg (by decide),e4,e5];have hrl:(rowT ts r).length=ts.length:=by unfold rowT;rw[List.length_map]
  rw[if_neg (by rw[hrl,e3];omega)];have eg:=k1a (ts:=ts) (r:=r) (p:=(Go.Ab.unN G m[k][i]).party.toNat) (by rw[e3];exact hp)
  rw[eg,if_neg (by
   rw[List.length_map];simp only[e3];omega)]
  have eb:(List.map (fun l=>List.getD l r 0) (ts[(Go.Ab.unN G m[k][i]).party.toNat]'(by rw[e3];exact hp)).cols).getD (Go.Ab.unN G m[k][i]).feature.toNat 0=binT ts r (Go.Ab.unN G m[k][i]):=by
   unfold binT;have hp':(Go.Ab.unN G m[k][i]).party.toNat<ts.length:=by rw[e3];exact hp
   have hf:(Go.Ab.unN G m[k][i]).feature.toNat<(ts[(Go.Ab.unN G m[k][i]).party.toNat]).cols.length:=by simp only[e3];exact h4
   rw[show ts.getD (Go.Ab.unN G m[k][i]).party.toNat Tb.no=ts[(Go.Ab.unN G m[k][i]).party.toNat] by rw[List.getD,List.getElem?_eq_getElem hp'];rfl];rw[List.getD,List.getElem?_eq_getElem (by rw[List.length_map];exact hf),List.getElem_map];rw[show(ts[(Go.Ab.unN G m[k][i]).party.toNat]).cols.getD (Go.Ab.unN G m[k][i]).feature.toNat []=(ts[(Go.Ab.unN G m[k][i]).party.toNat]).cols[(Go.Ab.unN G m[k][i]).feature.toNat] by rw[List.getD,List.getElem?_eq_getElem hf];rfl];rfl
  rw[eb]
 rw[key]
 have hin:(if binT ts r (Go.Ab.unN G m[k][i])≤(Go.Ab.unN G m[k][i]).cut then(m[k][i]).left.toNat else(m[k][i]).right.toNat)<((Go.Ab.unM G m)[k]).length:=by
  rw[el];split<;>omega
 rw[k5y hmay 63 64 _ hin (by omega) (by omega)]
structure Inv(ts:List Tb)(pl:List (List Nd))(w:Wk):Prop where
 done:∀r,r<w.row→evalM (rowT ts r) pl 0=(w.sc.getD r 0,0)
 zero:∀r,w.row<r→w.sc.getD r 0=0
 now:w.row<w.t.ids.length→restE (rowT ts w.row) pl w.tree w.node (w.sc.getD w.row 0)=evalM (rowT ts w.row) pl 0
theorem Inv.init(m:List (List Nd))(t:Tb)(ts:List Tb)(pl:List (List Nd)):Inv ts pl (Wk.init m t):=by
 have z:∀r,(List.replicate t.ids.length (0:Int)).getD r 0=0:=fun r=>by
  rw[List.getD];by_cases k:r<t.ids.length
  ·rw[List.getElem?_eq_getElem (by rw[List.length_replicate];exact k),List.getElem_replicate];rfl
  ·rw[List.getElem?_eq_none (by rw[List.length_replicate];omega)];rfl
 refine⟨fun r h=>absurd h (Nat.not_lt_zero _),fun r _=>z r,fun _=>?_⟩;show restE _ _ 0 0 ((List.replicate t.ids.length (0:Int)).getD 0 0)=_;rw[z,ko3,List.drop_zero]
section
variable{w w':Wk}
theorem Wk.nd_at(o:w.Ok)(hr:w.row<w.t.ids.length)(h2:w.tree<w.m.length):∃h3:w.node<w.m[w.tree].length,w.nd=w.m[w.tree][w.node]:=by
 obtain⟨h3,e,-⟩:=o.at hr h2;exact⟨h3,e⟩
theorem Inv.step(o:w.Ok)(J:Jo w.m G ts n)(h0:∃hp:0<ts.length,ts[0]=w.t)(I:Inv ts (Go.Ab.unM G w.m) w)(e:w.step=some w'):Inv ts (Go.Ab.unM G w.m) w':=by
 obtain⟨hp,ht⟩:=h0;have hsc:=o.sc;unfold Wk.step at e;split at e
 ·cases e
 rename_i hr;have hn:=I.now (by omega);split at e
 ·rename_i h1;cases e;have hd:(Go.Ab.unM G w.m).drop w.tree=[]:=List.drop_eq_nil_of_le (by rw[kf0];exact h1)
  have hn2:evalM (rowT ts w.row) (Go.Ab.unM G w.m) 0=(w.sc.getD w.row 0,0):=by
   rw[← hn];unfold restE;rw[hd]
  refine⟨fun r hlt=>?_,fun r hlt=>I.zero r (by simp only at hlt;omega),fun _=>?_⟩
  ·simp only at hlt;rcases Nat.lt_or_ge r w.row with k | k
   ·exact I.done r k
   ·obtain rfl:r=w.row:=by omega
    exact hn2
  ·show restE (rowT ts (w.row+1)) _ 0 0 (w.sc.getD (w.row+1) 0)=_;rw[I.zero _ (Nat.lt_succ_self _),ko3,List.drop_zero]
 rename_i h1;obtain⟨h3,e3⟩:=Wk.nd_at o (by omega) (by omega:w.tree<w.m.length);have hk':w.tree<(Go.Ab.unM G w.m).length:=by rw[kf0];omega
 split at e
 ·rename_i hl;cases e;refine⟨fun r hlt=>?_,fun r hlt=>?_,fun _=>?_⟩
  ·simp only at hlt⊢;rw[I.done r hlt,List.getD,List.getD,List.getElem?_set_ne (by omega)]
  ·simp only at hlt⊢;rw[List.getD,List.getElem?_set_ne (by omega)];exact I.zero r hlt
  ·show restE (rowT ts w.row) _ (w.tree+1) 0 ((w.sc.set w.row _).getD w.row 0)=_;rw[ko3,List.getD,List.getElem?_set_self (by omega)];rw[← hn,kp2 hk',evalN]
   have e:(Go.Ab.unM G w.m)[w.tree].getD w.node Nd.no=w.nd:=by
    rw[kk3 (by omega),e3]
    have:Go.Ab.unN G (w.m[w.tree][w.node])=w.m[w.tree][w.node]:=by
     unfold Go.Ab.unN;rw[if_pos (.inl (by rw[← e3];exact hl))]
    simp[List.getD,h3,this]
   rw[e,if_pos hl];rfl
 rename_i hl;split at e
 ·cases e
 rename_i hpz;cases e;have hpz:w.nd.party=0:=Classical.byContradiction hpz;refine⟨I.done,I.zero,fun _=>?_⟩;show restE (rowT ts w.row) _ w.tree (w.kid _).toNat (w.sc.getD w.row 0)=_;rw[← hn];have K:=J.kid (by omega:w.tree<w.m.length) h3 (by rw[← e3];simpa using hl) w.row (w.sc.getD w.row 0)
 have eu:Go.Ab.unN G (w.m[w.tree][w.node])=w.nd:=by
  unfold Go.Ab.unN;rw[if_pos (.inr (by rw[← e3];exact hpz)),e3]
 rw[eu,← e3]at K;rw[K]
 have eb:binT ts w.row w.nd=w.bin:=by
  unfold binT Wk.bin;rw[hpz];show((ts.getD 0 _).cols.getD _ _).getD _ _=_;rw[show ts.getD 0 Tb.no=w.t by rw[List.getD,List.getElem?_eq_getElem hp,← ht];rfl]
 rw[eb];unfold Wk.kid;congr 1;by_cases k:w.bin≤w.nd.cut
 ·rw[decide_eq_true k,if_pos k,if_pos rfl]
 ·rw[decide_eq_false k,if_neg k,if_neg (by decide)]
theorem Inv.on:∀(f:Nat){w:Wk},w.Ok→Jo w.m G ts n→(∃hp:0<ts.length,ts[0]=w.t)→Inv ts (Go.Ab.unM G w.m) w→Inv ts (Go.Ab.unM G w.m) (w.on f)∧(w.on f).mu≤w.mu
 | 0,w,_,_,_,I=>⟨I,Nat.le_refl _⟩
 | f+1,w,o,J,h0,I=>by
  cases e:w.step with
  | none =>
   have:w.on (f+1)=w:=by simp only[Wk.on,e]
   rw[this];exact⟨I,Nat.le_refl _⟩
  | some w' =>
   have:w.on (f+1)=w'.on f:=by simp only[Wk.on,e]
   rw[this];obtain⟨o',lt,e1,e2⟩:=o.step e;have r:=Inv.on f o' (by rw[e1];exact J) (by rw[e2];exact h0) (by rw[e1];exact I.step o J h0 e);rw[e1]at r;exact⟨r.1,by omega⟩
def Wk.query(w:Wk):Ms:=⟨8,w.nd.feature,(w.row:Int),0,[],[],[]⟩
theorem ask_ok{k a b c:Int}(hk:k=8∨k=9)(ha:0≤a∧a≤1073741824)(hb:0≤b∧b≤1073741824)(hc:c=0∨k=9∧c=1):Ms.ok ⟨k,a,b,c,[],[],[]⟩:=by
 unfold Ms.ok Ms.heads Ms.lists Ms.end' oddI;simp only[List.length_nil,List.any_nil,List.range_zero,List.all_nil,Bool.or_eq_false_iff,decide_eq_false_iff_not];refine⟨?_,?_,?_⟩<;>simp<;>omega
theorem Jo.ask(J:Jo w.m G ts n)(o:w.Ok)(h0:∃hp:0<ts.length,ts[0]=w.t)(hs:w.step=none)(hr:w.row<w.t.ids.length) :
  1≤w.nd.party∧w.nd.party<(ts.length:Int)∧∃hp:w.nd.party.toNat<ts.length,∃c:Int,replyF (gvOf G w.nd) ts[w.nd.party.toNat] w.query=((9,w.nd.feature,(w.row:Int),c),0)∧
   ∀m:Ms,m=⟨9,w.nd.feature,(w.row:Int),c,[],[],[]⟩→(w.answer w.nd.party m).1=0∧(Inv ts (Go.Ab.unM G w.m) w→Inv ts (Go.Ab.unM G w.m) (w.answer w.nd.party m).2)∧(w.answer w.nd.party m).2.mu<w.mu∧(w.answer w.nd.party m).2.m=w.m∧(w.answer w.nd.party m).2.t=w.t∧(w.answer w.nd.party m).2.Ok∧(w.answer w.nd.party m).2.step=none:=by
 obtain⟨-,ht,hl,hpz⟩:=(o.stop hs).resolve_left (by omega);obtain⟨h3,e3⟩:=Wk.nd_at o hr ht;have hl':(w.m[w.tree][w.node]).leaf=false:=by rw[← e3];exact hl
 obtain⟨hp,h4,h5,h6,h7,h8⟩:=J.unN ht h3 hl';have hlt:=J.party _ (List.getElem_mem ht) _ (List.getElem_mem h3) hl';obtain⟨g1,g2⟩:=J.node _ (List.getElem_mem ht) _ (List.getElem_mem h3) hl' (by rw[← e3];exact hpz);have hm:=(kc6 J.mok ht).2.2 w.node h3;unfold Nd.may at hm;rw[hl',if_neg (by decide)]at hm;have K:=J.kid ht h3 hl' w.row (w.sc.getD w.row 0)
 have eu:Go.Ab.unN G (w.m[w.tree][w.node])={w.nd with feature:=((gvOf G w.nd).1.f:Int),cut:=((gvOf G w.nd).1.c:Int)}:=by
  unfold Go.Ab.unN;rw[← e3,if_neg (by rw[hl];simp[hpz])]
 rw[eu]at K;simp only[← e3]at hp h4 hlt g1 g2 hm K;have g2:=g2 hp;obtain⟨hR,hn⟩:=J.tab _ hp;obtain⟨hq,eq⟩:=h0;have h256:=kgr o.t;have hnn:n=w.t.ids.length:=by rw[← (J.tab 0 hq).2,eq]
 refine⟨by omega,hlt,hp,(if binT ts w.row {w.nd with feature:=((gvOf G w.nd).1.f:Int),cut:=((gvOf G w.nd).1.c:Int)}≤((gvOf G w.nd).1.c:Int)then 1 else 0),?_,fun m em=>?_⟩
 ·unfold replyF
  rw[if_neg (by rw[hR];decide),if_neg (by
   rw[not_or];exact⟨fun k=>k (ask_ok (.inl rfl) (by omega) (by omega) (.inl rfl)),fun k=>k rfl⟩),if_neg (by rw[g1];decide),if_neg (by
   show¬((w.row:Int)≥_∨_);omega)]
  show((_,_,_,_),_)=_;congr 4;unfold binT;simp only[Int.toNat_natCast];rw[show ts.getD w.nd.party.toNat Tb.no=ts[w.nd.party.toNat] by rw[List.getD,List.getElem?_eq_getElem hp];rfl];rfl
 ·subst em;have hc:∀b:Prop,[Decidable b]→((if b then(1:Int)else 0)=0∨(9:Int)=9∧(if b then(1:Int)else 0)=1):=fun b _=>by split<;>simp
  have ea:w.answer w.nd.party ⟨9,w.nd.feature,(w.row:Int),(if binT ts w.row {w.nd with feature:=((gvOf G w.nd).1.f:Int),cut:=((gvOf G w.nd).1.c:Int)}≤((gvOf G w.nd).1.c:Int)then 1 else 0),[],[],[]⟩ =
    (0,Wk.go {w with node:=(if binT ts w.row {w.nd with feature:=((gvOf G w.nd).1.f:Int),cut:=((gvOf G w.nd).1.c:Int)}≤((gvOf G w.nd).1.c:Int)then w.nd.left.toNat else w.nd.right.toNat)}):=by
   unfold Wk.answer
   rw[if_neg (by omega),if_neg (by
    rw[not_or];exact⟨fun k=>k (ask_ok (.inr rfl) (by omega) (by omega) (hc _)),fun k=>k rfl⟩),if_neg (by simp)]
   congr 3;unfold Wk.kid;by_cases k:binT ts w.row {w.nd with feature:=((gvOf G w.nd).1.f:Int),cut:=((gvOf G w.nd).1.c:Int)}≤((gvOf G w.nd).1.c:Int)
   ·simp only[if_pos k,decide_true,if_true]
   ·simp only[if_neg k,show((0:Int)=1)=False from by simp,decide_false,if_false,Bool.false_eq_true]
  rw[ea];generalize hz:(if binT ts w.row {w.nd with feature:=((gvOf G w.nd).1.f:Int),cut:=((gvOf G w.nd).1.c:Int)}≤((gvOf G w.nd).1.c:Int)then w.nd.left.toNat else w.nd.right.toNat)=z at K⊢
  obtain⟨b,hb⟩:∃b:Bool,z=(w.kid b).toNat:=by
   rw[← hz];split
   ·exact⟨true,rfl⟩
   ·exact⟨false,rfl⟩
  obtain⟨z',ez,lz,-,z63,o'⟩:=o.kid hr ht hl b;have hzz:z'=z:=by rw[hb,ez,Int.toNat_natCast]
  rw[hzz]at lz z63 o'
  have hmu:Wk.mu {w with node:=z}<w.mu:=by
   have h16:=kgb o.m;unfold Wk.mu;dsimp only;omega
  obtain⟨a1,a2,a3,a4⟩:=Wk.Ok.on _ o' (Nat.le_refl _);refine⟨rfl,fun I=>?_,?_,a3,a4,a1,a2⟩
  ·exact(Inv.on (G:=G) (n:=n) _ o' J ⟨hq,eq⟩ ⟨I.done,I.zero,fun h=>by
    show restE _ _ w.tree z _=_;rw[← K];exact I.now h⟩).1
  ·show(Wk.on _ _).mu<_
   have:∀(f:Nat){w:Wk},w.Ok→(w.on f).mu≤w.mu:=by
    intro f
    induction f with
    | zero=>intro w _;exact Nat.le_refl _
    | succ f ih =>
     intro w o;cases e:w.step with
     | none =>
      have:w.on (f+1)=w:=by simp only[Wk.on,e]
      rw[this];exact Nat.le_refl _
     | some w' =>
      have:w.on (f+1)=w'.on f:=by simp only[Wk.on,e]
      rw[this];obtain⟨o',lt,-,-⟩:=o.step e;have:=ih o';omega
   have:=this (Wk.mu {w with node:=z}) o';omega
theorem Inv.all(I:Inv ts (Go.Ab.unM G w.m) w)(J:Jo w.m G ts n)(hr:w.row=w.t.ids.length){i:Nat}(hi:i<w.t.ids.length):evalF (rowT ts i) (Go.Ab.unM G w.m)=(w.sc.getD i 0,0):=by
 unfold evalF;rw[if_pos J.unM];exact I.done i (by omega)
end
end
theorem ksa{h:AH}{cs:List AV}(a:ArgT Pg h ku cs):∃(s1 s2 s3:Sl)(t:Tb),cs=[s1.v,s2.v,s3.v]∧TabAt h Fp.no s1 s2 s3 t:=by
 obtain⟨hl,hf⟩:=a.struct knt;rw[klu]at hl
 match cs,hl with
 | [x0,x1,x2],_ =>
  simp[kir,ks5]at hf;obtain⟨h0,h1,h2⟩:=hf;obtain⟨s1,xs,e0,n0⟩:=khy h0;obtain⟨s2,ys,e1,n1⟩:=khy h1
  obtain⟨s3,zs,e2,n2⟩:=Sq.of_arg (E:=Ef.seq EI) (S:=Fp.no) kxx kir (fun es t=>by
   obtain⟨s,l,e,n⟩:=khy t;exact⟨l,s,e,n⟩) h2
  cases e0;cases e1;cases e2;exact⟨s1,s2,s3,⟨xs,ys,zs⟩,rfl,n0,n1,n2⟩
theorem k4a{h:AH}{cs:List AV}(a:ArgT Pg h kkd cs):∃(s:Sl)(xs:List Nat),cs=[s.v]∧Sq Ef.byte h Fp.no s xs :=
 Sq.of_arg (E:=Ef.byte) (S:=Fp.no) k6r kwa (fun es t=>by
  obtain⟨y,rfl,w⟩:=t.int kbdz;obtain⟨h1,h2⟩:=kbea w rfl;exact⟨y.toNat,by rw[Int.toNat_of_nonneg h1],by omega⟩) a
theorem Nats.box{h:AH}{i n:Nat}{e:TypeId}(b:h.has i [.int .u64 (n:Int)] e)(hn:n<18446744073709551616):Nats h ⟨some (.new i 0),1,.is 1⟩ [n]∧∀j,¬Av ⟨some (.new i 0),1,.is 1⟩ j [n]→j=i :=
 ⟨Nats.of_has (xs:=[n]) b (fun x hx=>by rw[List.mem_singleton]at hx;omega) (by simp),fun j k=>Classical.byContradiction fun hne=>k (.inr fun o e=>by cases e;exact hne rfl)⟩
section
variable{h h0:AH}{C:Nat→Nat}{bp:Nat}{q:Int×Int×Int}{L:PtL}{t:Tb}{p:Pt}{s1 s2 s3 s4 s5 s6 s7:Sl}{bs:List Nat}
def GOk(p:Pt):Prop:=∀g∈p.msk.given,g.c≤31
theorem k8q(t:Tb):∀x∈cutsL t,x.2≤31:=by
 intro x hx;unfold cutsL at hx;split at hx
 ·rename_i hR;have hc:=(kco hR).2.1;have hb:=(kco hR).2.2.1;have ha:=(kco hR).2.2.2;unfold cutsTo at hx;simp only[List.mem_flatMap,List.mem_range,List.mem_map]at hx;obtain⟨f,hf,c,hc',rfl⟩:=hx;obtain⟨h1,h2,h3,-⟩:=kfz (ha f hf) hf hb;unfold nb at hc';rw[List.getD_eq_getElem?_getD,List.getElem?_eq_getElem h1]at hc';simp at hc';show c≤31;omega
 ·cases hx
theorem kqx{m:Mk}{bs:List Nat}{a n:Int}{t:Tb}(h:∀g∈m.given,g.c≤31):∀g∈(issueF m bs a n (cutsL t)).2.1.given,g.c≤31:=by
 unfold issueF;split
 ·exact h
 split
 ·exact h
 ·rename_i o _;intro g hg;rw[List.mem_append]at hg;rcases hg with hg | hg
  ·exact h g hg
  ·rw[List.mem_map]at hg;obtain⟨k,-,rfl⟩:=hg;show((cutsL t).getD k (0,0)).2≤31;by_cases hk:k<(cutsL t).length
   ·rw[List.getD,List.getElem?_eq_getElem hk];exact k8q t _ (List.getElem_mem hk)
   ·rw[List.getD,List.getElem?_eq_none (by omega)];exact Nat.zero_le _
theorem DeedR.gok{t:Tb}{p:Pt}{m:Ms}{a:Ans}(h:GOk p)(d:DeedR t p m a):GOk a.2.2:=by
 rcases d with⟨-,rfl⟩ | ⟨-,rfl⟩ | ⟨-,⟨-,rfl⟩ | ⟨-,-,rfl⟩ | ⟨-,-,⟨-,rfl⟩ | ⟨o,w,-,-,-,⟨-,rfl⟩ | ⟨-,rfl⟩⟩⟩⟩
 ·unfold setupF;split
  ·exact h
  split<;>exact h
 ·unfold gradsF;split
  ·exact h
  split
  ·exact h
  split<;>exact h
 ·exact h
 ·exact h
 ·exact kqx h
 ·exact kqx h
 ·exact kqx h
theorem TakeR.gok{t:Tb}{p:Pt}{m:Ms}{r:List Ms×Pt}(h:GOk p)(d:TakeR t p m r):GOk r.2:=by
 rcases d with⟨-,rfl⟩ | ⟨-,-,rfl⟩ | ⟨-,-,-,rfl⟩ | ⟨-,-,-,-,rfl⟩ | ⟨-,-,-,-,a,d,rfl⟩
 ·exact h
 ·exact h
 ·exact h
 ·exact h
 ·have:=d.gok (p:={p with ses:=(stakeF p.ses m.kind m.a).1}) h;unfold tailF;split<;>exact this
def New0(h0 h:AH)(bp:Nat)(q:Int×Int×Int)(t:Tb):Prop:=Grow h0 h∧∃C L p,PtIn h C bp q L t p∧(∀j,C j≠0→h0.blks.size≤j)∧GOk p
theorem Took.new{v:AV}{h':AH}(g:Grow h0 h)(P:PtIn h C bp q L t p)(hC:∀j,C j≠0→h0.blks.size≤j)(gk:GOk p){m:Ms}(W:∃r,TakeR t p m r∧Took h C bp q t r v h'):(∃s:Sl,v=s.v)∧Grow h0 h'∧∃C' L' p',PtIn h' C' bp q L' t p'∧(∀j,C' j≠0→h0.blks.size≤j)∧GOk p'∧Md (fun j=>C j≠0) h h'∧∀j,j<h.blks.size→C' j=C j:=by
 obtain⟨r,tr,⟨s,hs,-⟩,C',L',P',m,e⟩:=W;have hz:=g.size;refine⟨⟨s,hs⟩,(g.thenM m).grow fun j hj x=>by have:=hC j x;omega,C',L',r.2,P',fun j x=>?_,tr.gok gk,m,e⟩;rcases Nat.lt_or_ge j h.blks.size with h1 | h1
 ·rw[e j h1]at x;exact hC j x
 ·omega
theorem k9n(T0:Tab h0):∀(k i:Nat),i+k=3→∀{h:AH}{C:Nat→Nat}{L:PtL}{p:Pt},Grow h0 h→PtIn h C bp q L t p→(∀j,C j≠0→h0.blks.size≤j)→GOk p→
  Runs (go (.pt kdl kk1 [(9,.ptr (some (.new bp 0))),(13,.int .i64 (i:Int))]) h) fun v h'=>v=.ptr (some (.new bp 0))∧New0 h0 h' bp q t:=by
 intro k
 induction k with
 | zero =>
  intro i hi h C L p g P hC gk;rw[kuv];exact Runs.ifF (decide_eq_false (by omega)) (Runs.ret ⟨rfl,g,C,L,p,P,hC,gk⟩)
 | succ k ih =>
  intro i hi h C L p g P hC gk;rw[kuv];refine Runs.ifT (decide_eq_true (by omega)) ?_;refine(kok (T0.grow g) P (m:=⟨4,0,(i:Int),0,[],[],[]⟩) (s5:=noS) (s6:=noS) (s7:=noS) (Sm:=Fp.no) ⟨Sq.nil _ _ _,Sq.nil _ _ _,Sq.nil _ _ _⟩ (fun j x=>x.elim) (.inr (.inr rfl))).call fun v h1 W=>?_;obtain⟨⟨s,e⟩,g1,C1,L1,p1,P1,hC1,gk1,-,-⟩:=Took.new g P hC gk W;subst e;refine Runs.step (seen (asSl_v _)) ?_;rw[kf (by omega)];exact ih (i+1) (by omega) g1 P1 hC1 gk1
theorem kbac{hn:AH}(T0:Tab h0)(G0:Grow h0 hn){b10:Nat}{rest:List AV}(B10:hn.has b10 (s1.v::rest) kik)(P:PtIn hn C bp q L t p)(hC:∀j,C j≠0→h0.blks.size≤j)(gk:GOk p)(hl:s1.len=t.ids.length)(hs:t.ids.length≤60):∀(k i:Nat),i+k=t.ids.length→∀{h:AH}{s:Sl}{j:Option Nat}{S:Fp},Grow hn h→GF Ef.nats kr h S s j (List.replicate i [1])→LeO hn.blks.size j→(∀x,S x→hn.blks.size≤x)→
  Runs (go (.pt kdl kll [(5,.ptr (some (.new b10 0))),(9,.ptr (some (.new bp 0))),(11,s.v),(12,.int .i64 (i:Int))]) h) fun v h'=>v=.ptr (some (.new bp 0))∧New0 h0 h' bp q t:=by
 intro k
 induction k with
 | zero =>
  intro i hi h s j S g V lj hS;have B10':=g.has B10;rw[kt4];refine Runs.step (show(h.cell (((Ref.new b10 0).add 0).add 0)).bind AV.asSl=some s1 from B10'.rd 0 rfl (asSl_v _)) ?_;rw[hl];refine Runs.ifF (decide_eq_false (by omega)) ?_;refine Runs.new fun h1 b1 g1=>Runs.new fun h2 b2 g2=>?_;have G2:=(g.trans g1).trans g2;obtain⟨N1,A1⟩:=Nats.box (n:=17947) (g2.has b1) (by decide);have z1:hn.blks.size≤h.blks.size:=g.size;have z2:h.blks.size<h1.blks.size:=b1.lt;have z3:h1.blks.size<h2.blks.size:=b2.lt;have C0:∀x,hn.blks.size≤x→C x=0:=fun x hx=>Classical.byContradiction fun y=>by have:=P.lt x y;omega
  have P2:=P.grow G2;have Q2:Sq Ef.nats h2 (Fp.or (fun x=>x=h1.blks.size) fun x=>x=h.blks.size) ⟨some (.new h1.blks.size 0),1,.is 1⟩ [[17947]]:=Sq.lit (rows:=[[_]]) b2 (.cons ⟨_,rfl,N1,A1⟩ .nil) rfl;have V2:=V.grow (g1.trans g2)
  refine(kok ((T0.grow G0).grow G2) P2 (m:=⟨1,(s.len:Int),1,0,[],[],[[17947]]⟩) (s5:=noS) (s6:=noS) (s7:=⟨some (.new h1.blks.size 0),1,.is 1⟩) (Sm:=(Fp.or (fun x=>x=h1.blks.size) fun x=>x=h.blks.size)) ⟨Sq.nil _ _ _,Sq.nil _ _ _,Q2⟩ (fun x hx=>by
   rcases hx with hx | hx
   ·have hx:x=h1.blks.size:=hx;exact⟨C0 x (by omega),by omega⟩
   ·have hx:x=h.blks.size:=hx;exact⟨C0 x (by omega),by omega⟩) (.inl rfl)).call fun v h3 W=>?_
  obtain⟨⟨s',e⟩,g3,C3,L3,p3,P3,hC3,gk3,m3,e3⟩:=Took.new (G0.trans G2) P2 hC gk W;subst e;refine Runs.step (seen (asSl_v _)) ?_;have ltj:∀x,j=some x→x<h2.blks.size:=fun x e=>by have:=V2.lt;rw[e]at this;exact this
  have V3:GF Ef.nats kr h3 S s j (List.replicate i [1]):=V2.md m3 (fun x a b=>b (C0 x (hS x a))) fun x e y=>by
   rw[e]at lj;have:hn.blks.size≤x:=lj;exact y (C0 x this)
  have Q3:=V3.bound.sq;have V2b:=V2.bound
  have sb:∀x,(Fp.or (Fp.opt j) fun x=>S x∧x<h2.blks.size) x→hn.blks.size≤x∧x<h2.blks.size:=fun x hx=>by
   rcases hx with hx | hx
   ·have hx:j=some x:=hx;rw[hx]at lj;have:hn.blks.size≤x:=lj;exact⟨this,ltj x hx⟩
   ·exact⟨hS x hx.1,hx.2⟩
  have Q3':=V2b.sq.md m3 fun x a b=>b (C0 x (sb x a).1)
  refine(kok (T0.grow g3) P3 (m:=⟨3,0,0,0,[],[],List.replicate i [1]⟩) (s5:=noS) (s6:=noS) (s7:=s) (Sm:=_) ⟨Sq.nil _ _ _,Sq.nil _ _ _,Q3'⟩ (fun x hx=>by
   have:=sb x hx;have z:=m3.size;exact⟨by rw[e3 x this.2];exact C0 x this.1,by omega⟩) (.inr (.inl rfl))).call fun v h4 W=>?_
  obtain⟨⟨s',e⟩,g4,C4,L4,p4,P4,hC4,gk4,-,-⟩:=Took.new g3 P3 hC3 gk3 W;subst e;exact Runs.step (seen (asSl_v _)) (k9n T0 3 0 (by decide) g4 P4 hC4 gk4)
 | succ k ih =>
  intro i hi h s j S g V lj hS;have B10':=g.has B10;rw[kt4];refine Runs.step (show(h.cell (((Ref.new b10 0).add 0).add 0)).bind AV.asSl=some s1 from B10'.rd 0 rfl (asSl_v _)) ?_;rw[hl];refine Runs.ifT (decide_eq_true (by omega)) ?_;refine Runs.new fun h1 b1 g1=>Runs.new fun h2 b2 g2=>?_;refine Runs.step (kcd b2 (by rw[kkk];rfl)) ?_;obtain⟨N1,A1⟩:=Nats.box (n:=1) (g2.has b1) (by decide);have z1:hn.blks.size≤h.blks.size:=g.size;have z2:h.blks.size<h1.blks.size:=b1.lt;have z3:h1.blks.size<h2.blks.size:=b2.lt
  obtain⟨s',h3,e3,V3,u3⟩:=(V.grow (g1.trans g2)).push (T:=fun x=>x=h.blks.size) (cs:=[(⟨some (.new h.blks.size 0),1,.is 1⟩:Sl).v]) (x:=[1]) ⟨_,rfl,N1,A1⟩ (by
   cases j with
   | none=>trivial
   | some a =>
    intro e;have e:a=h.blks.size:=e;have:a<h.blks.size:=V.lt;omega) (kkj (by rw[List.length_replicate];omega))
  refine Runs.step e3 (Runs.step (asSl_v _) ?_);rw[kf (by omega)];refine ih (i+1) (by omega) (j:=some h2.blks.size) ((((g.trans g1).trans g2)).updo lj u3) (by rw[List.replicate_succ'];exact V3) (show hn.blks.size≤h2.blks.size by omega) fun x hx=>?_;rcases hx.1 with y | y
  ·exact hS x y
  ·rw[show x=h.blks.size from y];exact z1
theorem k45(T0:Tab h)(Q:TabAt h Fp.no s1 s2 s3 t)(Qb:Sq Ef.byte h Fp.no s4 bs)(hs:t.ids.length≤60)(a b:Int):Runs (go (.fn kdl [.int .i64 a,.int .i64 b,.agg [s1.v,s2.v,s3.v,s4.v,s5.v,s6.v,s7.v]]) h) fun v h'=>Grow h h'∧(v=.ptr none∨∃bp,v=.ptr (some (.new bp 0))∧New0 h h' bp (a,b,1000) t):=by
 rw[kbcq];refine Runs.new fun h1 b1 g1=>Runs.step (b1.rd 3 rfl (asSl_v _)) ?_;refine(k46 (Qb.grow g1)).call fun v h2 ⟨g2,d⟩=>?_;have G2:=g1.trans g2;rcases d with⟨-,rfl⟩ | ⟨-,it,rfl,ta⟩
 ·exact Runs.step rfl (Runs.step (seen rfl) (Runs.step (seen (kc _ _)) (Runs.ifT rfl (Runs.ret ⟨G2,.inl rfl⟩))))
 refine Runs.step rfl (Runs.step (seen rfl) (Runs.step (seen (kc _ _)) (Runs.ifF rfl (Runs.ifF rfl ?_))));have B2:=g2.has b1;refine Runs.step (show(h2.cell (((Ref.new h.blks.size 0).add 0).add 0)).bind AV.asSl=some s1 from B2.rd 0 rfl (asSl_v _)) (Runs.step (show(h2.cell (((Ref.new h.blks.size 0).add 0).add 1)).bind AV.asSl=some s2 from B2.rd 1 rfl (asSl_v _)) (Runs.step (show(h2.cell (((Ref.new h.blks.size 0).add 0).add 2)).bind AV.asSl=some s3 from B2.rd 2 rfl (asSl_v _)) ?_));refine(k2h (Q.grow G2) ta (fun _ x _=>x.elim) (fun _ x=>x.elim) a b 1000).call fun v h3 ⟨g3,d⟩=>?_;have G3:=G2.trans g3;rcases d with⟨e,he,rfl⟩ | ⟨bp,C,L,rfl,P,hC⟩
 ·exact Runs.step rfl (Runs.step (seen rfl) (Runs.step (seen (kc _ _)) (Runs.ifT (by rw[Bool.not_eq_true',decide_eq_false_iff_not];exact he) (Runs.ret ⟨G3,.inl rfl⟩))))
 refine Runs.step rfl (Runs.step (seen rfl) (Runs.step (seen (kc _ _)) (Runs.ifF rfl (Runs.ifF rfl ?_))));have z1:=g1.size;have z2:=G2.size
 have hC':∀j,C j≠0→h.blks.size≤j:=fun j x=>by
  rcases hC j x with y | y | y
  ·have y:h1.blks.size≤j∧j<h2.blks.size:=y;omega
  ·exact y.elim
  ·omega
 exact(kbac T0 G3 (g3.has B2) P hC' (fun g hg=>by cases hg) (Q.ids.len) hs t.ids.length 0 (by omega) (Grow.refl _) (GF.none _ _ _ Fp.no) trivial (fun x y=>y.elim)).imp fun v h' ⟨e,n⟩=>⟨n.1,.inr ⟨bp,e,n⟩⟩
end
structure Ow where
 t:Tb
 bs:List Nat
 u:Tb
@[reducible] def Ef.own:Ef Ow where
 w:=7
 pos:=by decide
 has h S cs o:=∃s1 s2 s3 s4 s5 s6 s7:Sl,cs=[s1.v,s2.v,s3.v,s4.v,s5.v,s6.v,s7.v]∧TabAt h S s1 s2 s3 o.t∧Sq Ef.byte h S s4 o.bs∧TabAt h S s5 s6 s7 o.u
 len:=fun⟨_,_,_,_,_,_,_,e,_⟩=>by rw[e];rfl
 grow g:=fun⟨a,b,c,d,i,j,k,e,n,m,l⟩=>⟨a,b,c,d,i,j,k,e,n.grow g,m.grow g,l.grow g⟩
 mono f:=fun⟨a,b,c,d,i,j,k,e,n,m,l⟩=>⟨a,b,c,d,i,j,k,e,n.mono f,m.mono f,l.mono f⟩
 upd no u:=fun⟨a,b,c,d,i,j,k,e,n,m,l⟩=>⟨a,b,c,d,i,j,k,e,⟨n.ids.upd no u,n.bins.upd no u,n.cols.upd no u⟩,m.upd no u,⟨l.ids.upd no u,l.bins.upd no u,l.cols.upd no u⟩⟩
 bound:=fun⟨a,b,c,d,i,j,k,e,n,m,l⟩=>⟨a,b,c,d,i,j,k,e,⟨n.ids.bound,n.bins.bound,n.cols.bound⟩,m.bound,⟨l.ids.bound,l.bins.bound,l.cols.bound⟩⟩
@[reducible] def Ef.pt:Ef Nat where
 w:=1
 pos:=by decide
 has _ _ cs x:=cs=[.ptr (some (.new x 0))]
 len e:=by rw[e];rfl
 grow _ e:=e
 mono _ e:=e
 upd _ _ e:=e
 bound e:=e
section
variable{h h':AH}{S U:Fp}{s:Sl}
theorem Sq.own{xs:List Ow}(n:Sq Ef.own h S s xs){i:Nat}(hi:i<xs.length):∃(r:Ref)(s1 s2 s3 s4 s5 s6 s7:Sl),idx s.ref s.len (i:Int) 7=some r∧(h.cell (r.add 0)).bind AV.asSl=some s1∧(h.cell (r.add 1)).bind AV.asSl=some s2∧(h.cell (r.add 2)).bind AV.asSl=some s3∧(h.cell (r.add 3)).bind AV.asSl=some s4∧(h.cell (r.add 4)).bind AV.asSl=some s5∧(h.cell (r.add 5)).bind AV.asSl=some s6∧(h.cell (r.add 6)).bind AV.asSl=some s7∧
  TabAt h S s1 s2 s3 xs[i].t∧Sq Ef.byte h S s4 xs[i].bs∧TabAt h S s5 s6 s7 xs[i].u:=by
 obtain⟨r,cs,e1,⟨s1,s2,s3,s4,s5,s6,s7,rfl,t,b,u⟩,l⟩:=n.at (kd2 hi);rw[n.len];have g:=Grow.refl h;exact⟨r,s1,s2,s3,s4,s5,s6,s7,e1,l.rd g 0 rfl (asSl_v _),l.rd g 1 rfl (asSl_v _),l.rd g 2 rfl (asSl_v _),l.rd g 3 rfl (asSl_v _),l.rd g 4 rfl (asSl_v _),l.rd g 5 rfl (asSl_v _),l.rd g 6 rfl (asSl_v _),t,b,u⟩
theorem Sq.pt{xs:List Nat}(n:Sq Ef.pt h S s xs){i:Nat}(hi:i<xs.length):∃r:Ref,idx s.ref s.len (i:Int) 1=some r∧(h.cell r).bind AV.asPtr=some (some (.new xs[i] 0)):=by
 obtain⟨r,cs,e1,e2,l⟩:=n.at (kd2 hi);have e2:cs=[.ptr (some (.new xs[i] 0))]:=e2;subst e2;rw[n.len];exact⟨r,e1,l.rd0 (Grow.refl _) rfl rfl⟩
theorem kdo{r:Ref}{a b:Nat}{A:Type}{f:AV→Option A}{x:A}(e:(h.cell (r.add (a+b))).bind f=some x):(h.cell ((r.add a).add b)).bind f=some x:=by
 rw[Ref.add_add];exact e
def PAt(h:AH)(Z:Fp)(t:Tb)(bp:Nat)(g:List Gv):Prop:=∃C q L p,PtIn h C bp q L t p∧(∀j,C j≠0→Z j)∧p.msk.given=g∧∀x∈g,x.c≤31
theorem PAt.md{Z:Fp}{t:Tb}{bp:Nat}{g:List Gv}(p:PAt h Z t bp g)(m:Md U h h')(d:Dis Z U):PAt h' Z t bp g:=by
 obtain⟨C,q,L,p,P,hC,e⟩:=p;exact⟨C,q,L,p,P.md m fun j u=>Classical.byContradiction fun x=>d j (hC j x) u,hC,e⟩
theorem PAt.mono{Z Z':Fp}{t:Tb}{bp:Nat}{g:List Gv}(p:PAt h Z t bp g)(f:∀j,Z j→Z' j):PAt h Z' t bp g:=by
 obtain⟨C,q,L,p,P,hC,e⟩:=p;exact⟨C,q,L,p,P,fun j x=>f j (hC j x),e⟩
structure JCtx(h:AH)(W:Fp)(own:List Ow)(t:Tb)(s9 s10:Sl)(bps:List Nat)(G:List (List Gv)):Prop where
 pts:Sq Ef.pt h W s9 bps
 tabs:Sq Ef.tb h W s10 (t::own.map Ow.u)
 lb:bps.length=own.length
 lg:G.length=own.length
 at':∀(k:Nat)(h1:k<own.length)(h2:k<bps.length)(h3:k<G.length),PAt h W own[k].t bps[k] G[k]
 ok:∀o∈own,tabR o.u=true∧o.u.ids=t.ids
theorem JCtx.md{W:Fp}{own:List Ow}{t:Tb}{s9 s10:Sl}{bps:List Nat}{G:List (List Gv)}(c:JCtx h W own t s9 s10 bps G)(m:Md U h h')(d:Dis W U):JCtx h' W own t s9 s10 bps G :=
 ⟨c.pts.md m d,c.tabs.md m d,c.lb,c.lg,fun k h1 h2 h3=>(c.at' k h1 h2 h3).md m d,c.ok⟩
theorem JCtx.grow{W:Fp}{own:List Ow}{t:Tb}{s9 s10:Sl}{bps:List Nat}{G:List (List Gv)}(c:JCtx h W own t s9 s10 bps G)(g:Grow h h'):JCtx h' W own t s9 s10 bps G:=c.md (g.md Fp.no) Dis.no
end
section
variable{h1:AH}{W Sm Sv Sx:Fp}{s10 s29 pl:Sl}{ts:List Tb}{sc:List Int}{m:List (List Nd)}{G:List (List Gv)}{b17 n:Nat}
theorem kbcd(J:Jo m G ts n)(Qt:Sq Ef.tb h1 Sx s10 ts)(hl:ts.length≤16)(B17:h1.has b17 [pl.v] kbh)(M:Sq EM h1 Sm pl (unM G m))(V:Sq EI h1 Sv s29 sc)(hsc:sc.length=n)(hn:n≤256)
  (all:∀i,i<n→evalF (rowT ts i) (unM G m)=(sc.getD i 0,0)):∀(k i:Nat),i+k=sc.length→∀{h:AH},Grow h1 h→
  Runs (go (.pt kz kht [(10,s10.v),(17,.ptr (some (.new b17 0))),(29,s29.v),(31,.int .i64 (i:Int))]) h) fun v _=>v=.bool true:=by
 intro k
 induction k with
 | zero =>
  intro i hi h g;rw[ks9,V.len];exact Runs.ifF (decide_eq_false (by omega)) (Runs.ret rfl)
 | succ k ih =>
  intro i hi h g;have hlt:i<sc.length:=by omega
  rw[ks9,V.len];refine Runs.ifT (decide_eq_true (by omega)) (Runs.step ((g.has B17).rd 0 rfl (asSl_v _)) ?_);refine(kyp (i:=i) (Qt.grow g) hl fun p hp=>?_).call fun v h2 ⟨g2,y,S,e,R⟩=>?_
  ·obtain⟨h1,h2⟩:=J.tab p hp;refine⟨(kvx h1).2,fun f hf=>?_⟩;rw[kwp h1 hf,h2];omega
  subst e;refine Runs.step (seen (asSl_v _)) (Runs.when (g2.same (g.has B17) 0 1) ?_);refine(k2q (M.grow (g.trans g2)) R).call fun v h3 ⟨e,g3⟩=>?_;subst e;have ev:=all i (by omega);rw[ev];refine Runs.step rfl (Runs.step (seen (kc _ _)) (Runs.step (seen (kc _ _)) (Runs.ifF rfl ?_)));have G3:=g.trans (g2.trans g3);obtain⟨r,e1,e2⟩:=(V.grow G3).int hlt;rw[V.len]at e1;have hg:sc.getD i 0=sc[i]:=by simp[List.getD,hlt]
  rw[hg];refine Runs.step e1 (Runs.step e2 (Runs.ifF (by simp) ?_));rw[kf (by omega)];exact ih (i+1) (by omega) G3
variable{h0:AH}{own:List Ow}{t:Tb}{s1 s2 s3 s9 a1:Sl}{bps:List Nat}{b5 wi wj:Nat}
theorem kxh(J:Jo m G ts n){w:Wk}{h:AH}{Sw:Fp}(hm:w.m=m)(ht:w.t=t)(hnt:n=t.ids.length)(N:WalkAt kb0 h Sw wi wj w)(o:w.Ok)(hs:w.step=none)(hr:w.row=w.t.ids.length)(I:Inv ts (unM G m) w)
  (Qt:Sq Ef.tb h Sx s10 ts) (hl:ts.length≤16) (B17:h.has b17 [pl.v] kbh) (M:Sq EM h Sm pl (unM G m)) (B5:h.has b5 [s1.v,s2.v,s3.v] ku) (T0:TabAt h Fp.no s1 s2 s3 t) :
  Runs ((go (.fn khw [.ptr (some (.new wi 0))]) h).bind fun q22 =>
 (AV.asTup2 q22.1).bind fun p23 =>
 ((some p23.1).bind AV.asSl).bind fun l24 =>
 ((some p23.2).bind AV.asBool).bind fun b25 =>
 cond (!b25) (
 some (.bool false,q22.2)) (
 ((q22.2.cell ((Ref.new b5 0).add 0)).bind AV.asSl).bind fun l26 =>
 cond (!decide ((l24.len:Int)=(l26.len:Int))) (
 some (.bool false,q22.2)) (
 go (.pt kz kht [(10,s10.v),(17,.ptr (some (.new b17 0))),(29,l24.v),(31,.int .i64 0)]) q22.2))) fun v _=>v=.bool true:=by
 refine(kv6 N o hs).call fun v h2 ⟨s',k,e,V,g⟩=>?_;subst e;have h256:=kgr o.t;refine Runs.step rfl (Runs.step (seen (asSl_v _)) (Runs.step (seen rfl) (Runs.ifF (by rw[decide_eq_false (by omega)];rfl) (Runs.step ((g.has B5).rd 0 rfl (asSl_v _)) ?_))));rw[V.len,T0.ids.len];have hsc:=o.sc;rw[ht]at hsc h256 hr;refine Runs.ifF (by rw[hsc];simp) ?_
 exact kbcd J (Qt.grow g) hl (g.has B17) (M.grow g) V.sq (by omega) (by omega) (fun i hi=>by
  subst hm;exact I.all J (by rw[ht];exact hr) (by rw[ht];omega)) w.sc.length 0 (by omega) (Grow.refl _)
theorem kbap(J:Jo m G ts n)(hts:ts=t::own.map Ow.u)(hnt:n=t.ids.length)(ho:own.length≤8)(C:JCtx h1 W own t s9 s10 bps G)(hW:¬W wi∧¬W wj)(g0:Grow h0 h1)(hi0:h0.blks.size≤wi∧h0.blks.size≤wj)(Q:Sq Ef.own h0 Fp.no a1 own)
  (B5:h0.has b5 [s1.v,s2.v,s3.v] ku) (T0:TabAt h0 Fp.no s1 s2 s3 t) (B17:h1.has b17 [pl.v] kbh) (h17:b17≠wi∧b17≠wj) (M:Sq EM h1 Sm pl (unM G m)) (hM:¬Sm wi∧¬Sm wj) {Sw:Fp} :
  ∀(f:Nat){w:Wk}{z:Nat}{h:AH},w.mu≤f→z+w.mu≤900000→Md (Fp.two wi wj) h1 h→WalkAt kb0 h Sw wi wj w→w.m=m→w.t=t→w.Ok→w.step=none→Inv ts (unM G m) w→
  Runs (go (.pt kz kjf [(1,a1.v),(5,.ptr (some (.new b5 0))),(9,s9.v),(10,s10.v),(15,.ptr (some (.new wi 0))),(17,.ptr (some (.new b17 0))),(23,.int .i64 (z:Int))]) h) fun v _=>v=.bool true:=by
 intro f
 induction f with
 | zero=>?_
 | succ f ih=>?_
 all_goals
  intro w z h hf hz m1 N hm ht o hs I;have h256:=kgr o.t;have dW:Dis W (Fp.two wi wj):=fun j a b=>by rcases b with rfl | rfl;exact hW.1 a;exact hW.2 a
  have dM:Dis Sm (Fp.two wi wj):=fun j a b=>by rcases b with rfl | rfl;exact hM.1 a;exact hM.2 a
  have C1:=C.md m1 dW;have M1:=M.md m1 dM;have B17':=m1.has B17 fun y=>by rcases y with y | y;exact h17.1 y;exact h17.2 y
  have g1:Grow h0 h:=(g0.thenM m1).grow fun j hj y=>by rcases y with y | y<;>omega
  have hl16:ts.length≤16:=by rw[hts,List.length_cons,List.length_map];omega
  have Qt:Sq Ef.tb h W s10 ts:=by rw[hts];exact C1.tabs
  rw[k6o];refine Runs.ifT (decide_eq_true (by omega)) ?_;refine(kxc N o hs).call fun v h2 ⟨e,g2⟩=>?_;subst e;have hst:=o.stop hs
 ·have hrow:w.row=w.t.ids.length:=by
   refine hst.resolve_right fun⟨h1,h2,_⟩=>?_;have hn:=(Wk.nd_at o h1 h2).1;have h16:=kgb o.m;have h63:=(kc6 o.m h2).2.1;unfold Wk.mu at hf;omega
  have hne:¬w.row<w.t.ids.length:=by omega
  unfold Wk.next;rw[if_neg hne,decide_eq_false hne];refine Runs.step rfl (Runs.step rfl (Runs.ifT rfl (Runs.step rfl (Runs.step rfl (Runs.step rfl (Runs.step rfl (Runs.step rfl (Runs.step rfl (Runs.step rfl (Runs.step rfl (Runs.step (seen rfl) ?_)))))))))));refine Runs.new fun h3 b3 g3=>Runs.puts b3 rfl fun h4 b4 u4=>?_;have g4:Grow h h4:=(g2.trans g3).updr g2.size u4;exact Runs.ifT rfl (kxh J hm ht hnt (N.grow g4) o hs hrow I (Qt.grow g4) hl16 (g4.has B17') (M1.grow g4) ((g1.trans g4).has B5) (T0.grow (g1.trans g4)))
 ·by_cases hrow:w.row<w.t.ids.length
  rotate_left
  ·have hrow':w.row=w.t.ids.length:=by have:=o.row;omega
   unfold Wk.next;rw[if_neg hrow,decide_eq_false hrow];refine Runs.step rfl (Runs.step rfl (Runs.ifT rfl (Runs.step rfl (Runs.step rfl (Runs.step rfl (Runs.step rfl (Runs.step rfl (Runs.step rfl (Runs.step rfl (Runs.step rfl (Runs.step (seen rfl) ?_)))))))))));refine Runs.new fun h3 b3 g3=>Runs.puts b3 rfl fun h4 b4 u4=>?_;have g4:Grow h h4:=(g2.trans g3).updr g2.size u4;exact Runs.ifT rfl (kxh J hm ht hnt (N.grow g4) o hs hrow' I (Qt.grow g4) hl16 (g4.has B17') (M1.grow g4) ((g1.trans g4).has B5) (T0.grow (g1.trans g4)))
  ·subst hm
   have h0t:∃hp:0<ts.length,ts[0]=w.t:=by
    subst hts;exact⟨by simp,by rw[ht];rfl⟩
   obtain⟨k1,k2,k3,c,k4,k5⟩:=J.ask o h0t hs hrow;obtain⟨p,hp⟩:∃p:Nat,w.nd.party=((p+1:Nat):Int):=⟨w.nd.party.toNat-1,by omega⟩
   have hpo:p<own.length:=by
    rw[hts,List.length_cons,List.length_map]at k2;omega
   rw[Wk.next_open hrow,decide_eq_true hrow];refine Runs.step rfl (Runs.step rfl (Runs.ifT rfl (Runs.step (seenAt rfl (kc _ _)) (Runs.step (seenAt rfl (kc _ _)) (Runs.step (seenAt rfl (kc _ _)) (Runs.step (seenAt rfl (kc _ _)) (Runs.step (seenAt rfl (kc _ _)) (Runs.step (seenAt rfl (asSl_v _)) (Runs.step (seenAt rfl (asSl_v _)) (Runs.step (seenAt rfl (asSl_v _)) (Runs.step (seen rfl) ?_)))))))))));refine Runs.new fun h3 b3 g3=>Runs.puts b3 rfl fun h4 b4 u4=>?_;have g4:Grow h h4:=(g2.trans g3).updr g2.size u4;refine Runs.ifF rfl (Runs.step (b4.rd 0 rfl (kc _ _)) (Runs.ifF (decide_eq_false (by omega)) (Runs.step (b4.rd 0 rfl (kc _ _)) ?_)));rw[Q.len];refine Runs.ifF (decide_eq_false (by omega)) (Runs.step (b4.rd 1 rfl (kc _ _)) (Runs.ifF rfl ?_));refine Runs.new fun h5 b5' g5=>?_;have g5':=g4.trans g5;have B4:=g5.has b4;have C5:=C1.grow g5';refine Runs.step (B4.rd 0 rfl (kc _ _)) ?_;have hw1:IntKind.wrap .i64 (w.nd.party-1)=(p:Int):=by rw[hp,wrap64 (by omega) (by omega)];omega
   rw[hw1];obtain⟨r1,e1,e2⟩:=C5.pts.pt (i:=p) (by rw[C.lb];exact hpo);refine Runs.step e1 (Runs.step e2 (Runs.step (B4.rd 0 rfl (kc _ _)) ?_));rw[hw1];obtain⟨r2,y1,y2,y3,y4,y5,y6,y7,f0,f1,f2,f3,f4,f5,f6,f7,-,-,Tu⟩:=(Q.grow (g1.trans g5')).own hpo;rw[Q.len]at f0;refine Runs.step f0 (Runs.step (kdo f5) (Runs.step (kdo f6) (Runs.step (kdo f7) ?_)));refine Runs.step (B4.rd 1 rfl (kc _ _)) (Runs.step (B4.rd 2 rfl (kc _ _)) (Runs.step (B4.rd 3 rfl (kc _ _)) (Runs.step (B4.rd 4 rfl (kc _ _)) (Runs.step (B4.rd 5 rfl (asSl_v _)) (Runs.step (B4.rd 6 rfl (asSl_v _)) (Runs.step (B4.rd 7 rfl (asSl_v _)) ?_))))));obtain⟨Cc,q,L,pp,P,hC,eg,-⟩:=C5.at' p hpo (by rw[C.lb];exact hpo) (by rw[C.lg];exact hpo);refine(kbel P Tu (m:=w.query) (s5:=nilS) (s6:=nilS) (s7:=nilS) (Sm:=Fp.no) ⟨Sq.nil _ _ _,Sq.nil _ _ _,Sq.nil _ _ _⟩).call fun v h6 ⟨e,g6⟩=>?_;subst e
   have eG:findF pp.msk.given w.query.a=gvOf G w.nd:=by
    unfold gvOf;rw[eg,hp];have hpg:p<G.length:=by rw[C.lg];exact hpo
    have:((p+1:Nat):Int).toNat-1=p:=by omega
    rw[this,List.getD,List.getElem?_eq_getElem hpg];rfl
   have eu:own[p].u=ts[w.nd.party.toNat]:=by
    subst hts;simp only[hp,Int.toNat_natCast,List.getElem_cons_succ,List.getElem_map]
   have er:repV (findF pp.msk.given w.query.a) own[p].u w.query=msgV 9 w.nd.feature (w.row:Int) c 0:=by
    unfold repV;rw[eG,eu,k4]
   rw[er];refine Runs.step rfl (Runs.step rfl (Runs.ifT rfl (Runs.step (seenAt rfl (kc _ _)) (Runs.step (seenAt rfl (kc _ _)) (Runs.step (seenAt rfl (kc _ _)) (Runs.step (seenAt rfl (kc _ _)) (Runs.step (seenAt rfl (asSl_v _)) (Runs.step (seenAt rfl (asSl_v _)) (Runs.step (seenAt rfl (asSl_v _)) (Runs.step (seen (kc _ _)) (Runs.when (g6.same b5' 0 0) ?_)))))))))));refine Runs.puts (g6.has b5') rfl fun h7 b7 u7=>?_;have g7:Grow h4 h7:=(g5.trans g6).updr (Nat.le_refl _) u7;have B47:=g7.has b4;refine Runs.step (B47.rd 0 rfl (kc _ _)) (Runs.step (b7.rd 0 rfl (kc _ _)) (Runs.step (b7.rd 1 rfl (kc _ _)) (Runs.step (b7.rd 2 rfl (kc _ _)) (Runs.step (b7.rd 3 rfl (kc _ _)) (Runs.step (b7.rd 4 rfl (asSl_v _)) (Runs.step (b7.rd 5 rfl (asSl_v _)) (Runs.step (b7.rd 6 rfl (asSl_v _)) ?_)))))));obtain⟨a1',a2,a3,a4,a5,a6,a7⟩:=k5 ⟨9,w.nd.feature,(w.row:Int),c,[],[],[]⟩ rfl;refine(k9e (N.grow (g4.trans g7)) o hs (m:=⟨9,w.nd.feature,(w.row:Int),c,[],[],[]⟩) (s5:=nilS) (s6:=nilS) (s7:=nilS) (S':=Fp.no) ⟨Sq.nil _ _ _,Sq.nil _ _ _,Sq.nil _ _ _⟩ w.nd.party).call fun v h8 ⟨e,N8,m8⟩=>?_;subst e;rw[a1'];refine Runs.step (seen (kc _ _)) (Runs.ifF rfl (Runs.ifF rfl ?_));rw[kf (by omega)];exact ih (w:=(w.answer w.nd.party ⟨9,w.nd.feature,(w.row:Int),c,[],[],[]⟩).2) (by omega) (by omega) ((m1.thenG (g4.trans g7)).trans m8) N8 a4 (a5.trans ht) a6 a7 (a2 I)
end
theorem GF.part{α:Type}{E:Ef α}{elem:TypeId}{h:AH}{S:Fp}{s:Sl}{k:Nat}{xs:List α}(v:GF E elem h S s (some k) xs){j:Nat}(hj:j<xs.length):∃row,E.has h S row xs[j]∧∀{o:Nat}{vs:List AV}{x:α},o+vs.length≤E.w→(∀h',E.has h' S (row.take o++vs++row.drop (o+vs.length)) x)→
  ∃r h',idx s.ref s.len (j:Int) E.w=some r∧h.puts (r.add o) vs=some h'∧GF E elem h' S s (some k) (xs.set j x)∧Upd h h' k:=by
 obtain⟨l,a,r,ln,rows,e,b,cp,r2⟩:=v;have hrl:=All2.length r2;have hr:=Ef.rows r2;have hjr:j<rows.length:=by omega
 have hg:E.has h S rows[j] xs[j]:=by
  obtain⟨c,e1,e2⟩:=All2.get r2 (List.getElem?_eq_getElem hj);rw[List.getElem?_eq_getElem hjr]at e1;cases e1;exact e2
 refine⟨rows[j],hg,fun{o vs x} ho hx=>?_⟩;have hw:(rows[j]).length=E.w:=hr _ (List.getElem_mem hjr)
 have hA:(rows.take j).flatten.length=j*E.w:=by
  rw[kei (w:=E.w) fun q hq=>hr q (List.mem_of_mem_take hq),List.length_take,Nat.min_eq_left (by omega)]
 have fl:rows.flatten=(rows.take j).flatten++(rows[j]++(rows.drop (j+1)).flatten):=by
  rw[← List.flatten_cons,← List.flatten_append,← List.drop_eq_getElem_cons hjr,List.take_append_drop]
 have hle:j*E.w+o+vs.length≤rows.flatten.length:=by
  rw[fl,List.length_append,List.length_append,hA,hw];omega
 have key:rows.flatten.take (j*E.w+o)++vs++rows.flatten.drop (j*E.w+o+vs.length)=(rows.set j ((rows[j]).take o++vs++(rows[j]).drop (o+vs.length))).flatten:=by
  rw[List.set_eq_take_append_cons_drop,if_pos hjr,List.flatten_append,List.flatten_cons,fl];rw[List.take_append,List.take_of_length_le (by rw[hA];omega),hA,Nat.add_sub_cancel_left,List.take_append,hw,show o-E.w=0 by omega,List.take_zero,List.append_nil];rw[List.drop_append,List.drop_eq_nil_of_le (by rw[hA];omega),hA,show j*E.w+o+vs.length-j*E.w=o+vs.length by omega,List.nil_append,List.drop_append,hw,show o+vs.length-E.w=0 by omega,List.drop_zero];simp only[List.append_assoc]
 refine⟨.new k (j*E.w),h.upd k (rows.set j ((rows[j]).take o++vs++(rows[j]).drop (o+vs.length))).flatten e,?_,?_,⟨by simpa using l,a,r,by simpa using ln,rows.set j _,e,AH.has_upd b _ _,cp,?_⟩,AH.upd_Upd h k _ e⟩
 ·rw[r,kd8 _ _ _ _ (by omega) (by omega)];simp
 ·rw[Ref.add_new,b.puts hle,key]
 ·exact All2.set (r2.imp fun _ _ y=>E.upd a (AH.upd_Upd h k _ e) y) (hx _) j
def NodeOk(G:List (List Gv))(ts:List Tb)(x:Nd):Prop:=x.leaf=false→x.party≠0→(gvOf G x).2=true∧∀hp:x.party.toNat<ts.length,(gvOf G x).1.f<ts[x.party.toNat].cols.length
structure Laid24(h1 h:AH)(b17:Nat)(pl:Sl)(jp:Option Nat)(Sp:Fp)(done:List (List Nd)):Prop where
 g:Grow h1 h
 B:h.has b17 [pl.v] kbh
 V:GF EM kb2 h Sp pl jp done
 hb:h1.blks.size≤b17
 hp:LeO h1.blks.size jp
 hS:∀j,Sp j→h1.blks.size≤j∧j<h.blks.size
 n1:¬Sp b17
 n2:jp≠some b17
theorem Laid24.upd{h1 h h':AH}{b17:Nat}{pl:Sl}{jp:Option Nat}{Sp:Fp}{done:List (List Nd)}(L:Laid24 h1 h b17 pl jp Sp done){i:Nat}(u:Upd h h' i)(hi:h1.blks.size≤i)(k1:i≠b17)(k2:¬Sp i)(k3:jp≠some i):Laid24 h1 h' b17 pl jp Sp done :=
 ⟨L.g.updr hi u,L.B.updr (fun x=>k1 x.symm) u,L.V.upd u k2 (fun k e x=>k3 (by rw[e,x])),L.hb,L.hp,fun j x=>⟨(L.hS j x).1,Nat.lt_of_lt_of_le (L.hS j x).2 u.size⟩,L.n1,L.n2⟩
theorem Laid24.grow{h1 h h':AH}{b17:Nat}{pl:Sl}{jp:Option Nat}{Sp:Fp}{done:List (List Nd)}(L:Laid24 h1 h b17 pl jp Sp done)(g:Grow h h'):Laid24 h1 h' b17 pl jp Sp done :=
 ⟨L.g.trans g,g.has L.B,L.V.grow g,L.hb,L.hp,fun j x=>⟨(L.hS j x).1,Nat.lt_of_lt_of_le (L.hS j x).2 g.size⟩,L.n1,L.n2⟩
section
variable{h0 h1:AH}{W:Fp}{own:List Ow}{t:Tb}{s1 s2 s3 s9 s10 a1 ml:Sl}{bps:List Nat}{G:List (List Gv)}{m:List (List Nd)}{b3 b5 b17:Nat}{o15:Option Ref}{P:AV→AH→Prop}
def curT(G:List (List Gv))(l:List Nd)(k:Nat):List Nd:=(l.take k).map (unN G)++l.drop k
theorem ke0{l:List Nd}{k:Nat}(hk:k≤l.length):(curT G l k).length=l.length:=by
 unfold curT;rw[List.length_append,List.length_map,List.length_take,List.length_drop];omega
theorem kj0{l:List Nd}{k:Nat}(hk:k<l.length)(h:k<(curT G l k).length):(curT G l k)[k]=l[k]:=by
 have e:(curT G l k)[k]?=some l[k]:=by
  unfold curT;rw[List.getElem?_append_right (by rw[List.length_map,List.length_take];omega)];simp[Nat.min_eq_left (Nat.le_of_lt hk),hk]
 obtain⟨_,e2⟩:=List.getElem?_eq_some_iff.1 e;exact e2
theorem kvm{l:List Nd}{k:Nat}(hk:k<l.length):(curT G l k).set k (unN G l[k])=curT G l (k+1):=by
 unfold curT;rw[List.set_append_right _ _ (by rw[List.length_map,List.length_take];omega),List.length_map,List.length_take,Nat.min_eq_left (Nat.le_of_lt hk),Nat.sub_self,List.drop_eq_getElem_cons hk,List.set_cons_zero,List.take_succ_eq_append_getElem hk,List.map_append];simp
theorem k7u{l:List Nd}{k:Nat}(hk:k<l.length)(e:unN G l[k]=l[k]):curT G l k=curT G l (k+1):=by
 rw[← kvm hk,e];have h:k<(curT G l k).length:=by rw[ke0 (Nat.le_of_lt hk)];exact hk
 rw[← kj0 hk h,List.set_getElem_self]
theorem k2l(C:JCtx h1 W own t s9 s10 bps G)(ho:own.length≤8){l:List Nd}(hl:l.length≤63)(hmay:∀(i:Nat)(hi:i<l.length),(l[i]).may (i:Int) (l.length:Int))(hpar:∀x∈l,x.leaf=false→x.party<((own.length+1:Nat):Int)){z:Nat}(hz:z<100){pl:Sl}{jp:Option Nat}{Sp:Fp}{done:List (List Nd)}(hd:done.length<100)
  (H:∀h' pl' jp' Sp',Laid24 h1 h' b17 pl' jp' Sp' (done++[l.map (unN G)])→(∀x∈l,NodeOk G (t::own.map Ow.u) x)→
   Runs (go (.pt kz ki1 [(1,a1.v),(3,.ptr (some (.new b3 0))),(5,.ptr (some (.new b5 0))),(9,s9.v),(10,s10.v),(15,.ptr o15),(17,.ptr (some (.new b17 0))),(18,.int .i64 ((z+1:Nat):Int))]) h') fun v _=>v=.bool true) :
  ∀(d k:Nat),k+d=l.length→∀{h:AH}{s:Sl}{jl:Nat},Laid24 h1 h b17 pl jp Sp done→GF Ef.nd kbc h Fp.no s (some jl) (curT G l k)→h1.blks.size≤jl→jl≠b17→¬Sp jl→jp≠some jl→(∀(i:Nat)(hi:i<l.length),i<k→NodeOk G (t::own.map Ow.u) l[i])→
  Runs (go (.pt kz kgs [(1,a1.v),(3,.ptr (some (.new b3 0))),(5,.ptr (some (.new b5 0))),(9,s9.v),(10,s10.v),(15,.ptr o15),(17,.ptr (some (.new b17 0))),(18,.int .i64 (z:Int)),(19,s.v),(20,.int .i64 (k:Int))]) h) fun v _=>v=.bool true:=by
 intro d
 induction d with
 | zero =>
  intro k hk h s jl L V hj1 hj2 hj3 hj4 hN;obtain rfl:k=l.length:=by omega
  rw[ks0,V.len,ke0 (Nat.le_refl _)];refine Runs.ifF (decide_eq_false (by omega)) (Runs.step (L.B.rd 0 rfl (asSl_v _)) (Runs.new fun h2 b2 g2=>?_));refine Runs.step (kcd b2 (by rw[knb];rfl)) ?_;have L2:=L.grow g2;have V2:=(V.grow g2).sq;have ec:curT G l l.length=l.map (unN G):=by unfold curT;rw[List.take_length,List.drop_length,List.append_nil]
  rw[ec]at V2
  obtain⟨s',h3,e3,V3,u3⟩:=L2.V.push (P:=Pg) (T:=Fp.or (Fp.opt (some jl)) Fp.no) (cs:=[s.v]) (x:=l.map (unN G)) ⟨s,rfl,V2⟩ (by
   cases jp with
   | none=>trivial
   | some a =>
    intro e;rcases e with e | e
    ·have e:some jl=some a:=e;exact hj4 e.symm
    ·exact e) (kuh (by omega))
  refine Runs.step e3 (Runs.step (asSl_v _) ?_);have hjb:jp≠some b17:=L.n2
  have B3:h3.has b17 [pl.v] kbh:=AH.has.updo L2.B (i:=jp) (by
   cases jp with
   | none=>trivial
   | some a=>intro e;exact hjb (by rw[e])) u3
  refine Runs.putAt B3 (cs':=[s'.v]) (by simp) (by simp) fun h4 b4 u4=>?_;have lt:=L2.V.lt
  have hz2:h2.blks.size≠b17:=by
   have:=L2.B.lt;omega
  have Sb:¬(fun j=>Fp.or Sp (Fp.or (Fp.opt (some jl)) Fp.no) j∧j<h2.blks.size) b17:=by
   rintro ⟨x,-⟩
   rcases x with x | x
   ·exact L.n1 x
   ·rcases x with x | x
    ·have x:some jl=some b17:=x;cases x;exact hj2 rfl
    ·exact x
  rw[kf (by omega)];have g3:Grow h1 h3:=L2.g.updo L2.hp u3;have hlt:=V.lt;have hlt:jl<h.blks.size:=hlt;have hz0:=g2.size;have hz3:=L2.g.size;refine H h4 s' (some h2.blks.size) _ ⟨g3.updr L.hb u4,b4,V3.upd u4 Sb (fun k e x=>by cases e;exact hz2 x),L.hb,(show h1.blks.size≤h2.blks.size from hz3),fun j x=>?_,Sb,fun e=>by cases e;exact hz2 rfl⟩ fun x hx=>?_
  ·have z4:h3.blks.size≤h4.blks.size:=u4.size;have z5:=V3.lt;have z5:h2.blks.size<h3.blks.size:=z5;obtain⟨x1,x2⟩:=x;have x2:j<h2.blks.size:=x2;refine⟨?_,by omega⟩;rcases x1 with x | x
   ·exact(L.hS j x).1
   ·rcases x with x | x
    ·have x:some jl=some j:=x;cases x;exact hj1
    ·exact x.elim
  ·obtain⟨i,hi,rfl⟩:=List.mem_iff_getElem.1 hx;exact hN i hi hi
 | succ d ih =>
  intro k hk h s jl L V hj1 hj2 hj3 hj4 hN;have hlt:k<l.length:=by omega
  have hlc:k<(curT G l k).length:=by rw[ke0 (Nat.le_of_lt hlt)];exact hlt
  have hm:=hmay k hlt;unfold Nd.may at hm;obtain⟨r,e0,f0,f1,f2,f3,f4,f5,f6⟩:=V.sq.nd hlc;rw[kj0 hlt hlc]at f0 f1 f2 f3 f4 f5 f6;have e0':=e0;rw[V.len,ke0 (Nat.le_of_lt hlt)]at e0;rw[ks0,V.len,ke0 (Nat.le_of_lt hlt)];refine Runs.ifT (decide_eq_true (by omega)) (Runs.step e0 (Runs.step f0 ?_))
  have skip:(l[k].leaf=true∨l[k].party=0)→Runs (go (.pt kz kgs [(1,a1.v),(3,.ptr (some (.new b3 0))),(5,.ptr (some (.new b5 0))),(9,s9.v),(10,s10.v),(15,.ptr o15),(17,.ptr (some (.new b17 0))),(18,.int .i64 (z:Int)),(19,s.v),(20,.int .i64 (IntKind.wrap .i64 ((k:Int)+1)))]) h) fun v _=>v=.bool true:=fun hs=>by
   rw[kf (by omega)];refine ih (k+1) (by omega) L (by rw[← k7u hlt (by unfold unN;rw[if_pos hs])];exact V) hj1 hj2 hj3 hj4 fun i hi hik=>?_;rcases Nat.lt_or_ge i k with x | x
   ·exact hN i hi x
   ·obtain rfl:i=k:=by omega
    intro x1 x2;rcases hs with hs | hs
    ·rw[x1]at hs;cases hs
    ·exact absurd hs x2
  refine Runs.cond (fun c=>skip (.inl c)) fun c=>?_;refine Runs.step e0 (Runs.step f2 (Runs.cond (fun c2=>skip (.inr (by simpa using c2))) fun c2=>?_));rw[decide_eq_false_iff_not]at c2;rw[c,if_neg (by decide)]at hm;have hpl:=hpar _ (List.getElem_mem hlt) c;obtain⟨p,hp⟩:∃p:Nat,l[k].party=((p+1:Nat):Int):=⟨l[k].party.toNat-1,by omega⟩;have hpo:p<own.length:=by omega
  refine Runs.new fun h2 b2 g2=>?_;have L2:=L.grow g2;have V2:=V.grow g2;have C2:=C.grow L2.g;obtain⟨r',y0,x0,x1,x2,x3,x4,x5,x6⟩:=V2.sq.nd hlc;rw[kj0 hlt hlc]at x0 x1 x2 x3 x4 x5 x6;rw[V.len,ke0 (Nat.le_of_lt hlt)]at y0;obtain rfl:r=r':=by rw[e0]at y0;cases y0;rfl
  refine Runs.step e0 (Runs.step x2 ?_);have hw1:IntKind.wrap .i64 (l[k].party-1)=(p:Int):=by rw[hp,wrap64 (by omega) (by omega)];omega
  rw[hw1];obtain⟨r1,e1,e2⟩:=C2.pts.pt (i:=p) (by rw[C.lb];exact hpo);refine Runs.step e1 (Runs.step e2 (Runs.step e0 (Runs.step x3 ?_)));obtain⟨Cc,q,Lp,pp,PP,hC,eg,-⟩:=C2.at' p hpo (by rw[C.lb];exact hpo) (by rw[C.lg];exact hpo)
  have eG:findF pp.msk.given l[k].feature=gvOf G l[k]:=by
   unfold gvOf;rw[eg,hp];have hpg:p<G.length:=by rw[C.lg];exact hpo
   have:((p+1:Nat):Int).toNat-1=p:=by omega
   rw[this,List.getD,List.getElem?_eq_getElem hpg];rfl
  refine(ktb PP l[k].feature).call fun v h3 ⟨g3,e⟩=>?_;subst e;rw[eG];refine Runs.step rfl (Runs.step rfl (Runs.ifT rfl (Runs.step (seenAt rfl (kc _ _)) (Runs.step (seenAt rfl (kc _ _)) (Runs.step (seen rfl) (Runs.when (g3.same b2 0 0) ?_))))));refine Runs.puts (g3.has b2) rfl fun h4 b4 u4=>?_;have g4:Grow h h4:=(g2.trans g3).updr (Nat.le_refl _) u4;refine Runs.cond (fun k=>Runs.ret rfl) fun c3=>?_;rw[Bool.not_eq_false']at c3;have L4:=L.grow g4;have V4:=V.grow g4;obtain⟨r',y0,x0,x1,x2,x3,x4,x5,x6⟩:=V4.sq.nd hlc;rw[kj0 hlt hlc]at x0 x1 x2 x3 x4 x5 x6;rw[V.len,ke0 (Nat.le_of_lt hlt)]at y0;obtain rfl:r=r':=by rw[e0]at y0;cases y0;rfl
  refine Runs.step (b4.rd 0 rfl (kc _ _)) (Runs.step e0 (Runs.step x2 ?_));have hpt:p+1<(t::own.map Ow.u).length:=by rw[List.length_cons,List.length_map];omega
  obtain⟨r2,t1,t2,t3,d0,d1,d2,d3,Tt⟩:=(C.grow L4.g).tabs.tb hpt;rw[hp];refine Runs.step d0 (Runs.step d3 ?_);rw[Tt.cols.len];refine Runs.cond (fun k=>Runs.ret rfl) fun c4=>?_;rw[decide_eq_false_iff_not]at c4;refine Runs.step (b4.rd 0 rfl (kc _ _)) (Runs.step e0 ?_);obtain⟨row,hrow,part⟩:=V4.part hlc;have hrow:row=((curT G l k)[k]).cells:=hrow;rw[kj0 hlt hlc]at hrow;subst hrow;obtain⟨r3,h5,w1,w2,V5,u5⟩:=part (o:=3) (vs:=[.int .i64 ((gvOf G l[k]).1.f:Int)]) (x:={l[k]with feature:=((gvOf G l[k]).1.f:Int)}) (show 3+1≤7 by decide) (fun _=>rfl);rw[V.len,ke0 (Nat.le_of_lt hlt)]at w1
  obtain rfl:r=r3:=by
   have w1:idx s.ref l.length (k:Int) 7=some r3:=w1;rw[e0]at w1;cases w1;rfl
  refine Runs.step w2 ?_;have hjn:h.blks.size≠jl:=by have:=V.lt;have:jl<h.blks.size:=this;omega
  have b5:=b4.updr hjn u5;refine Runs.step (b5.rd 1 rfl (kc _ _)) (Runs.step e0 ?_);have hlc5:k<((curT G l k).set k {l[k]with feature:=((gvOf G l[k]).1.f:Int)}).length:=by rw[List.length_set];exact hlc
  obtain⟨row,hrow,part⟩:=V5.part hlc5;have hrow:row=(((curT G l k).set k {l[k]with feature:=((gvOf G l[k]).1.f:Int)})[k]).cells:=hrow;rw[List.getElem_set_self]at hrow;subst hrow
  obtain⟨r4,h6,w3,w4,V6,u6⟩:=part (o:=4) (vs:=[.int .i64 ((gvOf G l[k]).1.c:Int)]) (x:=unN G l[k]) (show 4+1≤7 by decide) (fun _=>by
   unfold unN;rw[if_neg (by rw[c];simp[c2])];rfl)
  rw[V.len,ke0 (Nat.le_of_lt hlt)]at w3
  obtain rfl:r=r4:=by
   have w3:idx s.ref l.length (k:Int) 7=some r4:=w3;rw[e0]at w3;cases w3;rfl
  refine Runs.step w4 ?_;rw[kf (by omega)];rw[List.set_set,kvm hlt]at V6;refine ih (k+1) (by omega) ((L4.upd u5 hj1 hj2 hj3 hj4).upd u6 hj1 hj2 hj3 hj4) V6 hj1 hj2 hj3 hj4 fun i hi hik=>?_;rcases Nat.lt_or_ge i k with x | x
  ·exact hN i hi x
  ·obtain rfl:i=k:=by omega
   intro _ _;refine⟨c3,fun hp2=>?_⟩;have e:l[i].party.toNat=p+1:=by rw[hp,Int.toNat_natCast]
   simp only[e];omega
theorem k00(C:JCtx h1 W own t s9 s10 bps G)(ho:own.length≤8)(hm:modR m=true)(hpar:∀l∈m,∀x∈l,x.leaf=false→x.party<((own.length+1:Nat):Int))(B3:h1.has b3 [ml.v] kbh)(M:Sq EM h1 Fp.no ml m)
  (H:∀h' pl' jp' Sp',Laid24 h1 h' b17 pl' jp' Sp' (unM G m)→(∀l∈m,∀x∈l,NodeOk G (t::own.map Ow.u) x)→
   Runs (go (.pt kz kjf [(1,a1.v),(5,.ptr (some (.new b5 0))),(9,s9.v),(10,s10.v),(15,.ptr o15),(17,.ptr (some (.new b17 0))),(23,.int .i64 0)]) h') fun v _=>v=.bool true) :
  ∀(d z:Nat),z+d=m.length→∀{h:AH}{pl:Sl}{jp:Option Nat}{Sp:Fp},Laid24 h1 h b17 pl jp Sp (unM G (m.take z))→(∀l∈m.take z,∀x∈l,NodeOk G (t::own.map Ow.u) x)→
  Runs (go (.pt kz ki1 [(1,a1.v),(3,.ptr (some (.new b3 0))),(5,.ptr (some (.new b5 0))),(9,s9.v),(10,s10.v),(15,.ptr o15),(17,.ptr (some (.new b17 0))),(18,.int .i64 (z:Int))]) h) fun v _=>v=.bool true:=by
 have h16:=kgb hm;intro d
 induction d with
 | zero =>
  intro z hz h pl jp Sp L hN;obtain rfl:z=m.length:=by omega
  rw[List.take_length]at L hN;rw[kxf];refine Runs.step ((L.g.has B3).rd 0 rfl (asSl_v _)) ?_;rw[M.len];exact Runs.ifF (decide_eq_false (by omega)) (H h pl jp Sp L hN)
 | succ d ih =>
  intro z hz h pl jp Sp L hN;have hlt:z<m.length:=by omega
  obtain⟨k1,k63,kmay⟩:=kc6 hm hlt;rw[kxf];refine Runs.step ((L.g.has B3).rd 0 rfl (asSl_v _)) ?_;rw[M.len];refine Runs.ifT (decide_eq_true (by omega)) (Runs.new fun h2 b2 g2=>Runs.step (((L.g.trans g2).has B3).rd 0 rfl (asSl_v _)) ?_);obtain⟨r,tl,e1,-,e2,n'⟩:=(M.grow (L.g.trans g2)).sl hlt;obtain⟨p,s',i,h3,e3,e4,V3,g3,hi⟩:=kvr (P:=Pg) n' kls (kvd (by omega)) b2 fun j x=>x.elim;refine Runs.step e1 (Runs.step e2 (Runs.step e3 (Runs.step e4 (Runs.step (asSl_v _) ?_))));have L3:=L.grow (g2.trans g3);have z1:=L.g.size;have z2:=L.B.lt;have z3:=L.V.lt
  have V3':GF Ef.nd kbc h3 Fp.no s' (some i) (curT G m[z] 0):=by
   have:curT G m[z] 0=m[z]:=by unfold curT;simp
   rw[this];exact V3
  refine k2l C ho (l:=m[z]) k63 kmay (hpar _ (List.getElem_mem hlt)) (z:=z) (by omega) (done:=unM G (m.take z)) (by rw[kf0,List.length_take];omega) (fun h' pl' jp' Sp' L' hN'=>?_) m[z].length 0 (by omega) L3 V3' (by omega) (by omega) (fun x=>by have:=(L.hS i x).2;omega) (fun x=>by rw[x]at z3;have:i<h.blks.size:=z3;omega) (fun i hi hk=>by omega)
  refine ih (z+1) (by omega) (by
   have:unM G (m.take (z+1))=unM G (m.take z)++[m[z].map (unN G)]:=by unfold unM;rw[List.take_succ_eq_append_getElem hlt,List.map_append];rfl
   rw[this];exact L') fun l hl=>?_
  rw[List.take_succ_eq_append_getElem hlt,List.mem_append,List.mem_singleton]at hl;rcases hl with hl | rfl
  ·exact hN l hl
  ·exact hN'
end
theorem kbbu{n:Nat}(h:n≤1000000):growOk Pg n kea 1=true:=by
 unfold growOk;rw[kzb,k1v];have h1:n*8≤kg:=by simp only[kg];omega
 have h2:n≤kg:=by simp only[kg];omega
 simp[h1,h2]
theorem Grow.rd{A:Type}{f:AV→Option A}{h h':AH}{r:Ref}{x:A}(g:Grow h h')(e:(h.cell r).bind f=some x):(h'.cell r).bind f=some x:=by
 obtain⟨v,e1,e2⟩:=Option.bind_eq_some_iff.1 e;rw[(g.md Fp.no).cell e1 fun _ _ _ y=>y];exact e2
theorem kbcz{m:List (List Nd)}{parties:Int}{t:Tb}(h:newE m parties t=0):modR m=true∧tabR t=true∧∀l∈m,∀x∈l,x.leaf=false→x.party<parties:=by
 unfold newE at h;split at h
 ·cases h
 rename_i h1;split at h
 ·cases h
 rename_i h2;split at h
 ·cases h
 rename_i h3;refine⟨by simpa using fun y=>h1 (.inl y),by simpa using h2,fun l hl x hx h4=>?_⟩;have h3:(m.any fun l=>l.any (oddN parties t.cols.length))=false:=by simpa using h3
 rw[List.any_eq_false]at h3;have:=h3 l hl;simp only[Bool.not_eq_true,List.any_eq_false]at this;have:=this x hx;unfold oddN at this;simp[h4]at this;omega
theorem kyq(m:List (List Nd))(parties:Int)(t:Tb):newE m parties t=0∨newE m parties t=1∨newE m parties t=20:=by
 unfold newE;split
 ·exact .inr (.inl rfl)
 split
 ·exact .inr (.inr rfl)
 split
 ·exact .inr (.inl rfl)
 ·exact .inl rfl
section
variable{h0:AH}{W:Fp}{own:List Ow}{t:Tb}{s1 s2 s3 s9 s10 a1 ml:Sl}{bps:List Nat}{G:List (List Gv)}{m:List (List Nd)}{b3 b5:Nat}
theorem k3f{h:AH}(g:Grow h0 h)(C:JCtx h W own t s9 s10 bps G)(hW:∀j,W j→j<h.blks.size)(ho:own.length≤8)(B3:h0.has b3 [ml.v] kbh)(B5:h0.has b5 [s1.v,s2.v,s3.v] ku)(M:Sq EM h0 Fp.no ml m)(T0:TabAt h0 Fp.no s1 s2 s3 t)(Q:Sq Ef.own h0 Fp.no a1 own) :
  Runs (go (.pt kz kie [(1,a1.v),(3,.ptr (some (.new b3 0))),(5,.ptr (some (.new b5 0))),(9,s9.v),(10,s10.v),(11,.int .i64 (own.length:Int))]) h) fun v _=>v=.bool true:=by
 have B5':=g.has B5;rw[kxz,Q.len];refine Runs.ifF (decide_eq_false (by omega)) (Runs.step ((g.has B3).rd 0 rfl (asSl_v _)) (Runs.step (B5'.rd 0 rfl (asSl_v _)) (Runs.step (B5'.rd 1 rfl (asSl_v _)) (Runs.step (B5'.rd 2 rfl (asSl_v _)) ?_))));rw[kf (by omega)];refine(ksk (M.grow g) (T0.grow g) (fun k x=>x.elim) ((own.length+1:Nat):Int)).call fun v h2 ⟨g2,d⟩=>?_;rcases d with⟨e0,e⟩ | ⟨e0,wi,wj,S,e,N,ok,hi,hj,hi2,hj2,hS⟩
 ·subst e;refine Runs.step rfl (Runs.step (seen rfl) (Runs.step (seen (kc _ _)) (Runs.ifT (by rw[decide_eq_false e0];rfl) ?_)));rcases kyq m ((own.length+1:Nat):Int) t with k | k | k
  ·exact absurd k e0
  ·rw[k];exact Runs.ifT rfl (Runs.ret rfl)
  ·rw[k];exact Runs.ifF rfl (Runs.ret rfl)
 subst e;obtain⟨hm,hR,hpar⟩:=kbcz e0;refine Runs.step rfl (Runs.step (seen rfl) (Runs.step (seen (kc _ _)) (Runs.ifF rfl (Runs.ifF rfl ?_))));refine Runs.new fun h3 b17 g3=>?_;have z3:=b17.lt;have C2:=C.grow g2;refine k00 (h1:=h2) (b17:=h2.blks.size) C2 ho hm hpar ((g.trans g2).has B3) (M.grow (g.trans g2)) (fun hB pl' jp' Sp' L hN=>?_) m.length 0 (by omega) (pl:=nilS) (jp:=none) (Sp:=Fp.no) ⟨g3,b17,GF.none _ _ _ _,Nat.le_refl _,trivial,(fun j x=>False.elim x),(fun x=>x),(fun x=>by cases x)⟩ (fun l hl=>by cases hl);have o0:=ok;obtain⟨k1,k2,k3,k4⟩:=Wk.Ok.on _ ok (Nat.le_refl _);have h256:=kgr hR
 have J:Jo m G (t::own.map Ow.u) t.ids.length:=by
  refine⟨hm,by rw[List.length_cons,List.length_map,C.lg],fun p hp=>?_,fun l hl x hx h4=>?_,fun l hl x hx h4 h5 hp=>?_,fun l hl x hx h4 h5=>hN l hl x hx h4 h5,fun l hl x hx=>?_⟩
  ·cases p with
   | zero=>exact⟨hR,rfl⟩
   | succ p =>
    have hp:p<own.length:=by simpa using hp
    obtain⟨a,b⟩:=C.ok _ (List.getElem_mem hp);refine⟨?_,?_⟩
    ·simpa using a
    ·simp only[List.getElem_cons_succ,List.getElem_map];rw[b]
  ·rw[List.length_cons,List.length_map];exact hpar l hl x hx h4
  ·exact ok.own l hl x hx h4 h5
  ·obtain⟨i,hi,rfl⟩:=List.mem_iff_getElem.1 hl;have hio:i<own.length:=by rw[← C.lg];exact hi
   obtain⟨Cc,q,L,pp,P,hC,eg,hc⟩:=C.at' i hio (by rw[C.lb];exact hio) hi;exact hc x hx
 have h0t:∃hp:0<(t::own.map Ow.u).length,(t::own.map Ow.u)[0]=(Wk.init m t).t:=⟨by simp,rfl⟩;obtain⟨I,mu⟩:=Inv.on (G:=G) (ts:=t::own.map Ow.u) (n:=t.ids.length) (Wk.init m t).mu (w:=Wk.init m t) ok J h0t (Inv.init m t _ _)
 have hmu:(Wk.init m t).mu≤256*1089:=by
  unfold Wk.mu;show(t.ids.length-0)*1089-_≤_;omega
 have zB:=L.g.size;have NB:=N.grow L.g
 exact kbap (W:=W) (Sm:=Fp.or (Fp.opt jp') Sp') J rfl rfl ho (C2.grow L.g) ⟨fun x=>by have:=hW _ x;omega,fun x=>by have:=hW _ x;omega⟩ (g.trans (g2.trans L.g)) ⟨by have:=g.size;omega,by have:=g.size;omega⟩ Q B5 T0 L.B ⟨by omega,by omega⟩ L.V.sq
  ⟨fun x=>by
   rcases x with x | x
   ·have x:jp'=some wi:=x;have:=L.hp;rw[x]at this;have:h2.blks.size≤wi:=this;omega
   ·have:=(L.hS _ x).1;omega,fun x=>by
   rcases x with x | x
   ·have x:jp'=some wj:=x;have:=L.hp;rw[x]at this;have:h2.blks.size≤wj:=this;omega
   ·have:=(L.hS _ x).1;omega⟩ (Wk.init m t).go.mu (z:=0) (Nat.le_refl _) (by
   have:(Wk.init m t).go.mu≤(Wk.init m t).mu:=mu;omega) (Md.refl _ _) NB k3 k4 k1 k2 I
structure St8(h0 h:AH)(Z:Fp)(own:List Ow)(t:Tb)(i:Nat)(s9:Sl)(j9:Option Nat)(s10:Sl)(j10:Nat)(bps:List Nat)(G:List (List Gv)):Prop where
 g:Grow h0 h
 V:GF Ef.pt kea h Fp.no s9 j9 bps
 l9:LeO h0.blks.size j9
 W:GF Ef.tb ku h Fp.no s10 (some j10) (t::(own.take i).map Ow.u)
 l10:h0.blks.size≤j10
 ne:j9≠some j10
 hZ:∀j,Z j→h0.blks.size≤j∧j<h.blks.size
 z9:∀x,j9=some x→¬Z x
 z10:¬Z j10
 lb:bps.length=i
 lg:G.length=i
 at':∀(k:Nat)(h1:k<own.length)(h2:k<bps.length)(h3:k<G.length),PAt h Z own[k].t bps[k] G[k]
 ok:∀o∈own.take i,tabR o.u=true∧o.u.ids=t.ids
theorem St8.grow{h h':AH}{Z:Fp}{i:Nat}{j9:Option Nat}{j10:Nat}(s:St8 h0 h Z own t i s9 j9 s10 j10 bps G)(g:Grow h h'):St8 h0 h' Z own t i s9 j9 s10 j10 bps G :=
 ⟨s.g.trans g,s.V.grow g,s.l9,s.W.grow g,s.l10,s.ne,fun j x=>⟨(s.hZ j x).1,Nat.lt_of_lt_of_le (s.hZ j x).2 g.size⟩,s.z9,s.z10,s.lb,s.lg,fun k h1 h2 h3=>(s.at' k h1 h2 h3).md (g.md Fp.no) Dis.no,s.ok⟩
theorem k81(T0':Tab h0)(ho:own.length≤8)(B3:h0.has b3 [ml.v] kbh)(B5:h0.has b5 [s1.v,s2.v,s3.v] ku)(M:Sq EM h0 Fp.no ml m)(T0:TabAt h0 Fp.no s1 s2 s3 t)(Q:Sq Ef.own h0 Fp.no a1 own) :
  ∀(d i:Nat),i+d=own.length→∀{h:AH}{Z:Fp}{s9 s10:Sl}{j9:Option Nat}{j10:Nat}{bps:List Nat}{G:List (List Gv)},St8 h0 h Z own t i s9 j9 s10 j10 bps G→
  Runs (go (.pt kz kie [(1,a1.v),(3,.ptr (some (.new b3 0))),(5,.ptr (some (.new b5 0))),(9,s9.v),(10,s10.v),(11,.int .i64 (i:Int))]) h) fun v _=>v=.bool true:=by
 intro d
 induction d with
 | zero =>
  intro i hi h Z s9 s10 j9 j10 bps G s;obtain rfl:i=own.length:=by omega
  have zz:=s.g.size;have V:=s.V.sq;have Wt:=s.W.sq;rw[List.take_length]at Wt;refine k3f (W:=fun j=>Z j∨j9=some j∨j=j10) s.g ⟨V.mono fun j x=>?_,Wt.mono fun j x=>?_,s.lb,s.lg,fun k h1 h2 h3=>(s.at' k h1 h2 h3).mono fun j x=>.inl x,fun o x=>s.ok o (by rw[List.take_length];exact x)⟩ (fun j x=>?_) ho B3 B5 M T0 Q
  ·rcases x with x | x
   ·exact .inr (.inl x)
   ·exact x.elim
  ·rcases x with x | x
   ·have x:some j10=some j:=x;cases x;exact .inr (.inr rfl)
   ·exact x.elim
  ·rcases x with x | x | x
   ·exact(s.hZ j x).2
   ·have:=s.V.lt;rw[x]at this;exact this
   ·have:j10<h.blks.size:=s.W.lt;omega
 | succ d ih =>
  intro i hi h Z s9 s10 j9 j10 bps G s;have hlt:i<own.length:=by omega
  have g:=s.g;obtain⟨r,y1,y2,y3,y4,y5,y6,y7,f0,f1,f2,f3,f4,f5,f6,f7,Tt,Tb',Tu⟩:=(Q.grow g).own hlt;rw[Q.len]at f0;rw[kxz,Q.len];refine Runs.ifT (decide_eq_true (by omega)) (Runs.step f0 (Runs.step (kdo f1) ?_));rw[Tt.ids.len];refine Runs.cond (fun k=>Runs.ret rfl) fun c1=>?_;rw[decide_eq_false_iff_not]at c1;refine Runs.step f0 (Runs.step f4 (Runs.cond (fun k=>Runs.ret rfl) fun c2=>?_));refine Runs.step f0 (Runs.step f1 (Runs.step f2 (Runs.step f3 (Runs.step f4 (Runs.step f5 (Runs.step f6 (Runs.step f7 ?_)))))));refine(k45 (T0'.grow g) Tt Tb' (by omega) (IntKind.wrap .i64 ((i:Int)+1)) (IntKind.wrap .i64 ((own.length:Int)+1))).call fun v h2 ⟨g2,d2⟩=>?_
  obtain⟨o,hv,hd⟩:∃o:Option Ref,v=.ptr o∧(o=none∨∃bp,o=some (.new bp 0)∧New0 h h2 bp (IntKind.wrap .i64 ((i:Int)+1),IntKind.wrap .i64 ((own.length:Int)+1),1000) own[i].t):=by
   rcases d2 with rfl | ⟨bp,rfl,n⟩
   ·exact⟨none,rfl,.inl rfl⟩
   ·exact⟨_,rfl,.inr ⟨bp,rfl,n⟩⟩
  subst hv;refine Runs.step (seen rfl) (Runs.step f0 (Runs.step (g2.rd (kdo f5)) (Runs.step (g2.rd (kdo f6)) (Runs.step (g2.rd (kdo f7)) ?_))));refine(k08 (Tu.grow g2)).call fun v h3 ⟨e,g3⟩=>?_;subst e;have g23:=g2.trans g3;have B5':=(g.trans g23).has B5;refine Runs.step (seen rfl) (Runs.step f0 (Runs.step (g23.rd (kdo f5)) (Runs.step (B5'.rd 0 rfl (asSl_v _)) ?_)));refine Runs.step (k0j (Tu.ids.grow g23) (T0.ids.grow (g.trans g23))) (Runs.step (seen rfl) ?_);rcases hd with rfl | ⟨bp,rfl,gn,C,L,p,P,hC,gok⟩
  ·exact Runs.ifT rfl (Runs.ret rfl)
  refine Runs.ifF rfl (Runs.cond (fun k=>Runs.ret rfl) fun c3=>Runs.cond (fun k=>Runs.ret rfl) fun c4=>?_);rw[Bool.not_eq_false']at c3;rw[Bool.not_eq_false',decide_eq_true_eq]at c4;refine Runs.new fun h4 b4 g4=>?_;refine Runs.step (kcd b4 (by rw[k6p];rfl)) ?_;have g24:=g23.trans g4;have s4:=s.grow g24;have P4:PtIn h4 C bp _ L own[i].t p:=P.grow (g3.trans g4);have z2:=g2.size;have z4:=(g3.trans g4).size;obtain⟨s9',h5,e5,V5,u5⟩:=s4.V.push (P:=Pg) (T:=Fp.no) (cs:=[.ptr (some (.new bp 0))]) (x:=bp) rfl NotO.no (kbbu (by have:=s.lb;omega));refine Runs.step e5 (Runs.step (asSl_v _) ?_);have g45:Grow h0 h5:=s4.g.updo s.l9 u5
  have hj9:∀x,j9=some x→x<h.blks.size:=fun x e=>by
   have:=s.V.lt;rw[e]at this;exact this
  have m45:Md (Fp.opt j9) h4 h5:=u5.md fun k e=>e
  have gh5:∀{r:Ref}{x:Sl},((h.cell r).bind AV.asSl=some x)→(∀j o,r=.new j o→j<h0.blks.size)→(h5.cell r).bind AV.asSl=some x:=fun{r x} e hr=>by
   obtain⟨v,e1,e2⟩:=Option.bind_eq_some_iff.1 (g24.rd e)
   rw[m45.cell e1 fun j o er y=>by
    have y:j9=some j:=y;have:=s.l9;rw[y]at this;have:h0.blks.size≤j:=this;have:=hr j o er;omega]
   exact e2
  have Q5:=Q.grow g45;obtain⟨r',y1',y2',y3',y4',y5',y6',y7',f0',-,-,-,-,f5',f6',f7',-,-,Tu5⟩:=Q5.own hlt;rw[Q.len]at f0';refine Runs.step f0' (Runs.step (kdo f5') (Runs.step (kdo f6') (Runs.step (kdo f7') ?_)));refine Runs.new fun h6 b6 g6=>?_;refine Runs.step (kcd b6 (by rw[klu];rfl)) ?_
  have W5:GF Ef.tb ku h5 Fp.no s10 (some j10) (t::(own.take i).map Ow.u):=GF.md m45 Dis.no.symm s4.W fun k e y=>by
   cases e;exact s.ne y
  obtain⟨s10',h7,e7,W7,u7⟩:=(W5.grow g6).push (P:=Pg) (T:=Fp.no) (cs:=[y5'.v,y6'.v,y7'.v]) (x:=own[i].u) ⟨y5',y6',y7',rfl,Tu5.grow g6⟩ NotO.no (k9h (by rw[List.length_cons,List.length_map,List.length_take];omega));refine Runs.step e7 (Runs.step (asSl_v _) ?_);rw[kf (by omega)];have u7':Upd h6 h7 j10:=u7;have g67:Grow h0 h7:=(g45.trans g6).updr s.l10 u7';have hj10:j10<h.blks.size:=s.W.lt;have z45:h4.blks.size<h5.blks.size:=V5.lt;have z56:h5.blks.size≤h6.blks.size:=g6.size;have z67:h6.blks.size<h7.blks.size:=W7.lt;have m67:Md (fun j=>j=j10) h6 h7:=u7'.md rfl;have m47:Md (Fp.or (Fp.opt j9) fun j=>j=j10) h4 h7:=((m45.mono fun j _ x=>.inl x).thenG g6).trans (m67.mono fun j _ x=>.inr x);have dP:∀j,C j≠0→h.blks.size≤j∧j<h2.blks.size:=fun j x=>⟨hC j x,P.lt j x⟩
  have V7:GF Ef.pt kea h7 Fp.no s9' (some h4.blks.size) (bps++[bp]):=GF.md m67 Dis.no.symm ((V5.mono (fun j x=>x.1.elim id id) NotO.no).grow g6) fun k e y=>by
   cases e;have y:h4.blks.size=j10:=y;omega
  refine ih (i+1) (by omega) (Z:=fun j=>Z j∨(h.blks.size≤j∧j<h2.blks.size)) (j10:=h6.blks.size) (G:=G++[p.msk.given]) ⟨g67,V7,?_,?_,?_,?_,?_,?_,?_,?_,?_,?_,?_⟩
  ·show h0.blks.size≤h4.blks.size;exact s4.g.size
  ·have:t::(own.take (i+1)).map Ow.u=t::(own.take i).map Ow.u++[own[i].u]:=by rw[List.take_succ_eq_append_getElem hlt,List.map_append];rfl
   rw[this];exact W7.mono (fun j x=>x.1.elim id id) NotO.no
  ·exact(g45.trans g6).size
  ·intro e;have e:=Option.some.inj e;omega
  ·intro j x;rcases x with x | x
   ·exact⟨(s.hZ j x).1,show j<h7.blks.size by have:=(s.hZ j x).2;omega⟩
   ·exact⟨by have:=g.size;omega,show j<h7.blks.size by omega⟩
  ·intro x e y;have e:h4.blks.size=x:=Option.some.inj e;rcases y with y | y
   ·have:=(s.hZ _ y).2;omega
   ·omega
  ·rintro (y | y)
   ·have:=(s.hZ _ y).2;omega
   ·omega
  ·rw[List.length_append,s.lb];rfl
  ·rw[List.length_append,s.lg];rfl
  ·intro k h1 hk2 hk3
   have dis:∀j,(Z j∨(h.blks.size≤j∧j<h2.blks.size))→(Fp.or (Fp.opt j9) fun j=>j=j10) j→False:=fun j a b=>by
    rcases b with b | b
    ·have b:j9=some j:=b;have:=hj9 j b;rcases a with a | a
     ·exact s.z9 j b a
     ·omega
    ·have b:j=j10:=b;subst b;rcases a with a | a
     ·exact s.z10 a
     ·omega
   rcases Nat.lt_or_ge k i with hk | hk
   ·have e1:(bps++[bp])[k]=bps[k]'(by rw[s.lb];exact hk):=List.getElem_append_left (by rw[s.lb];exact hk);have e2:(G++[p.msk.given])[k]=G[k]'(by rw[s.lg];exact hk):=List.getElem_append_left (by rw[s.lg];exact hk);rw[e1,e2];exact((s4.at' k h1 (by rw[s.lb];exact hk) (by rw[s.lg];exact hk)).md m47 fun j a b=>dis j (.inl a) b).mono fun j x=>.inl x
   ·have hk:k=i:=by
     rw[List.length_append,s.lb]at hk2;simp at hk2;omega
    subst hk
    have e1:(bps++[bp])[k]=bp:=by
     rw[List.getElem_append_right (by rw[s.lb];exact Nat.le_refl _)];simp[s.lb]
    have e2:(G++[p.msk.given])[k]=p.msk.given:=by
     rw[List.getElem_append_right (by rw[s.lg];exact Nat.le_refl _)];simp[s.lg]
    rw[e1,e2];exact PAt.md ⟨C,_,L,p,P4,fun j x=>.inr (dP j x),rfl,gok⟩ m47 fun j a b=>dis j a b
  ·intro o x;rw[List.take_succ_eq_append_getElem hlt,List.mem_append,List.mem_singleton]at x;rcases x with x | rfl
   ·exact s.ok o x
   ·exact⟨c3,c4⟩
end
theorem kzo{h:AH}{x:AV}(a:ArgV Pg h kpq x):∃(s:Sl)(l:List Ow),x=s.v∧Sq Ef.own h Fp.no s l:=by
 unfold ArgV at a;rw[kxw]at a
 obtain⟨s,l,e,n⟩:=Sq.of_arg (E:=Ef.own) (S:=Fp.no) kxw ks4 (fun es t=>by
  obtain⟨hl,hf⟩:=t.struct kbcy;rw[ks4]at hl
  match es,hl with
  | [x0,x1,x2,x3,x4,x5,x6],_ =>
   simp[klu,k8l]at hf;obtain⟨h0,h1,h2⟩:=hf;obtain⟨s1,s2,s3,tb,e0,n0⟩:=ksa h0;obtain⟨s4,bs,e1,n1⟩:=k4a h1;obtain⟨s5,s6,s7,u,e2,n2⟩:=ksa h2;cases e0;cases e1;cases e2;exact⟨⟨tb,bs,u⟩,s1,s2,s3,s4,s5,s6,s7,rfl,n0,n1,n2⟩) a
 cases e;exact⟨s,l,rfl,n⟩
theorem PredictJointCard_law(h:AH)(T0:Tab h){x1 x2 x3:AV}(z1:ArgV Pg h kbh x1)(z2:ArgV Pg h kpq x2)(z3:ArgV Pg h ku x3):∃h',go (.fn kz [x1,x2,x3]) h=some (.bool true,h'):=by
 obtain⟨ml,m,rfl,M⟩:=kbce z1;obtain⟨a1,own,rfl,Q⟩:=kzo z2;obtain⟨s1,s2,s3,t,rfl,Tt⟩:=kbc5 z3
 suffices H:Runs (go (.fn kz [.agg [ml.v],a1.v,.agg [s1.v,s2.v,s3.v]]) h) fun v _=>v=.bool true by
  obtain⟨_,h',e,rfl⟩:=H;exact⟨h',e⟩
 rw[k7v];refine Runs.new fun h1 b1 g1=>Runs.new fun h2 b2 g2=>?_;refine kbcg.call fun _ h3 ⟨e,g3⟩=>?_;subst e;have B1:=(g2.trans g3).has b1;have B2:=g3.has b2;have G3:=g1.trans (g2.trans g3);refine Runs.step (seen rfl) (Runs.step (B1.rd 0 rfl (asSl_v _)) (Runs.step (B2.rd 0 rfl (asSl_v _)) (Runs.step (B2.rd 1 rfl (asSl_v _)) (Runs.step (B2.rd 2 rfl (asSl_v _)) ?_))));refine(kbco (M.grow G3)).call fun v h4 ⟨⟨z,e⟩,g4⟩=>?_;subst e;rw[Q.len];have B14:=g4.has B1;have B24:=g4.has B2;refine Runs.step (seen rfl) (Runs.ifF rfl (Runs.cond (fun k=>Runs.ret rfl) fun k0=>Runs.cond (fun k=>Runs.ret rfl) fun k1=>Runs.cond (fun k=>Runs.ret rfl) fun k2=>?_));rw[decide_eq_false_iff_not]at k2;refine Runs.step (B24.rd 0 rfl (asSl_v _)) (Runs.step (B24.rd 1 rfl (asSl_v _)) (Runs.step (B24.rd 2 rfl (asSl_v _)) (Runs.new fun h5 b5 g5=>?_)));have G4:=G3.trans g4;have G5:=G4.trans g5;have z5:=b5.lt;refine k81 (h0:=h4) (T0.grow G4) (by omega) B14 B24 (M.grow G4) (Tt.grow G4) (Q.grow G4) own.length 0 (by omega) (Z:=Fp.no) (j9:=none) (j10:=h4.blks.size) (bps:=[]) (G:=[]) ⟨g5,GF.none _ _ _ _,trivial,?_,Nat.le_refl _,(fun x=>by cases x),(fun j x=>False.elim x),(fun x e=>by cases e),(fun x=>x),rfl,rfl,(fun k h1 h2 h3=>absurd h2 (Nat.not_lt_zero _)),(fun o x=>by cases x)⟩;exact GF.one b5 ⟨s1,s2,s3,rfl,Tt.grow G5⟩ (fun x=>x)
end Go.Ab
