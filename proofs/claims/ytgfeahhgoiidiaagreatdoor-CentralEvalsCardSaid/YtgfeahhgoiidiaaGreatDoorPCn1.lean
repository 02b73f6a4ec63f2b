/- squeezed -/
import Derived.Test.YtgfeahhgoiidiaaGreatDoorPAbsMd
import Derived.Test.YtgfeahhgoiidiaaGreatDoorPR3
set_option linter.unusedVariables false
set_option linter.unusedSimpArgs false
set_option linter.unusedSectionVars false

set_option maxRecDepth 10000
namespace Go.Ab
open Go.Proofs Go.Num
def Tb.no:Tb:=⟨[],[],[]⟩
abbrev Spl:=Nat×Nat×Nat
def kj7(p:Nat)(t:Tb):List Spl:=(cutsTo t t.cols.length).map fun x=>(p,x.1,x.2)
def kev(ts:List Tb)(n:Nat):List Spl:=(List.range n).flatMap fun p=>kj7 p (ts.getD p Tb.no)
def kb4(ts:List Tb):List Spl:=kev ts ts.length
def leftS(ts:List Tb)(x:Spl)(i:Nat):Bool:=leftP (ts.getD x.1 Tb.no) x.2.1 (x.2.2:Int) i
def sumR(g:List Int)(R:List Nat):Int×Int:=(sumG g R 0,(R.length:Int))
def sumsS(ts:List Tb)(g:List Int)(R:List Nat):List (Int×Int):=(kb4 ts).map fun x=>sumR g (R.filter (leftS ts x))
structure Wt where
 place:Nat
 deep:Nat
 rows:List Nat
def bestS(c:Cfg)(ts:List Tb)(g:List Int)(x:Wt):List Int:=if(x.deep:Int)<c.depth then(bestF c.lambda c.gamma (sumR g x.rows).1 (sumR g x.rows).2 (sumsS ts g x.rows)).1 else []
def kf1(c:Cfg)(s:Int×Int):Int:=(km5 c.trees c.depth c.lambda c.gamma c.num c.den c.loss c.clip s.1 s.2).1
def addS(w:Int)(R:List Nat)(sc:List Int):List Int:=R.foldl (fun sc i=>sc.set i (IntKind.wrap .i64 (sc.getD i 0+w))) sc
def leafN(w:Int):Nd:=⟨true,w,0,0,0,0,0⟩
def splitN(x:Spl)(l r:Nat):Nd:=⟨false,0,(x.1:Int),(x.2.1:Int),(x.2.2:Int),(l:Int),(r:Int)⟩
def kidsS(ts:List Tb)(x:Wt)(s:Spl)(n:Nat):List Wt:=[⟨n,x.deep+1,x.rows.filter (leftS ts s)⟩,⟨n+1,x.deep+1,x.rows.filter fun i=>!leftS ts s i⟩]
def growS(c:Cfg)(ts:List Tb)(g:List Int):Nat→List Wt→List Nd→List Int→List Nd×List Int
 | 0,_,nodes,sc=>(nodes,sc)
 | _+1,[],nodes,sc=>(nodes,sc)
 | n+1,x::W,nodes,sc=>match bestS c ts g x with
  | []=>growS c ts g n W (nodes.set x.place (leafN (kf1 c (sumR g x.rows)))) (addS (kf1 c (sumR g x.rows)) x.rows sc)
  | b::_=>growS c ts g n (W++kidsS ts x ((kb4 ts).getD b.toNat (0,0,0)) nodes.length) (nodes.set x.place (splitN ((kb4 ts).getD b.toNat (0,0,0)) nodes.length (nodes.length+1))++[Nd.no,Nd.no]) sc
def firstW(n:Nat):Wt:=⟨0,0,List.range n⟩
def gradS(c:Cfg)(sc labels:List Int):List Int:=(List.range labels.length).map fun i=>(c.grad (sc.getD i 0) (labels.getD i 0)).1
def treeS(c:Cfg)(ts:List Tb)(labels sc:List Int):List Nd×List Int:=growS c ts (gradS c sc labels) 64 [firstW labels.length] [Nd.no] sc
def trainS(c:Cfg)(ts:List Tb)(labels:List Int):Nat→List (List Nd)→List Int→List (List Nd)×List Int
 | 0,m,sc=>(m,sc)
 | n+1,m,sc=>trainS c ts labels n (m++[(treeS c ts labels sc).1]) (treeS c ts labels sc).2
def oddL(l:List Int):Bool:=l.any fun x=>decide (x < -1048576)||decide (x>1048576)
def badT(ts:List Tb):Bool:=ts.any fun t=>!tabR t||(!decide (t.ids=(ts.getD 0 Tb.no).ids)||decide (t.ids.length=0))
def faultC(c:Cfg)(ts:List Tb)(labels:List Int):Int:=if !c.right then 1 else if ts.length=0 then 1 else if ts.length>16 then 1 else if badT ts then 20 else if labels.length≠(ts.getD 0 Tb.no).ids.length then 1 else if oddL labels then 1 else 0
def trainC(c:Cfg)(ts:List Tb)(labels:List Int):List (List Nd)×List Int×Int:=if faultC c ts labels=0 then((trainS c ts labels c.trees.toNat [] (List.replicate labels.length 0)).1,(trainS c ts labels c.trees.toNat [] (List.replicate labels.length 0)).2,0)else([],[],faultC c ts labels)
theorem Cfg.right_depth{c:Cfg}(h:c.right=true):1≤c.trees∧c.trees≤16∧1≤c.depth∧c.depth≤5:=by
 unfold Cfg.right at h;rw[decide_eq_true_eq]at h;omega
theorem kur{c:Cfg}{ts:List Tb}{labels:List Int}(h:faultC c ts labels=0):c.right=true∧ts≠[]∧ts.length≤16∧badT ts=false∧labels.length=(ts.getD 0 Tb.no).ids.length∧oddL labels=false:=by
 unfold faultC at h;by_cases h1:c.right=true<;>simp only[h1,Bool.not_true,Bool.not_false,Bool.false_eq_true,if_false,if_true]at h
 ·split at h
  ·cases h
  rename_i h2;split at h
  ·cases h
  split at h
  ·cases h
  rename_i h3 h4;split at h
  ·cases h
  rename_i h5;split at h
  ·cases h
  rename_i h6;exact⟨h1,fun e=>h2 (by rw[e];rfl),by omega,by simpa using h4,by simpa using h5,by simpa using h6⟩
 ·simp at h
theorem kvo{ts:List Tb}(h:badT ts=false){p:Nat}(hp:p<ts.length):tabR ts[p]=true∧ts[p].ids=(ts.getD 0 Tb.no).ids∧ts[p].ids.length≠0:=by
 unfold badT at h;rw[List.any_eq_false]at h;have:=h _ (List.getElem_mem hp);simp only[Bool.or_eq_true,Bool.not_eq_true',decide_eq_true_eq,decide_eq_false_iff_not,not_or]at this;obtain⟨h1,h2,h3⟩:=this;exact⟨by simpa using h1,Classical.byContradiction fun e=>h2 e,h3⟩
theorem ksc{l G N:Int}:∀(xs:List (Int×Int))(i:Nat)(st:List Int×Fr3),(∀b∈st.1,∃j:Nat,b=(j:Int)∧j<i+xs.length)→∀b∈(bestGo l G N xs (i:Int) st).1,∃j:Nat,b=(j:Int)∧j<i+xs.length
 | [],i,st,h=>by
  rw[bestGo];exact h
 | x::xs,i,st,h=>by
  rw[bestGo];split
  ·have hst:∀b∈(kel l G N x (i:Int) st).1,∃j:Nat,b=(j:Int)∧j<(i+1)+xs.length:=by
    intro b hb
    have h':∀b∈st.1,∃j:Nat,b=(j:Int)∧j<(i+1)+xs.length:=fun b hb=>by
     obtain⟨j,e,hj⟩:=h b hb;rw[List.length_cons]at hj;exact⟨j,e,by omega⟩
    have hi:∃j:Nat,(i:Int)=(j:Int)∧j<(i+1)+xs.length:=⟨i,rfl,by omega⟩;unfold kel at hb;split at hb
    ·unfold askF at hb;split at hb
     ·rw[List.mem_singleton]at hb;rw[hb];exact hi
     ·split at hb
      ·rcases List.mem_append.1 hb with hb | hb
       ·exact h' b hb
       ·rw[List.mem_singleton]at hb;rw[hb];exact hi
      ·exact h' b hb
    ·exact h' b hb
   have:=ksc (l:=l) (G:=G) (N:=N) xs (i+1) (kel l G N x (i:Int) st) hst;intro b hb;obtain⟨j,e,hj⟩:=this b (by simpa using hb);exact⟨j,e,by rw[List.length_cons];omega⟩
  ·intro b hb;simp at hb
theorem k8v{l γ G N:Int}{xs:List (Int×Int)}:∀b∈(bestF l γ G N xs).1,∃j:Nat,b=(j:Int)∧j<xs.length:=by
 intro b hb;unfold bestF at hb;cases h1:!kbf G N<;>rw[h1]at hb
 ·cases h2:!kb1 l<;>rw[h2]at hb
  ·cases h3:decide (γ<0)<;>rw[h3]at hb
   ·cases h4:decide (γ>1048576)<;>rw[h4]at hb
    ·cases h5:decide ((xs.length:Int)>16384)<;>rw[h5]at hb
     ·obtain⟨j,e,hj⟩:=ksc xs 0 ([],gammaF γ) (fun b hb=>by cases hb) b hb;exact⟨j,e,by omega⟩
     ·cases hb
    ·cases hb
   ·cases hb
  ·cases hb
 ·cases hb
theorem k2j{c:Cfg}{ts:List Tb}{g:List Int}{x:Wt}:∀b∈bestS c ts g x,∃j:Nat,b=(j:Int)∧j<(kb4 ts).length:=by
 intro b hb;unfold bestS at hb;split at hb
 ·obtain⟨j,e,hj⟩:=k8v b hb;exact⟨j,e,by unfold sumsS at hj;rwa[List.length_map]at hj⟩
 ·cases hb
theorem kzb{c:Cfg}{ts:List Tb}{g:List Int}{x:Wt}{b:Int}{bs:List Int}(h:bestS c ts g x=b::bs):(x.deep:Int)<c.depth:=by
 unfold bestS at h;split at h
 ·assumption
 ·cases h
def muW(D:Nat)(W:List Wt):Nat:=(W.map fun x=>2^(D+1-x.deep)-1).sum
theorem kjz(D:Nat)(x:Wt)(W:List Wt):muW D (x::W)=(2^(D+1-x.deep)-1)+muW D W:=by simp[muW]
theorem ktw(D:Nat)(V W:List Wt):muW D (V++W)=muW D V+muW D W:=by simp[muW]
theorem muW_le{D:Nat}:∀{W:List Wt},(∀x∈W,x.deep≤D)→W.length≤muW D W
 | [],_=>by simp[muW]
 | x::W,h=>by
  have h1:=muW_le (W:=W) fun y hy=>h y (by simp[hy]);have h2:=h x (by simp)
  have h3:2≤2^(D+1-x.deep):=by
   have:=Nat.pow_le_pow_right (n:=2) (i:=1) (j:=D+1-x.deep) (by decide) (by omega)
   simpa using this
  rw[kjz,List.length_cons];omega
theorem k63{D n:Nat}{ts:List Tb}{x:Wt}{s:Spl}(h:x.deep<D):muW D (kidsS ts x s n)+1=2^(D+1-x.deep)-1:=by
 have h1:D+1-x.deep=(D-x.deep)+1:=by omega
 have h2:D+1-(x.deep+1)=D-x.deep:=by omega
 have h3:2≤2^(D-x.deep):=by
  have:=Nat.pow_le_pow_right (n:=2) (i:=1) (j:=D-x.deep) (by decide) (by omega)
  simpa using this
 unfold kidsS;rw[kjz,kjz,h2,h1,Nat.pow_succ];simp only[muW,List.map_nil,List.sum_nil];omega
structure GrowOk(D n:Nat)(N:Nat)(W:List Wt)(nodes:List Nd):Prop where
 mu:muW D W≤n
 deep:∀x∈W,x.deep≤D
 rows:∀x∈W,x.rows.Sublist (List.range N)
 place:∀(i:Nat)(hi:i<W.length),W[i].place+W.length=nodes.length+i
 size:nodes.length+muW D W≤W.length+(2^(D+1)-1)
theorem GrowOk.start{D N:Nat}:GrowOk D (2^(D+1)-1) N [firstW N] [Nd.no]:=by
 have hm:muW D [firstW N]=2^(D+1)-1:=by simp[muW,firstW]
 refine⟨by rw[hm];exact Nat.le_refl _,fun x hx=>?_,fun x hx=>?_,fun i hi=>?_,by rw[hm];simp⟩
 ·rw[List.mem_singleton.1 hx];simp[firstW]
 ·rw[List.mem_singleton.1 hx];exact List.Sublist.refl _
 ·simp at hi;subst hi;simp[firstW]
theorem GrowOk.leaf{D n N:Nat}{x:Wt}{W:List Wt}{nodes:List Nd}(h:GrowOk D (n+1) N (x::W) nodes)(y:Nd):GrowOk D n N W (nodes.set x.place y):=by
 have hd:=h.deep x (by simp)
 have h3:2≤2^(D+1-x.deep):=by
  have:=Nat.pow_le_pow_right (n:=2) (i:=1) (j:=D+1-x.deep) (by decide) (by omega)
  simpa using this
 have hm:=h.mu;have hs:=h.size;rw[kjz]at hm hs;rw[List.length_cons]at hs;refine⟨by omega,fun y hy=>h.deep y (by simp[hy]),fun y hy=>h.rows y (by simp[hy]),fun i hi=>?_,by rw[List.length_set];omega⟩;have:=h.place (i+1) (by simp;omega);simp only[List.getElem_cons_succ,List.length_cons]at this;rw[List.length_set];omega
theorem GrowOk.split{D n N:Nat}{x:Wt}{W:List Wt}{nodes:List Nd}(h:GrowOk D (n+1) N (x::W) nodes)(hx:x.deep<D)(ts:List Tb)(s:Spl)(y:Nd):GrowOk D n N (W++kidsS ts x s nodes.length) (nodes.set x.place y++[Nd.no,Nd.no]):=by
 have hk:=k63 (n:=nodes.length) (ts:=ts) (s:=s) hx;have hm:=h.mu;have hs:=h.size;rw[kjz]at hm hs;rw[List.length_cons]at hs;have hl:(nodes.set x.place y++[Nd.no,Nd.no]).length=nodes.length+2:=by simp
 have hl2:(W++kidsS ts x s nodes.length).length=W.length+2:=by simp[kidsS]
 have p0:=h.place 0 (by simp);simp only[List.getElem_cons_zero,List.length_cons]at p0;refine⟨by rw[ktw];omega,fun z hz=>?_,fun z hz=>?_,fun i hi=>?_,by rw[ktw,hl,hl2];omega⟩
 ·rcases List.mem_append.1 hz with hz | hz
  ·exact h.deep z (by simp[hz])
  ·unfold kidsS at hz;simp only[List.mem_cons,List.not_mem_nil,or_false]at hz;rcases hz with rfl | rfl<;>exact hx
 ·have hr:=h.rows x (by simp);rcases List.mem_append.1 hz with hz | hz
  ·exact h.rows z (by simp[hz])
  ·unfold kidsS at hz;simp only[List.mem_cons,List.not_mem_nil,or_false]at hz;rcases hz with rfl | rfl<;>exact List.filter_sublist.trans hr
 ·rw[hl,hl2];rcases Nat.lt_or_ge i W.length with hiW | hiW
  ·rw[List.getElem_append_left hiW];have:=h.place (i+1) (by simp;omega);simp only[List.getElem_cons_succ,List.length_cons]at this;omega
  ·rw[List.getElem_append_right hiW];have:i-W.length=0∨i-W.length=1:=by rw[hl2]at hi;omega
   rcases this with e | e
   ·simp only[e,kidsS,List.getElem_cons_zero];omega
   ·simp only[e,kidsS,List.getElem_cons_succ,List.getElem_cons_zero];omega
theorem GrowOk.nodes63{D n N:Nat}{W:List Wt}{nodes:List Nd}(h:GrowOk D n N W nodes)(hD:D≤5):nodes.length≤63:=by
 have h1:=muW_le h.deep;have h2:=h.size;have h3:2^(D+1)≤2^6:=Nat.pow_le_pow_right (by decide) (by omega);omega
theorem GrowOk.first{D n N:Nat}{x:Wt}{W:List Wt}{nodes:List Nd}(h:GrowOk D n N (x::W) nodes):x.place<nodes.length:=by
 have p0:=h.place 0 (by simp);simp only[List.getElem_cons_zero,List.length_cons]at p0;omega
theorem GrowOk.least{D n N:Nat}{x:Wt}{W:List Wt}{nodes:List Nd}(h:GrowOk D n N (x::W) nodes):∀y∈W,x.place<y.place:=by
 intro y hy;obtain⟨i,hi,rfl⟩:=List.getElem_of_mem hy;have p0:=h.place 0 (by simp);have p1:=h.place (i+1) (by simp;omega);simp only[List.getElem_cons_zero,List.getElem_cons_succ,List.length_cons]at p0 p1;omega
theorem GrowOk.below{D n N:Nat}{W:List Wt}{nodes:List Nd}(h:GrowOk D n N W nodes):∀y∈W,y.place<nodes.length:=by
 intro y hy;obtain⟨i,hi,rfl⟩:=List.getElem_of_mem hy;have p1:=h.place i hi;omega
end Go.Ab

/- squeezed -/
set_option maxRecDepth 10000
namespace Go.Ab
open Go.Proofs Go.Num
@[reducible] def Ef.tb:Ef Tb where
 w:=3
 pos:=by decide
 has h S cs t:=∃s1 s2 s3:Sl,cs=[s1.v,s2.v,s3.v]∧TabAt h S s1 s2 s3 t
 len:=fun⟨_,_,_,e,_⟩=>by rw[e];rfl
 grow g:=fun⟨a,b,c,e,n⟩=>⟨a,b,c,e,n.grow g⟩
 mono f:=fun⟨a,b,c,e,n⟩=>⟨a,b,c,e,⟨n.ids.mono f,n.bins.mono f,n.cols.mono f⟩⟩
 upd no u:=fun⟨a,b,c,e,n⟩=>⟨a,b,c,e,⟨n.ids.upd no u,n.bins.upd no u,n.cols.upd no u⟩⟩
 bound:=fun⟨a,b,c,e,n⟩=>⟨a,b,c,e,⟨n.ids.bound,n.bins.bound,n.cols.bound⟩⟩
theorem Sq.tb{h:AH}{S:Fp}{s:Sl}{ts:List Tb}(n:Sq Ef.tb h S s ts){i:Nat}(hi:i<ts.length):∃(r:Ref)(s1 s2 s3:Sl),idx s.ref s.len (i:Int) 3=some r∧(h.cell (r.add 0)).bind AV.asSl=some s1∧(h.cell (r.add 1)).bind AV.asSl=some s2∧(h.cell (r.add 2)).bind AV.asSl=some s3∧TabAt h S s1 s2 s3 ts[i]:=by
 obtain⟨r,cs,e1,⟨s1,s2,s3,rfl,t⟩,l⟩:=n.at (keq hi);rw[n.len];exact⟨r,s1,s2,s3,e1,l.rd (Grow.refl _) 0 rfl (asSl_v _),l.rd (Grow.refl _) 1 rfl (asSl_v _),l.rd (Grow.refl _) 2 rfl (asSl_v _),t⟩
def BitsAt(h:AH)(S:Fp)(z:Nat)(y:Sl)(R:List Nat):Prop:=∃w:List Nat,Nats h y w∧(∀j,¬Av y j w→S j)∧btR (z:Int) w=true∧btL (z:Int) w=R
theorem BitsAt.grow{h h':AH}{S:Fp}{z:Nat}{y:Sl}{R:List Nat}(b:BitsAt h S z y R)(g:Grow h h'):BitsAt h' S z y R:=by
 obtain⟨w,N,a,r,l⟩:=b;exact⟨w,N.grow g,a,r,l⟩
theorem BitsAt.mono{h:AH}{S T:Fp}{z:Nat}{y:Sl}{R:List Nat}(f:∀j,S j→T j)(b:BitsAt h S z y R):BitsAt h T z y R:=by
 obtain⟨w,N,a,r,l⟩:=b;exact⟨w,N,fun j k=>f j (a j k),r,l⟩
theorem BitsAt.upd{h h':AH}{S:Fp}{z i:Nat}{y:Sl}{R:List Nat}(no:¬S i)(u:Upd h h' i)(b:BitsAt h S z y R):BitsAt h' S z y R:=by
 obtain⟨w,N,a,r,l⟩:=b;exact⟨w,N.upda (Classical.byContradiction fun k=>no (a _ k)) u,a,r,l⟩
theorem BitsAt.md{h h':AH}{S T:Fp}{z:Nat}{y:Sl}{R:List Nat}(m:Md T h h')(d:Dis S T)(b:BitsAt h S z y R):BitsAt h' S z y R:=by
 obtain⟨w,N,a,r,l⟩:=b;exact⟨w,N.mdE a m d,a,r,l⟩
theorem BitsAt.bound{h:AH}{S:Fp}{z:Nat}{y:Sl}{R:List Nat}(b:BitsAt h S z y R):BitsAt h (fun j=>S j∧j<h.blks.size) z y R:=by
 obtain⟨w,N,a,r,l⟩:=b;refine⟨w,N,fun j k=>⟨a j k,?_⟩,r,l⟩;rcases Nat.lt_or_ge j h.blks.size with h1 | h1
 ·exact h1
 ·exact absurd (Av.of_base N h1) k
theorem BitsAt.lt{h:AH}{S:Fp}{z:Nat}{y:Sl}{R:List Nat}(b:BitsAt h S z y R):R.Sublist (List.range z):=by
 obtain⟨w,N,a,r,rfl⟩:=b;unfold btL;rw[r,if_pos rfl,Int.toNat_natCast];exact List.filter_sublist
theorem kyo{h:AH}{p:Sl}{xs:List Nat}(o:Own h p){m:Nat}(k:¬Av p m xs):h.blks.size≤m:=by
 rcases Nat.lt_or_ge m h.blks.size with hm | hm
 ·exact absurd (Av.of_own o hm) k
 ·exact hm
theorem SetN.bits{h0 h':AH}{z:Nat}{R:List Nat}{v:AV}(p:SetN h0 z R v h'):Grow h0 h'∧∃(t:Sl)(e:Int)(S:Fp),v=.tup [.agg [.int .i64 (z:Int),t.v],.int .i64 e]∧BitsAt h' S z t R∧(∀m,S m→h0.blks.size≤m)∧Own h0 t:=by
 obtain⟨g,t,w,e,rfl,N,o,r,l⟩:=p;exact⟨g,t,e,fun j=>¬Av t j w,rfl,⟨w,N,fun j k=>k,r,l⟩,fun m k=>kyo o k,o⟩
structure SpR where
 spl:Spl
 rows:List Nat
@[reducible] def Ef.spr(z:Nat):Ef SpR where
 w:=9
 pos:=by decide
 has h S cs x:=∃y:Sl,cs=[.bool false,.int .i64 0,.int .i64 (x.spl.1:Int),.int .i64 (x.spl.2.1:Int),.int .i64 (x.spl.2.2:Int),.int .i64 0,.int .i64 0,.int .i64 (z:Int),y.v]∧BitsAt h S z y x.rows
 len:=fun⟨_,e,_⟩=>by rw[e];rfl
 grow g:=fun⟨a,e,n⟩=>⟨a,e,n.grow g⟩
 mono f:=fun⟨a,e,n⟩=>⟨a,e,n.mono f⟩
 upd no u:=fun⟨a,e,n⟩=>⟨a,e,n.upd no u⟩
 bound:=fun⟨a,e,n⟩=>⟨a,e,n.bound⟩
theorem k7t{n:Nat}(h:n≤1000000):growOk Pg n T.kd6 9=true:=by
 unfold growOk;rw[kw3,k6m];have h1:n*88≤kv:=by simp only[kv];omega
 have h2:n*9≤kv:=by simp only[kv];omega
 have h3:n≤kv:=by simp only[kv];omega
 simp[h1,h2,h3]
theorem k06{n:Nat}(h:n≤1000000):growOk Pg n T.kbe 2=true:=by
 unfold growOk;rw[kzw,k89];have h1:n*16≤kv:=by simp only[kv];omega
 have h2:n*2≤kv:=by simp only[kv];omega
 have h3:n≤kv:=by simp only[kv];omega
 simp[h1,h2,h3]
theorem k1d(g:List Int)(l:List Nat)(i:Nat)(a:Int):sumG g (l++[i]) a=IntKind.wrap .i64 (sumG g l a+g.getD i 0):=by
 unfold sumG;rw[List.foldl_append,List.foldl_cons,List.foldl_nil]
section
variable{h0:AH}{S Sg St:Fp}{gs ys tsl:Sl}{g:List Int}{R:List Nat}{z:Nat}{ts:List Tb}
theorem k6n(Q:Sq EI h0 Sg gs g){x:Sl}{Sx:Fp}(hR:∀i∈R,i<g.length)(hl:R.length≤100000){b1 b2:Nat}(hb1:h0.blks.size≤b1)(hb2:h0.blks.size≤b2)(hb:b1≠b2)(hx2:¬Sx b2):∀(k i:Nat),i+k=R.length→∀(h:AH),Grow h0 h→Sq EI h Sx x (zs R)→h.has b1 [.int .i64 0,.int .i64 0] T.kbe→h.has b2 [.int .i64 (sumG g (R.take i) 0),.int .i64 (i:Int)] T.kbe→
  Runs (go (.pt F.kfs Td.kme [(0,gs.v),(4,.ptr (some (.new b1 0))),(5,.ptr (some (.new b2 0))),(9,x.v),(10,.int .i64 (R.length:Int)),(11,.int .i64 (i:Int))]) h) fun v h'=>v=.agg [.int .i64 (sumR g R).1,.int .i64 (sumR g R).2]∧Grow h0 h':=by
 intro k
 induction k with
 | zero =>
  intro i hi h G X B1 B2;obtain rfl:i=R.length:=by omega
  rw[List.take_length]at B2;rw[ktx];refine Runs.ifF (decide_eq_false (by omega)) (Runs.step (B2.rd 0 rfl (ke _ _)) (Runs.step (B2.rd 1 rfl (ke _ _)) ?_));refine Runs.puts B1 rfl fun h1 B3 u1=>?_;exact Runs.step (B3.rd 0 rfl (ke _ _)) (Runs.step (B3.rd 1 rfl (ke _ _)) (Runs.ret ⟨rfl,G.updr hb1 u1⟩))
 | succ k ih =>
  intro i hi h G X B1 B2;have hi':i<R.length:=by omega
  have hz:i<(zs R).length:=by rw[zs_len];exact hi'
  obtain⟨r1,e1,e2⟩:=X.int hz;have ex:(zs R)[i]=((R[i]:Nat):Int):=by simp[zs]
  rw[ex]at e2;have hg:=hR _ (List.getElem_mem hi');obtain⟨r2,e3,e4⟩:=(Q.grow G).int hg;rw[ktx];refine Runs.ifT (decide_eq_true (by omega)) (Runs.step e1 (Runs.step e2 (Runs.step (B2.rd 0 rfl (ke _ _)) (Runs.step e3 (Runs.step e4 ?_)))));refine Runs.putAt (o:=0) B2 (by simp) rfl fun h1 B3 u1=>?_;refine Runs.step (B3.rd 1 rfl (ke _ _)) ?_;refine Runs.putAt (o:=1) B3 (by simp) rfl fun h2 B4 u2=>?_;rw[ks (i:=i) (by omega)];have hgd:g.getD R[i] 0=g[R[i]]:=by simp[List.getD,hg]
  refine ih (i+1) (by omega) h2 ((G.updr hb2 u1).updr hb2 u2) ((X.upd hx2 u1).upd hx2 u2) ((B1.updr hb u1).updr hb u2) ?_;rw[List.take_succ_eq_append_getElem hi',k1d,hgd];have hw:IntKind.wrap .i64 ((i:Int)+1)=((i+1:Nat):Int):=ks (by omega)
  simpa[hw]using B4
theorem ku5(T0:Tab h0)(Q:Sq EI h0 Sg gs g)(B:BitsAt h0 S z ys R)(hz:z≤g.length)(hz2:z≤65536):Runs (go (.fn F.kfs [gs.v,.agg [.int .i64 (z:Int),ys.v]]) h0) fun v h'=>v=.agg [.int .i64 (sumR g R).1,.int .i64 (sumR g R).2]∧Grow h0 h':=by
 have hsub:=B.lt;obtain⟨w,N,-,r,l⟩:=B;rw[k9e];refine Runs.new fun h1 b1 g1=>Runs.new fun h2 b2 g2=>Runs.new fun h3 b3 g3=>?_;have G3:=(g1.trans g2).trans g3;refine Runs.step (((g2.trans g3).has b1).rd 0 rfl (ke _ _)) (Runs.step (((g2.trans g3).has b1).rd 1 rfl (asSl_v _)) ?_);refine(kr7 (n:=(z:Int)) (T0.grow G3) (N.grow G3)).call fun v h4 ⟨g4,x,j,e,lj,X⟩=>?_;subst e;rw[l]at X;refine Runs.step (seen (asSl_v _)) ?_;rw[X.len,zs_len];have hlen:R.length≤z:=by have:=hsub.length_le;rwa[List.length_range]at this
 have z1:=b1.lt;have z2:=b2.lt;have z3:=b3.lt;have G4:=G3.trans g4;refine k6n Q (fun i hi=>Nat.lt_of_lt_of_le (List.mem_range.1 (hsub.subset hi)) hz) (by omega) (b1:=h1.blks.size) (b2:=h2.blks.size) g1.size (by omega) (by omega) (fun k=>?_) R.length 0 (by omega) h4 G4 X.sq (((g3.trans g4).has b2)) (g4.has b3);rcases k with k | k
 ·have k:j=some h2.blks.size:=k;subst k;have:h3.blks.size≤h2.blks.size:=lj;omega
 ·exact k
end
end Go.Ab

/- squeezed -/
set_option maxRecDepth 10000
namespace Go.Ab
open Go.Proofs Go.Num
theorem k6y{z:Nat}{w:List Nat}{p:Nat→Bool}(r:btR (z:Int) w=true):((List.range z).filter p).filter (wbit w)=(btL (z:Int) w).filter p:=by
 unfold btL;rw[r,if_pos rfl,Int.toNat_natCast,List.filter_filter,List.filter_filter];apply List.filter_congr;intro x _;exact Bool.and_comm _ _
structure SplI(h0:AH)(z:Nat)(ts:List Tb)(g:List Int)(R:List Nat)(D:List Spl)(l:Sl)(jl:Option Nat)(s:Sl)(js:Option Nat)(h:AH):Prop where
 grow:Grow h0 h
 ll:LeO h0.blks.size jl
 ls:LeO h0.blks.size js
 ne:∀k,jl=some k→js≠some k
 spl:∃S:Fp,(∀m,S m→h0.blks.size≤m)∧NotO S js∧GF (Ef.spr z) T.kd6 h S l jl (D.map fun x=>⟨x,R.filter (leftS ts x)⟩)
 sum:GF EP T.kbe h Fp.no s js (D.map fun x=>sumR g (R.filter (leftS ts x)))
theorem opt_lt{n k:Nat}:∀{j:Option Nat},LtO n j→j=some k→k<n
 | some _,l,e=>by cases e;exact l
theorem opt_ge{n k:Nat}:∀{j:Option Nat},LeO n j→j=some k→n≤k
 | some _,l,e=>by cases e;exact l
theorem kwn(ts:List Tb)(n:Nat):kev ts (n+1)=kev ts n++kj7 n (ts.getD n Tb.no):=by
 unfold kev;rw[List.range_succ,List.flatMap_append];simp
section
variable{h0:AH}{Sg Sb:Fp}{gs ys:Sl}{g:List Int}{R:List Nat}{z:Nat}{ts:List Tb}
theorem k4x(T0:Tab h0)(Q:Sq EI h0 Sg gs g)(By:BitsAt h0 Sb z ys R)(hz:z≤g.length)(hz2:z≤256){p:Nat}(hp:p<ts.length){s1 s2 s3:Sl}{St:Fp}(qt:TabAt h0 St s1 s2 s3 ts[p])(hR:tabR ts[p]=true)(hid:ts[p].ids.length=z){b bt:Nat}(hb0:b<h0.blks.size)(Bb:h0.has b [.int .i64 (z:Int),ys.v] T.kx){f:Nat}(hf:f<ts[p].cols.length){D0:List Spl}(hD0:D0.length≤16*512){tsl bn:Sl}{m1 m2:Int}{P:AV→AH→Prop}
  (hP:∀h l jl s js,SplI h0 z ts g R (D0++(cutsTo ts[p] (f+1)).map fun x=>(p,x.1,x.2)) l jl s js h→h.has bt [s1.v,s2.v,s3.v] T.kdc→(∀k,jl=some k∨js=some k→k≠bt)→Runs (go (.pt F.kb8 Td.ki5 [(1,gs.v),(5,.ptr (some (.new b 0))),(8,l.v),(9,s.v),(10,.int .i64 (p:Int)),(11,.ptr (some (.new bt 0))),(17,tsl.v),(18,.int .i64 m1),(19,.int .i64 (p:Int)),(25,bn.v),(26,.int .i64 m2),(27,.int .i64 ((f+1:Nat):Int))]) h) P) :
  ∀(k c:Nat),c+k=nb ts[p] f→∀h l jl s js,SplI h0 z ts g R (D0++(cutsTo ts[p] f++(List.range c).map fun c=>(f,c)).map fun x=>(p,x.1,x.2)) l jl s js h→h.has bt [s1.v,s2.v,s3.v] T.kdc→(∀k,jl=some k∨js=some k→k≠bt)→
  Runs (go (.pt F.kb8 Td.kkw [(1,gs.v),(5,.ptr (some (.new b 0))),(8,l.v),(9,s.v),(10,.int .i64 (p:Int)),(11,.ptr (some (.new bt 0))),(12,.int .i64 (f:Int)),(17,tsl.v),(18,.int .i64 m1),(19,.int .i64 (p:Int)),(25,bn.v),(26,.int .i64 m2),(27,.int .i64 (f:Int)),(33,.int .i64 (nb ts[p] f:Int)),(34,.int .i64 (c:Int))]) h) P:=by
 obtain⟨hids,hcols,hbins,hall⟩:=kng hR;obtain⟨hb,hb2,hb32,hcl⟩:=kjy (hall f hf) hf hbins;have hgd:ts[p].bins.getD f 0=ts[p].bins[f]:=by simp[List.getD,hb]
 have hnb:(nb ts[p] f:Int)=ts[p].bins[f]-1:=by
  unfold nb;rw[hgd];omega
 have htp:ts.getD p Tb.no=ts[p]:=by simp[List.getD,hp]
 have hlen:(cutsTo ts[p] f).length≤31*f:=kqg ts[p] f fun i hi=>by
  obtain⟨hb',h2',h32',-⟩:=kjy (hall i (by omega)) (by omega) hbins;have:ts[p].bins.getD i 0=ts[p].bins[i]:=by simp[List.getD,hb']
  unfold nb;rw[this];omega
 intro k
 induction k with
 | zero =>
  intro c hc h l jl s js I Bt hbt;obtain rfl:c=nb ts[p] f:=by omega
  rw[← ktb]at I;rw[kr1];refine Runs.ifF (decide_eq_false (by omega)) ?_;rw[ks (by omega)];exact hP h l jl s js I Bt hbt
 | succ k ih =>
  intro c hc h l jl s js I Bt hbt;have hcb:(c:Int)<ts[p].bins.getD f 0:=by rw[hgd];omega
  obtain⟨G,ll,ls,hne,⟨S,hS,nS,V⟩,W⟩:=I;have ltl:=V.lt;have lts:=W.lt;have hsz:=G.size
  have hnl:(D0++(cutsTo ts[p] f++(List.range c).map fun c=>(f,c)).map fun x=>(p,x.1,x.2)).length≤20000:=by
   simp only[List.length_append,List.length_map,List.length_range];omega
  rw[kr1];refine Runs.ifT (decide_eq_true (by omega)) (Runs.step (Bt.rd 0 rfl (asSl_v _)) (Runs.step (Bt.rd 1 rfl (asSl_v _)) (Runs.step (Bt.rd 2 rfl (asSl_v _)) ?_)));refine(k61 (qt.grow G) hR hf hcb).call fun v h1 ⟨g1,y1,w1,e,N1,o1,l1,m1'⟩=>?_;subst e;refine Runs.step rfl (Runs.step rfl (Runs.ifT rfl (Runs.step rfl (Runs.step (seenAt rfl (asSl_v _)) (Runs.step rfl ?_)))));dsimp only;refine Runs.new fun h2 b2 g2=>Runs.puts b2 rfl fun h3 b3 u3=>?_;have g13:Grow h1 h3:=g2.updr (Nat.le_refl _) u3;have G3:=(G.trans g1).trans g13;refine Runs.step (b3.rd 0 rfl (ke _ _)) (Runs.step (b3.rd 1 rfl (asSl_v _)) (Runs.step ((G3.has Bb).rd 0 rfl (ke _ _)) (Runs.step ((G3.has Bb).rd 1 rfl (asSl_v _)) ?_)));rw[hid];rw[hid]at l1;obtain⟨wy,Ny,ay,ry,ly⟩:=By
  have hleft:∀x∈leftR ts[p] f (c:Int),x<z:=fun x hx=>by
   unfold leftR at hx;rw[← hid];exact List.mem_range.1 (List.mem_filter.1 hx).1
  obtain⟨r1,l1'⟩:=ofP_bt (by omega) hleft l1 m1';refine(kbap (N1.grow g13) (Ny.grow G3) r1 ry).call fun v h4 pp=>?_;obtain⟨g4,y4,e4,T4,e,B4,hT4,o4⟩:=pp.bits;subst e
  have hrows:(btL (z:Int) w1).filter (wbit wy)=R.filter (leftS ts (p,f,c)):=by
   have e1:btL (z:Int) w1=(List.range z).filter (leftP ts[p] f (c:Int)):=by
    rw[l1'];apply List.filter_congr;intro i hi;rw[Bool.eq_iff_iff,decide_eq_true_eq];unfold leftR;rw[List.mem_filter,hid];exact⟨fun h=>h.2,fun h=>⟨hi,h⟩⟩
   rw[e1,k6y ry,ly];apply List.filter_congr;intro i _;unfold leftS;rw[htp]
  rw[hrows]at B4;refine Runs.step rfl (Runs.step rfl (Runs.ifT rfl (Runs.step rfl (Runs.step (seenAt rfl (asSl_v _)) (Runs.step rfl ?_)))));dsimp only;have z1:=g1.size;have z3:=b3.lt;have z4:=g4.size;have z13:=g13.size;refine Runs.puts (g4.has b3) rfl fun h5 b5 u5=>Runs.step (b5.rd 0 rfl (ke _ _)) (Runs.step (b5.rd 1 rfl (asSl_v _)) (Runs.new fun h6 b6 g6=>?_));have G15:Grow h1 h5:=(g13.trans g4).updr (Nat.le_refl _) u5;have B5:BitsAt h5 T4 z y4 (R.filter (leftS ts (p,f,c))):=B4.upd (fun x=>by have:=hT4 _ x;omega) u5;have g06:Grow h h6:=(g1.trans G15).trans g6;refine Runs.step (kfh b6 (by rw[k0h];rfl)) ?_;have z5:=u5.size;have z6:=g6.size
  obtain⟨l',h7,e7,V7,u7⟩:=(V.grow g06).push (T:=T4) (show(Ef.spr z).has h6 T4 _ ⟨(p,f,c),R.filter (leftS ts (p,f,c))⟩from⟨y4,rfl,B5.grow g6⟩) (by
   cases jl with
   | none=>trivial
   | some a =>
    intro hm;have:=hT4 _ hm;have:a<h.blks.size:=ltl;omega) (k7t (by rw[List.length_map];omega))
  refine Runs.step e7 (Runs.step (asSl_v _) ?_);have m7:Md (Fp.opt jl) h6 h7:=u7.md fun k e=>e;have njl:∀{m:Nat},h.blks.size≤m→¬Fp.opt jl m:=fun hm e=>by have:=opt_lt ltl e;omega
  have b7:=m7.has (g6.has b5) (njl (by omega));refine Runs.step (b7.rd 0 rfl (ke _ _)) (Runs.step (b7.rd 1 rfl (asSl_v _)) ?_);have G7:Grow h0 h7:=(G.trans g06).updo ll u7;have B7:BitsAt h7 T4 z y4 (R.filter (leftS ts (p,f,c))):=(B5.grow g6).md m7 fun m a e=>by have:=hT4 _ a;have:=opt_lt ltl e;omega
  refine(ku5 (T0.grow G7) (Q.grow G7) B7 hz (by omega)).call fun v h8 ⟨e,g8⟩=>?_;subst e;refine Runs.step rfl (Runs.ifT rfl (Runs.step rfl (Runs.step rfl (Runs.new fun h9 b9 g9=>?_))));refine Runs.step (kfh b9 (by rw[k4l];rfl)) ?_;have g79:=g8.trans g9;have W7:GF EP T.kbe h7 Fp.no s js _:=GF.md m7 (fun j a _=>a) (W.grow g06) fun k e e2=>hne k e2 e;obtain⟨s',h10,e10,W10,u10⟩:=(W7.grow g79).push (T:=Fp.no) (EP.of _ _) NotO.no (k06 (by rw[List.length_map];omega));refine Runs.step e10 (Runs.step (asSl_v _) ?_);have m10:Md (Fp.opt js) h9 h10:=u10.md fun k e=>e;rw[ks (by omega)];have z7:=m7.size;have z9:=g79.size;have z9':=b9.lt;have v7:h6.blks.size<h7.blks.size:=V7.lt
  have hnew:(D0++(cutsTo ts[p] f++(List.range (c+1)).map fun c=>(f,c)).map fun x=>(p,x.1,x.2))=(D0++(cutsTo ts[p] f++(List.range c).map fun c=>(f,c)).map fun x=>(p,x.1,x.2))++[(p,f,c)]:=by
   rw[List.range_succ];simp
  refine ih (c+1) (by omega) h10 l' (some h6.blks.size) s' (some h9.blks.size) ?_ ?_ ?_
  ·rw[hnew];refine⟨(G7.trans g79).updo ls u10,show _≤_ by omega,show _≤_ by omega,fun k e e2=>by injection e with e;injection e2 with e2;omega,⟨fun j=>(Fp.or S T4) j∧j<h6.blks.size,?_,?_,?_⟩,?_⟩
   ·exact fun m hm=>hm.1.elim (hS m) fun a=>by have:=hT4 _ a;omega
   ·exact fun hm=>by have:=hm.2;omega
   ·rw[List.map_append]
    have V10:=GF.md m10 (T:=Fp.opt js) (S:=fun j=>(Fp.or S T4) j∧j<h6.blks.size) (fun m a e=>by
     rcases a.1 with a1 | a1
     ·subst e;exact nS a1
     ·have:=hT4 _ a1;have:=opt_lt lts e;omega) (V7.grow g79) (fun k e e2=>by cases e;have:=opt_lt lts e2;omega)
    exact V10
   ·rw[List.map_append];exact W10.mono (fun j x=>x.1.elim id id) NotO.no
  ·exact m10.has (g79.has (m7.has (g06.has Bt) fun e=>hbt _ (.inl e) rfl)) fun e=>hbt _ (.inr e) rfl
  ·have zb:=Bt.lt;intro k hk;rcases hk with hk | hk<;>cases hk<;>omega
theorem k62(T0:Tab h0)(Q:Sq EI h0 Sg gs g)(By:BitsAt h0 Sb z ys R)(hz:z≤g.length)(hz2:z≤256){p:Nat}(hp:p<ts.length)(hp16:ts.length≤16){s1 s2 s3:Sl}{St:Fp}(qt:TabAt h0 St s1 s2 s3 ts[p])(hR:tabR ts[p]=true)(hid:ts[p].ids.length=z){b bt:Nat}(hb0:b<h0.blks.size)(Bb:h0.has b [.int .i64 (z:Int),ys.v] T.kx){D0:List Spl}(hD0:D0.length≤16*512){tsl:Sl}{m1:Int}{P:AV→AH→Prop}
  (hP:∀h l jl s js,SplI h0 z ts g R (D0++kj7 p ts[p]) l jl s js h→Runs (go (.pt F.kb8 Td.kkh [(1,gs.v),(5,.ptr (some (.new b 0))),(8,l.v),(9,s.v),(17,tsl.v),(18,.int .i64 m1),(19,.int .i64 ((p+1:Nat):Int))]) h) P) :
  ∀(k f:Nat),f+k=ts[p].cols.length→∀h l jl s js,SplI h0 z ts g R (D0++(cutsTo ts[p] f).map fun x=>(p,x.1,x.2)) l jl s js h→h.has bt [s1.v,s2.v,s3.v] T.kdc→(∀k,jl=some k∨js=some k→k≠bt)→
  Runs (go (.pt F.kb8 Td.ki5 [(1,gs.v),(5,.ptr (some (.new b 0))),(8,l.v),(9,s.v),(10,.int .i64 (p:Int)),(11,.ptr (some (.new bt 0))),(17,tsl.v),(18,.int .i64 m1),(19,.int .i64 (p:Int)),(25,s2.v),(26,.int .i64 (ts[p].bins.length:Int)),(27,.int .i64 (f:Int))]) h) P:=by
 obtain⟨hids,hcols,hbins,hall⟩:=kng hR;intro k
 induction k with
 | zero =>
  intro f hf h l jl s js I Bt hbt;obtain rfl:f=ts[p].cols.length:=by omega
  rw[kq8];refine Runs.ifF (decide_eq_false (by omega)) ?_;rw[ks (by omega)];exact hP h l jl s js I
 | succ k ih =>
  intro f hf h l jl s js I Bt hbt;have hf':f<ts[p].cols.length:=by omega
  obtain⟨hb,hb2,hb32,hcl⟩:=kjy (hall f hf') hf' hbins;have hgd:ts[p].bins.getD f 0=ts[p].bins[f]:=by simp[List.getD,hb]
  obtain⟨r,e1,e2⟩:=(qt.bins.grow I.grow).int hb;rw[kq8];refine Runs.ifT (decide_eq_true (by omega)) (Runs.step e1 (Runs.step e2 ?_));rw[wrap64 (by omega) (by omega),show ts[p].bins[f]-1=(nb ts[p] f:Int)from by unfold nb;rw[hgd];omega];exact k4x T0 Q By hz hz2 hp qt hR hid hb0 Bb hf' hD0 (fun h l jl s js I Bt hbt=>ih (f+1) (by omega) h l jl s js I Bt hbt) (nb ts[p] f) 0 (by omega) h l jl s js (by simpa using I) Bt hbt
theorem k2w{p:Nat}{t:Tb}(hR:tabR t=true):(kj7 p t).length≤496:=by
 obtain⟨hids,hcols,hbins,hall⟩:=kng hR;unfold kj7;rw[List.length_map]
 have:=kqg t t.cols.length fun i hi=>by
  obtain⟨hb',h2',h32',-⟩:=kjy (hall i hi) hi hbins;have:t.bins.getD i 0=t.bins[i]:=by simp[List.getD,hb']
  unfold nb;rw[this];omega
 omega
theorem ks8(hts:∀(p:Nat)(hp:p<ts.length),tabR ts[p]=true):∀n,n≤ts.length→(kev ts n).length≤496*n
 | 0,_=>by simp[kev]
 | n+1,h=>by
  rw[kwn,List.length_append];have h1:=ks8 hts n (by omega);have:ts.getD n Tb.no=ts[n]:=by simp[List.getD,show n<ts.length by omega]
  rw[this];have h2:=k2w (p:=n) (hts n (by omega));omega
theorem k7v(T0:Tab h0)(Q:Sq EI h0 Sg gs g)(By:BitsAt h0 Sb z ys R)(hz:z≤g.length)(hz2:z≤256)(hp16:ts.length≤16){tsl:Sl}{St:Fp}(Qt:Sq Ef.tb h0 St tsl ts)(hts:∀(p:Nat)(hp:p<ts.length),tabR ts[p]=true∧ts[p].ids.length=z){b:Nat}(hb0:b<h0.blks.size)(Bb:h0.has b [.int .i64 (z:Int),ys.v] T.kx) :
  ∀(k p:Nat),p+k=ts.length→∀h l jl s js,SplI h0 z ts g R (kev ts p) l jl s js h→
  Runs (go (.pt F.kb8 Td.kkh [(1,gs.v),(5,.ptr (some (.new b 0))),(8,l.v),(9,s.v),(17,tsl.v),(18,.int .i64 (ts.length:Int)),(19,.int .i64 (p:Int))]) h) fun v h'=>∃l jl s js,v=.tup [l.v,s.v]∧SplI h0 z ts g R (kb4 ts) l jl s js h':=by
 intro k
 induction k with
 | zero =>
  intro p hp h l jl s js I;obtain rfl:p=ts.length:=by omega
  rw[kt7];exact Runs.ifF (decide_eq_false (by omega)) (Runs.ret ⟨l,jl,s,js,rfl,I⟩)
 | succ k ih =>
  intro p hp h l jl s js I;have hp':p<ts.length:=by omega
  obtain⟨hR,hid⟩:=hts p hp';obtain⟨r,s1,s2,s3,e1,e2,e3,e4,qt⟩:=(Qt).tb hp';have G:=I.grow;obtain⟨r',s1',s2',s3',e1',e2',e3',e4',qt'⟩:=(Qt.grow G).tb hp';rw[kt7];rw[Qt.len]at e1'⊢;refine Runs.ifT (decide_eq_true (by omega)) (Runs.step e1' (Runs.step e2' (Runs.step e3' (Runs.step e4' (Runs.new fun h1 b1 g1=>Runs.puts b1 rfl fun h2 b2 u2=>Runs.step (b2.rd 1 rfl (asSl_v _)) ?_)))));have g02:Grow h h2:=g1.updr (Nat.le_refl _) u2
  have es:s1'=s1∧s2'=s2∧s3'=s3:=by
   rw[Qt.len]at e1;rw[e1]at e1';cases e1'
   have f:∀(o:Nat)(a b:Sl),(h0.cell (r.add o)).bind AV.asSl=some a→(h.cell (r.add o)).bind AV.asSl=some b→b=a:=fun o a b ha hb=>by
    obtain⟨v,hv,hva⟩:=Option.bind_eq_some_iff.1 ha;rw[G.cell_some hv,Option.bind_some,hva]at hb;cases hb;rfl
   exact⟨f 0 _ _ e2 e2',f 1 _ _ e3 e3',f 2 _ _ e4 e4'⟩
  obtain⟨rfl,rfl,rfl⟩:=es;have htp:ts.getD p Tb.no=ts[p]:=by simp[List.getD,hp']
  have I2:SplI h0 z ts g R (kev ts p) l jl s js h2:=by
   obtain⟨G,ll,ls,hne,⟨S,hS,nS,V⟩,W⟩:=I;exact⟨G.trans g02,ll,ls,hne,⟨S,hS,nS,V.grow g02⟩,W.grow g02⟩
  have hjl:∀k,jl=some k∨js=some k→k≠h.blks.size:=fun k hk=>by
   obtain⟨G,ll,ls,hne,⟨S,hS,nS,V⟩,W⟩:=I;rcases hk with hk | hk
   ·have:=opt_lt V.lt hk;omega
   ·have:=opt_lt W.lt hk;omega
  have hlen:=ks8 (fun p hp=>(hts p hp).1) p (by omega);rw[qt.bins.len];refine k62 T0 Q By hz hz2 hp' hp16 qt hR hid hb0 Bb (bt:=h.blks.size) (D0:=kev ts p) (by omega) (fun h l jl s js I=>?_) ts[p].cols.length 0 (by omega) h2 l jl s js (by simpa[cutsTo]using I2) b2 hjl;refine ih (p+1) (by omega) h l jl s js ?_;rw[kwn,htp];exact I
theorem kba7(T0:Tab h0)(Q:Sq EI h0 Sg gs g)(By:BitsAt h0 Sb z ys R)(hz:z≤g.length)(hz2:z≤256)(hp16:ts.length≤16){tsl:Sl}{St:Fp}(Qt:Sq Ef.tb h0 St tsl ts)(hts:∀(p:Nat)(hp:p<ts.length),tabR ts[p]=true∧ts[p].ids.length=z) :
  Runs (go (.fn F.kb8 [tsl.v,gs.v,.agg [.int .i64 (z:Int),ys.v]]) h0) fun v h'=>Grow h0 h'∧∃(l s:Sl)(S S':Fp),v=.tup [l.v,s.v]∧Sq (Ef.spr z) h' S l ((kb4 ts).map fun x=>⟨x,R.filter (leftS ts x)⟩)∧Sq EP h' S' s (sumsS ts g R)∧∀m,S m→h0.blks.size≤m:=by
 rw[ky8];refine Runs.new fun h1 b1 g1=>?_;rw[Qt.len];refine(k7v (T0.grow g1) (Q.grow g1) (By.grow g1) hz hz2 hp16 (Qt.grow g1) hts b1.lt b1 ts.length 0 (by omega) h1 _ none _ none ⟨Grow.refl _,trivial,trivial,(fun k e=>by cases e),⟨Fp.no,fun m x=>x.elim,trivial,GF.none _ _ _ _⟩,GF.none _ _ _ _⟩).imp fun v h' ⟨l,jl,s,js,e,I⟩=>?_;obtain⟨G,ll,ls,hne,⟨S,hS,nS,V⟩,W⟩:=I;refine⟨g1.trans G,l,s,_,_,e,V.sq,W.sq,fun m hm=>?_⟩;have:=g1.size;rcases hm with hm | hm
 ·have:=opt_ge ll hm;omega
 ·have:=hS m hm;omega
end
end Go.Ab

/- squeezed -/
set_option maxRecDepth 10000
namespace Go.Ab
open Go.Proofs Go.Num Go.Heap
@[reducible] def Ef.wt(z:Nat):Ef Wt where
 w:=4
 pos:=by decide
 has h S cs x:=∃y:Sl,cs=[.int .i64 (x.place:Int),.int .i64 (x.deep:Int),.int .i64 (z:Int),y.v]∧BitsAt h S z y x.rows
 len:=fun⟨_,e,_⟩=>by rw[e];rfl
 grow g:=fun⟨a,e,n⟩=>⟨a,e,n.grow g⟩
 mono f:=fun⟨a,e,n⟩=>⟨a,e,n.mono f⟩
 upd no u:=fun⟨a,e,n⟩=>⟨a,e,n.upd no u⟩
 bound:=fun⟨a,e,n⟩=>⟨a,e,n.bound⟩
theorem kbbc{n:Nat}(h:n≤1000000):growOk Pg n T.kbg 4=true:=by
 unfold growOk;rw[kbbg,k92];have h1:n*48≤kv:=by simp only[kv];omega
 have h2:n*4≤kv:=by simp only[kv];omega
 have h3:n≤kv:=by simp only[kv];omega
 simp[h1,h2,h3]
def keyW(x:Wt):Int:=(x.place:Int)
def QAt(z bq:Nat)(S:Fp)(q:List Wt)(k:Nat)(h:AH):Prop:=k≠bq∧¬S bq∧∃s:Sl,h.has bq [s.v] T.kwu∧GQ (Ef.wt z) T.kbg h S s k q
theorem QAt.grow{z bq k:Nat}{S:Fp}{q:List Wt}{h h':AH}(Q:QAt z bq S q k h)(g:Grow h h'):QAt z bq S q k h':=by
 obtain⟨a,b,s,B,V⟩:=Q;exact⟨a,b,s,g.has B,V.grow g⟩
theorem QAt.md{z bq k:Nat}{S T:Fp}{q:List Wt}{h h':AH}(Q:QAt z bq S q k h)(m:Md T h h')(d:Dis S T)(n1:¬T k)(n2:¬T bq):QAt z bq S q k h':=by
 obtain⟨a,b,s,B,V⟩:=Q;exact⟨a,b,s,m.has B n2,V.md m d n1⟩
theorem QAt.lt{z bq k:Nat}{S:Fp}{q:List Wt}{h:AH}(Q:QAt z bq S q k h):k<h.blks.size∧bq<h.blks.size:=by
 obtain⟨a,b,s,B,V⟩:=Q;exact⟨V.lt,B.lt⟩
theorem QAt.mono{z bq k:Nat}{S T:Fp}{q:List Wt}{h:AH}(Q:QAt z bq S q k h)(f:∀j,S j→T j)(n1:¬T k)(n2:¬T bq):QAt z bq T q k h:=by
 obtain⟨a,b,s,B,V⟩:=Q;exact⟨a,n2,s,B,V.mono f n1⟩
theorem at_key(q:List Wt){i:Nat}(hi:i<q.length):at' keyW q i=(q[i].place:Int):=by
 unfold at' keyW;rw[List.getElem?_eq_getElem hi];rfl
section
variable{z bq k:Nat}{S:Fp}{q:List Wt}{h:AH}{s:Sl}
theorem wt_at(V:GQ (Ef.wt z) T.kbg h S s k q){i:Nat}(hi:i<q.length):∃(r:Ref)(y:Sl),idx s.ref s.len (i:Int) 4=some r∧(h.cell (r.add 0)).bind (AV.asInt .i64)=some (q[i].place:Int)∧(h.cell (r.add 1)).bind (AV.asInt .i64)=some (q[i].deep:Int)∧(h.cell (r.add 2)).bind (AV.asInt .i64)=some (z:Int)∧(h.cell (r.add 3)).bind AV.asSl=some y∧BitsAt h S z y q[i].rows:=by
 obtain⟨r,cs,e1,⟨y,rfl,B⟩,l⟩:=V.at hi;have g:=Grow.refl h;exact⟨r,y,e1,l.rd g 0 rfl (ke _ _),l.rd g 1 rfl (ke _ _),l.rd g 2 rfl (ke _ _),l.rd g 3 rfl (asSl_v _),B⟩
theorem knu(V:GQ (Ef.wt z) T.kbg h S s k q){i j:Nat}(hi:i<q.length)(hj:j<q.length):go (.fn F.kfe [s.v,.int .i64 (i:Int),.int .i64 (j:Int)]) h=some (.bool (decide (at' keyW q i<at' keyW q j)),h):=by
 obtain⟨r1,y1,e1,a1,-⟩:=wt_at V hi;obtain⟨r2,y2,e2,a2,-⟩:=wt_at V hj;rw[kbbp,e1,Option.bind_some,a1,Option.bind_some,e2,Option.bind_some,a2,Option.bind_some,at_key q hi,at_key q hj]
theorem kt8(V:GQ (Ef.wt z) T.kbg h S s k q){i j:Nat}(hi:i<q.length)(hj:j<q.length):Runs (go (.fn F.kfu [s.v,.int .i64 (i:Int),.int .i64 (j:Int)]) h) fun v h'=>v=.tup []∧GQ (Ef.wt z) T.kbg h' S s k (swapL q i j)∧Upd h h' k:=by
 obtain⟨r1,y1,e1,a0,a1,a2,a3,B1⟩:=wt_at V hj;obtain⟨r2,y2,e2,c0,c1,c2,c3,B2⟩:=wt_at V hi;rw[k3z];refine Runs.step e1 (Runs.step a0 (Runs.step a1 (Runs.step a2 (Runs.step a3 (Runs.step e2 (Runs.step c0 (Runs.step c1 (Runs.step c2 (Runs.step c3 (Runs.step e2 ?_))))))))));have nS:=V.not;obtain⟨r3,h1,e3,p3,V1,u1⟩:=V.set (T:=S) (x:=q[j]) (show(Ef.wt z).has h S _ q[j]from⟨y1,rfl,B1⟩) nS hi;rw[e2]at e3;cases e3;refine Runs.step p3 ?_;have V1:=V1.mono (T:=S) (fun j x=>x.elim id id) nS;have hj':j<(q.set i q[j]).length:=by rw[List.length_set];exact hj
 obtain⟨r4,h2,e4,p4,V2,u2⟩:=V1.set (T:=S) (x:=q[i]) (show(Ef.wt z).has h1 S _ q[i]from⟨y2,rfl,B2.upd nS u1⟩) nS hj';refine Runs.step e4 (Runs.step p4 (Runs.ret ⟨rfl,?_,u1.trans u2⟩))
 have:swapL q i j=(q.set i q[j]).set j q[i]:=by
  unfold swapL;rw[List.getElem?_eq_getElem hi,List.getElem?_eq_getElem hj]
 rw[this];exact V2.mono (T:=S) (fun j x=>x.elim id id) nS
theorem k48{i0:Int}{n:Nat}(hn64:n≤1000000):∀(m i:Nat),n≤m+i→i≤1000000→∀(h:AH)(q:List Wt),n≤q.length→QAt z bq S q k h→
  Runs (go (.pt F.kdx Td.kge [(0,.iface T.kbp (.ptr (some (.new bq 0)))),(1,.int .i64 i0),(2,.int .i64 (n:Int)),(7,.int .i64 (i:Int))]) h) fun v h'=>(∃b,v=.bool b)∧QAt z bq S (downL keyW n m i q) k h'∧Md (fun j=>j=k) h h':=by
 intro m
 induction m with
 | zero =>
  intro i hm hi h q hq Q;rw[krm];rw[wrap64 (n:=2*(i:Int)) (by omega) (by omega),wrap64 (n:=2*(i:Int)+1) (by omega) (by omega)];exact Runs.ifT (decide_eq_true (by omega)) (Runs.ret ⟨⟨_,rfl⟩,Q,Md.refl _ _⟩)
 | succ m ih =>
  intro i hm hi h q hq Q;rw[krm];rw[wrap64 (n:=2*(i:Int)) (by omega) (by omega),wrap64 (n:=2*(i:Int)+1) (by omega) (by omega),wrap64 (n:=2*(i:Int)+1+1) (by omega) (by omega),show 2*(i:Int)+1+1=((2*i+2:Nat):Int)from by omega,show 2*(i:Int)+1=((2*i+1:Nat):Int)from by omega];refine Runs.cond (fun c=>?_) fun c=>?_
  ·rw[decide_eq_true_eq]at c;refine Runs.ret ⟨⟨_,rfl⟩,?_,Md.refl _ _⟩;unfold downL;rw[if_neg (by omega)];exact Q
  rw[decide_eq_false_iff_not]at c;refine Runs.ifF (decide_eq_false (by omega)) ?_;obtain⟨hk,hb,s,B,V⟩:=Q;have h1:2*i+1<n:=by omega
  have fin:∀j:Nat,j<n→j≠i→kidL keyW n i q=j→Runs (((h.cell (.new bq 0)).bind AV.asSl).bind fun l18=>(go (.fn F.kfe [l18.v,.int .i64 (j:Int),.int .i64 (i:Int)]) h).bind fun q19=>((some q19.1).bind AV.asBool).bind fun b20=>cond (!b20) (some (.bool (decide ((i:Int)>i0)),q19.2)) (((q19.2.cell (.new bq 0)).bind AV.asSl).bind fun l21=>(go (.fn F.kfu [l21.v,.int .i64 (i:Int),.int .i64 (j:Int)]) q19.2).bind fun q22=>(AV.asTup0 q22.1).bind fun _=>go (.pt F.kdx Td.kge [(0,.iface T.kbp (.ptr (some (.new bq 0)))),(1,.int .i64 i0),(2,.int .i64 (n:Int)),(7,.int .i64 (j:Int))]) q22.2)) fun v h'=>(∃b,v=.bool b)∧QAt z bq S (downL keyW n (m+1) i q) k h'∧Md (fun j=>j=k) h h':=by
   intro j hj hji hkid;refine Runs.step (B.rd0 rfl (asSl_v _)) (Runs.step (knu V (i:=j) (j:=i) (by omega) (by omega)) (Runs.step (seen rfl) ?_));refine Runs.cond (fun c2=>?_) fun c2=>?_
   ·rw[Bool.not_eq_true',decide_eq_false_iff_not]at c2;refine Runs.ret ⟨⟨_,rfl⟩,?_,Md.refl _ _⟩;unfold downL;rw[if_pos h1,hkid,if_neg c2];exact⟨hk,hb,s,B,V⟩
   ·rw[Bool.not_eq_false',decide_eq_true_eq]at c2;refine Runs.step (B.rd0 rfl (asSl_v _)) ?_;refine(kt8 V (i:=i) (j:=j) (by omega) (by omega)).call fun v h2 ⟨e,V2,u2⟩=>?_;subst e;refine Runs.step rfl ?_;have:=ih j (by rcases kqa keyW n i q with⟨e,_⟩ | ⟨e,_⟩<;>omega) (by omega) h2 (swapL q i j) (by rw[kfo];exact hq) ⟨hk,hb,s,B.updr (fun e=>hk e.symm) u2,V2⟩;refine this.imp fun v h' ⟨e,Q',md⟩=>⟨e,?_,(u2.md (T:=fun j=>j=k) rfl).trans md⟩;unfold downL;rw[if_pos h1,hkid,if_pos c2];exact Q'
  refine Runs.cond (fun c1=>?_) fun c1=>?_
  ·rw[decide_eq_true_eq]at c1;refine Runs.step (B.rd0 rfl (asSl_v _)) (Runs.step (knu V (i:=2*i+2) (j:=2*i+1) (by omega) (by omega)) (Runs.step (seen rfl) ?_));refine Runs.cond (fun c2=>?_) fun c2=>?_
   ·rw[decide_eq_true_eq]at c2;exact fin (2*i+2) (by omega) (by omega) (by unfold kidL;rw[if_pos ⟨by omega,c2⟩])
   ·rw[decide_eq_false_iff_not]at c2;exact fin (2*i+1) (by omega) (by omega) (by unfold kidL;rw[if_neg fun hh=>c2 hh.2])
  ·rw[decide_eq_false_iff_not]at c1;exact fin (2*i+1) (by omega) (by omega) (by unfold kidL;rw[if_neg fun hh=>c1 (by omega)])
theorem k2y(Q:QAt z bq S q k h)(hq:0<q.length)(hq2:q.length≤1000){x:Wt}(hx:(downL keyW (q.length-1) q.length 0 (swapL q 0 (q.length-1)))[q.length-1]?=some x) :
  Runs (go (.fn F.kos [.iface T.kbp (.ptr (some (.new bq 0)))]) h) fun v h'=>∃y:Sl,v=.iface T.kbg (.agg [.int .i64 (x.place:Int),.int .i64 (x.deep:Int),.int .i64 (z:Int),y.v])∧BitsAt h' S z y x.rows∧QAt z bq S (popL keyW q) k h'∧Md (fun j=>j=k∨j=bq) h h':=by
 obtain⟨hk,hb,s,B,V⟩:=Q;rw[k51];refine Runs.step (B.rd0 rfl (asSl_v _)) (Runs.step (kko _ _) (Runs.step (seen rfl) (Runs.step (B.rd0 rfl (asSl_v _)) ?_)));have ln:s.len=q.length:=V.sq.len;dsimp only;rw[ln,wrap64 (n:=(q.length:Int)-1) (by omega) (by omega),show(q.length:Int)-1=((q.length-1:Nat):Int)from by omega];refine(kt8 V (i:=0) (j:=q.length-1) (by omega) (by omega)).call fun v h1 ⟨e,V1,u1⟩=>?_;subst e;refine Runs.step rfl ?_;have B1:=B.updr (fun e=>hk e.symm) u1
 have kd:Runs (go (.fn F.kdx [.iface T.kbp (.ptr (some (.new bq 0))),.int .i64 0,.int .i64 ((q.length-1:Nat):Int)]) h1) fun v h'=>(∃b,v=.bool b)∧QAt z bq S (downL keyW (q.length-1) q.length 0 (swapL q 0 (q.length-1))) k h'∧Md (fun j=>j=k) h1 h':=by
  rw[kba0];exact k48 (by omega) q.length 0 (by omega) (by omega) h1 _ (by rw[kfo];omega) ⟨hk,hb,s,B1,V1⟩
 refine kd.call fun v h2 ⟨⟨b,e⟩,⟨_,_,s2,B2,V2⟩,m2⟩=>?_;subst e;refine Runs.step (seen rfl) ?_;generalize hd:downL keyW (q.length-1) q.length 0 (swapL q 0 (q.length-1))=d at *
 have hdl:d.length=q.length:=by rw[← hd,knx,kfo]
 have hi:q.length-1<d.length:=by omega
 have hxd:d[q.length-1]=x:=by
  rw[List.getElem?_eq_getElem hi]at hx
  simpa using hx
 have ln2:s2.len=d.length:=V2.sq.len;obtain⟨r,y,e1,a0,a1,a2,a3,By⟩:=wt_at V2 hi;rw[hxd]at a0 a1 By
 have kp:Runs (go (.fn F.kog [.ptr (some (.new bq 0))]) h2) fun v h'=>v=.iface T.kbg (.agg [.int .i64 (x.place:Int),.int .i64 (x.deep:Int),.int .i64 (z:Int),y.v])∧QAt z bq S (d.take (q.length-1)) k h'∧BitsAt h' S z y x.rows∧Md (fun j=>j=bq) h2 h':=by
  rw[k8n,Option.bind_some];refine Runs.step (B2.rd0 rfl (asSl_v _)) ?_;rw[Option.bind_some];refine Runs.step (B2.rd0 rfl (asSl_v _)) ?_;rw[wrap64 (n:=(s2.len:Int)-1) (by omega) (by omega),show(s2.len:Int)-1=((q.length-1:Nat):Int)from by omega];refine Runs.step e1 (Runs.step a0 (Runs.step a1 (Runs.step a2 (Runs.step a3 (Runs.new fun h3 b3 g3=>Runs.puts b3 rfl fun h4 b4 u4=>?_)))));have g24:Grow h2 h4:=g3.updr (Nat.le_refl _) u4;rw[Option.bind_some];have B4:=g24.has B2;refine Runs.step (B4.rd0 rfl (asSl_v _)) ?_;obtain⟨s5,e5,V5⟩:=(V2.grow g24).cut (n:=q.length-1) (by omega);refine Runs.step e5 ?_;rw[Option.bind_some];refine Runs.puts B4 rfl fun h6 B6 u6=>?_;have zb:=B2.lt;have b6:=b4.updr (i:=bq) (by omega) u6;refine Runs.step (b6.rd 0 rfl (ke _ _)) (Runs.step (b6.rd 1 rfl (ke _ _)) (Runs.step (b6.rd 2 rfl (ke _ _)) (Runs.step (b6.rd 3 rfl (asSl_v _)) (Runs.ret ⟨rfl,⟨hk,hb,s5,B6,V5.upd u6 hb hk⟩,(By.grow g24).upd hb u6,(g24.md _).trans (u6.md rfl)⟩))))
 refine kp.call fun v h3 ⟨e,Q3,By3,m3⟩=>?_;subst e;refine Runs.ret ⟨y,rfl,By3,?_,?_⟩
 ·unfold popL;rw[hd];exact Q3
 ·exact((u1.md (.inl rfl)).trans (m2.mono fun _ _ e=>.inl e)).trans (m3.mono fun _ _ e=>.inr e)
theorem ks2(Q:QAt z bq S q k h)(hq2:q.length≤1000){x:Wt}{y:Sl}{Tx:Fp}(By:BitsAt h Tx z y x.rows)(nk:¬Tx k)(nb:¬Tx bq)(hx:∀w∈q,keyW w≤keyW x) :
  Runs (go (.fn F.km3 [.iface T.kbp (.ptr (some (.new bq 0))),.iface T.kbg (.agg [.int .i64 (x.place:Int),.int .i64 (x.deep:Int),.int .i64 (z:Int),y.v])]) h) fun v h'=>v=.tup []∧∃(S':Fp)(k':Nat),(∀m,S' m→S m∨Tx m)∧QAt z bq S' (q++[x]) k' h'∧Md (fun j=>j=k∨j=bq) h h'∧(k'=k∨h.blks.size≤k'):=by
 obtain⟨hk,hb,s,B,V⟩:=Q;rw[k2h];have zb:=B.lt;have zk:=V.lt
 have kp:Runs (go (.fn F.koe [.ptr (some (.new bq 0)),.iface T.kbg (.agg [.int .i64 (x.place:Int),.int .i64 (x.deep:Int),.int .i64 (z:Int),y.v])]) h) fun v h'=>v=.tup []∧∃(S':Fp)(k':Nat),(∀m,S' m→S m∨Tx m)∧QAt z bq S' (q++[x]) k' h'∧Md (fun j=>j=k∨j=bq) h h'∧(k'=k∨h.blks.size≤k'):=by
  rw[kyq,Option.bind_some];refine Runs.step (B.rd0 rfl (asSl_v _)) (Runs.new fun h1 b1 g1=>?_);refine Runs.when (g1.same B 0 1) ?_;refine Runs.step (kfh b1 (by rw[k1r];rfl)) ?_;obtain⟨s',h2,k',e2,V2,u2,hk'⟩:=(V.grow g1).push (T:=Tx) (show(Ef.wt z).has h1 Tx _ x from⟨y,rfl,By.grow g1⟩) nk (kbbc (by omega));refine Runs.step e2 (Runs.step (asSl_v _) ?_);rw[Option.bind_some];have B2:=(g1.has B).updr (i:=k) (fun e=>hk e.symm) u2;have z1:=g1.size
  have hne:k'≠bq:=by
   rcases hk' with rfl | rfl
   ·exact hk
   ·omega
  have nbS:¬((Fp.or S Tx) bq∧bq<h1.blks.size):=fun x=>x.1.elim hb nb;refine Runs.puts B2 rfl fun h3 B3 u3=>Runs.ret ⟨rfl,_,k',fun m x=>x.1,⟨hne,nbS,s',B3,V2.upd u3 nbS hne⟩,?_,?_⟩
  ·exact((g1.md _).trans (u2.md (.inl rfl))).trans (u3.md (.inr rfl))
  ·rcases hk' with rfl | rfl
   ·exact .inl rfl
   ·exact .inr z1
 refine kp.call fun v h2 ⟨e,S',k',hS',Q2,m2,hk2⟩=>?_;subst e;refine Runs.step rfl ?_;have Q2':=Q2;obtain⟨hk',hb',s2,B2,V2⟩:=Q2;have ln:s2.len=q.length+1:=by rw[V2.sq.len,List.length_append];rfl
 refine Runs.step (B2.rd0 rfl (asSl_v _)) (Runs.step (kko _ _) (Runs.step (seen rfl) ?_));dsimp only;rw[ln,wrap64 (n:=((q.length+1:Nat):Int)-1) (by omega) (by omega),show((q.length+1:Nat):Int)-1=(q.length:Int)from by omega]
 have ku:Runs (go (.fn F.kig [.iface T.kbp (.ptr (some (.new bq 0))),.int .i64 (q.length:Int)]) h2) fun v h'=>v=.tup []∧h'=h2:=by
  rw[k1w,k43];refine Runs.cond (fun c=>Runs.ret ⟨rfl,rfl⟩) fun c=>?_;rw[decide_eq_false_iff_not]at c;by_cases h0:q.length=0
  ·rw[h0]at c;exact absurd (by decide) c
  ·rw[wrap64 (n:=(q.length:Int)-1) (by omega) (by omega),show(q.length:Int)-1=((q.length-1:Nat):Int)from by omega,show Int.tdiv ((q.length-1:Nat):Int) 2=(((q.length-1)/2:Nat):Int)from rfl,wrap64 (n:=(((q.length-1)/2:Nat):Int)) (by omega) (by omega)];have hl:(q++[x]).length=q.length+1:=by simp
   refine Runs.step (B2.rd0 rfl (asSl_v _)) (Runs.step (knu V2 (i:=q.length) (j:=(q.length-1)/2) (by omega) (by omega)) (Runs.step (seen rfl) ?_));refine Runs.ifT ?_ (Runs.ret ⟨rfl,rfl⟩);rw[Bool.not_eq_true',decide_eq_false_iff_not];have hm:(q.length-1)/2<q.length:=by omega
   have e1:at' keyW (q++[x]) q.length=keyW x:=by
    unfold at';rw[List.getElem?_append_right (Nat.le_refl _)];simp
   have e2:at' keyW (q++[x]) ((q.length-1)/2)=keyW q[(q.length-1)/2]:=by
    unfold at';rw[List.getElem?_append_left hm,List.getElem?_eq_getElem hm];rfl
   rw[e1,e2];have:=hx _ (List.getElem_mem hm);omega
 refine ku.call fun v h3 ⟨e,e'⟩=>?_;subst e;subst e';exact Runs.step rfl (Runs.ret ⟨rfl,S',k',hS',Q2',m2,hk2⟩)
end
end Go.Ab

/- squeezed -/
set_option maxRecDepth 10000
namespace Go.Ab
open Go.Proofs Go.Num Go.Heap
theorem k4c{n:Nat}(h:n≤1000000):growOk Pg n T.kbj 7=true:=by
 unfold growOk;rw[k2t,kwe];have h1:n*56≤kv:=by simp only[kv];omega
 have h2:n*7≤kv:=by simp only[kv];omega
 have h3:n≤kv:=by simp only[kv];omega
 simp[h1,h2,h3]
theorem ko8(w:Int):∀(R:List Nat)(sc:List Int),(addS w R sc).length=sc.length
 | [],_=>rfl
 | i::R,sc=>by
  unfold addS;rw[List.foldl_cons];have:=ko8 w R (sc.set i (IntKind.wrap .i64 (sc.getD i 0+w)));unfold addS at this;rw[this,List.length_set]
structure Pl where
 c:Nat
 r:Nat
 t:Nat
 q:Nat
 s:Nat
 n:Nat
 k:Nat
def Pl.all(p:Pl)(j:Nat):Prop:=j=p.c∨j=p.r∨j=p.t∨j=p.q∨j=p.s∨j=p.n∨j=p.k
structure Pl.ok(p:Pl):Prop where
 cr:p.c≠p.r
 ct:p.c≠p.t
 cq:p.c≠p.q
 cs:p.c≠p.s
 cn:p.c≠p.n
 ck:p.c≠p.k
 rt:p.r≠p.t
 rq:p.r≠p.q
 rs:p.r≠p.s
 rn:p.r≠p.n
 rk:p.r≠p.k
 tq:p.t≠p.q
 ts:p.t≠p.s
 tn:p.t≠p.n
 tk:p.t≠p.k
 qs:p.q≠p.s
 qn:p.q≠p.n
 qk:p.q≠p.k
 sn:p.s≠p.n
 sk:p.s≠p.k
 nk:p.n≠p.k
def Cfg.cells(c:Cfg):List AV:=[.int .i64 c.trees,.int .i64 c.depth,.int .i64 c.lambda,.int .i64 c.gamma,.int .i64 c.num,.int .i64 c.den,.int .i64 c.loss,.int .i64 c.clip]
structure GrAt(c:Cfg)(z:Nat)(scs:Sl)(p:Pl)(q:List Wt)(nodes:List Nd)(sc:List Int)(h:AH):Prop where
 ok:p.ok
 cfg:h.has p.c c.cells T.kci
 res:h.has p.r [(⟨none,0,.is 0⟩:Sl).v] T.kbr
 tree:∃nd:Sl,h.has p.t [nd.v] T.kbr∧GF Ef.nd T.kbj h Fp.no nd (some p.n) nodes
 que:∃S:Fp,(∀m,S m→¬p.all m)∧QAt z p.q S q p.k h
 sco:GF EI T.int h Fp.no scs (some p.s) sc
def Pl.ch(p:Pl)(j:Nat):Prop:=j=p.r∨j=p.t∨j=p.q∨j=p.s∨j=p.n∨j=p.k
section
variable{hE:AH}{c:Cfg}{z:Nat}{scs gs tsl:Sl}{p:Pl}{q:List Wt}{nodes:List Nd}{sc g:List Int}{ts:List Tb}{h:AH}
theorem GrAt.grow(A:GrAt c z scs p q nodes sc h){h':AH}(G:Grow h h'):GrAt c z scs p q nodes sc h':=by
 obtain⟨ok,cfg,res,⟨nd,B,V⟩,⟨S,hS,Q⟩,sco⟩:=A;exact⟨ok,G.has cfg,G.has res,⟨nd,G.has B,V.grow G⟩,⟨S,hS,Q.grow G⟩,sco.grow G⟩
theorem GrAt.lt(A:GrAt c z scs p q nodes sc h):∀j,p.all j→j<h.blks.size:=by
 obtain⟨ok,cfg,res,⟨nd,B,V⟩,⟨S,hS,Q⟩,sco⟩:=A
 rintro j (rfl | rfl | rfl | rfl | rfl | rfl | rfl)
 ·exact cfg.lt
 ·exact res.lt
 ·exact B.lt
 ·exact Q.lt.2
 ·exact sco.lt
 ·exact V.lt
 ·exact Q.lt.1
theorem GrAt.upd(A:GrAt c z scs p q nodes sc h){h':AH}{i:Nat}(u:Upd h h' i)(hi:h.blks.size≤i∨(¬p.all i∧∀S:Fp,QAt z p.q S q p.k h→(∀m,S m→¬p.all m)→∃S':Fp,QAt z p.q S' q p.k h∧(∀m,S' m→¬p.all m)∧¬S' i)):GrAt c z scs p q nodes sc h':=by
 have hl:=A.lt;obtain⟨ok,cfg,res,⟨nd,B,V⟩,⟨S,hS,Q⟩,sco⟩:=A
 have na:¬p.all i:=by
  rcases hi with hi | hi
  ·intro x;have:=hl i x;omega
  ·exact hi.1
 have ne:∀j,p.all j→j≠i:=fun j hj e=>na (e▸hj)
 obtain⟨S',Q',hS',nS⟩:∃S':Fp,QAt z p.q S' q p.k h∧(∀m,S' m→¬p.all m)∧¬S' i:=by
  rcases hi with hi | hi
  ·obtain⟨a,b,s,Bq,Vq⟩:=Q;exact⟨fun j=>S j∧j<h.blks.size,⟨a,fun x=>b x.1,s,Bq,Vq.bound⟩,fun m x=>hS m x.1,fun x=>by have:=x.2;omega⟩
  ·exact hi.2 S Q hS
 refine⟨ok,cfg.updr (ne _ (.inl rfl)) u,res.updr (ne _ (.inr (.inl rfl))) u,⟨nd,B.updr (ne _ (by simp[Pl.all])) u,V.upd u Fp.not_no fun k e=>by cases e;exact ne _ (by simp[Pl.all])⟩,⟨S',hS',Q'.md (u.md (T:=fun j=>j=i) rfl) (fun j a e=>nS (e▸a)) (ne _ (by simp[Pl.all])) (ne _ (by simp[Pl.all]))⟩,sco.upd u Fp.not_no fun k e=>by cases e;exact ne _ (by simp[Pl.all])⟩
theorem k8y{w:Int}{x:Sl}{R:List Nat}(hR:∀i∈R,i<sc.length)(hl:R.length≤100000){P:AV→AH→Prop} :
  ∀(k i:Nat),i+k=R.length→∀(h:AH)(sc':List Int),(∃Sx:Fp,¬Sx p.s∧Sq EI h Sx x (zs R))→sc'.length=sc.length→GrAt c z scs p q nodes sc' h→sc'=addS w (R.take i) sc→(∀h',Md (fun j=>j=p.s) h h'→GrAt c z scs p q nodes (addS w R sc) h'→Runs (go (.pt F.kbt Td.kfk [(1,tsl.v),(2,gs.v),(3,scs.v),(4,.ptr (some (.new p.c 0))),(8,.ptr (some (.new p.r 0))),(11,.ptr (some (.new p.t 0))),(12,.ptr (some (.new p.q 0)))]) h') P)→
  Runs (go (.pt F.kbt Td.kmk [(1,tsl.v),(2,gs.v),(3,scs.v),(4,.ptr (some (.new p.c 0))),(8,.ptr (some (.new p.r 0))),(11,.ptr (some (.new p.t 0))),(12,.ptr (some (.new p.q 0))),(18,.int .i64 w),(92,x.v),(93,.int .i64 (R.length:Int)),(94,.int .i64 (i:Int))]) h) P:=by
 intro k
 induction k with
 | zero =>
  intro i hi h sc' X hl' A e hP;obtain rfl:i=R.length:=by omega
  rw[List.take_length]at e;subst e;rw[kvw];exact Runs.ifF (decide_eq_false (by omega)) (hP h (Md.refl _ _) A)
 | succ k ih =>
  intro i hi h sc' ⟨Sx,nx,X⟩ hl' A e hP;have hi':i<R.length:=by omega
  have hz:i<(zs R).length:=by rw[zs_len];exact hi'
  obtain⟨r1,e1,e2⟩:=X.int hz;have ex:(zs R)[i]=((R[i]:Nat):Int):=by simp[zs]
  rw[ex]at e2;have hg:R[i]<sc'.length:=by rw[hl'];exact hR _ (List.getElem_mem hi')
  have ln:scs.len=sc'.length:=A.sco.len;obtain⟨r2,e3,e4⟩:=A.sco.sq.int hg;rw[kvw];refine Runs.ifT (decide_eq_true (by omega)) (Runs.step e1 (Runs.step e2 (Runs.step e3 (Runs.step e4 (Runs.step e3 ?_)))));have hgd:sc'.getD R[i] 0=sc'[R[i]]:=by simp[List.getD,hg]
  obtain⟨r3,h1,e5,p5,V5,u5⟩:=A.sco.set (T:=Fp.no) (x:=IntKind.wrap .i64 (sc'[R[i]]+w)) (show EI.has h Fp.no [.int .i64 (IntKind.wrap .i64 (sc'[R[i]]+w))] _ from rfl) Fp.not_no (kbd hg);have e5:idx scs.ref sc'.length ((R[i]:Nat):Int) 1=some r3:=e5;rw[← ln,e3]at e5;cases e5;refine Runs.step p5 ?_;rw[ks (by omega)];have u5:Upd h h1 p.s:=u5
  have A1:GrAt c z scs p q nodes (sc'.set R[i] (IntKind.wrap .i64 (sc'[R[i]]+w))) h1:=by
   obtain⟨ok,cfg,res,⟨nd,B,V⟩,⟨S,hS,Q⟩,sco⟩:=A;refine⟨ok,cfg.updr ok.cs u5,res.updr ok.rs u5,⟨nd,B.updr ok.ts u5,V.upd u5 Fp.not_no fun k e=>by cases e;exact ok.sn.symm⟩,⟨S,hS,Q.md (u5.md (T:=fun j=>j=p.s) rfl) (fun j a e=>hS j a (by subst e;simp[Pl.all])) ok.sk.symm ok.qs⟩,V5.mono (fun j x=>x.elim id id) Fp.not_no⟩
  refine ih (i+1) (by omega) h1 _ ⟨Sx,nx,X.upd nx u5⟩ (by rw[List.length_set];exact hl') A1 ?_ fun h' m A'=>hP h' ((u5.md (T:=fun j=>j=p.s) rfl).trans m) A';rw[List.take_succ_eq_append_getElem hi'];unfold addS at e⊢;rw[List.foldl_append,List.foldl_cons,List.foldl_nil,← e,hgd]
end
end Go.Ab

/- squeezed -/
set_option maxRecDepth 10000
namespace Go.Ab
open Go.Proofs Go.Num Go.Heap
theorem k1k(c:Cfg)(s:Int×Int){h:AH}:Runs (go (.fn F.kju [.agg [.int .i64 c.trees,.int .i64 c.depth,.int .i64 c.lambda,.int .i64 c.gamma,.int .i64 c.num,.int .i64 c.den,.int .i64 c.loss,.int .i64 c.clip],.agg [.int .i64 s.1,.int .i64 s.2]]) h) fun v h'=>(∃e:Int,v=.tup [.int .i64 (kf1 c s),.int .i64 e])∧Grow h h' :=
 (k3h c.trees c.depth c.lambda c.gamma c.num c.den c.loss c.clip s.1 s.2).imp fun v h' ⟨e,g⟩=>⟨⟨_,e⟩,g⟩
section
variable{c:Cfg}{z:Nat}{scs gs tsl y sb l:Sl}{p:Pl}{q:List Wt}{nodes:List Nd}{sc g:List Int}{ts:List Tb}{h:AH}{Sy Sl':Fp}{x:Wt}
theorem GrAt.setn(A:GrAt c z scs p q nodes sc h){i:Nat}(hi:i<nodes.length)(y:Nd):∃(nd:Sl)(r:Ref)(h':AH),h.has p.t [nd.v] T.kbr∧idx nd.ref nd.len (i:Int) 7=some r∧h.puts r y.cells=some h'∧Upd h h' p.n∧GrAt c z scs p q (nodes.set i y) sc h':=by
 obtain⟨ok,cfg,res,⟨nd,B,V⟩,⟨S,hS,Q⟩,sco⟩:=A;obtain⟨r,h1,e1,p1,V1,u1⟩:=V.set (T:=Fp.no) (x:=y) (show Ef.nd.has h Fp.no y.cells y from rfl) Fp.not_no (kbd hi);have u1:Upd h h1 p.n:=u1;have e1:idx nd.ref nodes.length (i:Int) 7=some r:=e1;rw[← V.len]at e1;refine⟨nd,r,h1,B,e1,p1,u1,ok,cfg.updr ok.cn u1,res.updr ok.rn u1,⟨nd,B.updr ok.tn u1,V1.mono (fun j x=>x.elim id id) Fp.not_no⟩,⟨S,hS,Q.md (u1.md (T:=fun j=>j=p.n) rfl) (fun j a e=>hS j a (by subst e;simp[Pl.all])) ok.nk.symm ok.qn⟩,sco.upd u1 Fp.not_no fun k e=>by cases e;exact ok.sn⟩
theorem k54(T0:Tab h)(A:GrAt c z scs p q nodes sc h){b18 b26:Nat}(n18:¬p.all b18)(B18:h.has b18 [.int .i64 (x.place:Int),.int .i64 (x.deep:Int),.int .i64 (z:Int),y.v] T.kbg)(B26:h.has b26 [.int .i64 (sumR g x.rows).1,.int .i64 (sumR g x.rows).2] T.kbe)(By:BitsAt h Sy z y x.rows)(hSy:∀m,Sy m→¬p.all m)(hpl:x.place<nodes.length)(hscl:sc.length=z)(hz:z≤256)(hsb:sb.len=0){P:AV→AH→Prop}
  (hP:∀h',Md p.ch h h'→GrAt c z scs p q (nodes.set x.place (leafN (kf1 c (sumR g x.rows)))) (addS (kf1 c (sumR g x.rows)) x.rows sc) h'→Runs (go (.pt F.kbt Td.kfk [(1,tsl.v),(2,gs.v),(3,scs.v),(4,.ptr (some (.new p.c 0))),(8,.ptr (some (.new p.r 0))),(11,.ptr (some (.new p.t 0))),(12,.ptr (some (.new p.q 0)))]) h') P) :
  Runs (go (.pt F.kbt Td.kg5 [(1,tsl.v),(2,gs.v),(3,scs.v),(4,.ptr (some (.new p.c 0))),(8,.ptr (some (.new p.r 0))),(11,.ptr (some (.new p.t 0))),(12,.ptr (some (.new p.q 0))),(13,.ptr (some (.new b18 0))),(14,.ptr (some (.new b26 0))),(15,sb.v),(16,l.v)]) h) P:=by
 have hsub:=By.lt;rw[kqw,hsb];have C:=A.cfg;refine Runs.ifT rfl ?_;refine Runs.step (C.rd 0 rfl (ke _ _)) (Runs.step (C.rd 1 rfl (ke _ _)) (Runs.step (C.rd 2 rfl (ke _ _)) (Runs.step (C.rd 3 rfl (ke _ _)) (Runs.step (C.rd 4 rfl (ke _ _)) (Runs.step (C.rd 5 rfl (ke _ _)) (Runs.step (C.rd 6 rfl (ke _ _)) (Runs.step (C.rd 7 rfl (ke _ _)) (Runs.step (B26.rd 0 rfl (ke _ _)) (Runs.step (B26.rd 1 rfl (ke _ _)) ?_)))))))));refine(k1k c (sumR g x.rows)).call fun v h1 ⟨⟨e,he⟩,g1⟩=>?_;subst he;refine Runs.step rfl (Runs.step (seen (ke _ _)) (Runs.step (seen (ke _ _)) ?_));dsimp only;have A1:=A.grow g1;obtain⟨nd,r,h2,Bt,e1,p2,u2,A2⟩:=A1.setn hpl (leafN (kf1 c (sumR g x.rows)));refine Runs.step (Bt.rd 0 rfl (asSl_v _)) (Runs.step ((g1.has B18).rd 0 rfl (ke _ _)) (Runs.step e1 (Runs.step p2 ?_)));have n18n:b18≠p.n:=fun e=>n18 (by subst e;simp[Pl.all]);have B18':=(g1.has B18).updr n18n u2;refine Runs.step (B18'.rd 2 rfl (ke _ _)) (Runs.step (B18'.rd 3 rfl (asSl_v _)) ?_);have By2:=(By.grow g1).upd (fun x=>hSy _ x (by simp[Pl.all])) u2;obtain⟨w,N,a,rr,ll⟩:=By2;have T2:Tab h2:=(T0.grow g1).md (u2.md (T:=fun j=>j=p.n) rfl);refine(kr7 (n:=(z:Int)) T2 N).call fun v h3 ⟨g3,xl,j,e,lj,X⟩=>?_;subst e;rw[ll]at X;refine Runs.step (seen (asSl_v _)) ?_;rw[X.len,zs_len];have hlen:x.rows.length≤z:=by have:=hsub.length_le;rwa[List.length_range]at this
 have A3:=A2.grow g3;have hs:=A2.lt p.s (by simp[Pl.all]);refine k8y (sc:=sc) (fun i hi=>by rw[hscl];exact List.mem_range.1 (hsub.subset hi)) (by omega) x.rows.length 0 (by omega) h3 sc ⟨_,?_,X.sq⟩ rfl A3 rfl fun h' m A'=>hP h' ?_ A'
 ·rintro (k | k)
  ·have:=opt_ge lj k;omega
  ·exact k
 ·exact((g1.md _).trans ((u2.md (T:=p.ch) (by simp[Pl.ch])).thenG g3)).trans (m.mono fun j _ e=>by subst e;simp[Pl.ch])
end
end Go.Ab

/- squeezed -/
set_option maxRecDepth 10000
namespace Go.Ab
open Go.Proofs Go.Num Go.Heap
theorem k9r{z:Nat}{w R:List Nat}(r:btR (z:Int) w=true)(l:btL (z:Int) w=R){i:Nat}(hi:i<z):wbit w i=decide (i∈R):=by
 rw[← l];unfold btL;rw[r,if_pos rfl,Int.toNat_natCast,Bool.eq_iff_iff,decide_eq_true_eq,List.mem_filter,List.mem_range];exact⟨fun h=>⟨hi,h⟩,fun h=>h.2⟩
section
variable{c:Cfg}{z:Nat}{scs gs tsl y sb l:Sl}{p:Pl}{q:List Wt}{nodes:List Nd}{sc g:List Int}{ts:List Tb}{h:AH}{Sy Sl' Sb:Fp}{x:Wt}{b:Int}{bs:List Int}
theorem Sq.spr{L:List SpR}(n:Sq (Ef.spr z) h Sl' l L){i:Nat}(hi:i<L.length):∃(r:Ref)(y:Sl),idx l.ref l.len (i:Int) 9=some r∧(h.cell (r.add 0)).bind AV.asBool=some false∧(h.cell (r.add 1)).bind (AV.asInt .i64)=some 0∧(h.cell (r.add 2)).bind (AV.asInt .i64)=some (L[i].spl.1:Int)∧(h.cell (r.add 3)).bind (AV.asInt .i64)=some (L[i].spl.2.1:Int)∧(h.cell (r.add 4)).bind (AV.asInt .i64)=some (L[i].spl.2.2:Int)∧(h.cell (r.add 5)).bind (AV.asInt .i64)=some 0∧(h.cell (r.add 6)).bind (AV.asInt .i64)=some 0∧(h.cell (r.add 7)).bind (AV.asInt .i64)=some (z:Int)∧(h.cell (r.add 8)).bind AV.asSl=some y∧BitsAt h Sl' z y L[i].rows:=by
 obtain⟨r,cs,e1,⟨y,rfl,B⟩,k⟩:=n.at (keq hi);rw[n.len];have g:=Grow.refl h;exact⟨r,y,e1,k.rd g 0 rfl rfl,k.rd g 1 rfl (ke _ _),k.rd g 2 rfl (ke _ _),k.rd g 3 rfl (ke _ _),k.rd g 4 rfl (ke _ _),k.rd g 5 rfl (ke _ _),k.rd g 6 rfl (ke _ _),k.rd g 7 rfl (ke _ _),k.rd g 8 rfl (asSl_v _),B⟩
theorem k3w(T0:Tab h)(A:GrAt c z scs p q nodes sc h){b18 b26:Nat}(n18:¬p.all b18)(B18:h.has b18 [.int .i64 (x.place:Int),.int .i64 (x.deep:Int),.int .i64 (z:Int),y.v] T.kbg)(By:BitsAt h Sy z y x.rows)(hSy:∀m,Sy m→¬p.all m)(hpl:x.place<nodes.length)(hn:nodes.length≤63)(hq:q.length≤64)(hdeep:x.deep≤64)(hz:z≤256)(hqp:∀w∈q,w.place<nodes.length)(hsb:Sq (Ef.int .i64) h Sb sb (b::bs)){L:List SpR}(hL:Sq (Ef.spr z) h Sl' l L)(hSl:∀m,Sl' m→¬p.all m){j:Nat}(hb:b=(j:Int))(hj:j<L.length)(hrow:L[j].rows=x.rows.filter (leftS ts L[j].spl)){P:AV→AH→Prop}
  (hP:∀(h':AH)(p':Pl),p'.c=p.c→p'.r=p.r→p'.t=p.t→p'.q=p.q→p'.s=p.s→Md p.ch h h'→(p'.n=p.n∨h.blks.size≤p'.n)→(p'.k=p.k∨h.blks.size≤p'.k)→GrAt c z scs p' (q++kidsS ts x L[j].spl nodes.length) (nodes.set x.place (splitN L[j].spl nodes.length (nodes.length+1))++[Nd.no,Nd.no]) sc h'→Runs (go (.pt F.kbt Td.kfk [(1,tsl.v),(2,gs.v),(3,scs.v),(4,.ptr (some (.new p.c 0))),(8,.ptr (some (.new p.r 0))),(11,.ptr (some (.new p.t 0))),(12,.ptr (some (.new p.q 0)))]) h') P) :
  Runs (go (.pt F.kbt Td.kg5 [(1,tsl.v),(2,gs.v),(3,scs.v),(4,.ptr (some (.new p.c 0))),(8,.ptr (some (.new p.r 0))),(11,.ptr (some (.new p.t 0))),(12,.ptr (some (.new p.q 0))),(13,.ptr (some (.new b18 0))),(14,.ptr (some (.new b26 0))),(15,sb.v),(16,l.v)]) h) P:=by
 have hsub:=By.lt;have hlt:=A.lt;have B18lt:=B18.lt;rw[kqw];have ln:sb.len=bs.length+1:=hsb.len;have hsh:=hsb.short;refine Runs.ifF (decide_eq_false (by omega)) ?_;obtain⟨r1,e1,e2⟩:=hsb.int (i:=0) (by simp);have e2':(h.cell r1).bind (AV.asInt .i64)=some (j:Int):=by rw[e2];simp[hb]
 obtain⟨r2,y2,e3,a0,a1,a2,a3,a4,a5,a6,a7,a8,B2⟩:=hL.spr hj;refine Runs.step e1 (Runs.step e2' (Runs.step e3 (Runs.step a0 (Runs.step a1 (Runs.step a2 (Runs.step a3 (Runs.step a4 (Runs.step a5 (Runs.step a6 (Runs.step a7 (Runs.step a8 ?_)))))))))));generalize hs:L[j].spl=s at *
 rw[hrow]at B2;refine Runs.new fun h1 b1 g1=>Runs.puts b1 rfl fun h2 b2 u2=>?_;have g02:Grow h h2:=g1.updr (Nat.le_refl _) u2;refine Runs.step (b2.rd 0 rfl rfl) (Runs.step (b2.rd 1 rfl (ke _ _)) (Runs.step (b2.rd 2 rfl (ke _ _)) (Runs.step (b2.rd 3 rfl (ke _ _)) (Runs.step (b2.rd 4 rfl (ke _ _)) (Runs.step (b2.rd 5 rfl (ke _ _)) (Runs.step (b2.rd 6 rfl (ke _ _)) ?_))))));refine Runs.new fun h3 b3 g3=>Runs.puts b3 rfl fun h4 b4 u4=>?_;have g24:Grow h2 h4:=g3.updr (Nat.le_refl _) u4;have g04:=g02.trans g24;have z2:=b2.lt;have z4:=b4.lt;have A4:=A.grow g04;obtain⟨nd,Bt,V⟩:=A4.tree;have lnd:nd.len=nodes.length:=V.len;refine Runs.step (Bt.rd 0 rfl (asSl_v _)) (Runs.step (Bt.rd 0 rfl (asSl_v _)) ?_);rw[lnd];have nall:∀{m:Nat},h.blks.size≤m→¬p.all m:=fun hm a=>by have:=hlt _ a;omega
 have tne:p.t≠h2.blks.size:=fun e=>by have:=hlt p.t (by simp[Pl.all]);have:=g02.size;omega
 refine Runs.putAt (o:=5) b4 (by simp) rfl fun h5 b5 u5=>?_;have Bt5:=Bt.updr tne u5;refine Runs.when (ktj Bt Bt5 0 1) ?_;rw[ks (by omega)];refine Runs.putAt (o:=6) b5 (by simp) rfl fun h6 b6 u6=>?_;have g46:Grow h2 h6:=((g3.updr (Nat.le_refl _) u4).updr (Nat.le_refl _) u5).updr (Nat.le_refl _) u6;have g06:=g02.trans g46;have A6:=A.grow g06;have B18':=g06.has B18;obtain⟨nd6,r6,h7,Bt6,e6,p7,u7,A7⟩:=A6.setn hpl (splitN s nodes.length (nodes.length+1));refine Runs.step (Bt6.rd 0 rfl (asSl_v _)) (Runs.step (B18'.rd 0 rfl (ke _ _)) (Runs.step (b6.rd 0 rfl rfl) (Runs.step (b6.rd 1 rfl (ke _ _)) (Runs.step (b6.rd 2 rfl (ke _ _)) (Runs.step (b6.rd 3 rfl (ke _ _)) (Runs.step (b6.rd 4 rfl (ke _ _)) (Runs.step (b6.rd 5 rfl (ke _ _)) (Runs.step (b6.rd 6 rfl (ke _ _)) (Runs.step e6 (Runs.step p7 ?_))))))))));have z6:=b6.lt;have z06:=g06.size;have z02:=g02.size;have nlt:=hlt p.n (by simp[Pl.all]);have b2':h7.has h.blks.size _ T.kd6:=(g46.has b2).updr (by omega) u7;have b6':h7.has h2.blks.size _ T.kbj:=b6.updr (by omega) u7;have B18'':=B18'.updr (fun e=>n18 (by subst e;simp[Pl.all])) u7;have m07:Md p.ch h h7:=(g06.md _).trans (u7.md (by simp[Pl.ch]));have By7:BitsAt h7 (fun j=>Sy j∧j<h.blks.size) z y x.rows:=(By.bound.grow g06).upd (fun k=>hSy _ k.1 (by simp[Pl.all])) u7;have B27:BitsAt h7 (fun j=>Sl' j∧j<h.blks.size) z y2 (x.rows.filter (leftS ts s)):=(B2.bound.grow g06).upd (fun k=>hSl _ k.1 (by simp[Pl.all])) u7;obtain⟨ok7,cfg7,res7,⟨nd7,Bt7,V7⟩,⟨S70,hS70,Q70⟩,sco7⟩:=A7
 obtain⟨S7,hS7,hS7b,Q7⟩:∃S:Fp,(∀m,S m→¬p.all m)∧(∀m,S m→m<h7.blks.size)∧QAt z p.q S q p.k h7:=by
  obtain⟨a,b,s',Bq,Vq⟩:=Q70;exact⟨fun j=>S70 j∧j<h7.blks.size,fun m k=>hS70 m k.1,fun m k=>k.2,a,fun k=>b k.1,s',Bq,Vq.bound⟩
 refine Runs.step (Bt7.rd 0 rfl (asSl_v _)) (Runs.new fun h8 b8 g8=>?_);refine Runs.step (kfh (n:=2) b8 (by rw[kpb];rfl)) ?_;have hset:(nodes.set x.place (splitN s nodes.length (nodes.length+1))).length=nodes.length:=List.length_set;obtain⟨nd9,h9,e9,V9,u9⟩:=(V7.grow g8).pushs (T:=Fp.no) (rows':=[Nd.no.cells,Nd.no.cells]) (ys:=[Nd.no,Nd.no]) (n:=2) (.cons rfl (.cons rfl .nil)) rfl (by decide) NotO.no (k4c (by omega));refine Runs.step e9 (Runs.step (asSl_v _) ?_);dsimp only;have u9:Upd h8 h9 p.n:=u9;have Bt9:=(g8.has Bt7).updr ok7.tn u9;refine Runs.putAt (o:=0) (cs':=[nd9.v]) Bt9 (by simp) rfl fun h10 B10 u10=>?_;have z7:=u7.size;have z8:=g8.size;have z9:=u9.size;have z10:=u10.size;have m710:Md (fun j=>j=p.n∨j=p.t) h7 h10:=((g8.md _).trans (u9.md (.inl rfl))).trans (u10.md (.inr rfl));have tlt:=hlt p.t (by simp[Pl.all]);have nold:∀{m:Nat},h.blks.size≤m→¬(m=p.n∨m=p.t):=fun hm a=>by omega
 have b2'':=m710.has b2' (nold (Nat.le_refl _));have b6'':=m710.has b6' (nold (by omega));have B18x:=m710.has B18'' fun e=>n18 (by rcases e with rfl | rfl<;>simp[Pl.all]);have By10:=By7.md m710 fun j a e=>hSy j a.1 (by rcases e with rfl | rfl<;>simp[Pl.all]);have B210:=B27.md m710 fun j a e=>hSl j a.1 (by rcases e with rfl | rfl<;>simp[Pl.all]);have m010:Md p.ch h h10:=m07.trans (m710.mono fun j _ e=>by rcases e with rfl | rfl<;>simp[Pl.ch]);have V10:GF Ef.nd T.kbj h10 Fp.no nd9 (some h8.blks.size) (nodes.set x.place (splitN s nodes.length (nodes.length+1))++[Nd.no,Nd.no]):=(V9.mono (fun j k=>k.1.elim id id) Fp.not_no).upd u10 Fp.not_no fun k e=>by cases e;omega
 refine Runs.step (B18x.rd 2 rfl (ke _ _)) (Runs.step (B18x.rd 3 rfl (asSl_v _)) (Runs.step (b2''.rd 7 rfl (ke _ _)) (Runs.step (b2''.rd 8 rfl (asSl_v _)) ?_)));have By10':=By10;obtain⟨wy,Ny,ay,ry,ly⟩:=By10';have B210':=B210;obtain⟨w2,N2,ax2,rr2,l2⟩:=B210';refine(kzr Ny N2 ry rr2).call fun v h11 pp=>?_;obtain⟨g11,y3,er,T3,e,B3,hT3,o3⟩:=pp.bits;subst e
 have hrows:((btL (z:Int) wy).filter fun i=>!wbit w2 i)=x.rows.filter fun i=>!leftS ts s i:=by
  rw[ly];apply List.filter_congr;intro i hi;rw[k9r rr2 l2 (List.mem_range.1 (hsub.subset hi))];congr 1;rw[Bool.eq_iff_iff,decide_eq_true_eq,List.mem_filter];exact⟨fun h=>h.2,fun h=>⟨hi,h⟩⟩
 rw[hrows]at B3;refine Runs.step rfl (Runs.step rfl (Runs.ifT rfl (Runs.step rfl (Runs.step (seenAt rfl (asSl_v _)) (Runs.step rfl ?_)))));dsimp only;refine Runs.new fun h12 b12 g12=>Runs.puts b12 rfl fun h13 b13 u13=>?_;have g1113:Grow h11 h13:=g12.updr (Nat.le_refl _) u13;have g1013:=g11.trans g1113;have b2x:=g1013.has b2'';have b6x:=g1013.has b6'';have B18y:=g1013.has B18x;refine Runs.step (b6x.rd 5 rfl (ke _ _)) (Runs.step (B18y.rd 1 rfl (ke _ _)) (Runs.step (b2x.rd 7 rfl (ke _ _)) (Runs.step (b2x.rd 8 rfl (asSl_v _)) ?_)));rw[ks (i:=x.deep) (by omega)];have z11:=g11.size;have z13:=b13.lt;have klt:=hlt p.k (by simp[Pl.all]);have qlt:=hlt p.q (by simp[Pl.all]);have Q13:QAt z p.q S7 q p.k h13:=(Q7.md m710 (fun j a e=>hS7 j a (by rcases e with rfl | rfl<;>simp[Pl.all])) (by rintro (e | e);exact ok7.nk e.symm;exact ok7.tk e.symm) (by rintro (e | e);exact ok7.qn e;exact ok7.tq e.symm)).grow g1013
 have Q13:QAt z p.q (fun j=>S7 j∧j<h13.blks.size) q p.k h13:=by
  obtain⟨a,b,s',Bq,Vq⟩:=Q13;exact⟨a,fun k=>b k.1,s',Bq,Vq.bound⟩
 have B213:=B210.grow g1013;have By13:=By10.grow g1013;refine(ks2 Q13 (by omega) (x:=⟨nodes.length,x.deep+1,x.rows.filter (leftS ts s)⟩) B213 (fun k=>hSl _ k.1 (by simp[Pl.all])) (fun k=>hSl _ k.1 (by simp[Pl.all])) (fun w hw=>by have:=hqp w hw;unfold keyW;show(w.place:Int)≤(nodes.length:Int);omega)).call fun v h14 ⟨e,S14,k14,hS14,Q14,m14,hk14⟩=>?_;subst e;refine Runs.step rfl ?_;have nold2:∀{m:Nat},h.blks.size≤m→¬(m=p.k∨m=p.q):=fun hm a=>by omega
 have b6y:=m14.has b6x (nold2 (by omega));have B18z:=m14.has B18y fun e=>n18 (by rcases e with rfl | rfl<;>simp[Pl.all]);have b13':=m14.has b13 (nold2 (by omega));refine Runs.step (b6y.rd 6 rfl (ke _ _)) (Runs.step (B18z.rd 1 rfl (ke _ _)) (Runs.step (b13'.rd 0 rfl (ke _ _)) (Runs.step (b13'.rd 1 rfl (asSl_v _)) ?_)));rw[ks (i:=x.deep) (by omega)];have hT3':∀m,T3 m→h10.blks.size≤m:=hT3;have B3':BitsAt h13 (fun j=>T3 j∧j<h13.blks.size) z y3 (x.rows.filter fun i=>!leftS ts s i):=(B3.grow g1113).bound;have B314:=B3'.md m14 fun j a e=>by have:=hT3' j a.1;rcases e with rfl | rfl<;>omega
 have z14:=m14.size
 refine(ks2 Q14 (by rw[List.length_append];simp;omega) (x:=⟨nodes.length+1,x.deep+1,x.rows.filter fun i=>!leftS ts s i⟩) B314 (fun k=>by
  have:=hT3' _ k.1;rcases hk14 with e | e
  ·omega
  ·have:=k.2;omega) (fun k=>by have:=hT3' _ k.1;omega) (fun w hw=>by
  unfold keyW;show(w.place:Int)≤((nodes.length+1:Nat):Int);rcases List.mem_append.1 hw with hw | hw
  ·have:=hqp w hw;omega
  ·rw[List.mem_singleton.1 hw];show(nodes.length:Int)≤_;omega)).call fun v h15 ⟨e,S15,k15,hS15,Q15,m15,hk15⟩=>?_
 subst e;refine Runs.step rfl ?_;rw[List.append_assoc]at Q15;have hk14s:k14=p.k∨h13.blks.size≤k14:=hk14;have hk15s:k15=k14∨h14.blks.size≤k15:=hk15
 have hk:k15=p.k∨h13.blks.size≤k15:=by
  rcases hk15s with e | e
  ·rw[e];exact hk14s
  ·exact .inr (by omega)
 have q14lt:=Q14.lt.1
 have m1315:Md (fun j=>j=p.k∨j=p.q) h13 h15:=m14.next m15 fun j hj e=>by
  rcases e with rfl | rfl
  ·rcases hk14s with e | e
   ·exact .inl e
   ·omega
  ·exact .inr rfl
 have m1015:Md (fun j=>j=p.k∨j=p.q) h10 h15:=(g1013.md _).trans m1315;have clt:=hlt p.c (by simp[Pl.all]);have rlt:=hlt p.r (by simp[Pl.all]);have slt:=hlt p.s (by simp[Pl.all])
 have hok:Pl.ok ⟨p.c,p.r,p.t,p.q,p.s,h8.blks.size,k15⟩:=by
  obtain⟨o1,o2,o3',o4,o5,o6,o7,o8,o9,o10,o11,o12,o13,o14,o15,o16,o17,o18,o19,o20,o21⟩:=ok7
  have kk:∀{m:Nat},m<h.blks.size→m≠p.k→m≠k15:=fun h1 h2 e=>by
   rcases hk with e2 | e2
   ·exact h2 (e.trans e2)
   ·omega
  refine⟨o1,o2,o3',o4,by show p.c≠h8.blks.size;omega,kk clt o6,o7,o8,o9,by show p.r≠h8.blks.size;omega,kk rlt o11,o12,o13,by show p.t≠h8.blks.size;omega,kk tlt o15,o16,by show p.q≠h8.blks.size;omega,kk qlt o18,by show p.s≠h8.blks.size;omega,kk slt o20,?_⟩;show h8.blks.size≠k15;have:=V10.lt;have:h8.blks.size<h10.blks.size:=this;rcases hk with e2 | e2<;>omega
 have n8:h8.blks.size<h10.blks.size:=V10.lt;refine hP h15 ⟨p.c,p.r,p.t,p.q,p.s,h8.blks.size,k15⟩ rfl rfl rfl rfl rfl ?_ (.inr (by show h.blks.size≤h8.blks.size;omega)) (by rcases hk with e | e;exact .inl e;exact .inr (by show h.blks.size≤k15;omega)) ⟨hok,?_,?_,⟨nd9,?_,?_⟩,⟨S15,?_,Q15⟩,?_⟩
 ·exact m010.trans (m1015.mono fun j _ e=>by rcases e with rfl | rfl<;>simp[Pl.ch])
 ·exact m1015.has (m710.has cfg7 (by rintro (e | e);exact ok7.cn e;exact ok7.ct e)) (by rintro (e | e);exact ok7.ck e;exact ok7.cq e)
 ·exact m1015.has (m710.has res7 (by rintro (e | e);exact ok7.rn e;exact ok7.rt e)) (by rintro (e | e);exact ok7.rk e;exact ok7.rq e)
 ·exact m1015.has B10 (by rintro (e | e);exact ok7.tk e;exact ok7.tq e)
 ·have V15:GF Ef.nd T.kbj h15 Fp.no nd9 (some h8.blks.size) (nodes.set x.place (splitN s nodes.length (nodes.length+1))++[Nd.no,Nd.no]):=GF.md m1015 (S:=Fp.no) (fun j a _=>a) V10 fun k e x=>by cases e;rcases x with e | e<;>omega
  exact V15
 ·intro m hm;have hb15:=Q15.2.1;obtain⟨-,-,s15,-,V15⟩:=Q15;have hn15:=V15.not
  have src:(S7 m∧m<h13.blks.size)∨(Sl' m∧m<h.blks.size)∨(T3 m∧m<h13.blks.size):=by
   rcases hS15 m hm with a | a
   ·rcases hS14 m a with a | a
    ·exact .inl a
    ·exact .inr (.inl a)
   ·exact .inr (.inr a)
  have nal:∀j,p.all j→j≠p.n→j≠p.k→m≠j:=fun j hj h1 h2 e=>by
   subst e;rcases src with a | a | a
   ·exact hS7 _ a.1 hj
   ·exact hSl _ a.1 hj
   ·have:=hT3' _ a.1;have:=hlt _ hj;omega
  rintro (e | e | e | e | e | e | e)
  ·exact nal p.c (by simp[Pl.all]) ok7.cn ok7.ck e
  ·exact nal p.r (by simp[Pl.all]) ok7.rn ok7.rk e
  ·exact nal p.t (by simp[Pl.all]) ok7.tn ok7.tk e
  ·exact nal p.q (by simp[Pl.all]) ok7.qn ok7.qk e
  ·exact nal p.s (by simp[Pl.all]) ok7.sn ok7.sk e
  ·have e:m=h8.blks.size:=e;subst e;rcases src with a | a | a
   ·have:=hS7b _ a.1;omega
   ·have:=a.2;omega
   ·have:=hT3' _ a.1;omega
  ·have e:m=k15:=e;subst e;exact hn15 hm
 ·exact GF.md m1015 (S:=Fp.no) (fun j a _=>a) (GF.md m710 (S:=Fp.no) (fun j a _=>a) sco7 fun k e x=>by cases e;rcases x with e | e;exact ok7.sn e;exact ok7.ts e.symm) fun k e x=>by cases e;rcases x with e | e;exact ok7.sk e;exact ok7.qs e.symm
end
end Go.Ab

/- squeezed -/
set_option maxRecDepth 10000
namespace Go.Ab
open Go.Proofs Go.Num Go.Heap
def GrowP(c:Cfg)(scs:Sl)(js:Nat)(hE:AH)(r:List Nd×List Int)(v:AV)(h':AH):Prop:=∃(nd:Sl)(jn:Nat),v=.agg [nd.v]∧hE.blks.size≤jn∧GF Ef.nd T.kbj h' Fp.no nd (some jn) r.1∧GF EI T.int h' Fp.no scs (some js) r.2∧Md (fun j=>j=js) hE h'
section
variable{c:Cfg}{z D:Nat}{scs gs tsl:Sl}{g:List Int}{ts:List Tb}{hE:AH}{St Sg:Fp}
theorem k0y(T0:Tab hE)(hc:c.right=true)(hD:c.depth=(D:Int))(Q:Sq EI hE Sg gs g)(Qt:Sq Ef.tb hE St tsl ts){js:Nat}(hjs:js<hE.blks.size)(nSg:¬Sg js)(nSt:¬St js)(hg:g.length=z)(hz2:z≤256)(hp16:ts.length≤16)(hts:∀(p:Nat)(hp:p<ts.length),tabR ts[p]=true∧ts[p].ids.length=z) :
  ∀(n:Nat)(W q:List Wt)(nodes:List Nd)(sc:List Int)(p:Pl)(h:AH),GrowOk D n z W nodes→q.Perm W→IsHeap keyW q.length q→sc.length=z→GrAt c z scs p q nodes sc h→Md (fun j=>j=js) hE h→p.s=js→hE.blks.size≤p.c→hE.blks.size≤p.r→hE.blks.size≤p.t→hE.blks.size≤p.q→hE.blks.size≤p.n→hE.blks.size≤p.k→
  Runs (go (.pt F.kbt Td.kfk [(1,tsl.v),(2,gs.v),(3,scs.v),(4,.ptr (some (.new p.c 0))),(8,.ptr (some (.new p.r 0))),(11,.ptr (some (.new p.t 0))),(12,.ptr (some (.new p.q 0)))]) h) (GrowP c scs js hE (growS c ts g n W nodes sc)):=by
 intro n
 induction n with
 | zero =>
  intro W q nodes sc p h ok hp hh hsc A M hs g1 g2 g3 g4 g5 g6
  have hW:W=[]:=by
   have:=muW_le ok.deep;have:=ok.mu;exact List.length_eq_zero_iff.1 (by omega)
  subst hW;obtain rfl:=hp.eq_nil;obtain⟨S,hS,-,-,s,Bq,Vq⟩:=A.que;rw[kvk];refine Runs.step (Bq.rd0 rfl (asSl_v _)) (Runs.step (kko _ _) (Runs.step (seen rfl) ?_));dsimp only;have ln:s.len=0:=Vq.sq.len;rw[ln];refine Runs.ifF rfl ?_;obtain⟨nd,Bt,V⟩:=A.tree;refine Runs.step (Bt.rd 0 rfl (asSl_v _)) (Runs.puts A.res rfl fun h1 B1 u1=>?_);have nr:p.n≠p.r:=A.ok.rn.symm;have sr:p.s≠p.r:=A.ok.rs.symm;refine Runs.step (B1.rd 0 rfl (asSl_v _)) (Runs.ret ⟨nd,p.n,rfl,g5,V.upd u1 Fp.not_no fun k e=>by cases e;exact nr,?_,M.next (u1.md (T:=fun j=>j=p.r) rfl) fun j hj e=>by omega⟩);subst hs;exact A.sco.upd u1 Fp.not_no fun k e=>by cases e;exact sr
 | succ n ih =>
  intro W q nodes sc p h ok hp hh hsc A M hs g1 g2 g3 g4 g5 g6;have hw63:=ok.nodes63 (by have:=Cfg.right_depth hc;omega);obtain⟨S,hS,Qq⟩:=A.que;have Qq':=Qq;obtain⟨hkq,hbq,s,Bq,Vq⟩:=Qq';have ln:s.len=q.length:=Vq.sq.len;have hql:q.length=W.length:=hp.length_eq;rw[kvk];refine Runs.step (Bq.rd0 rfl (asSl_v _)) (Runs.step (kko _ _) (Runs.step (seen rfl) ?_));dsimp only;rw[ln];cases W with
  | nil =>
   obtain rfl:=hp.eq_nil;refine Runs.ifF rfl ?_;obtain⟨nd,Bt,V⟩:=A.tree;refine Runs.step (Bt.rd 0 rfl (asSl_v _)) (Runs.puts A.res rfl fun h1 B1 u1=>?_);have nr:p.n≠p.r:=A.ok.rn.symm;have sr:p.s≠p.r:=A.ok.rs.symm;refine Runs.step (B1.rd 0 rfl (asSl_v _)) (Runs.ret ⟨nd,p.n,rfl,g5,V.upd u1 Fp.not_no fun k e=>by cases e;exact nr,?_,M.next (u1.md (T:=fun j=>j=p.r) rfl) fun j hj e=>by omega⟩);subst hs;exact A.sco.upd u1 Fp.not_no fun k e=>by cases e;exact sr
  | cons x W =>
   have hWl:=muW_le ok.deep;have hpl:=ok.first
   have hlW:(x::W).length≤63:=by
    have h1:=ok.size;have h2:=Cfg.right_depth hc;have h3:2^(D+1)≤2^6:=Nat.pow_le_pow_right (by decide) (by omega);have h4:=ok.place 0 (by simp);simp only[List.getElem_cons_zero]at h4;omega
   obtain⟨e0,ex,pp,hh'⟩:=k8o keyW hh (x:=x) (W:=W) (fun y hy=>by have:=ok.least y hy;unfold keyW;omega) hp;refine Runs.ifT (decide_eq_true (by simp at hql;omega)) ?_;refine(k2y Qq (by simp at hql;omega) (by omega) ex).call fun v h1 ⟨y,e,By,Q1,m1⟩=>?_;subst e;have hdl:=ok.deep x (by simp);have hd5:=Cfg.right_depth hc;have hsub:=ok.rows x (by simp);refine Runs.step rfl (Runs.ifT rfl (Runs.step rfl (Runs.ifT rfl (Runs.step rfl (Runs.step rfl (Runs.step rfl (Runs.step (seenAt rfl (asSl_v _)) ?_)))))))
   have A1:GrAt c z scs p (popL keyW q) nodes sc h1:=by
    obtain⟨o,cfg,res,⟨nd,Bt,V⟩,-,sco⟩:=A;exact⟨o,m1.has cfg (by rintro (e | e);exact o.ck e;exact o.cq e),m1.has res (by rintro (e | e);exact o.rk e;exact o.rq e),⟨nd,m1.has Bt (by rintro (e | e);exact o.tk e;exact o.tq e),GF.md m1 (S:=Fp.no) (fun j a _=>a) V fun k e x=>by cases e;rcases x with e | e;exact o.nk e;exact o.qn e.symm⟩,⟨S,hS,Q1⟩,GF.md m1 (S:=Fp.no) (fun j a _=>a) sco fun k e x=>by cases e;rcases x with e | e;exact o.sk e;exact o.qs e.symm⟩
   have M1:Md (fun j=>j=js) hE h1:=M.next m1 fun j hj e=>by rcases e with rfl | rfl<;>omega
   have hl1:=A1.lt;have hz1:=M1.size;refine Runs.new fun h2 b2 g12=>Runs.puts b2 rfl fun h3 b3 u3=>?_;have G13:Grow h1 h3:=g12.updr (Nat.le_refl _) u3;refine Runs.step (b3.rd 2 rfl (ke _ _)) (Runs.step (b3.rd 3 rfl (asSl_v _)) ?_);have dg:∀{T:Fp},(∀j,T j→j=js∨hE.blks.size≤j)→True:=fun _=>trivial;have Q3:Sq EI h3 Sg gs g:=(Q.md M1 fun j a e=>nSg (e▸a)).grow G13;have Qt3:Sq Ef.tb h3 St tsl ts:=(Qt.md M1 fun j a e=>nSt (e▸a)).grow G13;have T3:Tab h3:=(T0.md M1).grow G13;refine(ku5 T3 Q3 (By.grow G13) (by omega) (by omega)).call fun v h4 ⟨e,g34⟩=>?_;subst e;refine Runs.step rfl (Runs.ifT rfl (Runs.step rfl (Runs.step rfl ?_)));refine Runs.new fun h5 b5 g45=>Runs.puts b5 rfl fun h6 b6 u6=>?_;have G46:Grow h4 h6:=g45.updr (Nat.le_refl _) u6;have G36:Grow h3 h6:=g34.trans G46;have G16:Grow h1 h6:=G13.trans G36;have B18:=G36.has b3;have A6:=A1.grow G16;refine Runs.step (B18.rd 1 rfl (ke _ _)) (Runs.step (A6.cfg.rd 1 rfl (ke _ _)) ?_);have n18:¬p.all h1.blks.size:=fun a=>by have:=hl1 _ a;omega
   have By6:=(By.grow G16);have M6:Md (fun j=>j=js) hE h6:=M1.thenG G16;have least:=ok.least
   have leafCase:∀{sb l:Sl}{h7:AH}{b26:Nat},Grow h6 h7→h7.has b26 [.int .i64 (sumR g x.rows).1,.int .i64 (sumR g x.rows).2] T.kbe→bestS c ts g x=[]→sb.len=0→Runs (go (.pt F.kbt Td.kg5 [(1,tsl.v),(2,gs.v),(3,scs.v),(4,.ptr (some (.new p.c 0))),(8,.ptr (some (.new p.r 0))),(11,.ptr (some (.new p.t 0))),(12,.ptr (some (.new p.q 0))),(13,.ptr (some (.new h1.blks.size 0))),(14,.ptr (some (.new b26 0))),(15,sb.v),(16,l.v)]) h7) (GrowP c scs js hE (growS c ts g (n+1) (x::W) nodes sc)):=by
    intro sb l h7 b26 G67 B26 hbest hsb;have A7:=A6.grow G67;refine k54 ((T0.md M6).grow G67) A7 n18 (G67.has B18) B26 (By6.grow G67) hS hpl hsc (by omega) hsb fun h' m A'=>?_
    have:growS c ts g (n+1) (x::W) nodes sc=growS c ts g n W (nodes.set x.place (leafN (kf1 c (sumR g x.rows)))) (addS (kf1 c (sumR g x.rows)) x.rows sc):=by
     rw[growS,hbest]
    rw[this];refine ih W (popL keyW q) _ _ p h' (ok.leaf _) pp hh' (by rw[ko8];exact hsc) A' ((M6.thenG G67).next m fun j hj e=>?_) hs g1 g2 g3 g4 g5 g6;rcases e with rfl | rfl | rfl | rfl | rfl | rfl<;>omega
   refine Runs.cond (fun hdp=>?_) fun hdp=>?_
   ·rw[decide_eq_true_eq]at hdp;refine Runs.step (B18.rd 2 rfl (ke _ _)) (Runs.step (B18.rd 3 rfl (asSl_v _)) ?_);refine(kba7 ((T0.md M6)) (Q3.grow G36) By6 (by omega) hz2 hp16 (Qt3.grow G36) hts).call fun v h7 ⟨G67,l,sl,Sl',Ss,e,VL,VS,hSl⟩=>?_;subst e;refine Runs.step rfl (Runs.step (seen (asSl_v _)) (Runs.step (seen (asSl_v _)) ?_));have A7:=A6.grow G67;have b26:=G67.has b6;refine Runs.step (A7.cfg.rd 2 rfl (ke _ _)) (Runs.step (A7.cfg.rd 3 rfl (ke _ _)) (Runs.step (b26.rd 0 rfl (ke _ _)) (Runs.step (b26.rd 1 rfl (ke _ _)) ?_)));refine(k53 (xs:=sumsS ts g x.rows) (VS.mono fun _ _=>trivial) c.lambda c.gamma (sumR g x.rows).1 (sumR g x.rows).2).call fun v h8 ⟨sb,e,Vb,G78⟩=>?_;subst e;refine Runs.step rfl (Runs.step (seen (asSl_v _)) (Runs.step (seen (ke _ _)) ?_))
    have hbest:bestS c ts g x=(bestF c.lambda c.gamma (sumR g x.rows).1 (sumR g x.rows).2 (sumsS ts g x.rows)).1:=by
     unfold bestS;rw[if_pos hdp]
    rw[← hbest]at Vb;cases hbb:bestS c ts g x with
    | nil =>
     rw[hbb]at Vb;exact leafCase (G67.trans G78) (G78.has b26) hbb Vb.len
    | cons b bs =>
     rw[hbb]at Vb;obtain⟨j,hj,hjl⟩:=k2j (c:=c) (ts:=ts) (g:=g) (x:=x) b (by rw[hbb];simp);have hjL:j<((kb4 ts).map fun s=>(⟨s,x.rows.filter (leftS ts s)⟩:SpR)).length:=by rw[List.length_map];exact hjl
     have hget:((kb4 ts).map fun s=>(⟨s,x.rows.filter (leftS ts s)⟩:SpR))[j]=⟨(kb4 ts)[j],x.rows.filter (leftS ts (kb4 ts)[j])⟩:=by rw[List.getElem_map]
     have hgs:(kb4 ts).getD b.toNat (0,0,0)=(kb4 ts)[j]:=by rw[hj];simp[List.getD,hjl]
     have z67:=G67.size;have z16:=G16.size;have A8:=A7.grow G78;refine k3w (ts:=ts) ((T0.md M6).grow (G67.trans G78)) A8 n18 ((G67.trans G78).has B18) ((By6.grow G67).grow G78) hS hpl hw63 (by rw[pp.length_eq];simp at hlW;omega) (by omega) hz2 (fun w hw=>ok.below w (List.mem_cons_of_mem _ (pp.mem_iff.1 hw))) Vb (VL.grow G78) (fun m hm a=>by have:=hSl m hm;have:=hl1 _ a;omega) hj hjL (by rw[hget]) fun h' p' e1 e2 e3 e4 e5 m hn' hk' A'=>?_;rw[hget]at A';have hx:x.deep<D:=by omega
     have hgrow:growS c ts g (n+1) (x::W) nodes sc=growS c ts g n (W++kidsS ts x (kb4 ts)[j] nodes.length) (nodes.set x.place (splitN (kb4 ts)[j] nodes.length (nodes.length+1))++[Nd.no,Nd.no]) sc:=by
      rw[growS,hbb];dsimp only;rw[hgs]
     rw[hgrow,← e1,← e2,← e3,← e4]
     have hkey:∀w∈popL keyW q,keyW w≤keyW ⟨nodes.length,x.deep+1,x.rows.filter (leftS ts (kb4 ts)[j])⟩:=fun w hw=>by
      have:=ok.below w (List.mem_cons_of_mem _ (pp.mem_iff.1 hw));unfold keyW;show(w.place:Int)≤(nodes.length:Int);omega
     have hheap:IsHeap keyW (popL keyW q++kidsS ts x (kb4 ts)[j] nodes.length).length (popL keyW q++kidsS ts x (kb4 ts)[j] nodes.length):=by
      have h1:=kul keyW hh' hkey
      have h2:=kul keyW h1 (y:=⟨nodes.length+1,x.deep+1,x.rows.filter fun i=>!leftS ts (kb4 ts)[j] i⟩) fun w hw=>by
       rcases List.mem_append.1 hw with hw | hw
       ·have:=hkey w hw;unfold keyW at this⊢;have this:(w.place:Int)≤(nodes.length:Int):=this;show(w.place:Int)≤((nodes.length+1:Nat):Int);omega
       ·rw[List.mem_singleton.1 hw];unfold keyW;show(nodes.length:Int)≤((nodes.length+1:Nat):Int);omega
      rw[List.append_assoc]at h2;exact h2
     have z78:=G78.size;have z8:hE.blks.size≤h8.blks.size:=by omega
     refine ih _ _ _ sc p' h' (ok.split hx ts _ _) (pp.append (List.Perm.refl _)) hheap hsc A' ((M6.thenG (G67.trans G78)).next m fun j hj e=>?_) (e5.trans hs) (by omega) (by omega) (by omega) (by omega) (by rcases hn' with e | e<;>omega) (by rcases hk' with e | e<;>omega);rcases e with rfl | rfl | rfl | rfl | rfl | rfl<;>omega
   ·rw[decide_eq_false_iff_not]at hdp;exact leafCase (Grow.refl _) b6 (by unfold bestS;rw[if_neg hdp]) rfl
theorem kp0{c:Cfg}{ts:List Tb}{g:List Int}{D N:Nat}(hD:c.depth=(D:Int)):∀(n m:Nat)(W:List Wt)(nodes:List Nd)(sc:List Int),n≤m→GrowOk D n N W nodes→growS c ts g n W nodes sc=growS c ts g m W nodes sc
 | 0,m,W,nodes,sc,_,ok=>by
  have hW:W=[]:=by
   have:=muW_le ok.deep;have:=ok.mu;exact List.length_eq_zero_iff.1 (by omega)
  subst hW;cases m<;>rfl
 | n+1,0,W,nodes,sc,h,ok=>by omega
 | n+1,m+1,[],nodes,sc,h,ok=>rfl
 | n+1,m+1,x::W,nodes,sc,h,ok=>by
  rw[growS,growS];cases hb:bestS c ts g x with
  | nil=>exact kp0 hD n m W _ _ (by omega) (ok.leaf _)
  | cons b bs =>
   have:=kzb hb;exact kp0 hD n m _ _ sc (by omega) (ok.split (by omega) ts _ _)
theorem k0t(T0:Tab hE)(hc:c.right=true)(Q:Sq EI hE Sg gs g)(Qt:Sq Ef.tb hE St tsl ts){js:Nat}{sc:List Int}(V:GF EI T.int hE Fp.no scs (some js) sc)(nSg:¬Sg js)(nSt:¬St js)(hg:g.length=z)(hsc:sc.length=z)(hz2:z≤256)(hp16:ts.length≤16)(hts:∀(p:Nat)(hp:p<ts.length),tabR ts[p]=true∧ts[p].ids.length=z) :
  Runs (go (.fn F.kbt [.agg c.cells,tsl.v,gs.v,scs.v]) hE) (GrowP c scs js hE (growS c ts g 64 [firstW z] [Nd.no] sc)):=by
 have hd:=Cfg.right_depth hc;obtain⟨D,hD⟩:∃D:Nat,c.depth=(D:Int):=⟨c.depth.toNat,by omega⟩;have hjs:js<hE.blks.size:=V.lt;unfold Cfg.cells;rw[k7m];refine Runs.new fun h1 b1 g1=>Runs.new fun h2 b2 g2=>?_;rw[Q.len,hg];refine(k6o (n:=z) (by omega)).call fun v h3 pp=>?_;obtain⟨g3,t3,e3,S3,e,B3,hS3,o3⟩:=pp.bits;subst e;refine Runs.step rfl (Runs.step rfl (Runs.ifT rfl (Runs.step rfl (Runs.step (seenAt rfl (asSl_v _)) (Runs.step rfl ?_)))));dsimp only;refine Runs.new fun h4 b4 g4=>Runs.puts b4 rfl fun h5 b5 u5=>?_;have G35:Grow h3 h5:=g4.updr (Nat.le_refl _) u5;obtain⟨h6,e6,g6,V6⟩:=GF.mk (E:=Ef.nd) (elem:=T.kbj) (S:=Fp.no) (h:=h5) (n:=1) (bytes:=Pg.bytesOf T.kbj) (l:=1) (c:=1) (cs:=Nd.no.cells) (x:=Nd.no) (fun h'=>rfl) Fp.not_no rfl rfl (by rw[kwe];decide) (by decide);refine Runs.step e6 ?_;dsimp only;refine Runs.new fun h7 b7 g7=>Runs.puts b7 rfl fun h8 b8 u8=>?_;have G68:Grow h6 h8:=g7.updr (Nat.le_refl _) u8;have b5':=(g6.trans G68).has b5;refine Runs.step (b5'.rd 0 rfl (ke _ _)) (Runs.step (b5'.rd 1 rfl (asSl_v _)) (Runs.new fun h9 b9 g9=>Runs.new fun h10 b10 g10=>?_));have z1:=b1.lt;have z2:=b2.lt;have z3:=g3.size;have z4:=b4.lt;have z5:=b5.lt;have z6:=V6.lt;have z6':h5.blks.size<h6.blks.size:=z6;have z8:=b8.lt;have z9:=b9.lt;have z10:=b10.lt;have G26:Grow h2 h6:=(g3.trans G35).trans g6;have G610:Grow h6 h10:=(G68.trans g9).trans g10;have G510:Grow h5 h10:=g6.trans G610;have GE:Grow hE h10:=((g1.trans g2).trans G26).trans G610;have B310:BitsAt h10 (fun j=>S3 j∧j<h3.blks.size) z t3 (List.range z):=((B3.bound.grow G35).grow G510);have zE1:=g1.size;have zE2:=g2.size;have z35:=G35.size;have z68:=G68.size;have z810:=g9.size
 have A:GrAt c z scs ⟨hE.blks.size,h1.blks.size,h6.blks.size,h9.blks.size,js,h5.blks.size,h8.blks.size⟩ [firstW z] [Nd.no] sc h10:=by
  refine⟨⟨?_,?_,?_,?_,?_,?_,?_,?_,?_,?_,?_,?_,?_,?_,?_,?_,?_,?_,?_,?_,?_⟩,(((g2.trans G26).trans G610).has b1),((G26.trans G610).has b2),⟨_,(g9.trans g10).has b8,V6.grow G610⟩,⟨fun j=>S3 j∧j<h3.blks.size,?_,?_,?_,_,b10,?_⟩,V.grow GE⟩
  all_goals first
   | (dsimp only;omega)
   | skip
  ·intro m hm a;have h1:=hS3 m hm.1;have h2:=hm.2;unfold Pl.all at a;dsimp only at a;omega
  ·refine GQ.lit (rows:=[[.int .i64 0,.int .i64 0,.int .i64 (z:Int),t3.v]]) (e:=T.kbg) (g10.has b9) (.cons ⟨t3,rfl,B310⟩ .nil) ?_ rfl;intro hm;have h2:=hm.2;omega
 have ok:GrowOk D (2^(D+1)-1) z [firstW z] [Nd.no]:=GrowOk.start
 have h64:2^(D+1)-1≤64:=by
  have:2^(D+1)≤2^6:=Nat.pow_le_pow_right (by decide) (by omega);omega
 rw[← kp0 hD _ 64 [firstW z] [Nd.no] sc h64 ok];exact k0y T0 hc hD Q Qt hjs nSg nSt hg hz2 hp16 hts _ [firstW z] [firstW z] [Nd.no] sc _ h10 ok (List.Perm.refl _) (fun k k0 kn=>by simp at kn;omega) hsc A (GE.md _) rfl (Nat.le_refl _) (by dsimp only;omega) (by dsimp only;omega) (by dsimp only;omega) (by dsimp only;omega) (by dsimp only;omega)
end
end Go.Ab

/- squeezed -/
set_option maxRecDepth 10000
namespace Go.Ab
open Go.Proofs Go.Num Go.Heap
theorem Md.same{h h':AH}{T:Fp}(m:Md T h h'){i:Nat}{cs:List AV}{e:TypeId}(b:h.has i cs e)(n:¬T i)(o k:Nat):SameAt h h' (.new i o) k:=⟨fun j _=>by
 rw[Ref.add_new];simp only[AH.cell,m.blk i b.lt n],fun _=>m.blk i b.lt n⟩
theorem k2r{n:Nat}(h:n≤1000000):growOk Pg n T.kbr 1=true:=by
 unfold growOk;rw[k8a,k3c];have h1:n*24≤kv:=by simp only[kv];omega
 have h2:n≤kv:=by simp only[kv];omega
 simp[h1,h2]
section
variable{h0:AH}{S S':Fp}{s t:Sl}
theorem kyw{xs ys:List Int}(n:Sq EI h0 S s xs)(m:Sq EI h0 S' t ys)(hl:xs.length=ys.length):∀(k i:Nat),i+k=xs.length→
  go (.pt F.kgj Td.knh [(0,s.v),(1,t.v),(12,.int .i64 (xs.length:Int)),(13,.int .i64 (i:Int))]) h0=some (.bool (decide (xs.drop i=ys.drop i)),h0):=by
 intro k
 induction k with
 | zero =>
  intro i hi;rw[kvt,condF (decide_eq_false (by omega)),List.drop_of_length_le (by omega),List.drop_of_length_le (by omega)];rfl
 | succ k ih =>
  intro i hi;have h1:i<xs.length:=by omega
  have h2:i<ys.length:=by omega
  obtain⟨r,e1,e2⟩:=n.int h1;obtain⟨q,e3,e4⟩:=m.int h2;rw[kvt,e1,e3,condT (decide_eq_true (by omega))];simp only[Option.bind_some,e2,e4];by_cases c:xs[i]=ys[i]
  ·rw[condF (by rw[decide_eq_true c];rfl),ks (by have:=n.short;omega),ih (i+1) (by omega),List.drop_eq_getElem_cons h1,List.drop_eq_getElem_cons h2];rw[decide_eq_decide.2 (show xs.drop (i+1)=ys.drop (i+1)↔xs[i]::xs.drop (i+1)=ys[i]::ys.drop (i+1)from⟨fun e=>by rw[c,e],fun e=>(List.cons.inj e).2⟩)]
  ·rw[condT (by rw[decide_eq_false c];rfl),List.drop_eq_getElem_cons h1,List.drop_eq_getElem_cons h2,decide_eq_false (fun e=>c (List.cons.inj e).1)]
theorem k6k{xs ys:List Int}(n:Sq EI h0 S s xs)(m:Sq EI h0 S' t ys):go (.fn F.kgj [s.v,t.v]) h0=some (.bool (decide (xs=ys)),h0):=by
 rw[k3n,n.len,m.len];by_cases c:xs.length=ys.length
 ·rw[condF (by rw[decide_eq_true (by omega)];rfl)];exact kyw n m c xs.length 0 (by omega)
 ·rw[condT (by rw[decide_eq_false (by omega)];rfl),decide_eq_false (fun e=>c (by rw[e]))]
theorem k9n{xs:List Int}(n:Sq EI h0 S s xs):Runs (go (.fn F.kc6 [s.v,.func (.func F.kc9) [] []]) h0) fun v h'=>v=.bool (oddL xs)∧Grow h0 h':=by
 rw[k0o];refine Runs.contains (xs:=xs) ?_;rw[kxj,n.len];refine kll (n:=xs.length) (G:=fun z h=>go (.pt F.kbn Td.kcf [(0,s.v),(1,.func (.func F.kc9) [] []),(7,.int .i64 (xs.length:Int)),(8,.int .i64 z)]) h) (fun i h P hi g hT hF=>?_) (fun h g=>?_) xs.length 0 (by omega) (Grow.refl h0) (fun j hj=>by omega)
 ·obtain⟨r,e1,e2⟩:=(n.grow g).int hi;rw[List.getElem?_eq_getElem hi]at hT hF;simp only[Option.any_some]at hT hF;show Runs (go _ _) _;rw[kws];refine Runs.ifT (decide_eq_true (by omega)) (Runs.step e1 (Runs.step e2 ?_))
  have key:go (.fn F.kc9 [.int .i64 xs[i]]) h=some (.bool (decide (xs[i] < -1048576)||decide (xs[i]>1048576)),h):=by
   rw[k49];cases decide (xs[i] < -1048576)<;>rfl
  refine Runs.step key (Runs.step (seen rfl) ?_);rw[ks (by have:=n.short;omega)];exact Runs.cond (fun c=>Runs.ret (hT h g c)) fun c=>hF h g c
 ·rw[kws,condF (decide_eq_false (by omega))]
end
section
variable{c:Cfg}{scs ls tsl:Sl}{labels:List Int}{ts:List Tb}{hE:AH}{St SL:Fp}
theorem kzq(Qt:Sq Ef.tb hE St tsl ts)(Q:Sq EI hE SL ls labels)(h16:ts.length≤16)(hp:0<ts.length):∀(k i:Nat),i+k=ts.length→∀{h:AH},Grow hE h→
  Runs (go (.pt F.kf4 Td.kmu [(1,tsl.v),(2,ls.v),(23,tsl.v),(24,.int .i64 (ts.length:Int)),(25,.int .i64 (i:Int))]) h) fun v h'=>v=.int .i64 (if((ts.drop i).any fun t=>!tabR t||(!decide (t.ids=(ts.getD 0 Tb.no).ids)||decide (t.ids.length=0)))=true then 20 else if labels.length≠(ts.getD 0 Tb.no).ids.length then 1 else if oddL labels then 1 else 0)∧Grow hE h':=by
 have hg0:ts.getD 0 Tb.no=ts[0]:=by simp[List.getD,hp]
 rw[hg0];intro k
 induction k with
 | zero =>
  intro i hi h g;rw[ksy,List.drop_of_length_le (by omega)];refine Runs.ifF (decide_eq_false (by omega)) ?_;obtain⟨r,s1,s2,s3,e,c1,c2,c3,n⟩:=(Qt.grow g).tb hp;refine Runs.step e (Runs.step c1 ?_);rw[(Q.grow g).len,n.ids.len];refine Runs.cond (fun a=>Runs.ret ⟨?_,g⟩) fun a=>?_
  ·have:labels.length≠ts[0].ids.length:=by
    intro e;rw[e,decide_eq_true rfl]at a;cases a
   simp[this]
  ·have:labels.length=ts[0].ids.length:=by
    rw[Bool.not_eq_false',decide_eq_true_eq]at a;omega
   refine(k9n (Q.grow g)).call fun v h1 ⟨ev,g1⟩=>?_;subst ev;refine Runs.step (seen rfl) (Runs.cond (fun b=>Runs.ret ⟨?_,g.trans g1⟩) fun b=>Runs.ret ⟨?_,g.trans g1⟩)
   ·simp[this,b]
   ·simp[this,b]
 | succ k ih =>
  intro i hi h g;have hlt:i<ts.length:=by omega
  obtain⟨r,s1,s2,s3,e,c1,c2,c3,n⟩:=(Qt.grow g).tb hlt;obtain⟨r0,t1,t2,t3,e0,d1,d2,d3,n0⟩:=(Qt.grow g).tb hp;rw[ksy,List.drop_eq_getElem_cons hlt,List.any_cons];refine Runs.ifT (decide_eq_true (by omega)) (Runs.step e (Runs.step c1 (Runs.step c2 (Runs.step c3 (Runs.new fun h1 b1 g1=>Runs.puts b1 rfl fun h2 b2 u2=>?_)))));have G2:Grow h h2:=g1.updr (Nat.le_refl _) u2;refine Runs.step (b2.rd 0 rfl (asSl_v _)) (Runs.step (b2.rd 1 rfl (asSl_v _)) (Runs.step (b2.rd 2 rfl (asSl_v _)) ?_));refine(kqz (n.grow G2)).call fun v h3 ⟨ev,g3⟩=>?_;subst ev;have G3:=G2.trans g3;refine Runs.step (seen rfl) (Runs.cond (fun a=>Runs.ret ⟨?_,g.trans G3⟩) fun a=>?_)
  ·rw[Bool.not_eq_true']at a;simp[a]
  rw[Bool.not_eq_false']at a;obtain⟨r0,t1,t2,t3,e0,d1,d2,d3,n0⟩:=(Qt.grow (g.trans G3)).tb hp;refine Runs.step ((g3.has b2).rd 0 rfl (asSl_v _)) (Runs.step e0 (Runs.step d1 ?_));refine Runs.step (k6k (n.grow G3).ids n0.ids) (Runs.step (seen rfl) (Runs.cond (fun b=>Runs.ret ⟨?_,g.trans G3⟩) fun b=>?_))
  ·rw[Bool.not_eq_true']at b;simp[b]
  rw[Bool.not_eq_false']at b;refine Runs.step ((g3.has b2).rd 0 rfl (asSl_v _)) ?_;rw[n.ids.len];refine Runs.cond (fun d=>Runs.ret ⟨?_,g.trans G3⟩) fun d=>?_
  ·have:ts[i].ids.length=0:=by
    have:=of_decide_eq_true d;omega
   simp[this]
  rw[ks (by omega)]
  have hne:decide (ts[i].ids.length=0)=false:=by
   have:=of_decide_eq_false d;exact decide_eq_false (by omega)
  rw[a,b,hne];exact ih (i+1) (by omega) (g.trans G3)
theorem kbam(Qt:Sq Ef.tb hE St tsl ts)(Q:Sq EI hE SL ls labels):Runs (go (.fn F.kf4 [.agg c.cells,tsl.v,ls.v]) hE) fun v h'=>v=.int .i64 (faultC c ts labels)∧Grow hE h':=by
 unfold Cfg.cells;rw[k8p];refine Runs.new fun h1 b1 g1=>?_;refine Runs.step (b1.rd 0 rfl (ke _ _)) (Runs.step (b1.rd 1 rfl (ke _ _)) (Runs.step (b1.rd 2 rfl (ke _ _)) (Runs.step (b1.rd 3 rfl (ke _ _)) (Runs.step (b1.rd 4 rfl (ke _ _)) (Runs.step (b1.rd 5 rfl (ke _ _)) (Runs.step (b1.rd 6 rfl (ke _ _)) (Runs.step (b1.rd 7 rfl (ke _ _)) ?_)))))));obtain⟨h2,e2,g2⟩:=koo c h1;have G:=g1.trans g2;refine Runs.step e2 (Runs.step (seen rfl) ?_);rw[Qt.len];unfold faultC;refine Runs.cond (fun a=>Runs.ret ⟨by simp[a],G⟩) fun a=>?_;rw[if_neg (by simp[a])];refine Runs.cond (fun b=>Runs.ret ⟨?_,G⟩) fun b=>?_
 ·have:ts.length=0:=by have:=of_decide_eq_true b;omega
  simp[this]
 have hb:¬ts.length=0:=by have:=of_decide_eq_false b;omega
 rw[if_neg hb];refine Runs.cond (fun d=>Runs.ret ⟨?_,G⟩) fun d=>?_
 ·have:ts.length>16:=by have:=of_decide_eq_true d;omega
  simp[this]
 have hd:¬ts.length>16:=by have:=of_decide_eq_false d;omega
 rw[if_neg hd];have:=kzq Qt Q (by omega) (by omega) ts.length 0 (by omega) G;rw[List.drop_zero]at this;exact this
theorem kpy(c:Cfg)(ts:List Tb)(g:List Int):∀(n:Nat)(W:List Wt)(nodes:List Nd)(sc:List Int),(growS c ts g n W nodes sc).2.length=sc.length
 | 0,W,nodes,sc=>rfl
 | n+1,[],nodes,sc=>rfl
 | n+1,x::W,nodes,sc=>by
  rw[growS];cases bestS c ts g x with
  | nil=>exact(kpy c ts g n W _ _).trans (ko8 _ _ _)
  | cons b bs=>exact kpy c ts g n _ _ sc
theorem kug(c:Cfg)(sc labels:List Int):(gradS c sc labels).length=labels.length:=by simp[gradS]
theorem k3a{hB:AH}{sc:List Int}{gsl:Sl}{jg js kc kr km:Nat}{tr i0:Int}(Q:Sq EI hB SL ls labels)(B:hB.has kc c.cells T.kci)(V:GF EI T.int hB Fp.no scs (some js) sc)(hsc:sc.length=labels.length)(hL:labels.length≤256)(nL:¬SL jg)(hk:kc≠jg)(hj:js≠jg){P:AV→AH→Prop}
  (H:∀h',Md (fun j=>j=jg) hB h'→GF EI T.int h' Fp.no gsl (some jg) (gradS c sc labels)→Runs (go (.pt F.kcw Td.kje [(1,tsl.v),(2,ls.v),(3,.ptr (some (.new kc 0))),(6,.ptr (some (.new kr 0))),(9,scs.v),(10,.ptr (some (.new km 0))),(11,gsl.v),(26,.int .i64 tr),(27,.int .i64 i0),(32,ls.v),(33,.int .i64 (labels.length:Int)),(34,.int .i64 (labels.length:Int))]) h') P) :
  ∀(k i:Nat),i+k=labels.length→∀{h:AH},Md (fun j=>j=jg) hB h→GF EI T.int h Fp.no gsl (some jg) ((gradS c sc labels).take i++List.replicate k 0)→
  Runs (go (.pt F.kcw Td.kje [(1,tsl.v),(2,ls.v),(3,.ptr (some (.new kc 0))),(6,.ptr (some (.new kr 0))),(9,scs.v),(10,.ptr (some (.new km 0))),(11,gsl.v),(26,.int .i64 tr),(27,.int .i64 i0),(32,ls.v),(33,.int .i64 (labels.length:Int)),(34,.int .i64 (i:Int))]) h) P:=by
 have hgl:=kug c sc labels;intro k
 induction k with
 | zero =>
  intro i hi h m v;obtain rfl:i=labels.length:=by omega
  rw[List.take_of_length_le (by omega)]at v;exact H h m (by simpa using v)
 | succ k ih =>
  intro i hi h m v;have hlt:i<labels.length:=by omega
  have hls:i<sc.length:=by omega
  have Q1:=Q.md m fun j a e=>nL (e▸a);have B1:=m.has B hk;have V1:=GF.md m (S:=Fp.no) (fun j a _=>a) V fun k e=>by cases e;exact hj
  obtain⟨r,e1,e2⟩:=Q1.int hlt;obtain⟨r2,e3,e4⟩:=V1.sq.int hls;rw[kuc];refine Runs.ifT (decide_eq_true (by omega)) (Runs.step e1 (Runs.step e2 ?_));refine Runs.step (B1.rd 0 rfl (ke _ _)) (Runs.step (B1.rd 1 rfl (ke _ _)) (Runs.step (B1.rd 2 rfl (ke _ _)) (Runs.step (B1.rd 3 rfl (ke _ _)) (Runs.step (B1.rd 4 rfl (ke _ _)) (Runs.step (B1.rd 5 rfl (ke _ _)) (Runs.step (B1.rd 6 rfl (ke _ _)) (Runs.step (B1.rd 7 rfl (ke _ _)) ?_)))))));refine Runs.step e3 (Runs.step e4 ?_);obtain⟨h1,e5,g1⟩:=ky9 c sc[i] labels[i] h;refine Runs.step e5 (Runs.step rfl (Runs.step (seen (ke _ _)) (Runs.step (seen (ke _ _)) ?_)));have v1:=v.grow g1;have hvl:((gradS c sc labels).take i++List.replicate (k+1) 0).length=labels.length:=by simp;omega
  obtain⟨r3,h2,e6,p6,V2,u2⟩:=v1.set (T:=Fp.no) (x:=(c.grad sc[i] labels[i]).1) (show EI.has h1 Fp.no [.int .i64 (c.grad sc[i] labels[i]).1] _ from rfl) Fp.not_no (kbd (show i<_ by rw[hvl];exact hlt));rw[← v1.len]at e6;have u2:Upd h1 h2 jg:=u2;refine Runs.step e6 (Runs.step p6 ?_);rw[ks (by omega)];refine ih (i+1) (by omega) ((m.thenG g1).trans (u2.md rfl)) ?_
  have hset:((gradS c sc labels).take i++List.replicate (k+1) 0).set i (c.grad sc[i] labels[i]).1=(gradS c sc labels).take (i+1)++List.replicate k 0:=by
   have hti:((gradS c sc labels).take i).length=i:=by simp;omega
   rw[List.set_append_right _ _ (by omega),hti,Nat.sub_self,List.replicate_succ,List.set_cons_zero,List.take_succ_eq_append_getElem (by omega),List.append_assoc];congr 1;simp[gradS,List.getD,hls,hlt]
  rw[← hset];exact V2.mono (fun j x=>x.elim id id) Fp.not_no
def TrainP(hE:AH)(m:List (List Nd))(e:Int)(v:AV)(h':AH):Prop:=∃s:Sl,v=.tup [.agg [s.v],.int .i64 e]∧Sq EM h' Fp.all s m∧Grow hE h'
theorem kzz(T0:Tab hE)(hf:faultC c ts labels=0)(Qt:Sq Ef.tb hE St tsl ts)(Q:Sq EI hE SL ls labels){kc kr km js:Nat}(hc0:hE.blks.size≤kc)(hr0:hE.blks.size≤kr)(hm0:hE.blks.size≤km)(hj0:hE.blks.size≤js)(ncm:kc≠km)(ncr:kc≠kr)(nrm:kr≠km)(ncj:kc≠js)(nrj:kr≠js)(nmj:km≠js) :
  ∀(k i:Nat),i+k=c.trees.toNat→∀(m:List (List Nd))(sc:List Int)(l x:Sl)(jm:Option Nat)(S:Fp)(h:AH),m.length=i→sc.length=labels.length→Md Fp.no hE h→h.has kc c.cells T.kci→h.has kr [x.v] T.kce→h.has km [l.v] T.kce→GF EM T.kbr h S l jm m→(∀j,S j∨jm=some j→hE.blks.size≤j∧j≠kc∧j≠kr∧j≠km∧j≠js)→GF EI T.int h Fp.no scs (some js) sc→
  Runs (go (.pt F.kcw Td.kli [(1,tsl.v),(2,ls.v),(3,.ptr (some (.new kc 0))),(6,.ptr (some (.new kr 0))),(9,scs.v),(10,.ptr (some (.new km 0))),(26,.int .i64 c.trees),(27,.int .i64 (i:Int))]) h) (TrainP hE (trainS c ts labels k m sc).1 0):=by
 obtain⟨hc,hts0,h16,hbad,hll,hodd⟩:=kur hf;have hd:=Cfg.right_depth hc;have hp:0<ts.length:=List.length_pos_iff.2 hts0;have hg0:ts.getD 0 Tb.no=ts[0]:=by simp[List.getD,hp]
 have hz:∀(p:Nat)(hp:p<ts.length),tabR ts[p]=true∧ts[p].ids.length=labels.length:=fun p hp=>by
  obtain⟨a,b,_⟩:=kvo hbad hp;exact⟨a,by rw[b,hll]⟩
 have hL:labels.length≤256:=by
  rw[← (hz 0 hp).2];have:=(hz 0 hp).1;unfold tabR idsR at this;simp at this;omega
 intro k
 induction k with
 | zero =>
  intro i hi m sc l x jm S h hm hs M B Br Bm V hS Vs;rw[ktz];refine Runs.ifF (decide_eq_false (by omega)) ?_;refine Runs.step (Bm.rd 0 rfl (asSl_v _)) (Runs.puts Br rfl fun h1 B1 u1=>?_);refine Runs.step (B1.rd 0 rfl (asSl_v _)) (Runs.ret ⟨l,rfl,?_,?_⟩)
  ·have nS:¬S kr:=fun a=>(hS kr (.inl a)).2.2.1 rfl;exact(V.upd u1 nS fun k e=>(hS k (.inr e)).2.2.1).sq.mono fun _ _=>trivial
  ·exact(M.next (u1.md (T:=fun j=>j=kr) rfl) fun j hj e=>by omega).grow fun _ _ a=>a
 | succ k ih =>
  intro i hi m sc l x jm S h hm hs M B Br Bm V hS Vs;rw[ktz];refine Runs.ifT (decide_eq_true (by omega)) ?_;obtain⟨h1,e1,g1,V1⟩:=GF.mk (E:=EI) (elem:=T.int) (S:=Fp.no) (h:=h) (n:=labels.length) (bytes:=Pg.bytesOf T.int) (l:=(ls.len:Int)) (c:=(ls.len:Int)) (cs:=[.int .i64 0]) (x:=(0:Int)) (fun h'=>rfl) Fp.not_no (by rw[Q.len]) (by rw[Q.len]) (by rw[knj];omega) (by omega);refine Runs.step e1 ?_;rw[Q.len];have zM:=M.size;have zB:=B.lt;have zr:=Br.lt;have zm:=Bm.lt;have zs:js<h.blks.size:=Vs.lt;have M1:=M.thenG g1;have Qb:Sq EI h1 (fun j=>SL j∧j<hE.blks.size) ls labels:=Q.bound.md M1 fun j _ a=>a;have Qtb:Sq Ef.tb h1 (fun j=>St j∧j<hE.blks.size) tsl ts:=Qt.bound.md M1 fun j _ a=>a;refine k3a (jg:=h.blks.size) Qb (g1.has B) (Vs.grow g1) hs hL (fun a=>by have:=a.2;omega) (by omega) (by omega) (fun h2 m2 V2=>?_) labels.length 0 (by omega) (Md.refl _ _) (by simpa using V1);rw[kuc];refine Runs.ifF (decide_eq_false (by omega)) ?_;have B2:=m2.has (g1.has B) (by omega);have Br2:=m2.has (g1.has Br) (by omega);have Bm2:=m2.has (g1.has Bm) (by omega);have M2:Md Fp.no hE h2:=M1.next m2 fun j hj e=>by omega
  refine Runs.step (Bm2.rd 0 rfl (asSl_v _)) ?_;refine Runs.step (B2.rd 0 rfl (ke _ _)) (Runs.step (B2.rd 1 rfl (ke _ _)) (Runs.step (B2.rd 2 rfl (ke _ _)) (Runs.step (B2.rd 3 rfl (ke _ _)) (Runs.step (B2.rd 4 rfl (ke _ _)) (Runs.step (B2.rd 5 rfl (ke _ _)) (Runs.step (B2.rd 6 rfl (ke _ _)) (Runs.step (B2.rd 7 rfl (ke _ _)) ?_)))))));have Vs2:GF EI T.int h2 Fp.no scs (some js) sc:=GF.md m2 (S:=Fp.no) (fun j a _=>a) (Vs.grow g1) fun k e=>by cases e;omega
  have Qt2:Sq Ef.tb h2 (fun j=>St j∧j<hE.blks.size) tsl ts:=Qt.bound.md M2 fun j _ a=>a;refine(k0t (z:=labels.length) (T0.md M2) hc V2.sq Qt2 Vs2 (fun a=>a.elim (fun e=>by cases e;omega) id) (fun a=>by have:=a.2;omega) (kug _ _ _) hs hL h16 hz).call fun v h3 ⟨nd,jn,ev,hjn,Vn,Vs3,m3⟩=>?_;subst ev;refine Runs.step rfl (Runs.ifT rfl (Runs.step (seenAt rfl (asSl_v _)) ?_));refine Runs.when (m3.same Bm2 nmj 0 1) ?_;refine Runs.new fun h4 b4 g4=>?_;have Bm3:=m3.has Bm2 nmj;refine Runs.when (g4.same Bm3 0 1) ?_;refine Runs.step (kfh (n:=1) b4 (by rw[kqn];rfl)) ?_;have zh1:=g1.size;have zh2:=m2.size;have nSg:∀j,j=h.blks.size→¬(S j∧j<h.blks.size):=fun j e a=>by have:=a.2;omega
  have V4:GF EM T.kbr h4 (fun j=>S j∧j<h.blks.size) l jm m:=by
   have V2':=GF.md m2 (fun j a e=>by have:=a.2;omega) (V.bound.grow g1) fun k e x=>by
    subst e;have:=V.lt;have this:k<h.blks.size:=this;omega
   exact(GF.md m3 (fun j a e=>(hS j (.inl a.1)).2.2.2.2 e) V2' fun k e x=>(hS k (.inr e)).2.2.2.2 x).grow g4
  obtain⟨s5,h5,e5,V5,u5⟩:=V4.push (P:=Pg) (T:=Fp.opt (some jn)) (cs:=[nd.v]) (x:=(growS c ts (gradS c sc labels) 64 [firstW labels.length] [Nd.no] sc).1) ⟨nd,rfl,(Vn.grow g4).sq.mono fun j a=>a.elim id False.elim⟩ (by
   cases jm with
   | none=>trivial
   | some y =>
    intro e;cases e;have:=V.lt;have this:jn<h.blks.size:=this;omega) (k2r (by omega))
  refine Runs.step e5 (Runs.step (asSl_v _) ?_);have hjm4:∀y,jm=some y→y<h.blks.size:=fun y e=>by subst e;exact V.lt
  have u5m:Md (fun j=>jm=some j) h4 h5:=UpdO.md u5 fun k e=>e;have z3:=m3.size;have z4:h3.blks.size≤h4.blks.size:=g4.size;have z5:=u5m.size;have B5:=u5m.has ((g4.has (m3.has B2 ncj))) (fun e=>(hS kc (.inr e)).2.1 rfl);have Br5:=u5m.has ((g4.has (m3.has Br2 nrj))) (fun e=>(hS kr (.inr e)).2.2.1 rfl);have Bm5:=u5m.has ((g4.has Bm3)) (fun e=>(hS km (.inr e)).2.2.2.1 rfl);have Vs5:GF EI T.int h5 Fp.no scs (some js) (growS c ts (gradS c sc labels) 64 [firstW labels.length] [Nd.no] sc).2:=GF.md u5m (S:=Fp.no) (fun j a _=>a) (Vs3.grow g4) fun k e x=>by cases e;exact(hS js (.inr x)).2.2.2.2 rfl
  refine Runs.puts Bm5 rfl fun h6 B6 u6=>?_;rw[ks (by omega)]
  have hF:∀j,(Fp.or (fun j=>S j∧j<h.blks.size) (Fp.opt (some jn)) j∧j<h4.blks.size)∨some h4.blks.size=some j→hE.blks.size≤j∧j≠kc∧j≠kr∧j≠km∧j≠js:=by
   rintro j (⟨a | a,b⟩ | a)
   ·exact hS j (.inl a.1)
   ·cases a;omega
   ·cases a;omega
  have nK:¬(Fp.or (fun j=>S j∧j<h.blks.size) (Fp.opt (some jn)) km∧km<h4.blks.size):=fun a=>(hF km (.inl a)).2.2.2.1 rfl;have:=ih (i+1) (by omega) (m++[(growS c ts (gradS c sc labels) 64 [firstW labels.length] [Nd.no] sc).1]) (growS c ts (gradS c sc labels) 64 [firstW labels.length] [Nd.no] sc).2 s5 x (some h4.blks.size) _ h6 (by simp[hm]) ?_ ?_ (B5.updr ncm u6) (Br5.updr nrm u6) B6 (V5.upd u6 nK fun k e=>by cases e;omega) hF (Vs5.upd u6 Fp.not_no fun k e=>by cases e;exact fun e=>nmj e.symm)
  ·exact this
  ·have:=kpy c ts (gradS c sc labels) 64 [firstW labels.length] [Nd.no] sc;omega
  ·have M4:Md Fp.no hE h4:=(M2.next m3 fun j hj e=>by omega).thenG g4;exact(M4.next u5m fun j hj e=>by have:=(hS j (.inr e)).1;omega).next (u6.md (T:=fun j=>j=km) rfl) fun j hj e=>by omega
theorem k5v(T0:Tab hE)(Qt:Sq Ef.tb hE St tsl ts)(Q:Sq EI hE SL ls labels):Runs (go (.fn F.kcw [.agg c.cells,tsl.v,ls.v]) hE) (TrainP hE (trainC c ts labels).1 (trainC c ts labels).2.2):=by
 show Runs (go (.fn F.kcw [.agg [.int .i64 c.trees,.int .i64 c.depth,.int .i64 c.lambda,.int .i64 c.gamma,.int .i64 c.num,.int .i64 c.den,.int .i64 c.loss,.int .i64 c.clip],tsl.v,ls.v]) hE) _;rw[ky4];refine Runs.new fun h1 b1 g1=>Runs.new fun h2 b2 g2=>?_;have b1':=g2.has b1;refine Runs.step (b1'.rd 0 rfl (ke _ _)) (Runs.step (b1'.rd 1 rfl (ke _ _)) (Runs.step (b1'.rd 2 rfl (ke _ _)) (Runs.step (b1'.rd 3 rfl (ke _ _)) (Runs.step (b1'.rd 4 rfl (ke _ _)) (Runs.step (b1'.rd 5 rfl (ke _ _)) (Runs.step (b1'.rd 6 rfl (ke _ _)) (Runs.step (b1'.rd 7 rfl (ke _ _)) ?_)))))));have G2:=g1.trans g2;refine(kbam (c:=c) (Qt.grow G2) (Q.grow G2)).call fun v h3 ⟨ev,g3⟩=>?_;subst ev;refine Runs.step (seen (ke _ _)) ?_;have G3:=G2.trans g3;have z1:=g1.size;refine Runs.cond (fun a=>?_) fun a=>?_
 ·have hf:¬faultC c ts labels=0:=by
   intro e;rw[e]at a;simp at a
  refine Runs.puts (g3.has b2) rfl fun h4 b4 u4=>Runs.step (b4.rd 0 rfl (asSl_v _)) (Runs.ret ⟨⟨none,0,.is 0⟩,?_,?_,?_⟩)
  ·unfold trainC;rw[if_neg hf]
  ·unfold trainC;rw[if_neg hf];exact Sq.nil EM h4 Fp.all
  ·exact G3.updr (by omega) u4
 ·have hf:faultC c ts labels=0:=by simpa using a
  have hh:=hf;obtain⟨hc,hts0,h16,hbad,hll,hodd⟩:=kur hh;have hp:0<ts.length:=List.length_pos_iff.2 hts0
  have hL:labels.length≤256:=by
   have hg0:ts.getD 0 Tb.no=ts[0]:=by simp[List.getD,hp]
   rw[hll,hg0];have:=(kvo hbad hp).1;unfold tabR idsR at this;simp at this;omega
  have hd:=Cfg.right_depth hc;obtain⟨h4,e4,g4,V4⟩:=GF.mk (E:=EI) (elem:=T.int) (S:=Fp.no) (h:=h3) (n:=labels.length) (bytes:=Pg.bytesOf T.int) (l:=(ls.len:Int)) (c:=(ls.len:Int)) (cs:=[.int .i64 0]) (x:=(0:Int)) (fun h'=>rfl) Fp.not_no (by rw[Q.len]) (by rw[Q.len]) (by rw[knj];omega) (by omega);refine Runs.step e4 ?_;refine Runs.new fun h5 b5 g5=>?_;have G35:Grow h2 h5:=(g3.trans g4).trans g5;have G5:=G2.trans G35;refine Runs.step ((G35.has b1').rd 0 rfl (ke _ _)) ?_;have z2:=b1.lt;have z2':=b2.lt;have z3:=g3.size;have z4:h3.blks.size<h4.blks.size:=V4.lt;have z12:h2.blks.size=h2.blks.size:=rfl;unfold trainC;rw[if_pos hf];exact kzz T0 hf Qt Q (kc:=hE.blks.size) (kr:=h1.blks.size) (km:=h4.blks.size) (js:=h3.blks.size) (by omega) (by omega) (by omega) (by omega) (by omega) (by omega) (by omega) (by omega) (by omega) (by omega) c.trees.toNat 0 (by omega) [] (List.replicate labels.length 0) _ _ none Fp.no h5 rfl (by simp) (G5.md _) (G35.has b1') (G35.has b2) b5 (GF.none EM T.kbr h5 Fp.no) (fun j a=>by rcases a with a | a;exact a.elim;cases a) (V4.grow g5)
end
end Go.Ab

/- squeezed -/
set_option maxRecDepth 10000
namespace Go.Ab
open Go.Proofs Go.Num Go.Heap
theorem kbac{h:AH}{cs:List AV}(a:ArgT Pg h T.kdl cs):∃(s:Sl)(xs:List Int),cs=[s.v]∧Sq EI h Fp.no s xs:=k7p Fp.no kxm kch kg9 a
theorem kyx{h:AH}{cs:List AV}(a:ArgT Pg h T.kbj cs):∃x:Nd,cs=x.cells:=by
 obtain⟨hl,hf⟩:=a.struct kbai;rw[kpb]at hl
 match cs,hl with
 | [x0,x1,x2,x3,x4,x5,x6],_ =>
  simp[kg9,kxn]at hf;obtain⟨h0,h1,h2,h3,h4,h5,h6⟩:=hf;obtain⟨b,e0⟩:=h0.bool k1u;obtain⟨y1,e1,_⟩:=h1.int kch;obtain⟨y2,e2,_⟩:=h2.int kch;obtain⟨y3,e3,_⟩:=h3.int kch;obtain⟨y4,e4,_⟩:=h4.int kch;obtain⟨y5,e5,_⟩:=h5.int kch;obtain⟨y6,e6,_⟩:=h6.int kch;cases e0;cases e1;cases e2;cases e3;cases e4;cases e5;cases e6;exact⟨⟨b,y1,y2,y3,y4,y5,y6⟩,rfl⟩
theorem k7l{h:AH}{x:AV}(a:ArgV Pg h T.kce x):∃(s:Sl)(m:List (List Nd)),x=.agg [s.v]∧Sq EM h Fp.no s m:=by
 unfold ArgV at a;rw[ktv]at a;obtain⟨cs,rfl,t⟩:=a;obtain⟨hl,hf⟩:=t.struct ktv;rw[k5g]at hl
 match cs,hl with
 | [x0],_ =>
  simp[k84]at hf
  obtain⟨s,m,e,n⟩:=Sq.of_arg (E:=EM) (S:=Fp.no) k5f kqn (fun es t=>by
   obtain⟨hl,hf⟩:=t.struct kbas;rw[kqn]at hl
   match es,hl with
   | [y0],_ =>
    simp[k6v]at hf;obtain⟨s',l,e,n⟩:=Sq.of_arg (E:=Ef.nd) (S:=Fp.no) kzm kpb (fun es t=>kyx t) hf;cases e;exact⟨l,s',rfl,n⟩) hf
  cases e;exact⟨s,m,rfl,n⟩
theorem k7x{h:AH}{x:AV}(a:ArgV Pg h T.kns x):∃(s:Sl)(xs:List (List Int)),x=s.v∧Sq (Ef.seq EI) h Fp.no s xs:=by
 unfold ArgV at a;rw[kwd]at a
 obtain⟨s,xs,e,n⟩:=Sq.of_arg (E:=Ef.seq EI) (S:=Fp.no) kwd k6s (fun es t=>by
  obtain⟨s,l,e,n⟩:=kbac t;exact⟨l,s,e,n⟩) a
 cases e;exact⟨s,xs,rfl,n⟩
def awT:Tb:=⟨[0,1,2,3],[2],[[0,0,1,1]]⟩
def awC:Cfg:=⟨1,1,1,0,1,1,0,0⟩
def awM:List Nd:=[⟨false,0,0,0,0,1,2⟩,leafN 6,leafN (-7)]
theorem ku8:(trainC awC [awT] [10,10,-10,-10]).1=[awM]∧(trainC awC [awT] [10,10,-10,-10]).2.2=0:=by decide +kernel
theorem kky{h:AH}{i:Nat}{xs:List Int}{e:TypeId}(b:h.has i (xs.map (AV.int .i64)) e)(hs:xs.length≤9223372036854775807):Sq EI h (Fp.or (fun j=>j=i) Fp.no) ⟨some (.new i 0),xs.length,.is xs.length⟩ xs:=by
 refine Sq.lit (rows:=xs.map fun x=>[AV.int .i64 x]) (e:=e) ?_ ?_ rfl hs
 ·have:(xs.map fun x=>[AV.int .i64 x]).flatten=xs.map (AV.int .i64):=by
   clear b hs
   induction xs with
   | nil=>rfl
   | cons x xs ih=>rw[List.map_cons,List.flatten_cons,ih];rfl
  rw[this];exact b
 ·clear b hs
  induction xs with
  | nil=>exact .nil
  | cons x xs ih=>exact .cons rfl ih
section
variable{h0:AH}
theorem kwz(T0:Tab h0):Runs (go (.fn F.kps []) h0) fun v h'=>v=.bool true∧Grow h0 h':=by
 rw[k09];refine Runs.new fun h1 b1 g1=>Runs.new fun h2 b2 g2=>Runs.new fun h3 b3 g3=>Runs.new fun h4 b4 g4=>Runs.new fun h5 b5 g5=>Runs.puts b5 rfl fun h6 b6 u6=>?_;have G6:Grow h4 h6:=g5.updr (Nat.le_refl _) u6;refine Runs.step (b6.rd 0 rfl (asSl_v _)) (Runs.step (b6.rd 1 rfl (asSl_v _)) (Runs.step (b6.rd 2 rfl (asSl_v _)) ?_));refine Runs.new fun h7 b7 g7=>Runs.new fun h8 b8 g8=>?_;have G48:=(G6.trans g7).trans g8;have G08:Grow h0 h8:=(((g1.trans g2).trans g3).trans g4).trans G48;have q1:Sq EI h8 Fp.all ⟨some (.new h0.blks.size 0),4,.is 4⟩ [0,1,2,3]:=(kky (xs:=[0,1,2,3]) (((g2.trans g3).trans g4 |>.trans G48).has b1) (by decide)).mono fun _ _=>trivial;have q2:Sq EI h8 Fp.all ⟨some (.new h1.blks.size 0),1,.is 1⟩ [2]:=(kky (xs:=[2]) (((g3.trans g4).trans G48).has b2) (by decide)).mono fun _ _=>trivial;have q3:Sq EI h8 Fp.all ⟨some (.new h2.blks.size 0),4,.is 4⟩ [0,0,1,1]:=(kky (xs:=[0,0,1,1]) ((g4.trans G48).has b3) (by decide)).mono fun _ _=>trivial;have q4:Sq (Ef.seq EI) h8 Fp.all ⟨some (.new h3.blks.size 0),1,.is 1⟩ [[0,0,1,1]]:=(Sq.lit (E:=Ef.seq EI) (rows:=[[Sl.v ⟨some (.new h2.blks.size 0),4,.is 4⟩]]) (G48.has b4) (.cons ⟨_,rfl,q3⟩ .nil) rfl).mono fun _ _=>trivial;have q5:Sq Ef.tb h8 Fp.all ⟨some (.new h6.blks.size 0),1,.is 1⟩ [awT]:=(Sq.lit (E:=Ef.tb) (S:=Fp.all) (xs:=[awT]) (rows:=[[Sl.v ⟨some (.new h0.blks.size 0),4,.is 4⟩,Sl.v ⟨some (.new h1.blks.size 0),1,.is 1⟩,Sl.v ⟨some (.new h3.blks.size 0),1,.is 1⟩]]) (g8.has b7) (.cons ⟨_,_,_,rfl,q1,q2,q4⟩ .nil) rfl).mono fun _ _=>trivial;have Q:Sq EI h8 Fp.all ⟨some (.new h7.blks.size 0),4,.is 4⟩ [10,10,-10,-10]:=(kky (xs:=[10,10,-10,-10]) b8 (by decide)).mono fun _ _=>trivial;refine(k5v (c:=awC) (T0.grow G08) q5 Q).call fun v h9 ⟨s,e,V,g9⟩=>?_;subst e;rw[ku8.1]at V;rw[ku8.2];refine Runs.step rfl (Runs.step rfl (Runs.ifT rfl (Runs.step (seenAt rfl (asSl_v _)) (Runs.step (seen (ke _ _)) ?_))));refine Runs.new fun h10 b10 g10=>Runs.puts b10 rfl fun h11 b11 u11=>?_;have g911:Grow h9 h11:=g10.updr (Nat.le_refl _) u11;have V:=V.grow g911;refine Runs.ifF rfl (Runs.step (b11.rd 0 rfl (asSl_v _)) ?_);have ln:s.len=1:=V.len;rw[ln];refine Runs.ifF rfl (Runs.step (b11.rd 0 rfl (asSl_v _)) ?_);obtain⟨r,s',e1,-,e2,n'⟩:=V.sl (i:=0) (by decide);have n':Sq Ef.nd h11 Fp.all s' awM:=n';have ln':s'.len=3:=n'.len;refine Runs.step e1 (Runs.step e2 ?_);rw[ln'];refine Runs.ifF rfl (Runs.step (b11.rd 0 rfl (asSl_v _)) (Runs.step e1 (Runs.step e2 ?_)));obtain⟨r0,a0,a1,-⟩:=n'.nd (i:=0) (by decide);obtain⟨r1,b0,-,b1',-⟩:=n'.nd (i:=1) (by decide);obtain⟨r2,c0,-,c1',-⟩:=n'.nd (i:=2) (by decide);refine Runs.step a0 (Runs.step a1 (Runs.ifT rfl (Runs.step b0 (Runs.step b1' (Runs.ifT rfl (Runs.step c0 (Runs.step c1' (Runs.ret ⟨rfl,?_⟩))))))));exact(G08.trans g9).trans g911
end
end Go.Ab

/- squeezed -/
set_option maxRecDepth 10000
namespace Go.Ab
open Go.Proofs Go.Num Go.Heap
def evalN(row:List (List Int))(t:List Nd):Nat→Nat→Option Int
 | 0,_=>none
 | f+1,i=>if(t.getD i Nd.no).leaf=true then some (t.getD i Nd.no).weight else if(t.getD i Nd.no).party≥(row.length:Int)then none
  else if(t.getD i Nd.no).feature≥((row.getD (t.getD i Nd.no).party.toNat []).length:Int)then none
  else evalN row t f (if(row.getD (t.getD i Nd.no).party.toNat []).getD (t.getD i Nd.no).feature.toNat 0≤(t.getD i Nd.no).cut then(t.getD i Nd.no).left.toNat else(t.getD i Nd.no).right.toNat)
def evalM(row:List (List Int)):List (List Nd)→Int→Int×Int
 | [],s=>(s,0)
 | t::m,s=>match evalN row t 64 0 with
  | none=>(0,1)
  | some w=>evalM row m (IntKind.wrap .i64 (s+w))
def evalF(row:List (List Int))(m:List (List Nd)):Int×Int:=if modR m=true then evalM row m 0 else(0,1)
theorem kk3{t:List Nd}(h:treeR t=true):1≤t.length∧t.length≤63∧∀(i:Nat)(hi:i<t.length),(t[i]).may (i:Int) (t.length:Int):=by
 unfold treeR at h;simp only[Bool.and_eq_true,Bool.not_eq_true',decide_eq_false_iff_not,List.all_eq_true,List.mem_range]at h;obtain⟨⟨h1,h2⟩,h3⟩:=h;refine⟨by omega,by omega,fun i hi=>?_⟩;have:=h3 i hi;unfold nodesR at this;rw[decide_eq_true_eq]at this
 simpa[List.getD,hi]using this
section
variable{row:List (List Int)}{t:List Nd}{hE:AH}{S Sr:Fp}{tl rl ml:Sl}{kn kt:Nat}{s n z:Int}
theorem eval_8(hm:treeR t=true)(N:Sq Ef.nd hE S tl t)(R:Sq (Ef.seq EI) hE Sr rl row)(hkn:hE.blks.size≤kn)(ne:kt≠kn){P:AV→AH→Prop} :
  ∀(f i:Nat)(hi:i<t.length),t.length≤i+f→∀(h:AH),Grow hE h→h.has kt [tl.v] T.kbr→h.has kn (t[i]).cells T.kbj→
  (∀w h',evalN row t f i=some w→Grow hE h'→Runs (go (.pt F.kc0 Td.kjf [(1,rl.v),(6,.int .i64 (IntKind.wrap .i64 (s+w))),(15,ml.v),(16,.int .i64 n),(17,.int .i64 (IntKind.wrap .i64 (z+1)))]) h') P)→
  (∀h',evalN row t f i=none→Grow hE h'→P (.tup [.int .i64 0,.int .i64 1]) h')→
  Runs (go (.pt F.kc0 Td.ki9 [(1,rl.v),(6,.int .i64 s),(8,.ptr (some (.new kt 0))),(9,.ptr (some (.new kn 0))),(15,ml.v),(16,.int .i64 n),(17,.int .i64 z)]) h) P:=by
 obtain⟨h1,h63,may⟩:=kk3 hm;intro f
 induction f with
 | zero=>intro i hi hf;omega
 | succ f ih =>
  intro i hi hf h g Bt Bn H0 H1;have hx:t.getD i Nd.no=t[i]:=by simp[List.getD,hi]
  have hmay:=may i hi;rw[evalN,hx]at H0 H1;unfold Nd.cells at Bn;unfold Nd.may at hmay;rw[kyz];refine Runs.step (Bn.rd 0 rfl rfl) (Runs.cond (fun c=>?_) fun c=>?_)
  ·rw[Bool.not_eq_true']at c;rw[c,if_neg (by decide)]at hmay H0 H1;obtain⟨-,hp0,-,hf0,-,-,-,hl1,hl2,hr1,hr2,-⟩:=hmay;refine Runs.step (Bn.rd 2 rfl (ke _ _)) ?_;rw[R.len];refine Runs.cond (fun d=>?_) fun d=>?_
   ·rw[decide_eq_true_eq]at d;rw[if_pos d]at H1;exact Runs.ret (H1 h rfl g)
   rw[decide_eq_false_iff_not]at d;rw[if_neg d]at H0 H1;obtain⟨p,hp⟩:∃p:Nat,(t[i]).party=(p:Int):=⟨(t[i]).party.toNat,by omega⟩;obtain⟨q,hq⟩:∃q:Nat,(t[i]).feature=(q:Int):=⟨(t[i]).feature.toNat,by omega⟩;have hpl:p<row.length:=by omega
   have hgr:row.getD (t[i]).party.toNat []=row[p]:=by rw[hp];simp[List.getD,hpl]
   rw[hgr]at H0 H1;obtain⟨r,s',e1,e2,-,n'⟩:=(R.grow g).sl hpl;rw[← hp]at e1;rw[R.len]at e1;refine Runs.step (Bn.rd 3 rfl (ke _ _)) (Runs.step (Bn.rd 2 rfl (ke _ _)) (Runs.step e1 (Runs.step e2 ?_)));rw[n'.len];refine Runs.cond (fun d2=>?_) fun d2=>?_
   ·rw[decide_eq_true_eq]at d2;rw[if_pos d2]at H1;exact Runs.ret (H1 h rfl g)
   rw[decide_eq_false_iff_not]at d2;rw[if_neg d2]at H0 H1;have hql:q<(row[p]).length:=by omega
   have hgq:(row[p]).getD (t[i]).feature.toNat 0=row[p][q]:=by rw[hq];simp[List.getD,hql]
   rw[hgq]at H0 H1;obtain⟨r2,e3,e4⟩:=n'.int hql;rw[← hq]at e3;rw[n'.len]at e3;refine Runs.step (Bn.rd 6 rfl (ke _ _)) (Runs.step (Bn.rd 2 rfl (ke _ _)) (Runs.step e1 (Runs.step e2 (Runs.step (Bn.rd 3 rfl (ke _ _)) ?_))));rw[n'.len];refine Runs.step e3 (Runs.step e4 (Runs.step (Bn.rd 4 rfl (ke _ _)) ?_));refine Runs.cond (fun b=>?_) fun b=>?_
   ·rw[decide_eq_true_eq]at b;rw[if_pos b]at H0 H1;obtain⟨j,hj⟩:∃j:Nat,(t[i]).left=(j:Int):=⟨(t[i]).left.toNat,by omega⟩;rw[hj,Int.toNat_natCast]at H0 H1;have hjl:j<t.length:=by omega
    obtain⟨r3,y,y0,y1,y2,y3,y4,y5,y6⟩:=(N.grow g).nd hjl;rw[← hj]at y;refine Runs.step (Bn.rd 5 rfl (ke _ _)) (Runs.step (Bt.rd 0 rfl (asSl_v _)) (Runs.step y (Runs.step y0 (Runs.step y1 (Runs.step y2 (Runs.step y3 (Runs.step y4 (Runs.step y5 (Runs.step y6 ?_)))))))));refine Runs.puts Bn rfl fun h' B' u'=>?_;have ge:=g.updr hkn u';exact ih j hjl (by omega) h' ge (Bt.updr ne u') B' H0 H1
   ·rw[decide_eq_false_iff_not]at b;rw[if_neg b]at H0 H1;obtain⟨j,hj⟩:∃j:Nat,(t[i]).right=(j:Int):=⟨(t[i]).right.toNat,by omega⟩;rw[hj,Int.toNat_natCast]at H0 H1;have hjl:j<t.length:=by omega
    obtain⟨r3,y,y0,y1,y2,y3,y4,y5,y6⟩:=(N.grow g).nd hjl;rw[← hj]at y;refine Runs.step (Bt.rd 0 rfl (asSl_v _)) (Runs.step y (Runs.step y0 (Runs.step y1 (Runs.step y2 (Runs.step y3 (Runs.step y4 (Runs.step y5 (Runs.step y6 ?_))))))));refine Runs.puts Bn rfl fun h' B' u'=>?_;have ge:=g.updr hkn u';exact ih j hjl (by omega) h' ge (Bt.updr ne u') B' H0 H1
  ·rw[Bool.not_eq_false']at c;rw[c,if_pos rfl]at H0;exact Runs.step (Bn.rd 1 rfl (ke _ _)) (H0 _ h rfl g)
theorem ref_10(hm:treeR t=true)(N:Sq Ef.nd hE S tl t)(R:Sq (Ef.seq EI) hE Sr rl row){P:AV→AH→Prop} :
  ∀(f i:Nat)(hi:i<t.length),t.length≤i+f→∀(h:AH),Grow hE h→
  (∀w h',evalN row t f i=some w→Grow hE h'→Runs (go (.pt F.kc1 Td.kik [(1,rl.v),(2,.ptr (some (.new kt 0))),(7,.int .i64 (IntKind.wrap .i64 (s+w))),(8,.int .i64 (IntKind.wrap .i64 (z+1)))]) h') P)→
  (∀h',evalN row t f i=none→Grow hE h'→P (.tup [.int .i64 0,.int .i64 1]) h')→
  Runs (go (.pt F.kc1 Td.kiz [(1,rl.v),(2,.ptr (some (.new kt 0))),(7,.int .i64 s),(8,.int .i64 z),(9,tl.v),(10,.int .i64 (i:Int))]) h) P:=by
 obtain⟨h1,h63,may⟩:=kk3 hm;intro f
 induction f with
 | zero=>intro i hi hf;omega
 | succ f ih =>
  intro i hi hf h g H0 H1;have hx:t.getD i Nd.no=t[i]:=by simp[List.getD,hi]
  have hmay:=may i hi;rw[evalN,hx]at H0 H1;unfold Nd.may at hmay;obtain⟨r3,y,y0,y1,y2,y3,y4,y5,y6⟩:=(N.grow g).nd hi;rw[k8z];refine Runs.step y (Runs.step y0 (Runs.cond (fun c=>?_) fun c=>?_))
  ·rw[Bool.not_eq_true']at c;rw[c,if_neg (by decide)]at hmay H0 H1;obtain⟨-,hp0,-,hf0,-,-,-,hl1,hl2,hr1,hr2,-⟩:=hmay;refine Runs.step y (Runs.step y0 (Runs.step y1 (Runs.step y2 (Runs.step y3 (Runs.step y4 (Runs.step y5 (Runs.step y6 ?_)))))));refine Runs.new fun h3 b3 g3=>Runs.puts b3 rfl fun h4 Bn u4=>?_;have G:Grow h h4:=g3.updr (Nat.le_refl _) u4;have g:=g.trans G;refine Runs.step (Bn.rd 2 rfl (ke _ _)) ?_;rw[R.len];refine Runs.cond (fun d=>?_) fun d=>?_
   ·rw[decide_eq_true_eq]at d;rw[if_pos d]at H1;exact Runs.ret (H1 h4 rfl g)
   rw[decide_eq_false_iff_not]at d;rw[if_neg d]at H0 H1;obtain⟨p,hp⟩:∃p:Nat,(t[i]).party=(p:Int):=⟨(t[i]).party.toNat,by omega⟩;obtain⟨q,hq⟩:∃q:Nat,(t[i]).feature=(q:Int):=⟨(t[i]).feature.toNat,by omega⟩;have hpl:p<row.length:=by omega
   have hgr:row.getD (t[i]).party.toNat []=row[p]:=by rw[hp];simp[List.getD,hpl]
   rw[hgr]at H0 H1;obtain⟨r,s',e1,e2,-,n'⟩:=(R.grow g).sl hpl;rw[← hp]at e1;rw[R.len]at e1;refine Runs.step (Bn.rd 3 rfl (ke _ _)) (Runs.step (Bn.rd 2 rfl (ke _ _)) (Runs.step e1 (Runs.step e2 ?_)));rw[n'.len];refine Runs.cond (fun d2=>?_) fun d2=>?_
   ·rw[decide_eq_true_eq]at d2;rw[if_pos d2]at H1;exact Runs.ret (H1 h4 rfl g)
   rw[decide_eq_false_iff_not]at d2;rw[if_neg d2]at H0 H1;have hql:q<(row[p]).length:=by omega
   have hgq:(row[p]).getD (t[i]).feature.toNat 0=row[p][q]:=by rw[hq];simp[List.getD,hql]
   rw[hgq]at H0 H1;obtain⟨r2,e3,e4⟩:=n'.int hql;rw[← hq]at e3;rw[n'.len]at e3;refine Runs.step (Bn.rd 6 rfl (ke _ _)) (Runs.step (Bn.rd 2 rfl (ke _ _)) (Runs.step e1 (Runs.step e2 (Runs.step (Bn.rd 3 rfl (ke _ _)) ?_))));rw[n'.len];refine Runs.step e3 (Runs.step e4 (Runs.step (Bn.rd 4 rfl (ke _ _)) ?_));refine Runs.cond (fun b=>?_) fun b=>?_
   ·rw[decide_eq_true_eq]at b;rw[if_pos b]at H0 H1;obtain⟨j,hj⟩:∃j:Nat,(t[i]).left=(j:Int):=⟨(t[i]).left.toNat,by omega⟩;rw[hj,Int.toNat_natCast]at H0 H1;refine Runs.step (Bn.rd 5 rfl (ke _ _)) ?_;rw[hj];exact ih j (by omega) (by omega) h4 g H0 H1
   ·rw[decide_eq_false_iff_not]at b;rw[if_neg b]at H0 H1;obtain⟨j,hj⟩:∃j:Nat,(t[i]).right=(j:Int):=⟨(t[i]).right.toNat,by omega⟩;rw[hj,Int.toNat_natCast]at H0 H1;rw[hj];exact ih j (by omega) (by omega) h4 g H0 H1
  ·rw[Bool.not_eq_false']at c;rw[c,if_pos rfl]at H0;exact Runs.step y (Runs.step y1 (H0 _ h rfl g))
end
section
variable{row:List (List Int)}{m:List (List Nd)}{hE:AH}{S Sr:Fp}{rl ml:Sl}
theorem kvd{m:List (List Nd)}(h:modR m=true):m.length≤16∧∀(k:Nat)(hk:k<m.length),treeR m[k]=true:=by
 unfold modR at h;simp only[Bool.and_eq_true,Bool.not_eq_true',decide_eq_false_iff_not,List.all_eq_true]at h;exact⟨by omega,fun k hk=>h.2 _ (List.getElem_mem hk)⟩
theorem eval_5(hm:modR m=true)(M:Sq EM hE S ml m)(R:Sq (Ef.seq EI) hE Sr rl row):∀(k z:Nat),z+k=m.length→∀(s:Int){h:AH},Grow hE h→
  Runs (go (.pt F.kc0 Td.kjf [(1,rl.v),(6,.int .i64 s),(15,ml.v),(16,.int .i64 (m.length:Int)),(17,.int .i64 (z:Int))]) h) fun v h'=>v=.tup [.int .i64 (evalM row (m.drop z) s).1,.int .i64 (evalM row (m.drop z) s).2]∧Grow hE h':=by
 obtain⟨h16,hT⟩:=kvd hm;intro k
 induction k with
 | zero =>
  intro z hz s h g;rw[kvv,List.drop_of_length_le (by omega)];exact Runs.ifF (decide_eq_false (by omega)) (Runs.ret ⟨rfl,g⟩)
 | succ k ih =>
  intro z hz s h g;have hlt:z<m.length:=by omega
  have ht:=hT z hlt;obtain⟨h1,h63,may⟩:=kk3 ht;obtain⟨r,tl,e1,-,e2,n'⟩:=(M.grow g).sl hlt;rw[kvv,List.drop_eq_getElem_cons hlt];refine Runs.ifT (decide_eq_true (by omega)) (Runs.step e1 (Runs.step e2 (Runs.new fun h2 b2 g2=>Runs.puts b2 rfl fun h3 b3 u3=>?_)));have G3:Grow h h3:=g2.updr (Nat.le_refl _) u3;obtain⟨r3,y,y0,y1,y2,y3,y4,y5,y6⟩:=(n'.grow G3).nd (i:=0) h1;refine Runs.step (b3.rd 0 rfl (asSl_v _)) (Runs.step y (Runs.step y0 (Runs.step y1 (Runs.step y2 (Runs.step y3 (Runs.step y4 (Runs.step y5 (Runs.step y6 ?_))))))));refine Runs.new fun h4 b4 g4=>Runs.puts b4 rfl fun h5 b5 u5=>?_;have G5:Grow h3 h5:=g4.updr (Nat.le_refl _) u5;have z3:=b3.lt;have g3:=g.trans G3;rw[evalM];refine eval_8 (t:=m[z]) (hE:=h3) ht (n'.grow G3) (R.grow g3) (Nat.le_refl _) (by omega) 64 0 h1 (by omega) h5 G5 (G5.has b3) b5 (fun w h' e g'=>?_) (fun h' e g'=>?_)
  ·rw[e,ks (by omega)];exact ih (z+1) (by omega) _ (g3.trans g')
  ·rw[e];exact⟨rfl,g3.trans g'⟩
theorem k1a(M:Sq EM hE S ml m)(R:Sq (Ef.seq EI) hE Sr rl row):Runs (go (.fn F.kc0 [.agg [ml.v],rl.v]) hE) fun v h'=>v=.tup [.int .i64 (evalF row m).1,.int .i64 (evalF row m).2]∧Grow hE h':=by
 rw[kze];refine Runs.new fun h1 b1 g1=>Runs.step (b1.rd 0 rfl (asSl_v _)) ?_;refine(k36 (M.grow g1)).call fun v h2 ⟨e,g2⟩=>?_;subst e;have G:=g1.trans g2;refine Runs.step (seen rfl) ?_;unfold evalF;refine Runs.cond (fun c=>Runs.ret ⟨?_,G⟩) fun c=>?_
 ·rw[Bool.not_eq_true']at c;rw[c];rfl
 rw[Bool.not_eq_false']at c;rw[if_pos c];refine Runs.step ((g2.has b1).rd 0 rfl (asSl_v _)) ?_;rw[M.len];exact eval_5 c M R m.length 0 (by omega) 0 G
theorem ref_6(hm:modR m=true)(M:Sq EM hE S ml m)(R:Sq (Ef.seq EI) hE Sr rl row){kb:Nat}(B:hE.has kb [ml.v] T.kce):∀(k z:Nat),z+k=m.length→∀(s:Int){h:AH},Grow hE h→
  Runs (go (.pt F.kc1 Td.kik [(1,rl.v),(2,.ptr (some (.new kb 0))),(7,.int .i64 s),(8,.int .i64 (z:Int))]) h) fun v h'=>v=.tup [.int .i64 (evalM row (m.drop z) s).1,.int .i64 (evalM row (m.drop z) s).2]∧Grow hE h':=by
 obtain⟨h16,hT⟩:=kvd hm;intro k
 induction k with
 | zero =>
  intro z hz s h g;rw[krf,List.drop_of_length_le (by omega)];refine Runs.step ((g.has B).rd 0 rfl (asSl_v _)) ?_;rw[M.len];exact Runs.ifF (decide_eq_false (by omega)) (Runs.ret ⟨rfl,g⟩)
 | succ k ih =>
  intro z hz s h g;have hlt:z<m.length:=by omega
  have ht:=hT z hlt;obtain⟨h1,h63,may⟩:=kk3 ht;obtain⟨r,tl,e1,-,e2,n'⟩:=(M.grow g).sl hlt;rw[krf,List.drop_eq_getElem_cons hlt];have B1:=g.has B;refine Runs.step (B1.rd 0 rfl (asSl_v _)) ?_;rw[M.len];rw[M.len]at e1;refine Runs.ifT (decide_eq_true (by omega)) (Runs.step (B1.rd 0 rfl (asSl_v _)) ?_);rw[M.len];refine Runs.step e1 (Runs.step e2 ?_);rw[evalM];refine ref_10 (t:=m[z]) (hE:=h) ht n' (R.grow g) 64 0 h1 (by omega) h (Grow.refl _) (fun w h' e g'=>?_) (fun h' e g'=>?_)
  ·rw[e,ks (by omega)];exact ih (z+1) (by omega) _ (g.trans g')
  ·rw[e];exact⟨rfl,g.trans g'⟩
theorem k7u(M:Sq EM hE S ml m)(R:Sq (Ef.seq EI) hE Sr rl row):Runs (go (.fn F.kc1 [.agg [ml.v],rl.v]) hE) fun v h'=>v=.tup [.int .i64 (evalF row m).1,.int .i64 (evalF row m).2]∧Grow hE h':=by
 rw[k9l];refine Runs.new fun h1 b1 g1=>Runs.step (b1.rd 0 rfl (asSl_v _)) ?_;refine(k66 (M.grow g1)).call fun v h2 ⟨e,g2⟩=>?_;subst e;have G:=g1.trans g2;refine Runs.step (seen rfl) ?_;unfold evalF;refine Runs.cond (fun c=>Runs.ret ⟨?_,G⟩) fun c=>?_
 ·rw[Bool.not_eq_true']at c;rw[c];rfl
 rw[Bool.not_eq_false']at c;rw[if_pos c];exact(ref_6 c (M.grow G) (R.grow G) (g2.has b1) m.length 0 (by omega) 0 (Grow.refl _)).imp fun v h' ⟨a,b⟩=>⟨a,G.trans b⟩
end
theorem CentralEvalsCard_law(h:AH)(T0:Tab h){x1 x2:AV}(z1:ArgV Pg h T.kce x1)(z2:ArgV Pg h T.kns x2):∃h',go (.fn F.kqo [x1,x2]) h=some (.bool true,h'):=by
 obtain⟨ml,m,rfl,M⟩:=k7l z1;obtain⟨rl,row,rfl,R⟩:=k7x z2
 suffices H:Runs (go (.fn F.kqo [.agg [ml.v],rl.v]) h) fun v _=>v=.bool true by
  obtain⟨_,h',e,rfl⟩:=H;exact⟨h',e⟩
 rw[ky3];refine Runs.new fun h1 b1 g1=>?_;refine(kwz (T0.grow g1)).call fun v h2 ⟨e,g2⟩=>?_;subst e;have G2:=g1.trans g2;refine Runs.step (seen rfl) (Runs.step ((g2.has b1).rd 0 rfl (asSl_v _)) ?_);refine(k1a (M.grow G2) (R.grow G2)).call fun v h3 ⟨e,g3⟩=>?_;subst e;have G3:=G2.trans g3;refine Runs.step rfl (Runs.step (seen (ke _ _)) (Runs.step (seen (ke _ _)) (Runs.step ((g3.has (g2.has b1)).rd 0 rfl (asSl_v _)) ?_)));refine(k7u (M.grow G3) (R.grow G3)).call fun v h4 ⟨e,g4⟩=>?_;subst e;refine Runs.step rfl (Runs.step (seen (ke _ _)) (Runs.step (seen (ke _ _)) (Runs.ifT rfl (Runs.ifT (decide_eq_true rfl) (Runs.ret ?_)))));rw[decide_eq_true rfl]
end Go.Ab

/- squeezed -/
set_option maxRecDepth 10000
namespace Go.Ab
open Go.Proofs Go.Num Go.Heap
section
variable{h0:AH}{Sg Sx St:Fp}{gs x s1 s2 s3:Sl}{g:List Int}{R:List Nat}{t:Tb}
end
section
variable{h0:AH}{Sg Sx St:Fp}{gs tsl x:Sl}{g:List Int}{R:List Nat}{z:Nat}{ts:List Tb}
end
end Go.Ab

/- squeezed -/
set_option maxRecDepth 10000
namespace Go.Ab
open Go.Proofs Go.Num Go.Heap
@[reducible] def Ef.wg:Ef (List Nat×Nat) where
 w:=2
 pos:=by decide
 has h S cs x:=∃y:Sl,cs=[y.v,.int .i64 (x.2:Int)]∧Sq EI h S y (zs x.1)
 len:=fun⟨_,e,_⟩=>by rw[e];rfl
 grow g:=fun⟨a,e,n⟩=>⟨a,e,n.grow g⟩
 mono f:=fun⟨a,e,n⟩=>⟨a,e,n.mono f⟩
 upd no u:=fun⟨a,e,n⟩=>⟨a,e,n.upd no u⟩
 bound:=fun⟨a,e,n⟩=>⟨a,e,n.bound⟩
theorem Sq.wg{h:AH}{S:Fp}{s:Sl}{xs:List (List Nat×Nat)}(n:Sq Ef.wg h S s xs){i:Nat}(hi:i<xs.length):∃(r:Ref)(y:Sl),idx s.ref s.len (i:Int) 2=some r∧(h.cell (r.add 0)).bind AV.asSl=some y∧(h.cell (r.add 1)).bind (AV.asInt .i64)=some ((xs[i].2:Nat):Int)∧Sq EI h S y (zs xs[i].1):=by
 obtain⟨r,cs,e1,⟨y,rfl,t⟩,l⟩:=n.at (keq hi);rw[n.len];exact⟨r,y,e1,l.rd (Grow.refl _) 0 rfl (asSl_v _),l.rd (Grow.refl _) 1 rfl (ke _ _),t⟩
structure RgAt(c:Cfg)(hE:AH)(scs:Sl)(js kc kr:Nat)(nd ws:Sl)(jn jw:Nat)(S:Fp)(nodes:List Nd)(L:List (List Nat×Nat))(sc:List Int)(h:AH):Prop where
 md:Md (fun j=>j=js) hE h
 cfg:h.has kc c.cells T.kci
 res:∃x:Sl,h.has kr [x.v] T.kbr
 nds:GF Ef.nd T.kbj h Fp.no nd (some jn) nodes
 wts:GF Ef.wg T.kbbo h S ws (some jw) L
 sco:GF EI T.int h Fp.no scs (some js) sc
 fS:∀m,S m→hE.blks.size≤m∧m≠kc∧m≠kr∧m≠jn
 ge:hE.blks.size≤kc∧hE.blks.size≤kr∧hE.blks.size≤jn∧hE.blks.size≤jw
 ne:kc≠kr∧kc≠jn∧kc≠jw∧kr≠jn∧kr≠jw∧jn≠jw
section
variable{c:Cfg}{hE:AH}{scs gs tsl nd ws x:Sl}{js kc kr jn jw:Nat}{S Sx St Sg:Fp}{nodes:List Nd}{L:List (List Nat×Nat)}{sc g:List Int}{ts:List Tb}{h:AH}{R:List Nat}
theorem RgAt.grow(A:RgAt c hE scs js kc kr nd ws jn jw S nodes L sc h){h':AH}(g:Grow h h'):RgAt c hE scs js kc kr nd ws jn jw S nodes L sc h':=by
 obtain⟨md,cfg,⟨y,res⟩,nds,wts,sco,fS,ge,ne⟩:=A;exact⟨md.thenG g,g.has cfg,⟨y,g.has res⟩,nds.grow g,wts.grow g,sco.grow g,fS,ge,ne⟩
theorem RgAt.setn(A:RgAt c hE scs js kc kr nd ws jn jw S nodes L sc h)(hjs:js<hE.blks.size){i:Nat}(hi:i<nodes.length)(y:Nd):∃(r:Ref)(h':AH),idx nd.ref nd.len (i:Int) 7=some r∧h.puts r y.cells=some h'∧Upd h h' jn∧RgAt c hE scs js kc kr nd ws jn jw S (nodes.set i y) L sc h':=by
 obtain⟨md,cfg,⟨z,res⟩,nds,wts,sco,fS,ge,ne⟩:=A;obtain⟨n1,n2,n3,n4,n5,n6⟩:=ne;obtain⟨ge1,ge2,ge3,ge4⟩:=ge;obtain⟨r,h1,e1,p1,V1,u1⟩:=nds.set (T:=Fp.no) (x:=y) (show Ef.nd.has h Fp.no y.cells y from rfl) Fp.not_no (kbd hi);have u1:Upd h h1 jn:=u1;have e1:idx nd.ref nodes.length (i:Int) 7=some r:=e1;rw[← nds.len]at e1;refine⟨r,h1,e1,p1,u1,md.next (u1.md (T:=fun j=>j=jn) rfl) (fun j hj e=>by omega),cfg.updr n2 u1,⟨z,res.updr n4 u1⟩,V1.mono (fun j x=>x.elim id id) Fp.not_no,wts.upd u1 (fun a=>(fS _ a).2.2.2 rfl) (fun k e=>by cases e;exact fun e=>n6 e.symm),sco.upd u1 Fp.not_no (fun k e=>by cases e;omega),fS,⟨ge1,ge2,ge3,ge4⟩,⟨n1,n2,n3,n4,n5,n6⟩⟩
end
end Go.Ab

/- squeezed -/
set_option maxRecDepth 10000
namespace Go.Ab
open Go.Proofs Go.Num Go.Heap
section
variable{c:Cfg}{hE:AH}{scs gs tsl nd ws x:Sl}{js kc kr jn jw:Nat}{S Sx St Sg:Fp}{nodes:List Nd}{L:List (List Nat×Nat)}{sc g:List Int}{ts:List Tb}{h:AH}{R:List Nat}
theorem RgAt.lts(A:RgAt c hE scs js kc kr nd ws jn jw S nodes L sc h):kc<h.blks.size∧kr<h.blks.size∧jn<h.blks.size∧jw<h.blks.size∧js<h.blks.size∧hE.blks.size≤h.blks.size:=by
 obtain⟨md,cfg,⟨z,res⟩,nds,wts,sco,fS,ge,ne⟩:=A;exact⟨cfg.lt,res.lt,nds.lt,wts.lt,sco.lt,md.size⟩
end
end Go.Ab
