/- squeezed -/
import Derived.Test.YtnoegamaadakpaaGreatDoorPQ2
import Derived.Test.YtnoegamaadakpaaGreatDoorPAbsU
import Derived.Test.YtnoegamaadakpaaGreatDoorPS42
set_option linter.unusedVariables false
set_option linter.unusedSimpArgs false
set_option linter.unusedSectionVars false

set_option maxRecDepth 10000
namespace Go.Ab
open Go.Proofs
section
variable{h0:AH}{S:Fp}{s1 s2 s3 s u:Sl}{t:Tb}{n:Int}{w:List Nat}{g:List Int}
theorem kbgc(q:TabAt h0 S s1 s2 s3 t)(hR:tabR t=true){b:Nat}(B:h0.has b [s1.v,s2.v,s3.v] T.kz){f:Nat}(hf:f<t.cols.length){Q:AV→AH→Prop}(hP:∀(h:AH)(y:Sl)(j:Option Nat),Grow h0 h→LeO h0.blks.size j→GF EP T.kd2 h Fp.no y j (zc (cutsTo t (f+1)))→Runs (go (.pt F.kdl Td.kma [(1,.ptr (some (.new b 0))),(3,.bool true),(4,y.v),(5,.int .i64 ((f+1:Nat):Int))]) h) Q) :
  ∀(k c:Nat),c+k=nb t f→∀(h:AH)(y:Sl)(j:Option Nat),Grow h0 h→LeO h0.blks.size j→GF EP T.kd2 h Fp.no y j (zc (cutsTo t f++(List.range c).map fun c=>(f,c)))→
  Runs (go (.pt F.kdl Td.koa [(1,.ptr (some (.new b 0))),(3,.bool true),(4,y.v),(5,.int .i64 (f:Int)),(6,.int .i64 (c:Int))]) h) Q:=by
 obtain⟨hids,hcols,hbins,hall⟩:=keo hR;obtain⟨hb,hb2,hb32,hcl⟩:=kgy (hall f hf) hf hbins;have hgd:t.bins.getD f 0=t.bins[f]:=by simp[List.getD,hb]
 have hnb:(nb t f:Int)=t.bins[f]-1:=by
  unfold nb;rw[hgd];omega
 have hlen:(cutsTo t f).length≤31*f:=koo t f fun i hi=>by
  obtain⟨hb',h2',h32',-⟩:=kgy (hall i (by omega)) (by omega) hbins;have:t.bins.getD i 0=t.bins[i]:=by simp[List.getD,hb']
  unfold nb;rw[this];omega
 intro k
 induction k with
 | zero =>
  intro c hc h y j G lj V;obtain rfl:c=nb t f:=by omega
  rw[← ktx]at V;obtain⟨r,e1,e2⟩:=(q.bins.grow G).int hb;rw[kzf];refine Runs.step ((G.has B).rd 1 rfl (asSl_v _)) (Runs.step e1 (Runs.step e2 ?_));rw[wrap64 (n:=t.bins[f]-1) (by omega) (by omega),← hnb];refine Runs.ifF (decide_eq_false (by omega)) ?_;rw[ki (by omega)];exact hP h y j G lj V
 | succ k ih =>
  intro c hc h y j G lj V;obtain⟨r,e1,e2⟩:=(q.bins.grow G).int hb;rw[kzf];refine Runs.step ((G.has B).rd 1 rfl (asSl_v _)) (Runs.step e1 (Runs.step e2 ?_));rw[wrap64 (n:=t.bins[f]-1) (by omega) (by omega),← hnb];refine Runs.ifT (decide_eq_true (by omega)) ?_;refine Runs.new fun h2 b2 g2=>?_;refine Runs.step (kfq b2 (by rw[kbh1];rfl)) ?_
  have hl:(zc (cutsTo t f++(List.range c).map fun c=>(f,c))).length≤1000:=by
   rw[zc_len,List.length_append,List.length_map,List.length_range];omega
  obtain⟨y',h3,e3,V3,u3⟩:=(V.grow g2).push (T:=Fp.no) (EP.of (f:Int) (c:Int)) NotO.no (kbg2 (by omega));refine Runs.step e3 (Runs.step (asSl_v _) ?_);rw[ki (by omega)];refine ih (c+1) (by omega) h3 y' (some h2.blks.size) ((G.trans g2).updo lj u3) (show _≤_ from(G.trans g2).size) ?_;rw[List.range_succ,List.map_append,← List.append_assoc,zc_app];exact V3.mono (fun j x=>x.1.elim id id) NotO.no
theorem kbhm(q:TabAt h0 S s1 s2 s3 t)(hR:tabR t=true){b:Nat}(B:h0.has b [s1.v,s2.v,s3.v] T.kz):∀(k f:Nat),f+k=t.cols.length→∀(h:AH)(y:Sl)(j:Option Nat),Grow h0 h→LeO h0.blks.size j→GF EP T.kd2 h Fp.no y j (zc (cutsTo t f))→
  Runs (go (.pt F.kdl Td.kma [(1,.ptr (some (.new b 0))),(3,.bool true),(4,y.v),(5,.int .i64 (f:Int))]) h) fun v h'=>Grow h0 h'∧∃(y:Sl)(j:Option Nat),v=y.v∧LeO h0.blks.size j∧GF EP T.kd2 h' Fp.no y j (zc (cutsTo t t.cols.length)):=by
 obtain⟨hids,hcols,hbins,hall⟩:=keo hR;intro k
 induction k with
 | zero =>
  intro f hf h y j G lj V;obtain rfl:f=t.cols.length:=by omega
  rw[kr8];refine Runs.ifT rfl (Runs.step ((G.has B).rd 2 rfl (asSl_v _)) ?_);rw[q.cols.len];exact Runs.ifF (decide_eq_false (by omega)) (Runs.ret ⟨G,y,j,rfl,lj,V⟩)
 | succ k ih =>
  intro f hf h y j G lj V;rw[kr8];refine Runs.ifT rfl (Runs.step ((G.has B).rd 2 rfl (asSl_v _)) ?_);rw[q.cols.len];refine Runs.ifT (decide_eq_true (by omega)) ?_;exact kbgc q hR B (by omega) (fun h y j G lj V=>ih (f+1) (by omega) h y j G lj V) (nb t f) 0 (by omega) h y j G lj (by simpa using V)
theorem kbdy(q:TabAt h0 S s1 s2 s3 t):Runs (go (.fn F.kdl [.agg [s1.v,s2.v,s3.v]]) h0) fun v h'=>Grow h0 h'∧∃(y:Sl)(j:Option Nat),v=y.v∧LeO h0.blks.size j∧GF EP T.kd2 h' Fp.no y j (zc (cutsL t)):=by
 rw[kbeu];refine Runs.new fun h1 b1 g1=>Runs.step (b1.rd 0 rfl (asSl_v _)) (Runs.step (b1.rd 1 rfl (asSl_v _)) (Runs.step (b1.rd 2 rfl (asSl_v _)) ?_));refine(k4e (q.grow g1)).call fun v h2 ⟨e,g2⟩=>?_;subst e;refine Runs.step (seen rfl) ?_;have G:=g1.trans g2;unfold cutsL;cases hR:tabR t with
 | false =>
  rw[kr8];exact Runs.ifF rfl (Runs.ret ⟨G,_,none,rfl,trivial,GF.none _ _ _ _⟩)
 | true =>
  refine(kbhm (q.grow G) hR (g2.has b1) t.cols.length 0 (by omega) h2 _ none (Grow.refl _) trivial (GF.none _ _ _ _)).imp fun v h' ⟨g,y,j,e,lj,V⟩=>⟨G.trans g,y,j,e,LeO.trans G.size lj,V⟩
end
end Go.Ab

/- squeezed -/
set_option maxRecDepth 10000
namespace Go.Ab
open Go.Proofs
theorem kbcl{t:Tb}{w:List Nat}(hR:btR (t.ids.length:Int) w=true)(p:Nat×Nat):rowsL t (t.ids.length:Int) w p=(btL (t.ids.length:Int) w).filter (leftP t p.1 (p.2:Int)):=by
 unfold rowsL btL;rw[hR,decide_eq_true rfl,Bool.and_self,if_pos rfl,if_pos rfl,Int.toNat_natCast];unfold leftR;rw[List.filter_filter,List.filter_filter];apply List.filter_congr;intro x _;exact Bool.and_comm _ _
section
variable{h0:AH}{S:Fp}{s1 s2 s3 s u:Sl}{t:Tb}{n:Int}{w:List Nat}{g:List Int}
end
end Go.Ab

/- squeezed -/
set_option maxRecDepth 10000
namespace Go.Ab
open Go.Proofs
section
variable{h0:AH}{S:Fp}{s1 s2 s3 s u:Sl}{t:Tb}{n:Int}{w:List Nat}{g:List Int}
theorem kqc{h:AH}{i:Nat}{xs:List Int}{e:TypeId}(b:h.has i (xs.map (AV.int .i64)) e)(hs:xs.length≤9223372036854775807):Sq EI h (Fp.or (fun j=>j=i) Fp.no) ⟨some (.new i 0),xs.length,.is xs.length⟩ xs:=by
 refine Sq.lit (rows:=xs.map fun x=>[AV.int .i64 x]) (e:=e) ?_ ?_ rfl hs
 ·have:(xs.map fun x=>[AV.int .i64 x]).flatten=xs.map (AV.int .i64):=by
   clear b hs
   induction xs with
   | nil=>rfl
   | cons x xs ih=>rw[List.map_cons,List.flatten_cons,ih];rfl
  rw[this];exact b
 ·clear b hs
  induction xs with
  | nil=>exact .nil
  | cons x xs ih=>exact .cons rfl ih
theorem k98:plainH ⟨[0,1,2],[2],[[0,1,1]]⟩ 3 [3] [5,6,7]=([(5,1)],0):=by decide +kernel
theorem kbb9(T0:Tab h0):Runs (go (.fn F.kue []) h0) fun v h'=>v=.bool true∧Grow h0 h':=by
 rw[kbhw];refine Runs.new fun h1 b1 g1=>Runs.new fun h2 b2 g2=>Runs.new fun h3 b3 g3=>Runs.new fun h4 b4 g4=>Runs.new fun h5 b5 g5=>Runs.puts b5 rfl fun h6 b6 u6=>?_;have G6:Grow h4 h6:=g5.updr (Nat.le_refl _) u6;refine Runs.step (b6.rd 0 rfl (asSl_v _)) (Runs.step (b6.rd 1 rfl (asSl_v _)) (Runs.step (b6.rd 2 rfl (asSl_v _)) ?_));refine Runs.new fun h7 b7 g7=>Runs.new fun h8 b8 g8=>?_;have G48:=(G6.trans g7).trans g8;have G08:Grow h0 h8:=(((g1.trans g2).trans g3).trans g4).trans G48;have q1:Sq EI h8 Fp.all ⟨some (.new h0.blks.size 0),3,.is 3⟩ [0,1,2]:=(kqc (xs:=[0,1,2]) (((g2.trans g3).trans g4 |>.trans G48).has b1) (by decide)).mono fun _ _=>trivial;have q2:Sq EI h8 Fp.all ⟨some (.new h1.blks.size 0),1,.is 1⟩ [2]:=(kqc (xs:=[2]) (((g3.trans g4).trans G48).has b2) (by decide)).mono fun _ _=>trivial;have q3:Sq EI h8 Fp.all ⟨some (.new h2.blks.size 0),3,.is 3⟩ [0,1,1]:=(kqc (xs:=[0,1,1]) ((g4.trans G48).has b3) (by decide)).mono fun _ _=>trivial;have q4:Sq (Ef.seq EI) h8 Fp.all ⟨some (.new h3.blks.size 0),1,.is 1⟩ [[0,1,1]]:=(Sq.lit (E:=Ef.seq EI) (rows:=[[Sl.v ⟨some (.new h2.blks.size 0),3,.is 3⟩]]) (G48.has b4) (.cons ⟨_,rfl,q3⟩ .nil) rfl).mono fun _ _=>trivial;have N:Nats h8 ⟨some (.new h6.blks.size 0),1,.is 1⟩ [3]:=Nats.of_has (xs:=[3]) (g8.has b7) (by simp) (by simp);have Q:Sq EI h8 Fp.all ⟨some (.new h7.blks.size 0),3,.is 3⟩ [5,6,7]:=(kqc (xs:=[5,6,7]) b8 (by decide)).mono fun _ _=>trivial;refine(kba3 (T0.grow G08) (t:=⟨[0,1,2],[2],[[0,1,1]]⟩) (n:=3) ⟨q1,q2,q4⟩ N Q).call fun v h9 ⟨g9,y,j,e,lj,V⟩=>?_;subst e;rw[k98]at V⊢;refine Runs.step rfl (Runs.step (seen (asSl_v _)) (Runs.step (seen (kc _ _)) (Runs.ifT rfl ?_)));have hl:y.len=1:=V.len;rw[hl];refine Runs.ifT rfl ?_;obtain⟨r,e1,e2,e3⟩:=V.sq.two (i:=0) (by decide);rw[hl]at e1;refine Runs.step e1 (Runs.step e2 (Runs.step e3 (Runs.ret ⟨rfl,G08.trans g9⟩)))
theorem few_15(q:TabAt h0 S s1 s2 s3 t){b1 b2:Nat}(B1:h0.has b1 [s1.v,s2.v,s3.v] T.kz)(B2:h0.has b2 [.int .i64 n,s.v] T.ku):∀(k i:Nat)(a:Int),i+k=t.bins.length→Runs (go (.pt F.kcp Td.ko2 [(3,.ptr (some (.new b1 0))),(4,.ptr (some (.new b2 0))),(10,.int .i64 a),(11,.int .i64 (i:Int))]) h0) fun v h'=>(∃r,v=.bool r)∧Grow h0 h':=by
 have fin:∀a:Int,Runs (((h0.cell ((Ref.new b1 0).add 0)).bind AV.asSl).bind fun l9=>cond (decide ((l9.len:Int)≤300)) (((h0.cell ((Ref.new b2 0).add 1)).bind AV.asSl).bind fun l10=>cond (decide ((l10.len:Int)≤2000)) (((h0.cell ((Ref.new b1 0).add 0)).bind AV.asSl).bind fun l11=>some (.bool (decide ((IntKind.wrap .i64 (a*(l11.len:Int)))≤3000)),h0)) (some (.bool false,h0))) (some (.bool false,h0))) fun v h'=>(∃r,v=.bool r)∧Grow h0 h':=by
  intro a;refine Runs.step (B1.rd 0 rfl (asSl_v _)) (Runs.cond (fun _=>?_) fun _=>Runs.ret ⟨⟨_,rfl⟩,Grow.refl _⟩);refine Runs.step (B2.rd 1 rfl (asSl_v _)) (Runs.cond (fun _=>?_) fun _=>Runs.ret ⟨⟨_,rfl⟩,Grow.refl _⟩);exact Runs.step (B1.rd 0 rfl (asSl_v _)) (Runs.ret ⟨⟨_,rfl⟩,Grow.refl _⟩)
 intro k
 induction k with
 | zero =>
  intro i a hi;rw[kx6];refine Runs.step (B1.rd 1 rfl (asSl_v _)) ?_;rw[q.bins.len];exact Runs.ifF (decide_eq_false (by omega)) (fin a)
 | succ k ih =>
  intro i a hi;have hi':i<t.bins.length:=by omega
  obtain⟨r,e1,e2⟩:=q.bins.int hi';have:=q.bins.short;rw[kx6];refine Runs.step (B1.rd 1 rfl (asSl_v _)) ?_;rw[q.bins.len];refine Runs.ifT (decide_eq_true (by omega)) (Runs.cond (fun _=>?_) fun _=>fin a);refine Runs.step (B1.rd 1 rfl (asSl_v _)) (Runs.step e1 (Runs.step e2 ?_));rw[ki (by omega)];exact ih (i+1) _ (by omega)
theorem few_8(q:TabAt h0 S s1 s2 s3 t){b1 b2:Nat}(B1:h0.has b1 [s1.v,s2.v,s3.v] T.kz)(B2:h0.has b2 [.int .i64 n,s.v] T.ku):∀(k i:Nat)(a:Int),i+k=t.cols.length→Runs (go (.pt F.kcp Td.kmx [(3,.ptr (some (.new b1 0))),(4,.ptr (some (.new b2 0))),(7,.int .i64 a),(9,.int .i64 (i:Int))]) h0) fun v h'=>(∃r,v=.bool r)∧Grow h0 h':=by
 intro k
 induction k with
 | zero =>
  intro i a hi;rw[kxb];refine Runs.step (B1.rd 2 rfl (asSl_v _)) ?_;rw[q.cols.len];exact Runs.ifF (decide_eq_false (by omega)) (few_15 q B1 B2 t.bins.length 0 0 (by omega))
 | succ k ih =>
  intro i a hi;have hi':i<t.cols.length:=by omega
  obtain⟨r,s',e1,e2,-,-⟩:=q.cols.sl hi';have:=q.cols.short;rw[kxb];refine Runs.step (B1.rd 2 rfl (asSl_v _)) ?_;rw[q.cols.len];refine Runs.ifT (decide_eq_true (by omega)) (Runs.step (B1.rd 2 rfl (asSl_v _)) (Runs.step e1 (Runs.step e2 (Runs.cond (fun _=>Runs.ret ⟨⟨_,rfl⟩,Grow.refl _⟩) fun _=>?_))));rw[ki (by omega)];exact ih (i+1) _ (by omega)
theorem krk{h:AH}{cs:List AV}(a:ArgT Pg h T.kcn cs):∃(s:Sl)(xs:List Int),cs=[s.v]∧Sq EI h Fp.no s xs:=kbfw Fp.no kbfe kbdl kl3 a
theorem tab_of{h:AH}{x:AV}(a:ArgV Pg h T.kz x):∃(s1 s2 s3:Sl)(t:Tb),x=.agg [s1.v,s2.v,s3.v]∧TabAt h Fp.no s1 s2 s3 t:=by
 unfold ArgV at a;rw[kzs]at a;obtain⟨cs,rfl,t⟩:=a;obtain⟨hl,hf⟩:=t.struct kzs;rw[kbfu]at hl
 match cs,hl with
 | [x0,x1,x2],_ =>
  simp[ky8,kbik]at hf;obtain⟨h0,h1,h2⟩:=hf;obtain⟨s1,xs,e0,n0⟩:=krk h0;obtain⟨s2,ys,e1,n1⟩:=krk h1
  obtain⟨s3,zs,e2,n2⟩:=Sq.of_arg (E:=Ef.seq EI) (S:=Fp.no) k7k ky8 (fun es t=>by
   obtain⟨s,l,e,n⟩:=krk t;exact⟨l,s,e,n⟩) h2
  cases e0;cases e1;cases e2;exact⟨s1,s2,s3,⟨xs,ys,zs⟩,rfl,n0,n1,n2⟩
end
end Go.Ab

/- squeezed -/
set_option maxRecDepth 10000
namespace Go.Ab
open Go.Proofs Go.Num
end Go.Ab

/- squeezed -/
set_option maxRecDepth 10000
namespace Go.Ab
open Go.Proofs Go.Num
section
variable{h0:AH}{s1 s2 s3:Sl}{ns cs ds:List Nat}
theorem kbbi(N:Nats h0 s1 ns):Runs (go (.fn F.kq9 [s1.v]) h0) fun v h'=>∃(b:Nat)(t:Sl),v=.func (.func F.ke8) [] [.ptr (some (.new b 0))]∧h0.blks.size≤b∧h'.has b [t.v] T.ko∧Nats h' t (kcj ns)∧Grow h0 h':=by
 rw[k39];obtain⟨t,h1,e,N1,g1,o1⟩:=ke2 N N;rw[e,Option.bind_some];refine Runs.step rfl (Runs.step (seen (asSl_v _)) (Runs.step (seen (kc _ _)) ?_));dsimp only;refine Runs.new fun h2 b2 g2=>Runs.puts b2 rfl fun h3 b3 u3=>?_;have g3:Grow h1 h3:=g2.updr (Nat.le_refl _) u3;exact Runs.ret ⟨h1.blks.size,t,rfl,g1.size,b3,N1.grow g3,g1.trans g3⟩
theorem k6v{a b t:Sl}{xs ys zs:List Nat}(A:Nats h0 a xs)(B':Nats h0 b ys)(Z:Nats h0 t zs){k:Nat}{e:TypeId}(hk:h0.has k [t.v] e):Runs (go (.fn F.ke8 [a.v,b.v,.ptr (some (.new k 0))]) h0) fun v h'=>∃s:Sl,v=s.v∧Nats h' s (kqf xs ys zs)∧Grow h0 h'∧Own h0 s:=by
 rw[k2c];obtain⟨p,h1,e1,N1,g1,o1⟩:=ke2 A B';rw[e1,Option.bind_some];refine Runs.step rfl (Runs.step (seen (asSl_v _)) (Runs.step (seen (kc _ _)) ?_));dsimp only;refine Runs.step ((g1.has hk).rd0 rfl (asSl_v _)) ?_;obtain⟨q,r,h2,e2,N2,N3,g2,o2,o3⟩:=kfs N1 (Z.grow g1);rw[e2,Option.bind_some];refine Runs.step rfl (Runs.step (seen (asSl_v _)) (Runs.step (seen (asSl_v _)) (Runs.step (seen (kc _ _)) ?_)));exact Runs.ret ⟨r,rfl,N3,g1.trans g2,o3.of_le g1⟩
end
end Go.Ab

/- squeezed -/
set_option maxRecDepth 10000
namespace Go.Ab
open Go.Proofs Go.Num
structure LpS{α:Type}(E:Ef α)(elem tl:TypeId)(note:LoopState→ABlk)(hs:AH)(bo l:Nat)(xs:List α)(h:AH):Prop where
 md:Md (fun m=>m=bo∨m=l) hs h
 note:h.blks[l]?=some (note .ready)
 out:∃(S:Fp)(t:Sl)(j:Option Nat),(∀m,S m→hs.blks.size≤m)∧h.has bo [t.v] tl∧LeO hs.blks.size j∧GF E elem h S t j xs
section
variable{α:Type}{E:Ef α}{elem tl:TypeId}{note:LoopState→ABlk}{hs h:AH}{bo l:Nat}{xs:List α}
theorem LpS.grow{h':AH}(L:LpS E elem tl note hs bo l xs h)(g:Grow h h'):LpS E elem tl note hs bo l xs h' :=
 ⟨L.md.thenG g,(g.blk l (Array.getElem?_eq_some_iff.1 L.note).1).trans L.note,L.out.imp fun _ ⟨t,j,a,B,lj,V⟩=>⟨t,j,a,g.has B,lj,V.grow g⟩⟩
theorem kbig{S Tx:Fp}{t:Sl}{j:Option Nat}{x:α}{cs:List AV}{k:Nat}{e':TypeId}(hS:∀m,S m→hs.blks.size≤m)(hT:∀m,Tx m→hs.blks.size≤m)(hTj:NotO Tx j)(B:h.has bo [t.v] tl)(hn:h.blks[l]?=some (note .busy))(hbl:bo≠l)(hbs:bo<hs.blks.size)(hls:l<hs.blks.size)(hsh:hs.blks.size≤h.blks.size)(lj:LeO hs.blks.size j)(V:GF E elem h S t j xs)(hx:E.has h Tx cs x)(hg:growOk Pg (xs.length+1) elem E.w=true)(bx:h.has k cs e')(hcs:1*Pg.cellsOf elem=cs.length)(hend:∀h',h'.blks[l]?=some (note .busy)→kcb l none h'=some (.bool true,h'.setBlk l (note .ready))) :
  Runs ((kbf Pg elem ((⟨some (.new k 0),1,.is 1⟩:Sl).v) h).bind fun p=>(kv Pg t p.1 p.2 elem E.w h).bind fun q=>(AV.asSl q.1).bind fun l12=>(q.2.puts (.new bo 0) [l12.v]).bind fun h13=>kcb l none h13) fun v h'=>v=.bool true∧Md (fun m=>m=bo∨m=l∨j=some m) h h'∧h'.blks[l]?=some (note .ready)∧∃(S:Fp)(t:Sl)(j:Option Nat),(∀m,S m→hs.blks.size≤m)∧h'.has bo [t.v] tl∧LeO hs.blks.size j∧GF E elem h' S t j (xs++[x]):=by
 refine Runs.step (kfq bx hcs) ?_;obtain⟨t',h3,e3,V3,u3⟩:=V.push (T:=Tx) hx hTj hg;refine Runs.step e3 (Runs.step (asSl_v _) ?_);have m3:Md (Fp.opt j) h h3:=u3.md fun k e=>e;have no:∀{m:Nat},m<hs.blks.size→¬Fp.opt j m:=fun hm e=>kdj hm lj _ e rfl;have B3:h3.has bo [t.v] tl:=m3.has B (no hbs);have n3:h3.blks[l]?=some (note .busy):=m3.get hn (no hls);refine Runs.puts B3 rfl fun h4 B4 u4=>?_;have n4:h4.blks[l]?=some (note .busy):=(u4.blk l (fun e=>hbl e.symm) (Array.getElem?_eq_some_iff.1 n3).1).trans n3;rw[hend _ n4];have u5:Upd h4 (h4.setBlk l (note .ready)) l:=AH.setBlk_Upd _;have hS':∀m,((Fp.or S Tx) m∧m<h.blks.size)→hs.blks.size≤m:=fun m x=>x.1.elim (hS m) (hT m);refine Runs.ret ⟨rfl,?_,AH.setBlk_get (Array.getElem?_eq_some_iff.1 n4).1,_,t',some h.blks.size,hS',B4.updr hbl u5,hsh,?_⟩
 ·refine((m3.mono fun m _ e=>.inr (.inr e)).trans (u4.md (.inl rfl))).trans (u5.md (.inr (.inl rfl)))
 ·exact(V3.upd u4 (fun x=>by have:=hS' _ x;omega) fun k e=>by cases e;omega).upd u5 (fun x=>by have:=hS' _ x;omega) fun k e=>by cases e;omega
theorem LpS.next{xs ys:List α}{h h1 h':AH}{j:Option Nat}(m1:Md (fun m=>m=bo∨m=l) hs h1)(lj:LeO hs.blks.size j)(m2:Md (fun m=>m=bo∨m=l∨j=some m) h1 h')(hn:h'.blks[l]?=some (note .ready))(o:∃(S:Fp)(t:Sl)(j:Option Nat),(∀m,S m→hs.blks.size≤m)∧h'.has bo [t.v] tl∧LeO hs.blks.size j∧GF E elem h' S t j ys):LpS E elem tl note hs bo l ys h' :=
 ⟨m1.next m2 fun m hm t=>t.elim .inl fun t=>t.elim .inr fun e=>absurd rfl (kdj hm lj _ e),hn,o⟩
end
noncomputable def prodC(qs:List Nat)(cs:List (List Nat))(l p:List Nat):List Nat:=l.foldl (fun p i=>kqf p (cs.getD i []) qs) p
end Go.Ab

/- squeezed -/
set_option maxRecDepth 10000
namespace Go.Ab
open Go.Proofs Go.Num
noncomputable def oddC(ns:List Nat)(C:List (List Nat)):Bool:=C.any fun c=>!kb8 ns c
noncomputable def sumsC(qs:List Nat)(C:List (List Nat))(R:Nat×Nat→List Nat)(l:List (Nat×Nat)):List (List Nat):=l.map fun p=>prodC qs C (R p) [1]
noncomputable def kby(ns:List Nat)(t:Tb)(n:Int)(w:List Nat)(C:List (List Nat)):List (List Nat)×Int:=if !kbs ns then([],1)else if faultH t n w (C.length:Int)=0 then if oddC ns C then([],11)else(sumsC (kcj ns) C (rowsL t n w) (cutsL t),0)else([],faultH t n w (C.length:Int))
theorem own_av{h:AH}{p:Sl}{xs:List Nat}(o:Own h p){m:Nat}(k:¬Av p m xs):h.blks.size≤m:=by
 rcases Nat.lt_or_ge m h.blks.size with hm | hm
 ·exact absurd (Av.of_own o hm) k
 ·exact hm
section
variable{h0:AH}{S:Fp}{s1 s2 s3 s u z:Sl}{t:Tb}{n:Int}{w ns:List Nat}{C:List (List Nat)}
theorem k4r{k:Nat}{e:TypeId}(N:Nats h0 z ns)(hk:h0.has k [z.v] e)(q:Sq Ef.nats h0 S u C):Runs (go (.fn F.kgk [u.v,.func (.func F.kbx) [] [.ptr (some (.new k 0))]]) h0) fun v h'=>v=.bool (oddC ns C)∧Grow h0 h':=by
 rw[kba6];refine Runs.contains (xs:=C) ?_;rw[kbb7,q.len];refine klu (n:=C.length) (G:=fun z h=>go (.pt F.kb4 Td.keh [(0,u.v),(1,.func (.func F.kbx) [] [.ptr (some (.new k 0))]),(7,.int .i64 (C.length:Int)),(8,.int .i64 z)]) h) (fun i h P hi gg hT hF=>?_) (fun h gg=>?_) C.length 0 (by omega) (Grow.refl h0) (fun j hj=>by omega)
 ·obtain⟨r,s',e1,e2,n',-⟩:=(q.grow gg).nats hi;rw[List.getElem?_eq_getElem hi]at hT hF;simp only[Option.any_some]at hT hF;show Runs (go _ _) _;rw[k0t];refine Runs.ifT (decide_eq_true (by omega)) (Runs.step e1 (Runs.step e2 ?_))
  have key:Runs (go (.fn F.kbx [s'.v,.ptr (some (.new k 0))]) h) fun v h'=>v=.bool (!kb8 ns C[i])∧Grow h h':=by
   rw[k9f,Option.bind_some];refine Runs.step ((gg.has hk).rd0 rfl (asSl_v _)) ?_;refine(kyt (N.grow gg) n').call fun v h1 ⟨e,g1⟩=>?_;subst e;exact Runs.step (seen rfl) (Runs.ret ⟨rfl,g1⟩)
  refine key.call fun v h1 ⟨e,g1⟩=>?_;subst e;refine Runs.step (seen rfl) ?_;rw[ki (by have:=q.short;omega)];exact Runs.cond (fun c=>Runs.ret (hT h1 (gg.trans g1) c)) fun c=>hF _ (gg.trans g1) c
 ·rw[k0t,condF (decide_eq_false (by omega))]
noncomputable def hNote(s1 s2 s3:Sl)(n:Int)(s u z:Sl)(m:Int)(b0 b1 b2 b3 bf bo:Nat)(fv g:AV)(st:LoopState):ABlk:=kc0 Fx.kt1 F.kcy 0 st none [(0,z.v),(1,.agg [s1.v,s2.v,s3.v]),(2,.agg [.int .i64 n,s.v]),(3,u.v),(4,.ptr (some (.new b0 0))),(5,.ptr (some (.new b1 0))),(6,.ptr (some (.new b2 0))),(7,.ptr (some (.new b3 0))),(8,(⟨none,0,.is 0⟩:Sl).v),(9,.int .i64 0),(10,.int .i64 0),(11,.ptr (some (.new bf 0))),(12,.ptr (some (.new bo 0))),(18,z.v),(19,.bool true),(20,.bool false),(21,.agg [s1.v,s2.v,s3.v]),(22,.agg [.int .i64 n,s.v]),(23,u.v),(24,.int .i64 m),(25,.int .i64 0),(26,.int .i64 0),(27,.bool false),(29,u.v),(30,.func (.func F.kbx) [] [.ptr (some (.new b0 0))]),(31,.bool false),(32,z.v),(33,fv),(34,.agg [s1.v,s2.v,s3.v]),(35,.agg [.int .i64 n,s.v]),(36,g)]
theorem kbee{note:LoopState→ABlk}{hs hr:AH}{b3 bf bo l kq:Nat}{x4 y tq to:Sl}{j jo:Option Nat}{e3 e4 e5:TypeId}{R qs:List Nat}{Su So:Fp}{xs:List (List Nat)}(hbl:bo≠l)(hbs:bo<hs.blks.size)(hls:l<hs.blks.size)(hrs:hs.blks.size≤hr.blks.size)(ljo:LeO hs.blks.size jo)(hlt:∀x∈R,x<C.length)(hR:R.length≤300)(hxs:xs.length<1000)
  (hend:∀h',h'.blks[l]?=some (note .busy)→kcb l none h'=some (.bool true,h'.setBlk l (note .ready))) (V:GF EI T.int hr Fp.no y j (zs R)) (B3:hr.has b3 [u.v] e3) (Q:Sq Ef.nats hr Su u C) (Bf:hr.has bf [.func (.func F.ke8) [] [.ptr (some (.new kq 0))]] e4) (Bq:hr.has kq [tq.v] e5) (Nq:Nats hr tq qs) (hn:hr.blks[l]?=some (note .busy)) (Bo:hr.has bo [to.v] T.kdz) (hSo:∀m,So m→hs.blks.size≤m) (Vo:GF Ef.nats T.ko hr So to jo xs):∀(k i:Nat),i+k=R.length→∀(h:AH)(p:Sl),Grow hr h→Own hr p→Nats h p (prodC qs C (R.take i) [1])→
  Runs (go (.rpt l F.kcy Td.knl [(7,.ptr (some (.new b3 0))),(8,x4.v),(9,.int .i64 0),(11,.ptr (some (.new bf 0))),(12,.ptr (some (.new bo 0))),(15,p.v),(40,y.v),(41,.int .i64 (R.length:Int)),(42,.int .i64 (i:Int))]) h) fun v h'=>v=.bool true∧Md (fun m=>m=bo∨m=l∨jo=some m) hr h'∧h'.blks[l]?=some (note .ready)∧∃(S:Fp)(t:Sl)(j:Option Nat),(∀m,S m→hs.blks.size≤m)∧h'.has bo [t.v] T.kdz∧LeO hs.blks.size j∧GF Ef.nats T.ko h' S t j (xs++[prodC qs C R [1]]):=by
 intro k
 induction k with
 | zero =>
  intro i hi h p G O N;obtain rfl:i=R.length:=by omega
  rw[List.take_length]at N;rw[kvh];refine Runs.ifF (decide_eq_false (by omega)) (Runs.step ((G.has Bo).rd0 rfl (asSl_v _)) ?_);refine Runs.new fun h1 b1 g1=>?_;have G1:=G.trans g1;have n1:=(G1.blk l (Array.getElem?_eq_some_iff.1 hn).1).trans hn;have lt:=Vo.lt
  have:=kbig (note:=note) (hs:=hs) (E:=Ef.nats) (Tx:=fun m=>¬Av p m (prodC qs C R [1])) (x:=prodC qs C R [1]) hSo (fun m hm=>Nat.le_trans hrs (own_av O hm)) (by
   cases jo with
   | none=>exact trivial
   | some a =>
    intro hm;have:=own_av O hm;have:a<hr.blks.size:=lt;omega) (G1.has Bo) n1 hbl hbs hls (Nat.le_trans hrs G1.size) ljo (Vo.grow G1) (show Ef.nats.has h1 _ [p.v] _ from⟨p,rfl,N.grow g1,fun j hj=>hj⟩) (kri (by omega)) b1 (by rw[kok];rfl) hend
  exact this.imp fun v h' ⟨e,m5,n5,o5⟩=>⟨e,G1.thenM m5,n5,o5⟩
 | succ k ih =>
  intro i hi h p G O N;have hi':i<R.length:=by omega
  have hz:i<(zs R).length:=by rw[zs_len];exact hi'
  obtain⟨r,e1,e2⟩:=(V.grow G).sq.int hz;have hx':(zs R)[i]=((R[i]:Nat):Int):=by simp[zs]
  have hg:=hlt _ (List.getElem_mem hi');obtain⟨r2,s',e4,e5,N',-⟩:=(Q.grow G).nats hg;rw[kvh];refine Runs.ifT (decide_eq_true (by omega)) (Runs.step e1 (Runs.step e2 (Runs.step (show h.cell (.new bf 0)=some _ from(G.has Bf).cell 0) (Runs.step ((G.has B3).rd0 rfl (asSl_v _)) ?_))));rw[hx'];refine Runs.step e4 (Runs.step e5 ?_);show Runs ((callF Pg go F.ke8 [p.v,s'.v,.ptr (some (.new kq 0))] h).bind _) _;rw[k9i];refine(k6v N N' (Nq.grow G) (G.has Bq)).call fun v h1 ⟨p',e,N1,g1,O1⟩=>?_;subst e;refine Runs.step (seen (asSl_v _)) ?_;rw[ki (by omega)];refine ih (i+1) (by omega) h1 p' (G.trans g1) (O1.of_le G) ?_;rw[List.take_succ_eq_append_getElem hi'];unfold prodC at N1⊢;rw[List.foldl_append];have:C.getD R[i] []=C[R[i]]:=by simp[List.getD,hg]
  rw[List.foldl_cons,List.foldl_nil,this];exact N1
theorem k4g{hs h:AH}{b0 b1 b2 b3 bf bo l kq N0:Nat}{tq:Sl}{gv fv:AV}{m:Int}{d:List (Nat×Nat)}{f c:Nat}{y:Sl}{j:Option Nat}{qs:List Nat}{e4 e5:TypeId}(hbl:bo≠l)(hbs:bo<hs.blks.size)(hls:l<hs.blks.size)(h3:b3<N0)(hf:bf<N0)(hq:kq<N0)(hd:d.length<1000)(hb:C.length=t.ids.length)(hids:t.ids.length≤256)(hN0:N0≤bo)(hNl:N0≤l)(B3:hs.has b3 [u.v] T.kdz)(Q:Sq Ef.nats hs (Fp.below N0) u C)(hfv:fv=.func (.func F.ke8) [] [.ptr (some (.new kq 0))])(Bf:hs.has bf [fv] e4)(Bq:hs.has kq [tq.v] e5)(Nq:Nats hs tq qs)(Aq:∀j,¬Av tq j qs→j<N0)
  (I:LpS Ef.nats T.ko T.kdz (hNote s1 s2 s3 n s u z m b0 b1 b2 b3 bf bo fv gv) hs bo l (sumsC qs C (rowsL t n w) d) h) (V:GF EI T.int h Fp.no y j (zs (rowsL t n w (f,c)))):Runs (go (.round l [.agg [.int .i64 (f:Int),.int .i64 (c:Int)],y.v]) h) fun v h'=>v=.bool true∧LpS Ef.nats T.ko T.kdz (hNote s1 s2 s3 n s u z m b0 b1 b2 b3 bf bo fv gv) hs bo l (sumsC qs C (rowsL t n w) (d++[(f,c)])) h':=by
 obtain⟨M,hn,So,to,jo,hSo,Bo,ljo,Vo⟩:=I;have hll:l<h.blks.size:=(Array.getElem?_eq_some_iff.1 hn).1;have hsz:=M.size
 have dis:Dis (Fp.below N0) (fun m=>m=bo∨m=l):=fun k a b=>by
  have a:k<N0:=a;rcases b with rfl | rfl<;>omega
 have no:∀k,k<N0→¬(k=bo∨k=l):=fun k a b=>by rcases b with rfl | rfl<;>omega
 have B3h:=M.has B3 (no _ h3);have Bfh:=M.has Bf (no _ hf);have Bqh:=M.has Bq (no _ hq);have Qh:=Q.md M dis;have Nqh:Nats h tq qs:=Nq.mdE (S:=Fp.below N0) Aq M dis;rw[kbeq l none _ _ _ _ _ _ _ _ _ _ _ _ _ _ _ _ _ _ _ _ _ _ _ _ _ _ _ _ _ _ _ _ _ _ _ _ _ _ _ _ _ _ _ hn,km2 (h:=h) hn,Option.bind_some];generalize hq':h.setBlk l _=h1;have u1:Upd h h1 l:=by rw[← hq'];exact AH.setBlk_Upd _
 have n1:h1.blks[l]?=some (hNote s1 s2 s3 n s u z m b0 b1 b2 b3 bf bo fv gv .busy):=by rw[← hq'];exact AH.setBlk_get hll
 have hu1:=u1.size;by_cases hyl:j=some l
 ·subst hyl;exfalso;obtain⟨_,_,_,_,rows,e,b,_⟩:=V;rw[AH.has,hn]at b;unfold hNote kc0 at b;cases b
 refine Runs.new fun h2 b2' g2=>?_;have V1:GF EI T.int h1 Fp.no y j (zs (rowsL t n w (f,c))):=V.upd u1 Fp.not_no fun k e e2=>hyl (by rw[e,e2]);have Q1:Sq Ef.nats h1 (Fp.below N0) u C:=Qh.upd (by intro k;have k:l<N0:=k;omega) u1;have Nq1:Nats h1 tq qs:=Nqh.upda (Classical.byContradiction fun k=>by have:=Aq _ k;omega) u1;have B31:=B3h.updr (show b3≠l by omega) u1;have Bf1:=Bfh.updr (show bf≠l by omega) u1;have Bq1:=Bqh.updr (show kq≠l by omega) u1;have Bo1:=Bo.updr hbl u1;have Vo1:GF Ef.nats T.ko h1 So to jo (sumsC qs C (rowsL t n w) d):=Vo.upd u1 (fun x=>by have:=hSo _ x;omega) (kdj hls ljo);rw[V.len,zs_len];rw[hfv]at Bf1;have O:Own h1 ⟨some (.new h1.blks.size 0),1,.is 1⟩:=Own.box (Grow.refl _);have N2:Nats h2 ⟨some (.new h1.blks.size 0),1,.is 1⟩ (prodC qs C ((rowsL t n w (f,c)).take 0) [1]):=Nats.of_has (xs:=[1]) b2' (by simp) (by simp);have:=kbee (note:=hNote s1 s2 s3 n s u z m b0 b1 b2 b3 bf bo fv gv) (hs:=hs) (x4:=⟨none,0,.is 0⟩) (R:=rowsL t n w (f,c)) (xs:=sumsC qs C (rowsL t n w) d) hbl hbs hls (by omega) ljo (fun x hx=>by rw[hb];exact k1a x hx) (by have:=k0c (t:=t) (n:=n) (w:=w) (p:=(f,c));omega) (by unfold sumsC;rw[List.length_map];exact hd) (fun h' hn'=>by rw[kl5 hn'];rfl) V1 B31 Q1 Bf1 Bq1 Nq1 n1 Bo1 hSo Vo1 (rowsL t n w (f,c)).length 0 (by omega) h2 _ g2 O N2;refine this.imp fun v h' ⟨e,m5,n5,o5⟩=>⟨e,?_⟩
 have hsum:sumsC qs C (rowsL t n w) (d++[(f,c)])=sumsC qs C (rowsL t n w) d++[prodC qs C (rowsL t n w (f,c)) [1]]:=by
  unfold sumsC;rw[List.map_append];rfl
 rw[hsum];exact LpS.next (h:=h) (xs:=sumsC qs C (rowsL t n w) d) (M.trans (u1.md (.inr rfl))) ljo m5 n5 o5
theorem kbfm(T0:Tab h0)(M:Nats h0 z ns)(q:TabAt h0 S s1 s2 s3 t)(N:Nats h0 s w)(Q:Sq Ef.nats h0 S u C):Runs (go (.fn F.kcy [z.v,.agg [s1.v,s2.v,s3.v],.agg [.int .i64 n,s.v],u.v]) h0) fun v h'=>Grow h0 h'∧∃(S:Fp)(y:Sl)(j:Option Nat),v=.tup [y.v,.int .i64 (kby ns t n w C).2]∧(∀m,S m→h0.blks.size≤m)∧LeO h0.blks.size j∧GF Ef.nats T.ko h' S y j (kby ns t n w C).1:=by
 rw[kba5];refine Runs.new fun ha ba ga=>Runs.new fun h1 b1 g1=>Runs.new fun h2 b2 g2=>Runs.new fun h3 b3 g3=>?_;have g13:=(g1.trans g2).trans g3;have Ba:=g13.has ba;have B1:=g3.has (g2.has b1);have B2:=g3.has b2;have za:=ba.lt;have z1:=b1.lt;have z2:=b2.lt;have z3:=b3.lt;have G3:Grow h0 h3:=ga.trans g13;refine Runs.step (Ba.rd0 rfl (asSl_v _)) ?_
 have nope:∀{h:AH}(c:Int),Grow h0 h→kby ns t n w C=([],c)→Runs (some (AV.tup [(⟨none,0,.is 0⟩:Sl).v,.int .i64 c],h)) fun v h'=>Grow h0 h'∧∃(S:Fp)(y:Sl)(j:Option Nat),v=.tup [y.v,.int .i64 (kby ns t n w C).2]∧(∀m,S m→h0.blks.size≤m)∧LeO h0.blks.size j∧GF Ef.nats T.ko h' S y j (kby ns t n w C).1:=fun c g e=>by
  rw[e];exact Runs.ret ⟨g,Fp.no,⟨none,0,.is 0⟩,none,rfl,fun m x=>x.elim,trivial,GF.none _ _ _ _⟩
 refine(kve (M.grow G3)).call fun v h4 ⟨e,g4⟩=>?_;subst e;have G4:=G3.trans g4;refine Runs.step (seen rfl) (Runs.cond (fun c=>nope 1 G4 (by unfold kby;rw[if_pos c])) fun cM=>?_);have B1:=g4.has B1;have B2:=g4.has B2;have B3:=g4.has b3;refine Runs.step (B1.rd 0 rfl (asSl_v _)) (Runs.step (B1.rd 1 rfl (asSl_v _)) (Runs.step (B1.rd 2 rfl (asSl_v _)) (Runs.step (B2.rd 0 rfl (kc _ _)) (Runs.step (B2.rd 1 rfl (asSl_v _)) (Runs.step (B3.rd0 rfl (asSl_v _)) ?_)))));rw[Q.len];refine(kv0 (q.grow G4) (N.grow G4)).call fun v h5 ⟨e,g5⟩=>?_;subst e;have G5:=G4.trans g5;have B3:=g5.has B3;refine Runs.step (seen rfl) (Runs.cond (fun c=>?_) fun c=>?_)
 ·rw[Bool.not_eq_true',decide_eq_false_iff_not]at c;exact nope _ G5 (by unfold kby;rw[if_neg (by rw[cM];simp),if_neg c])
 rw[Bool.not_eq_false',decide_eq_true_eq]at c;obtain⟨hR,hR2,hn,hm⟩:=kr0 c;rw[c];refine Runs.step (B3.rd0 rfl (asSl_v _)) ?_;have Ba5:=(g4.trans g5).has Ba;refine(k4r (M.grow G5) Ba5 (Q.grow G5)).call fun v h6 ⟨e,g6⟩=>?_;subst e;have G6:=G5.trans g6;refine Runs.step (seen rfl) (Runs.cond (fun c2=>nope 11 G6 (by unfold kby;rw[if_neg (by rw[cM];simp),if_pos c,if_pos c2])) fun c2=>?_)
 have hpl:kby ns t n w C=(sumsC (kcj ns) C (rowsL t n w) (cutsL t),0):=by
  unfold kby;rw[if_neg (by rw[cM];simp),if_pos c,if_neg (by rw[c2];simp)]
 rw[hpl];dsimp only;rw[Bool.not_eq_false']at cM;rw[cM];refine Runs.step ((g6.has Ba5).rd0 rfl (asSl_v _)) ?_;refine(kbbi (M.grow G6)).call fun v h7 ⟨kq,tq,e,hkq,Bq,Nq,g7⟩=>?_;subst e;have G7:=G6.trans g7;have g37:=((g4.trans g5).trans g6).trans g7;refine Runs.new fun h8 b8 g8=>Runs.ifT rfl ?_;dsimp only;refine Runs.puts b8 rfl fun h9 b9 u9=>?_;have g79:Grow h7 h9:=g8.updr (Nat.le_refl _) u9;refine Runs.new fun h10 b10 g10=>?_;have g310:=(g37.trans g79).trans g10;have B1':=g310.has (g3.has (g2.has b1));have B2':=g310.has (g3.has b2);have z7:=g37.size;have zq:=Bq.lt;have z8:=b8.lt;have z9:=b9.lt;have z10:=b10.lt;have y9:=g79.size;refine Runs.step (B1'.rd 0 rfl (asSl_v _)) (Runs.step (B1'.rd 1 rfl (asSl_v _)) (Runs.step (B1'.rd 2 rfl (asSl_v _)) (Runs.step (B2'.rd 0 rfl (kc _ _)) (Runs.step (B2'.rd 1 rfl (asSl_v _)) ?_))))
 have k0:Runs (go (.fn F.kmh [.agg [s1.v,s2.v,s3.v],.agg [.int .i64 n,s.v]]) h10) fun v h'=>∃c1 c2:Nat,v=.func (.func F.kbr) [] [.ptr (some (.new c1 0)),.ptr (some (.new c2 0))]∧h10.blks.size≤c1∧h10.blks.size≤c2∧h'.has c1 [s1.v,s2.v,s3.v] T.kz∧h'.has c2 [.int .i64 n,s.v] T.ku∧Grow h10 h':=by
  rw[kyo];exact Runs.new fun h4 b4 g4=>Runs.new fun h5 b5 g5=>Runs.ret ⟨_,_,rfl,Nat.le_refl _,g4.size,g5.has b4,b5,g4.trans g5⟩
 refine k0.call fun v h11 ⟨c1,c2',e,l1,l2,d1,d2,g11⟩=>?_;subst e;dsimp only;rw[kbgi,kmt];refine Runs.newM fun h12 hb g12=>?_;rw[kyq];generalize hgv:(AV.func (.func F.kbr) [] [AV.ptr (some (Ref.new c1 0)),AV.ptr (some (Ref.new c2' 0))])=gv at hb;generalize hfv:(AV.func (.func F.ke8) [] [AV.ptr (some (Ref.new kq 0))])=fv at hb b9;have g312:=(g310.trans g11).trans g12;have g712:=((g79.trans g10).trans g11).trans g12;have G12:Grow h0 h12:=G3.trans g312;have y10:=g10.size;have z11:=d1.lt;have z12:=d2.lt;have z13:h11.blks.size<h12.blks.size:=(Array.getElem?_eq_some_iff.1 hb).1;have zz0:=G3.size;have E12:EachOk (Fp.below h0.blks.size) s1 s2 s3 s t n w c1 c2' h12:=⟨T0.grow G12,q.bound.grow G12,N.grow G12,g12.has d1,g12.has d2⟩;have I0:LpS Ef.nats T.ko T.kdz (hNote s1 s2 s3 n s u z (C.length:Int) h0.blks.size ha.blks.size h1.blks.size h2.blks.size h7.blks.size h9.blks.size fv gv) h12 h9.blks.size h11.blks.size (sumsC (kcj ns) C (rowsL t n w) []) h12:=⟨Md.refl _ _,hb,Fp.no,_,none,fun m x=>x.elim,g12.has (g11.has b10),trivial,GF.none _ _ _ _⟩;have k1:=kz2 (l:=h11.blks.size) (Inv:=fun d h=>LpS Ef.nats T.ko T.kdz (hNote s1 s2 s3 n s u z (C.length:Int) h0.blks.size ha.blks.size h1.blks.size h2.blks.size h7.blks.size h9.blks.size fv gv) h12 h9.blks.size h11.blks.size (sumsC (kcj ns) C (rowsL t n w) d) h) (fun d h I=>E12.md I.md (fun j a b=>by have a:j<h0.blks.size:=a;rcases b with rfl | rfl<;>omega) (fun j hj=>Classical.byContradiction fun k=>hj (Av.of_base N (Nat.le_of_not_lt k))) (by omega) (by omega)) (fun d h h' I g=>I.grow g) hR (fun d f c h y j hf hc hd I V=>k4g (N0:=h9.blks.size) (by omega) (by omega) (by omega) (by omega) (by omega) (by omega) hd (by omega) (keo hR).1 (by omega) (by omega) (g312.has b3) ((Q.bound.mono fun _ x=>(show _<h9.blks.size by have:=x.2;omega)).grow G12) hfv.symm ((g10.trans (g11.trans g12)).has b9) (g712.has Bq) (Nq.grow g712) (fun j hj=>Classical.byContradiction fun k=>hj (Av.of_base Nq (by omega))) I V) I0;show Runs ((go (.fn F.kbr [.func (.yield h11.blks.size) [] [],.ptr (some (.new c1 0)),.ptr (some (.new c2' 0))]) h12).bind _) _;refine k1.call fun v h13 ⟨e,I⟩=>?_;obtain⟨Mm,hn9,So,t',j,hSo,B,lj,V⟩:=I;dsimp only;rw[knh hn9,Option.bind_some,kbam];have u7:Upd h13 (h13.setBlk h11.blks.size .dead) h11.blks.size:=AH.setBlk_Upd _;have zz:=Mm.size;have G13:Grow h0 h13:=(G12.thenM Mm).grow fun j hj=>by intro k;rcases k with rfl | rfl<;>omega
 refine Runs.step ((B.updr (by omega) u7).rd0 rfl (asSl_v _)) (Runs.ret ⟨G13.updr (by omega) u7,So,t',j,rfl,fun m hm=>by have:=hSo m hm;omega,LeO.trans (by omega) lj,?_⟩);exact V.upd u7 (fun x=>by have:=hSo _ x;omega) (kdj (by omega) lj)
end
end Go.Ab

/- squeezed -/
set_option maxRecDepth 10000
namespace Go.Ab
open Go.Proofs Go.Num
section
variable{h0 hr:AH}{S Su:Fp}{s1 s2 s3 s u z tq:Sl}{t:Tb}{n:Int}{w ns qs:List Nat}{C:List (List Nat)}
end
end Go.Ab

/- squeezed -/
set_option maxRecDepth 10000
namespace Go.Ab
open Go.Proofs Go.Num
section
variable{h0:AH}{S S':Fp}{s1 s2 s3 s u a b:Sl}{t:Tb}{n:Int}{w:List Nat}{C:List (List Nat)}
theorem few_3(q:TabAt h0 S s1 s2 s3 t)(Q:Sq Ef.nats h0 S' u C){b1 b2:Nat}(B1:h0.has b1 [s1.v,s2.v,s3.v] T.kz)(B2:h0.has b2 [.int .i64 n,s.v] T.ku):∀(k i:Nat),i+k=C.length→Runs (go (.pt F.kcp Td.knz [(2,u.v),(3,.ptr (some (.new b1 0))),(4,.ptr (some (.new b2 0))),(7,.int .i64 0),(8,.int .i64 (i:Int))]) h0) fun v h'=>(∃r,v=.bool r)∧Grow h0 h':=by
 intro k
 induction k with
 | zero =>
  intro i hi;rw[kw1,Q.len];exact Runs.ifF (decide_eq_false (by omega)) (few_8 q B1 B2 t.cols.length 0 0 (by omega))
 | succ k ih =>
  intro i hi;have hi':i<C.length:=by omega
  obtain⟨r,x,e1,e2,n1,-⟩:=Q.nats hi';have:=Q.short;rw[kw1];refine Runs.ifT (decide_eq_true (by rw[Q.len];omega)) (Runs.step e1 (Runs.step e2 (Runs.cond (fun _=>Runs.ret ⟨⟨_,rfl⟩,Grow.refl _⟩) fun _=>Runs.cond (fun _=>Runs.ret ⟨⟨_,rfl⟩,Grow.refl _⟩) fun _=>?_)));rw[ki (by omega)];exact ih (i+1) (by omega)
theorem few_is(q:TabAt h0 S s1 s2 s3 t)(Q:Sq Ef.nats h0 S' u C):Runs (go (.fn F.kcp [.agg [s1.v,s2.v,s3.v],.agg [.int .i64 n,s.v],u.v]) h0) fun v h'=>(∃r,v=.bool r)∧Grow h0 h':=by
 rw[k6r];refine Runs.new fun h1 b1 g1=>Runs.new fun h2 b2 g2=>?_;exact(few_3 (q.grow (g1.trans g2)) (Q.grow (g1.trans g2)) (g2.has b1) b2 C.length 0 (by omega)).imp fun v h' ⟨e,g⟩=>⟨e,(g1.trans g2).trans g⟩
end
theorem kbgk{h:AH}{cs:List AV}(a:ArgT Pg h T.ko cs):∃xs,Ef.nats.has h Fp.no cs xs:=by
 obtain⟨s,xs,e,n⟩:=kbfh a;refine⟨xs,s,e,n,fun j hj=>hj ?_⟩;rcases a.slice k0v with h1 | ⟨ad,len,cap,h1,-⟩
 ·rw[e]at h1;cases s;simp[Sl.v]at h1;obtain⟨rfl,rfl,rfl⟩:=h1;exact .inr fun o ho=>by cases ho
 ·rw[e]at h1;cases s;simp[Sl.v]at h1;obtain⟨rfl,rfl,rfl⟩:=h1;exact .inr fun o ho=>by cases ho
theorem k9y{h:AH}{cs:List AV}(a:ArgT Pg h T.kdz cs):∃(s:Sl)(xs:List (List Nat)),cs=[s.v]∧Sq Ef.nats h Fp.no s xs:=Sq.of_arg (E:=Ef.nats) kyf kok (fun es t=>kbgk t) a
end Go.Ab

/- squeezed -/
set_option maxRecDepth 10000
namespace Go.Ab
open Go.Proofs Go.Num
def prodN(C:List (List Nat))(l:List Nat)(X:Nat):Nat:=l.foldl (fun X i=>X*num B (C.getD i [])) X
noncomputable def sumH(p q:Nat)(C:List (List Nat))(l:List Nat)(M:Nat):Nat:=l.foldl (fun M i=>(M+hidOf p q (num B (C.getD i [])))%(p*q)) M
noncomputable def sumD(p q:Nat)(C:List (List Nat))(l:List Nat)(M:Nat):Nat:=l.foldl (fun M i=>M+hidOf p q (num B (C.getD i []))) M
theorem sumH_D{p q:Nat}{C:List (List Nat)}:∀(l:List Nat)(M:Nat),sumH p q C l (M%(p*q))=sumD p q C l M%(p*q)
 | [],M=>rfl
 | i::l,M=>by
  unfold sumH sumD;rw[List.foldl_cons,List.foldl_cons,Nat.mod_add_mod];exact sumH_D l _
section
variable{p q:Nat}(k:KeyOk p q)(p2:p<1099511627776)(q2:q<1099511627776){C:List (List Nat)}(lC:∀c∈C,∀x∈c,x<B)(hv:∀c∈C,kb8 (digs B (p*q)) c=true)
include k p2 q2 lC hv
theorem kox{i:Nat}(hi:i<C.length):digs B (num B C[i])=C[i]∧num B C[i]<p*q*(p*q)∧Nat.Coprime (num B C[i]) (p*q):=by
 have hm:=List.getElem_mem hi;obtain⟨-,r,-,l,c⟩:=(ksa p2 q2 (lC _ hm)).1 (hv _ hm);exact⟨ken B2 (lC _ hm) (rt_iff.1 r).2,l,c⟩
theorem kbfv:0<p*q*(p*q):=Nat.mul_pos (kh7 k) (kh7 k)
theorem kxp:∀(l:List Nat),(∀i∈l,i<C.length)→∀X:Nat,prodC (digs B (p*q*(p*q))) C l (digs B (X%(p*q*(p*q))))=digs B (prodN C l X%(p*q*(p*q)))
 | [],_,X=>rfl
 | i::l,hl,X=>by
  have hi:=hl i (by simp);obtain⟨e,lt,co⟩:=kox k p2 q2 lC hv hi;have hNN:=kbfv k p2 q2 lC hv;have hsq:=key_sq p2 q2;have up:∀{x:Nat},x<p*q*(p*q)→x<B^30:=fun h=>Nat.lt_trans h (Nat.lt_of_lt_of_le hsq (Nat.pow_le_pow_right (by decide) (by decide)));have hC:C.getD i []=C[i]:=by simp[List.getD,hi]
  have ih:=kxp l (fun j hj=>hl j (by simp[hj])) (X*num B C[i]);unfold prodC prodN at ih⊢;rw[List.foldl_cons,List.foldl_cons,hC];rw[← ih];congr 1
  conv=>lhs;rw[← e]
  rw[k30 (up (Nat.mod_lt _ hNN)) (up lt) (Nat.lt_of_lt_of_le hsq (Nat.pow_le_pow_right (by decide) (by decide))) hNN,Nat.mod_mul_mod]
theorem kvq:∀(l:List Nat),(∀i∈l,i<C.length)→∀X:Nat,Nat.Coprime X (p*q)→Nat.Coprime (prodN C l X) (p*q)
 | [],_,X,h=>h
 | i::l,hl,X,h=>by
  have hi:=hl i (by simp);obtain⟨e,lt,co⟩:=kox k p2 q2 lC hv hi;have hC:C.getD i []=C[i]:=by simp[List.getD,hi]
  have:=kvq l (fun j hj=>hl j (by simp[hj])) (X*num B C[i]) (Nat.Coprime.mul_left h co);unfold prodN at this⊢;rw[List.foldl_cons,hC];exact this
theorem kxe:∀(l:List Nat),(∀i∈l,i<C.length)→∀X M:Nat,Hid (p*q) ((p-1)*(q-1)) X M→Hid (p*q) ((p-1)*(q-1)) (prodN C l X) (sumH p q C l M)
 | [],_,X,M,h=>h
 | i::l,hl,X,M,h=>by
  have hi:=hl i (by simp);obtain⟨e,lt,co⟩:=kox k p2 q2 lC hv hi;have hC:C.getD i []=C[i]:=by simp[List.getD,hi]
  have:=kxe l (fun j hj=>hl j (by simp[hj])) (X*num B C[i]) ((M+hidOf p q (num B C[i]))%(p*q)) (Hid.mul (kh7 k) h (kt6 k co));unfold prodN sumH at this⊢;rw[List.foldl_cons,List.foldl_cons,hC];exact this
theorem k91:digs B (1%(p*q*(p*q)))=[1]:=by
 have h1:=k.pos;have:1<p*q*(p*q):=Nat.lt_of_lt_of_le h1 (Nat.le_mul_of_pos_left _ (by omega));rw[Nat.mod_eq_of_lt this,kjo]
theorem k3t:Hid (p*q) ((p-1)*(q-1)) 1 0:=by
 have:=Hid.shown (f:=(p-1)*(q-1)) (kh7 k);rwa[Nat.zero_mul,Nat.zero_add]at this
theorem kbia(hb:badF (p:Int) (q:Int)=false)(may:kbs (digs B (p*q))=true){l:List Nat}(hl:∀i∈l,i<C.length):decF (p:Int) (q:Int) (prodC (digs B (p*q*(p*q))) C l [1])=(digs B (sumD p q C l 0%(p*q)),0):=by
 rw[← k91 k p2 q2 lC hv,kxp k p2 q2 lC hv l hl,dec_of k p2 q2 hb may (kvq k p2 q2 lC hv l hl 1 (Nat.coprime_one_left _)) (kxe k p2 q2 lC hv l hl 1 0 (k3t k p2 q2 lC hv)),← sumH_D,Nat.zero_mod]
end
theorem kzp{p q:Nat}(k:KeyOk p q){C:List (List Nat)}:∀(l:List Nat)(M:Nat),(∀i∈l,Nat.Coprime (num B (C.getD i [])) (p*q))→sumD p q C l M≤M+l.length*(p*q)
 | [],M,_=>by simp[sumD]
 | i::l,M,h=>by
  have h1:=(kt6 k (h i (by simp))).1;have:=kzp k l (M+hidOf p q (num B (C.getD i []))) fun j hj=>h j (by simp[hj]);unfold sumD at this⊢;rw[List.foldl_cons,List.length_cons,Nat.succ_mul];omega
end Go.Ab

/- squeezed -/
set_option maxRecDepth 10000
namespace Go.Ab
open Go.Proofs
def OfP(h0:AH)(n:Nat)(l:List Nat)(v:AV)(h':AH):Prop:=Grow h0 h'∧∃(t:Sl)(w:List Nat),v=.tup [.agg [.int .i64 (n:Int),t.v],.int .i64 0]∧Nats h' t w∧w.length=(n+63)/64∧Own h0 t∧∀m,wbit w m=decide (m∈l)
theorem ofP_bt{n:Nat}{w l:List Nat}(hn:n≤65536)(hl:∀x∈l,x<n)(hw:w.length=(n+63)/64)(hm:∀m,wbit w m=decide (m∈l)):btR (n:Int) w=true∧btL (n:Int) w=(List.range n).filter fun i=>decide (i∈l):=by
 have hov:∀i,n≤i→wbit w i=false:=fun i hi=>by
  rw[hm,decide_eq_false];intro h;have:=hl i h;omega
 have hR:btR (n:Int) w=true:=btR_of (by omega) (by omega) (by rw[Int.toNat_natCast];exact hw) fun i _ hi=>hov i (by rw[Int.toNat_natCast]at hi;exact hi);refine⟨hR,?_⟩;unfold btL;rw[hR,if_pos rfl,Int.toNat_natCast];apply List.filter_congr;intro i hi;rw[hm]
theorem k5p{x k:Nat}(hx:x<18446744073709551616)(hk:k<64)(hb:x.testBit k=false):IntKind.wrap .u64 ((x:Int)+((2^k:Nat):Int))=((x|||2^k:Nat):Int):=by
 have hp:2^k<2^64:=Nat.pow_lt_pow_right (by decide) hk
 have h1:BitVec.ofNat 64 x&&&BitVec.ofNat 64 (2^k)=0#64:=by
  apply BitVec.eq_of_toNat_eq;rw[BitVec.toNat_and,BitVec.toNat_ofNat,BitVec.toNat_ofNat,Nat.mod_eq_of_lt hx,Nat.mod_eq_of_lt hp];apply Nat.eq_of_testBit_eq;intro i;rw[Nat.testBit_and,Nat.testBit_two_pow];by_cases e:k=i
  ·subst e;simp[hb]
  ·simp[e]
 have h2:=congrArg BitVec.toNat (BitVec.add_eq_or_of_and_eq_zero _ _ h1);rw[BitVec.toNat_add,BitVec.toNat_or,BitVec.toNat_ofNat,BitVec.toNat_ofNat,Nat.mod_eq_of_lt hx,Nat.mod_eq_of_lt hp]at h2;rw[wrapU,← h2];omega
section
variable{h0:AH}{S:Fp}{s s1 s2 s3:Sl}{t:Tb}
theorem k9u{l:List Nat}{n:Nat}(q:Sq EI h0 S s (zs l)){j:Nat}(hj:j<l.length)(hlj:l[j]<65536){h:AH}(G:Grow h0 h){b c i:Nat}{t:Sl}{w:List Nat}(C:h.has c [.int .i64 (n:Int),t.v] T.ku)(V:Vec h t i w)(hw:l[j]/64<w.length)(hbit:wbit w l[j]=false){Q:AV→AH→Prop}
  (hP:∀h',Upd h h' i→Vec h' t i (w.set (l[j]/64) (w[l[j]/64]|||2^(l[j]%64)))→Runs (go (.pt F.kci Td.kj4 [(0,.int .i64 (n:Int)),(1,s.v),(4,.ptr (some (.new b 0))),(6,.ptr (some (.new c 0))),(7,.int .i64 ((j+1:Nat):Int))]) h') Q):∀(k m:Nat),m+k=l[j]%64→
  Runs (go (.pt F.kci Td.kpm [(0,.int .i64 (n:Int)),(1,s.v),(4,.ptr (some (.new b 0))),(6,.ptr (some (.new c 0))),(7,.int .i64 (j:Int)),(9,.int .u64 ((2^m:Nat):Int)),(10,.int .i64 (m:Int))]) h) Q:=by
 have hj':j<(zs l).length:=by rw[zs_len];omega
 obtain⟨r,e1,e2⟩:=(q.grow G).int hj';have hx:(zs l)[j]=((l[j]:Nat):Int):=by simp[zs]
 rw[hx]at e2;have hm64:l[j]%64<64:=Nat.mod_lt _ (by decide);intro k
 induction k with
 | zero =>
  intro m hm;have hwl:w[l[j]/64]<18446744073709551616:=V.lt _ (List.getElem_mem hw);have hgd:w.getD (l[j]/64) 0=w[l[j]/64]:=by simp[List.getD,hw]
  have hb2:w[l[j]/64].testBit (l[j]%64)=false:=by
   unfold wbit at hbit;rw[hgd]at hbit;exact hbit
  rw[kz8];refine Runs.step e1 (Runs.step e2 ?_);rw[show Int.tmod ((l[j]:Nat):Int) 64=((l[j]%64:Nat):Int)from rfl];refine Runs.ifF (decide_eq_false (by omega)) (Runs.step (C.rd 1 rfl (asSl_v _)) (Runs.step e1 (Runs.step e2 (Runs.step (C.rd 1 rfl (asSl_v _)) (Runs.step e1 (Runs.step e2 ?_))))));rw[show Int.tdiv ((l[j]:Nat):Int) 64=((l[j]/64:Nat):Int)from rfl,wrap64 (by omega) (by omega),V.len];refine Runs.step (V.idx rfl (kw hw)) (Runs.step (V.rd rfl (kw hw) (kc _ _)) (Runs.step (V.idx rfl (kw hw)) ?_));obtain rfl:m=l[j]%64:=by omega
  rw[hgd,k5p hwl hm64 hb2];refine Runs.vput V rfl (kw hw) (kbb (Nat.or_lt_two_pow (n:=64) hwl (Nat.pow_lt_pow_right (by decide) hm64))) fun h1 V1 u1=>?_;rw[ki (by have:=q.short;rw[zs_len]at this;omega)];exact hP h1 u1 V1
 | succ k ih =>
  intro m hm;rw[kz8];refine Runs.step e1 (Runs.step e2 ?_);rw[show Int.tmod ((l[j]:Nat):Int) 64=((l[j]%64:Nat):Int)from rfl];refine Runs.ifT (decide_eq_true (by omega)) ?_;have hp:2^(m+1)<2^64:=Nat.pow_lt_pow_right (by decide) (by omega)
  rw[ki (by omega),show IntKind.wrap .u64 (((2^m:Nat):Int)*2)=((2^(m+1):Nat):Int)from by
   have:((2^m:Nat):Int)*2=((2^(m+1):Nat):Int):=by rw[Nat.pow_succ];omega
   have gen:∀z:Nat,z<18446744073709551616→IntKind.wrap .u64 (z:Int)=(z:Int):=fun z hz=>by rw[wrapU];omega
   rw[this,gen _ hp]]
  exact ih (m+1) (by omega)
theorem k71{l:List Nat}{n:Nat}(q:Sq EI h0 S s (zs l))(hl:∀x∈l,x<n)(hn:n≤65536){b c i:Nat}{t:Sl}(hb:h0.blks.size≤b)(hci:c≠i)(hbc:b≠c)(hbi:b≠i)(hi:h0.blks.size≤i):∀(k j:Nat),j+k=l.length→∀(h:AH)(w:List Nat),Grow h0 h→(∃cs:List AV,cs.length=2∧h.has b cs T.ku)→h.has c [.int .i64 (n:Int),t.v] T.ku→Vec h t i w→w.length=(n+63)/64→(∀m,wbit w m=decide (m∈l.take j))→
  Runs (go (.pt F.kci Td.kj4 [(0,.int .i64 (n:Int)),(1,s.v),(4,.ptr (some (.new b 0))),(6,.ptr (some (.new c 0))),(7,.int .i64 (j:Int))]) h) (OfP h0 n l):=by
 intro k
 induction k with
 | zero =>
  intro j hj h w g ⟨cs,hcs,B⟩ C V hw hm;obtain rfl:j=l.length:=by omega
  rw[ku5,q.len,zs_len];refine Runs.ifF (decide_eq_false (by omega)) (Runs.step (C.rd 0 rfl (kc _ _)) (Runs.step (C.rd 1 rfl (asSl_v _)) ?_));refine Runs.puts B (by rw[hcs];rfl) fun h1 B1 u1=>?_;refine Runs.step (B1.rd 0 rfl (kc _ _)) (Runs.step (B1.rd 1 rfl (asSl_v _)) (Runs.ret ⟨g.updr hb u1,t,w,rfl,(V.updr (fun e=>hbi e.symm) u1).nats,hw,V.own hi,fun m=>?_⟩));rw[hm,List.take_length]
 | succ k ih =>
  intro j hj h w g ⟨cs,hcs,B⟩ C V hw hm;have hjl:j<l.length:=by omega
  have hj':j<(zs l).length:=by rw[zs_len];omega
  obtain⟨r,e1,e2⟩:=(q.grow g).int hj';have hx:(zs l)[j]=((l[j]:Nat):Int):=by simp[zs]
  rw[hx]at e2;have hxn:l[j]<n:=hl _ (List.getElem_mem hjl);have hq:l[j]/64<w.length:=by omega
  rw[ku5];rw[q.len,zs_len]at e1⊢;refine Runs.ifT (decide_eq_true (by omega)) (Runs.step e1 (Runs.step e2 (Runs.ifF (decide_eq_false (by omega)) (Runs.step e1 (Runs.step e2 (Runs.ifF (decide_eq_false (by omega)) (Runs.step (C.rd 0 rfl (kc _ _)) (Runs.step (C.rd 1 rfl (asSl_v _)) (Runs.step e1 (Runs.step e2 ?_))))))))))
  have ht:∀m,decide (m∈l.take (j+1))=(decide (m=l[j])||decide (m∈l.take j)):=fun m=>by
   rw[List.take_succ_eq_append_getElem hjl,Bool.eq_iff_iff];simp only[Bool.or_eq_true,decide_eq_true_eq,List.mem_append,List.mem_singleton];exact Or.comm
  refine(k87 V.nats hq (by omega)).call fun v h1 ⟨e,g1⟩=>?_;subst e;refine Runs.step (seen rfl) (Runs.cond (fun c1=>?_) fun c1=>?_)
  ·rw[ki (by have:=q.short;rw[zs_len]at this;omega)];refine ih (j+1) (by omega) h1 w (g.trans g1) ⟨cs,hcs,g1.has B⟩ (g1.has C) (V.grow g1) hw fun m=>?_;rw[ht,← hm];by_cases e:m=l[j]
   ·rw[e,c1];simp
   ·rw[decide_eq_false e];simp
  ·refine k9u (n:=n) (b:=b) (c:=c) q hjl (by omega) (g.trans g1) (g1.has C) (V.grow g1) hq c1 (fun h' u' V'=>?_) (l[j]%64) 0 (by omega);refine ih (j+1) (by omega) h' _ ((g.trans g1).updr hi u') ⟨cs,hcs,(g1.has B).updr hbi u'⟩ ((g1.has C).updr hci u') V' (by rw[List.length_set];exact hw) fun m=>?_;rw[k1j hq,hm,ht]
theorem kbbv{l:List Nat}{n:Nat}(q:Sq EI h0 S s (zs l))(hl:∀x∈l,x<n)(hn:n≤65536):Runs (go (.fn F.kci [.int .i64 (n:Int),s.v]) h0) (OfP h0 n l):=by
 rw[kxh];refine Runs.new fun h1 b1 g1=>Runs.ifF (decide_eq_false (by omega)) (Runs.ifF (decide_eq_false (by omega)) ?_);rw[wrap64 (n:=(n:Int)+63) (by omega) (by omega),show(n:Int)+63=((n+63:Nat):Int)from by omega,show Int.tdiv ((n+63:Nat):Int) 64=(((n+63)/64:Nat):Int)from rfl,wrap64 (by omega) (by omega)];refine Runs.mk (kdm (by omega)) kc2 fun t h2 V g2=>?_;refine Runs.new fun h3 b3 g3=>Runs.puts b3 rfl fun h4 b4 u4=>?_;have z1:=b1.lt;have z2:=g2.size;have z3:=b3.lt;have z4:=V.inn;have g24:Grow h2 h4:=g3.updr (Nat.le_refl _) u4;have G4:Grow h0 h4:=(g1.trans g2).trans g24;exact k71 q hl hn (b:=h0.blks.size) (c:=h2.blks.size) (i:=h1.blks.size) (Nat.le_refl _) (by omega) (by omega) (by omega) g1.size l.length 0 (by omega) h4 _ G4 ⟨_,rfl,(g2.trans g24).has b1⟩ b4 (V.grow g24) (by simp) fun m=>by rw[k0x];simp
theorem kbco{h1:AH}{n:Nat}{l:List Nat}{f:Option (AV×AH)}{b:Nat}(R:Runs f (OfP h1 n l))(G:Grow h0 h1)(hb:h0.blks.size≤b){cs:List AV}(hcs:cs.length=2)(B:h1.has b cs T.ku) :
  Runs (f.bind fun q=>(AV.asTup2 q.1).bind fun p=>(AV.asAgg p.1).bind fun cs=>cond (Nat.beq cs.length 2) (((cs[0]?).bind (AV.asInt .i64)).bind fun n=>((cs[1]?).bind AV.asSl).bind fun l=>((some p.2).bind (AV.asInt .i64)).bind fun e=>(q.2.puts (.new b 0) [.int .i64 n,l.v]).bind fun h=>((h.cell ((Ref.new b 0).add 0)).bind (AV.asInt .i64)).bind fun n=>((h.cell ((Ref.new b 0).add 1)).bind AV.asSl).bind fun l=>some (.tup [.agg [.int .i64 n,l.v],.int .i64 e],h)) none) (OfP h0 n l):=by
 refine R.call fun v h2 ⟨g2,t,w,e,N,hw,o,hm⟩=>?_;subst e;refine Runs.step rfl (Runs.step rfl (Runs.ifT rfl (Runs.step rfl (Runs.step (seenAt rfl (asSl_v _)) (Runs.step rfl ?_)))));dsimp only;have hlt:=B.lt;refine Runs.puts (g2.has B) (by rw[hcs];rfl) fun h3 b3 u3=>?_;refine Runs.step (b3.rd 0 rfl (kc _ _)) (Runs.step (b3.rd 1 rfl (asSl_v _)) (Runs.ret ⟨(G.trans g2).updr hb u3,t,w,rfl,N.updr o hlt u3,hw,o.of_le G,hm⟩))
theorem kbgh{n:Nat}(hn:n≤65536){b:Nat}(hb:h0.blks.size≤b):∀(k i:Nat),i+k=n→∀(h:AH)(o:Sl)(jo:Option Nat),Grow h0 h→LeO h0.blks.size jo→h.has b [.int .i64 0,(⟨none,0,.is 0⟩:Sl).v] T.ku→(∀k,jo=some k→k≠b)→GF EI T.int h Fp.no o jo (zs (List.range i))→
  Runs (go (.pt F.ke3 Td.kkd [(0,.int .i64 (n:Int)),(2,.ptr (some (.new b 0))),(4,o.v),(5,.int .i64 (i:Int))]) h) (OfP h0 n (List.range n)):=by
 intro k
 induction k with
 | zero =>
  intro i hi h o jo G lj B hjb V;obtain rfl:i=n:=by omega
  rw[kpl];refine Runs.ifF (decide_eq_false (by omega)) ?_;exact kbco (kbbv V.sq (fun x hx=>List.mem_range.1 hx) hn) G hb rfl B
 | succ k ih =>
  intro i hi h o jo G lj B hjb V;rw[kpl];refine Runs.ifT (decide_eq_true (by omega)) (Runs.ifT (decide_eq_true (by omega)) (Runs.new fun h2 b2 g2=>?_));refine Runs.step (kfq b2 (by rw[kl3];rfl)) ?_;obtain⟨o',h3,e3,V3,u3⟩:=(V.grow g2).push (T:=Fp.no) (show EI.has h2 Fp.no [.int .i64 (i:Int)] (i:Int)from rfl) NotO.no (knv (by rw[zs_len,List.length_range];omega));have hlt:=B.lt;refine Runs.step e3 (Runs.step (asSl_v _) ?_);rw[ki (by omega)];have m3:Md (Fp.opt jo) h2 h3:=u3.md fun k e=>e;refine ih (i+1) (by omega) h3 o' (some h2.blks.size) ((G.trans g2).updo lj u3) (show _≤_ from(G.trans g2).size) (m3.has (g2.has B) fun e=>hjb _ e rfl) (fun k e=>by cases e;have:=g2.size;omega) ?_;rw[List.range_succ,zs_app];exact V3.mono (fun j x=>x.1.elim id id) NotO.no
theorem k4x{n:Nat}(hn:n≤65536):Runs (go (.fn F.ke3 [.int .i64 (n:Int)]) h0) (OfP h0 n (List.range n)):=by
 rw[kyb];exact Runs.new fun h1 b1 g1=>kbgh hn (Nat.le_refl _) n 0 (by omega) h1 _ none g1 trivial b1 (fun k e=>by cases e) (GF.none _ _ _ _)
variable{w1 w2:List Nat}
end
end Go.Ab

/- squeezed -/
set_option maxRecDepth 10000
namespace Go.Ab
open Go.Proofs Go.Num
section
variable{h0:AH}{S:Fp}{s1 s2 s3 s u:Sl}{t:Tb}
theorem kbhk{n:Nat}(hn:65536<n)(hn2:n≤9223372036854775807){b:Nat}(hb:h0.blks.size≤b):∀(k i:Nat),i+k=65537→∀(h:AH)(o:Sl)(jo:Option Nat),Grow h0 h→LeO h0.blks.size jo→h.has b [.int .i64 0,(⟨none,0,.is 0⟩:Sl).v] T.ku→(∀k,jo=some k→k≠b)→GF EI T.int h Fp.no o jo (zs (List.range i))→
  Runs (go (.pt F.ke3 Td.kkd [(0,.int .i64 (n:Int)),(2,.ptr (some (.new b 0))),(4,o.v),(5,.int .i64 (i:Int))]) h) fun v h'=>Grow h0 h'∧v=.tup [.agg [.int .i64 0,(⟨none,0,.is 0⟩:Sl).v],.int .i64 1]:=by
 have fin:∀(h:AH)(o:Sl),Grow h0 h→h.has b [.int .i64 0,(⟨none,0,.is 0⟩:Sl).v] T.ku→Runs ((go (.fn F.kci [.int .i64 (n:Int),o.v]) h).bind fun q=>(AV.asTup2 q.1).bind fun p=>(AV.asAgg p.1).bind fun cs=>cond (Nat.beq cs.length 2) (((cs[0]?).bind (AV.asInt .i64)).bind fun n=>((cs[1]?).bind AV.asSl).bind fun l=>((some p.2).bind (AV.asInt .i64)).bind fun e=>(q.2.puts (.new b 0) [.int .i64 n,l.v]).bind fun h=>((h.cell ((Ref.new b 0).add 0)).bind (AV.asInt .i64)).bind fun n=>((h.cell ((Ref.new b 0).add 1)).bind AV.asSl).bind fun l=>some (.tup [.agg [.int .i64 n,l.v],.int .i64 e],h)) none) fun v h'=>Grow h0 h'∧v=.tup [.agg [.int .i64 0,(⟨none,0,.is 0⟩:Sl).v],.int .i64 1]:=by
  intro h o G B
  have k0:Runs (go (.fn F.kci [.int .i64 (n:Int),o.v]) h) fun v h'=>Grow h h'∧v=.tup [.agg [.int .i64 0,(⟨none,0,.is 0⟩:Sl).v],.int .i64 1]:=by
   rw[kxh];refine Runs.new fun h1 b1 g1=>Runs.ifF (decide_eq_false (by omega)) (Runs.ifT (decide_eq_true (by omega)) ?_);refine Runs.puts b1 rfl fun h2 b2 u2=>Runs.step (b2.rd 0 rfl (kc _ _)) (Runs.step (b2.rd 1 rfl (asSl_v _)) (Runs.ret ⟨g1.updr (Nat.le_refl _) u2,rfl⟩))
  refine k0.call fun v h2 ⟨g2,e⟩=>?_;subst e;refine Runs.step rfl (Runs.step rfl (Runs.ifT rfl (Runs.step rfl (Runs.step (seenAt rfl (asSl_v _)) (Runs.step rfl ?_)))));dsimp only;refine Runs.puts (g2.has B) rfl fun h3 b3 u3=>?_;exact Runs.step (b3.rd 0 rfl (kc _ _)) (Runs.step (b3.rd 1 rfl (asSl_v _)) (Runs.ret ⟨(G.trans g2).updr hb u3,rfl⟩))
 intro k
 induction k with
 | zero =>
  intro i hi h o jo G lj B hjb V;rw[kpl];exact Runs.cond (fun _=>Runs.ifF (decide_eq_false (by omega)) (fin h o G B)) fun _=>fin h o G B
 | succ k ih =>
  intro i hi h o jo G lj B hjb V;rw[kpl];refine Runs.ifT (decide_eq_true (by omega)) (Runs.ifT (decide_eq_true (by omega)) (Runs.new fun h2 b2 g2=>?_));refine Runs.step (kfq b2 (by rw[kl3];rfl)) ?_;obtain⟨o',h3,e3,V3,u3⟩:=(V.grow g2).push (T:=Fp.no) (show EI.has h2 Fp.no [.int .i64 (i:Int)] (i:Int)from rfl) NotO.no (knv (by rw[zs_len,List.length_range];omega));have hlt:=B.lt;refine Runs.step e3 (Runs.step (asSl_v _) ?_);rw[ki (by omega)];have m3:Md (Fp.opt jo) h2 h3:=u3.md fun k e=>e;refine ih (i+1) (by omega) h3 o' (some h2.blks.size) ((G.trans g2).updo lj u3) (show _≤_ from(G.trans g2).size) (m3.has (g2.has B) fun e=>hjb _ e rfl) (fun k e=>by cases e;have:=g2.size;omega) ?_;rw[List.range_succ,zs_app];exact V3.mono (fun j x=>x.1.elim id id) NotO.no
theorem kbab{n:Nat}(hn:n≤9223372036854775807):Runs (go (.fn F.ke3 [.int .i64 (n:Int)]) h0) fun v h'=>Grow h0 h'∧∃(m:Int)(y:Sl)(w:List Nat)(e:Int),v=.tup [.agg [.int .i64 m,y.v],.int .i64 e]∧Nats h' y w∧(n≤65536→m=(n:Int)∧btR (n:Int) w=true∧btL (n:Int) w=List.range n):=by
 by_cases h:n≤65536
 ·refine(k4x h).imp fun v h' ⟨g,y,w,e,N,hw,o,hm⟩=>⟨g,n,y,w,0,e,N,fun _=>⟨rfl,?_⟩⟩;obtain⟨a,b⟩:=ofP_bt h (fun x hx=>List.mem_range.1 hx) hw hm;refine⟨a,b.trans ?_⟩;rw[List.filter_eq_self];intro x hx;exact decide_eq_true hx
 ·have:Runs (go (.fn F.ke3 [.int .i64 (n:Int)]) h0) fun v h'=>Grow h0 h'∧v=.tup [.agg [.int .i64 0,(⟨none,0,.is 0⟩:Sl).v],.int .i64 1]:=by
   rw[kyb];exact Runs.new fun h1 b1 g1=>kbhk (by omega) hn (Nat.le_refl _) 65537 0 (by omega) h1 _ none g1 trivial b1 (fun k e=>by cases e) (GF.none _ _ _ _)
  exact this.imp fun v h' ⟨g,e⟩=>⟨g,0,_,[],1,e,Nats.nil _,fun x=>absurd x h⟩
end
theorem kbgq{qs:List Nat}{C:List (List Nat)}{R:Nat×Nat→List Nat}{D:List (Nat×Nat)}{i:Nat}(hi:i<D.length):(sumsC qs C R D)[i]'(by unfold sumsC;rw[List.length_map];exact hi)=prodC qs C (R D[i]) [1]:=by
 have h:i<(D.map fun p=>prodC qs C (R p) [1]).length:=by rw[List.length_map];exact hi
 exact List.getElem_map (fun p=>prodC qs C (R p) [1]) (h:=h)
theorem k8i{a b:Nat}(h:a+b<B^64):addN (digs B a) (digs B b)=(digs B (a+b),0):=by
 unfold addN told;rw[if_pos ⟨kr (by omega),kr (by omega)⟩,kg B2,kg B2,if_pos h]
section
variable{h0:AH}{S Su So:Fp}{s1 s2 s3 s u ms ys zs':Sl}{t:Tb}{p q:Nat}{C:List (List Nat)}(k:KeyOk p q)(p2:p<1099511627776)(q2:q<1099511627776)(hb:badF (p:Int) (q:Int)=false)(may:kbs (digs B (p*q))=true)(lC:∀c∈C,∀x∈c,x<B)(hv:∀c∈C,kb8 (digs B (p*q)) c=true)
include k p2 q2 hb may lC hv
theorem ku3{i:Nat}(hi:i<C.length):decF (p:Int) (q:Int) C[i]=(digs B (hidOf p q (num B C[i])),0):=by
 unfold decF;rw[hb,cond_false,Int.toNat_natCast,Int.toNat_natCast,hv _ (List.getElem_mem hi),Bool.not_true,cond_false]
theorem kbcf(qt:TabAt h0 S s1 s2 s3 t)(M:Sq Ef.nats h0 So ms (C.map fun c=>(decF (p:Int) (q:Int) c).1)){b1 b2:Nat}(B1:h0.has b1 [.int .u64 (p:Int),.int .u64 (q:Int)] T.ket)(B2:h0.has b2 [s1.v,s2.v,s3.v] T.kz){nn:Sl}(Nn:Nats h0 nn (digs B (p*q))){D:List (Nat×Nat)}{Sy Sz:Fp}(Y:Sq Ef.nats h0 Sy ys (sumsC (digs B (p*q*(p*q))) C (fun x=>(List.range C.length).filter (leftP t x.1 (x.2:Int))) D))(Z:Sq EP h0 Sz zs' (zc D)){i:Nat}(hi:i<D.length)(hD:D.length≤1000)(hC:C.length≤300)(hf:D[i].1<t.cols.length)(hfl:t.cols[D[i].1].length=C.length){P:AV→AH→Prop}
  (hP:∀h,Grow h0 h→Runs (go (.pt F.kcd Td.kkm [(3,.ptr (some (.new b1 0))),(4,.ptr (some (.new b2 0))),(11,nn.v),(13,ys.v),(15,ms.v),(19,zs'.v),(20,.int .i64 ((i+1:Nat):Int))]) h) P) :
  ∀(kk j:Nat),j+kk=C.length→∀(h:AH)(a:Sl),Grow h0 h→Nats h a (digs B (sumD p q C ((List.range j).filter (leftP t D[i].1 (D[i].2:Int))) 0))→
  Runs (go (.pt F.kcd Td.klr [(3,.ptr (some (.new b1 0))),(4,.ptr (some (.new b2 0))),(11,nn.v),(13,ys.v),(15,ms.v),(19,zs'.v),(20,.int .i64 (i:Int)),(21,a.v),(22,.int .i64 (j:Int))]) h) P:=by
 have hml:ms.len=C.length:=by rw[M.len,List.length_map]
 have hcop:∀i,i<C.length→Nat.Coprime (num B (C.getD i [])) (p*q):=fun i hi=>by
  have:C.getD i []=C[i]:=by simp[List.getD,hi]
  rw[this];exact(kox k p2 q2 lC hv hi).2.2
 have hpq:p*q<B^2:=key_lt p2 q2
 have small:∀(l:List Nat),(∀i∈l,i<C.length)→l.length≤300→sumD p q C l 0<B^3:=fun l hl hlen=>by
  have h1:=kzp k l 0 fun i hi=>hcop i (hl i hi);have h2:l.length*(p*q)≤300*(p*q):=Nat.mul_le_mul_right _ hlen
  have h3:300*(p*q)<B^3:=by
   have:B^3=B*B^2:=by rw[← Nat.pow_succ']
   rw[this];exact Nat.mul_lt_mul'' (by decide) hpq
  omega
 have up3:B^3<B^64:=Nat.pow_lt_pow_right (by decide) (by decide);intro kk
 induction kk with
 | zero =>
  intro j hj h a G N;obtain rfl:j=C.length:=by omega
  have hyl:i<(sumsC (digs B (p*q*(p*q))) C (fun x=>(List.range C.length).filter (leftP t x.1 (x.2:Int))) D).length:=by unfold sumsC;rw[List.length_map];exact hi
  obtain⟨r1,y,e1,e2,Ny,-⟩:=(Y.grow G).nats hyl;have hye:(sumsC (digs B (p*q*(p*q))) C (fun x=>(List.range C.length).filter (leftP t x.1 (x.2:Int))) D)[i]=prodC (digs B (p*q*(p*q))) C ((List.range C.length).filter (leftP t D[i].1 (D[i].2:Int))) [1]:=kbgq hi;rw[hye]at Ny;have hl:∀x∈(List.range C.length).filter (leftP t D[i].1 (D[i].2:Int)),x<C.length:=fun x hx=>List.mem_range.1 (List.mem_filter.1 hx).1
  have hlen:((List.range C.length).filter (leftP t D[i].1 (D[i].2:Int))).length≤300:=by
   have:=List.length_filter_le (leftP t D[i].1 (D[i].2:Int)) (List.range C.length);rw[List.length_range]at this;omega
  rw[kuq,hml];refine Runs.ifF (decide_eq_false (by omega)) (Runs.step ((G.has B1).rd 0 (f:=AV.asInt .u64) rfl (kc _ _)) (Runs.step ((G.has B1).rd 1 (f:=AV.asInt .u64) rfl (kc _ _)) (Runs.step e1 (Runs.step e2 ?_))));refine(k1c Ny p q).call fun v h1 ⟨x,e,Nx,g1,o1⟩=>?_;subst e;rw[kbia k p2 q2 lC hv hb may hl]at Nx⊢;have G1:=G.trans g1;refine Runs.step rfl (Runs.step (seen (asSl_v _)) (Runs.step (seen (kc _ _)) ?_));dsimp only;obtain⟨y',h2,e3,Ny',g2,o2⟩:=kbb8 (N.grow g1) (Nn.grow G1);refine Runs.step e3 (Runs.step (seen (asSl_v _)) ?_);dsimp only;have hsm:=small _ hl hlen;rw[kzv (Nat.lt_trans hsm up3) (Nat.lt_trans hpq (Nat.pow_lt_pow_right (by decide) (by decide))) (kh7 k)]at Ny';refine Runs.step (kbfl (Nx.grow g2) Ny') (Runs.step (seen rfl) (Runs.ifF rfl (Runs.ifF rfl ?_)));rw[ki (by omega)];exact hP _ (G1.trans g2)
 | succ kk ih =>
  intro j hj h a G N;have hjC:j<C.length:=by omega
  have hzc:i<(zc D).length:=by rw[zc_len];exact hi
  have ec:(zc D)[i]=((D[i].1:Int),(D[i].2:Int)):=by simp[zc]
  obtain⟨r1,e1,e2,e3⟩:=(Z.grow G).two hzc;rw[ec]at e2 e3;obtain⟨r2,s',e4,e5,-,q'⟩:=(qt.cols.grow G).sl hf;have hjc:j<t.cols[D[i].1].length:=by omega
  obtain⟨r4,e8,e9⟩:=q'.int hjc
  have hp:leftP t D[i].1 (D[i].2:Int) j=decide (t.cols[D[i].1][j]≤(D[i].2:Int)):=by
   unfold leftP;simp[List.getD,hf,hjc]
  have hr:(List.range (j+1)).filter (leftP t D[i].1 (D[i].2:Int))=(List.range j).filter (leftP t D[i].1 (D[i].2:Int))++if leftP t D[i].1 (D[i].2:Int) j then [j]else []:=by
   rw[List.range_succ,List.filter_append];congr 1;simp only[List.filter_cons,List.filter_nil]
  rw[kuq];refine Runs.ifT (decide_eq_true (by omega)) (Runs.step ((G.has B2).rd 2 rfl (asSl_v _)) (Runs.step e1 (Runs.step e2 (Runs.step e4 (Runs.step e5 (Runs.step e8 (Runs.step e9 (Runs.step e1 (Runs.step e3 ?_)))))))));rw[← hp];refine Runs.cond (fun c1=>?_) fun c1=>?_
  ·have hjm:j<(C.map fun c=>(decF (p:Int) (q:Int) c).1).length:=by rw[List.length_map];exact hjC
   obtain⟨r5,x,e10,e11,Nx,-⟩:=(M.grow G).nats hjm
   have hmj:(C.map fun c=>(decF (p:Int) (q:Int) c).1)[j]=digs B (hidOf p q (num B C[j])):=by
    rw[List.getElem_map,ku3 k p2 q2 hb may lC hv hjC]
   rw[hmj]at Nx;refine Runs.step e10 (Runs.step e11 ?_);obtain⟨y',h2,e12,Ny',g2,o2⟩:=k5z N Nx;refine Runs.step e12 (Runs.step rfl (Runs.step (seen (asSl_v _)) (Runs.step (seen (kc _ _)) ?_)));dsimp only;have hl:∀x∈(List.range (j+1)).filter (leftP t D[i].1 (D[i].2:Int)),x<C.length:=fun x hx=>by have:=List.mem_range.1 (List.mem_filter.1 hx).1;omega
   have hlen:((List.range (j+1)).filter (leftP t D[i].1 (D[i].2:Int))).length≤300:=by
    have:=List.length_filter_le (leftP t D[i].1 (D[i].2:Int)) (List.range (j+1));rw[List.length_range]at this;omega
   have hsm:=small _ hl hlen
   have hsum:sumD p q C ((List.range (j+1)).filter (leftP t D[i].1 (D[i].2:Int))) 0=sumD p q C ((List.range j).filter (leftP t D[i].1 (D[i].2:Int))) 0+hidOf p q (num B C[j]):=by
    rw[hr,c1,if_pos rfl];unfold sumD;have:C.getD j []=C[j]:=by simp[List.getD,hjC]
    rw[List.foldl_append,List.foldl_cons,List.foldl_nil,this]
   rw[hsum]at hsm;rw[k8i (Nat.lt_trans hsm up3)]at Ny';rw[ki (by omega)];refine ih (j+1) (by omega) h2 y' (G.trans g2) ?_;rw[hsum];exact Ny'
  ·rw[ki (by omega)];refine ih (j+1) (by omega) h a G ?_;rw[hr,c1,if_neg (by simp),List.append_nil];exact N
theorem kbbk(qt:TabAt h0 S s1 s2 s3 t)(M:Sq Ef.nats h0 So ms (C.map fun c=>(decF (p:Int) (q:Int) c).1)){b1 b2:Nat}(B1:h0.has b1 [.int .u64 (p:Int),.int .u64 (q:Int)] T.ket)(B2:h0.has b2 [s1.v,s2.v,s3.v] T.kz){nn:Sl}(Nn:Nats h0 nn (digs B (p*q))){D:List (Nat×Nat)}{Sy Sz:Fp}(Y:Sq Ef.nats h0 Sy ys (sumsC (digs B (p*q*(p*q))) C (fun x=>(List.range C.length).filter (leftP t x.1 (x.2:Int))) D))(Z:Sq EP h0 Sz zs' (zc D))(hD:D.length≤1000)(hC:C.length≤300)(hf:∀x∈D,∃hf:x.1<t.cols.length,t.cols[x.1].length=C.length) :
  ∀(kk i:Nat),i+kk=D.length→∀h,Grow h0 h→
  Runs (go (.pt F.kcd Td.kkm [(3,.ptr (some (.new b1 0))),(4,.ptr (some (.new b2 0))),(11,nn.v),(13,ys.v),(15,ms.v),(19,zs'.v),(20,.int .i64 (i:Int))]) h) fun v _=>v=.bool true:=by
 intro kk
 induction kk with
 | zero =>
  intro i hi h G;rw[kx1,Z.len,zc_len];exact Runs.ifF (decide_eq_false (by omega)) (Runs.ret rfl)
 | succ kk ih =>
  intro i hi h G;have hi':i<D.length:=by omega
  obtain⟨hf1,hf2⟩:=hf _ (List.getElem_mem hi');rw[kx1,Z.len,zc_len];refine Runs.ifT (decide_eq_true (by omega)) ?_;refine kbcf k p2 q2 hb may lC hv qt M B1 B2 Nn Y Z hi' hD hC hf1 hf2 (fun h' G'=>ih (i+1) (by omega) h' G') C.length 0 (by omega) h _ G ?_;have:digs B (sumD p q C ((List.range 0).filter (leftP t D[i].1 (D[i].2:Int))) 0)=[]:=(kep (by decide)).2 rfl;rw[this];exact Nats.nil _
theorem kbb2(qt:TabAt h0 S s1 s2 s3 t)(hR:tabR t=true)(hCl:C.length=t.ids.length)(Q:Sq Ef.nats h0 Su u C){b1 b2:Nat}(B1:h0.has b1 [.int .u64 (p:Int),.int .u64 (q:Int)] T.ket)(B2:h0.has b2 [s1.v,s2.v,s3.v] T.kz){nn:Sl}(Nn:Nats h0 nn (digs B (p*q))){Sy:Fp}(Y:Sq Ef.nats h0 Sy ys (sumsC (digs B (p*q*(p*q))) C (fun x=>(List.range C.length).filter (leftP t x.1 (x.2:Int))) (cutsL t))) :
  ∀(kk i:Nat),i+kk=C.length→∀(h:AH)(So:Fp)(o:Sl)(jo:Option Nat),Grow h0 h→LeO h0.blks.size jo→(∀m,So m→h0.blks.size≤m)→GF Ef.nats T.ko h So o jo ((C.take i).map fun c=>(decF (p:Int) (q:Int) c).1)→
  Runs (go (.pt F.kcd Td.kno [(2,u.v),(3,.ptr (some (.new b1 0))),(4,.ptr (some (.new b2 0))),(11,nn.v),(13,ys.v),(15,o.v),(16,.int .i64 (i:Int))]) h) fun v _=>v=.bool true:=by
 obtain⟨hids,hcols,hbins,hall⟩:=keo hR;intro kk
 induction kk with
 | zero =>
  intro i hi h So o jo G lj hSo V;obtain rfl:i=C.length:=by omega
  rw[List.take_length]at V;rw[kzr,Q.len];refine Runs.ifF (decide_eq_false (by omega)) (Runs.step ((G.has B2).rd 0 rfl (asSl_v _)) (Runs.step ((G.has B2).rd 1 rfl (asSl_v _)) (Runs.step ((G.has B2).rd 2 rfl (asSl_v _)) ?_)));refine(kbdy (qt.grow G)).call fun v h1 ⟨g1,z,j1,e,l1,Z⟩=>?_;subst e;have G1:=G.trans g1
  have hDl:(cutsL t).length≤1000:=by
   unfold cutsL;rw[if_pos hR]
   have:=koo t t.cols.length fun i hi=>by
    obtain⟨hb',h2',h32',-⟩:=kgy (hall i hi) hi hbins;have:t.bins.getD i 0=t.bins[i]:=by simp[List.getD,hb']
    unfold nb;rw[this];omega
   omega
  refine Runs.step (seen (asSl_v _)) ?_;have hyl:ys.len=(cutsL t).length:=by rw[Y.len];unfold sumsC;rw[List.length_map]
  have hzl:z.len=(cutsL t).length:=by rw[Z.len,zc_len]
  refine Runs.ifF (by rw[hyl,hzl,decide_eq_true rfl];rfl) ?_;refine kbbk k p2 q2 hb may lC hv (qt.grow G1) (V.grow g1).sq (G1.has B1) (G1.has B2) (Nn.grow G1) (Y.grow G1) Z.sq hDl (by omega) (fun x hx=>?_) (cutsL t).length 0 (by omega) h1 (Grow.refl _)
  have h1:x.1<t.cols.length:=by
   unfold cutsL cutsTo at hx;rw[if_pos hR]at hx;simp only[List.mem_flatMap,List.mem_range,List.mem_map]at hx;obtain⟨f,hf,c,-,rfl⟩:=hx;exact hf
  obtain⟨-,-,-,hcl⟩:=kgy (hall _ h1) h1 hbins;exact⟨h1,by omega⟩
 | succ kk ih =>
  intro i hi h So o jo G lj hSo V;have hi':i<C.length:=by omega
  obtain⟨r,x,e1,e2,Nx,-⟩:=(Q.grow G).nats hi';rw[kzr,Q.len];rw[Q.len]at e1;refine Runs.ifT (decide_eq_true (by omega)) (Runs.step ((G.has B1).rd 0 (f:=AV.asInt .u64) rfl (kc _ _)) (Runs.step ((G.has B1).rd 1 (f:=AV.asInt .u64) rfl (kc _ _)) (Runs.step e1 (Runs.step e2 ?_))));refine(k1c Nx p q).call fun v h1 ⟨y,e,Ny,g1,o1⟩=>?_;subst e;have hd:(decF (p:Int) (q:Int) C[i]).2=0:=by rw[ku3 k p2 q2 hb may lC hv hi']
  refine Runs.step rfl (Runs.step (seen (asSl_v _)) (Runs.step (seen (kc _ _)) ?_));dsimp only;refine Runs.ifF (by rw[hd];rfl) (Runs.new fun h2 b2' g2=>?_);refine Runs.step (kfq b2' (by rw[kok];rfl)) ?_;have lt:=V.lt
  obtain⟨o',h3,e3,V3,u3⟩:=(V.grow (g1.trans g2)).push (T:=fun m=>¬Av y m (decF (p:Int) (q:Int) C[i]).1) (show Ef.nats.has h2 _ [y.v] _ from⟨y,rfl,Ny.grow g2,fun j hj=>hj⟩) (by
   cases jo with
   | none=>exact trivial
   | some a =>
    intro hm;have:=own_av o1 hm;have:a<h.blks.size:=lt;omega) (kri (by rw[List.length_map,List.length_take];omega))
  refine Runs.step e3 (Runs.step (asSl_v _) ?_);have hsh:=Q.short;rw[ki (by omega)];have G2:=(G.trans g1).trans g2;have ht:(C.take (i+1)).map (fun c=>(decF (p:Int) (q:Int) c).1)=(C.take i).map (fun c=>(decF (p:Int) (q:Int) c).1)++[(decF (p:Int) (q:Int) C[i]).1]:=by rw[List.take_succ_eq_append_getElem hi',List.map_append];rfl
  rw[← ht]at V3;exact ih (i+1) (by omega) h3 _ o' (some h2.blks.size) (G2.updo lj u3) (show _≤_ from G2.size) (fun m hm=>hm.1.elim (hSo m) fun a=>Nat.le_trans G.size (own_av o1 a)) V3
end
theorem HistHidesCard_law(h:AH)(T0:Tab h){x1 x2 x3:AV}(z1:ArgV Pg h T.ket x1)(z2:ArgV Pg h T.kz x2)(z3:ArgV Pg h T.kdz x3):∃h',go (.fn F.kcd [x1,x2,x3]) h=some (.bool true,h'):=by
 obtain⟨ka,kb,rfl⟩:∃a b:Int,x1=.agg [.int .u64 a,.int .u64 b]:=by
  unfold ArgV at z1;rw[kyi]at z1;obtain⟨cs,rfl,t⟩:=z1;obtain⟨hl,hf⟩:=t.struct kyi;rw[k6y]at hl
  match cs,hl with
  | [x0,x1],_ =>
   simp[kja]at hf;obtain⟨h0,h1⟩:=hf;obtain⟨a,e0,-⟩:=ArgT.int kui h0;obtain⟨b,e1,-⟩:=ArgT.int kui h1;cases e0;cases e1;exact⟨a,b,rfl⟩
 obtain⟨s1,s2,s3,t,rfl,q⟩:=tab_of z2
 obtain⟨u,C,rfl,Q⟩:∃(u:Sl)(C:List (List Nat)),x3=u.v∧Sq Ef.nats h Fp.no u C:=by
  unfold ArgV at z3;rw[kyf]at z3;obtain⟨u,C,e,Q⟩:=k9y z3;cases e;exact⟨u,C,rfl,Q⟩
 suffices H:Runs (go (.fn F.kcd [.agg [.int .u64 ka,.int .u64 kb],.agg [s1.v,s2.v,s3.v],u.v]) h) fun v _=>v=.bool true by
  obtain⟨_,h',e,rfl⟩:=H;exact⟨h',e⟩
 rw[kbho];refine Runs.new fun ha ba ga=>Runs.new fun h1 b1 g1=>?_;have g01:=ga.trans g1;refine(kbb9 (T0.grow g01)).call fun _ h2 ⟨e,g2⟩=>?_;subst e;have Ba:=(g1.trans g2).has ba;have B1:=g2.has b1;have G2:=g01.trans g2;refine Runs.step (seen rfl) (Runs.step (B1.rd 0 rfl (asSl_v _)) ?_);rw[q.ids.len];refine(kbab q.ids.short).call fun _ h3 ⟨g3,n,y,w,er,e,N,hfull⟩=>?_;subst e;refine Runs.step rfl (Runs.step rfl (Runs.ifT rfl (Runs.step rfl (Runs.step (seenAt rfl (asSl_v _)) (Runs.step rfl ?_)))));dsimp only;refine Runs.new fun h4 b4 g4=>Runs.puts b4 rfl fun h5 b5 u5=>?_;have g35:Grow h3 h5:=g4.updr (Nat.le_refl _) u5;have g25:=g3.trans g35;have G5:=G2.trans g25;have Ba:=g25.has Ba;have B1:=g25.has B1;refine Runs.step (B1.rd 0 rfl (asSl_v _)) (Runs.step (B1.rd 1 rfl (asSl_v _)) (Runs.step (B1.rd 2 rfl (asSl_v _)) (Runs.step (b5.rd 0 rfl (kc _ _)) (Runs.step (b5.rd 1 rfl (asSl_v _)) ?_))));refine(few_is (q.grow G5) (Q.grow G5)).call fun _ h6 ⟨⟨r,e⟩,g6⟩=>?_;subst e;have Ba:=g6.has Ba;refine Runs.step (seen rfl) (Runs.step (Ba.rd 0 (f:=AV.asInt .u64) rfl (kc _ _)) (Runs.step (Ba.rd 1 (f:=AV.asInt .u64) rfl (kc _ _)) ?_));refine(kw6 ka kb).call fun _ h7 ⟨nn,e,Nn,g7,on⟩=>?_;subst e;refine Runs.step rfl (Runs.step (seen (asSl_v _)) (Runs.step (seen (kc _ _)) ?_));dsimp only;refine Runs.cond (fun _=>Runs.ret rfl) fun _=>Runs.cond (fun _=>Runs.ret rfl) fun _=>Runs.cond (fun _=>Runs.ret rfl) fun c0=>?_;rw[Bool.not_eq_false',decide_eq_true_eq]at c0
 have hbad:badF ka kb=false:=by
  cases hb:badF ka kb with
  | false=>rfl
  | true =>
   unfold pubF at c0;rw[hb]at c0;cases c0
 have hpub:pubF ka kb=(digs B (ka.toNat*kb.toNat),0):=by unfold pubF;rw[hbad];rfl
 rw[hpub]at Nn;obtain⟨p,q',rfl,rfl,p1,p2,p3,q1,q2,q3,ne,-,hg⟩:=ktt hbad;rw[Int.toNat_natCast,Int.toNat_natCast]at Nn;have key:=kwt p1 p3 q1 q3 ne hg;have g57:=g6.trans g7;have G7:=G5.trans g57;have Ba:=g7.has Ba;have B1:=g57.has B1;have B5:=g57.has b5;refine Runs.step (B1.rd 0 rfl (asSl_v _)) (Runs.step (B1.rd 1 rfl (asSl_v _)) (Runs.step (B1.rd 2 rfl (asSl_v _)) (Runs.step (B5.rd 0 rfl (kc _ _)) (Runs.step (B5.rd 1 rfl (asSl_v _)) ?_))));refine(kbfm (T0.grow G7) Nn (q.grow G7) ((N.grow g35).grow g57) (Q.grow G7)).call fun _ h8 ⟨g8,So8,y8,j8,e,hS8,l8,V8⟩=>?_;subst e;refine Runs.step rfl (Runs.step (seen (asSl_v _)) (Runs.step (seen (kc _ _)) ?_));dsimp only
 have hfa:∀(m:Int),faultH t n w m=0∨faultH t n w m=20∨faultH t n w m=1:=fun m=>by
  unfold faultH
  repeat' split
  all_goals simp
 refine Runs.cond (fun c=>?_) fun c=>?_
 ·have hcases:(kby (digs B (p*q')) t n w C).2=20∨(kby (digs B (p*q')) t n w C).2=1∨(kby (digs B (p*q')) t n w C).2=11:=by
   rw[Bool.not_eq_true',decide_eq_false_iff_not]at c;revert c;unfold kby;rcases hfa (C.length:Int)with h | h | h
   ·repeat' split
    all_goals simp
   ·repeat' split
    all_goals simp[h]
   ·repeat' split
    all_goals simp[h]
  rcases hcases with h | h | h<;>rw[h]
  ·exact Runs.ifT rfl (Runs.ret rfl)
  ·exact Runs.ifF rfl (Runs.ifT rfl (Runs.ret rfl))
  ·exact Runs.ifF rfl (Runs.ifF rfl (Runs.ret rfl))
 rw[Bool.not_eq_false',decide_eq_true_eq]at c
 have may:kbs (digs B (p*q'))=true:=by
  cases hm:kbs (digs B (p*q'))with
  | true=>rfl
  | false =>
   unfold kby at c;rw[hm]at c;simp at c
 have hfl:faultH t n w (C.length:Int)=0:=by
  by_cases hfl:faultH t n w (C.length:Int)=0
  ·exact hfl
  ·unfold kby at c;rw[if_neg (by rw[may];simp),if_neg hfl]at c;exact absurd c hfl
 have hodd:oddC (digs B (p*q')) C=false:=by
  cases ho:oddC (digs B (p*q')) C with
  | false=>rfl
  | true =>
   unfold kby at c;rw[if_neg (by rw[may];simp),if_pos hfl,if_pos ho]at c;simp at c
 have hpl:kby (digs B (p*q')) t n w C=(sumsC (kcj (digs B (p*q'))) C (rowsL t n w) (cutsL t),0):=by
  unfold kby;rw[if_neg (by rw[may];simp),if_pos hfl,if_neg (by rw[hodd];simp)]
 rw[hpl]at V8;dsimp only at V8;rw[kv8 (k0f p2 q2)]at V8;obtain⟨hR,hR2,hn,hm⟩:=kr0 hfl;have hids:=(keo hR).1;obtain⟨hn2,hr1,hr2⟩:=hfull (by omega)
 have hrows:rowsL t n w=fun x=>(List.range C.length).filter (leftP t x.1 (x.2:Int)):=by
  funext x;rw[hn,kbcl hr1,hr2];have:C.length=t.ids.length:=by omega
  rw[this]
 rw[hrows]at V8;have G8:=G7.trans g8
 have lC:∀c∈C,∀x∈c,x<B:=fun c hc x hx=>by
  obtain⟨i,hi,rfl⟩:=List.getElem_of_mem hc;obtain⟨-,_,-,-,Nx,-⟩:=Q.nats hi;exact Nx.lt x hx
 have hv:∀c∈C,kb8 (digs B (p*q')) c=true:=fun c hc=>by
  unfold oddC at hodd;rw[List.any_eq_false]at hodd;have:=hodd c hc
  simpa using this
 exact kbb2 key p2 q2 hbad may lC hv (q.grow G8) hR (by omega) (Q.grow G8) (g8.has Ba) (g8.has B1) (Nn.grow g8) V8.sq C.length 0 (by omega) h8 Fp.no _ none (Grow.refl _) trivial (fun m x=>x.elim) (GF.none _ _ _ _)
end Go.Ab

/- squeezed -/
set_option maxRecDepth 10000
namespace Go.Ab
open Go.Proofs Go.Num
section
variable{p q:Nat}(k:KeyOk p q)(p2:p<1099511627776)(q2:q<1099511627776)(may:kbs (digs B (p*q))=true)
include k p2 q2 may
end
section
variable{h0:AH}{S Su Sa Sb Sc:Fp}{s1 s2 s3 s u as1 bs1 cs':Sl}{t:Tb}{p q:Nat}{C:List (List Nat)}(k:KeyOk p q)(p2:p<1099511627776)(q2:q<1099511627776)(hb:badF (p:Int) (q:Int)=false)(may:kbs (digs B (p*q))=true)(lC:∀c∈C,∀x∈c,x<B)(hv:∀c∈C,kb8 (digs B (p*q)) c=true)
include k p2 q2 hb may lC hv
end
section
variable{h0:AH}{S Su:Fp}{s1 s2 s3 z u:Sl}{t:Tb}{C:List (List Nat)}{ns:List Nat}
end
end Go.Ab
