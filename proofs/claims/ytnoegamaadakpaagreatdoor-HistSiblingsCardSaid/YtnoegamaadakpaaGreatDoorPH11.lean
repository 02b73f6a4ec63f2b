/- squeezed -/
import Derived.Test.YtnoegamaadakpaaGreatDoorPNT
import Derived.Test.YtnoegamaadakpaaGreatDoorPAbsU
import Derived.Test.YtnoegamaadakpaaGreatDoorPS42
set_option linter.unusedVariables false
set_option linter.unusedSimpArgs false
set_option linter.unusedSectionVars false

set_option maxRecDepth 10000
namespace Go.Ab
open Go.Proofs
@[reducible] def EP:Ef (Int×Int):=Ef.pair EI EI
theorem EP.of{h:AH}{S:Fp}(a b:Int):EP.has h S [.int .i64 a,.int .i64 b] (a,b):=⟨[.int .i64 a],[.int .i64 b],rfl,rfl,rfl⟩
theorem Sq.two{h:AH}{S:Fp}{s:Sl}{xs:List (Int×Int)}(n:Sq EP h S s xs){i:Nat}(hi:i<xs.length):∃r:Ref,idx s.ref s.len (i:Int) 2=some r∧(h.cell (r.add 0)).bind (AV.asInt .i64)=some xs[i].1∧(h.cell (r.add 1)).bind (AV.asInt .i64)=some xs[i].2:=by
 obtain⟨r,cs,e1,⟨c1,c2,rfl,a1,a2⟩,l⟩:=n.at (kju hi);have a1:c1=[.int .i64 xs[i].1]:=a1;have a2:c2=[.int .i64 xs[i].2]:=a2;subst a1;subst a2;rw[n.len];exact⟨r,e1,l.rd (Grow.refl _) 0 rfl (kc _ _),l.rd (Grow.refl _) 1 rfl (kc _ _)⟩
structure Lp{α:Type}(E:Ef α)(elem tl:TypeId)(note:LoopState→ABlk)(hs:AH)(bo l:Nat)(xs:List α)(h:AH):Prop where
 md:Md (fun m=>m=bo∨m=l) hs h
 note:h.blks[l]?=some (note .ready)
 out:∃(t:Sl)(j:Option Nat),h.has bo [t.v] tl∧LeO hs.blks.size j∧GF E elem h Fp.no t j xs
section
variable{α:Type}{E:Ef α}{elem tl:TypeId}{note:LoopState→ABlk}{hs h:AH}{bo l:Nat}{xs:List α}
theorem Lp.grow{h':AH}(L:Lp E elem tl note hs bo l xs h)(g:Grow h h'):Lp E elem tl note hs bo l xs h' :=
 ⟨L.md.thenG g,(g.blk l (Array.getElem?_eq_some_iff.1 L.note).1).trans L.note,L.out.imp fun _ ⟨j,B,lj,V⟩=>⟨j,g.has B,lj,V.grow g⟩⟩
theorem kbbz{t:Sl}{j:Option Nat}{x:α}{cs:List AV}{k:Nat}{e':TypeId}(B:h.has bo [t.v] tl)(hn:h.blks[l]?=some (note .busy))(hbl:bo≠l)(hbs:bo<hs.blks.size)(hls:l<hs.blks.size)(hsh:hs.blks.size≤h.blks.size)(lj:LeO hs.blks.size j)(V:GF E elem h Fp.no t j xs)(hx:E.has h Fp.no cs x)(hg:growOk Pg (xs.length+1) elem E.w=true)(bx:h.has k cs e')(hcs:1*Pg.cellsOf elem=cs.length)(hend:∀h',h'.blks[l]?=some (note .busy)→kcc l none h'=some (.bool true,h'.setBlk l (note .ready))) :
  Runs ((ky Pg elem ((⟨some (.new k 0),1,.is 1⟩:Sl).v) h).bind fun p=>(ku Pg t p.1 p.2 elem E.w h).bind fun q=>(AV.asSl q.1).bind fun l12=>(q.2.puts (.new bo 0) [l12.v]).bind fun h13=>kcc l none h13) fun v h'=>v=.bool true∧Md (fun m=>m=bo∨m=l∨j=some m) h h'∧h'.blks[l]?=some (note .ready)∧∃(t:Sl)(j:Option Nat),h'.has bo [t.v] tl∧LeO hs.blks.size j∧GF E elem h' Fp.no t j (xs++[x]):=by
 refine Runs.step (kgv bx hcs) ?_;obtain⟨t',h3,e3,V3,u3⟩:=V.push (T:=Fp.no) hx NotO.no hg;refine Runs.step e3 (Runs.step (asSl_v _) ?_);have m3:Md (Fp.opt j) h h3:=u3.md fun k e=>e;have no:∀{m:Nat},m<hs.blks.size→¬Fp.opt j m:=fun hm e=>kdx hm lj _ e rfl;have B3:h3.has bo [t.v] tl:=m3.has B (no hbs);have n3:h3.blks[l]?=some (note .busy):=m3.get hn (no hls);refine Runs.puts B3 rfl fun h4 B4 u4=>?_;have n4:h4.blks[l]?=some (note .busy):=(u4.blk l (fun e=>hbl e.symm) (Array.getElem?_eq_some_iff.1 n3).1).trans n3;rw[hend _ n4];have u5:Upd h4 (h4.setBlk l (note .ready)) l:=AH.setBlk_Upd _;refine Runs.ret ⟨rfl,?_,AH.setBlk_get (Array.getElem?_eq_some_iff.1 n4).1,t',some h.blks.size,B4.updr hbl u5,hsh,?_⟩
 ·refine((m3.mono fun m _ e=>.inr (.inr e)).trans (u4.md (.inl rfl))).trans (u5.md (.inr (.inl rfl)))
 ·have V4:GF E elem h3 Fp.no t' (some h.blks.size) (xs++[x]):=V3.mono (fun j x=>x.1.elim id id) NotO.no;exact(V4.upd u4 Fp.not_no fun k e=>by cases e;omega).upd u5 Fp.not_no fun k e=>by cases e;omega
theorem Lp.next{xs ys:List α}{h h1 h':AH}{j:Option Nat}(m1:Md (fun m=>m=bo∨m=l) hs h1)(lj:LeO hs.blks.size j)(m2:Md (fun m=>m=bo∨m=l∨j=some m) h1 h')(hn:h'.blks[l]?=some (note .ready))(o:∃(t:Sl)(j:Option Nat),h'.has bo [t.v] tl∧LeO hs.blks.size j∧GF E elem h' Fp.no t j ys):Lp E elem tl note hs bo l ys h' :=
 ⟨m1.next m2 fun m hm t=>t.elim .inl fun t=>t.elim .inr fun e=>absurd rfl (kdx hm lj _ e),hn,o⟩
end
theorem EachOk.md{S T:Fp}{s1 s2 s3 s:Sl}{t:Tb}{n:Int}{w:List Nat}{b1 b2:Nat}{h h':AH}(e:EachOk S s1 s2 s3 s t n w b1 b2 h)(m:Md T h h')(d:Dis S T)(dn:∀j,¬Av s j w→S j)(n1:¬T b1)(n2:¬T b2):EachOk S s1 s2 s3 s t n w b1 b2 h' :=
 ⟨e.tab.md m,e.at'.md m d,e.nats.mdE dn m d,m.has e.has1 n1,m.has e.has2 n2⟩
theorem TabAt.bound{h:AH}{S:Fp}{s1 s2 s3:Sl}{t:Tb}(n:TabAt h S s1 s2 s3 t):TabAt h (Fp.below h.blks.size) s1 s2 s3 t :=
 ⟨n.ids.bound.mono fun _ x=>x.2,n.bins.bound.mono fun _ x=>x.2,n.cols.bound.mono fun _ x=>x.2⟩
section
variable{h0:AH}{S:Fp}{s1 s2 s3:Sl}{t:Tb}
end
end Go.Ab

/- squeezed -/
set_option maxRecDepth 10000
namespace Go.Ab
open Go.Proofs
def faultH(t:Tb)(n:Int)(w:List Nat)(m:Int):Int:=if !tabR t then 20 else if !btR n w then 1 else if !decide (n=(t.ids.length:Int))then 1 else if !decide (m=(t.ids.length:Int))then 1 else 0
theorem k2z{t:Tb}{n:Int}{w:List Nat}{m:Int}(h:faultH t n w m=0):tabR t=true∧btR n w=true∧n=(t.ids.length:Int)∧m=(t.ids.length:Int):=by
 unfold faultH at h
 grind
def sumG(g:List Int)(l:List Nat)(a:Int):Int:=l.foldl (fun a i=>IntKind.wrap .i64 (a+g.getD i 0)) a
def sumsL(g:List Int)(R:Nat×Nat→List Nat)(l:List (Nat×Nat)):List (Int×Int):=l.map fun p=>(sumG g (R p) 0,((R p).length:Int))
theorem kbjh{n:Nat}(h:n≤1000000):growOk Pg n T.kca 2=true:=by
 unfold growOk;rw[kbco,k6o];have h1:n*16≤kbg:=by simp only[kbg];omega
 have h2:n*2≤kbg:=by simp only[kbg];omega
 have h3:n≤kbg:=by simp only[kbg];omega
 simp[h1,h2,h3]
theorem kwg{t:Tb}{n:Int}{w:List Nat}{p:Nat×Nat}:∀x∈rowsL t n w p,x<t.ids.length:=by
 intro x hx;unfold rowsL at hx;split at hx
 ·rw[List.mem_filter]at hx;have:=hx.1;unfold leftR at this;rw[List.mem_filter,List.mem_range]at this;exact this.1
 ·simp at hx
theorem kyz{t:Tb}{n:Int}{w:List Nat}{p:Nat×Nat}:(rowsL t n w p).length≤t.ids.length:=by
 unfold rowsL;split
 ·refine Nat.le_trans (List.length_filter_le _ _) ?_;unfold leftR;exact Nat.le_trans (List.length_filter_le _ _) (by simp)
 ·simp
section
variable{h0:AH}{S:Fp}{s1 s2 s3 s u:Sl}{t:Tb}{n:Int}{w:List Nat}{g:List Int}
theorem kyk(q:TabAt h0 S s1 s2 s3 t)(N:Nats h0 s w){m:Int}:Runs (go (.fn F.kpm [.agg [s1.v,s2.v,s3.v],.agg [.int .i64 n,s.v],.int .i64 m]) h0) fun v h'=>v=.int .i64 (faultH t n w m)∧Grow h0 h':=by
 rw[kbgb];refine Runs.new fun h1 b1 g1=>Runs.new fun h2 b2 g2=>?_;have B1:=g2.has b1;have G2:=g1.trans g2;refine Runs.step (B1.rd 0 rfl (asSl_v _)) (Runs.step (B1.rd 1 rfl (asSl_v _)) (Runs.step (B1.rd 2 rfl (asSl_v _)) ?_));refine(k1n (q.grow G2)).call fun v h3 ⟨e,g3⟩=>?_;subst e;unfold faultH;refine Runs.step (seen rfl) (Runs.cond (fun c=>Runs.ret ⟨by rw[if_pos c],G2.trans g3⟩) fun c=>?_);rw[if_neg (by rw[c];simp)];refine Runs.step ((g3.has b2).rd 0 rfl (kc _ _)) (Runs.step ((g3.has b2).rd 1 rfl (asSl_v _)) ?_);refine(kog (N.grow (G2.trans g3))).call fun v h4 ⟨e,g4⟩=>?_;subst e;have G4:=(G2.trans g3).trans g4;have b2':=g4.has (g3.has b2);have B1':=g4.has (g3.has B1);refine Runs.step (seen rfl) (Runs.cond (fun c=>Runs.ret ⟨by rw[if_pos c],G4⟩) fun c=>?_);rw[if_neg (by rw[c];simp)];refine Runs.step (b2'.rd 0 rfl (kc _ _)) (Runs.step (B1'.rd 0 rfl (asSl_v _)) ?_);rw[q.ids.len];refine Runs.cond (fun c=>Runs.ret ⟨by rw[if_pos c],G4⟩) fun c=>?_;rw[if_neg (by rw[c];simp)];refine Runs.step (B1'.rd 0 rfl (asSl_v _)) ?_;rw[q.ids.len];refine Runs.cond (fun c=>Runs.ret ⟨by rw[if_pos c],G4⟩) fun c=>?_;rw[if_neg (by rw[c];simp)];exact Runs.ret ⟨rfl,G4⟩
theorem k87(q:Sq EI h0 S u g):Runs (go (.fn F.kdu [u.v,.func (.func F.kdv) [] []]) h0) fun v h'=>v=.bool (g.any fun x=>decide (x < -1048576)||decide (x>1048576))∧Grow h0 h':=by
 rw[k6f];refine Runs.contains (xs:=g) ?_;rw[kbke,q.len];refine klc (n:=g.length) (G:=fun z h=>go (.pt F.kbm Td.kcl [(0,u.v),(1,.func (.func F.kdv) [] []),(7,.int .i64 (g.length:Int)),(8,.int .i64 z)]) h) (fun i h P hi gg hT hF=>?_) (fun h gg=>?_) g.length 0 (by omega) (Grow.refl h0) (fun j hj=>by omega)
 ·obtain⟨r,e1,e2⟩:=(q.grow gg).int hi;rw[List.getElem?_eq_getElem hi]at hT hF;simp only[Option.any_some]at hT hF;show Runs (go _ _) _;rw[k2s];refine Runs.ifT (decide_eq_true (by omega)) (Runs.step e1 (Runs.step e2 ?_))
  have key:go (.fn F.kdv [.int .i64 g[i]]) h=some (.bool (decide (g[i] < -1048576)||decide (g[i]>1048576)),h):=by
   rw[kbah];cases decide (g[i] < -1048576)<;>rfl
  refine Runs.step key (Runs.step (seen rfl) ?_);rw[kj (by have:=q.short;omega)];exact Runs.cond (fun c=>Runs.ret (hT h gg c)) fun c=>hF _ gg c
 ·rw[k2s,condF (decide_eq_false (by omega))]
noncomputable def pNote(s1 s2 s3:Sl)(n:Int)(s u:Sl)(m:Int)(b1 b2 b3 bo:Nat)(g:AV)(st:LoopState):ABlk:=kcx Fx.ku7 F.kcu 0 st none [(0,.agg [s1.v,s2.v,s3.v]),(1,.agg [.int .i64 n,s.v]),(2,u.v),(3,.ptr (some (.new b1 0))),(4,.ptr (some (.new b2 0))),(5,.ptr (some (.new b3 0))),(6,(⟨none,0,.is 0⟩:Sl).v),(7,.int .i64 0),(8,.int .i64 0),(9,.ptr (some (.new bo 0))),(15,.agg [s1.v,s2.v,s3.v]),(16,.agg [.int .i64 n,s.v]),(17,u.v),(18,.int .i64 m),(19,.int .i64 0),(20,.int .i64 0),(21,.bool false),(23,u.v),(24,.bool false),(25,.agg [s1.v,s2.v,s3.v]),(26,.agg [.int .i64 n,s.v]),(27,g)]
theorem kbg1{note:LoopState→ABlk}{hs:AH}{b3 bo l bx:Nat}{x4 y:Sl}{j jo:Option Nat}{e3:TypeId}{R:List Nat}{xs:List (Int×Int)}{to:Sl}(hbl:bo≠l)(hbs:bo<hs.blks.size)(hls:l<hs.blks.size)(h3:b3<hs.blks.size)(hx:hs.blks.size≤bx)(ljo:LeO hs.blks.size jo)(hjx:∀k,jo=some k→k≠bx)(hlt:∀x∈R,x<g.length)(hR:R.length≤300)(hxs:xs.length<1000)
  (hend:∀h',h'.blks[l]?=some (note .busy)→kcc l none h'=some (.bool true,h'.setBlk l (note .ready))):∀(k i:Nat),i+k=R.length→∀(h:AH)(a:Int),hs.blks.size≤h.blks.size→(∀k,j=some k→k≠bx)→GF EI T.int h Fp.no y j (zs R)→h.has b3 [u.v] e3→(∃S:Fp,¬S bx∧Sq EI h S u g)→h.has bx [.int .i64 a,.int .i64 (R.length:Int)] T.kca→h.blks[l]?=some (note .busy)→h.has bo [to.v] T.ki0→GF EP T.kca h Fp.no to jo xs→
  Runs (go (.rpt l F.kcu Td.knx [(5,.ptr (some (.new b3 0))),(6,x4.v),(7,.int .i64 0),(9,.ptr (some (.new bo 0))),(12,.ptr (some (.new bx 0))),(33,y.v),(34,.int .i64 (R.length:Int)),(35,.int .i64 (i:Int))]) h) fun v h'=>v=.bool true∧Md (fun m=>m=bo∨m=l∨jo=some m∨m=bx) h h'∧h'.blks[l]?=some (note .ready)∧∃(t:Sl)(j:Option Nat),h'.has bo [t.v] T.ki0∧LeO hs.blks.size j∧GF EP T.kca h' Fp.no t j (xs++[(sumG g (R.drop i) a,(R.length:Int))]):=by
 intro k
 induction k with
 | zero =>
  intro i hi h a hsh hj V B3 Q Bx hn Bo Vo;rw[ky9];refine Runs.ifF (decide_eq_false (by omega)) (Runs.step (Bo.rd0 rfl (asSl_v _)) (Runs.step (Bx.rd 0 rfl (kc _ _)) (Runs.step (Bx.rd 1 rfl (kc _ _)) ?_)));refine Runs.new fun h1 b1 g1=>?_;have n1:=(g1.blk l (Array.getElem?_eq_some_iff.1 hn).1).trans hn;have:=kbbz (note:=note) (hs:=hs) (E:=EP) (x:=(a,(R.length:Int))) (g1.has Bo) n1 hbl hbs hls (Nat.le_trans hsh g1.size) ljo (Vo.grow g1) (EP.of _ _) (kbjh (by omega)) b1 (by rw[kbjg];rfl) hend;refine this.imp fun v h' ⟨e,m5,n5,o5⟩=>⟨e,(g1.thenM m5).mono fun m _ x=>by rcases x with x | x | x<;>simp[x],n5,?_⟩;rw[List.drop_eq_nil_of_le (by omega)];exact o5
 | succ k ih =>
  intro i hi h a hsh hj V B3 ⟨S,hS,Q⟩ Bx hn Bo Vo;have hi':i<R.length:=by omega
  have hz:i<(zs R).length:=by rw[zs_len];exact hi'
  obtain⟨r,e1,e2⟩:=V.sq.int hz;have hx':(zs R)[i]=((R[i]:Nat):Int):=by simp[zs]
  have hg:=hlt _ (List.getElem_mem hi');obtain⟨r2,e4,e5⟩:=Q.int hg;rw[ky9];refine Runs.ifT (decide_eq_true (by omega)) (Runs.step e1 (Runs.step e2 (Runs.step (Bx.rd 0 rfl (kc _ _)) (Runs.step (B3.rd0 rfl (asSl_v _)) ?_))));rw[hx'];refine Runs.step e4 (Runs.step e5 ?_);refine Runs.putAt (o:=0) Bx (by simp) (cs':=[.int .i64 (IntKind.wrap .i64 (a+g[R[i]])),.int .i64 (R.length:Int)]) rfl fun h1 Bx1 u1=>?_;rw[kj (by omega)];have:=ih (i+1) (by omega) h1 (IntKind.wrap .i64 (a+g[R[i]])) (Nat.le_trans hsh u1.size) hj (V.upd u1 Fp.not_no hj) (B3.updr (by omega) u1) ⟨S,hS,Q.upd hS u1⟩ Bx1 ((u1.blk l (by omega) (Array.getElem?_eq_some_iff.1 hn).1).trans hn) (Bo.updr (by omega) u1) (Vo.upd u1 Fp.not_no hjx);refine this.imp fun v h' ⟨e,m,n',o⟩=>⟨e,(u1.md (.inr (.inr (.inr rfl)))).trans m,n',?_⟩;have hd:R.drop i=R[i]::R.drop (i+1):=List.drop_eq_getElem_cons hi';rw[hd];unfold sumG at o⊢;rw[List.foldl_cons];have:g.getD R[i] 0=g[R[i]]:=by simp[List.getD,hg]
  rw[this];exact o
end
end Go.Ab

/- squeezed -/
set_option maxRecDepth 10000
namespace Go.Ab
open Go.Proofs
def oddG(g:List Int):Bool:=g.any fun x=>decide (x < -1048576)||decide (x>1048576)
def plainH(t:Tb)(n:Int)(w:List Nat)(g:List Int):List (Int×Int)×Int:=if faultH t n w (g.length:Int)=0 then if oddG g then([],1)else(sumsL g (rowsL t n w) (cutsL t),0)else([],faultH t n w (g.length:Int))
section
variable{h0:AH}{S:Fp}{s1 s2 s3 s u:Sl}{t:Tb}{n:Int}{w:List Nat}{g:List Int}
theorem kbgx{hs h:AH}{b1 b2 b3 bo l:Nat}{gv:AV}{m:Int}{d:List (Nat×Nat)}{f c:Nat}{y:Sl}{j:Option Nat}(hbl:bo≠l)(hbs:bo<hs.blks.size)(hls:l<hs.blks.size)(h3:b3<hs.blks.size)(h3o:b3≠bo)(h3l:b3≠l)(hd:d.length<1000)(hb:g.length=t.ids.length)(hids:t.ids.length≤256)(B3:hs.has b3 [u.v] T.kcp){N0:Nat}(hN0:N0≤bo)(hNl:N0≤l)(hNs:N0≤hs.blks.size)(Q:Sq EI hs (Fp.below N0) u g)
  (I:Lp EP T.kca T.ki0 (pNote s1 s2 s3 n s u m b1 b2 b3 bo gv) hs bo l (sumsL g (rowsL t n w) d) h) (V:GF EI T.int h Fp.no y j (zs (rowsL t n w (f,c)))):Runs (go (.round l [.agg [.int .i64 (f:Int),.int .i64 (c:Int)],y.v]) h) fun v h'=>v=.bool true∧Lp EP T.kca T.ki0 (pNote s1 s2 s3 n s u m b1 b2 b3 bo gv) hs bo l (sumsL g (rowsL t n w) (d++[(f,c)])) h':=by
 obtain⟨M,hn,to,jo,Bo,ljo,Vo⟩:=I;have hll:l<h.blks.size:=(Array.getElem?_eq_some_iff.1 hn).1;have hsz:=M.size;have B3h:h.has b3 [u.v] T.kcp:=M.has B3 (by omega)
 have Qh:Sq EI h (Fp.below N0) u g:=Q.md M fun k a b=>by
  have a:k<N0:=a;rcases b with rfl | rfl<;>omega
 rw[k8s l none _ _ _ _ _ _ _ _ _ _ _ _ _ _ _ _ _ _ _ _ _ _ _ _ _ _ _ _ _ _ _ _ _ _ hn,koh (h:=h) hn,Option.bind_some];generalize hq:h.setBlk l _=h1;have u1:Upd h h1 l:=by rw[← hq];exact AH.setBlk_Upd _
 have n1:h1.blks[l]?=some (pNote s1 s2 s3 n s u m b1 b2 b3 bo gv .busy):=by rw[← hq];exact AH.setBlk_get hll
 have V1lt:LtO h.blks.size j:=V.lt;refine Runs.new fun h2 b2' g2=>Runs.puts b2' rfl fun h3' b3' u3=>?_;have hu1:=u1.size;have G13:Grow h1 h3':=g2.updr (Nat.le_refl _) u3
 have hjl:∀k,j=some k→k≠h1.blks.size:=fun k e=>by
  subst e;have:k<h.blks.size:=V1lt;omega
 have Vol:=Vo.lt
 have hjo:∀k,jo=some k→k≠h1.blks.size:=fun k e=>by
  subst e;have:k<h.blks.size:=Vol;omega
 by_cases hyl:j=some l
 ·subst hyl;exfalso;obtain⟨_,_,_,_,rows,e,b,_⟩:=V;rw[AH.has,hn]at b;unfold pNote kcx at b;cases b
 have V3:GF EI T.int h3' Fp.no y j (zs (rowsL t n w (f,c))):=(V.upd u1 Fp.not_no fun k e e2=>hyl (by rw[e,e2])).grow G13;have Vo3:GF EP T.kca h3' Fp.no to jo (sumsL g (rowsL t n w) d):=(Vo.upd u1 Fp.not_no (kdx hls ljo)).grow G13;rw[V.len,zs_len];rw[V.len,zs_len]at b3';have:=kbg1 (g:=g) (note:=pNote s1 s2 s3 n s u m b1 b2 b3 bo gv) (hs:=hs) (x4:=⟨none,0,.is 0⟩) (e3:=T.kcp) (R:=rowsL t n w (f,c)) (xs:=sumsL g (rowsL t n w) d) hbl hbs hls h3 (show hs.blks.size≤h1.blks.size by omega) ljo hjo (fun x hx=>by rw[hb];exact kwg x hx) (by have:=kyz (t:=t) (n:=n) (w:=w) (p:=(f,c));omega) (by unfold sumsL;rw[List.length_map];exact hd) (fun h' hn'=>by rw[kmt hn'];rfl) (rowsL t n w (f,c)).length 0 (by omega) h3' 0 (by have:=G13.size;omega) hjl V3 (G13.has (B3h.updr h3l u1)) ⟨Fp.below N0,by intro k;have k:h1.blks.size<N0:=k;omega,(Qh.upd (by intro k;have k:l<N0:=k;omega) u1).grow G13⟩ b3' ((G13.blk l (Array.getElem?_eq_some_iff.1 n1).1).trans n1) (G13.has (Bo.updr hbl u1)) Vo3;refine this.imp fun v h' ⟨e,m5,n5,o5⟩=>⟨e,?_⟩
 have hsum:sumsL g (rowsL t n w) (d++[(f,c)])=sumsL g (rowsL t n w) d++[(sumG g ((rowsL t n w (f,c)).drop 0) 0,((rowsL t n w (f,c)).length:Int))]:=by
  unfold sumsL;rw[List.map_append,List.drop_zero];rfl
 rw[hsum];refine⟨?_,n5,o5⟩;have m4:Md (fun m=>m=bo∨m=l) hs h3':=(M.trans (u1.md (.inr rfl))).thenG G13;refine m4.next m5 fun k hk x=>?_;rcases x with x | x | x | x
 ·exact .inl x
 ·exact .inr x
 ·exact absurd rfl (kdx hk ljo _ x)
 ·omega
theorem k8q(T0:Tab h0)(q:TabAt h0 S s1 s2 s3 t)(N:Nats h0 s w)(Q:Sq EI h0 S u g):Runs (go (.fn F.kcu [.agg [s1.v,s2.v,s3.v],.agg [.int .i64 n,s.v],u.v]) h0) fun v h'=>Grow h0 h'∧∃(y:Sl)(j:Option Nat),v=.tup [y.v,.int .i64 (plainH t n w g).2]∧LeO h0.blks.size j∧GF EP T.kca h' Fp.no y j (plainH t n w g).1:=by
 rw[kbi9];refine Runs.new fun h1 b1 g1=>Runs.new fun h2 b2 g2=>Runs.new fun h3 b3 g3=>?_;have B1:=g3.has (g2.has b1);have B2:=g3.has b2;have z1:=b1.lt;have z2:=b2.lt;have z3:=b3.lt;have G3:Grow h0 h3:=(g1.trans g2).trans g3;refine Runs.step (B1.rd 0 rfl (asSl_v _)) (Runs.step (B1.rd 1 rfl (asSl_v _)) (Runs.step (B1.rd 2 rfl (asSl_v _)) (Runs.step (B2.rd 0 rfl (kc _ _)) (Runs.step (B2.rd 1 rfl (asSl_v _)) (Runs.step (b3.rd0 rfl (asSl_v _)) ?_)))));rw[Q.len];refine(kyk (q.grow G3) (N.grow G3)).call fun v h4 ⟨e,g4⟩=>?_;subst e;refine Runs.step (seen rfl) ?_;have G4:=G3.trans g4;refine Runs.cond (fun c=>?_) fun c=>?_
 ·rw[Bool.not_eq_true',decide_eq_false_iff_not]at c;refine Runs.ret ⟨G4,(⟨none,0,.is 0⟩:Sl),none,?_,trivial,?_⟩
  ·unfold plainH;rw[if_neg c]
  ·unfold plainH;rw[if_neg c];exact GF.none _ _ _ _
 rw[Bool.not_eq_false',decide_eq_true_eq]at c;obtain⟨hR,hR2,hn,hm⟩:=k2z c;rw[c];refine Runs.step ((g4.has b3).rd0 rfl (asSl_v _)) ?_;refine(k87 (Q.grow G4)).call fun v h5 ⟨e,g5⟩=>?_;subst e;have G5:=G4.trans g5;refine Runs.step (seen rfl) (Runs.cond (fun c2=>?_) fun c2=>?_)
 ·refine Runs.ret ⟨G5,(⟨none,0,.is 0⟩:Sl),none,?_,trivial,?_⟩
  ·unfold plainH;rw[if_pos c,if_pos (show oddG g=true from c2)]
  ·unfold plainH;rw[if_pos c,if_pos (show oddG g=true from c2)];exact GF.none _ _ _ _
 have hpl:plainH t n w g=(sumsL g (rowsL t n w) (cutsL t),0):=by
  unfold plainH;rw[if_pos c,if_neg (by rw[show oddG g=false from c2];simp)]
 rw[hpl];have g35:=g4.trans g5;dsimp only;refine Runs.new fun h6 b6 g6=>?_;have g36:=g35.trans g6;have B1':=g36.has B1;have B2':=g36.has B2;have z4:=g35.size;have z6:=b6.lt;refine Runs.step (B1'.rd 0 rfl (asSl_v _)) (Runs.step (B1'.rd 1 rfl (asSl_v _)) (Runs.step (B1'.rd 2 rfl (asSl_v _)) (Runs.step (B2'.rd 0 rfl (kc _ _)) (Runs.step (B2'.rd 1 rfl (asSl_v _)) ?_))))
 have k0:Runs (go (.fn F.kli [.agg [s1.v,s2.v,s3.v],.agg [.int .i64 n,s.v]]) h6) fun v h'=>∃c1 c2:Nat,v=.func (.func F.kbw) [] [.ptr (some (.new c1 0)),.ptr (some (.new c2 0))]∧h6.blks.size≤c1∧h6.blks.size≤c2∧h'.has c1 [s1.v,s2.v,s3.v] T.kbt∧h'.has c2 [.int .i64 n,s.v] T.ko∧Grow h6 h':=by
  rw[k1o];exact Runs.new fun h4 b4 g4=>Runs.new fun h5 b5 g5=>Runs.ret ⟨_,_,rfl,Nat.le_refl _,g4.size,g5.has b4,b5,g4.trans g5⟩
 refine k0.call fun v h7 ⟨c1,c2',e,l1,l2,d1,d2,g7⟩=>?_;subst e;dsimp only;rw[k8i,knp];refine Runs.newM fun h8 hb g8=>?_;rw[k0z];generalize hgv:(AV.func (.func F.kbw) [] [AV.ptr (some (Ref.new c1 0)),AV.ptr (some (Ref.new c2' 0))])=gv at hb;have g38:=(g36.trans g7).trans g8;have G8:Grow h0 h8:=G3.trans g38;have z7:=d1.lt;have z8:=d2.lt;have z9:h7.blks.size<h8.blks.size:=(Array.getElem?_eq_some_iff.1 hb).1;have E8:EachOk (Fp.below h0.blks.size) s1 s2 s3 s t n w c1 c2' h8:=⟨T0.grow G8,q.bound.grow G8,N.grow G8,g8.has d1,g8.has d2⟩;have I0:Lp EP T.kca T.ki0 (pNote s1 s2 s3 n s u (g.length:Int) h0.blks.size h1.blks.size h2.blks.size h5.blks.size gv) h8 h5.blks.size h7.blks.size (sumsL g (rowsL t n w) []) h8:=⟨Md.refl _ _,hb,_,none,g8.has (g7.has b6),trivial,GF.none _ _ _ _⟩;have k1:=k17 (l:=h7.blks.size) (Inv:=fun d h=>Lp EP T.kca T.ki0 (pNote s1 s2 s3 n s u (g.length:Int) h0.blks.size h1.blks.size h2.blks.size h5.blks.size gv) h8 h5.blks.size h7.blks.size (sumsL g (rowsL t n w) d) h) (fun d h I=>E8.md I.md (fun j a b=>by have a:j<h0.blks.size:=a;rcases b with rfl | rfl<;>omega) (fun j hj=>Classical.byContradiction fun k=>hj (Av.of_base N (Nat.le_of_not_lt k))) (by omega) (by omega)) (fun d h h' I g=>I.grow g) hR (fun d f c h y j hf hc hd I V=>kbgx (by omega) (by omega) (by omega) (by omega) (by omega) (by omega) hd (by omega) (khe hR).1 (g38.has b3) (N0:=h0.blks.size) (by omega) (by omega) (by omega) ((Q.bound.mono fun _ x=>x.2).grow G8) I V) I0;show Runs ((go (.fn F.kbw [.func (.yield h7.blks.size) [] [],.ptr (some (.new c1 0)),.ptr (some (.new c2' 0))]) h8).bind _) _;refine k1.call fun v h9 ⟨e,I⟩=>?_;obtain⟨M,hn9,t',j,B,lj,V⟩:=I;dsimp only;rw[kp6 hn9,Option.bind_some,kbck];have u7:Upd h9 (h9.setBlk h7.blks.size .dead) h7.blks.size:=AH.setBlk_Upd _;have zz:=M.size;have G9:Grow h0 h9:=(G8.thenM M).grow fun j hj=>by intro k;rcases k with rfl | rfl<;>omega
 refine Runs.step ((B.updr (by omega) u7).rd0 rfl (asSl_v _)) (Runs.ret ⟨G9.updr (by omega) u7,t',j,rfl,LeO.trans (by omega) lj,?_⟩);exact V.upd u7 Fp.not_no (kdx (by omega) lj)
end
end Go.Ab

/- squeezed -/
set_option maxRecDepth 10000
namespace Go.Ab
open Go.Proofs
section
variable{h0:AH}{S:Fp}{s1 s2 s3 s u:Sl}{t:Tb}{n:Int}{w:List Nat}{g:List Int}
end
end Go.Ab

/- squeezed -/
set_option maxRecDepth 10000
namespace Go.Ab
open Go.Proofs
theorem kru{t:Tb}{w:List Nat}(hR:btR (t.ids.length:Int) w=true)(p:Nat×Nat):rowsL t (t.ids.length:Int) w p=(btL (t.ids.length:Int) w).filter (leftP t p.1 (p.2:Int)):=by
 unfold rowsL btL;rw[hR,decide_eq_true rfl,Bool.and_self,if_pos rfl,if_pos rfl,Int.toNat_natCast];unfold leftR;rw[List.filter_filter,List.filter_filter];apply List.filter_congr;intro x _;exact Bool.and_comm _ _
section
variable{h0:AH}{S:Fp}{s1 s2 s3 s u:Sl}{t:Tb}{n:Int}{w:List Nat}{g:List Int}
end
end Go.Ab

/- squeezed -/
set_option maxRecDepth 10000
namespace Go.Ab
open Go.Proofs
section
variable{h0:AH}{S:Fp}{s1 s2 s3 s u:Sl}{t:Tb}{n:Int}{w:List Nat}{g:List Int}
theorem kqj{h:AH}{i:Nat}{xs:List Int}{e:TypeId}(b:h.has i (xs.map (AV.int .i64)) e)(hs:xs.length≤9223372036854775807):Sq EI h (Fp.or (fun j=>j=i) Fp.no) ⟨some (.new i 0),xs.length,.is xs.length⟩ xs:=by
 refine Sq.lit (rows:=xs.map fun x=>[AV.int .i64 x]) (e:=e) ?_ ?_ rfl hs
 ·have:(xs.map fun x=>[AV.int .i64 x]).flatten=xs.map (AV.int .i64):=by
   clear b hs
   induction xs with
   | nil=>rfl
   | cons x xs ih=>rw[List.map_cons,List.flatten_cons,ih];rfl
  rw[this];exact b
 ·clear b hs
  induction xs with
  | nil=>exact .nil
  | cons x xs ih=>exact .cons rfl ih
theorem kbed:plainH ⟨[0,1,2],[2],[[0,1,1]]⟩ 3 [3] [5,6,7]=([(5,1)],0):=by decide +kernel
theorem kbdf(T0:Tab h0):Runs (go (.fn F.ku6 []) h0) fun v h'=>v=.bool true∧Grow h0 h':=by
 rw[k75];refine Runs.new fun h1 b1 g1=>Runs.new fun h2 b2 g2=>Runs.new fun h3 b3 g3=>Runs.new fun h4 b4 g4=>Runs.new fun h5 b5 g5=>Runs.puts b5 rfl fun h6 b6 u6=>?_;have G6:Grow h4 h6:=g5.updr (Nat.le_refl _) u6;refine Runs.step (b6.rd 0 rfl (asSl_v _)) (Runs.step (b6.rd 1 rfl (asSl_v _)) (Runs.step (b6.rd 2 rfl (asSl_v _)) ?_));refine Runs.new fun h7 b7 g7=>Runs.new fun h8 b8 g8=>?_;have G48:=(G6.trans g7).trans g8;have G08:Grow h0 h8:=(((g1.trans g2).trans g3).trans g4).trans G48;have q1:Sq EI h8 Fp.all ⟨some (.new h0.blks.size 0),3,.is 3⟩ [0,1,2]:=(kqj (xs:=[0,1,2]) (((g2.trans g3).trans g4 |>.trans G48).has b1) (by decide)).mono fun _ _=>trivial;have q2:Sq EI h8 Fp.all ⟨some (.new h1.blks.size 0),1,.is 1⟩ [2]:=(kqj (xs:=[2]) (((g3.trans g4).trans G48).has b2) (by decide)).mono fun _ _=>trivial;have q3:Sq EI h8 Fp.all ⟨some (.new h2.blks.size 0),3,.is 3⟩ [0,1,1]:=(kqj (xs:=[0,1,1]) ((g4.trans G48).has b3) (by decide)).mono fun _ _=>trivial;have q4:Sq (Ef.seq EI) h8 Fp.all ⟨some (.new h3.blks.size 0),1,.is 1⟩ [[0,1,1]]:=(Sq.lit (E:=Ef.seq EI) (rows:=[[Sl.v ⟨some (.new h2.blks.size 0),3,.is 3⟩]]) (G48.has b4) (.cons ⟨_,rfl,q3⟩ .nil) rfl).mono fun _ _=>trivial;have N:Nats h8 ⟨some (.new h6.blks.size 0),1,.is 1⟩ [3]:=Nats.of_has (xs:=[3]) (g8.has b7) (by simp) (by simp);have Q:Sq EI h8 Fp.all ⟨some (.new h7.blks.size 0),3,.is 3⟩ [5,6,7]:=(kqj (xs:=[5,6,7]) b8 (by decide)).mono fun _ _=>trivial;refine(k8q (T0.grow G08) (t:=⟨[0,1,2],[2],[[0,1,1]]⟩) (n:=3) ⟨q1,q2,q4⟩ N Q).call fun v h9 ⟨g9,y,j,e,lj,V⟩=>?_;subst e;rw[kbed]at V⊢;refine Runs.step rfl (Runs.step (seen (asSl_v _)) (Runs.step (seen (kc _ _)) (Runs.ifT rfl ?_)));have hl:y.len=1:=V.len;rw[hl];refine Runs.ifT rfl ?_;obtain⟨r,e1,e2,e3⟩:=V.sq.two (i:=0) (by decide);rw[hl]at e1;refine Runs.step e1 (Runs.step e2 (Runs.step e3 (Runs.ret ⟨rfl,G08.trans g9⟩)))
theorem kvr{h:AH}{cs:List AV}(a:ArgT Pg h T.kcp cs):∃(s:Sl)(xs:List Int),cs=[s.v]∧Sq EI h Fp.no s xs:=kba3 Fp.no kblb k4s kjq a
theorem tab_of{h:AH}{x:AV}(a:ArgV Pg h T.kbt x):∃(s1 s2 s3:Sl)(t:Tb),x=.agg [s1.v,s2.v,s3.v]∧TabAt h Fp.no s1 s2 s3 t:=by
 unfold ArgV at a;rw[kxe]at a;obtain⟨cs,rfl,t⟩:=a;obtain⟨hl,hf⟩:=t.struct kxe;rw[k5k]at hl
 match cs,hl with
 | [x0,x1,x2],_ =>
  simp[ky8,kbkz]at hf;obtain⟨h0,h1,h2⟩:=hf;obtain⟨s1,xs,e0,n0⟩:=kvr h0;obtain⟨s2,ys,e1,n1⟩:=kvr h1
  obtain⟨s3,zs,e2,n2⟩:=Sq.of_arg (E:=Ef.seq EI) (S:=Fp.no) kbd7 ky8 (fun es t=>by
   obtain⟨s,l,e,n⟩:=kvr t;exact⟨l,s,e,n⟩) h2
  cases e0;cases e1;cases e2;exact⟨s1,s2,s3,⟨xs,ys,zs⟩,rfl,n0,n1,n2⟩
end
end Go.Ab

/- squeezed -/
set_option maxRecDepth 10000
namespace Go.Ab
open Go.Proofs Go.Num
theorem kbiy{g:Nat}(h:g<B^64):decide (cmpN (digs B g) [1]=0)=decide (g=1):=by
 rw[khm (kp h) (by decide),kg B2];have:num B [1]=1:=by decide
 rw[this,decide_eq_decide];unfold cmp;split
 ·omega
 ·split<;>omega
theorem kbk6{cs ns bs:List Nat}(lc:∀x∈cs,x<B)(hn:rt ns=true)(ln:∀x∈ns,x<B)(hb:rt bs=true)(h:kbv cs ns bs=true):rt cs=true∧cs≠[]∧num B cs<num B bs∧Nat.gcd (num B cs) (num B ns)=1:=by
 obtain⟨hc,hl⟩:=kbee h hb;unfold kbv at h;rw[hc,Bool.not_true,cond_false]at h;by_cases h0:(List.length cs:Int)=0
 ·rw[decide_eq_true h0,cond_true]at h;cases h
 ·rw[decide_eq_false h0,cond_false,khm hc hb]at h;have hne:cs≠[]:=fun e=>h0 (by simp[e])
  have hg:Nat.gcd (num B cs) (num B ns)<B^64:=by
   have h1:=kif lc hc;have h2:0<num B cs:=krc B1 (rt_iff.1 hc).2 hne;exact Nat.lt_of_le_of_lt (Nat.gcd_le_left _ h2) h1
  have e1:decide (cmpN ((gcdN cs ns).1) [1]=0)=decide (Nat.gcd (num B cs) (num B ns)=1):=by
   unfold gcdN;rw[if_pos ⟨hc,hn⟩,kbiy hg]
  rw[e1]at h;have:cmp (num B cs) (num B bs)<0:=cmp_lt.2 hl;rw[decide_eq_false (show¬cmp (num B cs) (num B bs)≥0 from by omega),cond_false]at h;exact⟨hc,hne,hl,by simpa using h⟩
theorem kbar{ns ds:List Nat}(ln:∀x∈ns,x<B)(ld:∀x∈ds,x<B)(v:kbl ns ds=true):(invN ds (kbd ns)).2=0:=by
 unfold kbl at v;cases m:kbc ns with
 | false=>rw[m]at v;cases v
 | true =>
  rw[m,cond_true]at v;obtain⟨m1,m2,m3,m4⟩:=k1k ln m;obtain⟨q1,q2,q3,q4⟩:=kbdk ln m;have rs:rt (kbd ns)=true:=by rw[q1];exact kp (Nat.lt_of_lt_of_le q2 (Nat.pow_le_pow_right (by decide) (by decide)))
  have ls:∀x∈kbd ns,x<B:=by rw[q1];exact kbe B2 _
  obtain⟨a1,a2,a3,a4⟩:=kbk6 ld m1 ln rs v;obtain⟨-,-,sp⟩:=kl5 ld ls;have nq:num B (kbd ns)=num B ns*num B ns:=by rw[q1,kg B2]
  have:=sp.1 ⟨a1,rs,by rw[nq];omega⟩
  have hg:Nat.gcd (num B (kbd ns)) (num B ds%num B (kbd ns))=1:=by
   rw[Nat.mod_eq_of_lt a3,nq];exact Nat.Coprime.mul_left (Nat.Coprime.symm a4) (Nat.Coprime.symm a4)
  obtain⟨w,-,e,-⟩:=this.2 hg;rw[e]
end Go.Ab

/- squeezed -/
set_option maxRecDepth 10000
namespace Go.Ab
open Go.Proofs Go.Num
theorem Runs.yieldN{f:FuncId}{a c xs:List AV}{A:Nat×List AV→Option (AV×AH)}{B:Option (AV×AH)}{P:AV→AH→Prop}(H:Runs B P):Runs (yieldK (.func (.func f) a c) xs A B) P:=H
noncomputable def lessF(ns cs ds:List Nat):List Nat×Int:=if !kbc ns then([],1)else if !kbl ns cs then([],11)else if !kbl ns ds then([],11)else(km1 cs (invN ds (kbd ns)).1 (kbd ns),0)
section
variable{h0:AH}{s1 s2 s3:Sl}{ns cs ds:List Nat}
theorem k2d(N:Nats h0 s1 ns):Runs (go (.fn F.kpk [s1.v]) h0) fun v h'=>∃(b:Nat)(t:Sl),v=.func (.func F.keh) [] [.ptr (some (.new b 0))]∧h0.blks.size≤b∧h'.has b [t.v] T.kr∧Nats h' t (kbd ns)∧Grow h0 h':=by
 rw[k78];obtain⟨t,h1,e,N1,g1,o1⟩:=kek N N;rw[e,Option.bind_some];refine Runs.step rfl (Runs.step (seen (asSl_v _)) (Runs.step (seen (kc _ _)) ?_));dsimp only;refine Runs.new fun h2 b2 g2=>Runs.puts b2 rfl fun h3 b3 u3=>?_;have g3:Grow h1 h3:=g2.updr (Nat.le_refl _) u3;exact Runs.ret ⟨h1.blks.size,t,rfl,g1.size,b3,N1.grow g3,g1.trans g3⟩
theorem kvw{a b t:Sl}{xs ys zs:List Nat}(A:Nats h0 a xs)(B':Nats h0 b ys)(Z:Nats h0 t zs){k:Nat}{e:TypeId}(hk:h0.has k [t.v] e):Runs (go (.fn F.keh [a.v,b.v,.ptr (some (.new k 0))]) h0) fun v h'=>∃s:Sl,v=s.v∧Nats h' s (km1 xs ys zs)∧Grow h0 h'∧Own h0 s:=by
 rw[kbfg];obtain⟨p,h1,e1,N1,g1,o1⟩:=kek A B';rw[e1,Option.bind_some];refine Runs.step rfl (Runs.step (seen (asSl_v _)) (Runs.step (seen (kc _ _)) ?_));dsimp only;refine Runs.step ((g1.has hk).rd0 rfl (asSl_v _)) ?_;obtain⟨q,r,h2,e2,N2,N3,g2,o2,o3⟩:=kfu N1 (Z.grow g1);rw[e2,Option.bind_some];refine Runs.step rfl (Runs.step (seen (asSl_v _)) (Runs.step (seen (asSl_v _)) (Runs.step (seen (kc _ _)) ?_)));exact Runs.ret ⟨r,rfl,N3,g1.trans g2,o3.of_le g1⟩
theorem k4y(N:Nats h0 s1 ns)(C:Nats h0 s2 cs)(D:Nats h0 s3 ds):Runs (go (.fn F.ktj [s1.v,s2.v,s3.v]) h0) fun v h'=>∃s:Sl,v=.tup [s.v,.int .i64 (lessF ns cs ds).2]∧Nats h' s (lessF ns cs ds).1∧Grow h0 h':=by
 rw[kbi7];unfold lessF;refine(kvl N).call fun v h1 ⟨e,g1⟩=>?_;subst e;refine Runs.step (seen rfl) (Runs.cond (fun c=>Runs.ret ⟨⟨none,0,.is 0⟩,by rw[if_pos c],by rw[if_pos c];exact Nats.nil _,g1⟩) fun c=>?_);rw[if_neg (by rw[c];simp)];refine(kpv (N.grow g1) (C.grow g1)).call fun v h2 ⟨e,g2⟩=>?_;subst e;have G2:=g1.trans g2;refine Runs.step (seen rfl) (Runs.cond (fun c=>Runs.ret ⟨⟨none,0,.is 0⟩,by rw[if_pos c],by rw[if_pos c];exact Nats.nil _,G2⟩) fun c=>?_);rw[if_neg (by rw[c];simp)];refine(kpv (N.grow G2) (D.grow G2)).call fun v h3 ⟨e,g3⟩=>?_;subst e;have G3:=G2.trans g3;refine Runs.step (seen rfl) (Runs.cond (fun c=>Runs.ret ⟨⟨none,0,.is 0⟩,by rw[if_pos c],by rw[if_pos c];exact Nats.nil _,G3⟩) fun c=>?_);rw[if_neg (by rw[c];simp)];rw[Bool.not_eq_false']at c;obtain⟨t,h4,e4,N4,g4,o4⟩:=kek (N.grow G3) (N.grow G3);have N4:Nats h4 t (kbd ns):=N4;have G4:=G3.trans g4;dsimp only;rw[e4,Option.bind_some];refine Runs.step rfl (Runs.step (seen (asSl_v _)) (Runs.step (seen (kc _ _)) ?_));dsimp only;refine(kui (D.grow G4) N4).call fun v h5 p5=>?_;obtain⟨x,e5,N5,g5,o5⟩:=p5;subst e5;have G5:=G4.trans g5;refine Runs.step rfl (Runs.step (seen (asSl_v _)) (Runs.step (seen (kc _ _)) ?_));dsimp only;refine(k2d (N.grow G5)).call fun v h6 ⟨b,y,e6,hb,b6,N6,g6⟩=>?_;subst e6;have G6:=G5.trans g6;refine Runs.yieldN ?_;show Runs ((callF Pg go F.keh [s2.v,x.v,.ptr (some (.new b 0))] h6).bind _) _;rw[kzj];refine(kvw (C.grow G6) (N5.grow g6) N6 b6).call fun v h7 ⟨z,e7,N7,g7,o7⟩=>?_;subst e7;refine Runs.step (seen (asSl_v _)) (Runs.ret ⟨z,?_,N7,G6.trans g7⟩);rw[kbar N.lt D.lt c]
end
end Go.Ab

/- squeezed -/
set_option maxRecDepth 10000
namespace Go.Ab
open Go.Proofs Go.Num
structure LpS{α:Type}(E:Ef α)(elem tl:TypeId)(note:LoopState→ABlk)(hs:AH)(bo l:Nat)(xs:List α)(h:AH):Prop where
 md:Md (fun m=>m=bo∨m=l) hs h
 note:h.blks[l]?=some (note .ready)
 out:∃(S:Fp)(t:Sl)(j:Option Nat),(∀m,S m→hs.blks.size≤m)∧h.has bo [t.v] tl∧LeO hs.blks.size j∧GF E elem h S t j xs
section
variable{α:Type}{E:Ef α}{elem tl:TypeId}{note:LoopState→ABlk}{hs h:AH}{bo l:Nat}{xs:List α}
theorem LpS.grow{h':AH}(L:LpS E elem tl note hs bo l xs h)(g:Grow h h'):LpS E elem tl note hs bo l xs h' :=
 ⟨L.md.thenG g,(g.blk l (Array.getElem?_eq_some_iff.1 L.note).1).trans L.note,L.out.imp fun _ ⟨t,j,a,B,lj,V⟩=>⟨t,j,a,g.has B,lj,V.grow g⟩⟩
theorem kbbv{S Tx:Fp}{t:Sl}{j:Option Nat}{x:α}{cs:List AV}{k:Nat}{e':TypeId}(hS:∀m,S m→hs.blks.size≤m)(hT:∀m,Tx m→hs.blks.size≤m)(hTj:NotO Tx j)(B:h.has bo [t.v] tl)(hn:h.blks[l]?=some (note .busy))(hbl:bo≠l)(hbs:bo<hs.blks.size)(hls:l<hs.blks.size)(hsh:hs.blks.size≤h.blks.size)(lj:LeO hs.blks.size j)(V:GF E elem h S t j xs)(hx:E.has h Tx cs x)(hg:growOk Pg (xs.length+1) elem E.w=true)(bx:h.has k cs e')(hcs:1*Pg.cellsOf elem=cs.length)(hend:∀h',h'.blks[l]?=some (note .busy)→kcc l none h'=some (.bool true,h'.setBlk l (note .ready))) :
  Runs ((ky Pg elem ((⟨some (.new k 0),1,.is 1⟩:Sl).v) h).bind fun p=>(ku Pg t p.1 p.2 elem E.w h).bind fun q=>(AV.asSl q.1).bind fun l12=>(q.2.puts (.new bo 0) [l12.v]).bind fun h13=>kcc l none h13) fun v h'=>v=.bool true∧Md (fun m=>m=bo∨m=l∨j=some m) h h'∧h'.blks[l]?=some (note .ready)∧∃(S:Fp)(t:Sl)(j:Option Nat),(∀m,S m→hs.blks.size≤m)∧h'.has bo [t.v] tl∧LeO hs.blks.size j∧GF E elem h' S t j (xs++[x]):=by
 refine Runs.step (kgv bx hcs) ?_;obtain⟨t',h3,e3,V3,u3⟩:=V.push (T:=Tx) hx hTj hg;refine Runs.step e3 (Runs.step (asSl_v _) ?_);have m3:Md (Fp.opt j) h h3:=u3.md fun k e=>e;have no:∀{m:Nat},m<hs.blks.size→¬Fp.opt j m:=fun hm e=>kdx hm lj _ e rfl;have B3:h3.has bo [t.v] tl:=m3.has B (no hbs);have n3:h3.blks[l]?=some (note .busy):=m3.get hn (no hls);refine Runs.puts B3 rfl fun h4 B4 u4=>?_;have n4:h4.blks[l]?=some (note .busy):=(u4.blk l (fun e=>hbl e.symm) (Array.getElem?_eq_some_iff.1 n3).1).trans n3;rw[hend _ n4];have u5:Upd h4 (h4.setBlk l (note .ready)) l:=AH.setBlk_Upd _;have hS':∀m,((Fp.or S Tx) m∧m<h.blks.size)→hs.blks.size≤m:=fun m x=>x.1.elim (hS m) (hT m);refine Runs.ret ⟨rfl,?_,AH.setBlk_get (Array.getElem?_eq_some_iff.1 n4).1,_,t',some h.blks.size,hS',B4.updr hbl u5,hsh,?_⟩
 ·refine((m3.mono fun m _ e=>.inr (.inr e)).trans (u4.md (.inl rfl))).trans (u5.md (.inr (.inl rfl)))
 ·exact(V3.upd u4 (fun x=>by have:=hS' _ x;omega) fun k e=>by cases e;omega).upd u5 (fun x=>by have:=hS' _ x;omega) fun k e=>by cases e;omega
theorem LpS.next{xs ys:List α}{h h1 h':AH}{j:Option Nat}(m1:Md (fun m=>m=bo∨m=l) hs h1)(lj:LeO hs.blks.size j)(m2:Md (fun m=>m=bo∨m=l∨j=some m) h1 h')(hn:h'.blks[l]?=some (note .ready))(o:∃(S:Fp)(t:Sl)(j:Option Nat),(∀m,S m→hs.blks.size≤m)∧h'.has bo [t.v] tl∧LeO hs.blks.size j∧GF E elem h' S t j ys):LpS E elem tl note hs bo l ys h' :=
 ⟨m1.next m2 fun m hm t=>t.elim .inl fun t=>t.elim .inr fun e=>absurd rfl (kdx hm lj _ e),hn,o⟩
end
noncomputable def prodC(qs:List Nat)(cs:List (List Nat))(l p:List Nat):List Nat:=l.foldl (fun p i=>km1 p (cs.getD i []) qs) p
end Go.Ab

/- squeezed -/
set_option maxRecDepth 10000
namespace Go.Ab
open Go.Proofs Go.Num
noncomputable def oddC(ns:List Nat)(C:List (List Nat)):Bool:=C.any fun c=>!kbl ns c
noncomputable def sumsC(qs:List Nat)(C:List (List Nat))(R:Nat×Nat→List Nat)(l:List (Nat×Nat)):List (List Nat):=l.map fun p=>prodC qs C (R p) [1]
noncomputable def kds(ns:List Nat)(t:Tb)(n:Int)(w:List Nat)(C:List (List Nat)):List (List Nat)×Int:=if !kbc ns then([],1)else if faultH t n w (C.length:Int)=0 then if oddC ns C then([],11)else(sumsC (kbd ns) C (rowsL t n w) (cutsL t),0)else([],faultH t n w (C.length:Int))
theorem own_av{h:AH}{p:Sl}{xs:List Nat}(o:Own h p){m:Nat}(k:¬Av p m xs):h.blks.size≤m:=by
 rcases Nat.lt_or_ge m h.blks.size with hm | hm
 ·exact absurd (Av.of_own o hm) k
 ·exact hm
section
variable{h0:AH}{S:Fp}{s1 s2 s3 s u z:Sl}{t:Tb}{n:Int}{w ns:List Nat}{C:List (List Nat)}
theorem kbde{k:Nat}{e:TypeId}(N:Nats h0 z ns)(hk:h0.has k [z.v] e)(q:Sq Ef.nats h0 S u C):Runs (go (.fn F.kgh [u.v,.func (.func F.kb2) [] [.ptr (some (.new k 0))]]) h0) fun v h'=>v=.bool (oddC ns C)∧Grow h0 h':=by
 rw[kbjl];refine Runs.contains (xs:=C) ?_;rw[kbdx,q.len];refine klc (n:=C.length) (G:=fun z h=>go (.pt F.kb6 Td.keb [(0,u.v),(1,.func (.func F.kb2) [] [.ptr (some (.new k 0))]),(7,.int .i64 (C.length:Int)),(8,.int .i64 z)]) h) (fun i h P hi gg hT hF=>?_) (fun h gg=>?_) C.length 0 (by omega) (Grow.refl h0) (fun j hj=>by omega)
 ·obtain⟨r,s',e1,e2,n',-⟩:=(q.grow gg).nats hi;rw[List.getElem?_eq_getElem hi]at hT hF;simp only[Option.any_some]at hT hF;show Runs (go _ _) _;rw[k04];refine Runs.ifT (decide_eq_true (by omega)) (Runs.step e1 (Runs.step e2 ?_))
  have key:Runs (go (.fn F.kb2 [s'.v,.ptr (some (.new k 0))]) h) fun v h'=>v=.bool (!kbl ns C[i])∧Grow h h':=by
   rw[kbez,Option.bind_some];refine Runs.step ((gg.has hk).rd0 rfl (asSl_v _)) ?_;refine(kpv (N.grow gg) n').call fun v h1 ⟨e,g1⟩=>?_;subst e;exact Runs.step (seen rfl) (Runs.ret ⟨rfl,g1⟩)
  refine key.call fun v h1 ⟨e,g1⟩=>?_;subst e;refine Runs.step (seen rfl) ?_;rw[kj (by have:=q.short;omega)];exact Runs.cond (fun c=>Runs.ret (hT h1 (gg.trans g1) c)) fun c=>hF _ (gg.trans g1) c
 ·rw[k04,condF (decide_eq_false (by omega))]
noncomputable def hNote(s1 s2 s3:Sl)(n:Int)(s u z:Sl)(m:Int)(b0 b1 b2 b3 bf bo:Nat)(fv g:AV)(st:LoopState):ABlk:=kcx Fx.kvf F.kch 0 st none [(0,z.v),(1,.agg [s1.v,s2.v,s3.v]),(2,.agg [.int .i64 n,s.v]),(3,u.v),(4,.ptr (some (.new b0 0))),(5,.ptr (some (.new b1 0))),(6,.ptr (some (.new b2 0))),(7,.ptr (some (.new b3 0))),(8,(⟨none,0,.is 0⟩:Sl).v),(9,.int .i64 0),(10,.int .i64 0),(11,.ptr (some (.new bf 0))),(12,.ptr (some (.new bo 0))),(18,z.v),(19,.bool true),(20,.bool false),(21,.agg [s1.v,s2.v,s3.v]),(22,.agg [.int .i64 n,s.v]),(23,u.v),(24,.int .i64 m),(25,.int .i64 0),(26,.int .i64 0),(27,.bool false),(29,u.v),(30,.func (.func F.kb2) [] [.ptr (some (.new b0 0))]),(31,.bool false),(32,z.v),(33,fv),(34,.agg [s1.v,s2.v,s3.v]),(35,.agg [.int .i64 n,s.v]),(36,g)]
theorem kbc1{note:LoopState→ABlk}{hs hr:AH}{b3 bf bo l kq:Nat}{x4 y tq to:Sl}{j jo:Option Nat}{e3 e4 e5:TypeId}{R qs:List Nat}{Su So:Fp}{xs:List (List Nat)}(hbl:bo≠l)(hbs:bo<hs.blks.size)(hls:l<hs.blks.size)(hrs:hs.blks.size≤hr.blks.size)(ljo:LeO hs.blks.size jo)(hlt:∀x∈R,x<C.length)(hR:R.length≤300)(hxs:xs.length<1000)
  (hend:∀h',h'.blks[l]?=some (note .busy)→kcc l none h'=some (.bool true,h'.setBlk l (note .ready))) (V:GF EI T.int hr Fp.no y j (zs R)) (B3:hr.has b3 [u.v] e3) (Q:Sq Ef.nats hr Su u C) (Bf:hr.has bf [.func (.func F.keh) [] [.ptr (some (.new kq 0))]] e4) (Bq:hr.has kq [tq.v] e5) (Nq:Nats hr tq qs) (hn:hr.blks[l]?=some (note .busy)) (Bo:hr.has bo [to.v] T.kc8) (hSo:∀m,So m→hs.blks.size≤m) (Vo:GF Ef.nats T.kr hr So to jo xs):∀(k i:Nat),i+k=R.length→∀(h:AH)(p:Sl),Grow hr h→Own hr p→Nats h p (prodC qs C (R.take i) [1])→
  Runs (go (.rpt l F.kch Td.kra [(7,.ptr (some (.new b3 0))),(8,x4.v),(9,.int .i64 0),(11,.ptr (some (.new bf 0))),(12,.ptr (some (.new bo 0))),(15,p.v),(40,y.v),(41,.int .i64 (R.length:Int)),(42,.int .i64 (i:Int))]) h) fun v h'=>v=.bool true∧Md (fun m=>m=bo∨m=l∨jo=some m) hr h'∧h'.blks[l]?=some (note .ready)∧∃(S:Fp)(t:Sl)(j:Option Nat),(∀m,S m→hs.blks.size≤m)∧h'.has bo [t.v] T.kc8∧LeO hs.blks.size j∧GF Ef.nats T.kr h' S t j (xs++[prodC qs C R [1]]):=by
 intro k
 induction k with
 | zero =>
  intro i hi h p G O N;obtain rfl:i=R.length:=by omega
  rw[List.take_length]at N;rw[kzi];refine Runs.ifF (decide_eq_false (by omega)) (Runs.step ((G.has Bo).rd0 rfl (asSl_v _)) ?_);refine Runs.new fun h1 b1 g1=>?_;have G1:=G.trans g1;have n1:=(G1.blk l (Array.getElem?_eq_some_iff.1 hn).1).trans hn;have lt:=Vo.lt
  have:=kbbv (note:=note) (hs:=hs) (E:=Ef.nats) (Tx:=fun m=>¬Av p m (prodC qs C R [1])) (x:=prodC qs C R [1]) hSo (fun m hm=>Nat.le_trans hrs (own_av O hm)) (by
   cases jo with
   | none=>exact trivial
   | some a =>
    intro hm;have:=own_av O hm;have:a<hr.blks.size:=lt;omega) (G1.has Bo) n1 hbl hbs hls (Nat.le_trans hrs G1.size) ljo (Vo.grow G1) (show Ef.nats.has h1 _ [p.v] _ from⟨p,rfl,N.grow g1,fun j hj=>hj⟩) (k2r (by omega)) b1 (by rw[koz];rfl) hend
  exact this.imp fun v h' ⟨e,m5,n5,o5⟩=>⟨e,G1.thenM m5,n5,o5⟩
 | succ k ih =>
  intro i hi h p G O N;have hi':i<R.length:=by omega
  have hz:i<(zs R).length:=by rw[zs_len];exact hi'
  obtain⟨r,e1,e2⟩:=(V.grow G).sq.int hz;have hx':(zs R)[i]=((R[i]:Nat):Int):=by simp[zs]
  have hg:=hlt _ (List.getElem_mem hi');obtain⟨r2,s',e4,e5,N',-⟩:=(Q.grow G).nats hg;rw[kzi];refine Runs.ifT (decide_eq_true (by omega)) (Runs.step e1 (Runs.step e2 (Runs.step (show h.cell (.new bf 0)=some _ from(G.has Bf).cell 0) (Runs.step ((G.has B3).rd0 rfl (asSl_v _)) ?_))));rw[hx'];refine Runs.step e4 (Runs.step e5 ?_);show Runs ((callF Pg go F.keh [p.v,s'.v,.ptr (some (.new kq 0))] h).bind _) _;rw[kzj];refine(kvw N N' (Nq.grow G) (G.has Bq)).call fun v h1 ⟨p',e,N1,g1,O1⟩=>?_;subst e;refine Runs.step (seen (asSl_v _)) ?_;rw[kj (by omega)];refine ih (i+1) (by omega) h1 p' (G.trans g1) (O1.of_le G) ?_;rw[List.take_succ_eq_append_getElem hi'];unfold prodC at N1⊢;rw[List.foldl_append];have:C.getD R[i] []=C[R[i]]:=by simp[List.getD,hg]
  rw[List.foldl_cons,List.foldl_nil,this];exact N1
theorem kbcr{hs h:AH}{b0 b1 b2 b3 bf bo l kq N0:Nat}{tq:Sl}{gv fv:AV}{m:Int}{d:List (Nat×Nat)}{f c:Nat}{y:Sl}{j:Option Nat}{qs:List Nat}{e4 e5:TypeId}(hbl:bo≠l)(hbs:bo<hs.blks.size)(hls:l<hs.blks.size)(h3:b3<N0)(hf:bf<N0)(hq:kq<N0)(hd:d.length<1000)(hb:C.length=t.ids.length)(hids:t.ids.length≤256)(hN0:N0≤bo)(hNl:N0≤l)(B3:hs.has b3 [u.v] T.kc8)(Q:Sq Ef.nats hs (Fp.below N0) u C)(hfv:fv=.func (.func F.keh) [] [.ptr (some (.new kq 0))])(Bf:hs.has bf [fv] e4)(Bq:hs.has kq [tq.v] e5)(Nq:Nats hs tq qs)(Aq:∀j,¬Av tq j qs→j<N0)
  (I:LpS Ef.nats T.kr T.kc8 (hNote s1 s2 s3 n s u z m b0 b1 b2 b3 bf bo fv gv) hs bo l (sumsC qs C (rowsL t n w) d) h) (V:GF EI T.int h Fp.no y j (zs (rowsL t n w (f,c)))):Runs (go (.round l [.agg [.int .i64 (f:Int),.int .i64 (c:Int)],y.v]) h) fun v h'=>v=.bool true∧LpS Ef.nats T.kr T.kc8 (hNote s1 s2 s3 n s u z m b0 b1 b2 b3 bf bo fv gv) hs bo l (sumsC qs C (rowsL t n w) (d++[(f,c)])) h':=by
 obtain⟨M,hn,So,to,jo,hSo,Bo,ljo,Vo⟩:=I;have hll:l<h.blks.size:=(Array.getElem?_eq_some_iff.1 hn).1;have hsz:=M.size
 have dis:Dis (Fp.below N0) (fun m=>m=bo∨m=l):=fun k a b=>by
  have a:k<N0:=a;rcases b with rfl | rfl<;>omega
 have no:∀k,k<N0→¬(k=bo∨k=l):=fun k a b=>by rcases b with rfl | rfl<;>omega
 have B3h:=M.has B3 (no _ h3);have Bfh:=M.has Bf (no _ hf);have Bqh:=M.has Bq (no _ hq);have Qh:=Q.md M dis;have Nqh:Nats h tq qs:=Nq.mdE (S:=Fp.below N0) Aq M dis;rw[kbe0 l none _ _ _ _ _ _ _ _ _ _ _ _ _ _ _ _ _ _ _ _ _ _ _ _ _ _ _ _ _ _ _ _ _ _ _ _ _ _ _ _ _ _ _ hn,koh (h:=h) hn,Option.bind_some];generalize hq':h.setBlk l _=h1;have u1:Upd h h1 l:=by rw[← hq'];exact AH.setBlk_Upd _
 have n1:h1.blks[l]?=some (hNote s1 s2 s3 n s u z m b0 b1 b2 b3 bf bo fv gv .busy):=by rw[← hq'];exact AH.setBlk_get hll
 have hu1:=u1.size;by_cases hyl:j=some l
 ·subst hyl;exfalso;obtain⟨_,_,_,_,rows,e,b,_⟩:=V;rw[AH.has,hn]at b;unfold hNote kcx at b;cases b
 refine Runs.new fun h2 b2' g2=>?_;have V1:GF EI T.int h1 Fp.no y j (zs (rowsL t n w (f,c))):=V.upd u1 Fp.not_no fun k e e2=>hyl (by rw[e,e2]);have Q1:Sq Ef.nats h1 (Fp.below N0) u C:=Qh.upd (by intro k;have k:l<N0:=k;omega) u1;have Nq1:Nats h1 tq qs:=Nqh.upda (Classical.byContradiction fun k=>by have:=Aq _ k;omega) u1;have B31:=B3h.updr (show b3≠l by omega) u1;have Bf1:=Bfh.updr (show bf≠l by omega) u1;have Bq1:=Bqh.updr (show kq≠l by omega) u1;have Bo1:=Bo.updr hbl u1;have Vo1:GF Ef.nats T.kr h1 So to jo (sumsC qs C (rowsL t n w) d):=Vo.upd u1 (fun x=>by have:=hSo _ x;omega) (kdx hls ljo);rw[V.len,zs_len];rw[hfv]at Bf1;have O:Own h1 ⟨some (.new h1.blks.size 0),1,.is 1⟩:=Own.box (Grow.refl _);have N2:Nats h2 ⟨some (.new h1.blks.size 0),1,.is 1⟩ (prodC qs C ((rowsL t n w (f,c)).take 0) [1]):=Nats.of_has (xs:=[1]) b2' (by simp) (by simp);have:=kbc1 (note:=hNote s1 s2 s3 n s u z m b0 b1 b2 b3 bf bo fv gv) (hs:=hs) (x4:=⟨none,0,.is 0⟩) (R:=rowsL t n w (f,c)) (xs:=sumsC qs C (rowsL t n w) d) hbl hbs hls (by omega) ljo (fun x hx=>by rw[hb];exact kwg x hx) (by have:=kyz (t:=t) (n:=n) (w:=w) (p:=(f,c));omega) (by unfold sumsC;rw[List.length_map];exact hd) (fun h' hn'=>by rw[kmt hn'];rfl) V1 B31 Q1 Bf1 Bq1 Nq1 n1 Bo1 hSo Vo1 (rowsL t n w (f,c)).length 0 (by omega) h2 _ g2 O N2;refine this.imp fun v h' ⟨e,m5,n5,o5⟩=>⟨e,?_⟩
 have hsum:sumsC qs C (rowsL t n w) (d++[(f,c)])=sumsC qs C (rowsL t n w) d++[prodC qs C (rowsL t n w (f,c)) [1]]:=by
  unfold sumsC;rw[List.map_append];rfl
 rw[hsum];exact LpS.next (h:=h) (xs:=sumsC qs C (rowsL t n w) d) (M.trans (u1.md (.inr rfl))) ljo m5 n5 o5
theorem kux(T0:Tab h0)(M:Nats h0 z ns)(q:TabAt h0 S s1 s2 s3 t)(N:Nats h0 s w)(Q:Sq Ef.nats h0 S u C):Runs (go (.fn F.kch [z.v,.agg [s1.v,s2.v,s3.v],.agg [.int .i64 n,s.v],u.v]) h0) fun v h'=>Grow h0 h'∧∃(S:Fp)(y:Sl)(j:Option Nat),v=.tup [y.v,.int .i64 (kds ns t n w C).2]∧(∀m,S m→h0.blks.size≤m)∧LeO h0.blks.size j∧GF Ef.nats T.kr h' S y j (kds ns t n w C).1:=by
 rw[kbhu];refine Runs.new fun ha ba ga=>Runs.new fun h1 b1 g1=>Runs.new fun h2 b2 g2=>Runs.new fun h3 b3 g3=>?_;have g13:=(g1.trans g2).trans g3;have Ba:=g13.has ba;have B1:=g3.has (g2.has b1);have B2:=g3.has b2;have za:=ba.lt;have z1:=b1.lt;have z2:=b2.lt;have z3:=b3.lt;have G3:Grow h0 h3:=ga.trans g13;refine Runs.step (Ba.rd0 rfl (asSl_v _)) ?_
 have nope:∀{h:AH}(c:Int),Grow h0 h→kds ns t n w C=([],c)→Runs (some (AV.tup [(⟨none,0,.is 0⟩:Sl).v,.int .i64 c],h)) fun v h'=>Grow h0 h'∧∃(S:Fp)(y:Sl)(j:Option Nat),v=.tup [y.v,.int .i64 (kds ns t n w C).2]∧(∀m,S m→h0.blks.size≤m)∧LeO h0.blks.size j∧GF Ef.nats T.kr h' S y j (kds ns t n w C).1:=fun c g e=>by
  rw[e];exact Runs.ret ⟨g,Fp.no,⟨none,0,.is 0⟩,none,rfl,fun m x=>x.elim,trivial,GF.none _ _ _ _⟩
 refine(kvl (M.grow G3)).call fun v h4 ⟨e,g4⟩=>?_;subst e;have G4:=G3.trans g4;refine Runs.step (seen rfl) (Runs.cond (fun c=>nope 1 G4 (by unfold kds;rw[if_pos c])) fun cM=>?_);have B1:=g4.has B1;have B2:=g4.has B2;have B3:=g4.has b3;refine Runs.step (B1.rd 0 rfl (asSl_v _)) (Runs.step (B1.rd 1 rfl (asSl_v _)) (Runs.step (B1.rd 2 rfl (asSl_v _)) (Runs.step (B2.rd 0 rfl (kc _ _)) (Runs.step (B2.rd 1 rfl (asSl_v _)) (Runs.step (B3.rd0 rfl (asSl_v _)) ?_)))));rw[Q.len];refine(kyk (q.grow G4) (N.grow G4)).call fun v h5 ⟨e,g5⟩=>?_;subst e;have G5:=G4.trans g5;have B3:=g5.has B3;refine Runs.step (seen rfl) (Runs.cond (fun c=>?_) fun c=>?_)
 ·rw[Bool.not_eq_true',decide_eq_false_iff_not]at c;exact nope _ G5 (by unfold kds;rw[if_neg (by rw[cM];simp),if_neg c])
 rw[Bool.not_eq_false',decide_eq_true_eq]at c;obtain⟨hR,hR2,hn,hm⟩:=k2z c;rw[c];refine Runs.step (B3.rd0 rfl (asSl_v _)) ?_;have Ba5:=(g4.trans g5).has Ba;refine(kbde (M.grow G5) Ba5 (Q.grow G5)).call fun v h6 ⟨e,g6⟩=>?_;subst e;have G6:=G5.trans g6;refine Runs.step (seen rfl) (Runs.cond (fun c2=>nope 11 G6 (by unfold kds;rw[if_neg (by rw[cM];simp),if_pos c,if_pos c2])) fun c2=>?_)
 have hpl:kds ns t n w C=(sumsC (kbd ns) C (rowsL t n w) (cutsL t),0):=by
  unfold kds;rw[if_neg (by rw[cM];simp),if_pos c,if_neg (by rw[c2];simp)]
 rw[hpl];dsimp only;rw[Bool.not_eq_false']at cM;rw[cM];refine Runs.step ((g6.has Ba5).rd0 rfl (asSl_v _)) ?_;refine(k2d (M.grow G6)).call fun v h7 ⟨kq,tq,e,hkq,Bq,Nq,g7⟩=>?_;subst e;have G7:=G6.trans g7;have g37:=((g4.trans g5).trans g6).trans g7;refine Runs.new fun h8 b8 g8=>Runs.ifT rfl ?_;dsimp only;refine Runs.puts b8 rfl fun h9 b9 u9=>?_;have g79:Grow h7 h9:=g8.updr (Nat.le_refl _) u9;refine Runs.new fun h10 b10 g10=>?_;have g310:=(g37.trans g79).trans g10;have B1':=g310.has (g3.has (g2.has b1));have B2':=g310.has (g3.has b2);have z7:=g37.size;have zq:=Bq.lt;have z8:=b8.lt;have z9:=b9.lt;have z10:=b10.lt;have y9:=g79.size;refine Runs.step (B1'.rd 0 rfl (asSl_v _)) (Runs.step (B1'.rd 1 rfl (asSl_v _)) (Runs.step (B1'.rd 2 rfl (asSl_v _)) (Runs.step (B2'.rd 0 rfl (kc _ _)) (Runs.step (B2'.rd 1 rfl (asSl_v _)) ?_))))
 have k0:Runs (go (.fn F.kli [.agg [s1.v,s2.v,s3.v],.agg [.int .i64 n,s.v]]) h10) fun v h'=>∃c1 c2:Nat,v=.func (.func F.kbw) [] [.ptr (some (.new c1 0)),.ptr (some (.new c2 0))]∧h10.blks.size≤c1∧h10.blks.size≤c2∧h'.has c1 [s1.v,s2.v,s3.v] T.kbt∧h'.has c2 [.int .i64 n,s.v] T.ko∧Grow h10 h':=by
  rw[k1o];exact Runs.new fun h4 b4 g4=>Runs.new fun h5 b5 g5=>Runs.ret ⟨_,_,rfl,Nat.le_refl _,g4.size,g5.has b4,b5,g4.trans g5⟩
 refine k0.call fun v h11 ⟨c1,c2',e,l1,l2,d1,d2,g11⟩=>?_;subst e;dsimp only;rw[k7x,knp];refine Runs.newM fun h12 hb g12=>?_;rw[k0z];generalize hgv:(AV.func (.func F.kbw) [] [AV.ptr (some (Ref.new c1 0)),AV.ptr (some (Ref.new c2' 0))])=gv at hb;generalize hfv:(AV.func (.func F.keh) [] [AV.ptr (some (Ref.new kq 0))])=fv at hb b9;have g312:=(g310.trans g11).trans g12;have g712:=((g79.trans g10).trans g11).trans g12;have G12:Grow h0 h12:=G3.trans g312;have y10:=g10.size;have z11:=d1.lt;have z12:=d2.lt;have z13:h11.blks.size<h12.blks.size:=(Array.getElem?_eq_some_iff.1 hb).1;have zz0:=G3.size;have E12:EachOk (Fp.below h0.blks.size) s1 s2 s3 s t n w c1 c2' h12:=⟨T0.grow G12,q.bound.grow G12,N.grow G12,g12.has d1,g12.has d2⟩;have I0:LpS Ef.nats T.kr T.kc8 (hNote s1 s2 s3 n s u z (C.length:Int) h0.blks.size ha.blks.size h1.blks.size h2.blks.size h7.blks.size h9.blks.size fv gv) h12 h9.blks.size h11.blks.size (sumsC (kbd ns) C (rowsL t n w) []) h12:=⟨Md.refl _ _,hb,Fp.no,_,none,fun m x=>x.elim,g12.has (g11.has b10),trivial,GF.none _ _ _ _⟩;have k1:=k17 (l:=h11.blks.size) (Inv:=fun d h=>LpS Ef.nats T.kr T.kc8 (hNote s1 s2 s3 n s u z (C.length:Int) h0.blks.size ha.blks.size h1.blks.size h2.blks.size h7.blks.size h9.blks.size fv gv) h12 h9.blks.size h11.blks.size (sumsC (kbd ns) C (rowsL t n w) d) h) (fun d h I=>E12.md I.md (fun j a b=>by have a:j<h0.blks.size:=a;rcases b with rfl | rfl<;>omega) (fun j hj=>Classical.byContradiction fun k=>hj (Av.of_base N (Nat.le_of_not_lt k))) (by omega) (by omega)) (fun d h h' I g=>I.grow g) hR (fun d f c h y j hf hc hd I V=>kbcr (N0:=h9.blks.size) (by omega) (by omega) (by omega) (by omega) (by omega) (by omega) hd (by omega) (khe hR).1 (by omega) (by omega) (g312.has b3) ((Q.bound.mono fun _ x=>(show _<h9.blks.size by have:=x.2;omega)).grow G12) hfv.symm ((g10.trans (g11.trans g12)).has b9) (g712.has Bq) (Nq.grow g712) (fun j hj=>Classical.byContradiction fun k=>hj (Av.of_base Nq (by omega))) I V) I0;show Runs ((go (.fn F.kbw [.func (.yield h11.blks.size) [] [],.ptr (some (.new c1 0)),.ptr (some (.new c2' 0))]) h12).bind _) _;refine k1.call fun v h13 ⟨e,I⟩=>?_;obtain⟨Mm,hn9,So,t',j,hSo,B,lj,V⟩:=I;dsimp only;rw[kp6 hn9,Option.bind_some,k48];have u7:Upd h13 (h13.setBlk h11.blks.size .dead) h11.blks.size:=AH.setBlk_Upd _;have zz:=Mm.size;have G13:Grow h0 h13:=(G12.thenM Mm).grow fun j hj=>by intro k;rcases k with rfl | rfl<;>omega
 refine Runs.step ((B.updr (by omega) u7).rd0 rfl (asSl_v _)) (Runs.ret ⟨G13.updr (by omega) u7,So,t',j,rfl,fun m hm=>by have:=hSo m hm;omega,LeO.trans (by omega) lj,?_⟩);exact V.upd u7 (fun x=>by have:=hSo _ x;omega) (kdx (by omega) lj)
end
end Go.Ab

/- squeezed -/
set_option maxRecDepth 10000
namespace Go.Ab
open Go.Proofs Go.Num
section
variable{h0 hr:AH}{S Su:Fp}{s1 s2 s3 s u z tq:Sl}{t:Tb}{n:Int}{w ns qs:List Nat}{C:List (List Nat)}
end
end Go.Ab

/- squeezed -/
set_option maxRecDepth 10000
namespace Go.Ab
open Go.Proofs Go.Num
section
variable{h0:AH}{S S':Fp}{s1 s2 s3 s u a b:Sl}{t:Tb}{n:Int}{w:List Nat}{C:List (List Nat)}
end
theorem kbfq{h:AH}{cs:List AV}(a:ArgT Pg h T.kr cs):∃xs,Ef.nats.has h Fp.no cs xs:=by
 obtain⟨s,xs,e,n⟩:=k02 a;refine⟨xs,s,e,n,fun j hj=>hj ?_⟩;rcases a.slice kyi with h1 | ⟨ad,len,cap,h1,-⟩
 ·rw[e]at h1;cases s;simp[Sl.v]at h1;obtain⟨rfl,rfl,rfl⟩:=h1;exact .inr fun o ho=>by cases ho
 ·rw[e]at h1;cases s;simp[Sl.v]at h1;obtain⟨rfl,rfl,rfl⟩:=h1;exact .inr fun o ho=>by cases ho
theorem kbch{h:AH}{cs:List AV}(a:ArgT Pg h T.kc8 cs):∃(s:Sl)(xs:List (List Nat)),cs=[s.v]∧Sq Ef.nats h Fp.no s xs:=Sq.of_arg (E:=Ef.nats) kbai koz (fun es t=>kbfq t) a
theorem k6w{h:AH}{x:AV}(a:ArgV Pg h T.kkn x):∃(z u:Sl)(ns:List Nat)(C:List (List Nat)),x=.agg [z.v,u.v]∧Nats h z ns∧Sq Ef.nats h Fp.no u C:=by
 unfold ArgV at a;rw[k2j]at a;obtain⟨cs,rfl,t⟩:=a;obtain⟨hl,hf⟩:=t.struct k2j;rw[kbdo]at hl
 match cs,hl with
 | [x0,x1],_ =>
  simp[koz,kbk3]at hf;obtain⟨h0,h1⟩:=hf;obtain⟨z,ns,e0,N⟩:=k02 h0;obtain⟨u,C,e1,Q⟩:=kbch h1;cases e0;cases e1;exact⟨z,u,ns,C,rfl,N,Q⟩
end Go.Ab

/- squeezed -/
set_option maxRecDepth 10000
namespace Go.Ab
open Go.Proofs Go.Num
def prodN(C:List (List Nat))(l:List Nat)(X:Nat):Nat:=l.foldl (fun X i=>X*num B (C.getD i [])) X
noncomputable def sumH(p q:Nat)(C:List (List Nat))(l:List Nat)(M:Nat):Nat:=l.foldl (fun M i=>(M+hidOf p q (num B (C.getD i [])))%(p*q)) M
noncomputable def sumD(p q:Nat)(C:List (List Nat))(l:List Nat)(M:Nat):Nat:=l.foldl (fun M i=>M+hidOf p q (num B (C.getD i []))) M
theorem sumH_D{p q:Nat}{C:List (List Nat)}:∀(l:List Nat)(M:Nat),sumH p q C l (M%(p*q))=sumD p q C l M%(p*q)
 | [],M=>rfl
 | i::l,M=>by
  unfold sumH sumD;rw[List.foldl_cons,List.foldl_cons,Nat.mod_add_mod];exact sumH_D l _
theorem kn2{C:List (List Nat)}(f g:Nat→Bool):∀(l:List Nat)(X Y:Nat),prodN C (l.filter f) (X*Y)=prodN C (l.filter fun i=>f i&&g i) X*prodN C (l.filter fun i=>f i&&!g i) Y
 | [],X,Y=>rfl
 | i::l,X,Y=>by
  rw[List.filter_cons,List.filter_cons,List.filter_cons];cases hf:f i with
  | false=>exact kn2 f g l X Y
  | true =>
   cases hg:g i with
   | true =>
    simp only[hf,hg,Bool.and_true,Bool.not_true,Bool.and_false,if_true,Bool.false_eq_true,if_false];unfold prodN;rw[List.foldl_cons,List.foldl_cons,Nat.mul_right_comm];exact kn2 f g l _ _
   | false =>
    simp only[hf,hg,Bool.and_true,Bool.not_false,Bool.and_false,if_true,Bool.false_eq_true,if_false];unfold prodN;rw[List.foldl_cons,List.foldl_cons,Nat.mul_assoc];exact kn2 f g l _ _
section
variable{p q:Nat}(k:KeyOk p q)(p2:p<1099511627776)(q2:q<1099511627776){C:List (List Nat)}(lC:∀c∈C,∀x∈c,x<B)(hv:∀c∈C,kbl (digs B (p*q)) c=true)
include k p2 q2 lC hv
theorem krz{i:Nat}(hi:i<C.length):digs B (num B C[i])=C[i]∧num B C[i]<p*q*(p*q)∧Nat.Coprime (num B C[i]) (p*q):=by
 have hm:=List.getElem_mem hi;obtain⟨-,r,-,l,c⟩:=(ko8 p2 q2 (lC _ hm)).1 (hv _ hm);exact⟨kcs B2 (lC _ hm) (rt_iff.1 r).2,l,c⟩
theorem kbkg:0<p*q*(p*q):=Nat.mul_pos (kg8 k) (kg8 k)
theorem kos:∀(l:List Nat),(∀i∈l,i<C.length)→∀X:Nat,prodC (digs B (p*q*(p*q))) C l (digs B (X%(p*q*(p*q))))=digs B (prodN C l X%(p*q*(p*q)))
 | [],_,X=>rfl
 | i::l,hl,X=>by
  have hi:=hl i (by simp);obtain⟨e,lt,co⟩:=krz k p2 q2 lC hv hi;have hNN:=kbkg k p2 q2 lC hv;have hsq:=key_sq p2 q2;have up:∀{x:Nat},x<p*q*(p*q)→x<B^30:=fun h=>Nat.lt_trans h (Nat.lt_of_lt_of_le hsq (Nat.pow_le_pow_right (by decide) (by decide)));have hC:C.getD i []=C[i]:=by simp[List.getD,hi]
  have ih:=kos l (fun j hj=>hl j (by simp[hj])) (X*num B C[i]);unfold prodC prodN at ih⊢;rw[List.foldl_cons,List.foldl_cons,hC];rw[← ih];congr 1
  conv=>lhs;rw[← e]
  rw[kyf (up (Nat.mod_lt _ hNN)) (up lt) (Nat.lt_of_lt_of_le hsq (Nat.pow_le_pow_right (by decide) (by decide))) hNN,Nat.mod_mul_mod]
theorem kop:∀(l:List Nat),(∀i∈l,i<C.length)→∀X:Nat,Nat.Coprime X (p*q)→Nat.Coprime (prodN C l X) (p*q)
 | [],_,X,h=>h
 | i::l,hl,X,h=>by
  have hi:=hl i (by simp);obtain⟨e,lt,co⟩:=krz k p2 q2 lC hv hi;have hC:C.getD i []=C[i]:=by simp[List.getD,hi]
  have:=kop l (fun j hj=>hl j (by simp[hj])) (X*num B C[i]) (Nat.Coprime.mul_left h co);unfold prodN at this⊢;rw[List.foldl_cons,hC];exact this
theorem k0c:∀(l:List Nat),(∀i∈l,i<C.length)→∀X M:Nat,Hid (p*q) ((p-1)*(q-1)) X M→Hid (p*q) ((p-1)*(q-1)) (prodN C l X) (sumH p q C l M)
 | [],_,X,M,h=>h
 | i::l,hl,X,M,h=>by
  have hi:=hl i (by simp);obtain⟨e,lt,co⟩:=krz k p2 q2 lC hv hi;have hC:C.getD i []=C[i]:=by simp[List.getD,hi]
  have:=k0c l (fun j hj=>hl j (by simp[hj])) (X*num B C[i]) ((M+hidOf p q (num B C[i]))%(p*q)) (Hid.mul (kg8 k) h (k1j k co));unfold prodN sumH at this⊢;rw[List.foldl_cons,List.foldl_cons,hC];exact this
theorem kvc:digs B (1%(p*q*(p*q)))=[1]:=by
 have h1:=k.pos;have:1<p*q*(p*q):=Nat.lt_of_lt_of_le h1 (Nat.le_mul_of_pos_left _ (by omega));rw[Nat.mod_eq_of_lt this,khs]
theorem k54:Hid (p*q) ((p-1)*(q-1)) 1 0:=by
 have:=Hid.shown (f:=(p-1)*(q-1)) (kg8 k);rwa[Nat.zero_mul,Nat.zero_add]at this
theorem kbbu(hb:badF (p:Int) (q:Int)=false)(may:kbc (digs B (p*q))=true){l:List Nat}(hl:∀i∈l,i<C.length):decF (p:Int) (q:Int) (prodC (digs B (p*q*(p*q))) C l [1])=(digs B (sumD p q C l 0%(p*q)),0):=by
 rw[← kvc k p2 q2 lC hv,kos k p2 q2 lC hv l hl,dec_of k p2 q2 hb may (kop k p2 q2 lC hv l hl 1 (Nat.coprime_one_left _)) (k0c k p2 q2 lC hv l hl 1 0 (k54 k p2 q2 lC hv)),← sumH_D,Nat.zero_mod]
end
end Go.Ab

/- squeezed -/
set_option maxRecDepth 10000
namespace Go.Ab
open Go.Proofs
def OfP(h0:AH)(n:Nat)(l:List Nat)(v:AV)(h':AH):Prop:=Grow h0 h'∧∃(t:Sl)(w:List Nat),v=.tup [.agg [.int .i64 (n:Int),t.v],.int .i64 0]∧Nats h' t w∧w.length=(n+63)/64∧Own h0 t∧∀m,wbit w m=decide (m∈l)
theorem ofP_bt{n:Nat}{w l:List Nat}(hn:n≤65536)(hl:∀x∈l,x<n)(hw:w.length=(n+63)/64)(hm:∀m,wbit w m=decide (m∈l)):btR (n:Int) w=true∧btL (n:Int) w=(List.range n).filter fun i=>decide (i∈l):=by
 have hov:∀i,n≤i→wbit w i=false:=fun i hi=>by
  rw[hm,decide_eq_false];intro h;have:=hl i h;omega
 have hR:btR (n:Int) w=true:=btR_of (by omega) (by omega) (by rw[Int.toNat_natCast];exact hw) fun i _ hi=>hov i (by rw[Int.toNat_natCast]at hi;exact hi);refine⟨hR,?_⟩;unfold btL;rw[hR,if_pos rfl,Int.toNat_natCast];apply List.filter_congr;intro i hi;rw[hm]
theorem kbcc{x k:Nat}(hx:x<18446744073709551616)(hk:k<64)(hb:x.testBit k=false):IntKind.wrap .u64 ((x:Int)+((2^k:Nat):Int))=((x|||2^k:Nat):Int):=by
 have hp:2^k<2^64:=Nat.pow_lt_pow_right (by decide) hk
 have h1:BitVec.ofNat 64 x&&&BitVec.ofNat 64 (2^k)=0#64:=by
  apply BitVec.eq_of_toNat_eq;rw[BitVec.toNat_and,BitVec.toNat_ofNat,BitVec.toNat_ofNat,Nat.mod_eq_of_lt hx,Nat.mod_eq_of_lt hp];apply Nat.eq_of_testBit_eq;intro i;rw[Nat.testBit_and,Nat.testBit_two_pow];by_cases e:k=i
  ·subst e;simp[hb]
  ·simp[e]
 have h2:=congrArg BitVec.toNat (BitVec.add_eq_or_of_and_eq_zero _ _ h1);rw[BitVec.toNat_add,BitVec.toNat_or,BitVec.toNat_ofNat,BitVec.toNat_ofNat,Nat.mod_eq_of_lt hx,Nat.mod_eq_of_lt hp]at h2;rw[wrapU,← h2];omega
section
variable{h0:AH}{S:Fp}{s s1 s2 s3:Sl}{t:Tb}
theorem k49{l:List Nat}{n:Nat}(q:Sq EI h0 S s (zs l)){j:Nat}(hj:j<l.length)(hlj:l[j]<65536){h:AH}(G:Grow h0 h){b c i:Nat}{t:Sl}{w:List Nat}(C:h.has c [.int .i64 (n:Int),t.v] T.ko)(V:Vec h t i w)(hw:l[j]/64<w.length)(hbit:wbit w l[j]=false){Q:AV→AH→Prop}
  (hP:∀h',Upd h h' i→Vec h' t i (w.set (l[j]/64) (w[l[j]/64]|||2^(l[j]%64)))→Runs (go (.pt F.kcg Td.kkg [(0,.int .i64 (n:Int)),(1,s.v),(4,.ptr (some (.new b 0))),(6,.ptr (some (.new c 0))),(7,.int .i64 ((j+1:Nat):Int))]) h') Q):∀(k m:Nat),m+k=l[j]%64→
  Runs (go (.pt F.kcg Td.kow [(0,.int .i64 (n:Int)),(1,s.v),(4,.ptr (some (.new b 0))),(6,.ptr (some (.new c 0))),(7,.int .i64 (j:Int)),(9,.int .u64 ((2^m:Nat):Int)),(10,.int .i64 (m:Int))]) h) Q:=by
 have hj':j<(zs l).length:=by rw[zs_len];omega
 obtain⟨r,e1,e2⟩:=(q.grow G).int hj';have hx:(zs l)[j]=((l[j]:Nat):Int):=by simp[zs]
 rw[hx]at e2;have hm64:l[j]%64<64:=Nat.mod_lt _ (by decide);intro k
 induction k with
 | zero =>
  intro m hm;have hwl:w[l[j]/64]<18446744073709551616:=V.lt _ (List.getElem_mem hw);have hgd:w.getD (l[j]/64) 0=w[l[j]/64]:=by simp[List.getD,hw]
  have hb2:w[l[j]/64].testBit (l[j]%64)=false:=by
   unfold wbit at hbit;rw[hgd]at hbit;exact hbit
  rw[kw4];refine Runs.step e1 (Runs.step e2 ?_);rw[show Int.tmod ((l[j]:Nat):Int) 64=((l[j]%64:Nat):Int)from rfl];refine Runs.ifF (decide_eq_false (by omega)) (Runs.step (C.rd 1 rfl (asSl_v _)) (Runs.step e1 (Runs.step e2 (Runs.step (C.rd 1 rfl (asSl_v _)) (Runs.step e1 (Runs.step e2 ?_))))));rw[show Int.tdiv ((l[j]:Nat):Int) 64=((l[j]/64:Nat):Int)from rfl,wrap64 (by omega) (by omega),V.len];refine Runs.step (V.idx rfl (kz hw)) (Runs.step (V.rd rfl (kz hw) (kc _ _)) (Runs.step (V.idx rfl (kz hw)) ?_));obtain rfl:m=l[j]%64:=by omega
  rw[hgd,kbcc hwl hm64 hb2];refine Runs.vput V rfl (kz hw) (kbf (Nat.or_lt_two_pow (n:=64) hwl (Nat.pow_lt_pow_right (by decide) hm64))) fun h1 V1 u1=>?_;rw[kj (by have:=q.short;rw[zs_len]at this;omega)];exact hP h1 u1 V1
 | succ k ih =>
  intro m hm;rw[kw4];refine Runs.step e1 (Runs.step e2 ?_);rw[show Int.tmod ((l[j]:Nat):Int) 64=((l[j]%64:Nat):Int)from rfl];refine Runs.ifT (decide_eq_true (by omega)) ?_;have hp:2^(m+1)<2^64:=Nat.pow_lt_pow_right (by decide) (by omega)
  rw[kj (by omega),show IntKind.wrap .u64 (((2^m:Nat):Int)*2)=((2^(m+1):Nat):Int)from by
   have:((2^m:Nat):Int)*2=((2^(m+1):Nat):Int):=by rw[Nat.pow_succ];omega
   have gen:∀z:Nat,z<18446744073709551616→IntKind.wrap .u64 (z:Int)=(z:Int):=fun z hz=>by rw[wrapU];omega
   rw[this,gen _ hp]]
  exact ih (m+1) (by omega)
theorem kbi4{l:List Nat}{n:Nat}(q:Sq EI h0 S s (zs l))(hl:∀x∈l,x<n)(hn:n≤65536){b c i:Nat}{t:Sl}(hb:h0.blks.size≤b)(hci:c≠i)(hbc:b≠c)(hbi:b≠i)(hi:h0.blks.size≤i):∀(k j:Nat),j+k=l.length→∀(h:AH)(w:List Nat),Grow h0 h→(∃cs:List AV,cs.length=2∧h.has b cs T.ko)→h.has c [.int .i64 (n:Int),t.v] T.ko→Vec h t i w→w.length=(n+63)/64→(∀m,wbit w m=decide (m∈l.take j))→
  Runs (go (.pt F.kcg Td.kkg [(0,.int .i64 (n:Int)),(1,s.v),(4,.ptr (some (.new b 0))),(6,.ptr (some (.new c 0))),(7,.int .i64 (j:Int))]) h) (OfP h0 n l):=by
 intro k
 induction k with
 | zero =>
  intro j hj h w g ⟨cs,hcs,B⟩ C V hw hm;obtain rfl:j=l.length:=by omega
  rw[k0k,q.len,zs_len];refine Runs.ifF (decide_eq_false (by omega)) (Runs.step (C.rd 0 rfl (kc _ _)) (Runs.step (C.rd 1 rfl (asSl_v _)) ?_));refine Runs.puts B (by rw[hcs];rfl) fun h1 B1 u1=>?_;refine Runs.step (B1.rd 0 rfl (kc _ _)) (Runs.step (B1.rd 1 rfl (asSl_v _)) (Runs.ret ⟨g.updr hb u1,t,w,rfl,(V.updr (fun e=>hbi e.symm) u1).nats,hw,V.own hi,fun m=>?_⟩));rw[hm,List.take_length]
 | succ k ih =>
  intro j hj h w g ⟨cs,hcs,B⟩ C V hw hm;have hjl:j<l.length:=by omega
  have hj':j<(zs l).length:=by rw[zs_len];omega
  obtain⟨r,e1,e2⟩:=(q.grow g).int hj';have hx:(zs l)[j]=((l[j]:Nat):Int):=by simp[zs]
  rw[hx]at e2;have hxn:l[j]<n:=hl _ (List.getElem_mem hjl);have hq:l[j]/64<w.length:=by omega
  rw[k0k];rw[q.len,zs_len]at e1⊢;refine Runs.ifT (decide_eq_true (by omega)) (Runs.step e1 (Runs.step e2 (Runs.ifF (decide_eq_false (by omega)) (Runs.step e1 (Runs.step e2 (Runs.ifF (decide_eq_false (by omega)) (Runs.step (C.rd 0 rfl (kc _ _)) (Runs.step (C.rd 1 rfl (asSl_v _)) (Runs.step e1 (Runs.step e2 ?_))))))))))
  have ht:∀m,decide (m∈l.take (j+1))=(decide (m=l[j])||decide (m∈l.take j)):=fun m=>by
   rw[List.take_succ_eq_append_getElem hjl,Bool.eq_iff_iff];simp only[Bool.or_eq_true,decide_eq_true_eq,List.mem_append,List.mem_singleton];exact Or.comm
  refine(kpg V.nats hq (by omega)).call fun v h1 ⟨e,g1⟩=>?_;subst e;refine Runs.step (seen rfl) (Runs.cond (fun c1=>?_) fun c1=>?_)
  ·rw[kj (by have:=q.short;rw[zs_len]at this;omega)];refine ih (j+1) (by omega) h1 w (g.trans g1) ⟨cs,hcs,g1.has B⟩ (g1.has C) (V.grow g1) hw fun m=>?_;rw[ht,← hm];by_cases e:m=l[j]
   ·rw[e,c1];simp
   ·rw[decide_eq_false e];simp
  ·refine k49 (n:=n) (b:=b) (c:=c) q hjl (by omega) (g.trans g1) (g1.has C) (V.grow g1) hq c1 (fun h' u' V'=>?_) (l[j]%64) 0 (by omega);refine ih (j+1) (by omega) h' _ ((g.trans g1).updr hi u') ⟨cs,hcs,(g1.has B).updr hbi u'⟩ ((g1.has C).updr hci u') V' (by rw[List.length_set];exact hw) fun m=>?_;rw[kwd hq,hm,ht]
theorem krq{l:List Nat}{n:Nat}(q:Sq EI h0 S s (zs l))(hl:∀x∈l,x<n)(hn:n≤65536):Runs (go (.fn F.kcg [.int .i64 (n:Int),s.v]) h0) (OfP h0 n l):=by
 rw[kbh7];refine Runs.new fun h1 b1 g1=>Runs.ifF (decide_eq_false (by omega)) (Runs.ifF (decide_eq_false (by omega)) ?_);rw[wrap64 (n:=(n:Int)+63) (by omega) (by omega),show(n:Int)+63=((n+63:Nat):Int)from by omega,show Int.tdiv ((n+63:Nat):Int) 64=(((n+63)/64:Nat):Int)from rfl,wrap64 (by omega) (by omega)];refine Runs.mk (kd4 (by omega)) kc0 fun t h2 V g2=>?_;refine Runs.new fun h3 b3 g3=>Runs.puts b3 rfl fun h4 b4 u4=>?_;have z1:=b1.lt;have z2:=g2.size;have z3:=b3.lt;have z4:=V.inn;have g24:Grow h2 h4:=g3.updr (Nat.le_refl _) u4;have G4:Grow h0 h4:=(g1.trans g2).trans g24;exact kbi4 q hl hn (b:=h0.blks.size) (c:=h2.blks.size) (i:=h1.blks.size) (Nat.le_refl _) (by omega) (by omega) (by omega) g1.size l.length 0 (by omega) h4 _ G4 ⟨_,rfl,(g2.trans g24).has b1⟩ b4 (V.grow g24) (by simp) fun m=>by rw[kxf];simp
theorem krg{h1:AH}{n:Nat}{l:List Nat}{f:Option (AV×AH)}{b:Nat}(R:Runs f (OfP h1 n l))(G:Grow h0 h1)(hb:h0.blks.size≤b){cs:List AV}(hcs:cs.length=2)(B:h1.has b cs T.ko) :
  Runs (f.bind fun q=>(AV.asTup2 q.1).bind fun p=>(AV.asAgg p.1).bind fun cs=>cond (Nat.beq cs.length 2) (((cs[0]?).bind (AV.asInt .i64)).bind fun n=>((cs[1]?).bind AV.asSl).bind fun l=>((some p.2).bind (AV.asInt .i64)).bind fun e=>(q.2.puts (.new b 0) [.int .i64 n,l.v]).bind fun h=>((h.cell ((Ref.new b 0).add 0)).bind (AV.asInt .i64)).bind fun n=>((h.cell ((Ref.new b 0).add 1)).bind AV.asSl).bind fun l=>some (.tup [.agg [.int .i64 n,l.v],.int .i64 e],h)) none) (OfP h0 n l):=by
 refine R.call fun v h2 ⟨g2,t,w,e,N,hw,o,hm⟩=>?_;subst e;refine Runs.step rfl (Runs.step rfl (Runs.ifT rfl (Runs.step rfl (Runs.step (seenAt rfl (asSl_v _)) (Runs.step rfl ?_)))));dsimp only;have hlt:=B.lt;refine Runs.puts (g2.has B) (by rw[hcs];rfl) fun h3 b3 u3=>?_;refine Runs.step (b3.rd 0 rfl (kc _ _)) (Runs.step (b3.rd 1 rfl (asSl_v _)) (Runs.ret ⟨(G.trans g2).updr hb u3,t,w,rfl,N.updr o hlt u3,hw,o.of_le G,hm⟩))
theorem k7e{n:Nat}(hn:n≤65536){b:Nat}(hb:h0.blks.size≤b):∀(k i:Nat),i+k=n→∀(h:AH)(o:Sl)(jo:Option Nat),Grow h0 h→LeO h0.blks.size jo→h.has b [.int .i64 0,(⟨none,0,.is 0⟩:Sl).v] T.ko→(∀k,jo=some k→k≠b)→GF EI T.int h Fp.no o jo (zs (List.range i))→
  Runs (go (.pt F.kig Td.kqn [(0,.int .i64 (n:Int)),(2,.ptr (some (.new b 0))),(4,o.v),(5,.int .i64 (i:Int))]) h) (OfP h0 n (List.range n)):=by
 intro k
 induction k with
 | zero =>
  intro i hi h o jo G lj B hjb V;obtain rfl:i=n:=by omega
  rw[k0s];refine Runs.ifF (decide_eq_false (by omega)) ?_;exact krg (krq V.sq (fun x hx=>List.mem_range.1 hx) hn) G hb rfl B
 | succ k ih =>
  intro i hi h o jo G lj B hjb V;rw[k0s];refine Runs.ifT (decide_eq_true (by omega)) (Runs.ifT (decide_eq_true (by omega)) (Runs.new fun h2 b2 g2=>?_));refine Runs.step (kgv b2 (by rw[kjq];rfl)) ?_;obtain⟨o',h3,e3,V3,u3⟩:=(V.grow g2).push (T:=Fp.no) (show EI.has h2 Fp.no [.int .i64 (i:Int)] (i:Int)from rfl) NotO.no (knb (by rw[zs_len,List.length_range];omega));have hlt:=B.lt;refine Runs.step e3 (Runs.step (asSl_v _) ?_);rw[kj (by omega)];have m3:Md (Fp.opt jo) h2 h3:=u3.md fun k e=>e;refine ih (i+1) (by omega) h3 o' (some h2.blks.size) ((G.trans g2).updo lj u3) (show _≤_ from(G.trans g2).size) (m3.has (g2.has B) fun e=>hjb _ e rfl) (fun k e=>by cases e;have:=g2.size;omega) ?_;rw[List.range_succ,zs_app];exact V3.mono (fun j x=>x.1.elim id id) NotO.no
theorem kbj0{n:Nat}(hn:n≤65536):Runs (go (.fn F.kig [.int .i64 (n:Int)]) h0) (OfP h0 n (List.range n)):=by
 rw[kbfk];exact Runs.new fun h1 b1 g1=>k7e hn (Nat.le_refl _) n 0 (by omega) h1 _ none g1 trivial b1 (fun k e=>by cases e) (GF.none _ _ _ _)
variable{w1 w2:List Nat}
theorem kbgf{n:Nat}(hn:n≤65536)(N1:Nats h0 s1 w1)(N2:Nats h0 s2 w2)(h1l:n≤64*w1.length)(h2l:n≤64*w2.length){b1 b2 b:Nat}(B1:h0.has b1 [.int .i64 (n:Int),s1.v] T.ko)(B2:h0.has b2 [.int .i64 (n:Int),s2.v] T.ko)(B:h0.has b [.int .i64 0,(⟨none,0,.is 0⟩:Sl).v] T.ko){hb0:AH}(Gb:Grow hb0 h0)(hb:hb0.blks.size≤b):∀(k i:Nat),i+k=n→∀(h:AH)(o:Sl)(jo:Option Nat),Grow h0 h→LeO h0.blks.size jo→GF EI T.int h Fp.no o jo (zs ((List.range i).filter fun m=>wbit w1 m&&!wbit w2 m))→
  Runs (go (.pt F.kw Td.kx [(2,.bool false),(3,.bool true),(4,.bool false),(5,.ptr (some (.new b1 0))),(6,.ptr (some (.new b2 0))),(10,.ptr (some (.new b 0))),(14,o.v),(15,.int .i64 (i:Int))]) h) (OfP hb0 n ((List.range n).filter fun m=>wbit w1 m&&!wbit w2 m)):=by
 intro k
 induction k with
 | zero =>
  intro i hi h o jo G lj V;obtain rfl:i=n:=by omega
  rw[k2m];refine Runs.step ((G.has B1).rd 0 rfl (kc _ _)) (Runs.ifF (decide_eq_false (by omega)) (Runs.step ((G.has B1).rd 0 rfl (kc _ _)) ?_));exact krg (krq V.sq (fun x hx=>List.mem_range.1 (List.mem_filter.1 hx).1) hn) (Gb.trans G) hb rfl (G.has B)
 | succ k ih =>
  intro i hi h o jo G lj V;rw[k2m];refine Runs.step ((G.has B1).rd 0 rfl (kc _ _)) (Runs.ifT (decide_eq_true (by omega)) (Runs.step ((G.has B1).rd 0 rfl (kc _ _)) (Runs.step ((G.has B1).rd 1 rfl (asSl_v _)) ?_)));refine(kpg (N1.grow G) (i:=i) (by omega) (by omega)).call fun v h1 ⟨e,g1⟩=>?_;subst e;have G1:=G.trans g1;refine Runs.step (seen rfl) (Runs.step ((G1.has B2).rd 0 rfl (kc _ _)) (Runs.step ((G1.has B2).rd 1 rfl (asSl_v _)) ?_));refine(kpg (N2.grow G1) (i:=i) (by omega) (by omega)).call fun v h2 ⟨e,g2⟩=>?_;subst e;have G2:=G1.trans g2;refine Runs.step (seen rfl) ?_
  have hr:(List.range (i+1)).filter (fun m=>wbit w1 m&&!wbit w2 m)=(List.range i).filter (fun m=>wbit w1 m&&!wbit w2 m)++if wbit w1 i&&!wbit w2 i then [i]else []:=by
   rw[List.range_succ,List.filter_append];congr 1;simp only[List.filter_cons,List.filter_nil]
  have stay:(wbit w1 i&&!wbit w2 i)=false→Runs (go (.pt F.kw Td.kx [(2,.bool false),(3,.bool true),(4,.bool false),(5,.ptr (some (.new b1 0))),(6,.ptr (some (.new b2 0))),(10,.ptr (some (.new b 0))),(14,o.v),(15,.int .i64 (IntKind.wrap .i64 ((i:Int)+1)))]) h2) (OfP hb0 n ((List.range n).filter fun m=>wbit w1 m&&!wbit w2 m)):=fun hc=>by
   rw[kj (by omega)];refine ih (i+1) (by omega) h2 o jo G2 lj ?_;rw[hr,hc,if_neg (by simp),List.append_nil];exact V.grow (g1.trans g2)
  cases c1:wbit w1 i with
  | false =>
   cases c2:wbit w2 i<;>exact stay (by rw[c1,c2];rfl)
  | true =>
   cases c2:wbit w2 i with
   | true=>exact stay (by rw[c1,c2];rfl)
   | false =>
    refine Runs.ifT rfl (Runs.ifF rfl (Runs.ifT rfl (Runs.ifT rfl (Runs.ifT rfl (Runs.new fun h3 b3 g3=>?_)))));have G3:=G2.trans g3;refine Runs.step (kgv b3 (by rw[kjq];rfl)) ?_
    obtain⟨o',h4,e4,V4,u4⟩:=(V.grow ((g1.trans g2).trans g3)).push (T:=Fp.no) (show EI.has h3 Fp.no [.int .i64 (i:Int)] (i:Int)from rfl) NotO.no (knb (by
     rw[zs_len];have:=List.length_filter_le (fun m=>wbit w1 m&&!wbit w2 m) (List.range i);rw[List.length_range]at this;omega))
    refine Runs.step e4 (Runs.step (asSl_v _) ?_);rw[kj (by omega)];refine ih (i+1) (by omega) h4 o' (some h3.blks.size) (G3.updo lj u4) (show _≤_ from G3.size) ?_;rw[hr,c1,c2,if_pos (by rfl),zs_app];exact V4.mono (fun j x=>x.1.elim id id) NotO.no
theorem kbb9{n:Nat}(N1:Nats h0 s1 w1)(N2:Nats h0 s2 w2)(r1:btR (n:Int) w1=true)(r2:btR (n:Int) w2=true):Runs (go (.fn F.kuv [.agg [.int .i64 (n:Int),s1.v],.agg [.int .i64 (n:Int),s2.v]]) h0) (OfP h0 n ((List.range n).filter fun m=>wbit w1 m&&!wbit w2 m)):=by
 obtain⟨-,hn,l1,-⟩:=btR_n r1;obtain⟨-,-,l2,-⟩:=btR_n r2;rw[Int.toNat_natCast]at l1 l2
 have key:∀{h:AH},Grow h0 h→Runs (go (.fn F.kw [.agg [.int .i64 (n:Int),s1.v],.agg [.int .i64 (n:Int),s2.v],.bool false,.bool true,.bool false]) h) (OfP h n ((List.range n).filter fun m=>wbit w1 m&&!wbit w2 m)):=by
  intro h G0;rw[kbat];refine Runs.new fun h1 b1 g1=>Runs.new fun h2 b2 g2=>Runs.new fun h3 b3 g3=>?_;have G3:=(g1.trans g2).trans g3;have z:=b1.lt;have z2:=b2.lt;have B1:=(g2.trans g3).has b1;have B2:=g3.has b2;refine Runs.step (B1.rd 0 rfl (kc _ _)) (Runs.step (B1.rd 1 rfl (asSl_v _)) ?_);refine(kyw (N1.grow (G0.trans G3))).call fun v h4 ⟨e,g4⟩=>?_;subst e;refine Runs.step (seen rfl) (Runs.step ((g4.has B2).rd 0 rfl (kc _ _)) (Runs.step ((g4.has B2).rd 1 rfl (asSl_v _)) ?_));refine(kyw (N2.grow (G0.trans (G3.trans g4)))).call fun v h5 ⟨e,g5⟩=>?_;subst e;have g45:=g4.trans g5;refine Runs.step (seen rfl) (Runs.ifF (by rw[r1];rfl) (Runs.ifF (by rw[r2];rfl) ?_));refine Runs.step ((g45.has B1).rd 0 rfl (kc _ _)) (Runs.step ((g45.has B2).rd 0 rfl (kc _ _)) (Runs.ifF (by rw[decide_eq_true rfl];rfl) ?_));exact kbgf (by omega) (N1.grow (G0.trans (G3.trans g45))) (N2.grow (G0.trans (G3.trans g45))) (by omega) (by omega) (g45.has B1) (g45.has B2) (g45.has b3) (G3.trans g45) (by omega) n 0 (by omega) h5 _ none (Grow.refl _) trivial (GF.none _ _ _ _)
 rw[kbh4];refine Runs.new fun h1 b1 g1=>Runs.new fun h2 b2 g2=>Runs.new fun h3 b3 g3=>?_;have G3:=(g1.trans g2).trans g3;have z1:=b1.lt;have z2:=b2.lt;have B1:=(g2.trans g3).has b1;have B2:=g3.has b2;refine Runs.step (B1.rd 0 rfl (kc _ _)) (Runs.step (B1.rd 1 rfl (asSl_v _)) (Runs.step (B2.rd 0 rfl (kc _ _)) (Runs.step (B2.rd 1 rfl (asSl_v _)) ?_)));exact krg (key G3) G3 (by omega) rfl b3
theorem k9e{n:Nat}(q:TabAt h0 S s1 s2 s3 t)(hids:t.ids.length≤256){f c:Nat}(hf:f<t.cols.length)(hcl:t.cols[f].length=t.ids.length){b1 b:Nat}(B1:h0.has b1 [s1.v,s2.v,s3.v] T.kbt)(B:h0.has b [.int .i64 0,(⟨none,0,.is 0⟩:Sl).v] T.ko){hb0:AH}(Gb:Grow hb0 h0)(hb:hb0.blks.size≤b):∀(k i:Nat),i+k=t.ids.length→∀(h:AH)(o:Sl)(jo:Option Nat),Grow h0 h→LeO h0.blks.size jo→GF EI T.int h Fp.no o jo (zs ((List.range i).filter (leftP t f (c:Int))))→
  Runs (go (.pt F.kgl Td.klv [(1,.int .i64 (f:Int)),(2,.int .i64 (c:Int)),(3,.ptr (some (.new b1 0))),(6,.ptr (some (.new b 0))),(9,o.v),(10,.int .i64 (i:Int))]) h) (OfP hb0 t.ids.length (leftR t f (c:Int))):=by
 intro k
 induction k with
 | zero =>
  intro i hi h o jo G lj V;obtain rfl:i=t.ids.length:=by omega
  rw[kxj];refine Runs.step ((G.has B1).rd 0 rfl (asSl_v _)) ?_;rw[q.ids.len];refine Runs.ifF (decide_eq_false (by omega)) (Runs.step ((G.has B1).rd 0 rfl (asSl_v _)) ?_);rw[q.ids.len];exact krg (krq V.sq (fun x hx=>List.mem_range.1 (List.mem_filter.1 hx).1) (by omega)) (Gb.trans G) hb rfl (G.has B)
 | succ k ih =>
  intro i hi h o jo G lj V;have hic:i<t.cols[f].length:=by omega
  obtain⟨r2,s',e4,e5,-,q'⟩:=(q.cols.grow G).sl hf;obtain⟨r4,e8,e9⟩:=q'.int hic;rw[kxj];refine Runs.step ((G.has B1).rd 0 rfl (asSl_v _)) ?_;rw[q.ids.len];refine Runs.ifT (decide_eq_true (by omega)) (Runs.step ((G.has B1).rd 2 rfl (asSl_v _)) (Runs.step e4 (Runs.step e5 (Runs.step e8 (Runs.step e9 ?_)))))
  have hp:leftP t f (c:Int) i=decide (t.cols[f][i]≤(c:Int)):=by
   unfold leftP;simp[List.getD,hf,hic]
  have hr:(List.range (i+1)).filter (leftP t f (c:Int))=(List.range i).filter (leftP t f (c:Int))++if leftP t f (c:Int) i then [i]else []:=by
   rw[List.range_succ,List.filter_append];congr 1;simp only[List.filter_cons,List.filter_nil]
  rw[← hp];refine Runs.cond (fun c1=>?_) fun c1=>?_
  ·refine Runs.new fun h3 b3 g3=>?_;have G3:=G.trans g3;refine Runs.step (kgv b3 (by rw[kjq];rfl)) ?_
   obtain⟨o',h4,e4,V4,u4⟩:=(V.grow g3).push (T:=Fp.no) (show EI.has h3 Fp.no [.int .i64 (i:Int)] (i:Int)from rfl) NotO.no (knb (by
    rw[zs_len];have:=List.length_filter_le (leftP t f (c:Int)) (List.range i);rw[List.length_range]at this;omega))
   refine Runs.step e4 (Runs.step (asSl_v _) ?_);rw[kj (by omega)];refine ih (i+1) (by omega) h4 o' (some h3.blks.size) (G3.updo lj u4) (show _≤_ from G3.size) ?_;rw[hr,c1,if_pos rfl,zs_app];exact V4.mono (fun j x=>x.1.elim id id) NotO.no
  ·rw[kj (by omega)];refine ih (i+1) (by omega) h o jo G lj ?_;rw[hr,c1,if_neg (by simp),List.append_nil];exact V
theorem kbi8(q:TabAt h0 S s1 s2 s3 t)(hR:tabR t=true){f c:Nat}(hf:f<t.cols.length)(hc:(c:Int)<t.bins.getD f 0):Runs (go (.fn F.kgl [.agg [s1.v,s2.v,s3.v],.int .i64 (f:Int),.int .i64 (c:Int)]) h0) (OfP h0 t.ids.length (leftR t f (c:Int))):=by
 obtain⟨hids,hcols,hbins,hall⟩:=khe hR;obtain⟨hb,hb2,hb32,hcl⟩:=khw (hall f hf) hf hbins;have hgd:t.bins.getD f 0=t.bins[f]:=by simp[List.getD,hb]
 rw[hgd]at hc;rw[kbhg];refine Runs.new fun h1 b1 g1=>Runs.new fun h2 b2 g2=>?_;have G2:=g1.trans g2;have B1:=g2.has b1;have z1:=b1.lt;refine Runs.step (B1.rd 0 rfl (asSl_v _)) (Runs.step (B1.rd 1 rfl (asSl_v _)) (Runs.step (B1.rd 2 rfl (asSl_v _)) ?_));refine(k1a (q.grow G2)).call fun v h3 ⟨e,g3⟩=>?_;subst e;have G3:=G2.trans g3;obtain⟨r,e1,e2⟩:=(q.bins.grow G3).int hb;refine Runs.step (seen rfl) (Runs.ifF (by rw[hR];rfl) (Runs.ifF (decide_eq_false (by omega)) (Runs.step ((g3.has B1).rd 2 rfl (asSl_v _)) ?_)));rw[q.cols.len];refine Runs.ifF (decide_eq_false (by omega)) (Runs.ifF (decide_eq_false (by omega)) (Runs.step ((g3.has B1).rd 1 rfl (asSl_v _)) (Runs.step e1 (Runs.step e2 (Runs.ifF (decide_eq_false (by omega)) ?_)))));exact k9e (n:=0) (q.grow G3) hids hf hcl (g3.has B1) (g3.has b2) G3 (by omega) t.ids.length 0 (by omega) h3 _ none (Grow.refl _) trivial (GF.none _ _ _ _)
end
end Go.Ab

/- squeezed -/
set_option maxRecDepth 10000
namespace Go.Ab
open Go.Proofs Go.Num
section
variable{h0:AH}{S:Fp}{s1 s2 s3 s u:Sl}{t:Tb}
end
theorem kbdz{qs:List Nat}{C:List (List Nat)}{R:Nat×Nat→List Nat}{D:List (Nat×Nat)}{i:Nat}(hi:i<D.length):(sumsC qs C R D)[i]'(by unfold sumsC;rw[List.length_map];exact hi)=prodC qs C (R D[i]) [1]:=by
 have h:i<(D.map fun p=>prodC qs C (R p) [1]).length:=by rw[List.length_map];exact hi
 exact List.getElem_map (fun p=>prodC qs C (R p) [1]) (h:=h)
section
variable{h0:AH}{S Su So:Fp}{s1 s2 s3 s u ms ys zs':Sl}{t:Tb}{p q:Nat}{C:List (List Nat)}(k:KeyOk p q)(p2:p<1099511627776)(q2:q<1099511627776)(hb:badF (p:Int) (q:Int)=false)(may:kbc (digs B (p*q))=true)(lC:∀c∈C,∀x∈c,x<B)(hv:∀c∈C,kbl (digs B (p*q)) c=true)
include k p2 q2 hb may lC hv
end
end Go.Ab

/- squeezed -/
set_option maxRecDepth 10000
namespace Go.Ab
open Go.Proofs Go.Num
section
variable{p q:Nat}(k:KeyOk p q)(p2:p<1099511627776)(q2:q<1099511627776)(may:kbc (digs B (p*q))=true)
include k p2 q2 may
theorem kwl{Y:Nat}(co:Nat.Coprime Y (p*q)):kbl (digs B (p*q)) (digs B (Y%(p*q*(p*q))))=true:=by
 have h0:=kg8 k;have hNN:0<p*q*(p*q):=Nat.mul_pos h0 h0;generalize hC:Y%(p*q*(p*q))=C;have cg:Cg (p*q*(p*q)) Y C:=by rw[← hC];exact Cg.mod.symm
 have coC:Nat.Coprime C (p*q):=ktg (cg.of_dvd (Nat.dvd_mul_right _ _)) co;have ltC:C<p*q*(p*q):=by rw[← hC];exact Nat.mod_lt _ hNN
 have CB:C<B^64:=Nat.lt_trans ltC (Nat.lt_of_lt_of_le (key_sq p2 q2) (Nat.pow_le_pow_right (by decide) (by decide)))
 exact(ko8 p2 q2 (kbe B2 _)).2 ⟨may,kp CB,fun hn=>by
  have:C=0:=(kep B2).1 hn;rw[this,Nat.coprime_zero_left]at coC;have:=k.pos;omega,by rw[kg B2];exact ltC,by rw[kg B2];exact coC⟩
theorem k4c{X Y:Nat}(cx:Nat.Coprime X (p*q))(cy:Nat.Coprime Y (p*q)):lessF (digs B (p*q)) (digs B (X*Y%(p*q*(p*q)))) (digs B (X%(p*q*(p*q))))=(digs B (Y%(p*q*(p*q))),0):=by
 have h0:=kg8 k;have hNN:0<p*q*(p*q):=Nat.mul_pos h0 h0;have h1:=k.pos;have h2:2≤p*q*(p*q):=Nat.le_trans h1 (Nat.le_mul_of_pos_left _ h0);have hsq:=key_sq p2 q2;have up:∀{x:Nat},x<p*q*(p*q)→x<B^30:=fun h=>Nat.lt_trans h (Nat.lt_of_lt_of_le hsq (Nat.pow_le_pow_right (by decide) (by decide)));have up64:∀{x:Nat},x<p*q*(p*q)→x<B^64:=fun h=>Nat.lt_trans h (Nat.lt_of_lt_of_le hsq (Nat.pow_le_pow_right (by decide) (by decide)));have hN64:p*q*(p*q)<B^64:=Nat.lt_of_lt_of_le hsq (Nat.pow_le_pow_right (by decide) (by decide));unfold lessF;rw[may,kwl k p2 q2 may (Nat.Coprime.mul_left cx cy),kwl k p2 q2 may cx,kts (krw p2 q2)];simp only[Bool.not_true,Bool.false_eq_true,if_false];obtain⟨-,-,sp⟩:=kl5 (xs:=digs B (X%(p*q*(p*q)))) (ys:=digs B (p*q*(p*q))) (kbe B2 _) (kbe B2 _);have hlt:=Nat.mod_lt X hNN;have:=sp.1 ⟨kp (up64 hlt),kp hN64,by rw[kg B2];exact h2⟩;rw[kg B2,kg B2,Nat.mod_mod]at this
 have coX:Nat.Coprime (X%(p*q*(p*q))) (p*q):=by
  have cg:Cg (p*q*(p*q)) X (X%(p*q*(p*q))):=Cg.mod.symm;exact ktg (cg.of_dvd (Nat.dvd_mul_right _ _)) cx
 obtain⟨w,hw,e,hm⟩:=this.2 (Nat.Coprime.mul_left (Nat.Coprime.symm coX) (Nat.Coprime.symm coX));rw[e];rw[kyf (up (Nat.mod_lt _ hNN)) (up hw) hN64 hNN];congr 2;have cg1:Cg (p*q*(p*q)) (X*Y%(p*q*(p*q))*w) (X*Y*w):=Cg.mul Cg.mod Cg.rfl
 have cg2:Cg (p*q*(p*q)) (w*X) 1:=by
  have h3:Cg (p*q*(p*q)) (w*(X%(p*q*(p*q)))) (w*X):=Cg.mul Cg.rfl Cg.mod
  have h4:Cg (p*q*(p*q)) (w*(X%(p*q*(p*q)))) 1:=by
   show _%_=_%_;rw[hm,Nat.mod_eq_of_lt (by omega)]
  exact h3.symm.trans h4
 have cg3:Cg (p*q*(p*q)) (X*Y*w) Y:=by
  have:X*Y*w=w*X*Y:=by rw[Nat.mul_comm (X*Y) w,Nat.mul_assoc]
  rw[this];have h5:=Cg.mul cg2 (Cg.rfl (n:=p*q*(p*q)) (a:=Y));rwa[Nat.one_mul]at h5
 exact cg1.trans cg3
end
section
variable{h0:AH}{S Su Sa Sb Sc:Fp}{s1 s2 s3 s u as1 bs1 cs':Sl}{t:Tb}{p q:Nat}{C:List (List Nat)}(k:KeyOk p q)(p2:p<1099511627776)(q2:q<1099511627776)(hb:badF (p:Int) (q:Int)=false)(may:kbc (digs B (p*q))=true)(lC:∀c∈C,∀x∈c,x<B)(hv:∀c∈C,kbl (digs B (p*q)) c=true)
include k p2 q2 hb may lC hv
theorem kbcx{nn:Sl}(Nn:Nats h0 nn (digs B (p*q))){b1:Nat}(B1:h0.has b1 [.int .u64 (p:Int),.int .u64 (q:Int)] T.kgp){D:List (Nat×Nat)}(f:Nat×Nat→Nat→Bool)(g:Nat→Bool)(hD:D.length≤1000)
  (Ya:Sq Ef.nats h0 Sa as1 (sumsC (digs B (p*q*(p*q))) C (fun x=>(List.range C.length).filter (f x)) D)) (Yb:Sq Ef.nats h0 Sb bs1 (sumsC (digs B (p*q*(p*q))) C (fun x=>(List.range C.length).filter fun i=>f x i&&g i) D)) (Yc:Sq Ef.nats h0 Sc cs' (sumsC (digs B (p*q*(p*q))) C (fun x=>(List.range C.length).filter fun i=>f x i&&!g i) D)) :
  ∀(kk i:Nat),i+kk=D.length→∀h,Grow h0 h→
  Runs (go (.pt F.kdr Td.kqs [(3,.ptr (some (.new b1 0))),(8,nn.v),(19,as1.v),(20,bs1.v),(22,cs'.v),(24,.int .i64 (i:Int))]) h) fun v _=>v=.bool true:=by
 have len:∀R,(sumsC (digs B (p*q*(p*q))) C R D).length=D.length:=fun R=>by unfold sumsC;rw[List.length_map]
 have get:∀R {i:Nat}(hi:i<D.length)(hl:∀x∈R D[i],x<C.length),(sumsC (digs B (p*q*(p*q))) C R D)[i]'(by rw[len];exact hi)=digs B (prodN C (R D[i]) 1%(p*q*(p*q))):=fun R i hi hl=>by
  rw[kbdz hi,← kvc k p2 q2 lC hv,kos k p2 q2 lC hv _ hl]
 intro kk
 induction kk with
 | zero =>
  intro i hi h G;rw[k2l,Ya.len,len];exact Runs.ifF (decide_eq_false (by omega)) (Runs.ret rfl)
 | succ kk ih =>
  intro i hi h G;have hi':i<D.length:=by omega
  have hr:∀(P:Nat→Bool),∀x∈(List.range C.length).filter P,x<C.length:=fun P x hx=>List.mem_range.1 (List.mem_filter.1 hx).1;obtain⟨r1,xa,e1,e2,Na,-⟩:=(Ya.grow G).nats (i:=i) (by rw[len];exact hi');obtain⟨r2,xb,e3,e4,Nb,-⟩:=(Yb.grow G).nats (i:=i) (by rw[len];exact hi');rw[get _ hi' (hr _)]at Na Nb;have hcoB:=kop k p2 q2 lC hv _ (hr fun m=>f D[i] m&&g m) 1 (Nat.coprime_one_left _);have hcoC:=kop k p2 q2 lC hv _ (hr fun m=>f D[i] m&&!g m) 1 (Nat.coprime_one_left _);have hsplit:=kn2 (C:=C) (f D[i]) g (List.range C.length) 1 1;rw[Nat.one_mul]at hsplit;rw[k2l,Ya.len,len];rw[Ya.len,len]at e1;refine Runs.ifT (decide_eq_true (by omega)) (Runs.step e1 (Runs.step e2 (Runs.step e3 (Runs.step e4 ?_))));refine(k4y (Nn.grow G) Na Nb).call fun v h1 ⟨d,e,Nd,g1⟩=>?_;subst e;have hless:=k4c k p2 q2 may hcoB hcoC;dsimp only at hsplit hless Nd⊢;rw[hsplit]at Nd⊢;rw[hless]at Nd⊢;have G1:=G.trans g1;refine Runs.step rfl (Runs.step (seen (asSl_v _)) (Runs.step (seen (kc _ _)) ?_));dsimp only;refine Runs.step ((G1.has B1).rd 0 (f:=AV.asInt .u64) rfl (kc _ _)) (Runs.step ((G1.has B1).rd 1 (f:=AV.asInt .u64) rfl (kc _ _)) ?_);refine(kzo Nd p q).call fun v h2 ⟨x,e,Nx,g2,o2⟩=>?_;subst e;have G2:=G1.trans g2;refine Runs.step rfl (Runs.step (seen (asSl_v _)) (Runs.step (seen (kc _ _)) ?_));dsimp only;obtain⟨r3,xc,e5,e6,Nc,-⟩:=(Yc.grow G2).nats (i:=i) (by rw[len];exact hi');rw[get _ hi' (hr _)]at Nc;refine Runs.step ((G2.has B1).rd 0 (f:=AV.asInt .u64) rfl (kc _ _)) (Runs.step ((G2.has B1).rd 1 (f:=AV.asInt .u64) rfl (kc _ _)) (Runs.step e5 (Runs.step e6 ?_)));refine(kzo Nc p q).call fun v h3 ⟨y,e,Ny,g3,o3⟩=>?_;subst e;refine Runs.step rfl (Runs.step (seen (asSl_v _)) (Runs.step (seen (kc _ _)) ?_));dsimp only
  have hdec:(decF (p:Int) (q:Int) (digs B (prodN C ((List.range C.length).filter fun i_1=>f D[i] i_1&&!g i_1) 1%(p*q*(p*q))))).2=0:=by
   have:=kbbu k p2 q2 lC hv hb may (hr fun m=>f D[i] m&&!g m);rw[← kvc k p2 q2 lC hv,kos k p2 q2 lC hv _ (hr _)]at this;rw[this]
  refine Runs.step (kbcs (Nx.grow g3) Ny) (Runs.step (seen rfl) (Runs.ifF rfl (Runs.ifF (by rw[hdec];rfl) (Runs.ifF (by rw[hdec];rfl) (Runs.ifF rfl ?_)))));rw[kj (by omega)];exact ih (i+1) (by omega) _ (G2.trans g3)
end
theorem kya(f g:Nat→Bool)(l:List Nat):(l.filter g).filter f=l.filter fun i=>f i&&g i:=List.filter_filter
section
variable{h0:AH}{S Su:Fp}{s1 s2 s3 z u:Sl}{t:Tb}{C:List (List Nat)}{ns:List Nat}
theorem kbhf(M:Nats h0 z ns)(Q:Sq Ef.nats h0 Su u C){b1 b2 b3:Nat}{x:AV}(B2:h0.has b2 [x,u.v] T.kkn)(hP:∀h,Grow h0 h→(∀c∈C,kbl ns c=true)→Runs (go (.pt F.kdr Td.kl6 [(3,.ptr (some (.new b1 0))),(4,.ptr (some (.new b2 0))),(5,.ptr (some (.new b3 0))),(8,z.v),(11,.int .i64 (C.length:Int))]) h) fun v _=>v=.bool true) :
  ∀(kk i:Nat),i+kk=C.length→(∀c∈C.take i,kbl ns c=true)→∀h,Grow h0 h→
  Runs (go (.pt F.kdr Td.kl6 [(3,.ptr (some (.new b1 0))),(4,.ptr (some (.new b2 0))),(5,.ptr (some (.new b3 0))),(8,z.v),(11,.int .i64 (i:Int))]) h) fun v _=>v=.bool true:=by
 intro kk
 induction kk with
 | zero =>
  intro i hi hc h G;obtain rfl:i=C.length:=by omega
  rw[List.take_length]at hc;exact hP h G hc
 | succ kk ih =>
  intro i hi hc h G;have hi':i<C.length:=by omega
  obtain⟨r,y,e1,e2,N,-⟩:=(Q.grow G).nats hi';rw[k1p];refine Runs.step ((G.has B2).rd 1 rfl (asSl_v _)) ?_;rw[Q.len]at e1⊢;refine Runs.ifT (decide_eq_true (by omega)) (Runs.step ((G.has B2).rd 1 rfl (asSl_v _)) ?_);rw[Q.len];refine Runs.step e1 (Runs.step e2 (Runs.cond (fun _=>?_) fun _=>Runs.ret rfl));refine Runs.step ((G.has B2).rd 1 rfl (asSl_v _)) ?_;rw[Q.len];refine Runs.step e1 (Runs.step e2 ?_);refine(k5d (M.grow G) N).call fun v h1 ⟨e,g1⟩=>?_;subst e;refine Runs.step (seen rfl) (Runs.cond (fun _=>Runs.ret rfl) fun c=>?_);rw[Bool.not_eq_false']at c;rw[kj (by have:=Q.short;omega)];refine ih (i+1) (by omega) (fun x hx=>?_) h1 (G.trans g1);rw[List.take_succ_eq_append_getElem hi',List.mem_append,List.mem_singleton]at hx;rcases hx with hx | rfl
  ·exact hc x hx
  ·exact c
end
theorem k8o{p q:Nat}(k:KeyOk p q)(p1:128≤p)(p2:p<1099511627776)(q1:128≤q)(q2:q<1099511627776):kbc (digs B (p*q))=true:=by
 have odd:∀{x:Nat},IsPrime x→128≤x→x%2=1:=fun{x} h hx=>by
  rcases Nat.mod_two_eq_zero_or_one x with e | e
  ·rcases h.2 2 (Nat.dvd_of_mod_eq_zero e)with e2 | e2<;>omega
  ·exact e
 have r:rt (digs B (p*q))=true:=kp (up64 (key_lt p2 q2));have lo:2^14≤p*q:=Nat.le_trans (by decide:2^14≤128*128) (Nat.mul_le_mul p1 q1);have hi:p*q<2^80:=Nat.lt_of_lt_of_le (Nat.mul_lt_mul'' p2 q2) (by decide);have hb:bitsN (digs B (p*q))=bl (p*q):=by unfold bitsN;rw[if_pos r,kg B2]
 have h80:=bl_le hi
 have h15:15≤bl (p*q):=by
  rcases Nat.lt_or_ge (bl (p*q)) 15 with h | h
  ·have h1:=(bl_Bl (p*q)).1;have:2^bl (p*q)≤2^14:=Nat.pow_le_pow_right (by decide) (by omega);omega
  ·exact h
 have h0:bitN (digs B (p*q)) 0=true:=by
  rw[show(0:Int)=((0:Nat):Int)from rfl,klf r,kg B2,Nat.testBit_zero,decide_eq_true_eq,Nat.mul_mod,odd k.hp p1,odd k.hq q1]
 unfold kbc;rw[r,h0,hb,decide_eq_true (by omega),decide_eq_true (by omega)];rfl
theorem ku3{ns:List Nat}{t:Tb}{w:List Nat}{C:List (List Nat)}(may:kbc ns=true)(hR:tabR t=true)(hw:btR (t.ids.length:Int) w=true)(hC:C.length=t.ids.length)(hv:∀c∈C,kbl ns c=true):kds ns t (t.ids.length:Int) w C=(sumsC (kbd ns) C (rowsL t (t.ids.length:Int) w) (cutsL t),0):=by
 have hfl:faultH t (t.ids.length:Int) w (C.length:Int)=0:=by
  unfold faultH;rw[hR,hw,hC];simp
 have hodd:oddC ns C=false:=by
  unfold oddC;rw[List.any_eq_false];intro c hc;rw[hv c hc];simp
 unfold kds;rw[if_neg (by rw[may];simp),if_pos hfl,if_neg (by rw[hodd];simp)]
theorem HistSiblingsCard_law(h:AH)(T0:Tab h){x1 x2 x3:AV}(z1:ArgV Pg h T.kgp x1)(z2:ArgV Pg h T.kkn x2)(z3:ArgV Pg h T.kbt x3):∃h',go (.fn F.kdr [x1,x2,x3]) h=some (.bool true,h'):=by
 obtain⟨ka,kb,rfl⟩:∃a b:Int,x1=.agg [.int .u64 a,.int .u64 b]:=by
  unfold ArgV at z1;rw[kyj]at z1;obtain⟨cs,rfl,t⟩:=z1;obtain⟨hl,hf⟩:=t.struct kyj;rw[kbf2]at hl
  match cs,hl with
  | [x0,x1],_ =>
   simp[kj6]at hf;obtain⟨h0,h1⟩:=hf;obtain⟨a,e0,-⟩:=ArgT.int kt4 h0;obtain⟨b,e1,-⟩:=ArgT.int kt4 h1;cases e0;cases e1;exact⟨a,b,rfl⟩
 obtain⟨z,u,ms,C,rfl,-,Q⟩:=k6w z2;obtain⟨s1,s2,s3,t,rfl,q⟩:=tab_of z3
 suffices H:Runs (go (.fn F.kdr [.agg [.int .u64 ka,.int .u64 kb],.agg [z.v,u.v],.agg [s1.v,s2.v,s3.v]]) h) fun v _=>v=.bool true by
  obtain⟨_,h',e,rfl⟩:=H;exact⟨h',e⟩
 rw[kbap];refine Runs.new fun ha ba ga=>Runs.new fun h1 b1 g1=>Runs.new fun h2 b2 g2=>?_;have g02:=(ga.trans g1).trans g2;refine(kbdf (T0.grow g02)).call fun _ h3 ⟨e,g3⟩=>?_;subst e;have Ba:=((g1.trans g2).trans g3).has ba;have G3:=g02.trans g3;refine Runs.step (seen rfl) (Runs.step (Ba.rd 0 (f:=AV.asInt .u64) rfl (kc _ _)) (Runs.step (Ba.rd 1 (f:=AV.asInt .u64) rfl (kc _ _)) ?_));refine(kw1 ka kb).call fun _ h4 ⟨nn,e,Nn,g4,on⟩=>?_;subst e;refine Runs.step rfl (Runs.step (seen (asSl_v _)) (Runs.step (seen (kc _ _)) ?_));dsimp only;have g34:=g3.trans g4;have B2:=g34.has b2;refine Runs.step (B2.rd 0 rfl (asSl_v _)) (Runs.step (B2.rd 1 rfl (asSl_v _)) (Runs.step (B2.rd 2 rfl (asSl_v _)) ?_));have G4:=g02.trans g34;refine(k1a (q.grow G4)).call fun _ h5 ⟨e,g5⟩=>?_;subst e;have g35:=g34.trans g5;have G5:=g02.trans g35;have Ba:=(g4.trans g5).has Ba;have B1:=(g2.trans g35).has b1;have B2:=g5.has B2;refine Runs.step (seen rfl) (Runs.cond (fun _=>Runs.ret rfl) fun _=>Runs.cond (fun _=>Runs.ret rfl) fun c0=>Runs.cond (fun _=>Runs.ret rfl) fun hR=>Runs.step (B2.rd 2 rfl (asSl_v _)) (Runs.cond (fun _=>Runs.ret rfl) fun hcol=>?_));rw[Bool.not_eq_false']at hR;rw[q.cols.len,decide_eq_false_iff_not]at hcol;refine Runs.step (B2.rd 0 rfl (asSl_v _)) (Runs.step (B1.rd 1 rfl (asSl_v _)) (Runs.cond (fun _=>Runs.ret rfl) fun hlen=>Runs.step (B2.rd 0 rfl (asSl_v _)) (Runs.cond (fun _=>Runs.ret rfl) fun _=>?_)));rw[Bool.not_eq_false',decide_eq_true_eq,q.ids.len,Q.len]at hlen;rw[Bool.not_eq_false',decide_eq_true_eq]at c0
 have hbad:badF ka kb=false:=by
  cases hb:badF ka kb with
  | false=>rfl
  | true =>
   unfold pubF at c0;rw[hb]at c0;cases c0
 have hpub:pubF ka kb=(digs B (ka.toNat*kb.toNat),0):=by unfold pubF;rw[hbad];rfl
 rw[hpub]at Nn;obtain⟨p,q',rfl,rfl,p1,p2,p3,q1,q2,q3,ne,-,hg⟩:=kr9 hbad;rw[Int.toNat_natCast,Int.toNat_natCast]at Nn;have key:=k2x p1 p3 q1 q3 ne hg;have hCl:C.length=t.ids.length:=by omega
 obtain⟨hids,hcols,hbins,hall⟩:=khe hR;obtain⟨hb',h2',h32',-⟩:=khw (hall 0 (by omega)) (by omega) hbins;have hgd:t.bins.getD 0 0=t.bins[0]:=by simp[List.getD,hb']
 have Nn5:=Nn.grow g5
 have lC:∀c∈C,∀x∈c,x<B:=fun c hc x hx=>by
  obtain⟨i,hi,rfl⟩:=List.getElem_of_mem hc;obtain⟨-,_,-,-,Nx,-⟩:=Q.nats hi;exact Nx.lt x hx
 refine kbhf Nn5 (Q.grow G5) B1 (fun h6 g6 hv=>?_) C.length 0 (by omega) (by simp) h5 (Grow.refl _);have Ba:=g6.has Ba;have B1:=g6.has B1;have B2:=g6.has B2;have G6:=G5.trans g6;rw[k1p];refine Runs.step (B1.rd 1 rfl (asSl_v _)) ?_;rw[Q.len];refine Runs.ifF (decide_eq_false (by omega)) (Runs.step (B2.rd 0 rfl (asSl_v _)) ?_);rw[q.ids.len];refine(kbj0 (n:=t.ids.length) (by omega)).call fun _ h7 ⟨g7,y1,w1,e,N1,hw1,o1,hm1⟩=>?_;subst e;refine Runs.step rfl (Runs.step rfl (Runs.ifT rfl (Runs.step rfl (Runs.step (seenAt rfl (asSl_v _)) (Runs.step rfl ?_)))));dsimp only;refine Runs.new fun h8 b8 g8=>Runs.puts b8 rfl fun h9 b9 u9=>?_;have g79:Grow h7 h9:=g8.updr (Nat.le_refl _) u9;have g69:=g7.trans g79;have G9:=G6.trans g69;have Ba:=g69.has Ba;have B1:=g69.has B1;have B2:=g69.has B2;refine Runs.step (B2.rd 0 rfl (asSl_v _)) (Runs.step (B2.rd 1 rfl (asSl_v _)) (Runs.step (B2.rd 2 rfl (asSl_v _)) ?_));refine(kbi8 (q.grow G9) hR (f:=0) (c:=0) (by omega) (by rw[hgd];omega)).call fun _ h10 ⟨g10,y2,w2,e,N2,hw2,o2,hm2⟩=>?_;subst e;refine Runs.step rfl (Runs.step rfl (Runs.ifT rfl (Runs.step rfl (Runs.step (seenAt rfl (asSl_v _)) (Runs.step rfl ?_)))));dsimp only;refine Runs.new fun h11 b11 g11=>Runs.puts b11 rfl fun h12 b12 u12=>?_;have g1012:Grow h10 h12:=g11.updr (Nat.le_refl _) u12;have g912:=g10.trans g1012;have B9:=g912.has b9;refine Runs.step (B9.rd 0 rfl (kc _ _)) (Runs.step (B9.rd 1 rfl (asSl_v _)) (Runs.step (b12.rd 0 rfl (kc _ _)) (Runs.step (b12.rd 1 rfl (asSl_v _)) ?_)))
 have hleft:∀x∈leftR t 0 ((0:Nat):Int),x<t.ids.length:=fun x hx=>by
  unfold leftR at hx;exact List.mem_range.1 (List.mem_filter.1 hx).1
 obtain⟨r1,l1⟩:=ofP_bt (by omega) (fun x hx=>List.mem_range.1 hx) hw1 hm1;obtain⟨r2,l2⟩:=ofP_bt (by omega) hleft hw2 hm2;refine(kbb9 ((N1.grow g79).grow g912) (N2.grow g1012) r1 r2).call fun _ h13 ⟨g13,y3,w3,e,N3,hw3,o3,hm3⟩=>?_;subst e;refine Runs.step rfl (Runs.step rfl (Runs.ifT rfl (Runs.step rfl (Runs.step (seenAt rfl (asSl_v _)) (Runs.step rfl ?_)))));dsimp only;refine Runs.new fun h14 b14 g14=>Runs.puts b14 rfl fun h15 b15 u15=>?_;have g1315:Grow h13 h15:=g14.updr (Nat.le_refl _) u15;have g1215:=g13.trans g1315;have g915:=g912.trans g1215;have G15:=G9.trans g915;obtain⟨r3,l3⟩:=ofP_bt (by omega) (fun x hx=>List.mem_range.1 (List.mem_filter.1 hx).1) hw3 hm3;have Ba:=g915.has Ba;have B1:=g915.has B1;have B2:=g915.has B2;have B9:=g1215.has B9;have B12:=g1215.has b12;have Nn15:=Nn5.grow (g6.trans (g69.trans g915));have may:=k8o key p1 p2 q1 q2;refine Runs.step (B2.rd 0 rfl (asSl_v _)) (Runs.step (B2.rd 1 rfl (asSl_v _)) (Runs.step (B2.rd 2 rfl (asSl_v _)) (Runs.step (B9.rd 0 rfl (kc _ _)) (Runs.step (B9.rd 1 rfl (asSl_v _)) (Runs.step (B1.rd 1 rfl (asSl_v _)) ?_)))));have N1':=((N1.grow g79).grow g912).grow g1215;have N2':=(N2.grow g1012).grow g1215;have N3':=N3.grow g1315;refine(kux (T0.grow G15) Nn15 (q.grow G15) N1' (Q.grow G15)).call fun _ h16 ⟨g16,Sa,ya,ja,e,hSa,la,Va⟩=>?_;subst e;have G16:=G15.trans g16;have B1:=g16.has B1;have B2:=g16.has B2;have B12:=g16.has B12;refine Runs.step rfl (Runs.step (seen (asSl_v _)) (Runs.step (seen (kc _ _)) ?_));refine Runs.step (B2.rd 0 rfl (asSl_v _)) (Runs.step (B2.rd 1 rfl (asSl_v _)) (Runs.step (B2.rd 2 rfl (asSl_v _)) (Runs.step (B12.rd 0 rfl (kc _ _)) (Runs.step (B12.rd 1 rfl (asSl_v _)) (Runs.step (B1.rd 1 rfl (asSl_v _)) ?_)))));refine(kux (T0.grow G16) (Nn15.grow g16) (q.grow G16) (N2'.grow g16) (Q.grow G16)).call fun _ h17 ⟨g17,Sb,yb,jb,e,hSb,lb,Vb⟩=>?_;subst e;have G17:=G16.trans g17;have B1:=g17.has B1;have B2:=g17.has B2;have B15:=(g16.trans g17).has b15;refine Runs.step rfl (Runs.step (seen (asSl_v _)) (Runs.step (seen (kc _ _)) ?_));refine Runs.step (B2.rd 0 rfl (asSl_v _)) (Runs.step (B2.rd 1 rfl (asSl_v _)) (Runs.step (B2.rd 2 rfl (asSl_v _)) (Runs.step (B15.rd 0 rfl (kc _ _)) (Runs.step (B15.rd 1 rfl (asSl_v _)) (Runs.step (B1.rd 1 rfl (asSl_v _)) ?_)))));refine(kux (T0.grow G17) (Nn15.grow (g16.trans g17)) (q.grow G17) (N3'.grow (g16.trans g17)) (Q.grow G17)).call fun _ h18 ⟨g18,Sc,yc,jc,e,hSc,lc,Vc⟩=>?_;subst e;refine Runs.step rfl (Runs.step (seen (asSl_v _)) (Runs.step (seen (kc _ _)) ?_));dsimp only;have cA:=ku3 may hR r1 hCl hv;have cB:=ku3 may hR r2 hCl hv;have cC:=ku3 may hR r3 hCl hv;rw[kts (krw p2 q2)]at cA cB cC
 have mem2:∀i,i∈List.range t.ids.length→decide (i∈leftR t 0 ((0:Nat):Int))=leftP t 0 ((0:Nat):Int) i:=fun i hi=>by
  unfold leftR;rw[Bool.eq_iff_iff,decide_eq_true_eq,List.mem_filter];exact⟨fun h=>h.2,fun h=>⟨hi,h⟩⟩
 have eA:rowsL t (t.ids.length:Int) w1=fun x=>(List.range C.length).filter (leftP t x.1 (x.2:Int)):=by
  funext x;rw[kru r1,l1,hCl];congr 1;rw[List.filter_eq_self];intro i hi;exact decide_eq_true hi
 have eB:rowsL t (t.ids.length:Int) w2=fun x=>(List.range C.length).filter fun i=>leftP t x.1 (x.2:Int) i&&leftP t 0 ((0:Nat):Int) i:=by
  funext x;rw[kru r2,l2,hCl,kya];apply List.filter_congr;intro i hi;rw[mem2 i hi]
 have eC:rowsL t (t.ids.length:Int) w3=fun x=>(List.range C.length).filter fun i=>leftP t x.1 (x.2:Int) i&&!leftP t 0 ((0:Nat):Int) i:=by
  funext x;rw[kru r3,l3,hCl,kya];apply List.filter_congr;intro i hi;congr 1;have h1:wbit w1 i=true:=by rw[hm1];exact decide_eq_true hi
  have h2:wbit w2 i=leftP t 0 ((0:Nat):Int) i:=by rw[hm2];exact mem2 i hi
  rw[Bool.eq_iff_iff,decide_eq_true_eq,List.mem_filter,h1,h2,Bool.true_and];exact⟨fun h=>h.2,fun h=>⟨hi,h⟩⟩
 rw[eA]at cA;rw[eB]at cB;rw[eC]at cC;rw[cA]at Va⊢;rw[cB]at Vb⊢;rw[cC]at Vc⊢;have lenS:∀R,(sumsC (digs B (p*q'*(p*q'))) C R (cutsL t)).length=(cutsL t).length:=fun R=>by unfold sumsC;rw[List.length_map]
 have ga':ya.len=(cutsL t).length:=by rw[Va.len];exact lenS _
 have gb':yb.len=(cutsL t).length:=by rw[Vb.len];exact lenS _
 have gc':yc.len=(cutsL t).length:=by rw[Vc.len];exact lenS _
 refine Runs.ifF rfl (Runs.ifF rfl (Runs.ifF rfl (Runs.ifF (by rw[ga',gb',decide_eq_true rfl];rfl) (Runs.ifF (by rw[ga',gc',decide_eq_true rfl];rfl) ?_))))
 have hDl:(cutsL t).length≤1000:=by
  unfold cutsL;rw[if_pos hR]
  have:=kup t t.cols.length fun i hi=>by
   obtain⟨hb',h2',h32',-⟩:=khw (hall i hi) hi hbins;have:t.bins.getD i 0=t.bins[i]:=by simp[List.getD,hb']
   unfold nb;rw[this];omega
  omega
 have g1618:=(g16.trans g17).trans g18;exact kbcx key p2 q2 hbad may lC hv (Nn15.grow g1618) (g1618.has Ba) (fun x=>leftP t x.1 (x.2:Int)) (leftP t 0 ((0:Nat):Int)) hDl ((Va.grow g17).grow g18).sq (Vb.grow g18).sq Vc.sq (cutsL t).length 0 (by omega) h18 (Grow.refl _)
end Go.Ab
