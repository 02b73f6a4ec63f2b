/- Words and laws that the last text joins. -/
import Derived.Test.YtgldlogiggpbgaaGreatDoorPH2
import Derived.Test.YtgldlogiggpbgaaGreatDoorPP8
set_option linter.unusedVariables false
set_option linter.unusedSimpArgs false
set_option linter.unusedSectionVars false
set_option maxRecDepth 10000
namespace Go.Ab
open Go.Proofs Go.Num
@[reducible] def noS:Sl:=⟨none,0,.is 0⟩
abbrev Ans:=List Ms×Int×Pt
theorem Rc.ne2{C:Nat->Nat}{a b k j:Nat}(y:a<=j)(hk:k≠2):Rc C a b k j≠2:=by
 unfold Rc;rw[if_neg (by omega)];split
 ·exact hk
 ·decide
def PtTo2(h:AH)(C:Nat->Nat)(bp:Nat)(q:Int×Int×Int)(t:Tb)(h':AH)(p:Pt):Prop:=∃y z,PtIn h' y bp q z t p/\Md (λj=>C j≠0) h h'/\(∀j,j<h.blks.size->y j=C j)/\∀j,h.blks.size<=j->y j≠2
theorem PtTo2.grow{h h':AH}{C:Nat->Nat}{bp:Nat}{q:Int×Int×Int}{L:PtL}{t:Tb}{p:Pt}(P:PtIn h C bp q L t p)(g:Grow h h'):PtTo2 h C bp q t h' p:=⟨C,L,P.grow g,g.md _,λ_ _=>rfl,λj y e=>by have:=P.lt j (by rw[e];decide);omega⟩
def Did(h:AH)(C:Nat->Nat)(bp:Nat)(q:Int×Int×Int)(t:Tb)(r:Ans)(v:AV)(h':AH):Prop:=(∃s:Sl,v=.tup [s.v,.i r.2.1]/\Sq Ef.msg h' (Fp.from h.blks.size) s r.1)/\PtTo2 h C bp q t h' r.2.2
open Classical in
noncomputable def setupF(t:Tb)(p:Pt)(m:Ms):Ans :=
 if m.a≠(t.ids.length:Int)then([],20,p)else if m.b<1\/m.b>16\/kbj (m.nats.getD 0 [])=false then([],1,p)
 else([⟨2,(t.ids.length:Int),(t.cols.length:Int),0,[],[],[]⟩],0,{p with key:=m.nats.getD 0 [],trees:=m.b})
open Classical in
noncomputable def gradsF(t:Tb)(p:Pt)(m:Ms):Ans :=
 if m.a≠p.tree+1\/m.a>=p.trees then([],18,p)else if m.nats.length≠t.ids.length then([],1,p)else if oddC p.key m.nats=true then([],11,p)
 else([],0,{p with tree:=m.a,hidden:=m.nats})
theorem kun{h:AH}{S:Fp}{i:Nat}{m:Ms}{e:TypeId}{s5 s6 s7:Sl}(b:h.has i (m.cells s5 s6 s7) e)(z:S i)(n:MsAt h S s5 s6 s7 m):Sq Ef.msg h S ⟨some (.new i 0),1,.is 1⟩ [m]:=(Sq.lit (E:=Ef.msg) (S:=S) (n:=1) (xs:=[m]) (rows:=[m.cells s5 s6 s7]) (by simpa using b) (.cons ⟨s5,s6,s7,rfl,n⟩ .nil) rfl).mono λj x=>x.elim (λy=>by rw[show j=i from y];exact z) id
section
variable{h:AH}{C:Nat->Nat}{bp:Nat}{q:Int×Int×Int}{L:PtL}{t:Tb}{p:Pt}{Sm:Fp}{m:Ms}{s5 s6 s7:Sl}
theorem kbh0(P:PtIn h C bp q L t p)(M:MsAt h Sm s5 s6 s7 m)(hm:m.nats.length=1)(hl:∀x∈m.nats,x.length<=4):Runs (go (.fn khy [.p (.new bp 0),.agg (m.cells s5 s6 s7)]) h) (Did h C bp q t (setupF t p m)):=by
 rw[kbl6];refine qz λh1 b1 F=>?_;have W:=P.grow F
 have z:∀{h2:AH}(e:Int),setupF t p m=([],e,p)->Grow h h2->Runs (some (AV.tup [noS.v,.i e],h2)) (Did h C bp q t (setupF t p m)):=λe he g=>by rw[he];exact qx ⟨⟨_,rfl,qbn _ _ _⟩,PtTo2.grow P g⟩
 have Z:m.nats.getD 0 []=m.nats[0]:=by rw[List.getD_eq_getElem?_getD,qb6 (by omega)];rfl
 unfold setupF at z|-;have B1:=W.box;refine qy rfl (qy (show(h1.cell (((Ref.new bp 0).add 2).add 0)).bind AV.asSl=some L.s1 from B1.rd 2 rfl qcq) (qct b1 1 rfl ?_));rw[W.tab.ids.len];refine qbc (λk=>z 20 (if_pos (by rw[qcl,qbx]at k;exact k)) F) λk1=>?_;rw[qcm,qby]at k1;have r1:¬m.a≠(t.ids.length:Int):=λx=>x k1;refine qct b1 2 rfl (qbc (λk=>z 1 (by rw[if_neg r1,if_pos (.inl (qb1 k))]) F) λk2=>?_);refine qct b1 2 rfl (qbc (λk=>z 1 (by rw[if_neg r1,if_pos (.inr (.inl (qb1 k)))]) F) λk3=>?_);rw[qbx]at k2 k3;obtain⟨r,sk,e1,e2,N,-⟩:=(M.grow F).nats.nats (i:=0) (by omega);have e1:idx s7.ref s7.len 0 1=some r:=e1;refine qcs b1 6 rfl (qy e1 (qy e2 ?_));refine(kvh N).call λv h2 ⟨e,I⟩=>?_;subst e;have Q:=F.trans I;refine qy (seen rfl) (qbc (λk=>z 1 (by rw[qcl]at k;rw[if_neg r1,if_pos (.inr (.inr (by rw[Z];exact k)))]) Q) λk4=>?_);rw[qcm]at k4;rw[if_neg r1,if_neg (by rw[Z,k4];rintro (x | x | x);exact k2 x;exact k3 x;cases x),Z];have b2:=I.has b1;obtain⟨r',ab,e3,e4,N2,-⟩:=(M.grow Q).nats.nats (i:=0) (by omega);have e3:idx s7.ref s7.len 0 1=some r':=e3;refine qcs b2 6 rfl (qy e3 (qy e4 (qct b2 2 rfl ?_)));have ac:m.nats[0].length<=4:=hl _ (qb5 _);obtain⟨s',h3,e5,N3,G,o3⟩:=khs N2 (by omega);have G3:=Q.trans G;refine qy e5 (qy (seen qcq) (qbd (G.same b2 2 1) (qy rfl ?_)));have B3:=G.has (I.has B1);refine qbl B3 (cs':=({L with ks:=s'}:PtL).box p) (by simp[PtL.box]) rfl λh4 B4 H=>?_;have aa:h.blks.size≠bp:=by have:=P.box.lt;omega
 have b4:=(G.has b2).updr aa H;refine qbd (kd8 (G.has b2) b4 2 1) (qy rfl ?_);refine qbl B4 (cs':=({L with ks:=s'}:PtL).box {p with key:=m.nats[0],trees:=m.b}) (by simp[PtL.box]) rfl λh5 B5 U=>?_;refine qy rfl (qy (show(h5.cell (((Ref.new bp 0).add 2).add 2)).bind AV.asSl=some L.s3 from B5.rd 4 rfl qcq) ?_);refine qz λh6 b6 V=>qx ⟨⟨_,rfl,kun (m:=⟨2,(t.ids.length:Int),(t.cols.length:Int),0,[],[],[]⟩) (s5:=noS) (s6:=noS) (s7:=noS) (by rw[<- W.tab.cols.len];exact b6) (show h.blks.size<=h5.blks.size from qbs G3.size (qbs H.size U.size)) ⟨qbn _ _ _,qbn _ _ _,qbn _ _ _⟩⟩,?_⟩;have mb:Md (λj=>j=bp) h h6:=(G3.thenM ((H.md (T:=λj=>j=bp) rfl).trans (U.md (T:=λj=>j=bp) rfl))).thenG V;obtain⟨a1,a2,a3,a4,a5,a6,a7,a8,a9,a10,a11⟩:=P.parts (K:=λc=>c=1\/c=5) (k:=5) (.inr rfl) (by intro c e;omega) (mb.mono λj _ x=>.inl (by rw[x];exact P.cbp))
 have N6:Nats h6 s' m.nats[0]:=by have d:∀j,j=bp->Av s' j m.nats[0]:=λj e=>qbi o3 (by have:=(F.trans I).has P.box;rw[e];exact this.lt);exact((N3.md (H.md (T:=λj=>j=bp) rfl) d).md (U.md (T:=λj=>j=bp) rfl) d).grow V
 have z6:h3.blks.size<=h6.blks.size:=qbs H.size (qbs U.size V.size);refine⟨_,{L with ks:=s'},{lt:=a1,cbp:=a2,box:=V.has B5,ses:=a4 (by decide),mask:=a5 (by decide),tape:=a6 (by decide),key:=N6,keyAv:=λj x=>?_,hid:=a8 (by decide),nodes:=a9 (by decide),tab:=a10 (by decide),pq:=P.pq,right:=P.right,live:=P.live,low:=⟨P.low.1,P.low.2.1,by show m.b<=16;omega⟩},mb.mono λj _ x=>by rw[x,P.cbp];decide,λj x=>Rc.old x,λj hj=>Rc.ne2 hj (by decide)⟩;have hj:=own_av o3 x;have hz:=Q.size;refine Rc.new (by omega) ?_;exact Classical.byContradiction λy=>x (qbh N6 (by omega))
end
theorem Upd.sameB{h h':AH}{i j o:Nat}(u:Upd h h' i)(y:j≠i)(z:j<h.blks.size):SameAt h h' (.new j o) 0:=⟨λk hk=>absurd hk (Nat.not_lt_zero _),λ_=>u.blk j y z⟩
def HidG(hb h:AH)(C:Nat->Nat)(hs:Sl)(xs:List (List Nat)):Prop:=∃(S:Fp)(j:Option Nat),(∀x,S x->C x=6)/\(∀x,j=some x->C x=6/\hb.blks.size<=x)/\GF Ef.nats kj h S hs j xs
section
variable{C:Nat->Nat}{bp:Nat}{q:Int×Int×Int}{L:PtL}{t:Tb}{p:Pt}{Sm:Fp}{m:Ms}{s5 s6 s7:Sl}
theorem kbca{h:AH}{b9:Nat}{e:TypeId}{S:Fp}{u:Sl}{X:List (List Nat)}(P:PtIn h C bp q L t p)(U:h.has b9 [.p (.new bp 0)] e)(Q:Sq Ef.nats h S u X):Runs (go (.fn kcx [u.v,.func (.func keh) [] [.p (.new b9 0)]]) h) λv h'=>v=.bool (oddC p.key X)/\Grow h h':=by
 rw[kbqw];refine qbq (xs:=X) ?_;rw[kbgu,Q.len];refine kf4 (n:=X.length) (G:=λz h=>go (.pt kbi kb7 [(0,u.v),(1,.func (.func keh) [] [.p (.new b9 0)]),(7,.i (X.length:Int)),(8,.i z)]) h) (λi h P' K y H I=>?_) (λh g=>?_) X.length 0 (by omega) (qk h) (λj hj=>by omega)
 ·obtain⟨r,s',V,W,Z,-⟩:=(Q.grow y).nats K;rw[qb6 K]at H I;simp only[Option.any_some]at H I;show Runs (go _ _) _;rw[k5k];refine qba (qbz (by omega)) (qy V (qy W ?_))
  have key:Runs (go (.fn keh [s'.v,.p (.new b9 0)]) h) λv h'=>v=.bool (!kbs p.key X[i])/\Grow h h':=by rw[kbcf];refine qy rfl (qy ((y.has U).rd0 rfl rfl) (qy rfl (qcs (y.has P.box) 6 rfl ?_)));refine(ktc (P.key.grow y) Z).call λv h1 ⟨e,F⟩=>?_;subst e;exact qy (seen rfl) (qx ⟨rfl,F⟩)
  refine key.call λv h1 ⟨e,F⟩=>?_;subst e;refine qy (seen rfl) ?_;rw[ki (by have:=Q.short;omega)];exact qbc (λc=>qx (H h1 (y.trans F) c)) λc=>I _ (y.trans F) c
 ·rw[k5k,condF (qb0 (by omega))]
theorem k7t{hb:AH}{b9:Nat}{e:TypeId}{u:Sl}{X:List (List Nat)}{Cb:Nat->Nat}(Q:Sq Ef.nats hb Sm u X)(ag:¬Sm bp)(B9:hb.has b9 [.p (.new bp 0)] e)(h9:b9≠bp)(hX:X.length<=256)(hl:∀x∈X,x.length<=4)(p0:Pt):∀(d c:Nat),c+d=X.length->∀{h:AH}{C:Nat->Nat}{L:PtL}{p:Pt},Md (λj=>j=bp) hb h->PtIn h C bp q L t p->(∀j,j<hb.blks.size->C j=Cb j)->(∀j,hb.blks.size<=j->C j≠2)->HidG hb h C L.hs p.hidden->p={p0 with hidden:=X.take c}->
  Runs (go (.pt kep kqa [(2,.p (.new b9 0)),(55,u.v),(56,.i (X.length:Int)),(57,.i (c:Int))]) h) λv h'=>v=.tup [noS.v,.i 0]/\Md (λj=>j=bp) hb h'/\∃C' L',PtIn h' C' bp q L' t {p0 with hidden:=X}/\(∀j,j<hb.blks.size->C' j=Cb j)/\∀j,hb.blks.size<=j->C' j≠2:=by
 intro d
 induction d with
 | zero =>
  intro c hc h C L p MD P hC W H hp;obtain rfl:c=X.length:=by omega
  rw[List.take_length]at hp;subst hp;rw[kyy];exact qbb (qb0 (by omega)) (qx ⟨rfl,MD,C,L,P,hC,W⟩)
 | succ d ih =>
  intro c hc h C L p MD P hC W H ad;have hp:p.hidden.length=c:=by rw[ad];show(X.take c).length=c;rw[qci];omega
  have Z:c<X.length:=by omega
  obtain⟨S,jh,hS,F,V⟩:=H;have Q':=Q.md MD λx hx y=>ag (y▸hx);have G:=MD.has B9 h9;obtain⟨r,s0,e1,e2,N,-⟩:=Q'.nats Z;rw[kyy];refine qba (qbz (by omega)) (qy e1 (qy e2 (qy (G.rd0 rfl rfl) (qy (G.rd0 rfl rfl) (qy rfl (qy (P.box.rd 9 rfl qcq) ?_))))));have aj:=hl _ (qb5 Z);obtain⟨s',h1,e3,N1,g1,o1⟩:=khs N (by omega);refine qy e3 (qy (seen qcq) (qbd (g1.same P.box 9 1) (qbd (g1.same G 0 1) (qbd (g1.same G 0 1) ?_))));have I:=g1.has P.box;have aa:=g1.has G;refine qz λh2 b2 g2=>qbd (g2.same I 9 1) (qbd (g2.same aa 0 1) (qbd (g2.same aa 0 1) ?_));refine qy (kdk b2 (by rw[kj4];rfl)) ?_;have ab:=g1.trans g2
  have no:NotO (λj=>¬Av s' j X[c]) jh:=by
   cases jh with
   | none=>trivial
   | some a =>intro hm;have:=own_av o1 hm;have:a<h.blks.size:=V.lt;omega
  obtain⟨s2,h3,e4,V3,u3⟩:=(V.grow ab).push (T:=λj=>¬Av s' j X[c]) (cs:=[s'.v]) (x:=X[c]) ⟨s',rfl,N1.grow g2,λj F=>F⟩ no (knx (by omega));refine qy e4 (qy qcq ?_);have m3:Md (Fp.opt jh) h2 h3:=u3.md λk e=>e;have ac:∀k,jh=some k->k≠bp/\hb.blks.size<=k:=λk e=>⟨λe2=>by have:=(F k e).1;rw[e2,P.cbp]at this;exact absurd this (by decide),(F k e).2⟩;have ae:=g2.has aa;have ah:=m3.has ae (λe=>by have:=(ac _ e).2;have:=B9.lt;omega);refine qbd (kd8 ae ah 0 1) (qy rfl ?_);have af:=m3.has (g2.has I) (λe=>(ac _ e).1 rfl);refine qbl af (cs':=({L with hs:=s2}:PtL).box {p with hidden:=p.hidden++[X[c]]}) (by simp[PtL.box]) rfl λU b4 u4=>?_;rw[ki (by omega)];have z0:=MD.size;have z1:h.blks.size<=h1.blks.size:=g1.size;have z2:h1.blks.size<h2.blks.size:=b2.lt;have z3:h2.blks.size<h3.blks.size:=by have:=V3.lt;exact this
  have z4:h3.blks.size<=U.blks.size:=u4.size;have ai:Md (λj=>C j=1\/C j=6) h U:=((ab.md _).next (m3.mono λj _ x=>.inr (F j x).1) λj F x=>x).trans ((u4.md (T:=λj=>j=bp) rfl).mono λj _ x=>.inl (by rw[x];exact P.cbp));obtain⟨a1,a2,a3,a4,a5,a6,a7,a8,a9,a10,a11⟩:=P.parts (K:=λc=>c=1\/c=6) (k:=6) (.inr rfl) (by intro c e;omega) ai
  have V4:GF Ef.nats kj U (λj=>(Fp.or S λj=>¬Av s' j X[c]) j/\j<h2.blks.size) s2 (some h2.blks.size) (p.hidden++[X[c]]):=by
   have zb:=P.box.lt;refine V3.upd u4 (λhh=>?_) λk e=>by cases e;omega
   rcases hh.1 with y | y
   ·have:=hS _ y;rw[P.cbp]at this;exact absurd this (by decide)
   ·have:=own_av o1 y;omega
  have c6:∀j,(Fp.or S λj=>¬Av s' j X[c]) j->j<h2.blks.size->Rc C h.blks.size U.blks.size 6 j=6:=λj y z=>by
   rcases y with y | y
   ·exact a11 6 j (by decide) (hS j y)
   ·exact Rc.new (own_av o1 y) (by omega)
  have hH:Sq Ef.nats U (col (Rc C h.blks.size U.blks.size 6) 6) s2 (p.hidden++[X[c]]):=V4.sq.mono λj y=>by
   rcases y with y | y
   ·cases y;exact Rc.new (by omega) (by omega)
   ·exact c6 j y.1 y.2
  have P4:PtIn U (Rc C h.blks.size U.blks.size 6) bp q {L with hs:=s2} t {p with hidden:=p.hidden++[X[c]]}:={lt:=a1,cbp:=a2,box:=b4,ses:=a4 (by decide),mask:=a5 (by decide),tape:=a6 (by decide),key:=(a7 (by decide)).1,keyAv:=(a7 (by decide)).2,hid:=hH,nodes:=a9 (by decide),tab:=a10 (by decide),pq:=P.pq,right:=P.right,live:=P.live,low:=P.low}
  refine ih (c+1) (by omega) ?_ P4 (λj F=>by rw[Rc.old (by omega)];exact hC j F) (λj F=>by
   rcases Nat.lt_or_ge j h.blks.size with x | x
   ·rw[Rc.old x];exact W j F
   ·exact Rc.ne2 x (by decide)) ⟨_,some h2.blks.size,λj y=>c6 j y.1 y.2,λx e=>by cases e;exact⟨Rc.new (by omega) (by omega),by omega⟩,V4⟩ (by rw[ad,qck Z])
  refine((MD.thenG ab).next m3 λj F x=>absurd (ac _ x).2 (by omega)).trans (u4.md rfl)
theorem k60{h:AH}(P:PtIn h C bp q L t p)(M:MsAt h Sm s5 s6 s7 m)(U:∀j,Sm j->C j=0)(hl:∀x∈m.nats,x.length<=4):Runs (go (.fn kep [.p (.new bp 0),.agg (m.cells s5 s6 s7)]) h) (Did h C bp q t (gradsF t p m)):=by
 rw[kbpm];refine qz λh0 b0 g0=>qz λh1 b1 g1=>?_;have Q:=g0.trans g1;have P1:=P.grow Q
 have z:∀{h2:AH}(e:Int),gradsF t p m=([],e,p)->Grow h h2->Runs (some (AV.tup [noS.v,.i e],h2)) (Did h C bp q t (gradsF t p m)):=λe he g=>by rw[he];exact qx ⟨⟨_,rfl,qbn _ _ _⟩,PtTo2.grow P g⟩
 unfold gradsF at z|-;have B1:=P1.box;have B0:=g1.has b0;have hb:=P.box.lt;have lw:=P.low;have hw:IntKind.wrap .i64 (p.tree+1)=p.tree+1:=wrap64 (by omega) (by omega);refine qct b1 1 rfl (qy (B0.rd0 rfl rfl) (qy rfl (qct B1 8 rfl (qbc (λk=>z 18 (if_pos (.inl (by rw[qcl,qbx,hw]at k;exact k))) Q) λk1=>?_))));refine qct b1 1 rfl (qy (B0.rd0 rfl rfl) (qy rfl (qct B1 7 rfl (qbc (λk=>z 18 (if_pos (.inr (qb1 k))) Q) λk2=>?_))));rw[qcm,qby,hw]at k1;rw[qbx]at k2;have r1:¬(m.a≠p.tree+1\/m.a>=p.trees):=λx=>x.elim (λy=>y k1) k2;have M1:=M.grow Q;refine qcs b1 6 rfl (qy (B0.rd0 rfl rfl) (qy rfl (qy (show(h1.cell (((Ref.new bp 0).add 2).add 0)).bind AV.asSl=some L.s1 from B1.rd 2 rfl qcq) ?_)));rw[M1.nats.len,P1.tab.ids.len];refine qbc (λk=>z 1 (by rw[qcl,qbx]at k;rw[if_neg r1,if_pos (by omega)]) Q) λk3=>?_;rw[qcm,qby]at k3;have r2:¬m.nats.length≠t.ids.length:=by omega
 refine qcs b1 6 rfl ?_;refine(kbca P1 B0 M1.nats).call λv h2 ⟨e,V⟩=>?_;subst e;have G2:=Q.trans V;refine qy (seen rfl) (qbc (λk=>z 11 (by rw[if_neg r1,if_neg r2,if_pos k]) G2) λk4=>?_);rw[if_neg r1,if_neg r2,if_neg (by rw[k4];simp)];refine Runs.newMap λh3 M3 g3=>?_;have z0:h.blks.size<h0.blks.size:=b0.lt;have z1:h0.blks.size<h1.blks.size:=b1.lt;have z2:h1.blks.size<=h2.blks.size:=V.size;have z3:h2.blks.size<h3.blks.size:=M3.lt;have F:=g3.has (V.has B0);have ab:=g3.has (V.has B1);have b13:=g3.has (V.has b1);refine qy (F.rd0 rfl rfl) (qy (F.rd0 rfl rfl) (qy (F.rd0 rfl rfl) (qct b13 1 rfl (qy rfl ?_))));refine qbl ab (cs':=L.box {p with tree:=m.a}) (by simp[PtL.box]) rfl λh4 B4 W=>?_;have G:=F.updr (show h.blks.size≠bp by omega) W;have ac:=b13.updr (show h0.blks.size≠bp by omega) W;have z4:=W.size;refine qbd (kd8 F G 0 1) (qbd (kd8 F G 0 1) (qbd (W.sameB (j:=h2.blks.size) (by omega) z3) (qy rfl ?_)));refine qbl B4 (cs':=({L with hs:=noS}:PtL).box {p with tree:=m.a}) (by simp[PtL.box]) rfl λh5 B5 Z=>?_;have aa:=G.updr (show h.blks.size≠bp by omega) Z;have ad:=ac.updr (show h0.blks.size≠bp by omega) Z;have z5:=Z.size;refine qbd (kd8 G aa 0 1) (qbd (Z.sameB (j:=h2.blks.size) (by omega) (by omega)) (qy rfl ?_));refine qbl B5 (cs':=({L with hs:=noS,nm:=some h2.blks.size}:PtL).box {p with tree:=m.a,hidden:=[]}) (by simp[PtL.box]) rfl λH B6 u6=>?_;have ae:=ad.updr (show h0.blks.size≠bp by omega) u6;have af:=aa.updr (show h.blks.size≠bp by omega) u6;have z6:=u6.size;have mu:Md (λj=>j=bp) h3 H:=((W.md (T:=λj=>j=bp) rfl).trans (Z.md rfl)).trans (u6.md rfl);have I:Md (λj=>j=bp) h H:=((G2.trans g3).thenM mu);refine qcs ae 6 rfl ?_;have M6:=M.nats.md I λj x y=>by have:=U j x;rw[y,P.cbp]at this;exact absurd this (by decide)
 obtain⟨a1,a2,a3,a4,a5,a6,a7,a8,a9,a10,a11⟩:=P.parts (K:=λc=>c=1\/c=6\/c=7) (k:=7) (.inr (.inr rfl)) (by intro c e;omega) (I.mono λj _ x=>.inl (by rw[x];exact P.cbp))
 have hN:∀x,(some h2.blks.size:Option Nat)=some x->Rc C h.blks.size H.blks.size 7 x=7/\∃l,MapIs H x l:=λx e=>by
  cases e;exact⟨Rc.new (by omega) (by omega),[],M3.md mu (show h2.blks.size≠bp by omega)⟩
 have P6:PtIn H (Rc C h.blks.size H.blks.size 7) bp q {L with hs:=noS,nm:=some h2.blks.size} t {p with tree:=m.a,hidden:=[]}:={lt:=a1,cbp:=a2,box:=B6,ses:=a4 (by decide),mask:=a5 (by decide),tape:=a6 (by decide),key:=(a7 (by decide)).1,keyAv:=(a7 (by decide)).2,hid:=qbn _ _ _,nodes:=hN,tab:=a10 (by decide),pq:=P.pq,right:=P.right,live:=λ_ e=>(by cases e),low:=⟨by show -1<=m.a;omega,by show m.a<=16;omega,lw.2.2⟩};have hid:=(kdq P.right).1;rw[M6.len];have lp:=k7t (q:=q) (t:=t) (Sm:=Sm) (bp:=bp) (b9:=h.blks.size) (Cb:=Rc C h.blks.size H.blks.size 7) M6 (λx=>by have:=U _ x;rw[P.cbp]at this;exact absurd this (by decide)) af (by omega) (by omega) hl {p with tree:=m.a,hidden:=[]} m.nats.length 0 (by omega) (Md.refl _ _) P6 (λj hj=>rfl) (λj hj=>Rc.ne2 (by omega) (by decide)) ⟨Fp.no,none,λx y=>y.elim,λx e=>(by cases e),GF.none _ _ _ _⟩ rfl;refine lp.imp λv h7 ⟨e,m7,C',L',P',eC,ag⟩=>?_;subst e
 exact⟨⟨_,rfl,qbn _ _ _⟩,C',L',P',(I.mono λj _ x=>by rw[x,P.cbp];decide).next m7 λj _ x=>by rw[x,P.cbp];decide,λj hj=>by rw[eC j (by omega)];exact Rc.old hj,λj hj=>by
  rcases Nat.lt_or_ge j H.blks.size with x | x
  ·rw[eC j x];exact Rc.ne2 hj (by decide)
  ·exact ag j x⟩
end
theorem kq7(t:Tb)(y:tabR t=true):(cutsL t).length<=1000:=by
 have G:=(kdq y).2.1;have hb:=(kdq y).2.2.1;have F:=(kdq y).2.2.2
 have:(cutsL t).length<=31*t.cols.length:=by unfold cutsL;rw[if_pos y];refine knz t _ λi z=>?_;obtain⟨h1,h2,H,-⟩:=khd (F i z) z hb;unfold nb;rw[List.getD_eq_getElem?_getD,qb6 h1];simp;omega
 omega
section
variable{C:Nat->Nat}{bp:Nat}{q:Int×Int×Int}{L:PtL}{t:Tb}{p:Pt}{Sm S:Fp}{m:Ms}{s s5 s6 s7:Sl}{h h0:AH}
def oddR(n:Nat)(xs:List Int):Bool:=xs.any λx=>decide (x<0)||decide (x>=(n:Int))
def SetW(n:Nat)(xs:List Int)(w:List Nat):Prop:=w.length=(n+63)/64/\∀b:Nat,wbit w b=decide ((b:Int)∈xs)
theorem k6s{xs:List Int}{n:Nat}(Q:Sq EI h0 S s xs)(K:n<=65536):Runs (go (.fn kgd [.i (n:Int),s.v]) h0) λv h'=>Grow h0 h'/\∃(k:Int)(y:Sl)(w:List Nat)(e:Int),v=.tup [.agg [.i k,y.v],.i e]/\Nats h' y w/\Own h0 y/\((e=1/\oddR n xs=true)\/e=0/\oddR n xs=false/\k=(n:Int)/\SetW n xs w):=by
 unfold oddR;by_cases F:(xs.any λx=>decide (x<0)||decide (x>=(n:Int)))=true
 ·rw[k04];refine qz λh1 b1 g1=>qz λh2 b2 H=>qy ((H.has b1).rd0 rfl qcr) ?_;refine(kur K).call λv h3 ⟨I,t,i,e,hi,V⟩=>?_;subst e;refine qy rfl (qy rfl (qba rfl (qy rfl (qy (seenAt rfl qcq) (qy rfl ?_)))));dsimp only;refine qz λh4 b4 U=>q0 b4 rfl λW b5 Z=>qbb rfl ?_;have s1:h0.blks.size<h1.blks.size:=b1.lt;have s2:h1.blks.size<h2.blks.size:=b2.lt;have s4:h2.blks.size<=h3.blks.size:=I.size;have G4:Grow h0 h4:=(((g1.trans H).trans I).trans U);have G5:Grow h0 W:=G4.updr (by have:=G4.size;omega) Z;have G:Grow h2 W:=(I.trans U).updr (by omega) Z;refine(k3k (Q.grow G5) (G.has (H.has b1))).call λv h6 ⟨e,g6⟩=>?_;subst e;rw[F];refine qy (seen rfl) (qba rfl ?_);refine q0 (g6.has (G.has b2)) rfl λh7 b7 u7=>qct b7 0 rfl (qcs b7 1 rfl (qx ⟨(G5.trans g6).updr (by omega) u7,0,noS,[],1,rfl,qu _,qr _,.inl ⟨rfl,rfl⟩⟩))
 ·have F:(xs.any λx=>decide (x<0)||decide (x>=(n:Int)))=false:=by simpa using F
  have hz:∃l:List Nat,xs=zs l/\∀x∈l,x<n:=by
   refine⟨xs.map Int.toNat,?_,?_⟩
   ·unfold zs;rw[List.map_map];refine(List.map_id xs).symm.trans (List.map_congr_left λx z=>?_);have:=List.any_eq_false.1 F x z;simp at this;show x=((x.toNat:Nat):Int);omega
   ·intro y hy;rw[List.mem_map]at hy;obtain⟨x,z,rfl⟩:=hy;have:=List.any_eq_false.1 F x z;simp at this;omega
  obtain⟨l,rfl,hl⟩:=hz;refine(k34 Q hl K).imp λv h' ⟨g,y,w,e,N,lw,o,hb⟩=>⟨g,_,y,w,0,e,N,o,.inr ⟨rfl,F,rfl,lw,λb=>?_⟩⟩;rw[hb b,decide_eq_decide];unfold zs;rw[List.mem_map];constructor
  ·intro x;exact⟨b,x,rfl⟩
  ·rintro ⟨y,h1,h2⟩
   have:y=b:=by omega
   rwa[<- this]
theorem kbkc{n0:Nat}{W:Fp}{idl:List Int}{hb:AH}{o:List Nat}{ys:List (List Nat)}{so sy sr ids:Sl}{U V:Fp}{b9 b13 b57 bn:Nat}{l0:List (Int×AV)}{nb:Int}{Lb:List AV}(ab:hb.has bp Lb kpj)(hn:Lb[10]?=some (.map (some bn)))(M0:MapIs hb bn l0)(B9:hb.has b9 (m.cells s5 s6 s7) kc5)(af:hb.has b13 [.i nb,sr.v] kz)(O:Sq EI hb U so (zs o))(Y:Sq Ef.nats hb V sy ys)(hy:∀x∈o,x<ys.length)(ho:o.length<=1000)(n1:bp<b57)(n2:b9<b57)(n3:b13<b57)(n4:bn<b57)(hU:∀j,U j->j<b57)(hV:∀j,V j->j<b57/\j≠bn/\n0<=j)(I:Sq EI hb W ids idl)(hW:∀j,W j->j<b57/\j≠bn/\n0<=j)(ag:n0<=hb.blks.size)(aj:b57<hb.blks.size):∀(d c:Nat),c+d=o.length->∀{h:AH}{z:Sl}{S:Fp}{j:Option Nat},Md (λx=>x=b57) hb h->h.has b57 [.i 5,.i m.a,.i m.b,.i 0,ids.v,noS.v,z.v] kc5->(∀x,S x->x<h.blks.size/\x≠b57/\x≠bn/\n0<=x)->LeO hb.blks.size j->GF Ef.nats kj h S z j ((o.take c).map λk=>ys.getD k [])->
  Runs (go (.pt ke2 kow [(0,.p (.new bp 0)),(3,.p (.new b9 0)),(6,.p (.new b13 0)),(10,sy.v),(11,.p (.new b57 0)),(87,so.v),(88,.i (o.length:Int)),(89,.i (c:Int))]) h) λv h'=>(∃z:Sl,v=.tup [z.v,.i 0]/\Sq Ef.msg h' (Fp.from n0) z [⟨5,m.a,m.b,0,idl,[],o.map λk=>ys.getD k []⟩])/\Md (λx=>x=b57\/x=bn) hb h'/\∃l,MapIs h' bn l:=by
 intro d
 induction d with
 | zero =>
  intro c hc h z S j H B hS hj G;have K:=H.has ab (by omega);have M':=M0.md H (by omega);have ac:=H.has B9 (by omega);have Q:=H.has af (by omega);rw[k0i];refine qbb (qb0 (by omega)) (qy rfl (qy (K.rd 10 hn rfl) (qct ac 2 rfl (qct Q 0 rfl (qcs Q 1 rfl ?_)))));refine qz λh1 b1 F=>qbd (F.same ac 2 1) (qbd (F.same K 10 1) (qy rfl ?_));obtain⟨h2,e2,m2,Z⟩:=(M'.grow F).put m.b (.p (.new h.blks.size 0));refine qy e2 ?_;have B2:=(F.has B).updr (show b57≠bn by omega) Z;refine qct B2 0 rfl (qct B2 1 rfl (qct B2 2 rfl (qct B2 3 rfl (qcs B2 4 rfl (qcs B2 5 rfl (qcs B2 6 rfl ?_))))));obtain rfl:c=o.length:=by omega
  rw[List.take_length]at G;have ad:∀x,j=some x->hb.blks.size<=x:=λx e=>by subst e;exact hj
  have ak:bn<hb.blks.size:=by omega
  have I2:Sq EI h2 W ids idl:=((I.md H λx a b=>by have:=hW x a;omega).grow F).upd (λx=>(hW _ x).2.1 rfl) Z;have G2:GF Ef.nats kj h2 S z j (o.map λk=>ys.getD k []):=(G.grow F).upd Z (λx=>(hS _ x).2.2.1 rfl) λk e=>by have:=ad k e;omega
  refine qz λh3 b3 g3=>qx ⟨⟨_,rfl,kun (m:=⟨5,m.a,m.b,0,idl,[],o.map λk=>ys.getD k []⟩) b3 (show n0<=h2.blks.size by have:=Z.size;have:=F.size;have:=H.size;omega) ⟨(I2.grow g3).mono λx y=>(hW x y).2.2,qbn _ _ _,(G2.grow g3).sq.mono λx y=>by
   rcases y with y | y
   ·have:=ad x y;exact qbs ag this
   ·exact(hS x y).2.2.2⟩⟩,?_,_,m2.grow g3⟩
  exact(((H.mono λx _ y=>.inl y).thenG F).trans (Z.md (T:=λx=>x=b57\/x=bn) (.inr rfl))).thenG g3
 | succ d ih =>
  intro c hc h z S j H B hS hj G;have aa:c<o.length:=by omega
  have ah:c<(zs o).length:=by rw[zs_len];exact aa
  have O':=O.md H λx a b=>by have:=hU x a;omega
  have Y':=Y.md H λx a b=>by have:=(hV x a).1;omega
  obtain⟨r,e1,e2⟩:=O'.int ah;have ai:(zs o)[c]=((o[c]:Nat):Int):=by simp[zs]
  have ae:=hy _ (qb5 aa);obtain⟨r2,s',e3,e4,N,hN⟩:=Y'.nats (i:=o[c]) ae;rw[k0i];refine qba (qbz (by omega)) (qy e1 (qy e2 (qcs B 6 rfl ?_)));rw[ai];refine qy e3 (qy e4 ?_);refine qz λh1 b1 F=>qbd (F.same B 6 1) ?_;refine qy (kdk b1 (by rw[kj4];rfl)) ?_;have z0:=H.size;have z1:h.blks.size<h1.blks.size:=b1.lt
  have no:NotO V j:=by
   cases j with
   | none=>trivial
   | some a =>intro hm;have:=(hV _ hm).1;have:hb.blks.size<=a:=hj;omega
  have lz:((o.take c).map λk=>ys.getD k []).length=c:=by rw[qb3,qci];omega
  obtain⟨z',h2,e5,G2,Z⟩:=(G.grow F).push (T:=V) (cs:=[s'.v]) (x:=ys[o[c]]) ⟨s',rfl,N.grow F,hN⟩ no (knx (by rw[lz];omega));refine qy e5 (qy qcq ?_);have m2:Md (Fp.opt j) h1 h2:=Z.md λk e=>e
  have jn:∀x,Fp.opt j x->hb.blks.size<=x:=λx e=>by have e:j=some x:=e;subst e;exact hj
  have B2:=m2.has (F.has B) (λe=>by have:=jn _ e;omega);have z2:h1.blks.size<h2.blks.size:=G2.lt;refine qbl B2 (cs':=[.i 5,.i m.a,.i m.b,.i 0,ids.v,noS.v,z'.v]) (by simp) (by simp) λh3 b3 u3=>?_;have z3:h2.blks.size<=h3.blks.size:=u3.size;rw[ki (by omega)];refine ih (c+1) (by omega) (S:=λx=>(Fp.or S V) x/\x<h1.blks.size) (j:=some h1.blks.size) ?_ b3 (λx hx=>⟨by have:=hx.2;omega,?_⟩) (show hb.blks.size<=h1.blks.size by omega) ?_
  ·exact((H.thenG F).next m2 λx hx y=>absurd (jn x y) (by omega)).trans (u3.md rfl)
  ·rcases hx.1 with y | y
   ·exact(hS x y).2
   ·have:=hV x y;omega
  ·have e9:((o.take (c+1)).map λk=>ys.getD k [])=((o.take c).map λk=>ys.getD k [])++[ys[o[c]]]:=by
    rw[qck aa,List.map_append];simp[List.getD_eq_getElem?_getD,qb6 ae]
   rw[e9];refine G2.upd u3 (λhx=>?_) λk e=>by cases e;omega
   rcases hx.1 with y | y
   ·exact(hS _ y).2.1 rfl
   ·have:=hV _ y;omega
end
theorem k4c{m:Mk}{bs:List Nat}{t n:Int}{cuts:List (Nat×Nat)}{o:List Nat}{e:Int}(h:(issueF m bs t n cuts).1=(some o,e)):o.length=cuts.length/\∀x∈o,x<cuts.length:=by
 by_cases k:oddI t=true\/oddI n=true\/(t,n)∈m.nodes\/1048576<m.given.length+cuts.length
 ·rw[ky8 k]at h;cases h
 ·rw[kpu k]at h;have ok:=k2h (n:=cuts.length) (cuts.length-1) (List.range cuts.length) bs (by rw[qcn];omega) (λx z=>qco.1 z);generalize F:shufF (cuts.length-1) (List.range cuts.length) bs=r at *
  cases y:r.1 with
  | none=>rw[y]at h;cases h
  | some G =>rw[y]at h;cases h;have:=ok o y;rwa[qcn]at this
theorem kbgm{ns:List Nat}{t:Tb}{n:Int}{w:List Nat}{X:List (List Nat)}(h:(kby ns t n w X).2=0):(kby ns t n w X).1.length=(cutsL t).length:=by
 unfold kby at h|-;split at h
 ·cases h
 ·rename_i h1;rw[if_neg h1];split at h
  ·rename_i h2;rw[if_pos h2];split at h
   ·cases h
   ·rename_i y;rw[if_neg y];unfold sumsC;rw[qb3]
  ·rename_i h2;exact absurd h h2
abbrev AskR(t:Tb)(p:Pt)(m:Ms)(r:Ans):Prop :=
 (m.a≠p.tree/\r=([],18,p))\/(m.a=p.tree/\oddR t.ids.length m.rows=true/\r=([],1,p))\/
 (m.a=p.tree/\oddR t.ids.length m.rows=false/\
  (((issueF p.msk p.bytes m.a m.b (cutsL t)).1.1=none/\r=([],(issueF p.msk p.bytes m.a m.b (cutsL t)).1.2,{p with msk:=(issueF p.msk p.bytes m.a m.b (cutsL t)).2.1,bytes:=(issueF p.msk p.bytes m.a m.b (cutsL t)).2.2}))\/
   ∃(o:List Nat)(w:List Nat),(issueF p.msk p.bytes m.a m.b (cutsL t)).1=(some o,0)/\(∀x∈w,x<B)/\SetW t.ids.length m.rows w/\
    (((kby p.key t (t.ids.length:Int) w p.hidden).2≠0/\r=([],(kby p.key t (t.ids.length:Int) w p.hidden).2,{p with msk:=(issueF p.msk p.bytes m.a m.b (cutsL t)).2.1,bytes:=(issueF p.msk p.bytes m.a m.b (cutsL t)).2.2}))\/
    ((kby p.key t (t.ids.length:Int) w p.hidden).2=0/\r=([⟨5,m.a,m.b,0,idsG p.msk o.length,[],o.map λk=>(kby p.key t (t.ids.length:Int) w p.hidden).1.getD k []⟩],0,{p with msk:=(issueF p.msk p.bytes m.a m.b (cutsL t)).2.1,bytes:=(issueF p.msk p.bytes m.a m.b (cutsL t)).2.2})))))
section
variable{C:Nat->Nat}{bp:Nat}{q:Int×Int×Int}{L:PtL}{t:Tb}{p:Pt}{Sm:Fp}{m:Ms}{s5 s6 s7:Sl}{h:AH}
theorem ask_is(T0:Tab h)(P:PtIn h C bp q L t p)(M:MsAt h Sm s5 s6 s7 m)(ha:oddI m.a=false):Runs (go (.fn ke2 [.p (.new bp 0),.agg (m.cells s5 s6 s7)]) h) (λv h'=>∃r,AskR t p m r/\Did h C bp q t r v h'):=by
 rw[kbaa];refine qz λh1 b1 g1=>?_;have P1:=P.grow g1;have af:∀{h2:AH}{v:AV}{r:Ans},r.2.2=p->v=AV.tup [noS.v,.i r.2.1]->r.1=[]->Grow h h2->Did h C bp q t r v h2:=λ{h2 v r} e1 e2 e3 g=>⟨⟨_,e2,by rw[e3];exact qbn _ _ _⟩,by rw[e1];exact PtTo2.grow P g⟩;refine qct b1 1 rfl (qy rfl (qy (P1.box.rd 8 rfl qcr) (qbc (λk=>qx ⟨([],18,p),.inl ⟨by rw[qcl,qbx]at k;exact k,rfl⟩,af rfl rfl rfl g1⟩) λk1=>?_)));rw[qcm,qby]at k1;refine qz λh2 b2 g2=>?_;have G2:=g1.trans g2;have P2:=P.grow G2;refine qy rfl (qy (show(h2.cell (((Ref.new bp 0).add 2).add 0)).bind AV.asSl=some L.s1 from P2.box.rd 2 rfl qcq) (qcs (g2.has b1) 5 rfl ?_));rw[P2.tab.ids.len];have hR:=P.right;have bk:=(kdq hR).1;refine(k6s ((M.grow G2).rows) (n:=t.ids.length) (by omega)).call λv h3 ⟨g3,bq,ae,w,br,e,N,o3,ak⟩=>?_;subst e;refine qy rfl (qy rfl (qba rfl (qy rfl (qy rfl (qy (seen qcr) (qbd (g3.same b2 0 0) ?_))))));have z0:h.blks.size<h1.blks.size:=b1.lt;have z1:h1.blks.size<h2.blks.size:=b2.lt;have z2:h2.blks.size<=h3.blks.size:=g3.size;refine q0 (g3.has b2) rfl λh4 b4 u4=>?_;have z3:h3.blks.size<=h4.blks.size:=u4.size;have G4:Grow h h4:=(G2.trans g3).updr (by omega) u4;refine qbc (λk=>?_) λk2=>?_
 ·rw[qcl,qbx]at k;rcases ak with⟨rfl,ho⟩ | ⟨e0,-⟩
  ·exact qx ⟨([],1,p),.inr (.inl ⟨k1,ho,rfl⟩),af rfl rfl rfl G4⟩
  ·exact absurd e0 k
 rw[qcm,qby]at k2;subst k2;rcases ak with⟨e0,-⟩ | ⟨-,ho,ar,hw⟩
 ·exact absurd e0 (by decide)
 subst ar;have P4:=P.grow G4;have ac:=(g3.has (g2.has b1)).updr (show h.blks.size≠h1.blks.size by omega) u4;have N4:Nats h4 ae w:=N.upda (qbi o3 b2.lt) u4;refine qy rfl (qy (P4.box.rd 1 rfl rfl) (qy rfl (qy (P4.box.rd 5 rfl rfl) (qct ac 1 rfl (qct ac 2 rfl (qy rfl ?_))))));refine qy (show(h4.cell (((Ref.new bp 0).add 2).add 0)).bind AV.asSl=some L.s1 from P4.box.rd 2 rfl qcq) (qy (show(h4.cell (((Ref.new bp 0).add 2).add 1)).bind AV.asSl=some L.s2 from P4.box.rd 3 rfl qcq) (qy (show(h4.cell (((Ref.new bp 0).add 2).add 2)).bind AV.asSl=some L.s3 from P4.box.rd 4 rfl qcq) ?_));refine(kbjc (T0.grow G4) P4.tab).call λv Q ⟨g5,y,jy,e,ly,Vy⟩=>?_;subst e;have z4:h4.blks.size<=Q.blks.size:=g5.size;have G5:=G4.trans g5;have P5:=P.grow G5;have au:=g5.has ac;have aw:=g5.has b4;have Q5:=Vy.sq;refine qy (seen qcq) (qbd (g5.same ac 2 1) (qbd (g5.same ac 1 1) (qbd (g5.same P4.box 5 1) (qbd (g5.same P4.box 1 1) ?_))));have zp:bp<h.blks.size:=P.box.lt;have al:∀j,C j≠0->j<h.blks.size:=P.lt
 have ax:∀j,(Fp.or (Fp.opt jy) Fp.no) j->h4.blks.size<=j/\j<Q.blks.size:=λj F=>by
  rcases F with F | F
  ·have F:jy=some j:=F;subst F;have l1:h4.blks.size<=j:=ly;have l2:j<Q.blks.size:=Vy.lt;omega
  ·exact F.elim
 have C0:∀j,h.blks.size<=j->C j=0:=λj F=>Classical.byContradiction λx=>by have:=al j x;omega
 refine(kbm6 P5.mask P5.tape (λj a b=>by have a:C j=3:=a;have b:C j=4:=b;omega) (λj x=>P5.lt j (by rw[show C j=3 from x];decide)) Q5 (λj F=>by have:=ax j F;have c0:=C0 j (by omega);exact⟨λx=>by have x:C j=3:=x;omega,λx=>by have x:C j=4:=x;omega,this.2⟩) (kq7 t hR) m.a m.b).call λv G ⟨t6,S6,M6,m6,am,e6⟩=>?_
 have z5:Q.blks.size<=G.blks.size:=m6.size;have t4:C L.bt=4:=P.tape.2.1;have Z:Md (λj=>C j=3\/C j=4) Q G:=m6.mono λj _ x=>x.imp (λy=>y) λy=>by rw[y];exact t4
 obtain⟨a1,a2,a3,a4,a5,a6,a7,a8,a9,a10,a11⟩:=P5.parts (K:=λc=>c=3\/c=4) (k:=3) (.inl rfl) (by intro c e;omega) Z;have hM:MaskAt G (col (Rc C Q.blks.size G.blks.size 3) 3) L.bm (issueF p.msk p.bytes m.a m.b (cutsL t)).2.1:=M6.mono λj x=>(am j x).elim (λy=>a11 3 j (by decide) y) λy=>Rc.new y.1 y.2;have hT:TapeA G (col (Rc C Q.blks.size G.blks.size 3) 4) L.bt (issueF p.msk p.bytes m.a m.b (cutsL t)).2.2:=t6.mono (λj x=>a11 4 j (by decide) x) λj x=>a1 j (by rw[show Rc C Q.blks.size G.blks.size 3 j=4 from x];decide);have P6:PtIn G (Rc C Q.blks.size G.blks.size 3) bp q L t {p with msk:=(issueF p.msk p.bytes m.a m.b (cutsL t)).2.1,bytes:=(issueF p.msk p.bytes m.a m.b (cutsL t)).2.2}:={lt:=a1,cbp:=a2,box:=a3 (by decide),ses:=a4 (by decide),mask:=hM,tape:=hT,key:=(a7 (by decide)).1,keyAv:=(a7 (by decide)).2,hid:=a8 (by decide),nodes:=a9 (by decide),tab:=a10 (by decide),pq:=P.pq,right:=P.right,live:=P.live,low:=P.low};have an:Md (λj=>C j≠0) h G:=(G5.md _).trans (Z.mono λj _ x=>by omega);have ag:∀j,j<h.blks.size->Rc C Q.blks.size G.blks.size 3 j=C j:=λj F=>Rc.old (by omega)
 have ao:∀{V:AH},Grow G V->PtTo2 h C bp q t V {p with msk:=(issueF p.msk p.bytes m.a m.b (cutsL t)).2.1,bytes:=(issueF p.msk p.bytes m.a m.b (cutsL t)).2.2}:=λ{V} g=>⟨_,L,P6.grow g,an.thenG g,ag,λj F=>by
  rcases Nat.lt_or_ge j Q.blks.size with x | x
  ·rw[Rc.old x,C0 j F];decide
  ·exact Rc.ne2 x (by decide)⟩
 rcases e6 with⟨r1,r2,e⟩ | ⟨o,so,si,ko,ji,r1,e,bu,O,I,ah⟩
 ·subst e;refine qy rfl (qy (seen qcq) (qy (seen qcq) (qy (seen qcr) (qba (by rw[qcl,qbx];exact r2) (qx ⟨([],(issueF p.msk p.bytes m.a m.b (cutsL t)).1.2,{p with msk:=(issueF p.msk p.bytes m.a m.b (cutsL t)).2.1,bytes:=(issueF p.msk p.bytes m.a m.b (cutsL t)).2.2}),.inr (.inr ⟨k1,ho,.inl ⟨r1,rfl⟩⟩),⟨⟨_,rfl,qbn _ _ _⟩,ao (qk _)⟩⟩)))))
 subst e;refine qy rfl (qy (seen qcq) (qy (seen qcq) (qy (seen qcr) (qbb rfl ?_))));obtain⟨ol,ay⟩:=k4c r1;have nt:∀x,h.blks.size<=x->¬(C x=3\/C x=4):=λx hx=>by have:=C0 x hx;omega
 have az:=Z.has au (nt _ (qbr _));have ai:=Z.has aw (nt _ (by omega));have N5:Nats G ae w:=(N4.grow g5).mdE (S:=λj=>¬Av ae j w) (λj x=>x) Z λj x y=>nt j (by have:=own_av o3 x;omega) y;have B6:=P6.box;refine qy rfl (qcs B6 6 rfl (qy rfl ?_));refine qy (show(G.cell (((Ref.new bp 0).add 2).add 0)).bind AV.asSl=some L.s1 from B6.rd 2 rfl qcq) (qy (show(G.cell (((Ref.new bp 0).add 2).add 1)).bind AV.asSl=some L.s2 from B6.rd 3 rfl qcq) (qy (show(G.cell (((Ref.new bp 0).add 2).add 2)).bind AV.asSl=some L.s3 from B6.rd 4 rfl qcq) ?_));refine qct ai 0 rfl (qcs ai 1 rfl (qy rfl (qcs B6 9 rfl ?_)));refine(kblw ((T0.grow G5).md Z) P6.key (P6.tab.mono (U:=Fp.all) λ_ _=>trivial) N5 (P6.hid.mono (T:=Fp.all) λ_ _=>trivial)).call λv V ⟨g7,Sy,sy,a0,e,ba,ap,Vs⟩=>?_;subst e;refine qy rfl (qy (seen qcq) (qy (seen qcr) (qbc (λk=>qx ⟨([],(kby p.key t (t.ids.length:Int) w p.hidden).2,{p with msk:=(issueF p.msk p.bytes m.a m.b (cutsL t)).2.1,bytes:=(issueF p.msk p.bytes m.a m.b (cutsL t)).2.2}),.inr (.inr ⟨k1,ho,.inr ⟨o,w,r1,N5.lt,hw,.inl ⟨by rw[qcl,qbx]at k;exact k,rfl⟩⟩⟩),⟨⟨_,rfl,qbn _ _ _⟩,ao g7⟩⟩) λk3=>?_)));rw[qcm,qby]at k3;have aq:=kbgm k3;have aj:=g7.has az;have bb:=g7.has ai;refine qct aj 1 rfl (qct aj 2 rfl ?_);refine qz λh8 b8 g8=>q0 b8 rfl λh9 b9 u9=>?_;have z6:G.blks.size<=V.blks.size:=g7.size;have z7:V.blks.size<h8.blks.size:=b8.lt;have z8:h8.blks.size<=h9.blks.size:=u9.size;have H:Grow V h9:=g8.updr (qbr _) u9;have P7:=P6.grow g7
 have bc:∃bn,L.nm=some bn:=by
  have l:=P.live (by
   have:¬m.a<0:=by unfold oddI at ha;rw[Bool.or_eq_false_iff,qbx]at ha;exact ha.1
   omega)
  cases hx:L.nm with
  | none=>exact absurd hx l
  | some b=>exact⟨b,rfl⟩
 obtain⟨bn,aa⟩:=bc;obtain⟨cn,l0,Mn⟩:=P7.nodes bn aa;have zn:bn<G.blks.size:=P6.lt bn (by rw[(P6.nodes bn aa).1];decide);have bv:ko<G.blks.size:=O.lt;have Y9:=(Vs.sq.bound.grow H);have O9:=(O.grow (g7.trans H)).sq;have bd:so.len=o.length:=by rw[O.len,zs_len]
 rw[bd]
 refine(kbkc (m:=m) (hb:=h9) (o:=o) (n0:=h.blks.size) (W:=Fp.or (Fp.opt ji) Fp.no) (idl:=idsG p.msk o.length) (ys:=(kby p.key t (t.ids.length:Int) w p.hidden).1) (so:=so) (sy:=sy) (sr:=ae) (ids:=si) (bp:=bp) (b9:=h.blks.size) (b13:=h1.blks.size) (b57:=V.blks.size) (bn:=bn) (nb:=(t.ids.length:Int)) (H.has P7.box) (by show some (AV.map L.nm)=_;rw[aa]) (Mn.grow H) (H.has aj) (H.has bb) O9 Y9 (λx hx=>by rw[aq];exact ay x hx) (by rw[ol];exact kq7 t hR) (by omega) (by omega) (by omega) (by omega) (λj F=>by
  rcases F with F | F
  ·have F:ko=j:=Option.some.inj F;omega
  ·exact F.elim) (λj F=>by
  have be:j<V.blks.size:=F.2;have zc:=P6.lt bn (by rw[(P6.nodes bn aa).1];decide)
  have bw:G.blks.size<=j:=by
   rcases F.1 with x | x
   ·have x:a0=some j:=x;rw[x]at ap;exact ap
   ·exact ba j x
  exact⟨be,by omega,by omega⟩) (I.grow (g7.trans H)).sq (λj F=>by
  rcases F with F | F
  ·have F:ji=some j:=F;have l1:j<G.blks.size:=by have:=I.lt;rw[F]at this;exact this
   rw[F]at ah;have ah:Q.blks.size<=j:=ah;have bf:C bn=7:=(P5.nodes bn aa).1;have:=al bn (by rw[bf];decide);exact⟨by omega,by omega,by omega⟩
  ·exact F.elim) (by omega) (by omega) o.length 0 (by omega) (Md.refl _ _) b9 (S:=Fp.no) (j:=none) (λx hx=>hx.elim) trivial (GF.none _ _ _ _)).imp λv ab ⟨⟨z,e,hz⟩,bg,l,hl⟩=>?_
 subst e
 have ad:Md (λj=>Rc C Q.blks.size G.blks.size 3 j=7) V ab:=(H.md _).next bg λj F x=>by
  rcases x with x | x
  ·omega
  ·rw[x];exact cn
 obtain⟨c1,c2,c3,c4,c5,c6,c7,c8,c9,bh,bi⟩:=P7.parts (K:=λc=>c=7) (k:=7) rfl (by intro c e;omega) ad
 have hN:∀x,L.nm=some x->Rc (Rc C Q.blks.size G.blks.size 3) V.blks.size ab.blks.size 7 x=7/\∃l,MapIs ab x l:=λx e=>by rw[aa]at e;cases e;exact⟨bi 7 _ (by decide) cn,l,hl⟩
 have bj:PtIn ab (Rc (Rc C Q.blks.size G.blks.size 3) V.blks.size ab.blks.size 7) bp q L t {p with msk:=(issueF p.msk p.bytes m.a m.b (cutsL t)).2.1,bytes:=(issueF p.msk p.bytes m.a m.b (cutsL t)).2.2}:={lt:=c1,cbp:=c2,box:=c3 (by decide),ses:=c4 (by decide),mask:=c5 (by decide),tape:=c6 (by decide),key:=(c7 (by decide)).1,keyAv:=(c7 (by decide)).2,hid:=c8 (by decide),nodes:=hN,tab:=bh (by decide),pq:=P.pq,right:=P.right,live:=P.live,low:=P.low};have z9:V.blks.size<=ab.blks.size:=ad.size
 exact⟨_,.inr (.inr ⟨k1,ho,.inr ⟨o,w,r1,N5.lt,hw,.inr ⟨k3,rfl⟩⟩⟩),⟨⟨z,rfl,hz⟩,_,L,bj,(an.thenG g7).next ad λj F x=>by rw[<- ag j F,x];decide,λj F=>by rw[Rc.old (by omega)];exact ag j F,λj F=>by
  rcases Nat.lt_or_ge j V.blks.size with x | x
  ·rw[Rc.old x];rcases Nat.lt_or_ge j Q.blks.size with y | y
   ·rw[Rc.old y,C0 j F];decide
   ·exact Rc.ne2 y (by decide)
  ·exact Rc.ne2 x (by decide)⟩⟩
end
theorem kbce(args:List AV)(h:AH):callF Pg go khy args h=go (.fn khy args) h:=by kernel_rfl
theorem kbai(args:List AV)(h:AH):callF Pg go kep args h=go (.fn kep args) h:=by kernel_rfl
theorem kbpc(args:List AV)(h:AH):callF Pg go ke2 args h=go (.fn ke2 args) h:=by kernel_rfl
def deedsL(y z F G:Sl):List (Int×AV):=[(1,.agg [.func (.func khy) [] [],y.v]),(3,.agg [.func (.func kep) [] [],z.v]),(4,.agg [.func (.func ke2) [] [],F.v]),(6,.agg [.func (.func ktr) [] [],G.v]),(10,.agg [.func (.func kt7) [] [],noS.v])]
theorem kbl9{h:AH}:Runs (go (.fn ks2 []) h) λv h'=>Grow h h'/\∃(md:Nat)(U V W l6:Sl),v=.map (some md)/\MapIs h' md (deedsL U V W l6)/\Sq EI h' (Fp.from h.blks.size) U [3]/\Sq EI h' (Fp.from h.blks.size) V [3,4,10]/\Sq EI h' (Fp.from h.blks.size) W [3,4,6,10]/\U.ref≠none/\V.ref≠none/\W.ref≠none:=by
 rw[kben];refine Runs.newMap λh1 M1 g1=>qz λh2 b2 g2=>?_;have z1:h.blks.size<h1.blks.size:=M1.lt;have z2:h1.blks.size<h2.blks.size:=b2.lt;obtain⟨Z,e3,M3,u3⟩:=(M1.grow g2).put 1 (.agg [.func (.func khy) [] [],(⟨some (.new h1.blks.size 0),1,.is 1⟩:Sl).v]);refine qy e3 (qz λh4 b4 g4=>?_);have z3:h2.blks.size<=Z.blks.size:=u3.size;have z4:Z.blks.size<h4.blks.size:=b4.lt;obtain⟨h5,e5,M5,I⟩:=(M3.grow g4).put 3 (.agg [.func (.func kep) [] [],(⟨some (.new Z.blks.size 0),3,.is 3⟩:Sl).v]);refine qy e5 (qz λh6 b6 K=>?_);have z5:h4.blks.size<=h5.blks.size:=I.size;have z6:h5.blks.size<h6.blks.size:=b6.lt;obtain⟨h7,e7,M7,F⟩:=(M5.grow K).put 4 (.agg [.func (.func ke2) [] [],(⟨some (.new h5.blks.size 0),4,.is 4⟩:Sl).v]);refine qy e7 (qz λh8 b8 H=>?_);have z7:h6.blks.size<=h7.blks.size:=F.size;have z8:h7.blks.size<h8.blks.size:=b8.lt;obtain⟨h9,e9,M9,Q⟩:=(M7.grow H).put 6 (.agg [.func (.func ktr) [] [],(⟨some (.new h7.blks.size 0),4,.is 4⟩:Sl).v]);refine qy e9 ?_;obtain⟨y,aa,ab,z⟩:=M9.put 10 (.agg [.func (.func kt7) [] [],noS.v]);refine qy aa ?_;have c2:=((((H.has (((K.has ((g4.has (b2.updr (by omega) u3)).updr (by omega) I)).updr (by omega) F))).updr (by omega) Q)).updr (by omega) z);have c4:=(((H.has (((K.has (b4.updr (by omega) I)).updr (by omega) F))).updr (by omega) Q)).updr (by omega) z;have c6:=((H.has (b6.updr (by omega) F)).updr (by omega) Q).updr (by omega) z
 have lit:∀{i n:Nat}{rows:List (List AV)}{e:TypeId}{xs:List Int},y.has i rows.flatten e->All2 (EI.has y Fp.no) rows xs->xs.length=n->n<=9223372036854775807->h.blks.size<=i->Sq EI y (Fp.from h.blks.size) ⟨some (.new i 0),n,.is n⟩ xs:=λb a hn hs hi=>(Sq.lit b a hn hs).mono λj x=>by
  rcases x with x | x
  ·rw[show j=_ from x];exact hi
  ·exact x.elim
 have G:Grow h y:=((((((((g1.trans g2).updr (qbr _) u3).trans g4).updr (qbr _) I).trans K).updr (qbr _) F).trans H).updr (qbr _) Q).updr (qbr _) z;refine qx ⟨G,h.blks.size,_,_,_,_,rfl,ab,?_,?_,?_,(λx=>by cases x),(λx=>by cases x),λx=>by cases x⟩
 ·exact lit (rows:=[[.i 3]]) c2 (.cons rfl .nil) rfl (by decide) (by omega)
 ·exact lit (rows:=[[.i 3],[.i 4],[.i 10]]) c4 (.cons rfl (.cons rfl (.cons rfl .nil))) rfl (by decide) (by omega)
 ·exact lit (rows:=[[.i 3],[.i 4],[.i 6],[.i 10]]) c6 (.cons rfl (.cons rfl (.cons rfl (.cons rfl .nil)))) rfl (by decide) (by omega)
section
variable{C:Nat->Nat}{bp:Nat}{q:Int×Int×Int}{L:PtL}{t:Tb}{p:Pt}{Sm:Fp}{m:Ms}{s5 s6 s7:Sl}{h:AH}
def abM(e:Int):Ms:=⟨11,e,0,0,[],[],[]⟩
def nextK(k:Int):List Int:=if k=1 then [3]else if k=3 then [3,4,10]else [3,4,6,10]
def tailF(a:Ans)(next:List Int):List Ms×Pt:=if a.2.1≠0 then([abM a.2.1],{a.2.2 with ses:=(ki8 a.2.2.ses a.2.1).1})else(a.1,{a.2.2 with ses:=(awaitF a.2.2.ses next).1})
def DeedR(t:Tb)(p:Pt)(m:Ms)(a:Ans):Prop:=(m.kind=1/\a=setupF t p m)\/(m.kind=3/\a=gradsF t p m)\/(m.kind=4/\AskR t p m a)
def TakeR(t:Tb)(p:Pt)(m:Ms)(r:List Ms×Pt):Prop :=
 (p.ses.phase≠0/\r=([],p))\/(p.ses.phase=0/\¬m.ok/\r=([abM 16],{p with ses:=(ki8 p.ses 16).1}))\/
 (p.ses.phase=0/\m.ok/\(stakeF p.ses m.kind m.a).2≠0/\r=([abM (stakeF p.ses m.kind m.a).2],{p with ses:=(ki8 (stakeF p.ses m.kind m.a).1 (stakeF p.ses m.kind m.a).2).1}))\/
 (p.ses.phase=0/\m.ok/\(stakeF p.ses m.kind m.a).2=0/\(stakeF p.ses m.kind m.a).1.phase≠0/\r=([],{p with ses:=(stakeF p.ses m.kind m.a).1}))\/
 (p.ses.phase=0/\m.ok/\(stakeF p.ses m.kind m.a).2=0/\(stakeF p.ses m.kind m.a).1.phase=0/\∃a,DeedR t {p with ses:=(stakeF p.ses m.kind m.a).1} m a/\r=tailF a (nextK m.kind))
def Took(h:AH)(C:Nat->Nat)(bp:Nat)(q:Int×Int×Int)(t:Tb)(r:List Ms×Pt)(v:AV)(h':AH):Prop:=(∃s:Sl,v=s.v/\Sq Ef.msg h' Fp.all s r.1)/\PtTo h C bp q t h' r.2
theorem Took.next{h1 h':AH}{y:Nat->Nat}{r:List Ms×Pt}{v:AV}(m:Md (λj=>C j≠0) h h1)(e:∀j,j<h.blks.size->y j=C j)(b:Took h1 y bp q t r v h'):Took h C bp q t r v h':=⟨b.1,PtTo.next m e b.2⟩
theorem fail_f(P:PtIn h C bp q L t p)(e:Int):Runs (go (.fn khz [.p (.new bp 0),.i e]) h) (Took h C bp q t ([abM e],{p with ses:=(ki8 p.ses e).1})):=by rw[kbi4];refine qy rfl (qy (P.box.rd 0 rfl rfl) ?_);refine(kbjx P.ses e).call λv h1 ⟨z,s1,F⟩=>?_;subst z;refine qy (seen qcr) (qz λh2 b2 y=>qx ⟨⟨_,rfl,kun (m:=abM e) (s5:=noS) (s6:=noS) (s7:=noS) b2 trivial ⟨qbn _ _ _,qbn _ _ _,qbn _ _ _⟩⟩,?_⟩);exact PtTo.ses P (s1.grow y) ⟨F.thenG y,λj x=>.inl x⟩
theorem k9g{bd:Nat}{fv:AV}{W:Sl}{next:List Int}{Sn:Fp}(P:PtIn h C bp q L t p)(Bd:h.has bd [fv,W.v] k2m)(aa:C bd=0)(Qn:Sq EI h Sn W next)(ab:∀j,Sn j->C j=0)(hn:next.length<=100)(hr:W.ref≠none){x:Option (AV×AH)}{R:Ans->Prop}(D:Runs x λv h'=>∃a,R a/\Did h C bp q t a v h') :
  Runs (x.bind λz =>
 (AV.asTup2 z.1).bind λG =>
 ((some G.1).bind AV.asSl).bind λH =>
 ((some G.2).bind (AV.asInt .i64)).bind λI =>
 cond (!decide (I=0)) (
 (go (.fn khz [.p (.new bp 0),.i I]) z.2).bind λK =>
 ((some K.1).bind AV.asSl).bind λac =>
 some (ac.v,K.2)) (
 ((z.2.cell ((Ref.new bd 0).add 1)).bind AV.asSl).bind λad =>
 cond (!ad.ref.isNone) (
 (some (Ref.new bp 0)).bind λae =>
 ((z.2.cell (ae.add 0)).bind AV.asPtr).bind λaf =>
 ((z.2.cell ((Ref.new bd 0).add 1)).bind AV.asSl).bind λag =>
 (go (.fn kj2 [.ptr af,.i 0,ag.v]) z.2).bind λQ =>
 ((some Q.1).bind (AV.asInt .i64)).bind λai =>
 some (H.v,Q.2)) (
 some (H.v,z.2)))) (λv h'=>∃a,R a/\Took h C bp q t (tailF a next) v h'):=by
 refine D.call λv h1 ⟨a,ra,⟨s,U,Qs⟩,C1,L1,F,Z,e1,e2⟩=>?_;subst U;have V:=Z.has Bd (λy=>y aa);have ah:=Qn.md Z λj a b=>b (ab j a);unfold tailF;refine qy rfl (qy (seen qcq) (qy (seen qcr) (qbc (λk=>?_) λk=>?_)))
 ·rw[qcl,qbx]at k;refine(fail_f F a.2.1).call λv h2 ⟨⟨s2,U,Q2⟩,to⟩=>?_;subst U;exact qy (seen qcq) (qx ⟨a,ra,by rw[if_pos k];exact⟨⟨s2,rfl,Q2⟩,PtTo.next Z e1 to⟩⟩)
 ·rw[qcm,qby]at k;refine qcs V 1 rfl (qba (by cases hx:W.ref with | none=>exact absurd hx hr | some _=>rfl) ?_);refine qy rfl (qy (F.box.rd 0 rfl rfl) (qcs V 1 rfl ?_));refine(kyk F.ses F.pq ah hn (λj x=>F.lt j (by rw[show C1 j=2 from x];decide))).call λv h2 ⟨U,S',s2,c2⟩=>?_;subst U;have Q2:=Qs.md c2.md λj x y=>e2 j x y;exact qy (seen qcr) (qx ⟨a,ra,by rw[if_neg (by omega)];exact⟨⟨s,rfl,Q2.mono λ_ _=>trivial⟩,PtTo.next Z e1 (PtTo.ses F s2 c2)⟩⟩)
theorem kpi(T0:Tab h)(P:PtIn h C bp q L t p)(M:MsAt h Sm s5 s6 s7 m)(V:∀j,Sm j->C j=0/\j<h.blks.size)(hk:m.kind=1\/m.kind=3\/m.kind=4):Runs (go (.fn kkk [.p (.new bp 0),.agg (m.cells s5 s6 s7)]) h) (λv h'=>∃r,TakeR t p m r/\Took h C bp q t r v h'):=by
 rw[kboy];refine qz λh1 b1 g1=>?_;have P1:=P.grow g1;refine qy (k5l P1) (qy (seen rfl) (qbc (λk=>qx ⟨([],p),.inl ⟨by rw[qcl,qbx]at k;exact k,rfl⟩,⟨⟨_,rfl,qbn _ _ _⟩,PtTo.grow P g1⟩⟩) λk0=>?_));rw[qcm,qby]at k0;refine qct b1 0 rfl (qct b1 1 rfl (qct b1 2 rfl (qct b1 3 rfl (qcs b1 4 rfl (qcs b1 5 rfl (qcs b1 6 rfl ?_))))));refine(kbpv (M.grow g1)).call λv h2 ⟨⟨z,e,hz⟩,g2⟩=>?_;subst e;have G2:=g1.trans g2;have P2:=P.grow G2;have b2:=g2.has b1;refine qy (seen rfl) (qbc (λk=>?_) λk1=>?_)
 ·rw[qcl]at k;refine(fail_f P2 16).call λv y W=>?_;obtain⟨s,e,Qs⟩:=W.1;subst e;exact qy (seen qcq) (qx ⟨_,.inr (.inl ⟨k0,(λx=>by rw[hz.2 x]at k;cases k),rfl⟩),Took.next (G2.md _) (λ_ _=>rfl) W⟩)
 rw[qcm]at k1;have ok:=hz.1 k1;refine qy rfl (qy (P2.box.rd 0 rfl rfl) ?_);refine qct b2 0 rfl (qct b2 1 rfl (qct b2 2 rfl (qct b2 3 rfl (qcs b2 4 rfl (qcs b2 5 rfl (qcs b2 6 rfl ?_))))));refine(kbhb P2.ses P2.pq m.kind m.a m.b m.c s5 s6 s7).call λv y ⟨e,s3,m3⟩=>?_;subst e;have P3:=P2.setSes s3 ⟨m3,λj x=>.inl x⟩;have z1:h.blks.size<h1.blks.size:=b1.lt;have z2:h1.blks.size<=h2.blks.size:=g2.size;have z3:h2.blks.size<=y.blks.size:=m3.size;have H:Md (λj=>C j≠0) h y:=(G2.md _).trans (m3.mono λj _ x=>by rw[show C j=2 from x];decide);have K:∀j,j<h.blks.size->Rc C h2.blks.size y.blks.size 2 j=C j:=λj hj=>Rc.old (by omega);have b3:=m3.has b2 (λx=>by have:=P.lt h.blks.size (by rw[show C h.blks.size=2 from x];decide);omega);refine qy (seen qcr) (qbc (λk=>?_) λk2=>?_)
 ·rw[qcl,qbx]at k;refine(fail_f P3 _).call λv Z W=>?_;obtain⟨s,e,Qs⟩:=W.1;subst e;exact qy (seen qcq) (qx ⟨_,.inr (.inr (.inl ⟨k0,ok,k,rfl⟩)),Took.next H K W⟩)
 rw[qcm,qby]at k2;refine qy (k5l P3) (qy (seen rfl) (qbc (λk=>qx ⟨_,.inr (.inr (.inr (.inl ⟨k0,ok,k2,by rw[qcl,qbx]at k;exact k,rfl⟩))),Took.next H K ⟨⟨_,rfl,qbn _ _ _⟩,PtTo.refl P3⟩⟩) λk3=>?_));rw[qcm,qby]at k3;refine qz λZ b4 g4=>qct (g4.has b3) 0 rfl ?_;refine kbl9.call λv h5 ⟨g5,md,l1,l3,l4,l6,e,M5,q1,q3,q4,r1,r3,r4⟩=>?_;subst e;have z4:y.blks.size<Z.blks.size:=b4.lt;have z5:Z.blks.size<=h5.blks.size:=g5.size;have ad:=g5.has (g4.has b3);have aa:=g5.has b4;refine qy (seen rfl) (qbd (g5.same (g4.has b3) 0 1) (qbd (g5.same b4 0 0) (qy (M5.get m.kind) ?_)));have ae:=g4.trans g5;have T3:Tab y:=T0.md H;have M3:MsAt y Sm s5 s6 s7 m:=M.md H λj a b=>b (V j a).1;have C0:∀j,y.blks.size<=j->Rc C h2.blks.size y.blks.size 2 j=0:=λj hj=>Classical.byContradiction λx=>by have:=P3.lt j x;omega
 have af:=ok;obtain⟨hh,hl,he⟩:=ok
 have Q:∀x∈m.nats,x.length<=4:=λx hx=>by have:=List.any_eq_false.1 hl.2.2.1.2.2 x hx;unfold natNo at this;simp at this;omega
 have ab:∀j,Sm j->Rc C h2.blks.size y.blks.size 2 j=0:=λj x=>by rw[K j (V j x).2];exact(V j x).1
 obtain⟨F,ln,next,ac,qn,rn,hn,ag,ah,ai⟩:∃(F:FuncId)(ln:Sl)(next:List Int),kvGet (deedsL l1 l3 l4 l6) m.kind=some (.agg [.func (.func F) [] [],ln.v])/\Sq EI h5 (Fp.from Z.blks.size) ln next/\ln.ref≠none/\next.length<=100/\next=nextK m.kind/\
   (∀(args:List AV)(h:AH),callF Pg go F args h=go (.fn F args) h)/\
   (∀{I:AH},Tab I->PtIn I (Rc C h2.blks.size y.blks.size 2) bp q L t {p with ses:=(stakeF p.ses m.kind m.a).1}->MsAt I Sm s5 s6 s7 m->Runs (go (.fn F [.p (.new bp 0),.agg (m.cells s5 s6 s7)]) I) λv h'=>∃a,DeedR t {p with ses:=(stakeF p.ses m.kind m.a).1} m a/\Did I (Rc C h2.blks.size y.blks.size 2) bp q t a v h'):=by
  rcases hk with hk | hk | hk
  ·exact⟨_,l1,[3],by rw[hk];rfl,q1,r1,by decide,by rw[hk];rfl,kbce,λT6 U M6=>(kbh0 U M6 (he.1 hk) Q).imp λv h' d=>⟨_,.inl ⟨hk,rfl⟩,d⟩⟩
  ·exact⟨_,l3,_,by rw[hk];rfl,q3,r3,by decide,by rw[hk];rfl,kbai,λT6 U M6=>(k60 U M6 ab Q).imp λv h' d=>⟨_,.inr (.inl ⟨hk,rfl⟩),d⟩⟩
  ·exact⟨_,l4,_,by rw[hk];rfl,q4,r4,by decide,by rw[hk];rfl,kbpc,λT6 U M6=>(ask_is T6 U M6 hh.2.2.1).imp λv h' ⟨a,ra,d⟩=>⟨a,.inr (.inr ⟨hk,ra⟩),d⟩⟩
 show Runs ((AV.asAgg ((kvGet (deedsL l1 l3 l4 l6) m.kind).getD (.agg [.nilFunc,noS.v]))).bind _) _;rw[ac];refine qy rfl (qba rfl (qy rfl (qy rfl (qbd (kd8 aa aa 0 0) ?_))));refine q0 aa rfl λI b6 u6=>qy (b6.cell 0) ?_;have G:=ad.updr (show h.blks.size≠y.blks.size by omega) u6;refine qct G 0 rfl (qct G 1 rfl (qct G 2 rfl (qct G 3 rfl (qcs G 4 rfl (qcs G 5 rfl (qcs G 6 rfl ?_))))));refine Runs.yieldF ?_;have G6:Grow y I:=ae.updr (qbr _) u6;have U:=P3.grow G6;have D:=ai (T3.grow G6) U (M3.grow G6);show Runs ((callF Pg go F ([]++[.p (.new bp 0),.agg (m.cells s5 s6 s7)]++[]) I).bind _) _;rw[ah];have aj:Sq EI I (Fp.from Z.blks.size) ln next:=qn.upd (i:=y.blks.size) (λx=>by have x:Z.blks.size<=y.blks.size:=x;omega) u6;have:=k9g (x:=go (.fn F [.p (.new bp 0),.agg (m.cells s5 s6 s7)]) I) U b6 (C0 _ (qbr _)) aj (λj x=>C0 j (by have x:Z.blks.size<=j:=x;omega)) hn rn D;exact this.imp λv h7 ⟨a,ra,W⟩=>⟨_,.inr (.inr (.inr (.inr ⟨k0,af,k2,k3,a,ra,by rw[ag]⟩))),Took.next (H.thenG G6) K W⟩
end
end Go.Ab
set_option maxRecDepth 10000
namespace Go.Ab
open Go.Proofs Go.Num
section
variable{h h0:AH}{S St:Fp}{s1 s2 s3 s4 s:Sl}{t:Tb}{n1 n2 n3:Int}{b:Nat}{bs:List Nat}
theorem ky2(B:h.has b [.i n1,.i n2,.i n3,s1.v,s2.v,s3.v,s4.v] kcu)(Q:TabAt h S s1 s2 s3 t):∀(k i:Nat),i+k=21->i<=20->∀(n c:Int),
  Runs (go (.pt kem kme [(1,.p (.new b 0)),(3,.i n),(5,.i c),(6,.i (i:Int))]) h) λv h'=>(∃x:Bool,v=.bool x)/\h'=h:=by
 have r1:(h.cell (((Ref.new b 0).add 3).add 1)).bind AV.asSl=some s2:=B.rd 4 rfl qcq;have r2:(h.cell (((Ref.new b 0).add 3).add 2)).bind AV.asSl=some s3:=B.rd 5 rfl qcq;have r0:(h.cell (((Ref.new b 0).add 3).add 0)).bind AV.asSl=some s1:=B.rd 3 rfl qcq
 have y:∀(n c:Int),Runs (cond (decide (n<=300)) (((h.cell (((Ref.new b 0).add 3).add 2)).bind AV.asSl).bind λG=>cond (decide ((G.len:Int)<20)) (((h.cell (((Ref.new b 0).add 3).add 0)).bind AV.asSl).bind λz=>some (AV.bool (decide ((IntKind.wrap .i64 (c*(z.len:Int)))<=600)),h)) (some (.bool false,h))) (some (.bool false,h))) λv h'=>(∃x:Bool,v=.bool x)/\h'=h:=λn c =>qbc (λ_=>qy r2 (qbc (λ_=>qy r0 (qx ⟨⟨_,rfl⟩,rfl⟩)) λ_=>qx ⟨⟨_,rfl⟩,rfl⟩)) λ_=>qx ⟨⟨_,rfl⟩,rfl⟩
 intro k
 induction k with
 | zero=>intro i H F;omega
 | succ k ih =>intro i H F n c;rw[kbbk];refine qy r1 (qbc (λI=>qbc (λK=>?_) λ_=>y n c) λ_=>y n c);rw[qby]at I K;obtain⟨r,U,V⟩:=Q.bins.int (i:=i) (by have:=Q.bins.len;omega);refine qy r1 (qy U (qy V ?_));rw[ki (by omega)];exact ih (i+1) (by omega) (by omega) _ _
theorem kbdx(B:h.has b [.i n1,.i n2,.i n3,s1.v,s2.v,s3.v,s4.v] kcu)(Q:TabAt h S s1 s2 s3 t):∀(k i:Nat),i+k=21->i<=20->∀(n:Int),
  Runs (go (.pt kem koi [(1,.p (.new b 0)),(3,.i n),(4,.i (i:Int))]) h) λv h'=>(∃x:Bool,v=.bool x)/\h'=h:=by
 have r2:(h.cell (((Ref.new b 0).add 3).add 2)).bind AV.asSl=some s3:=B.rd 5 rfl qcq;intro k
 induction k with
 | zero=>intro i z y;omega
 | succ k ih =>intro i z y n;rw[kbcs];refine qy r2 (qbc (λF=>qbc (λG=>?_) λ_=>ky2 B Q 21 0 (by decide) (by decide) n 0) λ_=>ky2 B Q 21 0 (by decide) (by decide) n 0);rw[qby]at F G;obtain⟨r,s',H,I,-,-⟩:=Q.cols.sl (i:=i) (by have:=Q.cols.len;omega);refine qy r2 (qy H (qy I ?_));rw[ki (by omega)];exact ih (i+1) (by omega) (by omega) _
theorem k9m(Q:TabAt h S s1 s2 s3 t):Runs (go (.fn kem [.agg [.i n1,.i n2,.i n3,s1.v,s2.v,s3.v,s4.v]]) h) λv h'=>(∃x:Bool,v=.bool x)/\Grow h h':=by rw[k6n];refine qz λh1 b1 y=>qy (show(h1.cell (((Ref.new h.blks.size 0).add 3).add 0)).bind AV.asSl=some s1 from b1.rd 3 rfl qcq) ?_;exact(kbdx b1 (Q.grow y) 21 0 (by decide) (by decide) _).imp λv h' ⟨e,z⟩=>⟨e,by rw[z];exact y⟩
@[reducible] def kw5(a b c:Int):List AV:=[.i a,.i b,.i c,.i 0,.i 0,.i 0,.bool false,.i 0,noS.v,.bool false,.i 0,noS.v,.bool false,.i 0,noS.v,.bool false,.i 0,noS.v,.bool false,.i 0,noS.v,.bool false,.i 0,noS.v,.bool false,.i 0,noS.v,.bool false,.i 0,noS.v,.bool false,.i 0,noS.v,.bool false,.i 0,noS.v,.bool false,.i 0,noS.v,.bool false,.i 0,noS.v,.bool false,.i 0,noS.v,.bool false,.i 0,noS.v,.bool false,.i 0,noS.v,.bool false,.i 0,noS.v]
def GoodP(a b c:Int):Prop:=2<=b/\b<=16/\0<=a/\a<b/\1<=c/\c<=1073741824
theorem kblq{a b c:Int}:Runs (go (.fn ks1 [.i a,.i b,.i c]) h) λv h'=>Grow h h'/\
  ((v=.tup [.ptr none,.i 1]/\¬GoodP a b c)\/GoodP a b c/\∃i,v=.tup [.p (.new i 0),.i 0]/\h.blks.size<=i/\h'.has i (kw5 a b c) ktq):=by
 rw[kbkp]
 have no:∀{p:Prop},(p->¬GoodP a b c)->p->Runs (some (AV.tup [.ptr none,.i 1],h)) λv h'=>Grow h h'/\
  ((v=.tup [.ptr none,.i 1]/\¬GoodP a b c)\/GoodP a b c/\∃i,v=.tup [.p (.new i 0),.i 0]/\h.blks.size<=i/\h'.has i (kw5 a b c) ktq):=λ{p} f x=>qx ⟨qk h,.inl ⟨rfl,f x⟩⟩
 unfold GoodP at *
 refine qbc (λk=>no (λx=>by omega) (qb1 k)) λy=>qbc (λk=>no (λx=>by omega) (qb1 k)) λz=>qbc (λk=>no (λx=>by omega) (qb1 k)) λF=>qbc (λk=>no (λx=>by omega) (qb1 k)) λG=>qbc (λk=>no (λx=>by omega) (qb1 k)) λH=>qbc (λk=>no (λx=>by omega) (qb1 k)) λI=>?_;rw[qbx]at y z F G H I;exact qz λh1 b1 K=>qx ⟨K,.inr ⟨by omega,_,rfl,qbr _,b1⟩⟩
theorem kbkr{a b c:Int}{i:Nat}{e:TypeId}(U:h0.blks.size<=i)(K:Grow h0 h)(B:h.has i (kw5 a b c) e)(Q:Sq EI h S s [1]):Runs (go (.fn ki5 [.p (.new i 0),.i 0,s.v]) h) λv h'=>(∃z:Int,v=.i z)/\Grow h0 h':=by
 rw[kbl2];refine qy rfl (qct B 4 rfl (qbb rfl ?_))
 have V:Runs (go (.fn kuk [.p (.new i 0),.i 0]) h) λv h'=>(∃x:Bool,v=.bool x)/\h'=h:=by rw[kbav];refine qbc (λ_=>qy rfl (qct B 1 rfl (qbc (λ_=>qy rfl (qct B 0 rfl (qbc (λ_=>qy rfl (qct B 0 rfl (qbc (λ_=>qx ⟨⟨_,rfl⟩,rfl⟩) λ_=>qx ⟨⟨_,rfl⟩,rfl⟩))) λ_=>qx ⟨⟨_,rfl⟩,rfl⟩))) λ_=>qx ⟨⟨_,rfl⟩,rfl⟩))) λ_=>qx ⟨⟨_,rfl⟩,rfl⟩
 refine V.call λv h1 ⟨⟨x,y⟩,G⟩=>?_;subst y;subst G;refine qy (seen rfl) (qbc (λ_=>qx ⟨⟨_,rfl⟩,K⟩) λ_=>?_);have H:s.len=1:=Q.len;rw[H];refine qbb rfl ?_;obtain⟨r,y,G⟩:=Q.int (i:=0) (by decide);rw[H]at y;have y:idx s.ref 1 0 1=some r:=y;rw[k5j,H];refine qba rfl (qy y (qy G (qbb rfl (qy y (qy G (qbb rfl ?_))))));show Runs (go (.pt ki5 kqc [(0,.p (.new i 0)),(1,.i 0),(2,s.v),(8,.i 1)]) h1) _;rw[k5j,H];refine qbb rfl (qy rfl (qy (a:=(Ref.new i 6)) rfl (qy (show(h1.cell ((Ref.new i 6).add 0)).bind AV.asBool=some false from by rw[qj,B.cell];rfl) (qbb rfl (qy rfl (qct B 3 rfl (qy rfl ?_)))))));refine qz λh2 b2 F=>qbd (F.same B 3 1) ?_;obtain⟨p,s',i2,h3,W,Z,V3,I,aa⟩:=kuu (P:=Pg) (Q.bound.grow F) kf0 (klz (n:=1) (by decide)) b2 λj x=>x.2;refine qy W (qy Z (qy qcq (qbd (I.same (F.has B) 3 1) (qy (a:=(Ref.new i 6)) rfl ?_))));have B3:=I.has (F.has B);rw[B3.puts (o:=6) (by simp)];exact qx ⟨⟨_,rfl⟩,((K.trans F).trans I).updr U (AH.upd_Upd _ _ _ _)⟩
theorem kv1(Q:TabAt h St s1 s2 s3 t)(a b c:Int)(o:Option Ref):Runs (go (.fn ku2 [.i a,.i b,.i c,.agg [s1.v,s2.v,s3.v],.ptr o]) h) λv h'=>Grow h h'/\
  ((o=none/\v=.tup [.ptr none,.i 1])\/(o≠none/\partE a b c t≠0/\v=.tup [.ptr none,.i (partE a b c t)])\/(o≠none/\partE a b c t=0/\∃r,v=.tup [.ptr (some r),.i 0])):=by
 rw[kbp1];refine qz λh1 b1 Z=>?_
 have F:∀{h2:AH}(e:Int),(o=none->e=1)->(o≠none->partE a b c t=e/\e≠0)->Grow h h2->Runs (some (AV.tup [.ptr none,.i e],h2)) λv h'=>Grow h h'/\
  ((o=none/\v=.tup [.ptr none,.i 1])\/(o≠none/\partE a b c t≠0/\v=.tup [.ptr none,.i (partE a b c t)])\/(o≠none/\partE a b c t=0/\∃r,v=.tup [.ptr (some r),.i 0])):=λe h1 h2 g=>by
  by_cases G:o=none
  ·rw[h1 G];exact qx ⟨g,.inl ⟨G,rfl⟩⟩
  ·obtain⟨e1,e2⟩:=h2 G;exact qx ⟨g,.inr (.inl ⟨G,by rw[e1];exact e2,by rw[e1]⟩)⟩
 refine kblq.call λv h2 ⟨U,d⟩=>?_;have H:=Z.trans U;have B2:=U.has b1;rcases d with⟨rfl,hq⟩ | ⟨hq,i,rfl,hi,Bi⟩
 ·exact qy rfl (qy (seen rfl) (qy (seen qcr) (qba rfl (F 1 (λ_=>rfl) (λ_=>⟨if_pos (.inl hq),by decide⟩) H))))
 refine qy rfl (qy (seen rfl) (qy (seen qcr) (qbb rfl (qbc (λk=>F 1 (λ_=>rfl) (λ_=>⟨if_pos (.inr (qb1 k)),by decide⟩) H) λk=>?_))));rw[qbx]at k;refine qbc (λK=>F 1 (λ_=>rfl) (λG=>by cases o with | none=>exact absurd rfl G | some _=>cases K) H) λK=>?_;have G:o≠none:=λe=>by rw[e]at K;cases K
 refine qcs B2 0 rfl (qcs B2 1 rfl (qcs B2 2 rfl ?_));refine(kx8 (Q.grow H)).call λv h3 ⟨e,V⟩=>?_;subst e;have G3:=H.trans V;have n0:¬(¬GoodP a b c\/a=0):=λx=>x.elim (λy=>y hq) k;refine qy (seen rfl) (qbc (λI=>F 20 (λe=>absurd e G) (λ_=>⟨by rw[qcl]at I;unfold partE;exact(if_neg n0).trans (if_pos I),by decide⟩) G3) λI=>?_);rw[qcm]at I
 have e0:partE a b c t=0:=by unfold partE;exact(if_neg n0).trans (if_neg (by rw[I];simp))
 refine qz λh4 b4 g4=>?_;have lit:Sq EI h4 (Fp.or (λj=>j=h3.blks.size) Fp.no) ⟨some (.new h3.blks.size 0),1,.is 1⟩ [1]:=Sq.lit (rows:=[[.i 1]]) b4 (.cons rfl .nil) rfl;refine(kbkr (h0:=h1) hi ((U.trans V).trans g4) (g4.has (V.has Bi)) lit).call λv h5 ⟨⟨z,e⟩,g5⟩=>?_;subst e;refine qy (seen qcr) (qz λh6 b6 g6=>?_);have W:=g6.has (g5.has b1);exact qcs W 0 rfl (qcs W 1 rfl (qcs W 2 rfl (qz λh7 b7 g7=>qx ⟨((Z.trans g5).trans g6).trans g7,.inr (.inr ⟨G,e0,_,rfl⟩)⟩)))
end
end Go.Ab
set_option maxRecDepth 10000
namespace Go.Ab
open Go.Proofs Go.Num
theorem kyo{x:Int}(h0:0<=x)(h1:x<=1073741824):oddI x=false:=by unfold oddI;rw[qb0 (by omega),qb0 (by omega)];rfl
theorem k5p{x:List Nat}(h0:rt x=true)(h1:x.length<=4):natNo x=false:=by unfold natNo;rw[h0,qb0 (by omega)];rfl
theorem k1j{n:Int}{N:List Nat}(h0:0<=n)(h1:n<=1000)(y:rt N=true)(z:N.length<=4):(⟨1,n,1,0,[],[],[N]⟩:Ms).ok:=by
 have F:=kyo (x:=n) h0 (by omega);have G:=k5p y z;refine⟨⟨(by decide:(1:Int)<=1),(by decide:(1:Int)<=11),F,(by decide:oddI 1=false),(by decide:oddI 0=false),λh=>?_,λ_=>rfl⟩,⟨⟨by simp,.inr (.inr rfl),rfl⟩,⟨by simp,.inr (.inr rfl),rfl⟩,⟨by simp,.inl rfl,by simp[G]⟩,rfl⟩,⟨λ_=>rfl,λh=>?_,λh=>?_,λh=>?_⟩⟩
 ·rcases h with h | h | h<;>(have h:(1:Int)=_:=h;omega)
 all_goals (have h:(1:Int)=_:=h;omega)
theorem kbix{X:List (List Nat)}(G:X.length<=1000)(y:∀x∈X,rt x=true/\x.length<=4):(⟨3,0,0,0,[],[],X⟩:Ms).ok:=by
 have F:X.any natNo=false:=by rw[List.any_eq_false];intro x z;rw[k5p (y x z).1 (y x z).2];simp
 refine⟨⟨(by decide:(1:Int)<=3),(by decide:(3:Int)<=11),(by decide:oddI 0=false),(by decide:oddI 0=false),(by decide:oddI 0=false),λ_=>rfl,λ_=>rfl⟩,⟨⟨by simp,.inr (.inr rfl),rfl⟩,⟨by simp,.inr (.inr rfl),rfl⟩,⟨by show X.length<=16384;omega,.inr (.inl rfl),F⟩,rfl⟩,⟨λh=>?_,λh=>?_,λh=>?_,λh=>?_⟩⟩
 all_goals (have h:(3:Int)=_:=h;omega)
theorem ask_ok{n:Nat}(U:n<=1000):(⟨4,0,0,0,[],zs (List.range n),[]⟩:Ms).ok:=by
 have H:(zs (List.range n)).length=n:=by rw[zs_len,qcn]
 have G:∀i,i<n->(zs (List.range n)).getD i 0=(i:Int):=λi z=>by unfold zs;rw[List.getD_eq_getElem?_getD,List.getElem?_map,List.getElem?_range z];rfl
 have I:(zs (List.range n)).any oddI=false:=by rw[List.any_eq_false];intro x F;unfold zs at F;rw[List.mem_map]at F;obtain⟨y,K,rfl⟩:=F;rw[qco]at K;rw[kyo (by omega) (by omega)];simp
 have Q:(List.range (zs (List.range n)).length).all (riseOk (zs (List.range n)))=true:=by
  rw[H,List.all_eq_true];intro i z;rw[qco]at z;unfold riseOk;by_cases h0:i=0
  ·rw[qbz h0];rfl
  ·rw[G i z,G (i-1) (by omega),qb0 (p:=(i:Int)<=((i-1:Nat):Int)) (by omega)];simp
 refine⟨⟨(by decide:(1:Int)<=4),(by decide:(4:Int)<=11),(by decide:oddI 0=false),(by decide:oddI 0=false),(by decide:oddI 0=false),λ_=>rfl,λ_=>rfl⟩,⟨⟨by simp,.inr (.inr rfl),rfl⟩,⟨by show(zs (List.range n)).length<=16384;omega,.inl rfl,I⟩,⟨by simp,.inr (.inr (.inr rfl)),rfl⟩,Q⟩,⟨λh=>?_,λh=>?_,λh=>?_,λh=>?_⟩⟩
 all_goals (have h:(4:Int)=_:=h;omega)
section
variable{t:Tb}{p:Pt}{m:Ms}{r:List Ms×Pt}
theorem kvo{l:List Int}{k:Int}(hk:m.kind=k)(y:k≠11)(z:(l.any λx=>decide (x=k))=true)(hs:p.ses=⟨0,0,0,some (0,l)⟩)(ok:m.ok)(R:TakeR t p m r):∃a,DeedR t {p with ses:=⟨0,0,0,none⟩} m a/\r=tailF a (nextK k):=by
 subst hk
 have F:stakeF p.ses m.kind m.a=(⟨0,0,0,none⟩,0):=by rw[hs];unfold stakeF waitL;rw[if_neg (by simp),if_neg y];dsimp only;rw[if_neg (by rw[z];simp)]
 have G:p.ses.phase=0:=by rw[hs]
 unfold TakeR at R;rw[F]at R;rcases R with⟨h,-⟩ | ⟨-,h,-⟩ | ⟨-,-,h,-⟩ | ⟨-,-,-,h,-⟩ | ⟨-,-,-,-,a,h1,h2⟩
 ·exact absurd G h
 ·exact absurd ok h
 ·exact absurd rfl h
 ·exact absurd rfl h
 ·exact⟨a,h1,h2⟩
theorem k5m{l:List Int}(h0:l.length≠0)(h1:l.any oddK=false):awaitF ⟨0,0,0,none⟩ l=(⟨0,0,0,some (0,l)⟩,0):=by unfold awaitF;rw[if_neg (by simp),if_neg (by rw[h1];simp;intro e;rw[e]at h0;exact h0 rfl),if_neg (by simp)]
theorem k0f(hk:m.kind=1)(hs:p.ses=⟨0,0,0,some (0,[1])⟩)(ok:m.ok)(y:m.a=(t.ids.length:Int))(hb:1<=m.b/\m.b<=16)(z:kbj (m.nats.getD 0 [])=true)(R:TakeR t p m r) :
  r=([⟨2,(t.ids.length:Int),(t.cols.length:Int),0,[],[],[]⟩],{p with key:=m.nats.getD 0 [],trees:=m.b,ses:=⟨0,0,0,some (0,[3])⟩}):=by
 obtain⟨a,d,e⟩:=kvo hk (by decide) (by decide) hs ok R;rcases d with⟨-,rfl⟩ | ⟨h,-⟩ | ⟨h,-⟩
 ·have:setupF t {p with ses:=⟨0,0,0,none⟩} m=([⟨2,(t.ids.length:Int),(t.cols.length:Int),0,[],[],[]⟩],0,{p with ses:=⟨0,0,0,none⟩,key:=m.nats.getD 0 [],trees:=m.b}):=by
   unfold setupF;rw[if_neg (by rw[y];simp),if_neg (by rw[z];simp;omega)]
  rw[this]at e;unfold tailF at e;rw[if_neg (by simp)]at e;rw[e];show(_,{p with ses:=(awaitF ⟨0,0,0,none⟩ (nextK 1)).1,key:=m.nats.getD 0 [],trees:=m.b})=_;rw[show nextK 1=[3]from rfl,k5m (by decide) (by decide)]
 ·rw[hk]at h;exact absurd h (by decide)
 ·rw[hk]at h;exact absurd h (by decide)
theorem kbgs(hk:m.kind=3)(hs:p.ses=⟨0,0,0,some (0,[3])⟩)(ok:m.ok)(z:m.a=p.tree+1)(hb:m.a<p.trees)(F:m.nats.length=t.ids.length)(y:oddC p.key m.nats=false)(R:TakeR t p m r) :
  r=([],{p with tree:=m.a,hidden:=m.nats,ses:=⟨0,0,0,some (0,[3,4,10])⟩}):=by
 obtain⟨a,d,e⟩:=kvo hk (by decide) (by decide) hs ok R;rcases d with⟨h,-⟩ | ⟨-,rfl⟩ | ⟨h,-⟩
 ·rw[hk]at h;exact absurd h (by decide)
 ·have:gradsF t {p with ses:=⟨0,0,0,none⟩} m=([],0,{p with ses:=⟨0,0,0,none⟩,tree:=m.a,hidden:=m.nats}):=by
   unfold gradsF;rw[if_neg (show¬(m.a≠p.tree+1\/m.a>=p.trees) by omega),if_neg (by omega),if_neg (by rw[y];simp)]
  rw[this]at e;unfold tailF at e;rw[if_neg (by simp)]at e;rw[e];show(_,{p with ses:=(awaitF ⟨0,0,0,none⟩ (nextK 3)).1,tree:=m.a,hidden:=m.nats})=_;rw[show nextK 3=[3,4,10]from rfl,k5m (by decide) (by decide)]
 ·rw[hk]at h;exact absurd h (by decide)
theorem kbe4{n:Nat}(K:m=⟨4,0,0,0,[],zs (List.range n),[]⟩)(hn:n<=1000)(z:t.ids.length=n)(hR:tabR t=true)(hs:p.ses=⟨0,0,0,some (0,[3,4,10])⟩)(ht:p.tree=0)(Q:p.msk=⟨[],[]⟩)(may:kbj p.key=true)(hC:p.hidden.length=n)(hv:∀c∈p.hidden,kbs p.key c=true)(R:TakeR t p m r) :
  (∃P,r=([abM 7],P))\/∃(o:List Nat)(P:Pt),o.length=(cutsL t).length/\(∀x∈o,x<(cutsL t).length)/\P.msk.given=addG ⟨[],[]⟩ 0 0 (cutsL t) o/\
   r=([⟨5,0,0,0,(List.range o.length).map λx=>((x:Nat):Int),[],o.map λk=>(sumsC (kcg p.key) p.hidden (λx=>(List.range n).filter (leftP t x.1 (x.2:Int))) (cutsL t)).getD k []⟩],P):=by
 obtain⟨a,d,e⟩:=kvo (k:=4) (by rw[K]) (by decide) (by decide) hs (by rw[K];exact ask_ok hn) R;have hk:m.kind=4:=by rw[K]
 have hc:=kq7 t hR;rcases d with⟨h,-⟩ | ⟨h,-⟩ | ⟨-,d⟩
 ·rw[hk]at h;exact absurd h (by decide)
 ·rw[hk]at h;exact absurd h (by decide)
 subst K;dsimp only[AskR]at d
 have F:oddR t.ids.length (zs (List.range n))=false:=by unfold oddR;rw[List.any_eq_false];intro x G;unfold zs at G;rw[List.mem_map]at G;obtain⟨y,hy,rfl⟩:=G;rw[qco]at hy;simp;omega
 rcases d with⟨h,-⟩ | ⟨-,h,-⟩ | ⟨-,-,d⟩
 ·exact absurd ht.symm h
 ·rw[F]at h;cases h
 have H:¬(oddI 0=true\/oddI 0=true\/((0:Int),(0:Int))∈p.msk.nodes\/1048576<p.msk.given.length+(cutsL t).length):=by
  rw[Q]
  rintro (x | x | x | x)
  ·exact absurd x (by decide)
  ·exact absurd x (by decide)
  ·simp at x
  ·simp at x;omega
 rcases d with⟨h1,h2⟩ | ⟨o,w,h1,hw,sw,d⟩
 ·left
  have e7:(issueF p.msk p.bytes 0 0 (cutsL t)).1.2=7:=by
   rw[kpu H]at h1|-;generalize (shufF ((cutsL t).length-1) (List.range (cutsL t).length) p.bytes)=q at *
   cases hq:q.1 with
   | none=>rfl
   | some o=>rw[hq]at h1;cases h1
  rw[e7]at h2;rw[h2]at e;unfold tailF at e;rw[if_pos (show(7:Int)≠0 by decide)]at e;exact⟨_,e⟩
 ·right
  obtain⟨ol,U⟩:=k4c h1;obtain⟨wl,wb⟩:=sw
  have V:∀b:Nat,wbit w b=decide (b∈List.range n):=λb=>by
   rw[wb b,decide_eq_decide];unfold zs;rw[List.mem_map];constructor
   ·rintro ⟨y,h3,h4⟩
    have:y=b:=by omega
    rwa[<- this]
   ·intro h3;exact⟨b,h3,rfl⟩
  rw[z]at wl;obtain⟨I,W⟩:=ofP_bt (n:=n) (by omega) (λx G=>qco.1 G) wl V;have ci:=kbal (w:=w) (t:=t) (C:=p.hidden) may hR (by rw[z];exact I) (by omega) hv
  have eA:rowsL t (t.ids.length:Int) w=λx=>(List.range n).filter (leftP t x.1 (x.2:Int)):=by funext x;rw[kbfz (by rw[z];exact I),z,W];congr 1;rw[List.filter_eq_self];intro i hi;exact qbz hi
  rw[eA]at ci;rw[ci]at d
  have Z:(issueF p.msk p.bytes 0 0 (cutsL t)).2.1.given=addG ⟨[],[]⟩ 0 0 (cutsL t) o:=by
   rw[kpu H]at h1|-;generalize (shufF ((cutsL t).length-1) (List.range (cutsL t).length) p.bytes)=q at *
   cases hq:q.1 with
   | none=>rw[hq]at h1;cases h1
   | some o' =>rw[hq]at h1;cases h1;dsimp only;rw[Q]
  rcases d with⟨h,-⟩ | ⟨-,h2⟩
  ·exact absurd rfl h
  ·rw[h2]at e;unfold tailF at e;rw[if_neg (by simp)]at e;refine⟨o,r.2,ol,U,by rw[e];exact Z,Prod.ext ?_ rfl⟩;rw[e];dsimp only;unfold idsG;rw[Q];simp
end
def initP(bs:List Nat):Pt:=⟨⟨0,0,0,some (0,[1])⟩,⟨[],[]⟩,bs,[],0,-1,[],0⟩
section
variable{h:AH}{s1 s2 s3 s4:Sl}{t:Tb}{bs:List Nat}
theorem kbao(Q:TabAt h Fp.no s1 s2 s3 t)(Qb:Sq Ef.byte h Fp.no s4 bs)(a b c:Int):Runs (go (.fn kvx [.agg [.i a,.i b,.i c,s1.v,s2.v,s3.v,s4.v]]) h) λv h'=>Grow h h'/\∃o2:Option Ref,
  (v=.tup [.ptr none,.ptr o2,.bool true]\/∃bp C L,v=.tup [.p (.new bp 0),.ptr o2,.bool true]/\PtIn h' C bp (a,b,c) L t (initP bs)/\∀j,C j≠0->h.blks.size<=j):=by
 rw[k98];refine qz λh1 b1 g1=>qcs b1 6 rfl ?_;refine(k1l (Qb.grow g1)).call λv h2 ⟨g2,d⟩=>?_;have G2:=g1.trans g2;have ad:∀{z:AH}{o1:Option Ref}{e1:Int}{o3:Option Ref}{e3:Int},z.has h.blks.size [.i a,.i b,.i c,s1.v,s2.v,s3.v,s4.v] kcu->Grow h z->True:=λ_ _=>trivial
 have rd:∀{z:AH},z.has h.blks.size [.i a,.i b,.i c,s1.v,s2.v,s3.v,s4.v] kcu->
   (z.cell (.new h.blks.size 0)).bind (AV.asInt .i64)=some a/\(z.cell (.new h.blks.size 1)).bind (AV.asInt .i64)=some b/\(z.cell (.new h.blks.size 2)).bind (AV.asInt .i64)=some c/\
   (z.cell (((Ref.new h.blks.size 0).add 3).add 0)).bind AV.asSl=some s1/\(z.cell (((Ref.new h.blks.size 0).add 3).add 1)).bind AV.asSl=some s2/\(z.cell (((Ref.new h.blks.size 0).add 3).add 2)).bind AV.asSl=some s3:=λB =>
  ⟨B.rd 0 rfl qcr,B.rd 1 rfl qcr,B.rd 2 rfl qcr,B.rd 3 rfl qcq,B.rd 4 rfl qcq,B.rd 5 rfl qcq⟩
 have b2:=g2.has b1;rcases d with⟨aa,rfl⟩ | ⟨small,it,rfl,ta⟩
 ·refine qy rfl (qy (seen rfl) (qy (seen qcr) (qcs b2 6 rfl ?_)));refine(k3b (Qb.grow G2)).call λv z ⟨F,d⟩=>?_;have G3:=G2.trans F;rcases d with⟨-,rfl⟩ | ⟨small,-⟩
  ·obtain⟨G,H,I,K,U,V⟩:=rd (F.has b2);refine qy rfl (qy (seen rfl) (qy (seen qcr) (qbb rfl (qbb rfl ?_))));refine qy (a:=Ref.new h.blks.size 0) rfl (qy G (qy (a:=Ref.new h.blks.size 1) rfl (qy H (qy (a:=Ref.new h.blks.size 2) rfl (qy I (qy K (qy U (qy V ?_))))))));refine(k9w (Q.grow G3) a b c).call λv h4 ⟨g4,e⟩=>?_;subst e;have W:=G3.trans g4;obtain⟨G,H,I,K,U,V⟩:=rd (g4.has (F.has b2));refine qy rfl (qy (seen rfl) (qy (seen qcr) ?_));refine qy (a:=Ref.new h.blks.size 0) rfl (qy G (qy (a:=Ref.new h.blks.size 1) rfl (qy H (qy (a:=Ref.new h.blks.size 2) rfl (qy I (qy K (qy U (qy V ?_))))))));refine(kv1 (Q.grow W) a b c none).call λv h5 ⟨Z,d⟩=>?_;rcases d with⟨-,rfl⟩ | ⟨x,-⟩ | ⟨x,-⟩
   ·exact qy rfl (qy (seen rfl) (qy (seen qcr) (qba rfl (qx ⟨W.trans Z,none,.inl rfl⟩))))
   ·exact absurd rfl x
   ·exact absurd rfl x
  ·omega
 ·refine qy rfl (qy (seen rfl) (qy (seen qcr) (qcs b2 6 rfl ?_)));refine(k3b (Qb.grow G2)).call λv z ⟨F,d⟩=>?_;have G3:=G2.trans F;rcases d with⟨aa,-⟩ | ⟨-,iu,rfl,-⟩
  ·omega
  obtain⟨G,H,I,K,U,V⟩:=rd (F.has b2);refine qy rfl (qy (seen rfl) (qy (seen qcr) (qbb rfl (qbb rfl ?_))));refine qy (a:=Ref.new h.blks.size 0) rfl (qy G (qy (a:=Ref.new h.blks.size 1) rfl (qy H (qy (a:=Ref.new h.blks.size 2) rfl (qy I (qy K (qy U (qy V ?_))))))));refine(kyz (Q.grow G3) (ta.grow F) (λ_ x _=>x.elim) (λ_ x=>x.elim) a b c).call λv h4 ⟨g4,d⟩=>?_;have W:=G3.trans g4;have z1:=g1.size;have z2:=g2.size;have z3:=F.size;obtain⟨G,H,I,K,U,V⟩:=rd (g4.has (F.has b2));rcases d with⟨ab,rfl⟩ | ⟨ac,bp,C,L,rfl,P,hC⟩
  ·refine qy rfl (qy (seen rfl) (qy (seen qcr) ?_));refine qy (a:=Ref.new h.blks.size 0) rfl (qy G (qy (a:=Ref.new h.blks.size 1) rfl (qy H (qy (a:=Ref.new h.blks.size 2) rfl (qy I (qy K (qy U (qy V ?_))))))));refine(kv1 (Q.grow W) a b c (some (.new iu 0))).call λv h5 ⟨Z,d⟩=>?_;rcases d with⟨x,-⟩ | ⟨-,-,rfl⟩ | ⟨-,x,-⟩
   ·cases x
   ·exact qy rfl (qy (seen rfl) (qy (seen qcr) (qba (qbz rfl) (qx ⟨W.trans Z,none,.inl rfl⟩))))
   ·exact absurd x ab
  ·refine qy rfl (qy (seen rfl) (qy (seen qcr) ?_));refine qy (a:=Ref.new h.blks.size 0) rfl (qy G (qy (a:=Ref.new h.blks.size 1) rfl (qy H (qy (a:=Ref.new h.blks.size 2) rfl (qy I (qy K (qy U (qy V ?_))))))));refine(kv1 (Q.grow W) a b c (some (.new iu 0))).call λv h5 ⟨Z,d⟩=>?_;rcases d with⟨x,-⟩ | ⟨-,x,-⟩ | ⟨-,-,r,rfl⟩
   ·cases x
   ·exact absurd ac x
   ·refine qy rfl (qy (seen rfl) (qy (seen qcr) (qba rfl (qx ⟨W.trans Z,some r,.inr ⟨bp,C,L,rfl,P.grow Z,λj x=>?_⟩⟩))));rcases hC j x with y | y | y
    ·have y:h1.blks.size<=j/\j<h2.blks.size:=y;omega
    ·exact y.elim
    ·omega
theorem tab789:tabR ⟨[7,8,9],[],[]⟩=true:=by decide
theorem kbhe:kbj [17947]=true:=by decide +kernel
theorem kbk8(T0:Tab h):Runs (go (.fn ksr []) h) λv h'=>v=.bool true/\Grow h h':=by
 rw[kbm5];refine(k1l (qbn Ef.byte h Fp.no)).call λv h1 ⟨Z,d⟩=>?_;rcases d with⟨U,-⟩ | ⟨-,it,rfl,ta⟩
 ·exact absurd U (by decide)
 refine qy rfl (qy (seen rfl) (qy (seen qcr) (qbb rfl (qbb rfl ?_))));refine qz λh2 b2 g2=>?_;have z1:=Z.size;have z2:h1.blks.size<h2.blks.size:=b2.lt;have T2:TabAt h2 (Fp.or (λj=>j=h1.blks.size) Fp.no) ⟨some (.new h1.blks.size 0),3,.is 3⟩ noS noS ⟨[7,8,9],[],[]⟩:=⟨Sq.lit (rows:=[[.i 7],[.i 8],[.i 9]]) b2 (.cons rfl (.cons rfl (.cons rfl .nil))) rfl,qbn _ _ _,qbn _ _ _⟩;have G:∀j,(Fp.or (λj=>j=h1.blks.size) Fp.no) j->j=h1.blks.size:=λj x=>x.elim id λy=>y.elim
 refine(kyz T2 (ta.grow g2) (λj x y=>by have:=G j x;have y:h.blks.size<=j/\j<h1.blks.size:=y;omega) (λj x=>by have:=G j x;omega) 1 2 5).call λv z ⟨g3,d⟩=>?_
 have e0:partE 1 2 5 ⟨[7,8,9],[],[]⟩=0:=by unfold partE;rw[if_neg (by omega),if_neg (by rw[tab789];simp)]
 rcases d with⟨x,-⟩ | ⟨-,bp,C,L,rfl,P,hC⟩
 ·exact absurd e0 x
 refine qy rfl (qy (seen rfl) (qy (seen qcr) (qbb rfl (qbb rfl ?_))));refine qz λH b4 g4=>qz λK b5 V=>?_;have z3:h2.blks.size<=z.blks.size:=g3.size;have z4:z.blks.size<H.blks.size:=b4.lt;have z5:H.blks.size<K.blks.size:=b5.lt;have N1:Nats K ⟨some (.new z.blks.size 0),1,.is 1⟩ [17947]:=Nats.of_has (xs:=[17947]) (V.has b4) (by decide) (by decide);have A1:∀j,¬Av ⟨some (.new z.blks.size 0),1,.is 1⟩ j [17947]->j=z.blks.size:=λj k=>Classical.byContradiction λW=>k (.inr λo e=>by cases e;exact W rfl);have Q5:Sq Ef.nats K (Fp.or (λx=>x=H.blks.size) λx=>x=z.blks.size) ⟨some (.new H.blks.size 0),1,.is 1⟩ [[17947]]:=Sq.lit (rows:=[[_]]) b5 (.cons ⟨_,rfl,N1,A1⟩ .nil) rfl;have G5:Grow h K:=((Z.trans g2).trans (g3.trans (g4.trans V)));have P5:=P.grow (g4.trans V);have C0:∀x,z.blks.size<=x->C x=0:=λx F=>Classical.byContradiction λy=>by have:=P.lt x y;omega
 refine(kpi (T0.grow G5) P5 (m:=⟨1,3,1,0,[],[],[[17947]]⟩) (s5:=noS) (s6:=noS) (s7:=⟨some (.new H.blks.size 0),1,.is 1⟩) (Sm:=(Fp.or (λx=>x=H.blks.size) λx=>x=z.blks.size)) ⟨qbn _ _ _,qbn _ _ _,Q5⟩ (λx F=>by
   rcases F with F | F
   ·have F:x=H.blks.size:=F;exact⟨C0 x (by omega),by omega⟩
   ·have F:x=z.blks.size:=F;exact⟨C0 x (by omega),by omega⟩) (.inl rfl)).call λv h6 ⟨r,R,⟨s,e,Q⟩,C',L',P',m',_⟩=>?_
 subst e;have hr:=k0f rfl rfl (k1j (n:=3) (by decide) (by decide) (by decide +kernel) (by decide)) rfl ⟨by decide,by decide⟩ kbhe R;rw[hr]at Q;have hl:s.len=1:=Q.len;obtain⟨rr,cs,I,⟨t5,t6,t7,ec,-⟩,LL⟩:=Q.at (khc (i:=0) (by decide));subst ec;have I:idx s.ref 1 0 7=some rr:=I;rw[<- hl]at I;have gg:=qk h6;refine qy (seen qcq) (qba (by rw[hl];rfl) (qy I (qy (LL.rd gg 0 rfl qcr) (qba rfl (qy I (qy (LL.rd gg 1 rfl qcr) (qx ⟨rfl,?_⟩)))))));refine(G5.thenM m').grow λj hj x=>?_;rcases hC j x with y | y | y
 ·have y:h.blks.size<=j/\j<h1.blks.size:=y;omega
 ·have:=G j y;omega
 ·omega
end
end Go.Ab
set_option maxRecDepth 10000
namespace Go.Ab
open Go.Proofs Go.Num
section
variable{h0:AH}{S Su So:Fp}{s1 s2 s3 s4 s u ms z:Sl}{t:Tb}{p q:Nat}{C:List (List Nat)}(k:KeyOk p q)(p2:p<1099511627776)(q2:q<1099511627776)(hb:badF (p:Int) (q:Int)=false)(may:kbj (digs B (p*q))=true)(lC:∀c∈C,∀x∈c,x<B)(hv:∀c∈C,kbs (digs B (p*q)) c=true)
include k p2 q2 hb may lC hv
theorem ph_sum(qt:TabAt h0 S s1 s2 s3 t)(M:Sq Ef.nats h0 So ms (C.map λc=>(decF (p:Int) (q:Int) c).1)){b1 b2 Z bp:Nat}{n1 n2 n3:Int}(B1:h0.has b1 [.int .u64 (p:Int),.int .u64 (q:Int)] ket)(B2:h0.has b2 [.i n1,.i n2,.i n3,s1.v,s2.v,s3.v,s4.v] kcu){nn:Sl}(Nn:Nats h0 nn (digs B (p*q)))
  {rr:Ref} {t5 t6 t7:Sl} {msg:Ms} (e1:idx z.ref z.len 0 7=some rr) (LL:Lies h0 rr (msg.cells t5 t6 t7)) {Sy:Fp} {Ys:List (List Nat)} (Y:Sq Ef.nats h0 Sy t7 Ys) {i f c:Nat} (V:i<Ys.length) (ae:Ys[i]=prodC (digs B (p*q*(p*q))) C ((List.range C.length).filter (leftP t f (c:Int))) [1]) (hD:Ys.length<=1000) (hC:C.length<=300) (hf:f<t.cols.length) (al:t.cols[f].length=C.length) {P:AV->AH->Prop}
  (hP:∀h,Grow h0 h->Runs (go (.pt kcc kln [(3,.p (.new b1 0)),(4,.p (.new b2 0)),(9,nn.v),(11,.p (.new bp 0)),(15,ms.v),(19,z.v),(22,.i ((i+1:Nat):Int))]) h) P) :
  ∀(kk j:Nat),j+kk=C.length->∀(h:AH)(a:Sl),Grow h0 h->h.has Z [.i (f:Int),.i (c:Int)] kbk->Nats h a (digs B (sumD p q C ((List.range j).filter (leftP t f (c:Int))) 0))->
  Runs (go (.pt kcc km7 [(3,.p (.new b1 0)),(4,.p (.new b2 0)),(9,nn.v),(11,.p (.new bp 0)),(15,ms.v),(19,z.v),(22,.i (i:Int)),(23,.p (.new Z 0)),(25,a.v),(26,.i (j:Int))]) h) P:=by
 have af:ms.len=C.length:=by rw[M.len,qb3]
 have aa:∀i,i<C.length->Nat.Coprime (num B (C.getD i [])) (p*q):=λi V=>by
  have:C.getD i []=C[i]:=by simp[List.getD,V]
  rw[this];exact(kll k p2 q2 lC hv V).2.2
 have ab:p*q<B^2:=key_lt p2 q2
 have small:∀(l:List Nat),(∀i∈l,i<C.length)->l.length<=300->sumD p q C l 0<B^3:=λl W F=>by
  have h1:=k6f k l 0 λi V=>aa i (W i V);have h2:l.length*(p*q)<=300*(p*q):=Nat.mul_le_mul_right _ F
  have h3:300*(p*q)<B^3:=by
   have:B^3=B*B^2:=by rw[<- Nat.pow_succ']
   rw[this];exact Nat.mul_lt_mul'' (by decide) ab
  omega
 have ac:B^3<B^64:=Nat.pow_lt_pow_right (by decide) (by decide);intro kk
 induction kk with
 | zero =>
  intro j hj h a G H N;obtain rfl:j=C.length:=by omega
  obtain⟨r1,y,e3,e4,Ny,-⟩:=(Y.grow G).nats V;rw[ae]at Ny;rw[Y.len]at e3;have W:∀x∈(List.range C.length).filter (leftP t f (c:Int)),x<C.length:=λx hx=>qco.1 (List.mem_filter.1 hx).1
  have F:((List.range C.length).filter (leftP t f (c:Int))).length<=300:=by have:=List.length_filter_le (leftP t f (c:Int)) (List.range C.length);rw[qcn]at this;omega
  rw[k21,af];refine qbb (qb0 (by omega)) (qy ((G.has B1).rd 0 (f:=AV.asInt .u64) rfl qcr) (qy ((G.has B1).rd 1 (f:=AV.asInt .u64) rfl qcr) (qy e1 (qy (LL.rd G 6 rfl qcq) ?_))));rw[Y.len];refine qy e3 (qy e4 ?_);refine(k38 Ny p q).call λv h1 ⟨x,e,Nx,g1,o1⟩=>?_;subst e;rw[kbiy k p2 q2 lC hv hb may W]at Nx|-;have G1:=G.trans g1;refine qy rfl (qy (seen qcq) (qy (seen qcr) ?_));dsimp only;obtain⟨y',h2,e5,I,g2,o2⟩:=kbik (N.grow g1) (Nn.grow G1);refine qy e5 (qy (seen qcq) ?_);dsimp only;have K:=small _ W F;rw[k4v (Nat.lt_trans K ac) (Nat.lt_trans ab (Nat.pow_lt_pow_right (by decide) (by decide))) (kjl k)]at I;refine qy (kbj2 (Nx.grow g2) I) (qy (seen rfl) (qbb rfl (qbb rfl ?_)));rw[ki (by omega)];exact hP _ (G1.trans g2)
 | succ kk ih =>
  intro j hj h a G H N;have U:j<C.length:=by omega
  obtain⟨r2,s',e4,e5,-,q'⟩:=(qt.cols.grow G).sl hf;have ad:j<t.cols[f].length:=by omega
  obtain⟨r4,e8,e9⟩:=q'.int ad
  have hp:leftP t f (c:Int) j=decide (t.cols[f][j]<=(c:Int)):=by unfold leftP;simp[List.getD,hf,ad]
  have hr:(List.range (j+1)).filter (leftP t f (c:Int))=(List.range j).filter (leftP t f (c:Int))++if leftP t f (c:Int) j then [j]else []:=by rw[List.range_succ,List.filter_append];congr 1;simp only[List.filter_cons,List.filter_nil]
  rw[k21];refine qba (qbz (by omega)) (qy (show(h.cell (((Ref.new b2 0).add 3).add 2)).bind AV.asSl=some s3 from(G.has B2).rd 5 rfl qcq) (qct H 0 rfl (qy e4 (qy e5 (qy e8 (qy e9 (qct H 1 rfl ?_)))))));rw[<- hp];refine qbc (λc1=>?_) λc1=>?_
  ·have ag:j<(C.map λc=>(decF (p:Int) (q:Int) c).1).length:=by rw[qb3];exact U
   obtain⟨r5,x,ah,ai,Nx,-⟩:=(M.grow G).nats ag
   have aj:(C.map λc=>(decF (p:Int) (q:Int) c).1)[j]=digs B (hidOf p q (num B C[j])):=by rw[List.getElem_map,kbfm k p2 q2 hb may lC hv U]
   rw[aj]at Nx;refine qy ah (qy ai ?_);obtain⟨y',h2,ak,I,g2,o2⟩:=kbm4 N Nx;refine qy ak (qy rfl (qy (seen qcq) (qy (seen qcr) ?_)));dsimp only;have W:∀x∈(List.range (j+1)).filter (leftP t f (c:Int)),x<C.length:=λx hx=>by have:=qco.1 (List.mem_filter.1 hx).1;omega
   have F:((List.range (j+1)).filter (leftP t f (c:Int))).length<=300:=by have:=List.length_filter_le (leftP t f (c:Int)) (List.range (j+1));rw[qcn]at this;omega
   have K:=small _ W F
   have Q:sumD p q C ((List.range (j+1)).filter (leftP t f (c:Int))) 0=sumD p q C ((List.range j).filter (leftP t f (c:Int))) 0+hidOf p q (num B C[j]):=by
    rw[hr,c1,if_pos rfl];unfold sumD;have:C.getD j []=C[j]:=by simp[List.getD,U]
    rw[List.foldl_append,List.foldl_cons,List.foldl_nil,this]
   rw[Q]at K;rw[kbdr (Nat.lt_trans K ac)]at I;rw[ki (by omega)];refine ih (j+1) (by omega) h2 y' (G.trans g2) (g2.has H) ?_;rw[Q];exact I
  ·rw[ki (by omega)];refine ih (j+1) (by omega) h a G H ?_;rw[hr,c1,if_neg (by simp),List.append_nil];exact N
theorem kbd1{Cc:Nat->Nat}{bp:Nat}{qq:Int×Int×Int}{L:PtL}{pt:Pt}{o:List Nat}(PP:PtIn h0 Cc bp qq L t pt)(hR:tabR t=true)(hg:pt.msk.given=addG ⟨[],[]⟩ 0 0 (cutsL t) o)(ho:o.length=(cutsL t).length)(aa:∀x∈o,x<(cutsL t).length)(ai:C.length=t.ids.length)(qt:TabAt h0 S s1 s2 s3 t)(M:Sq Ef.nats h0 So ms (C.map λc=>(decF (p:Int) (q:Int) c).1)){b1 b2:Nat}{n1 n2 n3:Int}(B1:h0.has b1 [.int .u64 (p:Int),.int .u64 (q:Int)] ket)(B2:h0.has b2 [.i n1,.i n2,.i n3,s1.v,s2.v,s3.v,s4.v] kcu){nn:Sl}(Nn:Nats h0 nn (digs B (p*q)))
  {rr:Ref} {t5 t6 t7:Sl} {msg:Ms} (V:idx z.ref z.len 0 7=some rr) (W:Lies h0 rr (msg.cells t5 t6 t7)) {Sy Sx:Fp} (X:Sq EI h0 Sx t5 ((List.range o.length).map λx=>((x:Nat):Int))) (Y:Sq Ef.nats h0 Sy t7 (o.map λk=>(sumsC (digs B (p*q*(p*q))) C (λx=>(List.range C.length).filter (leftP t x.1 (x.2:Int))) (cutsL t)).getD k [])) :
  ∀(Z i:Nat),i+Z=o.length->∀(h:AH),Grow h0 h->
  Runs (go (.pt kcc kln [(3,.p (.new b1 0)),(4,.p (.new b2 0)),(9,nn.v),(11,.p (.new bp 0)),(15,ms.v),(19,z.v),(22,.i (i:Int))]) h) λv _=>v=.bool true:=by
 obtain⟨ah,ab,I,K⟩:=kdq hR;have hc:=kq7 t hR;have lx:t5.len=o.length:=by rw[X.len,qb3,qcn]
 intro Z
 induction Z with
 | zero =>
  intro i hi h G;rw[k2p];refine qy V (qy (W.rd G 4 rfl qcq) ?_);rw[lx];exact qbb (qb0 (by omega)) (qx rfl)
 | succ Z ih =>
  intro i hi h G;have F:i<o.length:=by omega
  rw[k2p];refine qy V (qy (W.rd G 4 rfl qcq) ?_);rw[lx];refine qba (qbz (by omega)) (qy V (qy (W.rd G 4 rfl qcq) ?_));obtain⟨r,e2,e3⟩:=(X.grow G).int (i:=i) (by rw[qb3,qcn];exact F);have ac:((List.range o.length).map λx=>((x:Nat):Int))[i]'(by rw[qb3,qcn];exact F)=(i:Int):=by simp
  rw[ac]at e3;refine qy e2 (qy e3 ?_);refine(kbm8 (PP.grow G) (i:Int)).call λv h1 ⟨g1,e⟩=>?_;subst e;have G1:=G.trans g1;have hk:=aa _ (qb5 F);have lg:pt.msk.given.length=o.length:=by rw[hg,k5c];simp
  have gi:findF pt.msk.given (i:Int)=(⟨((cutsL t)[o[i]]).1,((cutsL t)[o[i]]).2,0,0⟩,true):=by unfold findF;rw[if_pos ⟨by omega,by omega⟩,Int.toNat_natCast,hg];unfold addG;rw[List.nil_append,List.getD_eq_getElem?_getD,List.getElem?_map,qb6 F];simp[List.getD_eq_getElem?_getD,qb6 hk]
  rw[gi];generalize H:(cutsL t)[o[i]]=cut at *
  have y:cut∈cutsL t:=by rw[<- H];exact qb5 hk
  have Q:cut.1<t.cols.length:=by unfold cutsL cutsTo at y;rw[if_pos hR]at y;simp only[List.mem_flatMap,qco,List.mem_map]at y;obtain⟨f,Q,c,-,rfl⟩:=y;exact Q
  obtain⟨-,-,-,aj⟩:=khd (K _ Q) Q I;refine qy rfl (qy rfl (qba rfl (qy rfl (qy rfl (qy (seen rfl) ?_)))));refine qz λh2 ad g2=>q0 ad rfl λh3 b3 u3=>?_;have ae:Grow h1 h3:=g2.updr (qbr _) u3;have G3:=G1.trans ae;refine qbb rfl (qct b3 0 rfl (qbb (qb0 (by dsimp only;omega)) (qct b3 0 rfl (qy (show(h3.cell (((Ref.new b2 0).add 3).add 2)).bind AV.asSl=some s3 from(G3.has B2).rd 5 rfl qcq) ?_))));rw[qt.cols.len];refine qbb (qb0 (by dsimp only;omega)) ?_;have lY:(o.map λk=>(sumsC (digs B (p*q*(p*q))) C (λx=>(List.range C.length).filter (leftP t x.1 (x.2:Int))) (cutsL t)).getD k []).length=o.length:=qb3 _
  have af:(o.map λk=>(sumsC (digs B (p*q*(p*q))) C (λx=>(List.range C.length).filter (leftP t x.1 (x.2:Int))) (cutsL t)).getD k [])[i]'(by rw[lY];exact F)=prodC (digs B (p*q*(p*q))) C ((List.range C.length).filter (leftP t cut.1 (cut.2:Int))) [1]:=by
   have ag:o[i]<(sumsC (digs B (p*q*(p*q))) C (λx=>(List.range C.length).filter (leftP t x.1 (x.2:Int))) (cutsL t)).length:=by unfold sumsC;rw[qb3];exact hk
   have U:=kbjd (qs:=digs B (p*q*(p*q))) (C:=C) (R:=λx=>(List.range C.length).filter (leftP t x.1 (x.2:Int))) hk;rw[H]at U;rw[List.getElem_map,List.getD_eq_getElem?_getD,qb6 ag];exact U
  refine ph_sum k p2 q2 hb may lC hv qt M B1 B2 Nn V W Y (by rw[lY];exact F) af (by rw[lY];omega) (by omega) Q (by omega) (λh' G'=>ih (i+1) (by omega) h' G') C.length 0 (by omega) h3 noS G3 b3 ?_;have:digs B (sumD p q C ((List.range 0).filter (leftP t cut.1 (cut.2:Int))) 0)=[]:=(kek (by decide)).2 rfl;rw[this];exact qu _
end
end Go.Ab
set_option maxRecDepth 10000
namespace Go.Ab
open Go.Proofs Go.Num
theorem Grow.sameX{h h':AH}(g:Grow h h'){r:Ref}{A:Type}{f:AV->Option A}{x:A}(e:(h.cell r).bind f=some x):SameAt h h' r 1:=by
 obtain⟨v,hv,_⟩:=qbw.1 e;refine⟨λj y=>?_,λe=>by omega⟩;have:j=0:=by omega
 subst this;rw[Ref.add_zero,hv,g.cell_some hv]
theorem kbpi{h:AH}{x:AV}(a:ArgV Pg h kcu x):∃(n1 n2 F:Int)(s1 s2 s3 s4:Sl)(t:Tb)(bs:List Nat),x=.agg [.i n1,.i n2,.i F,s1.v,s2.v,s3.v,s4.v]/\TabAt h Fp.no s1 s2 s3 t/\Sq Ef.byte h Fp.no s4 bs:=by
 unfold ArgV at a;rw[k25]at a;obtain⟨cs,rfl,t⟩:=a;obtain⟨G,z⟩:=t.struct k25;rw[kblz]at G
 match cs,G with
 | [x0,x1,x2,x3,x4,x5,x6],_ =>
  simp[kbp6,kbo8,k84]at z;obtain⟨h0,h1,h2⟩:=z;obtain⟨-,H⟩:=h0.array kbeq;have I:=H 0 (by decide);have a1:=H 1 (by decide);have a2:=H 2 (by decide);simp[kf0]at I a1 a2;obtain⟨n1,K,-⟩:=I.int kp5;obtain⟨n2,Q,-⟩:=a1.int kp5;obtain⟨F,U,-⟩:=a2.int kp5;obtain⟨G,z⟩:=h1.struct kbhf;simp[k0e,kbfx]at z;obtain⟨V,W,Z⟩:=z;obtain⟨s1,xs,f0,m0⟩:=kuw V;obtain⟨s2,ys,f1,m1⟩:=kuw W
  obtain⟨s3,zs,f2,m2⟩:=Sq.of_arg (E:=Ef.seq EI) (S:=Fp.no) kbak k0e (λes t=>by obtain⟨s,l,e,n⟩:=kuw t;exact⟨l,s,e,n⟩) Z
  obtain⟨s4,bs,e4,m4⟩:=Sq.of_arg (E:=Ef.byte) (S:=Fp.no) kblu ksz (λes t=>by obtain⟨y,rfl,w⟩:=t.int k9x;obtain⟨h1,h2⟩:=kbqp w rfl;exact⟨y.toNat,by rw[Int.toNat_of_nonneg h1],by omega⟩) h2
  cases K;cases Q;cases U;cases f0;cases f1;cases f2;cases e4;exact⟨n1,n2,F,s1,s2,s3,s4,⟨xs,ys,zs⟩,bs,rfl,⟨m0,m1,m2⟩,m4⟩
section
variable{h0:AH}{s1 s2 s3 s4 u:Sl}{t:Tb}{p q:Nat}{C:List (List Nat)}(k:KeyOk p q)(p2:p<1099511627776)(q2:q<1099511627776)(hb:badF (p:Int) (q:Int)=false)(may:kbj (digs B (p*q))=true)(lC:∀c∈C,∀x∈c,x<B)
include k p2 q2 hb may lC
theorem k7i{Cc:Nat->Nat}{bp n0:Nat}{qq:Int×Int×Int}{L:PtL}{bs:List Nat}(T0:Tab h0)(hv:∀c∈C,kbs (digs B (p*q)) c=true)(U:∀c∈C,c.length<=4)(PP:PtIn h0 Cc bp qq L t (initP bs))(ak:∀j,Cc j≠0->n0<=j)(a0:n0<=h0.blks.size)(hR:tabR t=true)(qt:TabAt h0 Fp.no s1 s2 s3 t)(Q:Sq Ef.nats h0 Fp.no u C)(aa:C.length=t.ids.length)(az:C.length<=60){b1 b2:Nat}{n1 n2 n3:Int}(B1:h0.has b1 [.int .u64 (p:Int),.int .u64 (q:Int)] ket)(B2:h0.has b2 [.i n1,.i n2,.i n3,s1.v,s2.v,s3.v,s4.v] kcu)(al:b1<n0)(am:b2<n0){nn:Sl}(Nn:Nats h0 nn (digs B (p*q)))(An:∀j,¬Av nn j (digs B (p*q))->j<n0)
  {So:Fp} {o ro:Sl} {jo jr:Option Nat} (an:LeO h0.blks.size jo) (ao:∀m,So m->h0.blks.size<=m) (ap:LeO h0.blks.size jr) {h:AH} (G:Grow h0 h) (V:GF Ef.nats kj h So o jo (C.map λc=>(decF (p:Int) (q:Int) c).1)) (I:GF EI T.int h Fp.no ro jr (zs (List.range C.length))) :
  Runs (go (.pt kcc kmx [(2,u.v),(3,.p (.new b1 0)),(4,.p (.new b2 0)),(9,nn.v),(11,.p (.new bp 0)),(14,ro.v),(15,o.v),(16,.i (C.length:Int))]) h) λv _=>v=.bool true:=by
 rw[k3v,Q.len];refine qbb (qb0 (by omega)) (qz λh1 ae g1=>?_);have G1:=G.trans g1;have z0:=G.size;have z1:h.blks.size<h1.blks.size:=ae.lt;have C0:∀j,h0.blks.size<=j->Cc j=0:=λj hj=>Classical.byContradiction λx=>by have:=PP.lt j x;omega
 have Cn:∀j,j<n0->Cc j=0:=λj hj=>Classical.byContradiction λx=>by have:=ak j x;omega
 have aq:rt (digs B (p*q))=true:=kv (up64 (key_lt p2 q2))
 have ar:(digs B (p*q)).length<=4:=by have:(digs B (p*q)).length<=2:=(kbc (by decide:2<=B) _ 2).2 (key_lt p2 q2);omega
 have Q1:Sq Ef.nats h1 (Fp.or (λx=>x=h.blks.size) λj=>¬Av nn j (digs B (p*q))) ⟨some (.new h.blks.size 0),1,.is 1⟩ [digs B (p*q)]:=Sq.lit (rows:=[[_]]) ae (.cons ⟨_,rfl,Nn.grow G1,λj x=>x⟩ .nil) rfl
 refine(kpi (T0.grow G1) (PP.grow G1) (m:=⟨1,(C.length:Int),1,0,[],[],[digs B (p*q)]⟩) (s5:=noS) (s6:=noS) (s7:=⟨some (.new h.blks.size 0),1,.is 1⟩) (Sm:=(Fp.or (λx=>x=h.blks.size) λj=>¬Av nn j (digs B (p*q)))) ⟨qbn _ _ _,qbn _ _ _,Q1⟩ (λx K=>by
  rcases K with K | K
  ·have K:x=h.blks.size:=K;exact⟨C0 x (by omega),by omega⟩
  ·have:=An x K;exact⟨Cn x this,by omega⟩) (.inl rfl)).call λv h2 ⟨r,R,⟨s',e,_⟩,C2,L2,P2,m2,e2⟩=>?_
 subst e;have hr:=k0f rfl rfl (k1j (n:=(C.length:Int)) (by omega) (by omega) aq ar) (by rw[aa]) ⟨show(1:Int)<=1 by decide,show(1:Int)<=16 by decide⟩ may R;subst hr;dsimp only at P2;have z2:h1.blks.size<=h2.blks.size:=m2.size;refine qy (seen qcq) ?_;have ac:Md (λj=>Cc j≠0) h h2:=g1.thenM m2;have E2:∀j,j<h.blks.size->C2 j=Cc j:=λj hj=>e2 j (by omega);have Q2:Sq Ef.nats h2 Fp.no u C:=(Q.grow G).md ac λj x _=>x.elim
 have au:∀c∈C,rt c=true/\c.length<=4:=λc hc=>by refine⟨?_,U c hc⟩;obtain⟨i,hi,rfl⟩:=List.getElem_of_mem hc;obtain⟨H,f2,-⟩:=kll k p2 q2 lC hv hi;rw[<- H];exact kv (Nat.lt_trans f2 (qbt (key_sq p2 q2) (Nat.pow_le_pow_right (by decide) (by decide))))
 have T2:Tab h2:=(T0.grow G).md ac;refine(kpi T2 P2 (m:=⟨3,0,0,0,[],[],C⟩) (s5:=noS) (s6:=noS) (s7:=u) (Sm:=Fp.no) ⟨qbn _ _ _,qbn _ _ _,Q2⟩ (λx K=>K.elim) (.inr (.inl rfl))).call λv h3 ⟨r,R,⟨s',e,_⟩,C3,L3,P3,m3,e3⟩=>?_;subst e
 have af:oddC (digs B (p*q)) C=false:=by unfold oddC;rw[List.any_eq_false];intro c hc;rw[hv c hc];simp
 have hr:=kbgs rfl rfl (kbix (X:=C) (by omega) au) rfl (show(0:Int)<1 by decide) aa af R;subst hr;dsimp only at P3;have z3:h2.blks.size<=h3.blks.size:=m3.size;refine qy (seen qcq) ?_;have ad:Md (λj=>Cc j≠0) h h3:=ac.next m3 λj hj x=>by rwa[E2 j hj]at x
 have E3:∀j,j<h.blks.size->C3 j=Cc j:=λj hj=>(e3 j (by omega)).trans (E2 j hj)
 have ag:∀x,jr=some x->h0.blks.size<=x/\x<h.blks.size:=λx e=>by subst e;exact⟨ap,I.lt⟩
 have I3:GF EI T.int h3 Fp.no ro jr (zs (List.range C.length)):=I.md ad Dis.no.symm λx e y=>y (C0 x (ag x e).1)
 refine(kpi ((T0.grow G).md ad) P3 (m:=⟨4,0,0,0,[],zs (List.range C.length),[]⟩) (s5:=noS) (s6:=ro) (s7:=noS) (Sm:=Fp.or (Fp.opt jr) Fp.no) ⟨qbn _ _ _,I3.sq,qbn _ _ _⟩ (λx K=>by
  rcases K with K | K
  ·have:=ag x K;exact⟨by rw[E3 x this.2];exact C0 x this.1,by omega⟩
  ·exact K.elim) (.inr (.inr rfl))).call λv U ⟨r,R,⟨z,e,Z⟩,C4,L4,P4,m4,e4⟩=>?_
 subst e;have z4:h3.blks.size<=U.blks.size:=m4.size;refine qy (seen qcq) ?_;have W:Md (λj=>Cc j≠0) h U:=ad.next m4 λj hj x=>by rwa[E3 j hj]at x
 have ah:=kbe4 (n:=C.length) rfl (by omega) aa.symm hR rfl rfl rfl may rfl hv R;rcases ah with⟨P,hr⟩ | ⟨oo,P,ol,aw,hg,hr⟩
 ·subst hr;dsimp only at Z;have hl:z.len=1:=Z.len;obtain⟨rr,cs,H,⟨t5,t6,t7,ec,-⟩,LL⟩:=Z.at (i:=0) rfl;subst ec;have H:idx z.ref 1 0 7=some rr:=H;rw[<- hl]at H;have gg:=qk U;exact qbb (by rw[hl];rfl) (qy H (qy (LL.rd gg 0 rfl qcr) (qba rfl (qy H (qy (LL.rd gg 1 rfl qcr) (qx rfl))))))
 subst hr;dsimp only at Z P4;have hl:z.len=1:=Z.len;obtain⟨rr,cs,H,⟨t5,t6,t7,ec,MM⟩,LL⟩:=Z.at (i:=0) rfl;subst ec;have H:idx z.ref 1 0 7=some rr:=H;rw[<- hl]at H;have gg:=qk U;have ab:=W.has (G.has B2) λx=>x (Cn b2 am);have ax:=W.has (G.has B1) λx=>x (Cn b1 al);refine qbb (by rw[hl];rfl) (qy H (qy (LL.rd gg 0 rfl qcr) (qbb rfl (qy H (qy (LL.rd gg 0 rfl qcr) (qbb rfl (qy H (qy (LL.rd gg 4 rfl qcq) ?_))))))));refine qy (show(U.cell (((Ref.new b2 0).add 3).add 0)).bind AV.asSl=some s1 from ab.rd 3 rfl qcq) (qy (show(U.cell (((Ref.new b2 0).add 3).add 1)).bind AV.asSl=some s2 from ab.rd 4 rfl qcq) (qy (show(U.cell (((Ref.new b2 0).add 3).add 2)).bind AV.asSl=some s3 from ab.rd 5 rfl qcq) ?_));have ai:TabAt U Fp.no s1 s2 s3 t:=(qt.grow G).md W λj x _=>x.elim;refine(kble ai).call λv h5 ⟨g5,y,jy,e,ly,Vy⟩=>?_;subst e
 have x4:t5.len=oo.length:=by rw[MM.ids.len];show((List.range oo.length).map λx=>((x:Nat):Int)).length=_;rw[qb3,qcn]
 have x6:t7.len=oo.length:=by rw[MM.nats.len];show(oo.map _).length=_;rw[qb3]
 have yl:y.len=(cutsL t).length:=by rw[Vy.len,zc_len]
 refine qy (seen qcq) (qbd (g5.sameX (LL.rd gg 4 rfl qcq)) ?_);rw[x4,yl,ol];refine qbb (by rw[qbz rfl];rfl) (qy H (qy (LL.rd g5 6 rfl qcq) (qy H (qy (LL.rd g5 4 rfl qcq) ?_))));rw[x4,x6];refine qbb (by rw[qbz rfl];rfl) ?_;refine(kblr (n:=C.length) (by omega)).call λv h6 ⟨g6,y6,w6,e,N6,_,_,_⟩=>?_;subst e;refine qy rfl (qy rfl (qba rfl (qy rfl (qy (seenAt rfl qcq) (qy rfl ?_)))));dsimp only;refine qz λh7 b7 g7=>q0 b7 rfl λh8 b8 u8=>?_;have F:Grow U h8:=(g5.trans g6).trans (g7.updr (qbr _) u8);refine qct b8 0 rfl (qbb (by rw[qbz rfl];rfl) ?_)
 have V4:GF Ef.nats kj U So o jo (C.map λc=>(decF (p:Int) (q:Int) c).1):=V.md W (λj a b=>b (C0 j (ao j a))) λx e y=>by subst e;have:h0.blks.size<=x:=an;exact y (C0 x this)
 have ay:Nats U nn (digs B (p*q)):=(Nn.grow G).mdE (S:=λj=>j<n0) An W λj a b=>b (Cn j a);have sq:kcg (digs B (p*q))=digs B (p*q*(p*q)):=k17 (k1r p2 q2)
 have aj:(⟨5,0,0,0,(List.range oo.length).map λx=>((x:Nat):Int),[],oo.map λk=>(sumsC (kcg (digs B (p*q))) C (λx=>(List.range C.length).filter (leftP t x.1 (x.2:Int))) (cutsL t)).getD k []⟩:Ms).nats=oo.map λk=>(sumsC (digs B (p*q*(p*q))) C (λx=>(List.range C.length).filter (leftP t x.1 (x.2:Int))) (cutsL t)).getD k []:=by dsimp only;rw[sq]
 have Y4:=MM.nats.grow F;refine kbd1 k p2 q2 hb may lC hv (P4.grow F) hR hg ol aw aa (ai.grow F) (V4.grow F).sq (F.has ax) (F.has ab) (ay.grow F) H ⟨λa v e=>F.cell_some (LL.at' a v e)⟩ (MM.ids.grow F) (by rw[<- aj];exact Y4) oo.length 0 (by omega) h8 (qk _)
end
end Go.Ab
set_option maxRecDepth 10000
namespace Go.Ab
open Go.Proofs Go.Num
section
variable{h0:AH}{s1 s2 s3 s4 u:Sl}{t:Tb}{p q:Nat}{C:List (List Nat)}(k:KeyOk p q)(p2:p<1099511627776)(q2:q<1099511627776)(hb:badF (p:Int) (q:Int)=false)(may:kbj (digs B (p*q))=true)(lC:∀c∈C,∀x∈c,x<B)
include k p2 q2 hb may lC
theorem kbn2{Cc:Nat->Nat}{bp n0:Nat}{qq:Int×Int×Int}{L:PtL}{bs:List Nat}(T0:Tab h0)(PP:PtIn h0 Cc bp qq L t (initP bs))(ae:∀j,Cc j≠0->n0<=j)(af:n0<=h0.blks.size)(hR:tabR t=true)(qt:TabAt h0 Fp.no s1 s2 s3 t)(Q:Sq Ef.nats h0 Fp.no u C)(ag:C.length=t.ids.length)(aa:C.length<=60){b1 b2:Nat}{n1 n2 n3:Int}(B1:h0.has b1 [.int .u64 (p:Int),.int .u64 (q:Int)] ket)(B2:h0.has b2 [.i n1,.i n2,.i n3,s1.v,s2.v,s3.v,s4.v] kcu)(ah:b1<n0)(ai:b2<n0){nn:Sl}(Nn:Nats h0 nn (digs B (p*q)))(An:∀j,¬Av nn j (digs B (p*q))->j<n0) :
  ∀(kk i:Nat),i+kk=C.length->(∀c∈C.take i,kbs (digs B (p*q)) c=true/\c.length<=4)->∀{So:Fp}{o ro:Sl}{jo jr:Option Nat}{h:AH},LeO h0.blks.size jo->(∀m,So m->h0.blks.size<=m)->LeO h0.blks.size jr->(∀x,jr=some x->jo≠some x/\¬So x)->Grow h0 h->GF Ef.nats kj h So o jo ((C.take i).map λc=>(decF (p:Int) (q:Int) c).1)->GF EI T.int h Fp.no ro jr (zs (List.range i))->
  Runs (go (.pt kcc kmx [(2,u.v),(3,.p (.new b1 0)),(4,.p (.new b2 0)),(9,nn.v),(11,.p (.new bp 0)),(14,ro.v),(15,o.v),(16,.i (i:Int))]) h) λv _=>v=.bool true:=by
 intro kk
 induction kk with
 | zero =>
  intro i hi hc So o ro jo jr h H K U W G V I;obtain rfl:i=C.length:=by omega
  rw[List.take_length]at V hc;exact k7i k p2 q2 hb may lC T0 (λc x=>(hc c x).1) (λc x=>(hc c x).2) PP ae af hR qt Q ag aa B1 B2 ah ai Nn An H K U G V I
 | succ kk ih =>
  intro i hi hc So o ro jo jr h H K U W G V I;have Z:i<C.length:=by omega
  obtain⟨r,x,e1,e2,Nx,-⟩:=(Q.grow G).nats Z;rw[k3v,Q.len];rw[Q.len]at e1;refine qba (qbz (by omega)) (qy e1 (qy e2 ?_));rw[Nx.len];refine qbc (λ_=>qx rfl) λk4=>?_;rw[qbx]at k4;refine qy ((G.has B1).rd 0 (f:=AV.asInt .u64) rfl qcr) (qy ((G.has B1).rd 1 (f:=AV.asInt .u64) rfl qcr) (qy e1 (qy e2 ?_)));refine(k38 Nx p q).call λv h1 ⟨y,e,Ny,g1,o1⟩=>?_;subst e;refine qy rfl (qy (seen qcq) (qy (seen qcr) ?_));dsimp only;by_cases z:kbs (digs B (p*q)) C[i]=true
  ·have hd:(decF (p:Int) (q:Int) C[i]).2=0:=by
    unfold decF;rw[hb,cond_false,Int.toNat_natCast,Int.toNat_natCast,z,Bool.not_true,cond_false]
   refine qbb (by rw[hd];rfl) (qz λh2 ab g2=>?_);refine qy (kdk ab (by rw[kj4];rfl)) ?_;have lt:=V.lt;have z0:=G.size;have z1:h.blks.size<=h1.blks.size:=g1.size;have z2:h1.blks.size<h2.blks.size:=ab.lt
   obtain⟨o',h3,e3,V3,u3⟩:=(V.grow (g1.trans g2)).push (T:=λm=>¬Av y m (decF (p:Int) (q:Int) C[i]).1) (show Ef.nats.has h2 _ [y.v] _ from⟨y,rfl,Ny.grow g2,λj hj=>hj⟩) (by
    cases jo with
    | none=>exact trivial
    | some a =>intro hm;have:=own_av o1 hm;have:a<h.blks.size:=lt;omega) (knx (by rw[qb3,qci];omega))
   refine qy e3 (qy qcq ?_);have m3:Md (Fp.opt jo) h2 h3:=u3.md λk e=>e;have I3:GF EI T.int h3 Fp.no ro jr (zs (List.range i)):=(I.grow (g1.trans g2)).md m3 Dis.no.symm λx e y=>(W x e).1 y;have z3:h2.blks.size<=h3.blks.size:=m3.size;refine qz λh4 ac g4=>?_;have z4:h3.blks.size<h4.blks.size:=ac.lt;refine qy (kdk ac (by rw[kf0];rfl)) ?_;obtain⟨aj,h5,e5,I5,u5⟩:=(I3.grow g4).push (T:=Fp.no) (cs:=[.i (i:Int)]) (x:=(i:Int)) rfl NotO.no (klz (by rw[zs_len,qcn];omega));refine qy e5 (qy qcq ?_);have m5:Md (Fp.opt jr) h4 h5:=u5.md λk e=>e;have ad:∀x,jr=some x->x<h.blks.size:=λx e=>by subst e;exact I.lt
   have ak:=Q.short;rw[ki (by omega)];have ht:(C.take (i+1)).map (λc=>(decF (p:Int) (q:Int) c).1)=(C.take i).map (λc=>(decF (p:Int) (q:Int) c).1)++[(decF (p:Int) (q:Int) C[i]).1]:=by rw[qck Z,List.map_append];rfl
   rw[<- ht]at V3;have ho:∀x,¬Av y x (decF (p:Int) (q:Int) C[i]).1->h.blks.size<=x:=λx a=>own_av o1 a
   have V5:=(V3.grow g4).md m5 (λx a b=>by
    have b:jr=some x:=b;rcases a.1 with a | a
    ·exact(W x b).2 a
    ·have:=ho x a;have:=ad x b;omega) λx e b=>by
    have b:jr=some x:=b;have:=ad x b;have e:=Option.some.inj e;omega
   have hr:zs (List.range i)++[(i:Int)]=zs (List.range (i+1)):=by rw[List.range_succ,zs_app];rfl
   rw[hr]at I5;have G2:Grow h0 h2:=(G.trans g1).trans g2;refine ih (i+1) (by omega) (λc F=>?_) (jo:=some h2.blks.size) (jr:=some h4.blks.size) (show h0.blks.size<=h2.blks.size by omega) (λm hm=>hm.1.elim (K m) λa=>qbs z0 (ho m a)) (show h0.blks.size<=h4.blks.size by omega) (λx e=>?_) (((G2.updo H u3).trans g4).updo U u5) V5 I5.noI
   ·rw[qck Z,qb7,List.mem_singleton]at F;rcases F with F | rfl
    ·exact hc c F
    ·exact⟨z,by omega⟩
   ·have e:=Option.some.inj e;subst e;refine⟨λe=>?_,λhm=>?_⟩
    ·have e:=Option.some.inj e;omega
    ·have:=hm.2;omega
  ·have hd:(decF (p:Int) (q:Int) C[i]).2=11:=by
    unfold decF;rw[hb,cond_false,Int.toNat_natCast,Int.toNat_natCast,Bool.eq_false_iff.2 z,Bool.not_false,cond_true]
   exact qba (by rw[hd];rfl) (qx (by rw[hd];rfl))
end
theorem PartyHidesCard_law(h:AH)(T0:Tab h){x1 x2 x3:AV}(z1:ArgV Pg h ket x1)(z2:ArgV Pg h kcu x2)(z3:ArgV Pg h ken x3):∃h',go (.fn kcc [x1,x2,x3]) h=some (.bool true,h'):=by
 obtain⟨I,K,rfl⟩:∃a b:Int,x1=.agg [.int .u64 a,.int .u64 b]:=by
  unfold ArgV at z1;rw[k5g]at z1;obtain⟨cs,rfl,t⟩:=z1;obtain⟨hl,hf⟩:=t.struct k5g;rw[k89]at hl
  match cs,hl with
  | [x0,x1],_ =>simp[kkz]at hf;obtain⟨h0,h1⟩:=hf;obtain⟨a,e0,-⟩:=ArgT.int kvz h0;obtain⟨b,e1,-⟩:=ArgT.int kvz h1;cases e0;cases e1;exact⟨a,b,rfl⟩
 obtain⟨n1,n2,n3,s1,s2,s3,s4,t,bs,rfl,qt,Qb⟩:=kbpi z2
 obtain⟨u,C,rfl,Q⟩:∃(u:Sl)(C:List (List Nat)),x3=u.v/\Sq Ef.nats h Fp.no u C:=by unfold ArgV at z3;rw[ky5]at z3;obtain⟨u,C,e,Q⟩:=k7r z3;cases e;exact⟨u,C,rfl,Q⟩
 suffices H:Runs (go (.fn kcc [.agg [.int .u64 I,.int .u64 K],.agg [.i n1,.i n2,.i n3,s1.v,s2.v,s3.v,s4.v],u.v]) h) λv _=>v=.bool true by obtain⟨_,h',e,rfl⟩:=H;exact⟨h',e⟩
 rw[kba4];refine qz λh1 b1 g1=>qz λh2 b2 g2=>?_;have U:=g1.trans g2;refine(kbk8 (T0.grow U)).call λ_ h3 ⟨e,g3⟩=>?_;subst e;have B2:=g3.has b2;have B1:=(g2.trans g3).has b1;have G3:=U.trans g3;refine qy (seen rfl) (qct B2 0 rfl (qct B2 1 rfl (qct B2 2 rfl (qcs B2 3 rfl (qcs B2 4 rfl (qcs B2 5 rfl (qcs B2 6 rfl ?_)))))));refine(k9m (qt.grow G3)).call λ_ h4 ⟨⟨r,e⟩,g4⟩=>?_;subst e;have aa:=g4.has B2;have G:=g4.has B1;have G4:=G3.trans g4;refine qy (seen rfl) (qy (G.rd 0 (f:=AV.asInt .u64) rfl qcr) (qy (G.rd 1 (f:=AV.asInt .u64) rfl qcr) ?_));refine(k3g I K).call λ_ h5 ⟨nn,e,Nn,g5,on⟩=>?_;subst e;refine qy rfl (qy (seen qcq) (qy (seen qcr) ?_));dsimp only;refine qbb rfl (qbc (λ_=>qx rfl) λ_=>qbc (λ_=>qx rfl) λc0=>?_);rw[qcm,qby]at c0
 have F:badF I K=false:=by
  cases hb:badF I K with
  | false=>rfl
  | true =>unfold pubF at c0;rw[hb]at c0;cases c0
 have V:pubF I K=(digs B (I.toNat*K.toNat),0):=by unfold pubF;rw[F];rfl
 rw[V]at Nn;obtain⟨p,q',rfl,rfl,p1,p2,p3,q1,q2,q3,ne,-,hg⟩:=kvw F;rw[Int.toNat_natCast,Int.toNat_natCast]at Nn;have key:=k0k p1 p3 q1 q3 ne hg;have may:=kbdh key p1 p2 q1 q2;have z:=g5.has aa;have W:=g5.has G;have G5:=G4.trans g5;refine qy (show(h5.cell (((Ref.new h1.blks.size 0).add 3).add 0)).bind AV.asSl=some s1 from z.rd 3 rfl qcq) ?_;rw[Q.len,qt.ids.len];refine qbc (λ_=>qx rfl) λc1=>qbc (λ_=>qx rfl) λc2=>?_;rw[qcm,qby]at c1;rw[qbx]at c2;refine qct z 0 rfl (qct z 1 rfl (qct z 2 rfl (qcs z 3 rfl (qcs z 4 rfl (qcs z 5 rfl (qcs z 6 rfl ?_))))));refine(kbao (qt.grow G5) (Qb.grow G5) n1 n2 n3).call λv h6 ⟨Z,o2,d⟩=>?_;rcases d with rfl | ⟨bp,Cc,L,rfl,P,hC⟩
 ·exact qy rfl (qy (seen rfl) (qy (seen rfl) (qy (seen rfl) (qbb rfl (qba rfl (qx rfl))))))
 refine qy rfl (qy (seen rfl) (qy (seen rfl) (qy (seen rfl) (qbb rfl (qbb rfl ?_)))));have G6:=G5.trans Z
 have lC:∀c∈C,∀x∈c,x<B:=λc hc x hx=>by obtain⟨i,hi,rfl⟩:=List.getElem_of_mem hc;obtain⟨-,_,-,-,Nx,-⟩:=Q.nats hi;exact Nx.lt x hx
 refine kbn2 key p2 q2 F may lC (n0:=h5.blks.size) (T0.grow G6) P hC Z.size P.right (qt.grow G6) (Q.grow G6) (by omega) (by omega) (Z.has W) (Z.has z) W.lt z.lt (Nn.grow Z) (λj x=>Classical.byContradiction λy=>x (qbh Nn (by omega))) C.length 0 (by omega) (by simp) (So:=Fp.no) (jo:=none) (jr:=none) trivial (λm x=>x.elim) trivial (λx e=>by cases e) (qk _) (GF.none _ _ _ _) (GF.none _ _ _ _)
end Go.Ab
