/- Words and laws that the last text joins. -/
import Derived.Test.YtgldlogiggpbgaaGreatDoorPH20
import Derived.Test.YtgldlogiggpbgaaGreatDoorPE5
import Derived.Test.YtgldlogiggpbgaaGreatDoorPS38a
set_option linter.unusedVariables false
set_option linter.unusedSimpArgs false
set_option linter.unusedSectionVars false
set_option maxRecDepth 10000
namespace Go.Ab
open Go.Proofs Go.Num
theorem kvo{h:AH}{cs:List AV}(a:ArgT Pg h kbb cs):∃(s1 s2 s3:Sl)(t:Tb),cs=[s1.v,s2.v,s3.v]∧TabAt h Fp.no s1 s2 s3 t:=by
 obtain⟨hl,hf⟩:=a.struct k9a;rw[krb]at hl
 match cs,hl with
 | [x0,x1,x2],_ =>
  simp[kou,k43]at hf;obtain⟨h0,h1,h2⟩:=hf;obtain⟨s1,xs,e0,n0⟩:=kiy h0;obtain⟨s2,ys,e1,n1⟩:=kiy h1
  obtain⟨s3,zs,e2,n2⟩:=Sq.of_arg (E:=Ef.seq EI) (S:=Fp.no) kyw kou (fun es t=>by
   obtain⟨s,l,e,n⟩:=kiy t;exact⟨l,s,e,n⟩) h2
  cases e0;cases e1;cases e2;exact⟨s1,s2,s3,⟨xs,ys,zs⟩,rfl,n0,n1,n2⟩
theorem kbbu{h:AH}{cs:List AV}(a:ArgT Pg h kkt cs):∃(s:Sl)(xs:List Nat),cs=[s.v]∧Sq Ef.byte h Fp.no s xs :=
 Sq.of_arg (E:=Ef.byte) (S:=Fp.no) k5y kru (fun es t=>by
  obtain⟨y,rfl,w⟩:=t.int kbat;obtain⟨h1,h2⟩:=k5v w rfl;exact⟨y.toNat,by rw[Int.toNat_of_nonneg h1],by omega⟩) a
theorem own_of{h:AH}{x:AV}(a:ArgV Pg h ke4 x):∃(s1 s2 s3 s4 s5 s6 s7:Sl)(t u:Tb)(bs:List Nat),x=.agg [s1.v,s2.v,s3.v,s4.v,s5.v,s6.v,s7.v]∧TabAt h Fp.no s1 s2 s3 t∧Sq Ef.byte h Fp.no s4 bs∧TabAt h Fp.no s5 s6 s7 u:=by
 unfold ArgV at a;rw[krh]at a;obtain⟨cs,rfl,t⟩:=a;obtain⟨hl,hf⟩:=t.struct krh;rw[k7o]at hl
 match cs,hl with
 | [x0,x1,x2,x3,x4,x5,x6],_ =>
  simp[krb,kx3]at hf;obtain⟨h0,h1,h2⟩:=hf;obtain⟨s1,s2,s3,tb,e0,n0⟩:=kvo h0;obtain⟨s4,bs,e1,n1⟩:=kbbu h1;obtain⟨s5,s6,s7,u,e2,n2⟩:=kvo h2;cases e0;cases e1;cases e2;exact⟨s1,s2,s3,s4,s5,s6,s7,tb,u,bs,rfl,n0,n1,n2⟩
theorem kyk{h:AH}{x:AV}(a:ArgV Pg h ku x):∃(m:Ms)(s5 s6 s7:Sl),x=.agg (m.cells s5 s6 s7)∧MsAt h Fp.no s5 s6 s7 m:=by
 unfold ArgV at a;rw[kr0]at a;obtain⟨cs,rfl,t⟩:=a;obtain⟨m,s5,s6,s7,e,n⟩:=msg_of t;exact⟨m,s5,s6,s7,by rw[e],n⟩
theorem Nats.box{h:AH}{i n:Nat}{e:TypeId}(b:h.has i [.int .u64 (n:Int)] e)(hn:n<18446744073709551616):Nats h ⟨some (.new i 0),1,.is 1⟩ [n]∧∀j,¬Av ⟨some (.new i 0),1,.is 1⟩ j [n]→j=i :=
 ⟨Nats.of_has (xs:=[n]) b (fun x hx=>by rw[List.mem_singleton]at hx;omega) (by simp),fun j k=>Classical.byContradiction fun hne=>k (.inr fun o e=>by cases e;exact hne rfl)⟩
section
variable{h h0:AH}{C:Nat→Nat}{bp:Nat}{q:Int×Int×Int}{L:PtL}{t:Tb}{p:Pt}{s1 s2 s3 s4 s5 s6 s7:Sl}{bs:List Nat}
def New0(h0 h:AH)(bp:Nat)(q:Int×Int×Int)(t:Tb):Prop:=Grow h0 h∧∃C L p,PtIn h C bp q L t p∧∀j,C j≠0→h0.blks.size≤j
theorem Took.new{v:AV}{h':AH}(g:Grow h0 h)(P:PtIn h C bp q L t p)(hC:∀j,C j≠0→h0.blks.size≤j)(T:Took h C bp q t v h'):(∃s:Sl,v=s.v)∧Grow h0 h'∧∃C' L' p',PtIn h' C' bp q L' t p'∧(∀j,C' j≠0→h0.blks.size≤j)∧Md (fun j=>C j≠0) h h'∧∀j,j<h.blks.size→C' j=C j:=by
 obtain⟨hs,p',C',L',P',m,e⟩:=T;have hz:=g.size;refine⟨hs,(g.thenM m).grow fun j hj x=>by have:=hC j x;omega,C',L',p',P',fun j x=>?_,m,e⟩;rcases Nat.lt_or_ge j h.blks.size with h1 | h1
 ·rw[e j h1]at x;exact hC j x
 ·omega
theorem kbau(T0:Tab h0):∀(k i:Nat),i+k=3→∀{h:AH}{C:Nat→Nat}{L:PtL}{p:Pt},Grow h0 h→PtIn h C bp q L t p→(∀j,C j≠0→h0.blks.size≤j)→
  Runs (go (.pt kdq kmk [(9,.ptr (some (.new bp 0))),(13,.int .i64 (i:Int))]) h) fun v h'=>v=.ptr (some (.new bp 0))∧New0 h0 h' bp q t:=by
 intro k
 induction k with
 | zero =>
  intro i hi h C L p g P hC;rw[kri];exact Runs.ifF (decide_eq_false (by omega)) (Runs.ret ⟨rfl,g,C,L,p,P,hC⟩)
 | succ k ih =>
  intro i hi h C L p g P hC;rw[kri];refine Runs.ifT (decide_eq_true (by omega)) ?_;refine(kn5 (T0.grow g) P (m:=⟨4,0,(i:Int),0,[],[],[]⟩) (s5:=noS) (s6:=noS) (s7:=noS) (Sm:=Fp.no) ⟨Sq.nil _ _ _,Sq.nil _ _ _,Sq.nil _ _ _⟩ (fun j x=>x.elim) (.inr (.inr rfl))).call fun v h1 W=>?_;obtain⟨⟨s,e⟩,g1,C1,L1,p1,P1,hC1,-,-⟩:=W.new g P hC;subst e;refine Runs.step (seen (asSl_v _)) ?_;rw[ki (by omega)];exact ih (i+1) (by omega) g1 P1 hC1
theorem kz4{hn:AH}(T0:Tab h0)(G0:Grow h0 hn){b10:Nat}{rest:List AV}(B10:hn.has b10 (s1.v::rest) ke4)(P:PtIn hn C bp q L t p)(hC:∀j,C j≠0→h0.blks.size≤j)(hl:s1.len=t.ids.length)(hs:t.ids.length≤60):∀(k i:Nat),i+k=t.ids.length→∀{h:AH}{s:Sl}{j:Option Nat}{S:Fp},Grow hn h→GF Ef.nats kr h S s j (List.replicate i [1])→LeO hn.blks.size j→(∀x,S x→hn.blks.size≤x)→
  Runs (go (.pt kdq kkf [(5,.ptr (some (.new b10 0))),(9,.ptr (some (.new bp 0))),(11,s.v),(12,.int .i64 (i:Int))]) h) fun v h'=>v=.ptr (some (.new bp 0))∧New0 h0 h' bp q t:=by
 intro k
 induction k with
 | zero =>
  intro i hi h s j S g V lj hS;have B10':=g.has B10;rw[ksf];refine Runs.step (show(h.cell (((Ref.new b10 0).add 0).add 0)).bind AV.asSl=some s1 from B10'.rd 0 rfl (asSl_v _)) ?_;rw[hl];refine Runs.ifF (decide_eq_false (by omega)) ?_;refine Runs.new fun h1 b1 g1=>Runs.new fun h2 b2 g2=>?_;have G2:=(g.trans g1).trans g2;obtain⟨N1,A1⟩:=Nats.box (n:=17947) (g2.has b1) (by decide);have z1:hn.blks.size≤h.blks.size:=g.size;have z2:h.blks.size<h1.blks.size:=b1.lt;have z3:h1.blks.size<h2.blks.size:=b2.lt;have C0:∀x,hn.blks.size≤x→C x=0:=fun x hx=>Classical.byContradiction fun y=>by have:=P.lt x y;omega
  have P2:=P.grow G2;have Q2:Sq Ef.nats h2 (Fp.or (fun x=>x=h1.blks.size) fun x=>x=h.blks.size) ⟨some (.new h1.blks.size 0),1,.is 1⟩ [[17947]]:=Sq.lit (rows:=[[_]]) b2 (.cons ⟨_,rfl,N1,A1⟩ .nil) rfl;have V2:=V.grow (g1.trans g2)
  refine(kn5 ((T0.grow G0).grow G2) P2 (m:=⟨1,(s.len:Int),1,0,[],[],[[17947]]⟩) (s5:=noS) (s6:=noS) (s7:=⟨some (.new h1.blks.size 0),1,.is 1⟩) (Sm:=(Fp.or (fun x=>x=h1.blks.size) fun x=>x=h.blks.size)) ⟨Sq.nil _ _ _,Sq.nil _ _ _,Q2⟩ (fun x hx=>by
   rcases hx with hx | hx
   ·have hx:x=h1.blks.size:=hx;exact⟨C0 x (by omega),by omega⟩
   ·have hx:x=h.blks.size:=hx;exact⟨C0 x (by omega),by omega⟩) (.inl rfl)).call fun v h3 W=>?_
  obtain⟨⟨s',e⟩,g3,C3,L3,p3,P3,hC3,m3,e3⟩:=W.new (G0.trans G2) P2 hC;subst e;refine Runs.step (seen (asSl_v _)) ?_;have ltj:∀x,j=some x→x<h2.blks.size:=fun x e=>by have:=V2.lt;rw[e]at this;exact this
  have V3:GF Ef.nats kr h3 S s j (List.replicate i [1]):=V2.md m3 (fun x a b=>b (C0 x (hS x a))) fun x e y=>by
   rw[e]at lj;have:hn.blks.size≤x:=lj;exact y (C0 x this)
  have Q3:=V3.bound.sq;have V2b:=V2.bound
  have sb:∀x,(Fp.or (Fp.opt j) fun x=>S x∧x<h2.blks.size) x→hn.blks.size≤x∧x<h2.blks.size:=fun x hx=>by
   rcases hx with hx | hx
   ·have hx:j=some x:=hx;rw[hx]at lj;have:hn.blks.size≤x:=lj;exact⟨this,ltj x hx⟩
   ·exact⟨hS x hx.1,hx.2⟩
  have Q3':=V2b.sq.md m3 fun x a b=>b (C0 x (sb x a).1)
  refine(kn5 (T0.grow g3) P3 (m:=⟨3,0,0,0,[],[],List.replicate i [1]⟩) (s5:=noS) (s6:=noS) (s7:=s) (Sm:=_) ⟨Sq.nil _ _ _,Sq.nil _ _ _,Q3'⟩ (fun x hx=>by
   have:=sb x hx;have z:=m3.size;exact⟨by rw[e3 x this.2];exact C0 x this.1,by omega⟩) (.inr (.inl rfl))).call fun v h4 W=>?_
  obtain⟨⟨s',e⟩,g4,C4,L4,p4,P4,hC4,-,-⟩:=W.new g3 P3 hC3;subst e;exact Runs.step (seen (asSl_v _)) (kbau T0 3 0 (by decide) g4 P4 hC4)
 | succ k ih =>
  intro i hi h s j S g V lj hS;have B10':=g.has B10;rw[ksf];refine Runs.step (show(h.cell (((Ref.new b10 0).add 0).add 0)).bind AV.asSl=some s1 from B10'.rd 0 rfl (asSl_v _)) ?_;rw[hl];refine Runs.ifT (decide_eq_true (by omega)) ?_;refine Runs.new fun h1 b1 g1=>Runs.new fun h2 b2 g2=>?_;refine Runs.step (kdr b2 (by rw[kit];rfl)) ?_;obtain⟨N1,A1⟩:=Nats.box (n:=1) (g2.has b1) (by decide);have z1:hn.blks.size≤h.blks.size:=g.size;have z2:h.blks.size<h1.blks.size:=b1.lt;have z3:h1.blks.size<h2.blks.size:=b2.lt
  obtain⟨s',h3,e3,V3,u3⟩:=(V.grow (g1.trans g2)).push (T:=fun x=>x=h.blks.size) (cs:=[(⟨some (.new h.blks.size 0),1,.is 1⟩:Sl).v]) (x:=[1]) ⟨_,rfl,N1,A1⟩ (by
   cases j with
   | none=>trivial
   | some a =>
    intro e;have e:a=h.blks.size:=e;have:a<h.blks.size:=V.lt;omega) (kl5 (by rw[List.length_replicate];omega))
  refine Runs.step e3 (Runs.step (asSl_v _) ?_);rw[ki (by omega)];refine ih (i+1) (by omega) (j:=some h2.blks.size) ((((g.trans g1).trans g2)).updo lj u3) (by rw[List.replicate_succ'];exact V3) (show hn.blks.size≤h2.blks.size by omega) fun x hx=>?_;rcases hx.1 with y | y
  ·exact hS x y
  ·rw[show x=h.blks.size from y];exact z1
theorem kzq(T0:Tab h)(Q:TabAt h Fp.no s1 s2 s3 t)(Qb:Sq Ef.byte h Fp.no s4 bs)(hs:t.ids.length≤60)(a b:Int):Runs (go (.fn kdq [.int .i64 a,.int .i64 b,.agg [s1.v,s2.v,s3.v,s4.v,s5.v,s6.v,s7.v]]) h) fun v h'=>Grow h h'∧(v=.ptr none∨∃bp,v=.ptr (some (.new bp 0))∧New0 h h' bp (a,b,1000) t):=by
 rw[k8d];refine Runs.new fun h1 b1 g1=>Runs.step (b1.rd 3 rfl (asSl_v _)) ?_;refine(kxf (Qb.grow g1)).call fun v h2 ⟨g2,d⟩=>?_;have G2:=g1.trans g2;rcases d with⟨-,rfl⟩ | ⟨-,it,rfl,ta⟩
 ·exact Runs.step rfl (Runs.step (seen rfl) (Runs.step (seen (kb _ _)) (Runs.ifT rfl (Runs.ret ⟨G2,.inl rfl⟩))))
 refine Runs.step rfl (Runs.step (seen rfl) (Runs.step (seen (kb _ _)) (Runs.ifF rfl (Runs.ifF rfl ?_))));have B2:=g2.has b1;refine Runs.step (show(h2.cell (((Ref.new h.blks.size 0).add 0).add 0)).bind AV.asSl=some s1 from B2.rd 0 rfl (asSl_v _)) (Runs.step (show(h2.cell (((Ref.new h.blks.size 0).add 0).add 1)).bind AV.asSl=some s2 from B2.rd 1 rfl (asSl_v _)) (Runs.step (show(h2.cell (((Ref.new h.blks.size 0).add 0).add 2)).bind AV.asSl=some s3 from B2.rd 2 rfl (asSl_v _)) ?_));refine(k0o (Q.grow G2) ta (fun _ x _=>x.elim) (fun _ x=>x.elim) a b 1000).call fun v h3 ⟨g3,d⟩=>?_;have G3:=G2.trans g3;rcases d with⟨e,he,rfl⟩ | ⟨bp,C,L,rfl,P,hC⟩
 ·exact Runs.step rfl (Runs.step (seen rfl) (Runs.step (seen (kb _ _)) (Runs.ifT (by rw[Bool.not_eq_true',decide_eq_false_iff_not];exact he) (Runs.ret ⟨G3,.inl rfl⟩))))
 refine Runs.step rfl (Runs.step (seen rfl) (Runs.step (seen (kb _ _)) (Runs.ifF rfl (Runs.ifF rfl ?_))));have z1:=g1.size;have z2:=G2.size
 have hC':∀j,C j≠0→h.blks.size≤j:=fun j x=>by
  rcases hC j x with y | y | y
  ·have y:h1.blks.size≤j∧j<h2.blks.size:=y;omega
  ·exact y.elim
  ·omega
 exact(kz4 T0 G3 (g3.has B2) P hC' (Q.ids.len) hs t.ids.length 0 (by omega) (Grow.refl _) (GF.none _ _ _ Fp.no) trivial (fun x y=>y.elim)).imp fun v h' ⟨e,n⟩=>⟨n.1,.inr ⟨bp,e,n⟩⟩
end
theorem PredictRepliesCard_law(h:AH)(T0:Tab h){x1 x2:AV}(z1:ArgV Pg h ke4 x1)(z2:ArgV Pg h ku x2):∃h',go (.fn kop [x1,x2]) h=some (.bool true,h'):=by
 obtain⟨s1,s2,s3,s4,s5,s6,s7,t,u,bs,rfl,n1,n2,n3⟩:=own_of z1;obtain⟨m,s8,s9,s10,rfl,M⟩:=kyk z2
 suffices H:Runs (go (.fn kop [.agg [s1.v,s2.v,s3.v,s4.v,s5.v,s6.v,s7.v],.agg (m.cells s8 s9 s10)]) h) fun v _=>v=.bool true by
  obtain⟨_,h',e,rfl⟩:=H;exact⟨h',e⟩
 rw[k2i];refine Runs.new fun h1 b1 g1=>Runs.new fun h2 b2 g2=>?_;refine ky7.call fun _ h3 ⟨e,g3⟩=>?_;subst e;have B1:=(g2.trans g3).has b1;have B2:=g3.has b2;have G3:=g1.trans (g2.trans g3);refine Runs.step (seen rfl) (Runs.ifF rfl ?_);refine Runs.step (show(h3.cell (((Ref.new h.blks.size 0).add 0).add 0)).bind AV.asSl=some s1 from B1.rd 0 rfl (asSl_v _)) ?_;rw[n1.ids.len];refine Runs.cond (fun k=>Runs.ret rfl) fun k1=>?_;rw[decide_eq_false_iff_not]at k1;refine Runs.step (B1.rd 3 rfl (asSl_v _)) (Runs.cond (fun k=>Runs.ret rfl) fun k2=>?_);refine Runs.step (B1.rd 0 rfl (asSl_v _)) (Runs.step (B1.rd 1 rfl (asSl_v _)) (Runs.step (B1.rd 2 rfl (asSl_v _)) (Runs.step (B1.rd 3 rfl (asSl_v _)) (Runs.step (B1.rd 4 rfl (asSl_v _)) (Runs.step (B1.rd 5 rfl (asSl_v _)) (Runs.step (B1.rd 6 rfl (asSl_v _)) ?_))))));refine(kzq (T0.grow G3) (n1.grow G3) (n2.grow G3) (by omega) 1 2).call fun v h4 ⟨g4,d⟩=>?_;have G4:=G3.trans g4;have B14:=g4.has B1;have B24:=g4.has B2;have rd:∀{h:AH}{b:Nat},h.has b [s1.v,s2.v,s3.v,s4.v,s5.v,s6.v,s7.v] ke4→(h.cell (((Ref.new b 0).add 4).add 0)).bind AV.asSl=some s5∧(h.cell (((Ref.new b 0).add 4).add 1)).bind AV.asSl=some s6∧(h.cell (((Ref.new b 0).add 4).add 2)).bind AV.asSl=some s7:=fun B=>⟨B.rd 4 rfl (asSl_v _),B.rd 5 rfl (asSl_v _),B.rd 6 rfl (asSl_v _)⟩
 obtain⟨o,hv,ho⟩:∃o:Option Ref,v=.ptr o∧(o=none∨∃bp,o=some (.new bp 0)∧New0 h3 h4 bp (1,2,1000) t):=by
  rcases d with rfl | ⟨bp,rfl,n⟩
  ·exact⟨none,rfl,.inl rfl⟩
  ·exact⟨_,rfl,.inr ⟨bp,rfl,n⟩⟩
 subst hv;refine Runs.step (seen rfl) ?_;refine Runs.step (rd B14).1 (Runs.step (rd B14).2.1 (Runs.step (rd B14).2.2 ?_));refine Runs.step (B24.rd 0 rfl (kb _ _)) (Runs.step (B24.rd 1 rfl (kb _ _)) (Runs.step (B24.rd 2 rfl (kb _ _)) (Runs.step (B24.rd 3 rfl (kb _ _)) (Runs.step (B24.rd 4 rfl (asSl_v _)) (Runs.step (B24.rd 5 rfl (asSl_v _)) (Runs.step (B24.rd 6 rfl (asSl_v _)) ?_))))));refine(k8l (h:=h4) (s1:=s5) (s2:=s6) (s3:=s7) (s5:=s8) (s6:=s9) (s7:=s10) m).call fun v h5 ⟨e,g5⟩=>?_;subst e;refine Runs.step rfl (Runs.step rfl (Runs.ifT rfl (Runs.step rfl (Runs.step rfl (Runs.step rfl (Runs.step rfl (Runs.step rfl (Runs.step rfl (Runs.step rfl (Runs.step (seen (kb _ _)) ?_))))))))));refine Runs.new fun h6 b6 g6=>Runs.puts b6 rfl fun h7 b7 u7=>?_;have g47:Grow h4 h7:=(g5.trans g6).updr g5.size u7;rcases ho with rfl | ⟨bp,rfl,ng,C,L,p,P,hC⟩
 ·exact Runs.ifT rfl (Runs.ret rfl)
 refine Runs.ifF rfl ?_;have B17:=g47.has B14;have B27:=g47.has B24;refine Runs.step (B27.rd 1 rfl (kb _ _)) ?_;refine(kt4 (P.grow g47) m.a).call fun v h8 ⟨g8,e⟩=>?_;subst e;refine Runs.step rfl (Runs.step rfl (Runs.ifT rfl (Runs.step rfl (Runs.step rfl (Runs.step (seen rfl) ?_)))));refine Runs.new fun h9 b9 g9=>Runs.puts b9 rfl fun h10 b10 u10=>?_;have g710:Grow h7 h10:=(g8.trans g9).updr g8.size u10;have B110:=g710.has B17;have B210:=g710.has B27;refine Runs.step (rd B110).1 (Runs.step (rd B110).2.1 (Runs.step (rd B110).2.2 ?_));refine Runs.step (B210.rd 0 rfl (kb _ _)) (Runs.step (B210.rd 1 rfl (kb _ _)) (Runs.step (B210.rd 2 rfl (kb _ _)) (Runs.step (B210.rd 3 rfl (kb _ _)) (Runs.step (B210.rd 4 rfl (asSl_v _)) (Runs.step (B210.rd 5 rfl (asSl_v _)) (Runs.step (B210.rd 6 rfl (asSl_v _)) ?_))))));have G10:=G4.trans (g47.trans g710);refine(k4h (P.grow (g47.trans g710)) (n3.grow G10) (M.grow G10)).call fun v h11 ⟨e,g11⟩=>?_;subst e;unfold repV;refine Runs.step rfl (Runs.step rfl (Runs.ifT rfl (Runs.step rfl (Runs.step rfl (Runs.step rfl (Runs.step rfl (Runs.step rfl (Runs.step rfl (Runs.step rfl (Runs.step (seen (kb _ _)) ?_))))))))));refine Runs.new fun h12 b12 g12=>Runs.puts b12 rfl fun h13 b13 u13=>?_;have g1013:Grow h10 h13:=(g11.trans g12).updr g11.size u13;have b10':=g1013.has b10;have B113:=g1013.has B110;have B213:=g1013.has B210;refine Runs.step (b10'.rd 0 rfl (kb _ _)) (Runs.step (b10'.rd 1 rfl (kb _ _)) ?_);refine Runs.step (rd B113).1 (Runs.step (rd B113).2.1 (Runs.step (rd B113).2.2 ?_));refine Runs.step (B213.rd 0 rfl (kb _ _)) (Runs.step (B213.rd 1 rfl (kb _ _)) (Runs.step (B213.rd 2 rfl (kb _ _)) (Runs.step (B213.rd 3 rfl (kb _ _)) (Runs.step (B213.rd 4 rfl (asSl_v _)) (Runs.step (B213.rd 5 rfl (asSl_v _)) (Runs.step (B213.rd 6 rfl (asSl_v _)) ?_))))));have G13:=G10.trans g1013;refine(kyn (g:=findF p.msk.given m.a) (n3.grow G13) (M.grow G13)).call fun v h14 ⟨e,g14⟩=>?_;subst e;unfold repV;refine Runs.step rfl (Runs.step rfl (Runs.ifT rfl (Runs.step rfl (Runs.step rfl (Runs.step rfl (Runs.step rfl (Runs.step rfl (Runs.step rfl (Runs.step rfl (Runs.step (seen (kb _ _)) ?_))))))))));refine Runs.new fun h15 b15 g15=>Runs.puts b15 rfl fun h16 b16 u16=>?_;have g1316:Grow h13 h16:=(g14.trans g15).updr g14.size u16;have c13:=g1316.has b13;refine Runs.step (c13.rd 0 rfl (kb _ _)) (Runs.step (c13.rd 1 rfl (kb _ _)) (Runs.step (c13.rd 2 rfl (kb _ _)) (Runs.step (c13.rd 3 rfl (kb _ _)) (Runs.step (c13.rd 4 rfl (asSl_v _)) (Runs.step (c13.rd 5 rfl (asSl_v _)) (Runs.step (c13.rd 6 rfl (asSl_v _)) ?_))))));refine Runs.step (b16.rd 0 rfl (kb _ _)) (Runs.step (b16.rd 1 rfl (kb _ _)) (Runs.step (b16.rd 2 rfl (kb _ _)) (Runs.step (b16.rd 3 rfl (kb _ _)) (Runs.step (b16.rd 4 rfl (asSl_v _)) (Runs.step (b16.rd 5 rfl (asSl_v _)) (Runs.step (b16.rd 6 rfl (asSl_v _)) ?_))))));refine kbco.call fun v h17 ⟨e,g17⟩=>?_;subst e;exact Runs.step (seen rfl) (Runs.ifT rfl (Runs.ifT rfl (Runs.ret (congrArg AV.bool (decide_eq_true rfl)))))
end Go.Ab
