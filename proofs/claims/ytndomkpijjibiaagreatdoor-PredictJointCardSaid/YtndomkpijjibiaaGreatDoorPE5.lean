/- Words and laws that the last text joins. -/
import Derived.Test.YtndomkpijjibiaaGreatDoorPS37
import Derived.Test.YtndomkpijjibiaaGreatDoorPU1b
set_option linter.unusedVariables false
set_option linter.unusedSimpArgs false
set_option linter.unusedSectionVars false
set_option maxRecDepth 10000
namespace Go.Ab
open Go.Proofs
def oddI(x:Int):Bool:=decide (x<0)||decide (x>1073741824)
def natNo(x:List Nat):Bool:=!rt x||decide (x.length>4)
def riseOk(l:List Int)(i:Nat):Bool:=decide (i=0)||!decide (l.getD i 0≤l.getD (i-1) 0)
structure Ms where
 kind:Int
 a:Int
 b:Int
 c:Int
 ids:List Int
 rows:List Int
 nats:List (List Nat)
 deriving DecidableEq
structure MsAt(h:AH)(S:Fp)(s5 s6 s7:Sl)(m:Ms):Prop where
 ids:Sq EI h S s5 m.ids
 rows:Sq EI h S s6 m.rows
 nats:Sq Ef.nats h S s7 m.nats
theorem MsAt.grow{h h':AH}{S:Fp}{s5 s6 s7:Sl}{m:Ms}(n:MsAt h S s5 s6 s7 m)(g:Grow h h'):MsAt h' S s5 s6 s7 m:=⟨n.ids.grow g,n.rows.grow g,n.nats.grow g⟩
theorem MsAt.md{h h':AH}{S T:Fp}{s5 s6 s7:Sl}{m:Ms}(n:MsAt h S s5 s6 s7 m)(d:Md T h h')(x:Dis S T):MsAt h' S s5 s6 s7 m:=⟨n.ids.md d x,n.rows.md d x,n.nats.md d x⟩
@[reducible] def Ms.cells(m:Ms)(s5 s6 s7:Sl):List AV:=[.int .i64 m.kind,.int .i64 m.a,.int .i64 m.b,.int .i64 m.c,s5.v,s6.v,s7.v]
def Ms.end'(m:Ms):Prop:=(m.kind=1→m.nats.length=1)∧(m.kind=5→m.nats.length=m.ids.length)∧(m.kind=6→m.ids.length≠0)∧(m.kind=9→m.c≤1)
def Ms.lists(m:Ms):Prop:=(m.ids.length≤16384∧(m.kind=5∨m.kind=6∨m.ids.length=0)∧m.ids.any oddI=false)∧(m.rows.length≤16384∧(m.kind=4∨m.kind=7∨m.rows.length=0)∧m.rows.any oddI=false)∧
 (m.nats.length≤16384∧(m.kind=1∨m.kind=3∨m.kind=5∨m.nats.length=0)∧m.nats.any natNo=false)∧(List.range m.rows.length).all (riseOk m.rows)=true
def Ms.heads(m:Ms):Prop:=1≤m.kind∧m.kind≤11∧oddI m.a=false∧oddI m.b=false∧oddI m.c=false∧((m.kind=3∨m.kind=10∨m.kind=11)→m.b=0)∧(¬(m.kind=7∨m.kind=9)→m.c=0)
def Ms.ok(m:Ms):Prop:=m.heads∧m.lists∧m.end'
theorem AH.has.rdo{A:Type}{f:AV→Option A}{h:AH}{i:Nat}{cs:List AV}{e:TypeId}(b:h.has i cs e)(o k:Nat){v:AV}{x:A}(hk:cs[o+k]?=some v)(hf:f v=some x):(h.cell ((Ref.new i o).add k)).bind f=some x:=by
 rw[Ref.add_new,b.cell,hk];exact hf
theorem kkt(x:Int)(h:AH):go (.fn kbq [.int .i64 x]) h=some (.bool (oddI x),h):=by
 rw[k62];unfold oddI;cases decide (x<0)<;>rfl
section
variable{h0:AH}{S:Fp}
theorem kbbr{s:Sl}{xs:List Int}(n:Sq EI h0 S s xs):Runs (go (.fn kca [s.v,.func (.func kbq) [] []]) h0) fun v h'=>v=.bool (xs.any oddI)∧Grow h0 h':=by
 rw[k6y];refine Runs.contains (xs:=xs) ?_;rw[k0r,n.len];refine kdz (n:=xs.length) (G:=fun z h=>go (.pt kba kbo [(0,s.v),(1,.func (.func kbq) [] []),(7,.int .i64 (xs.length:Int)),(8,.int .i64 z)]) h) (fun i h P hi g hT hF=>?_) (fun h g=>?_) xs.length 0 (by omega) (Grow.refl h0) (fun j hj=>by omega)
 ·obtain⟨r,e1,e2⟩:=(n.grow g).int hi;rw[List.getElem?_eq_getElem hi]at hT hF;simp only[Option.any_some]at hT hF;show Runs (go _ _) _;rw[ksd];refine Runs.ifT (decide_eq_true (by omega)) (Runs.step e1 (Runs.step e2 ?_));refine Runs.step (kkt _ _) (Runs.step (seen rfl) ?_);rw[kf (by have:=n.short;omega)];exact Runs.cond (fun c=>Runs.ret (hT h g c)) fun c=>hF h g c
 ·rw[ksd,condF (decide_eq_false (by omega))]
theorem kub{s:Sl}{xs:List Int}(n:Sq EI h0 S s xs)(b:Bool):Runs (go (.fn km4 [s.v,.bool b,.func (.func kbq) [] []]) h0) fun v h'=>v=.bool (decide (xs.length≤16384)&&(b||decide (xs.length=0))&&!xs.any oddI)∧Grow h0 h':=by
 rw[k5s,n.len];have W:=kbbr n;by_cases c:xs.length≤16384
 ·refine Runs.ifT (decide_eq_true (by omega)) ?_;rw[decide_eq_true c];cases b
  ·by_cases c2:xs.length=0
   ·refine Runs.ifF rfl (Runs.ifT (decide_eq_true (by omega)) (W.call fun v h' ⟨e,g⟩=>?_));subst e;exact Runs.step (seen rfl) (Runs.ret ⟨by rw[decide_eq_true c2];rfl,g⟩)
   ·exact Runs.ifF rfl (Runs.ifF (decide_eq_false (by omega)) (Runs.ret ⟨by rw[decide_eq_false c2];rfl,Grow.refl _⟩))
  ·refine Runs.ifT rfl (W.call fun v h' ⟨e,g⟩=>?_);subst e;exact Runs.step (seen rfl) (Runs.ret ⟨rfl,g⟩)
 ·exact Runs.ifF (decide_eq_false (by omega)) (Runs.ret ⟨by rw[decide_eq_false c];rfl,Grow.refl _⟩)
theorem kbci{s:Sl}{x:List Nat}{h:AH}(n:Nats h s x):go (.fn kb9 [s.v]) h=some (.bool (natNo x),h):=by
 rw[kbb6,ked n,Option.bind_some];unfold natNo;rw[n.len];cases rt x
 ·rfl
 ·show some (AV.bool (decide ((x.length:Int)>4)),h)=_;congr 3;rw[Bool.not_true,Bool.false_or,decide_eq_decide];omega
theorem kbd4{s:Sl}{xs:List (List Nat)}(n:Sq Ef.nats h0 S s xs):Runs (go (.fn kdg [s.v,.func (.func kb9) [] []]) h0) fun v h'=>v=.bool (xs.any natNo)∧Grow h0 h':=by
 rw[k79];refine Runs.contains (xs:=xs) ?_;rw[k9z,n.len];refine kdz (n:=xs.length) (G:=fun z h=>go (.pt kbe kb8 [(0,s.v),(1,.func (.func kb9) [] []),(7,.int .i64 (xs.length:Int)),(8,.int .i64 z)]) h) (fun i h P hi g hT hF=>?_) (fun h g=>?_) xs.length 0 (by omega) (Grow.refl h0) (fun j hj=>by omega)
 ·obtain⟨r,s',e1,e2,n',-⟩:=(n.grow g).nats hi;rw[List.getElem?_eq_getElem hi]at hT hF;simp only[Option.any_some]at hT hF;show Runs (go _ _) _;rw[ku2];refine Runs.ifT (decide_eq_true (by omega)) (Runs.step e1 (Runs.step e2 ?_));refine Runs.step (kbci n') (Runs.step (seen rfl) ?_);rw[kf (by have:=n.short;omega)];exact Runs.cond (fun c=>Runs.ret (hT h g c)) fun c=>hF h g c
 ·rw[ku2,condF (decide_eq_false (by omega))]
theorem k4o{s:Sl}{xs:List (List Nat)}(n:Sq Ef.nats h0 S s xs)(b:Bool):Runs (go (.fn knp [s.v,.bool b,.func (.func kb9) [] []]) h0) fun v h'=>v=.bool (decide (xs.length≤16384)&&(b||decide (xs.length=0))&&!xs.any natNo)∧Grow h0 h':=by
 rw[k26,n.len];have W:=kbd4 n;by_cases c:xs.length≤16384
 ·refine Runs.ifT (decide_eq_true (by omega)) ?_;rw[decide_eq_true c];cases b
  ·by_cases c2:xs.length=0
   ·refine Runs.ifF rfl (Runs.ifT (decide_eq_true (by omega)) (W.call fun v h' ⟨e,g⟩=>?_));subst e;exact Runs.step (seen rfl) (Runs.ret ⟨by rw[decide_eq_true c2];rfl,g⟩)
   ·exact Runs.ifF rfl (Runs.ifF (decide_eq_false (by omega)) (Runs.ret ⟨by rw[decide_eq_false c2];rfl,Grow.refl _⟩))
  ·refine Runs.ifT rfl (W.call fun v h' ⟨e,g⟩=>?_);subst e;exact Runs.step (seen rfl) (Runs.ret ⟨rfl,g⟩)
 ·exact Runs.ifF (decide_eq_false (by omega)) (Runs.ret ⟨by rw[decide_eq_false c];rfl,Grow.refl _⟩)
@[reducible] def kindsL:List AV:=[.int .i64 0,.bool false,.bool false,.bool false,.int .i64 2,.bool false,.bool false,.bool true,.int .i64 2,.bool false,.bool false,.bool false,.int .i64 1,.bool false,.bool false,.bool true,.int .i64 2,.bool false,.bool true,.bool false,.int .i64 2,.bool true,.bool false,.bool true,.int .i64 2,.bool true,.bool false,.bool false,.int .i64 3,.bool false,.bool true,.bool false,.int .i64 2,.bool false,.bool false,.bool false,.int .i64 3,.bool false,.bool false,.bool false,.int .i64 1,.bool false,.bool false,.bool false,.int .i64 1,.bool false,.bool false,.bool false]
theorem k5n{h:AH}:Runs (go (.fn kn6 []) h) fun v h'=>v=.agg kindsL∧Grow h h':=by
 rw[ky8];refine Runs.new fun h1 b1 g1=>Runs.puts b1 rfl fun h2 b2 u2=>?_
 repeat refine Runs.step (AH.has.rd b2 _ rfl (by first | exact kc _ _ | rfl)) ?_
 exact Runs.ret ⟨rfl,g1.updr (Nat.le_refl _) u2⟩
variable{m:Ms}{s5 s6 s7:Sl}{b:Nat}
theorem kzu(n:MsAt h0 S s5 s6 s7 m)(B:h0.has b (m.cells s5 s6 s7) kbu)(hl:m.rows.length≤16384):∀(k i:Nat),i+k=m.rows.length→
  Runs (go (.pt kby kjg [(1,.ptr (some (.new b 0))),(84,.int .i64 (m.rows.length:Int)),(85,.int .i64 (i:Int))]) h0) fun v h'=>(∃z:Bool,v=.bool z∧(z=true↔((List.range m.rows.length).drop i).all (riseOk m.rows)=true∧m.end'))∧Grow h0 h':=by
 intro k
 induction k with
 | zero =>
  intro i hi;rw[kvn,kfy (by simp;omega)];refine Runs.ifF (decide_eq_false (by omega)) ?_
  repeat' first
   | refine Runs.step (AH.has.rd B _ rfl (by first | exact kc _ _ | exact asSl_v _ | rfl)) ?_
   | refine Runs.cond (fun k=>?_) (fun k=>?_)
  all_goals
   refine Runs.ret ⟨⟨_,rfl,?_⟩,Grow.refl _⟩;have e1:=n.nats.len;have e2:=n.ids.len;unfold Ms.end'
   grind
 | succ k ih =>
  intro i hi;have hlt:i<m.rows.length:=by omega
  obtain⟨r,e1,e2⟩:=n.rows.int hlt;rw[kvn,kjl hlt];refine Runs.ifT (decide_eq_true (by omega)) ?_;rw[kf (by omega)];by_cases c:i=0
  ·refine Runs.ifF (decide_eq_false (by omega)) ((ih (i+1) (by omega)).imp fun v h' ⟨⟨z,e,q⟩,g⟩=>⟨⟨z,e,?_⟩,g⟩);rw[q];simp[riseOk,c]
  ·refine Runs.ifT (decide_eq_true (by omega)) ?_;have hp:i-1<m.rows.length:=by omega
   obtain⟨r2,e3,e4⟩:=n.rows.int hp;have hw:IntKind.wrap .i64 ((i:Int)-1)=((i-1:Nat):Int):=by rw[wrap64 (by omega) (by omega)];omega
   rw[hw];refine Runs.step (B.rd 5 rfl (asSl_v _)) (Runs.step e1 (Runs.step e2 (Runs.step (B.rd 5 rfl (asSl_v _)) (Runs.step e3 (Runs.step e4 ?_)))));have hr:riseOk m.rows i=!decide (m.rows[i]≤m.rows[i-1]):=by simp[riseOk,c,List.getD,hlt,hp]
   rw[hr];refine Runs.cond (fun c2=>Runs.ret ⟨⟨_,rfl,by simp[c2]⟩,Grow.refl _⟩) fun c2=>(ih (i+1) (by omega)).imp fun v h' ⟨⟨z,e,q⟩,g⟩=>⟨⟨z,e,?_⟩,g⟩;rw[q,c2];simp
theorem k40(n:MsAt h0 S s5 s6 s7 m)(B:h0.has b (m.cells s5 s6 s7) kbu){b2 b3:Nat}{nu:Int}{k1 k2 k3:Bool}(B2:h0.has b2 [.int .i64 nu,.bool k1,.bool k2,.bool k3] koz)(B3:h0.has b3 [.int .i64 m.a,.int .i64 m.b,.int .i64 m.c] T.int)(h1:1≤nu) :
  Runs (go (.pt kby kez [(1,.ptr (some (.new b 0))),(4,.ptr (some (.new b2 0))),(43,(⟨some (.new b3 0),3,.is 3⟩:Sl).v),(44,.int .i64 3),(45,.int .i64 0)]) h0) fun v h'=>(∃z:Bool,v=.bool z∧(z=true↔(nu<2→m.b=0)∧(nu<3→m.c=0)∧
   (decide (m.ids.length≤16384)&&(k1||decide (m.ids.length=0))&&!m.ids.any oddI)=true∧(decide (m.rows.length≤16384)&&(k2||decide (m.rows.length=0))&&!m.rows.any oddI)=true∧
   (decide (m.nats.length≤16384)&&(k3||decide (m.nats.length=0))&&!m.nats.any natNo)=true∧(List.range m.rows.length).all (riseOk m.rows)=true∧m.end'))∧Grow h0 h':=by
 have i0:idx (some (.new b3 0)) 3 0 1=some ((Ref.new b3 0).add 0):=rfl;have i1:idx (some (.new b3 0)) 3 1 1=some ((Ref.new b3 0).add 1):=rfl;have i2:idx (some (.new b3 0)) 3 2 1=some ((Ref.new b3 0).add 2):=rfl
 have tail:(nu<2→m.b=0)→(nu<3→m.c=0)→Runs (go (.pt kby kez [(1,.ptr (some (.new b 0))),(4,.ptr (some (.new b2 0))),(43,(⟨some (.new b3 0),3,.is 3⟩:Sl).v),(44,.int .i64 3),(45,.int .i64 3)]) h0) fun v h'=>(∃z:Bool,v=.bool z∧(z=true↔(nu<2→m.b=0)∧(nu<3→m.c=0)∧
   (decide (m.ids.length≤16384)&&(k1||decide (m.ids.length=0))&&!m.ids.any oddI)=true∧(decide (m.rows.length≤16384)&&(k2||decide (m.rows.length=0))&&!m.rows.any oddI)=true∧
   (decide (m.nats.length≤16384)&&(k3||decide (m.nats.length=0))&&!m.nats.any natNo)=true∧(List.range m.rows.length).all (riseOk m.rows)=true∧m.end'))∧Grow h0 h':=fun p1 p2=>by
  rw[kl4];refine Runs.ifF rfl (Runs.step (B.rd 4 rfl (asSl_v _)) (Runs.step (B2.rd 1 rfl rfl) ?_));refine(kub n.ids k1).call fun v h1 ⟨e,g1⟩=>?_;subst e;refine Runs.step (seen rfl) (Runs.cond (fun c=>Runs.ret ⟨⟨_,rfl,by grind⟩,g1⟩) fun c=>?_);refine Runs.step ((g1.has B).rd 5 rfl (asSl_v _)) (Runs.step ((g1.has B2).rd 2 rfl rfl) ?_);refine(kub (n.rows.grow g1) k2).call fun v h2 ⟨e,g2⟩=>?_;subst e;refine Runs.step (seen rfl) (Runs.cond (fun c2=>Runs.ret ⟨⟨_,rfl,by grind⟩,g1.trans g2⟩) fun c2=>?_);refine Runs.step (((g1.trans g2).has B).rd 6 rfl (asSl_v _)) (Runs.step (((g1.trans g2).has B2).rd 3 rfl rfl) ?_);refine(k4o (n.nats.grow (g1.trans g2)) k3).call fun v h3 ⟨e,g3⟩=>?_;subst e;have G:=(g1.trans g2).trans g3;refine Runs.step (seen rfl) (Runs.cond (fun c3=>Runs.ret ⟨⟨_,rfl,by grind⟩,G⟩) fun c3=>?_);refine Runs.step ((G.has B).rd 5 rfl (asSl_v _)) ?_;rw[n.rows.len];have hl:m.rows.length≤16384:=by grind
  refine(kzu (n.grow G) (G.has B) hl m.rows.length 0 (by omega)).imp fun v h' ⟨⟨z,e,q⟩,g⟩=>⟨⟨z,e,?_⟩,G.trans g⟩;rw[q,List.drop_zero]
  grind
 rw[kl4];refine Runs.ifT rfl (Runs.step i0 (Runs.step (B3.rd 0 rfl (kc _ _)) (Runs.step (B2.rd 0 rfl (kc _ _)) (Runs.ifF (decide_eq_false (by omega)) ?_))));show Runs (go (.pt kby kez [(1,.ptr (some (.new b 0))),(4,.ptr (some (.new b2 0))),(43,(⟨some (.new b3 0),3,.is 3⟩:Sl).v),(44,.int .i64 3),(45,.int .i64 1)]) h0) _;rw[kl4];refine Runs.ifT rfl (Runs.step i1 (Runs.step (B3.rd 1 rfl (kc _ _)) (Runs.step (B2.rd 0 rfl (kc _ _)) ?_)))
 have two:(nu<2→m.b=0)→Runs (go (.pt kby kez [(1,.ptr (some (.new b 0))),(4,.ptr (some (.new b2 0))),(43,(⟨some (.new b3 0),3,.is 3⟩:Sl).v),(44,.int .i64 3),(45,.int .i64 2)]) h0) fun v h'=>(∃z:Bool,v=.bool z∧(z=true↔(nu<2→m.b=0)∧(nu<3→m.c=0)∧
   (decide (m.ids.length≤16384)&&(k1||decide (m.ids.length=0))&&!m.ids.any oddI)=true∧(decide (m.rows.length≤16384)&&(k2||decide (m.rows.length=0))&&!m.rows.any oddI)=true∧
   (decide (m.nats.length≤16384)&&(k3||decide (m.nats.length=0))&&!m.nats.any natNo)=true∧(List.range m.rows.length).all (riseOk m.rows)=true∧m.end'))∧Grow h0 h':=fun p1=>by
  rw[kl4];refine Runs.ifT rfl (Runs.step i2 (Runs.step (B3.rd 2 rfl (kc _ _)) (Runs.step (B2.rd 0 rfl (kc _ _)) ?_)));refine Runs.cond (fun c=>Runs.cond (fun c2=>Runs.ret ⟨⟨_,rfl,by grind⟩,Grow.refl _⟩) fun c2=>?_) fun c=>?_
  ·exact tail p1 (fun _=>by simpa using c2)
  ·exact tail p1 (fun h=>by simp at c;omega)
 refine Runs.cond (fun c=>Runs.cond (fun c2=>Runs.ret ⟨⟨_,rfl,by grind⟩,Grow.refl _⟩) fun c2=>?_) fun c=>?_
 ·exact two (fun _=>by simpa using c2)
 ·exact two (fun h=>by simp at c;omega)
theorem kpu(n:MsAt h0 S s5 s6 s7 m):Runs (go (.fn kby [.agg (m.cells s5 s6 s7)]) h0) fun v h'=>(∃z:Bool,v=.bool z∧(z=true↔m.ok))∧Grow h0 h':=by
 rw[kbb5];refine Runs.new fun h8 b8 g8=>?_;refine k5n.call fun v h9 ⟨e,g9⟩=>?_;subst e;refine Runs.step rfl (Runs.ifT rfl ?_)
 repeat refine Runs.step (seenAt rfl (by first | exact kc _ _ | rfl)) ?_
 refine Runs.new fun h59 b59 g59=>Runs.puts b59 rfl fun h60 b60 u60=>?_;have g60:Grow h9 h60:=g59.updr (Nat.le_refl _) u60;have G:=(g8.trans g9).trans g60;have B:=(g9.trans g60).has b8;refine Runs.step (B.rd 0 rfl (kc _ _)) (Runs.cond (fun c1=>Runs.ret ⟨⟨_,rfl,by unfold Ms.ok Ms.heads;grind⟩,G⟩) fun c1=>?_);refine Runs.step (B.rd 0 rfl (kc _ _)) (Runs.cond (fun c2=>Runs.ret ⟨⟨_,rfl,by unfold Ms.ok Ms.heads;grind⟩,G⟩) fun c2=>?_);refine Runs.step (B.rd 1 rfl (kc _ _)) (Runs.step (kkt _ _) (Runs.step (seen rfl) (Runs.cond (fun c3=>Runs.ret ⟨⟨_,rfl,by unfold Ms.ok Ms.heads;grind⟩,G⟩) fun c3=>?_)));refine Runs.step (B.rd 2 rfl (kc _ _)) (Runs.step (kkt _ _) (Runs.step (seen rfl) (Runs.cond (fun c4=>Runs.ret ⟨⟨_,rfl,by unfold Ms.ok Ms.heads;grind⟩,G⟩) fun c4=>?_)));refine Runs.step (B.rd 3 rfl (kc _ _)) (Runs.step (kkt _ _) (Runs.step (seen rfl) (Runs.cond (fun c5=>Runs.ret ⟨⟨_,rfl,by unfold Ms.ok Ms.heads;grind⟩,G⟩) fun c5=>?_)));refine Runs.step (B.rd 0 rfl (kc _ _)) ?_;rw[decide_eq_false_iff_not]at c1 c2
 have key:∀{nu:Int}{k1 k2 k3:Bool},1≤nu→(nu<2↔(m.kind=3∨m.kind=10∨m.kind=11))→(nu<3↔¬(m.kind=7∨m.kind=9))→(k1=true↔(m.kind=5∨m.kind=6))→(k2=true↔(m.kind=4∨m.kind=7))→(k3=true↔(m.kind=1∨m.kind=3∨m.kind=5))→∀{h1 h2 h3:AH}{b2 b3:Nat},Grow h60 h3→h3.has b2 [.int .i64 nu,.bool k1,.bool k2,.bool k3] koz→h3.has b3 [.int .i64 m.a,.int .i64 m.b,.int .i64 m.c] T.int→
   Runs (go (.pt kby kez [(1,.ptr (some (.new h0.blks.size 0))),(4,.ptr (some (.new b2 0))),(43,(⟨some (.new b3 0),3,.is 3⟩:Sl).v),(44,.int .i64 3),(45,.int .i64 0)]) h3) fun v h'=>(∃z:Bool,v=.bool z∧(z=true↔m.ok))∧Grow h0 h':=fun{nu k1 k2 k3} p0 p1 p2 p3 p4 p5 {h1 h2 h3 b2 b3} g B2 B3=>by
  refine(k40 (n.grow (G.trans g)) (g.has B) B2 B3 p0).imp fun v h' ⟨⟨z,e,q⟩,g'⟩=>⟨⟨z,e,?_⟩,(G.trans g).trans g'⟩;rw[q];unfold Ms.ok Ms.heads Ms.lists
  grind
 have kn:m.kind=1∨m.kind=2∨m.kind=3∨m.kind=4∨m.kind=5∨m.kind=6∨m.kind=7∨m.kind=8∨m.kind=9∨m.kind=10∨m.kind=11:=by omega
 rcases kn with kn | kn | kn | kn | kn | kn | kn | kn | kn | kn | kn
 all_goals
  rw[kn];refine Runs.step (a:=Ref.new h9.blks.size _) rfl ?_;refine Runs.step (AH.has.rdo b60 _ _ rfl (kc _ _)) (Runs.step (AH.has.rdo b60 _ _ rfl rfl) (Runs.step (AH.has.rdo b60 _ _ rfl rfl) (Runs.step (AH.has.rdo b60 _ _ rfl rfl) ?_)));refine Runs.new fun h78 b78 g78=>Runs.puts b78 rfl fun h79 b79 u79=>?_;have g79:Grow h60 h79:=g78.updr (Nat.le_refl _) u79;have B9:=g79.has B;refine Runs.step (B9.rd 1 rfl (kc _ _)) (Runs.step (B9.rd 2 rfl (kc _ _)) (Runs.step (B9.rd 3 rfl (kc _ _)) ?_));refine Runs.new fun h83 b83 g83=>?_;refine key (h1:=h78) (h2:=h79) (by decide) ?_ ?_ ?_ ?_ ?_ (g79.trans g83) (g83.has b79) b83<;>simp[kn]
end
end Go.Ab
set_option maxRecDepth 10000
namespace Go.Ab
open Go.Proofs
section
variable{h0:AH}{S:Fp}{m:Ms}{s5 s6 s7:Sl}{b:Nat}
end
end Go.Ab
set_option maxRecDepth 10000
namespace Go.Ab
open Go.Proofs
structure Wk where
 m:List (List Nd)
 t:Tb
 row:Nat
 tree:Nat
 node:Nat
 sc:List Int
def Wk.nd(w:Wk):Nd:=(w.m.getD w.tree []).getD w.node Nd.no
def Wk.bin(w:Wk):Int:=(w.t.cols.getD w.nd.feature.toNat []).getD w.row 0
def Wk.kid(w:Wk)(b:Bool):Int:=if b then w.nd.left else w.nd.right
def Wk.step(w:Wk):Option Wk :=
 if w.t.ids.length≤w.row then none
 else if w.m.length≤w.tree then some {w with row:=w.row+1,tree:=0,node:=0}
 else if w.nd.leaf then some {w with tree:=w.tree+1,node:=0,sc:=w.sc.set w.row (IntKind.wrap .i64 (w.sc.getD w.row 0+w.nd.weight))}
 else if w.nd.party≠0 then none
 else some {w with node:=(w.kid (decide (w.bin≤w.nd.cut))).toNat}
def Wk.on:Nat→Wk→Wk
 | 0,w=>w
 | f+1,w=>match w.step with
  | none=>w
  | some w'=>Wk.on f w'
def Wk.mu(w:Wk):Nat:=(w.t.ids.length-w.row)*1089-(w.tree*64+w.node)
structure Wk.Ok(w:Wk):Prop where
 m:modR w.m=true
 t:tabR w.t=true
 own:∀l∈w.m,∀x∈l,x.leaf=false→x.party=0→x.feature<(w.t.cols.length:Int)
 sc:w.sc.length=w.t.ids.length
 row:w.row≤w.t.ids.length
 tree:w.tree≤w.m.length
 node:w.tree<w.m.length→w.node<(w.m.getD w.tree []).length
 end':w.tree=w.m.length→w.node=0
 over:w.row=w.t.ids.length→w.tree=0∧w.node=0
theorem kgb{m:List (List Nd)}(h:modR m=true):m.length≤16:=by
 unfold modR at h;simp at h;omega
theorem kc6{m:List (List Nd)}(h:modR m=true){k:Nat}(hk:k<m.length):1≤m[k].length∧m[k].length≤63∧∀(i:Nat)(hi:i<m[k].length),(m[k][i]).may (i:Int) (m[k].length:Int):=by
 unfold modR at h;simp only[Bool.and_eq_true,List.all_eq_true]at h;have h2:=h.2 m[k] (List.getElem_mem hk);unfold treeR at h2;simp only[Bool.and_eq_true,Bool.not_eq_true',decide_eq_false_iff_not,List.all_eq_true]at h2;refine⟨by omega,by omega,fun i hi=>?_⟩;have:=h2.2 i (by simpa using hi)
 simpa[nodesR,List.getD,hi]using this
theorem kgr{t:Tb}(h:tabR t=true):t.ids.length≤256:=by
 unfold tabR idsR at h;simp at h;exact h.1.1.1.1
theorem kvx{t:Tb}(h:tabR t=true):t.bins.length=t.cols.length∧t.cols.length≤16:=by
 unfold tabR at h;simp only[Bool.and_eq_true,Bool.not_eq_true',decide_eq_false_iff_not,decide_eq_true_eq]at h;exact⟨h.1.2,by omega⟩
theorem kwp{t:Tb}(h:tabR t=true){k:Nat}(hk:k<t.cols.length):t.cols[k].length=t.ids.length:=by
 unfold tabR at h;simp only[Bool.and_eq_true,List.all_eq_true]at h;have:=h.2 k (by simpa using hk);unfold colR at this;simp only[Bool.and_eq_true,decide_eq_true_eq]at this;have h3:=this.1.2
 simpa[List.getD,hk]using h3
section
variable{w:Wk}
theorem Wk.Ok.at(o:Wk.Ok w)(h:w.row<w.t.ids.length)(h2:w.tree<w.m.length):∃h3:w.node<w.m[w.tree].length,w.nd=w.m[w.tree][w.node]∧w.nd.may (w.node:Int) (w.m[w.tree].length:Int)∧w.m[w.tree].length≤63:=by
 have hn:=o.node h2;have e:w.m.getD w.tree []=w.m[w.tree]:=by simp[List.getD,h2]
 rw[e]at hn
 have e2:w.nd=w.m[w.tree][w.node]:=by
  show(w.m.getD w.tree []).getD w.node Nd.no=_;rw[e,List.getD,List.getElem?_eq_getElem hn];rfl
 obtain⟨h4,h5,h6⟩:=kc6 o.m h2;exact⟨hn,e2,by rw[e2];exact h6 _ hn,h5⟩
theorem Wk.Ok.kid(o:Wk.Ok w)(h:w.row<w.t.ids.length)(h2:w.tree<w.m.length)(hl:w.nd.leaf=false)(b:Bool):∃z:Nat,w.kid b=(z:Int)∧w.node<z∧z<w.m[w.tree].length∧z≤63∧Wk.Ok {w with node:=z}:=by
 obtain⟨h3,e,hm,h63⟩:=o.at h h2;unfold Nd.may at hm;rw[hl,if_neg (by simp)]at hm
 have key:(w.node:Int)<w.kid b∧w.kid b<(w.m[w.tree].length:Int):=by
  unfold Wk.kid;cases b
  ·simp;omega
  ·simp;omega
 refine⟨(w.kid b).toNat,by omega,by omega,by omega,by omega,⟨o.m,o.t,o.own,o.sc,o.row,o.tree,fun _=>?_,fun h=>by dsimp only at h;omega,fun h=>by dsimp only at h;omega⟩⟩;dsimp only;simp[List.getD,h2];omega
theorem Wk.Ok.feature(o:Wk.Ok w)(h:w.row<w.t.ids.length)(h2:w.tree<w.m.length)(hl:w.nd.leaf=false)(hp:w.nd.party=0):∃f:Nat,w.nd.feature=(f:Int)∧∃hf:f<w.t.cols.length,w.row<w.t.cols[f].length∧w.bin=w.t.cols[f].getD w.row 0:=by
 obtain⟨h3,e,hm,h63⟩:=o.at h h2;have hm2:=hm;unfold Nd.may at hm2;rw[hl,if_neg (by simp)]at hm2;have h4:=o.own _ (List.getElem_mem h2) _ (List.getElem_mem h3) (by rw[← e];exact hl) (by rw[← e];exact hp);rw[← e]at h4;refine⟨w.nd.feature.toNat,by omega,by omega,?_,?_⟩
 ·rw[kwp o.t (by omega)];exact h
 ·have hf:w.nd.feature.toNat<w.t.cols.length:=by omega
  have:w.t.cols.getD w.nd.feature.toNat []=w.t.cols[w.nd.feature.toNat]:=by rw[List.getD,List.getElem?_eq_getElem hf];rfl
  unfold Wk.bin;rw[this]
theorem Wk.Ok.step(o:Wk.Ok w){w':Wk}(e:w.step=some w'):Wk.Ok w'∧w'.mu<w.mu∧w'.m=w.m∧w'.t=w.t:=by
 unfold Wk.step at e;split at e
 ·cases e
 rename_i h;have h16:=kgb o.m;have htr:=o.tree;split at e
 ·cases e;rename_i h2;have:=o.end' (by omega);refine⟨⟨o.m,o.t,o.own,o.sc,by dsimp only;omega,Nat.zero_le _,fun h=>?_,fun _=>rfl,fun _=>⟨rfl,rfl⟩⟩,?_,rfl,rfl⟩
  ·dsimp only at h⊢;have:=(kc6 o.m h).1;simp[List.getD,h];omega
  ·unfold mu;dsimp only;omega
 rename_i h2;obtain⟨h3,e3,hm,h63⟩:=o.at (by omega) (by omega);split at e
 ·cases e;refine⟨⟨o.m,o.t,o.own,by rw[List.length_set];exact o.sc,o.row,by dsimp only;omega,fun h=>?_,fun _=>rfl,fun h=>by dsimp only at h;omega⟩,?_,rfl,rfl⟩
  ·dsimp only at h⊢;have:=(kc6 o.m h).1;simp[List.getD,h];omega
  ·unfold mu;dsimp only;omega
 rename_i h4;split at e
 ·cases e
 rename_i h5;cases e;obtain⟨z,e5,h6,h7,h8,o'⟩:=o.kid (by omega) (by omega) (by simpa using h4) (decide (w.bin≤w.nd.cut));rw[e5,Int.toNat_natCast];refine⟨o',?_,rfl,rfl⟩;unfold mu;dsimp only;omega
theorem Wk.Ok.on:∀(f:Nat){w:Wk},Wk.Ok w→w.mu≤f→Wk.Ok (w.on f)∧(w.on f).step=none∧(w.on f).m=w.m∧(w.on f).t=w.t
 | 0,w,o,h=>by
  refine⟨o,?_,rfl,rfl⟩;cases e:w.step with
  | none=>exact e
  | some w' =>
   have:=(o.step e).2.1;omega
 | f+1,w,o,h=>by
  show Wk.Ok (match w.step with | none=>w | some w'=>Wk.on f w')∧_;cases e:w.step with
  | none =>
   have:w.on (f+1)=w:=by simp only[Wk.on,e]
   rw[this];exact⟨o,e,rfl,rfl⟩
  | some w' =>
   have:w.on (f+1)=w'.on f:=by simp only[Wk.on,e]
   rw[this];obtain⟨o',lt,e1,e2⟩:=o.step e;obtain⟨a,b,c,d⟩:=Wk.Ok.on f o' (by omega);exact⟨a,b,c.trans e1,d.trans e2⟩
theorem Wk.Ok.stop(o:Wk.Ok w)(e:w.step=none):w.row=w.t.ids.length∨w.row<w.t.ids.length∧w.tree<w.m.length∧w.nd.leaf=false∧w.nd.party≠0:=by
 unfold Wk.step at e;have:=o.row;have:=o.tree
 grind
end
theorem AH.has.rn{A:Type}{f:AV→Option A}{h:AH}{i:Nat}{cs:List AV}{e:TypeId}(b:h.has i cs e)(k:Nat){v:AV}{x:A}(hk:cs[k]?=some v)(hf:f v=some x):(h.cell (.new i k)).bind f=some x:=by
 rw[b.cell,hk];exact hf
theorem Grow.same0{h h':AH}(g:Grow h h'){i:Nat}{cs:List AV}{e:TypeId}(b:h.has i cs e)(o n:Nat):SameAt h h' (.new i o) n:=g.same b o n
@[reducible] def Wk.cells(w:Wk)(s0 s1 s2 s3 s7:Sl):List AV:=[s0.v,s1.v,s2.v,s3.v,.int .i64 (w.row:Int),.int .i64 (w.tree:Int),.int .i64 (w.node:Int),s7.v]
def WalkAt(ty:TypeId)(h:AH)(S:Fp)(i j:Nat)(w:Wk):Prop:=∃s0 s1 s2 s3 s7:Sl,h.has i (w.cells s0 s1 s2 s3 s7) ty∧Sq EM h S s0 w.m∧TabAt h S s1 s2 s3 w.t∧GF EI T.int h Fp.no s7 (some j) w.sc∧¬S i∧¬S j∧i≠j
section
variable{ty:TypeId}{h h':AH}{S U:Fp}{i j:Nat}{w:Wk}
theorem WalkAt.md(n:WalkAt ty h S i j w)(m:Md U h h')(d:Dis S U)(d1:¬U i)(d2:¬U j):WalkAt ty h' S i j w:=by
 obtain⟨s0,s1,s2,s3,s7,b,n0,n1,v,e1,e2,e3⟩:=n;exact⟨s0,s1,s2,s3,s7,m.has b d1,n0.md m d,n1.md m d,GF.md m (Dis.no.symm) v fun k e=>by cases e;exact d2,e1,e2,e3⟩
theorem WalkAt.grow(n:WalkAt ty h S i j w)(g:Grow h h'):WalkAt ty h' S i j w:=n.md (g.md Fp.no) Dis.no Fp.not_no Fp.not_no
theorem kqg(n:WalkAt kb0 h S i j w):Runs (go (.fn kiv [.ptr (some (.new i 0))]) h) fun v h'=>v=.agg [.int .i64 (w.sc.length:Int),.int .i64 0,.int .i64 0]∧Grow h h':=by
 obtain⟨s0,s1,s2,s3,s7,b,n0,n1,v,-⟩:=n;rw[kbak];refine Runs.new fun h2 b2 g2=>Runs.step rfl (Runs.step ((g2.has b).rn 7 rfl (asSl_v _)) (Runs.puts b2 rfl fun h5 b5 u5=>?_));refine Runs.step (b5.rd 0 rfl (kc _ _)) (Runs.step (b5.rd 1 rfl (kc _ _)) (Runs.step (b5.rd 2 rfl (kc _ _)) (Runs.ret ⟨?_,g2.updr (Nat.le_refl _) u5⟩)));rw[v.len]
theorem kmu(n:WalkAt kb0 h S i j w)(o:w.Ok)(hr:w.row<w.t.ids.length)(ht:w.tree<w.m.length):Runs (go (.fn kii [.ptr (some (.new i 0))]) h) fun v h'=>v=.agg w.nd.cells∧Grow h h':=by
 obtain⟨h3,e3,-,-⟩:=o.at hr ht;obtain⟨s0,s1,s2,s3,s7,b,n0,n1,v,-⟩:=n;rw[k23];refine Runs.new fun h2 b2 g2=>?_;have b':=g2.has b;obtain⟨r,s',e4,-,e5,n'⟩:=(n0.grow g2).sl ht;obtain⟨r2,e6,f0,f1,f2,f3,f4,f5,f6⟩:=n'.nd h3;refine Runs.step rfl (Runs.step (b'.rn 0 rfl (asSl_v _)) (Runs.step rfl (Runs.step (a:=Ref.new i 5) rfl (Runs.step (b'.rn 5 rfl (kc _ _)) (Runs.step e4 (Runs.step e5 ?_))))));refine Runs.step rfl (Runs.step (a:=Ref.new i 6) rfl (Runs.step (b'.rn 6 rfl (kc _ _)) (Runs.step e6 ?_)));refine Runs.step f0 (Runs.step f1 (Runs.step f2 (Runs.step f3 (Runs.step f4 (Runs.step f5 (Runs.step f6 ?_))))));refine Runs.puts b2 rfl fun h5 b5 u5=>?_
 repeat refine Runs.step (AH.has.rd b5 _ rfl (by first | exact kc _ _ | rfl)) ?_
 exact Runs.ret ⟨by rw[e3];rfl,g2.updr (Nat.le_refl _) u5⟩
theorem kxj(x:Nd)(b:Bool):Runs (go (.fn kjt [.agg x.cells,.bool b]) h) fun v h'=>v=.int .i64 (if b then x.left else x.right)∧Grow h h':=by
 show Runs (go (.fn kjt [.agg [.bool x.leaf,.int .i64 x.weight,.int .i64 x.party,.int .i64 x.feature,.int .i64 x.cut,.int .i64 x.left,.int .i64 x.right],.bool b]) h) _;rw[kbc4];refine Runs.new fun h2 b2 g2=>?_;cases b
 ·exact Runs.ifF rfl (Runs.step (b2.rd 6 rfl (kc _ _)) (Runs.ret ⟨rfl,g2⟩))
 ·exact Runs.ifT rfl (Runs.step (b2.rd 5 rfl (kc _ _)) (Runs.ret ⟨rfl,g2⟩))
end
def Fp.two(i j:Nat):Fp:=fun k=>k=i∨k=j
theorem kxo{S:Fp}{i j:Nat}:∀(f:Nat){w:Wk}{h:AH},WalkAt kb0 h S i j w→w.Ok→w.mu≤f→
  Runs (go (.pt kd1 kgo [(0,.ptr (some (.new i 0)))]) h) fun v h'=>v=.tup []∧WalkAt kb0 h' S i j (w.on f)∧Md (Fp.two i j) h h':=by
 intro f
 induction f with
 | zero=>?_
 | succ f ih=>?_
 all_goals
  intro w h n o hf;have n':=n;obtain⟨s0,s1,s2,s3,s7,b,n0,n1,v,d1,d2,d3⟩:=n';rw[k3e];refine Runs.step rfl (Runs.step (b.rn _ rfl (kc _ _)) (Runs.step (b.rn _ rfl (kc _ _)) (Runs.step (b.rn _ rfl (kc _ _)) ?_)));refine(kqg n).call fun _ h1 ⟨e,g1⟩=>?_;subst e;refine Runs.step rfl (Runs.ifT rfl (Runs.step (seenAt rfl (kc _ _)) (Runs.step (seenAt rfl (kc _ _)) (Runs.step (seenAt rfl (kc _ _)) (Runs.when (g1.same0 b _ 3) ?_)))));have b1:=g1.has b;have hrow:=o.row;have hend:=o.over;have hsc:=o.sc;have h16:=kgb o.m;have h256:=kgr o.t;refine Runs.cond (fun c=>?_) (fun c=>?_)
  rotate_left
  ·
   have hs:w.step=none:=by
    unfold Wk.step;rw[if_pos];simp at c;omega
   refine Runs.ret ⟨rfl,?_,g1.md _⟩;have:∀f,w.on f=w:=fun f=>by cases f<;>simp[Wk.on,hs]
   rw[this];exact n.grow g1
  have hr:w.row<w.t.ids.length:=by
   simp at c;omega
  refine Runs.step rfl (Runs.step (a:=Ref.new i 5) rfl (Runs.step (b1.rn 5 rfl (kc _ _)) (Runs.step rfl (Runs.step (b1.rn 0 rfl (asSl_v _)) ?_))));rw[n0.len];have ht:=o.tree
 ·
  have hs:w.step=none:=by
   cases e:w.step with
   | none=>rfl
   | some w'=>have:=(o.step e).2.1;omega
  have hst:=o.stop hs;obtain⟨_,h2,h3,h4⟩:=hst.resolve_left (by omega);refine Runs.ifF (decide_eq_false (by omega)) ?_;refine(kmu (n.grow g1) o hr h2).call fun _ h5 ⟨e,g5⟩=>?_;subst e;refine Runs.step rfl (Runs.ifT rfl ?_)
  repeat refine Runs.step (seenAt rfl (by first | exact kc _ _ | rfl)) ?_
  refine Runs.new fun h6 b6 g6=>Runs.puts b6 rfl fun h7 b7 u7=>?_;have g7:Grow h5 h7:=g6.updr (Nat.le_refl _) u7;refine Runs.step (b7.rd 0 rfl rfl) (Runs.ifF h3 (Runs.step (b7.rd 2 rfl (kc _ _)) (Runs.ifT (by simpa using h4) (Runs.ret ⟨rfl,n.grow (g1.trans (g5.trans g7)),(g1.trans (g5.trans g7)).md _⟩))))
 ·have fin:∀{w':Wk}{h':AH},w.step=some w'→WalkAt kb0 h' S i j w'→Md (Fp.two i j) h h'→Runs (go (.pt kd1 kgo [(0,.ptr (some (.new i 0)))]) h') fun v h''=>v=.tup []∧WalkAt kb0 h'' S i j (w.on (f+1))∧Md (Fp.two i j) h h'':=fun{w' h'} e n' m=>by
   obtain⟨o',lt,-,-⟩:=o.step e;have:w.on (f+1)=w'.on f:=by simp only[Wk.on,e]
   rw[this];exact(ih n' o' (by omega)).imp fun v h'' ⟨a,b,c⟩=>⟨a,b,m.trans c⟩
  refine Runs.cond (fun c2=>?_) (fun c2=>?_)
  ·rw[decide_eq_true_eq]at c2;refine Runs.step rfl (Runs.step (a:=Ref.new i 4) rfl (Runs.step (b1.rn 4 rfl (kc _ _)) (Runs.step rfl ?_)));refine Runs.putAt b1 (cs':=Wk.cells {w with row:=w.row+1,tree:=0,node:=0} s0 s1 s2 s3 s7) (by simp) (by rw[kf (by omega)];rfl) fun h3 b3 u3=>?_;have m3:Md (Fp.two i j) h h3:=g1.thenM (u3.md (.inl rfl));have hd:Dis S (Fp.two i j):=fun k a b=>by rcases b with rfl | rfl;exact d1 a;exact d2 a
   refine fin (w':={w with row:=w.row+1,tree:=0,node:=0}) (by unfold Wk.step;rw[if_neg (by omega),if_pos (by omega)]) ⟨s0,s1,s2,s3,s7,b3,n0.md m3 hd,n1.md m3 hd,GF.updo (v.grow g1) (i:=some i) Fp.not_no (fun e=>d3 e.symm) u3,d1,d2,d3⟩ m3
  ·rw[decide_eq_false_iff_not]at c2;have h2:w.tree<w.m.length:=by omega
   obtain⟨hx,ex,hmay,h63⟩:=o.at hr h2;refine(kmu (n.grow g1) o hr h2).call fun _ h5 ⟨e,g5⟩=>?_;subst e;refine Runs.step rfl (Runs.ifT rfl ?_)
   repeat refine Runs.step (seenAt rfl (by first | exact kc _ _ | rfl)) ?_
   refine Runs.new fun h6 b6 g6=>Runs.puts b6 rfl fun h7 b7 u7=>?_;have g7:Grow h h7:=g1.trans (g5.trans (g6.updr (Nat.le_refl _) u7));have B:=g7.has b;have hd:Dis S (Fp.two i j):=fun k a b=>by rcases b with rfl | rfl;exact d1 a;exact d2 a
   refine Runs.step (b7.rd 0 rfl rfl) (Runs.cond (fun c3=>?_) (fun c3=>?_))
   ·
    have hrs:w.row<w.sc.length:=by omega
    have v7:=v.grow g7;obtain⟨r,e1,e2⟩:=v7.sq.int hrs;obtain⟨r',h9,e3,e4,v9,u9⟩:=v7.set (T:=Fp.no) (cs:=[.int .i64 (IntKind.wrap .i64 (w.sc[w.row]+w.nd.weight))]) (x:=IntKind.wrap .i64 (w.sc[w.row]+w.nd.weight)) rfl NotO.no (kbd hrs);rw[← v.len]at e3;have e3:idx s7.ref s7.len (w.row:Int) 1=some r':=e3;refine Runs.step rfl (Runs.step (B.rn 7 rfl (asSl_v _)) (Runs.step rfl (Runs.step (a:=Ref.new i 4) rfl (Runs.step (B.rn 4 rfl (kc _ _)) (Runs.step e1 (Runs.step e2 (Runs.step (b7.rd 1 rfl (kc _ _)) (Runs.step e3 (Runs.step e4 ?_)))))))));have B9:=AH.has.updr B d3 u9;refine Runs.step rfl (Runs.step (a:=Ref.new i 4) rfl (Runs.step (B9.rn 4 rfl (kc _ _)) (Runs.step rfl (Runs.step (a:=Ref.new i 5) rfl (Runs.step (B9.rn 5 rfl (kc _ _)) (Runs.step rfl ?_))))));refine Runs.putAt B9 (cs':=Wk.cells {w with tree:=w.tree+1,node:=0,sc:=w.sc.set w.row (IntKind.wrap .i64 (w.sc.getD w.row 0+w.nd.weight))} s0 s1 s2 s3 s7) (by simp) (by rw[kf (by omega)];rfl) fun h10 b10 u10=>?_;have m9:Md (Fp.two i j) h h9:=g7.thenM (Upd.md u9 (.inr rfl));have m10:Md (Fp.two i j) h h10:=m9.trans (u10.md (.inl rfl));have hg:w.sc.getD w.row 0=w.sc[w.row]:=by simp[List.getD,hrs]
    refine fin (w':={w with tree:=w.tree+1,node:=0,sc:=w.sc.set w.row (IntKind.wrap .i64 (w.sc.getD w.row 0+w.nd.weight))}) (by unfold Wk.step;rw[if_neg (by omega),if_neg (by omega),if_pos c3]) ⟨s0,s1,s2,s3,s7,b10,n0.md m10 hd,n1.md m10 hd,?_,d1,d2,d3⟩ m10;rw[hg];exact GF.updo (GF.mono v9 (fun k x=>x.elim id id) (i:=some j) Fp.not_no) (i:=some i) Fp.not_no (fun e=>d3 e.symm) u10
   ·refine Runs.step (b7.rd 2 rfl (kc _ _)) (Runs.cond (fun c4=>?_) (fun c4=>?_))
    ·
     have hs:w.step=none:=by
      unfold Wk.step;rw[if_neg (by omega),if_neg (by omega),if_neg (by rw[c3];simp),if_pos (by simpa using c4)]
     have:w.on (f+1)=w:=by simp only[Wk.on,hs]
     rw[this];exact Runs.ret ⟨rfl,n.grow g7,g7.md _⟩
    ·have hp:w.nd.party=0:=by simpa using c4
     obtain⟨z,e5,h8,h9,h10,h11⟩:=o.kid hr h2 c3 (decide (w.bin≤w.nd.cut));obtain⟨fe,e6,hf,h12,hbin⟩:=o.feature hr h2 c3 hp;obtain⟨r1,s',k1,k2,-,k3⟩:=(n1.cols.grow g7).sl hf;obtain⟨r2,k4,k5⟩:=k3.int h12
     repeat refine Runs.step (AH.has.rd b7 _ rfl (by first | exact kc _ _ | rfl)) ?_
     refine Runs.step rfl (Runs.step (B.rn _ rfl (asSl_v _)) (Runs.step (b7.rd 3 rfl (kc _ _)) ?_));rw[e6];refine Runs.step k1 (Runs.step k2 (Runs.step rfl (Runs.step (a:=Ref.new i 4) rfl (Runs.step (B.rn 4 rfl (kc _ _)) (Runs.step k4 (Runs.step k5 (Runs.step (b7.rd 4 rfl (kc _ _)) (Runs.step rfl ?_))))))));have hbb:w.bin=w.t.cols[fe][w.row]:=by rw[hbin];simp[List.getD,h12]
     rw[← hbb,← e6];refine(kxj w.nd (decide (w.bin≤w.nd.cut))).call fun _ h13 ⟨e,g13⟩=>?_;subst e;have hk:(if decide (w.bin≤w.nd.cut)=true then w.nd.left else w.nd.right)=(z:Int):=e5;rw[hk];refine Runs.step (seen (kc _ _)) (Runs.step (a:=(Ref.new i 0).add 6) rfl ?_);have g13':=g7.trans g13;refine Runs.putAt (g13.has B) (cs':=Wk.cells {w with node:=z} s0 s1 s2 s3 s7) (by simp) rfl fun h14 b14 u14=>?_;have m14:Md (Fp.two i j) h h14:=g13'.thenM (u14.md (.inl rfl));refine fin (w':={w with node:=z}) ?_ ⟨s0,s1,s2,s3,s7,b14,n0.md m14 hd,n1.md m14 hd,GF.updo (v.grow g13') (i:=some i) Fp.not_no (fun e=>d3 e.symm) u14,d1,d2,d3⟩ m14;unfold Wk.step;rw[if_neg (by omega),if_neg (by omega),if_neg (by rw[c3];simp),if_neg (by simpa using hp),e5,Int.toNat_natCast]
theorem k5j{n:Nat}(h:n≤1000000):growOk Pg n T.int 1=true:=by
 unfold growOk;rw[kpd,kks];have h1:n*8≤kg:=by simp only[kg];omega
 have h2:n≤kg:=by simp only[kg];omega
 simp[h1,h2]
theorem ktj{h:AH}{S:Fp}{s:Sl}{xs:List Int}(n:Sq EI h S s xs)(hl:xs.length≤1000000):Runs (go (.fn kni [s.v]) h) fun v h'=>∃(s':Sl)(i:Option Nat),v=s'.v∧GF EI T.int h' (fun j=>S j∧j<h.blks.size) s' i xs∧Grow h h'∧LeO h.blks.size i:=by
 rw[k8i];exact Runs.clone (P:=Pg) (elem:=T.int) n kf5 (k5j hl)
@[reducible] def nilS:Sl:=⟨none,0,.is 0⟩
def Wk.next(w:Wk):List AV:=if w.row<w.t.ids.length then [.int .i64 w.nd.party,.int .i64 8,.int .i64 w.nd.feature,.int .i64 (w.row:Int),.int .i64 0,nilS.v,nilS.v,nilS.v]
 else [.int .i64 0,.int .i64 0,.int .i64 0,.int .i64 0,.int .i64 0,nilS.v,nilS.v,nilS.v]
def Wk.go(w:Wk):Wk:=w.on w.mu
open Classical in
noncomputable def Wk.answer(w:Wk)(frm:Int)(m:Ms):Int×Wk :=
 if¬w.row<w.t.ids.length then(18,w)
 else if¬m.ok∨m.kind≠9 then(16,w)
 else if frm≠w.nd.party∨m.a≠w.nd.feature∨m.b≠(w.row:Int)then(18,w)
 else(0,Wk.go {w with node:=(w.kid (decide (m.c=1))).toNat})
section
variable{h:AH}{S S':Fp}{i j:Nat}{w:Wk}
theorem kxc(n:WalkAt kb0 h S i j w)(o:w.Ok)(hs:w.step=none):Runs (go (.fn kly [.ptr (some (.new i 0))]) h) fun v h'=>v=.tup [.agg w.next,.bool (decide (w.row<w.t.ids.length))]∧Grow h h':=by
 have n':=n;obtain⟨s0,s1,s2,s3,s7,b,n0,n1,v,d1,d2,d3⟩:=n';have hst:=o.stop hs;have hov:=o.over;have hsc:=o.sc;rw[kzy];refine Runs.new fun h2 b2 g2=>?_;have b':=g2.has b;refine Runs.step rfl (Runs.step (b'.rn _ rfl (kc _ _)) (Runs.step (b'.rn _ rfl (kc _ _)) (Runs.step (b'.rn _ rfl (kc _ _)) ?_)));refine(kqg (n.grow g2)).call fun _ h3 ⟨e,g3⟩=>?_;subst e;refine Runs.step rfl (Runs.ifT rfl (Runs.step (seenAt rfl (kc _ _)) (Runs.step (seenAt rfl (kc _ _)) (Runs.step (seenAt rfl (kc _ _)) (Runs.when (g3.same0 b' _ 3) ?_)))));have b3:=g3.has b2;refine Runs.cond (fun c=>?_) (fun c=>?_)
 ·have hr:¬w.row<w.t.ids.length:=by simp at c;omega
  refine Runs.puts b3 rfl fun h4 b4 u4=>?_
  repeat refine Runs.step (AH.has.rd b4 _ rfl (by first | exact kc _ _ | exact asSl_v _)) ?_
  refine Runs.ret ⟨?_,(g2.trans g3).updr (Nat.le_refl _) u4⟩;unfold Wk.next;rw[if_neg hr,decide_eq_false hr]
 ·have hr:w.row<w.t.ids.length:=by simp at c;omega
  obtain⟨_,ht,hl,hp⟩:=hst.resolve_left (by omega);refine(kmu (n.grow (g2.trans g3)) o hr ht).call fun _ h5 ⟨e,g5⟩=>?_;subst e;refine Runs.step rfl (Runs.ifT rfl ?_)
  repeat refine Runs.step (seenAt rfl (by first | exact kc _ _ | rfl)) ?_
  refine Runs.new fun h6 b6 g6=>Runs.puts b6 rfl fun h7 b7 u7=>?_;have g7:Grow h5 h7:=g6.updr (Nat.le_refl _) u7;have B:=(g3.trans (g5.trans g7)).has b';refine Runs.step (b7.rd 2 rfl (kc _ _)) (Runs.step (b7.rd 3 rfl (kc _ _)) (Runs.step rfl (Runs.step (a:=Ref.new i 4) rfl (Runs.step (B.rn 4 rfl (kc _ _)) ?_))));refine Runs.puts ((g5.trans g7).has b3) rfl fun h8 b8 u8=>?_
  repeat refine Runs.step (AH.has.rd b8 _ rfl (by first | exact kc _ _ | exact asSl_v _)) ?_
  refine Runs.ret ⟨?_,((g2.trans g3).trans (g5.trans g7)).updr (Nat.le_refl _) u8⟩;unfold Wk.next;rw[if_pos hr,decide_eq_true hr]
theorem kv6(n:WalkAt kb0 h S i j w)(o:w.Ok)(hs:w.step=none):Runs (go (.fn khw [.ptr (some (.new i 0))]) h) fun v h'=>∃(s':Sl)(k:Option Nat),v=.tup [s'.v,.bool (!decide (w.row<w.t.ids.length))]∧GF EI T.int h' Fp.no s' k w.sc∧Grow h h':=by
 have n':=n;obtain⟨s0,s1,s2,s3,s7,b,n0,n1,v,d1,d2,d3⟩:=n';have hst:=o.stop hs;have hov:=o.over;have hsc:=o.sc;have h256:=kgr o.t;rw[kbb4];refine Runs.step rfl (Runs.step (b.rn _ rfl (asSl_v _)) (Runs.step rfl (Runs.step (b.rn _ rfl (kc _ _)) (Runs.step (b.rn _ rfl (kc _ _)) (Runs.step (b.rn _ rfl (kc _ _)) ?_)))));refine(ktj v.sq (by omega)).call fun _ h1 ⟨s',k,e,v1,g1,l1⟩=>?_;subst e;have b1:=g1.has b;refine Runs.step (seen (asSl_v _)) (Runs.when (g1.same0 b _ 3) ?_);refine(kqg (n.grow g1)).call fun _ h3 ⟨e,g3⟩=>?_;subst e;refine Runs.step rfl (Runs.ifT rfl (Runs.step (seenAt rfl (kc _ _)) (Runs.step (seenAt rfl (kc _ _)) (Runs.step (seenAt rfl (kc _ _)) (Runs.when (g3.same0 b1 _ 3) ?_)))));refine Runs.ret ⟨s',k,?_,?_,g1.trans g3⟩
 ·congr 3;by_cases hr:w.row<w.t.ids.length
  ·rw[decide_eq_true hr,decide_eq_false (show¬(w.row:Int)=(w.sc.length:Int) by omega)];rfl
  ·have hr2:=o.row;rw[decide_eq_false hr,decide_eq_true (show(w.row:Int)=(w.sc.length:Int) by omega),decide_eq_true (show(w.tree:Int)=0 by omega),decide_eq_true (show(w.node:Int)=0 by omega)];rfl
 ·have v3:=v1.grow g3;cases k with
  | none=>exact v3
  | some k =>
   obtain⟨l,a,r,ln,rows,e',bb,c,r2⟩:=v3;exact⟨l,Fp.not_no,r,ln,rows,e',bb,c,r2.imp fun _ _ x=>x⟩
end
def AnsP(ty:TypeId)(h:AH)(S:Fp)(i j:Nat)(r:Int×Wk)(v:AV)(h':AH):Prop:=v=.int .i64 r.1∧WalkAt ty h' S i j r.2∧Md (Fp.two i j) h h'
section
variable{h:AH}{S S':Fp}{i j:Nat}{w:Wk}{m:Ms}{s5 s6 s7:Sl}
theorem Wk.next_open(hr:w.row<w.t.ids.length):w.next=[.int .i64 w.nd.party,.int .i64 8,.int .i64 w.nd.feature,.int .i64 (w.row:Int),.int .i64 0,nilS.v,nilS.v,nilS.v]:=by
 unfold Wk.next;rw[if_pos hr]
theorem Wk.next_cells:∃a b c d e,w.next=[.int .i64 a,.int .i64 b,.int .i64 c,.int .i64 d,.int .i64 e,nilS.v,nilS.v,nilS.v]:=by
 unfold Wk.next;split<;>exact⟨_,_,_,_,_,rfl⟩
theorem k9e(n:WalkAt kb0 h S i j w)(o:w.Ok)(hs:w.step=none)(nm:MsAt h S' s5 s6 s7 m)(frm:Int):Runs (go (.fn kp3 [.ptr (some (.new i 0)),.int .i64 frm,.agg (m.cells s5 s6 s7)]) h) (AnsP kb0 h S i j (w.answer frm m)):=by
 have n':=n;obtain⟨s0,s1,s2,s3,t7,b,n0,n1,v,d1,d2,d3⟩:=n';have hst:=o.stop hs;rw[k4i];refine Runs.new fun h1 b1 g1=>?_;refine(kxc (n.grow g1) o hs).call fun _ h2 ⟨e,g2⟩=>?_;subst e;obtain⟨x1,x2,x3,x4,x5,ex⟩:=Wk.next_cells (w:=w)
 have go1:w.row<w.t.ids.length→x1=w.nd.party∧x3=w.nd.feature∧x4=(w.row:Int):=fun hr=>by
  rw[Wk.next_open hr]at ex;simp at ex;exact⟨ex.1.symm,ex.2.2.1.symm,ex.2.2.2.1.symm⟩
 rw[ex];refine Runs.step rfl (Runs.step rfl (Runs.ifT rfl ?_))
 repeat refine Runs.step (seenAt rfl (by first | exact kc _ _ | exact asSl_v _)) ?_
 refine Runs.step (seen rfl) (Runs.new fun h3 b3 g3=>Runs.puts b3 rfl fun h4 b4 u4=>?_);have g4:Grow h2 h4:=g3.updr (Nat.le_refl _) u4;have G:=g1.trans (g2.trans g4);have B1:=(g2.trans g4).has b1;unfold Wk.answer;refine Runs.cond (fun c=>?_) (fun c=>?_)
 ·have hr:¬w.row<w.t.ids.length:=by simpa using c
  rw[if_pos hr];exact Runs.ret ⟨rfl,n.grow G,G.md _⟩
 have hr:w.row<w.t.ids.length:=by simpa using c
 obtain⟨rfl,rfl,rfl⟩:=go1 hr;obtain⟨_,ht,hl,hp⟩:=hst.resolve_left (by omega);rw[if_neg (by simpa using hr)]
 repeat refine Runs.step (AH.has.rd B1 _ rfl (by first | exact kc _ _ | exact asSl_v _)) ?_
 refine(kpu (nm.grow G)).call fun _ h5 ⟨⟨z,e,hz⟩,g5⟩=>?_;subst e;have G5:=G.trans g5;have B5:=g5.has B1;have b5:=g5.has b4;refine Runs.step (seen rfl) (Runs.cond (fun c2=>?_) (fun c2=>?_))
 ·rw[if_pos (by left;intro hm;rw[hz.2 hm]at c2;cases c2)];exact Runs.ret ⟨rfl,n.grow G5,G5.md _⟩
 have hm:m.ok:=hz.1 (by simpa using c2);refine Runs.step (B5.rd 0 rfl (kc _ _)) (Runs.cond (fun c3=>?_) (fun c3=>?_))
 ·rw[if_pos (by right;simpa using c3)];exact Runs.ret ⟨rfl,n.grow G5,G5.md _⟩
 have hk:m.kind=9:=by simpa using c3
 rw[if_neg (by simp[hm,hk])];refine Runs.step (b5.rd 0 rfl (kc _ _)) (Runs.cond (fun c4=>?_) (fun c4=>?_))
 ·rw[if_pos (by left;simpa using c4)];exact Runs.ret ⟨rfl,n.grow G5,G5.md _⟩
 refine Runs.step (B5.rd 1 rfl (kc _ _)) (Runs.step (b5.rn _ rfl (kc _ _)) (Runs.cond (fun c5=>?_) (fun c5=>?_)))
 ·rw[if_pos (by right;left;simpa using c5)];exact Runs.ret ⟨rfl,n.grow G5,G5.md _⟩
 refine Runs.step (B5.rd 2 rfl (kc _ _)) (Runs.step (b5.rn _ rfl (kc _ _)) (Runs.cond (fun c6=>?_) (fun c6=>?_)))
 ·rw[if_pos (by right;right;simpa using c6)];exact Runs.ret ⟨rfl,n.grow G5,G5.md _⟩
 rw[if_neg (by simp at c4 c5 c6;simp[c4,c5,c6])];obtain⟨zz,e5,h8,h9,h10,h11⟩:=o.kid hr ht hl (decide (m.c=1));rw[e5,Int.toNat_natCast];refine Runs.step (B5.rd 3 rfl (kc _ _)) (Runs.step rfl ?_);refine(kmu (n.grow G5) o hr ht).call fun _ h6 ⟨e,g6⟩=>?_;subst e;refine Runs.step rfl (Runs.ifT rfl ?_)
 repeat refine Runs.step (seenAt rfl (by first | exact kc _ _ | rfl)) ?_
 refine Runs.when (g6.same B5 3 1) ?_;refine(kxj w.nd (decide (m.c=1))).call fun _ h7 ⟨e,g7⟩=>?_;subst e;have hk2:(if decide (m.c=1)=true then w.nd.left else w.nd.right)=(zz:Int):=e5;rw[hk2];have G7:=G5.trans (g6.trans g7);refine Runs.step (seen (kc _ _)) (Runs.step (a:=(Ref.new i 0).add 6) rfl ?_);refine Runs.putAt (G7.has b) (cs':=Wk.cells {w with node:=zz} s0 s1 s2 s3 t7) (by simp) rfl fun h14 b14 u14=>?_;have m14:Md (Fp.two i j) h h14:=G7.thenM (u14.md (.inl rfl));have hd:Dis S (Fp.two i j):=fun k a b=>by rcases b with rfl | rfl;exact d1 a;exact d2 a
 have n14:WalkAt kb0 h14 S i j {w with node:=zz}:=⟨s0,s1,s2,s3,t7,b14,n0.md m14 hd,n1.md m14 hd,GF.updo (v.grow G7) (i:=some i) Fp.not_no (fun e=>d3 e.symm) u14,d1,d2,d3⟩;rw[ks6];refine(kxo _ n14 h11 (Nat.le_refl _)).call fun _ h15 ⟨e,n15,m15⟩=>?_;subst e;exact Runs.step rfl (Runs.ret ⟨rfl,n15,m14.trans m15⟩)
end
def oddN(parties:Int)(nc:Nat)(x:Nd):Bool:=!x.leaf&&(decide (x.party≥parties)||(decide (x.party=0)&&decide (x.feature≥(nc:Int))))
def newE(m:List (List Nd))(parties:Int)(t:Tb):Int :=
 if modR m=false∨parties<1∨parties>16 then 1 else if tabR t=false then 20 else if(m.any fun l=>l.any (oddN parties t.cols.length))=true then 1 else 0
def Wk.init(m:List (List Nd))(t:Tb):Wk:=⟨m,t,0,0,0,List.replicate t.ids.length 0⟩
theorem Wk.init_ok{m:List (List Nd)}{t:Tb}{parties:Int}(hm:modR m=true)(ht:tabR t=true)(ho:(m.any fun l=>l.any (oddN parties t.cols.length))=false):(Wk.init m t).Ok:=by
 refine⟨hm,ht,fun l hl x hx h1 h2=>?_,List.length_replicate,Nat.zero_le _,Nat.zero_le _,fun h=>?_,fun _=>rfl,fun _=>⟨rfl,rfl⟩⟩
 ·rw[List.any_eq_false]at ho;have:=ho l hl;simp only[Bool.not_eq_true,List.any_eq_false]at this;have:=this x hx;unfold oddN at this;show x.feature<(t.cols.length:Int);simp[h1,h2]at this;omega
 ·have h:0<m.length:=h;have:=(kc6 hm h).1;show 0<(m.getD 0 []).length;simp[List.getD,h];omega
theorem GF.nd{e:TypeId}{h:AH}{S:Fp}{s:Sl}:∀{i:Option Nat}{xs:List Nd},GF Ef.nd e h S s i xs→GF Ef.nd e h Fp.no s i xs
 | .none,_,v=>v
 | .some k,_,⟨l,a,r,ln,rows,e',b,c,r2⟩=>⟨l,Fp.not_no,r,ln,rows,e',b,c,r2.imp fun _ _ x=>x⟩
theorem kvd{n:Nat}(h:n≤1000000):growOk Pg n kbc 7=true:=by
 unfold growOk;rw[k4y,k54];have h1:n*56≤kg:=by simp only[kg];omega
 have h2:n≤kg:=by simp only[kg];omega
 simp[h1,h2]
theorem kuh{n:Nat}(h:n≤1000000):growOk Pg n kb2 1=true:=by
 unfold growOk;rw[kbe9,k34];have h1:n*24≤kg:=by simp only[kg];omega
 have h2:n≤kg:=by simp only[kg];omega
 simp[h1,h2]
theorem k73{h:AH}{S:Fp}{s:Sl}{xs:List Nd}(n:Sq Ef.nd h S s xs)(hl:xs.length≤1000000):Runs (go (.fn kpr [s.v]) h) fun v h'=>∃(s':Sl)(i:Option Nat),v=s'.v∧GF Ef.nd kbc h' Fp.no s' i xs∧Grow h h'∧LeO h.blks.size i:=by
 rw[k0y];exact(Runs.clone (P:=Pg) (elem:=kbc) n kls (kvd hl)).imp fun v h' ⟨s',i,e,v',g,l⟩=>⟨s',i,e,v'.nd,g,l⟩
theorem kwj{h:AH}{n:Nat}(hn:n≤1000000):∃(s:Sl)(h':AH),kbg (n:Int) (n:Int) T.int (Pg.bytesOf T.int) [.int .i64 0] h=some (s,h')∧GF EI T.int h' Fp.no s (some h.blks.size) (List.replicate n 0)∧Grow h h':=by
 rw[kny rfl rfl (by rw[kks];omega) (by omega),kp4];refine⟨_,_,rfl,⟨by simp;omega,Fp.not_no,rfl,by simp,List.replicate n [.int .i64 0],T.int,?_,.inl rfl,?_⟩,Grow.push h _⟩
 ·have:(List.replicate n [AV.int .i64 0]).flatten=List.replicate n (AV.int .i64 0):=by
   clear hn
   induction n with
   | zero=>rfl
   | succ n ih=>rw[List.replicate_succ,List.flatten_cons,ih,List.replicate_succ];rfl
  rw[this];exact AH.has_push h _ T.int
 ·clear hn
  induction n with
  | zero=>exact .nil
  | succ n ih=>exact .cons rfl ih
section
variable{h0:AH}{S:Fp}{s s1 s2 s3:Sl}{m:List (List Nd)}{t:Tb}
theorem kba6{h:AH}(x:Nd){a b:Nat}{parties:Int}{e1 e2:TypeId}(B1:h.has a [.int .i64 parties] e1)(B2:h.has b [s1.v,s2.v,s3.v] e2)(n:TabAt h S s1 s2 s3 t):Runs (go (.fn kb6 [.agg x.cells,.ptr (some (.new a 0)),.ptr (some (.new b 0))]) h) fun v h'=>v=.bool (oddN parties t.cols.length x)∧Grow h h':=by
 show Runs (go (.fn kb6 [.agg [.bool x.leaf,.int .i64 x.weight,.int .i64 x.party,.int .i64 x.feature,.int .i64 x.cut,.int .i64 x.left,.int .i64 x.right],.ptr (some (.new a 0)),.ptr (some (.new b 0))]) h) _;rw[kbfg];refine Runs.new fun h2 b2 g2=>?_;have B1:=g2.has B1;have B2:=g2.has B2;have l:=n.cols.len;unfold oddN;refine Runs.step (b2.rd 0 rfl rfl) (Runs.cond (fun c=>?_) (fun c=>Runs.ret ⟨by rw[c];rfl,g2⟩));refine Runs.step (b2.rd 2 rfl (kc _ _)) (Runs.step rfl (Runs.step (B1.rd0 rfl (kc _ _)) (Runs.cond (fun c2=>Runs.ret ⟨by rw[c,c2];rfl,g2⟩) (fun c2=>?_))));refine Runs.step (b2.rd 2 rfl (kc _ _)) (Runs.cond (fun c3=>?_) (fun c3=>Runs.ret ⟨by rw[c,c2,c3];rfl,g2⟩));refine Runs.step (b2.rd 3 rfl (kc _ _)) (Runs.step rfl (Runs.step (B2.rd 2 rfl (asSl_v _)) (Runs.ret ⟨by rw[c,c2,c3,l];rfl,g2⟩)))
theorem k74{l:List Nd}{u:Sl}(nl:Sq Ef.nd h0 S u l){S2:Fp}{a b:Nat}{parties:Int}{e1 e2:TypeId}(B1:h0.has a [.int .i64 parties] e1)(B2:h0.has b [s1.v,s2.v,s3.v] e2)(n:TabAt h0 S2 s1 s2 s3 t) :
  Runs (go (.fn koc [u.v,.func (.func kb6) [] [.ptr (some (.new a 0)),.ptr (some (.new b 0))]]) h0) fun v h'=>v=.bool (l.any (oddN parties t.cols.length))∧Grow h0 h':=by
 rw[kbag];refine Runs.contains (xs:=l) ?_;rw[k5v,nl.len];refine kdz (n:=l.length) (G:=fun z h=>go (.pt khs klt [(0,u.v),(1,.func (.func kb6) [] [.ptr (some (.new a 0)),.ptr (some (.new b 0))]),(7,.int .i64 (l.length:Int)),(8,.int .i64 z)]) h) (fun i h P hi g hT hF=>?_) (fun h g=>?_) l.length 0 (by omega) (Grow.refl h0) (fun j hj=>by omega)
 ·obtain⟨r,e,f0,f1,f2,f3,f4,f5,f6⟩:=(nl.grow g).nd hi;rw[List.getElem?_eq_getElem hi]at hT hF;simp only[Option.any_some]at hT hF;show Runs (go _ _) _;rw[ksy];refine Runs.ifT (decide_eq_true (by omega)) (Runs.step e (Runs.step f0 (Runs.step f1 (Runs.step f2 (Runs.step f3 (Runs.step f4 (Runs.step f5 (Runs.step f6 ?_))))))));refine(kba6 l[i] (g.has B1) (g.has B2) (n.grow g)).call fun v h' ⟨ev,g'⟩=>?_;subst ev;refine Runs.step (seen rfl) ?_;rw[kf (by have:=nl.short;omega)];exact Runs.cond (fun c=>Runs.ret (hT _ (g.trans g') c)) fun c=>hF _ (g.trans g') c
 ·rw[ksy,condF (decide_eq_false (by omega))]
def NewPW(ty:TypeId)(h:AH)(S0:Fp)(m:List (List Nd))(parties:Int)(t:Tb)(v:AV)(h':AH):Prop :=
 Grow h h'∧((newE m parties t≠0∧v=.tup [.ptr none,.int .i64 (newE m parties t)])∨
 (newE m parties t=0∧∃(i j:Nat)(S:Fp),v=.tup [.ptr (some (.new i 0)),.int .i64 0]∧WalkAt ty h' S i j (Wk.init m t).go∧(Wk.init m t).Ok∧h.blks.size≤i∧h.blks.size≤j∧i<h'.blks.size∧j<h'.blks.size∧∀k,S k→k<h'.blks.size∧(S0 k∨h.blks.size≤k)))
theorem k18{parties:Int}(hm:modR m=true)(ht:tabR t=true)(hp:¬(parties<1∨parties>16)){hb:AH}(g0:Grow h0 hb)(n:Sq EM h0 S s m)(nt:TabAt h0 S s1 s2 s3 t)(hS:∀k,S k→k<h0.blks.size){a b i j:Nat}(hi:h0.blks.size≤i)(hib:hb.blks.size=i+1)(hj:h0.blks.size≤j)(hjb:j<i)(hai:a≠i)(hbi:b≠i)(B1:hb.has a [.int .i64 parties] T.int)(B2:hb.has b [s1.v,s2.v,s3.v] ku){s7:Sl}(v7:GF EI T.int hb Fp.no s7 (some j) (List.replicate t.ids.length 0)) :
  ∀(k z:Nat),z+k=m.length→∀{h:AH}{s0:Sl}{oi:Option Nat}{S0:Fp},Md (fun x=>x=i) hb h→h.has i (Wk.cells (Wk.init m t) s0 s1 s2 s3 s7) kb0→GF EM kb2 h S0 s0 oi (m.take z)→(∀x,S0 x→i<x∧x<h.blks.size)→(∀x,oi=some x→i<x)→((m.take z).any fun l=>l.any (oddN parties t.cols.length))=false→
  Runs (go (.pt kfp kk9 [(8,.func (.func kb6) [] [.ptr (some (.new a 0)),.ptr (some (.new b 0))]),(9,.ptr (some (.new i 0))),(37,s.v),(38,.int .i64 (m.length:Int)),(39,.int .i64 (z:Int))]) h) (NewPW kb0 h0 S m parties t):=by
 have h16:=kgb hm;have up:∀{h:AH},Md (fun x=>x=i) hb h→Grow h0 h:=fun{h} q=>g0.thenM q |>.grow fun x hx e=>by subst e;omega
 intro k
 induction k with
 | zero =>
  intro z hz h s0 oi S0 md B v hS0 hoi ha;have hz:z=m.length:=by omega
  subst hz;rw[List.take_length]at v ha;have g:=up md;rw[kro];refine Runs.ifF (decide_eq_false (by omega)) ?_;have ok:=Wk.init_ok hm ht ha
  have W:WalkAt kb0 h (Fp.or S (Fp.or (Fp.opt oi) S0)) i j (Wk.init m t):=by
   refine⟨s0,s1,s2,s3,s7,B,v.sq.mono fun _ x=>.inr x,⟨(nt.ids.grow g).mono fun _ x=>.inl x,(nt.bins.grow g).mono fun _ x=>.inl x,(nt.cols.grow g).mono fun _ x=>.inl x⟩,GF.md md Dis.no.symm v7 fun k e=>by cases e;omega,fun x=>?_,fun x=>?_,by omega⟩
   ·rcases x with x | x | x
    ·have:=hS _ x;omega
    ·have:=hoi _ x;omega
    ·have:=hS0 _ x;omega
   ·rcases x with x | x | x
    ·have:=hS _ x;omega
    ·have:=hoi _ x;omega
    ·have:=hS0 _ x;omega
  rw[ks6];refine(kxo _ W ok (Nat.le_refl _)).call fun _ h1 ⟨e,W1,m1⟩=>?_;subst e
  have he:newE m parties t=0:=by
   unfold newE;rw[if_neg (by rw[hm];simpa using hp),if_neg (by rw[ht];simp),ha,if_neg (by simp)]
  have sz:=m1.size;have s1':=md.size;refine Runs.step rfl (Runs.ret ⟨(g.md (fun x=>x=i∨x=j)).trans m1 |>.grow fun x hx e=>by rcases e with rfl | rfl<;>omega,.inr ⟨he,i,j,_,rfl,W1,ok,hi,hj,by dsimp only;omega,by dsimp only;omega,fun x hx=>?_⟩⟩);dsimp only;rcases hx with hx | hx | hx
  ·have:=hS _ hx;have:=g.size;exact⟨by omega,.inl hx⟩
  ·have:=v.lt;have hx:oi=some x:=hx;have h2:=hoi x hx;rw[hx]at this;have this:x<h.blks.size:=this;exact⟨by omega,.inr (by omega)⟩
  ·have:=hS0 _ hx;exact⟨by omega,.inr (by omega)⟩
 | succ k ih =>
  intro z hz h s0 oi S0 md B v hS0 hoi ha;have hlt:z<m.length:=by omega
  have g:=up md;obtain⟨r,s',e1,-,e2,nl⟩:=(n.grow g).sl hlt;rw[kro];refine Runs.ifT (decide_eq_true (by omega)) (Runs.step e1 (Runs.step e2 ?_));refine Runs.new fun h1 b1 g1=>Runs.puts b1 rfl fun h2 b2 u2=>?_;have g2:Grow h h2:=g1.updr (Nat.le_refl _) u2;refine Runs.step (b2.rd 0 rfl (asSl_v _)) ?_;have a2:=g2.has (md.has B1 (by omega));have b2':=g2.has (md.has B2 (by omega));refine(k74 (nl.grow g2) a2 b2' (nt.grow (g.trans g2))).call fun v3 h3 ⟨e,g3⟩=>?_;subst e;have g23:=g2.trans g3;have ht':m.take (z+1)=m.take z++[m[z]]:=List.take_succ_eq_append_getElem hlt;refine Runs.step (seen rfl) (Runs.cond (fun c=>?_) (fun c=>?_))
  ·have hany:(m.any fun l=>l.any (oddN parties t.cols.length))=true:=by
    rw[List.any_eq_true];exact⟨m[z],List.getElem_mem hlt,c⟩
   have he:newE m parties t=1:=by
    unfold newE;rw[if_neg (by rw[hm];simpa using hp),if_neg (by rw[ht];simp),if_pos hany]
   exact Runs.ret ⟨g.trans g23,.inl ⟨by rw[he];decide,by rw[he]⟩⟩
  have B3:=g23.has B;refine Runs.step (B3.rd 0 rfl (asSl_v _)) (Runs.step ((g3.has b2).rd 0 rfl (asSl_v _)) ?_);obtain⟨h63a,h63,-⟩:=kc6 hm hlt;refine(k73 (nl.grow g23) (by omega)).call fun v4 h4 ⟨s4,o4,e,v4,g4,l4⟩=>?_;subst e;refine Runs.step (seen (asSl_v _)) (Runs.when (g4.same B3 0 1) ?_);refine Runs.new fun h5 b5 g5=>Runs.when (g5.same (g4.has B3) 0 1) ?_;have g45:=g4.trans g5;have G:=g23.trans g45;refine Runs.step (kcd (n:=1) b5 (by rw[knb];rfl)) ?_;have hsz:=md.size;have hi3:i<h3.blks.size:=by have:=g23.size;omega
  have o4i:∀x,o4=some x→h3.blks.size≤x:=fun x hx=>by rw[hx]at l4;exact l4
  have vlt:=v.lt
  obtain⟨s6,h6,e6,v6,u6⟩:=(v.grow G).push (P:=Pg) (T:=Fp.opt o4) (cs:=[s4.v]) (x:=m[z]) ⟨s4,rfl,((v4.grow g5).sq).mono fun x hx=>hx.elim id False.elim⟩ (by
   cases oi with
   | none=>trivial
   | some x =>
    intro hx;have h1:=o4i x hx;have h2:x<h.blks.size:=vlt;have:=g23.size;omega) (kuh (by rw[List.length_take];omega))
  refine Runs.step e6 (Runs.step (asSl_v _) ?_);have u6m:Md (fun x=>i<x) h5 h6:=UpdO.md u6 hoi;have B6:=u6m.has (G.has B) (Nat.lt_irrefl _);refine Runs.putAt B6 (cs':=Wk.cells (Wk.init m t) s6 s1 s2 s3 s7) (by simp) (by simp) fun h7 b7 u7=>?_;have hlt5:i<h5.blks.size:=by have:=g45.size;omega
  have md7:Md (fun x=>x=i) hb h7:=((md.thenG G).next u6m fun x hx hx2=>by
   have hx2:i<x:=hx2;omega).trans (u7.md rfl)
  have sz5:=g45.size;have sz3:=g23.size;have sz6:=u6m.size;have sz7:=u7.size;dsimp only at sz7;rw[kf (by omega)]
  have nS:∀x,(Fp.or S0 (Fp.opt o4) x∧x<h5.blks.size)→i<x:=fun x hx=>by
   rcases hx.1 with y | y
   ·exact(hS0 x y).1
   ·have:=o4i x y;omega
  refine ih (z+1) (by omega) md7 b7 (S0:=fun x=>Fp.or S0 (Fp.opt o4) x∧x<h5.blks.size) (oi:=some h5.blks.size) ?_ (fun x hx=>⟨nS x hx,by have:=hx.2;omega⟩) (fun x hx=>by cases hx;omega) ?_
  ·rw[ht'];exact GF.updo v6 (i:=some i) (fun hx=>Nat.lt_irrefl _ (nS i hx)) (show h5.blks.size≠i by omega) u7
  ·rw[ht',List.any_append,ha];simp[c]
end
theorem Runs.new1{P:AV→AH→Prop}{h:AH}{cs:List AV}{e:TypeId}{K:Ref→AH→Option (AV×AH)}(H:∀h',h'.has h.blks.size cs e→Grow h h'→h'.blks.size=h.blks.size+1→Runs (K (.new h.blks.size 0) h') P):Runs (newK h (.cells cs e) K) P :=
 H _ (AH.has_push h cs e) (Grow.push h _) (AH.push_size h _)
section
variable{h0:AH}{S:Fp}{s s1 s2 s3:Sl}{m:List (List Nd)}{t:Tb}
theorem ksk(n:Sq EM h0 S s m)(nt:TabAt h0 S s1 s2 s3 t)(hS:∀k,S k→k<h0.blks.size)(parties:Int):Runs (go (.fn kfp [.agg [s.v],.int .i64 parties,.agg [s1.v,s2.v,s3.v]]) h0) (NewPW kb0 h0 S m parties t):=by
 rw[kbfj];refine Runs.new fun h1 b1 g1=>Runs.new fun h2 b2 g2=>Runs.new fun h3 b3 g3=>?_;have B1:=(g2.trans g3).has b1;have B2:=g3.has b2;have G3:=g1.trans (g2.trans g3);refine Runs.step (B1.rd 0 rfl (asSl_v _)) ?_;refine(k1n (n.grow G3)).call fun _ h4 ⟨e,g4⟩=>?_;subst e;have G4:=G3.trans g4;refine Runs.step (seen rfl) (Runs.cond (fun c=>?_) (fun c=>?_))
 ·have hm:modR m=false:=by simpa using c
  have he:newE m parties t=1:=by unfold newE;rw[if_pos (.inl hm)]
  exact Runs.ret ⟨G4,.inl ⟨by rw[he];decide,by rw[he]⟩⟩
 have hm:modR m=true:=by simpa using c
 refine Runs.step ((g4.has B2).rd0 rfl (kc _ _)) (Runs.cond (fun c2=>?_) (fun c2=>?_))
 ·have he:newE m parties t=1:=by unfold newE;rw[if_pos (.inr (.inl (by simpa using c2)))]
  exact Runs.ret ⟨G4,.inl ⟨by rw[he];decide,by rw[he]⟩⟩
 refine Runs.step ((g4.has B2).rd0 rfl (kc _ _)) (Runs.cond (fun c3=>?_) (fun c3=>?_))
 ·have he:newE m parties t=1:=by unfold newE;rw[if_pos (.inr (.inr (by simpa using c3)))]
  exact Runs.ret ⟨G4,.inl ⟨by rw[he];decide,by rw[he]⟩⟩
 have hp:¬(parties<1∨parties>16):=by simp at c2 c3;omega
 have B3:=g4.has b3;refine Runs.step (B3.rd 0 rfl (asSl_v _)) (Runs.step (B3.rd 1 rfl (asSl_v _)) (Runs.step (B3.rd 2 rfl (asSl_v _)) ?_));refine(khj (nt.grow G4)).call fun _ h5 ⟨e,g5⟩=>?_;subst e;have G5:=G4.trans g5;refine Runs.step (seen rfl) (Runs.cond (fun c=>?_) (fun c=>?_))
 ·have ht:tabR t=false:=by simpa using c
  have he:newE m parties t=20:=by unfold newE;rw[if_neg (by rw[hm];simpa using hp),if_pos ht]
  exact Runs.ret ⟨G5,.inl ⟨by rw[he];decide,by rw[he]⟩⟩
 have ht:tabR t=true:=by simpa using c
 have B5:=g5.has B3;have h256:=kgr ht;refine Runs.step (B5.rd 0 rfl (asSl_v _)) (Runs.step (B5.rd 1 rfl (asSl_v _)) (Runs.step (B5.rd 2 rfl (asSl_v _)) (Runs.step (B5.rd 0 rfl (asSl_v _)) ?_)));rw[nt.ids.len];obtain⟨s7,h6,e6,v6,g6⟩:=kwj (h:=h5) (n:=t.ids.length) (by omega);refine Runs.step e6 (Runs.when (g6.same0 B5 0 3) ?_);refine Runs.new1 fun h7 b7 g7 k7=>?_;have g37:=(g4.trans g5).trans (g6.trans g7);refine Runs.step ((g37.has B1).rd 0 rfl (asSl_v _)) ?_;rw[n.len];have z1:=b1.lt;have z2:=b2.lt;have z3:=b3.lt;have k1:=g1.size;have k2:=g2.size;have k3:=g3.size;have k4:=g4.size;have k5:=g5.size;have k6:h5.blks.size<h6.blks.size:=v6.lt;dsimp only at z1 z2 z3 k1 k2 k3 k4 k5 k6 k7⊢;exact k18 hm ht hp (G5.trans (g6.trans g7)) n nt hS (a:=h1.blks.size) (b:=h2.blks.size) (i:=h6.blks.size) (j:=h5.blks.size) (by omega) (by omega) (by omega) (by omega) (by omega) (by omega) (g37.has B2) ((g5.trans (g6.trans g7)).has B3) (v6.grow g7) m.length 0 (by omega) (S0:=Fp.no) (oi:=none) (Md.refl _ _) b7 (GF.none _ _ _ _) (fun x hx=>hx.elim) (fun x hx=>by cases hx) rfl
end
end Go.Ab
set_option maxRecDepth 10000
namespace Go.Ab
open Go.Proofs
section
variable{h0:AH}{S S':Fp}{s t:Sl}
theorem k9p{xs ys:List Int}(n:Sq EI h0 S s xs)(m:Sq EI h0 S' t ys)(hl:xs.length=ys.length):∀(k i:Nat),i+k=xs.length→
  go (.pt kgq km9 [(0,s.v),(1,t.v),(5,.int .i64 (i:Int))]) h0=some (.bool (decide (xs.drop i=ys.drop i)),h0):=by
 intro k
 induction k with
 | zero =>
  intro i hi;rw[ks8,n.len,condF (decide_eq_false (by omega)),List.drop_of_length_le (by omega),List.drop_of_length_le (by omega)];rfl
 | succ k ih =>
  intro i hi;have h1:i<xs.length:=by omega
  have h2:i<ys.length:=by omega
  obtain⟨r,e1,e2⟩:=n.int h1;obtain⟨q,e3,e4⟩:=m.int h2;rw[ks8,e1,e3,n.len,condT (decide_eq_true (by omega))];simp only[Option.bind_some,e2,e4];rw[kf (by have:=n.short;omega),ih (i+1) (by omega),List.drop_eq_getElem_cons h1,List.drop_eq_getElem_cons h2];by_cases c:xs[i]=ys[i]
  ·rw[condF (by rw[decide_eq_true c];rfl),decide_eq_decide.2 (show xs.drop (i+1)=ys.drop (i+1)↔xs[i]::xs.drop (i+1)=ys[i]::ys.drop (i+1)from⟨fun e=>by rw[c,e],fun e=>(List.cons.inj e).2⟩)]
  ·rw[condT (by rw[decide_eq_false c];rfl),decide_eq_false (fun e=>c (List.cons.inj e).1)]
theorem k0j{xs ys:List Int}(n:Sq EI h0 S s xs)(m:Sq EI h0 S' t ys):go (.fn kgq [s.v,t.v]) h0=some (.bool (decide (xs=ys)),h0):=by
 rw[kbar,n.len,m.len];by_cases c:xs.length=ys.length
 ·rw[condF (by rw[decide_eq_true (by omega)];rfl)];exact k9p n m c xs.length 0 (by omega)
 ·rw[condT (by rw[decide_eq_false (by omega)];rfl),decide_eq_false (fun e=>c (by rw[e]))]
end
theorem khy{h:AH}{cs:List AV}(a:ArgT Pg h kbr cs):∃(s:Sl)(xs:List Int),cs=[s.v]∧Sq EI h Fp.no s xs:=k43 Fp.no kbdn kf6 kf5 a
theorem kbc5{h:AH}{x:AV}(a:ArgV Pg h ku x):∃(s1 s2 s3:Sl)(t:Tb),x=.agg [s1.v,s2.v,s3.v]∧TabAt h Fp.no s1 s2 s3 t:=by
 unfold ArgV at a;rw[knt]at a;obtain⟨cs,rfl,t⟩:=a;obtain⟨hl,hf⟩:=t.struct knt;rw[klu]at hl
 match cs,hl with
 | [x0,x1,x2],_ =>
  simp[kir,ks5]at hf;obtain⟨h0,h1,h2⟩:=hf;obtain⟨s1,xs,e0,n0⟩:=khy h0;obtain⟨s2,ys,e1,n1⟩:=khy h1
  obtain⟨s3,zs,e2,n2⟩:=Sq.of_arg (E:=Ef.seq EI) (S:=Fp.no) kxx kir (fun es t=>by
   obtain⟨s,l,e,n⟩:=khy t;exact⟨l,s,e,n⟩) h2
  cases e0;cases e1;cases e2;exact⟨s1,s2,s3,⟨xs,ys,zs⟩,rfl,n0,n1,n2⟩
theorem ky9{h:AH}{cs:List AV}(a:ArgT Pg h kbc cs):∃x:Nd,cs=x.cells:=by
 obtain⟨hl,hf⟩:=a.struct k8h;rw[kls]at hl
 match cs,hl with
 | [x0,x1,x2,x3,x4,x5,x6],_ =>
  simp[kf5,ky1]at hf;obtain⟨h0,h1,h2,h3,h4,h5,h6⟩:=hf;obtain⟨b,e0⟩:=h0.bool k2j;obtain⟨y1,e1,_⟩:=h1.int kf6;obtain⟨y2,e2,_⟩:=h2.int kf6;obtain⟨y3,e3,_⟩:=h3.int kf6;obtain⟨y4,e4,_⟩:=h4.int kf6;obtain⟨y5,e5,_⟩:=h5.int kf6;obtain⟨y6,e6,_⟩:=h6.int kf6;cases e0;cases e1;cases e2;cases e3;cases e4;cases e5;cases e6;exact⟨⟨b,y1,y2,y3,y4,y5,y6⟩,rfl⟩
theorem kbce{h:AH}{x:AV}(a:ArgV Pg h kbh x):∃(s:Sl)(m:List (List Nd)),x=.agg [s.v]∧Sq EM h Fp.no s m:=by
 unfold ArgV at a;rw[ksc]at a;obtain⟨cs,rfl,t⟩:=a;obtain⟨hl,hf⟩:=t.struct ksc;rw[k1k]at hl
 match cs,hl with
 | [x0],_ =>
  simp[kyf]at hf
  obtain⟨s,m,e,n⟩:=Sq.of_arg (E:=EM) (S:=Fp.no) k3v knb (fun es t=>by
   obtain⟨hl,hf⟩:=t.struct k0c;rw[knb]at hl
   match es,hl with
   | [y0],_ =>
    simp[k4c]at hf;obtain⟨s',l,e,n⟩:=Sq.of_arg (E:=Ef.nd) (S:=Fp.no) k5p kls (fun es t=>ky9 t) hf;cases e;exact⟨l,s',rfl,n⟩) hf
  cases e;exact⟨s,m,rfl,n⟩
theorem kbbz{h0:AH}{S:Fp}{s s1 s2 s3:Sl}{m:List (List Nd)}{t:Tb}(n:Sq EM h0 S s m){a b:Nat}(B1:h0.has a [s.v] kbh)(B2:h0.has b [s1.v,s2.v,s3.v] ku):∀(k i:Nat),i+k=20→∀z:Int,
  Runs (go (.pt kgw kkp [(2,.ptr (some (.new a 0))),(3,.ptr (some (.new b 0))),(5,.int .i64 z),(6,.int .i64 (i:Int))]) h0) fun v h'=>(∃r:Bool,v=.bool r)∧h'=h0:=by
 intro k
 induction k with
 | zero =>
  intro i hi z;rw[kuf];refine Runs.step (B1.rd 0 rfl (asSl_v _)) (Runs.cond (fun c=>Runs.ifF (decide_eq_false (by omega)) ?_) (fun c=>?_))
  all_goals
   repeat' first
    | refine Runs.step (AH.has.rd (by assumption) _ rfl (asSl_v _)) ?_
    | refine Runs.cond (fun k=>?_) (fun k=>?_)
    | exact Runs.ret ⟨⟨_,rfl⟩,rfl⟩
 | succ k ih =>
  intro i hi z;rw[kuf];refine Runs.step (B1.rd 0 rfl (asSl_v _)) (Runs.cond (fun c=>Runs.ifT (decide_eq_true (by omega)) ?_) (fun c=>?_))
  ·rw[n.len,decide_eq_true_eq]at c;have hlt:i<m.length:=by omega
   obtain⟨r,s',e1,-,e2,nl⟩:=n.sl hlt;refine Runs.step (B1.rd 0 rfl (asSl_v _)) (Runs.step e1 (Runs.step e2 ?_));rw[kf (by omega)];exact ih (i+1) (by omega) _
  ·repeat' first
    | refine Runs.step (AH.has.rd (by assumption) _ rfl (asSl_v _)) ?_
    | refine Runs.cond (fun k=>?_) (fun k=>?_)
    | exact Runs.ret ⟨⟨_,rfl⟩,rfl⟩
theorem kbco{h0:AH}{S:Fp}{s s1 s2 s3:Sl}{m:List (List Nd)}(n:Sq EM h0 S s m):Runs (go (.fn kgw [.agg [s.v],.agg [s1.v,s2.v,s3.v]]) h0) fun v h'=>(∃r:Bool,v=.bool r)∧Grow h0 h':=by
 rw[k3m];refine Runs.new fun h5 b5 g5=>Runs.new fun h6 b6 g6=>Runs.step (b6.rd 0 rfl (asSl_v _)) ?_;exact(kbbz (t:=⟨[],[],[]⟩) (n.grow (g5.trans g6)) (g6.has b5) b6 20 0 (by omega) _).imp fun v h' ⟨a,b⟩=>⟨a,by rw[b];exact g5.trans g6⟩
def leaf3:Nd:=⟨true,3,0,0,0,0,0⟩
theorem kbcg{h:AH}:Runs (go (.fn knx []) h) fun v h'=>v=.bool true∧Grow h h':=by
 rw[k1o];refine Runs.new1 fun h1 b1 g1 k1=>Runs.new1 fun h2 b2 g2 k2=>Runs.new1 fun h3 b3 g3 k3=>?_;have n0:Sq Ef.nd h1 (Fp.or (fun j=>j=h.blks.size) Fp.no) ⟨some (.new h.blks.size 0),1,.is 1⟩ [leaf3]:=Sq.lit (E:=Ef.nd) (rows:=[leaf3.cells]) b1 (.cons rfl .nil) rfl;have n1:Sq EM h2 (Fp.or (fun j=>j=h1.blks.size) (Fp.or (fun j=>j=h.blks.size) Fp.no)) ⟨some (.new h1.blks.size 0),1,.is 1⟩ [[leaf3]]:=Sq.lit (E:=EM) (rows:=[[(⟨some (.new h.blks.size 0),1,.is 1⟩:Sl).v]]) b2 (.cons ⟨_,rfl,n0.grow g2⟩ .nil) rfl;have n2:Sq EI h3 (Fp.or (fun j=>j=h2.blks.size) Fp.no) ⟨some (.new h2.blks.size 0),2,.is 2⟩ [5,6]:=Sq.lit (E:=EI) (rows:=[[.int .i64 5],[.int .i64 6]]) b3 (.cons rfl (.cons rfl .nil)) rfl;have z1:=b1.lt;have z2:=b2.lt;have z3:=b3.lt;have nt:TabAt h3 (fun j=>j<h3.blks.size) ⟨some (.new h2.blks.size 0),2,.is 2⟩ nilS nilS ⟨[5,6],[],[]⟩:=⟨n2.mono fun j hj=>by rcases hj with rfl | hj;exact z3;exact hj.elim,Sq.nil _ _ _,Sq.nil _ _ _⟩
 have nm:=(n1.grow g3).mono (T:=fun j=>j<h3.blks.size) fun j hj=>by
  rcases hj with rfl | rfl | hj
  ·omega
  ·omega
  ·exact hj.elim
 refine(ksk nm nt (fun k hk=>hk) 1).call fun _ h4 ⟨g4,d⟩=>?_;have he:newE [[leaf3]] 1 ⟨[5,6],[],[]⟩=0:=by decide +kernel
 have hg:(Wk.init [[leaf3]] ⟨[5,6],[],[]⟩).go.sc=[3,3]:=by decide +kernel
 have G:=g1.trans (g2.trans g3);rcases d with⟨h1,_⟩ | ⟨_,i,j,S,rfl,W,ok,-⟩
 ·exact absurd he h1
 have⟨o1,st,e1,e2⟩:=Wk.Ok.on _ ok (Nat.le_refl _);refine Runs.step rfl (Runs.step (seen rfl) (Runs.step (seen (kc _ _)) (Runs.ifF rfl (Runs.ifF rfl ?_))));refine(kv6 W o1 st).call fun _ h5 ⟨s',k,e,v,g5⟩=>?_;subst e;rw[hg]at v;have hr:decide ((Wk.init [[leaf3]] ⟨[5,6],[],[]⟩).go.row<(Wk.init [[leaf3]] ⟨[5,6],[],[]⟩).go.t.ids.length)=false:=by decide +kernel
 rw[hr];obtain⟨r1,f1,f2⟩:=v.sq.int (i:=0) (by decide);obtain⟨r2,f3,f4⟩:=v.sq.int (i:=1) (by decide);have hl:=v.len;refine Runs.step rfl (Runs.step (seen (asSl_v _)) (Runs.step (seen rfl) (Runs.ifT rfl ?_)));refine Runs.ifT (by rw[hl];rfl) (Runs.step f1 (Runs.step f2 (Runs.ifT rfl (Runs.step f3 (Runs.step f4 (Runs.ret ⟨rfl,G.trans (g4.trans g5)⟩))))))
end Go.Ab
set_option maxRecDepth 10000
namespace Go.Ab
open Go.Proofs
theorem MsAt.mono{h:AH}{S U:Fp}{s5 s6 s7:Sl}{m:Ms}(n:MsAt h S s5 s6 s7 m)(f:∀j,S j→U j):MsAt h U s5 s6 s7 m:=⟨n.ids.mono f,n.rows.mono f,n.nats.mono f⟩
@[reducible] def Ef.msg:Ef Ms where
 w:=7
 pos:=by decide
 has h S cs m:=∃s5 s6 s7,cs=m.cells s5 s6 s7∧MsAt h S s5 s6 s7 m
 len:=fun⟨_,_,_,e,_⟩=>by rw[e];rfl
 grow g:=fun⟨a,b,c,e,n⟩=>⟨a,b,c,e,n.grow g⟩
 mono f:=fun⟨a,b,c,e,n⟩=>⟨a,b,c,e,n.mono f⟩
 upd no u:=fun⟨a,b,c,e,n⟩=>⟨a,b,c,e,⟨n.ids.upd no u,n.rows.upd no u,n.nats.upd no u⟩⟩
 bound:=fun⟨a,b,c,e,n⟩=>⟨a,b,c,e,⟨n.ids.bound,n.rows.bound,n.nats.bound⟩⟩
structure Stp where
 frm:Int
 m:Ms
 right:Bool
 way:Int
section
variable{h0:AH}{S1 S2:Fp}{i1 j1 i2 j2:Nat}{s:Sl}{l:List Stp}
end
end Go.Ab
namespace Go.Ab
theorem kvv:∀(n w:Nat),w≠0→w<2^n→∃k m,k<n∧w=2^(k+1)*m+2^k:=by
 intro n
 induction n with
 | zero=>intro w h0 h;omega
 | succ n ih =>
  intro w h0 h;rcases Nat.mod_two_eq_zero_or_one w with e | e
  ·obtain⟨k,m,hk,hm⟩:=ih (w/2) (by omega) (by rw[Nat.pow_succ]at h;omega);refine⟨k+1,m,by omega,?_⟩;have:w=2*(w/2):=by omega
   rw[this,hm,Nat.mul_add,← Nat.mul_assoc,← Nat.pow_succ',← Nat.pow_succ']
  ·exact⟨0,w/2,by omega,by simp;omega⟩
theorem kha{k m:Nat}(j:Nat):(2^(k+1)*m+2^k).testBit j=if j<k then false else if j=k then true else m.testBit (j-(k+1)):=by
 rw[Nat.testBit_two_pow_mul_add _ (Nat.pow_lt_pow_right (by decide) (Nat.lt_succ_self k)),Nat.testBit_two_pow]
 grind
theorem k2v(k m:Nat):(2^(k+1)*m+2^k)&&&(2^(k+1)*m+2^k-1)=2^(k+1)*m:=by
 have hp:0<2^k:=Nat.two_pow_pos k;have e:2^(k+1)*m+2^k-1=2^(k+1)*m+(2^k-1):=by omega
 rw[e];apply Nat.eq_of_testBit_eq;intro j;rw[Nat.testBit_and,kha,Nat.testBit_two_pow_mul_add _ (by rw[Nat.pow_succ];omega),Nat.testBit_two_pow_sub_one,Nat.testBit_two_pow_mul]
 grind
theorem k2g{k m n:Nat}(h:2^(k+1)*m+2^k<2^n):(2^(k+1)*m+2^k)&&&(2^n-(2^(k+1)*m+2^k))=2^k:=by
 have hk:k<n:=by
  rcases Nat.lt_or_ge k n with h1 | h1
  ·exact h1
  ·have:=Nat.pow_le_pow_right (n:=2) (by decide) h1;omega
 obtain⟨d,rfl⟩:∃d,n=(k+1)+d:=⟨n-(k+1),by omega⟩
 have hm:m<2^d:=by
  rcases Nat.lt_or_ge m (2^d)with h1 | h1
  ·exact h1
  ·have:=Nat.mul_le_mul_left (2^(k+1)) h1;rw[← Nat.pow_add]at this;exact absurd h (Nat.not_lt.2 (Nat.le_trans this (Nat.le_add_right _ _)))
 have e:2^(k+1+d)-(2^(k+1)*m+2^k)=2^(k+1)*(2^d-(m+1))+2^k:=by
  have a:2^(k+1+d)=2^(k+1)*2^d:=Nat.pow_add ..;have b:2^(k+1)*2^d=2^(k+1)*(2^d-(m+1))+2^(k+1)*(m+1):=by rw[← Nat.mul_add];congr 1;omega
  have c:2^(k+1)*(m+1)=2^(k+1)*m+2^(k+1):=by rw[Nat.mul_add,Nat.mul_one]
  have f:2^(k+1)=2^k+2^k:=by rw[Nat.pow_succ];omega
  omega
 rw[e];apply Nat.eq_of_testBit_eq;intro j;rw[Nat.testBit_and,kha,kha,Nat.testBit_two_pow];by_cases h1:j<k
 ·have:¬k=j:=by omega
  simp[h1,this]
 ·by_cases h2:j=k
  ·subst h2;simp
  ·have:¬k=j:=by omega
   rw[if_neg h1,if_neg h2,if_neg h1,if_neg h2,Nat.testBit_two_pow_sub_succ hm];simp[this];intro a b;exact a
def ones(w:Nat):List Nat:=(List.range 64).filter w.testBit
theorem k5a{p q:Nat→Bool}{k:Nat}:∀{n:Nat},k<n→p k=true→(∀j,j<k→p j=false)→(∀j,j<n→q j=(p j&&decide (j≠k)))→(List.range n).filter p=k::(List.range n).filter q:=by
 intro n
 induction n with
 | zero=>intro h;omega
 | succ n ih =>
  intro h hp hl hq;rw[List.range_succ,List.filter_append,List.filter_append];by_cases e:k=n
  ·subst e;have a:(List.range k).filter p=[]:=List.filter_eq_nil_iff.2 fun j hj=>by rw[hl j (List.mem_range.1 hj)];simp
   have b:(List.range k).filter q=[]:=List.filter_eq_nil_iff.2 fun j hj=>by
    have:=List.mem_range.1 hj;rw[hq j (by omega),hl j this];simp
   rw[a,b];have:q k=false:=by rw[hq k (by omega)];simp
   simp[hp,this]
  ·rw[ih (by omega) hp hl fun j hj=>hq j (by omega)];have:q n=p n:=by rw[hq n (by omega)];simp;intro _;omega
   simp[this,List.filter_cons]
theorem kvp:ones 0=[]:=by
 unfold ones;exact List.filter_eq_nil_iff.2 fun j _=>by simp
theorem kt0{k m:Nat}(hk:k<64):ones (2^(k+1)*m+2^k)=k::ones (2^(k+1)*m):=by
 unfold ones;refine k5a hk (by rw[kha];simp) (fun j hj=>by rw[kha];simp[hj]) fun j _=>?_;rw[kha,Nat.testBit_two_pow_mul];by_cases h1:j<k
 ·have:¬k+1≤j:=by omega
  simp[h1,this]
 ·by_cases h2:j=k
  ·subst h2;have:¬j+1≤j:=by omega
   simp[this]
  ·have:k+1≤j:=by omega
   simp[h1,h2,this]
end Go.Ab
set_option maxRecDepth 10000
namespace Go.Ab
open Go.Proofs
theorem kqq{a b:Nat}(ha:a<18446744073709551616)(hb:b<18446744073709551616):iand .u64 (a:Int) (b:Int)=((a&&&b:Nat):Int):=by
 unfold iand;rw[show IntKind.bits .u64=64 from rfl,wrapU];have e1:BitVec.ofInt 64 (a:Int)=BitVec.ofNat 64 a:=rfl;have e2:BitVec.ofInt 64 (b:Int)=BitVec.ofNat 64 b:=rfl;rw[e1,e2,BitVec.toNat_and,BitVec.toNat_ofNat,BitVec.toNat_ofNat,Nat.mod_eq_of_lt (show a<2^64 from ha),Nat.mod_eq_of_lt (show b<2^64 from hb)];have:a&&&b≤a:=Nat.and_le_left;omega
theorem or_nat{a b:Nat}(ha:a<18446744073709551616)(hb:b<18446744073709551616):ior .u64 (a:Int) (b:Int)=((a|||b:Nat):Int):=by
 unfold ior;rw[show IntKind.bits .u64=64 from rfl,wrapU];have e1:BitVec.ofInt 64 (a:Int)=BitVec.ofNat 64 a:=rfl;have e2:BitVec.ofInt 64 (b:Int)=BitVec.ofNat 64 b:=rfl;rw[e1,e2,BitVec.toNat_or,BitVec.toNat_ofNat,BitVec.toNat_ofNat,Nat.mod_eq_of_lt (show a<2^64 from ha),Nat.mod_eq_of_lt (show b<2^64 from hb)];have:a|||b<2^64:=Nat.or_lt_two_pow ha hb;omega
theorem ks1(x n:Nat):ishr .u64 (x:Int) (n:Int)=((x/2^min n 64:Nat):Int):=by
 unfold ishr;rw[Int.toNat_natCast,show IntKind.bits .u64=64 from rfl];have:((2:Int)^min n 64)=((2^min n 64:Nat):Int):=by simp
 rw[this,Int.fdiv_eq_ediv_of_nonneg _ (Int.natCast_nonneg _)];exact(Int.natCast_ediv _ _).symm
theorem kbd8{n:Nat}(hn:n<64):ishl .u64 1 (n:Int)=((2^n:Nat):Int):=by
 unfold ishl;rw[Int.toNat_natCast,show IntKind.bits .u64=64 from rfl,Nat.min_eq_left (by omega),wrapU];have h1:(1:Int)*(2:Int)^n=((2^n:Nat):Int):=by simp
 have h2:2^n<2^64:=Nat.pow_lt_pow_right (by decide) hn;rw[h1];generalize 2^n=q at *
 omega
def tzTab:List Nat:=[0,1,56,2,57,49,28,3,61,58,42,50,38,29,17,4,62,47,59,36,45,43,51,22,53,39,33,30,24,18,12,5,63,55,48,27,60,41,37,16,46,35,44,21,52,32,23,11,54,26,40,15,34,20,31,10,25,14,19,9,13,8,7,6]
theorem tz_idx:∀k:_root_.Fin 64,tzTab.getD ((2^k.val*285870213051353865%18446744073709551616)/288230376151711744) 0=k.val:=by decide +kernel
def Tab(h:AH):Prop:=∀k:Nat,k<64→h.cell (.old ⟨Gl.math_bits_deBruijn64tab,k,none⟩)=some (.int .u8 ((tzTab.getD k 0:Nat):Int))
theorem Tab.md{h h':AH}{T:Fp}(t:Tab h)(m:Md T h h'):Tab h':=fun k hk=>by
 rw[← t k hk];simp only[AH.cell,m.old]
theorem Tab.grow{h h':AH}(t:Tab h)(g:Grow h h'):Tab h':=t.md (g.md Fp.no)
theorem tz_is{h:AH}(T:Tab h){k m:Nat}(hk:k<64)(hw:2^(k+1)*m+2^k<18446744073709551616):go (.fn kqi [.int .u64 ((2^(k+1)*m+2^k:Nat):Int)]) h=some (.int .i64 (k:Int),h):=by
 rw[k96];have hp:=Nat.two_pow_pos k;have en:=k2g (k:=k) (m:=m) (n:=64) hw;generalize hW:2^(k+1)*m+2^k=W at *
 have hW0:0<W:=by omega
 have e1:IntKind.wrap .u64 (0-(W:Int))=((18446744073709551616-W:Nat):Int):=by rw[wrapU];omega
 rw[condF (decide_eq_false (by omega)),e1,kqq hw (by omega),en]
 have e2:IntKind.wrap .u64 (((2^k:Nat):Int)*285870213051353865)=((2^k*285870213051353865%18446744073709551616:Nat):Int):=by
  rw[wrapU,show((2^k:Nat):Int)*285870213051353865=((2^k*285870213051353865:Nat):Int)from by simp];rfl
 have ht:=tz_idx ⟨k,hk⟩;dsimp only at ht;rw[e2,show(58:Int)=((58:Nat):Int)from rfl,ks1,show 2^min 58 64=288230376151711744 from rfl];generalize hJ:2^k*285870213051353865%18446744073709551616/288230376151711744=J at *
 have hJ64:J<64:=by
  rw[← hJ,Nat.div_lt_iff_lt_mul (by decide)];exact Nat.mod_lt _ (by decide)
 have ei:idx (some (Ref.old ⟨Gl.math_bits_deBruijn64tab,0,none⟩)) 64 (J:Int) 1=some (.old ⟨Gl.math_bits_deBruijn64tab,J,none⟩):=by
  rw[kd8 _ _ _ _ (by omega) (by omega),Int.toNat_natCast,Nat.mul_one];simp[Ref.add,Addr.add];exact fun h=>h.symm
 rw[ei,Option.bind_some,T J hJ64,ht];show some (AV.int .i64 (IntKind.wrap .i64 (k:Int)),h)=_;rw[wrap64 (by omega) (by omega)]
def wbit(w:List Nat)(i:Nat):Bool:=(w.getD (i/64) 0).testBit (i%64)
def btR(n:Int)(w:List Nat):Bool:=decide (0≤n)&&(decide (n≤65536)&&(decide (w.length=(n.toNat+63)/64)&&(List.range (64*w.length)).all fun i=>decide (i<n.toNat)||!wbit w i))
theorem kbaj{x k:Nat}:x<2^k↔∀i,k≤i→x.testBit i=false :=
 ⟨fun h i hi=>Nat.testBit_lt_two_pow (Nat.lt_of_lt_of_le h (Nat.pow_le_pow_right (by decide) hi)),fun h=>Nat.lt_pow_two_of_testBit x h⟩
section
variable{h0:AH}{s:Sl}{w:List Nat}{n:Int}
theorem Nats.rdN{h:AH}(N:Nats h s w){i:Nat}(hi:i<w.length):∃r:Ref,idx s.ref s.len (i:Int) 1=some r∧(h.cell r).bind (AV.asInt .u64)=some (w[i]:Int):=by
 obtain⟨r,e1,e2⟩:=N.at hi;exact⟨r,e1,rdc e2 (kc _ _)⟩
theorem klq(N:Nats h0 s w):Runs (go (.fn kho [.agg [.int .i64 n,s.v]]) h0) fun v h'=>v=.bool (btR n w)∧Grow h0 h':=by
 rw[k8z];refine Runs.new fun h1 b1 g1=>Runs.step (b1.rd 0 rfl (kc _ _)) (Runs.cond (fun c=>?_) fun c=>?_)
 ·rw[decide_eq_true_eq]at c;refine Runs.ret ⟨?_,g1⟩;unfold btR;rw[decide_eq_false (by omega)];rfl
 rw[decide_eq_false_iff_not]at c;refine Runs.step (b1.rd 0 rfl (kc _ _)) (Runs.cond (fun c2=>?_) fun c2=>?_)
 ·rw[decide_eq_true_eq]at c2;refine Runs.ret ⟨?_,g1⟩;unfold btR;rw[decide_eq_false (show¬n≤65536 by omega)];simp
 rw[decide_eq_false_iff_not]at c2;obtain⟨z,rfl⟩:∃z:Nat,n=(z:Int):=⟨n.toNat,by omega⟩;have N1:=N.grow g1;refine Runs.step (b1.rd 1 rfl (asSl_v _)) (Runs.step (b1.rd 0 rfl (kc _ _)) ?_);rw[N.len,wrap64 (n:=(z:Int)+64) (by omega) (by omega),wrap64 (n:=(z:Int)+64-1) (by omega) (by omega),show(z:Int)+64-1=((z+63:Nat):Int)from by omega,show Int.tdiv ((z+63:Nat):Int) 64=(((z+63)/64:Nat):Int)from rfl,wrap64 (by omega) (by omega)]
 have hb:btR (z:Int) w=(decide (w.length=(z+63)/64)&&(List.range (64*w.length)).all fun i=>decide (i<z)||!wbit w i):=by
  unfold btR;rw[decide_eq_true (show(0:Int)≤(z:Int) by omega),decide_eq_true (show(z:Int)≤65536 by omega),Int.toNat_natCast];rfl
 rw[hb];refine Runs.cond (fun c3=>?_) fun c3=>?_
 ·refine Runs.ret ⟨?_,g1⟩;rw[Bool.not_eq_true',decide_eq_false_iff_not]at c3;rw[decide_eq_false (by omega)];rfl
 rw[Bool.not_eq_false',decide_eq_true_eq]at c3;have hl:w.length=(z+63)/64:=by omega
 rw[decide_eq_true hl,Bool.true_and];refine Runs.step (b1.rd 0 rfl (kc _ _)) ?_;rw[show Int.tmod (z:Int) 64=((z%64:Nat):Int)from rfl];refine Runs.cond (fun c4=>?_) fun c4=>?_
 ·rw[decide_eq_true_eq]at c4;refine Runs.ret ⟨congrArg AV.bool ?_,g1⟩;symm;rw[List.all_eq_true];intro i hi;rw[List.mem_range]at hi;rw[decide_eq_true (by omega)];rfl
 rw[decide_eq_false_iff_not]at c4;have hi:z/64<w.length:=by omega
 obtain⟨r,e1,e2⟩:=N1.rdN hi;refine Runs.step (b1.rd 1 rfl (asSl_v _)) (Runs.step (b1.rd 1 rfl (asSl_v _)) ?_);rw[N.len,show((w.length:Nat):Int)-1=((z/64:Nat):Int)from by omega,wrap64 (by omega) (by omega)];rw[N.len]at e1;refine Runs.step e1 (Runs.step e2 (Runs.step (b1.rd 0 rfl (kc _ _)) ?_));rw[show Int.tmod (z:Int) 64=((z%64:Nat):Int)from rfl,ks1];refine Runs.ifF (decide_eq_false (by omega)) (Runs.ret ⟨congrArg AV.bool ?_,g1⟩);rw[Bool.eq_iff_iff,decide_eq_true_eq,List.all_eq_true,Nat.min_eq_left (by omega)]
 have hx:((w[z/64]/2^(z%64):Nat):Int)=0↔w[z/64]<2^(z%64):=by
  have:=Nat.div_eq_zero_iff (a:=w[z/64]) (b:=2^(z%64));have:=Nat.two_pow_pos (z%64);omega
 rw[hx,kbaj];have hg:w.getD (z/64) 0=w[z/64]:=by simp[List.getD,hi]
 constructor
 ·intro H i hi';rw[List.mem_range]at hi';rcases Nat.lt_or_ge i z with h | h
  ·rw[decide_eq_true h];rfl
  ·have:i/64=z/64:=by omega
   unfold wbit;rw[this,hg,H (i%64) (by omega)];simp
 ·intro H j hj;rcases Nat.lt_or_ge j 64 with h | h
  ·have:=H (64*(z/64)+j) (by rw[List.mem_range];omega);unfold wbit at this;rw[decide_eq_false (by omega),show(64*(z/64)+j)/64=z/64 from by omega,show(64*(z/64)+j)%64=j from by omega,hg]at this
   simpa using this
  ·exact Nat.testBit_lt_two_pow (Nat.lt_of_lt_of_le (N.lt _ (List.getElem_mem hi)) (show 2^64≤2^j from Nat.pow_le_pow_right (by decide) h))
end
def zs(l:List Nat):List Int:=l.map fun x:Nat=>(x:Int)
theorem zs_len(l:List Nat):(zs l).length=l.length:=List.length_map _
theorem zs_app(l m:List Nat):zs (l++m)=zs l++zs m:=List.map_append
theorem krb{n:Nat}(h:n≤1000000):growOk Pg n T.int 1=true:=by
 unfold growOk;rw[kpd,kks];have h1:n*8≤kg:=by simp only[kg];omega
 have h2:n≤kg:=by simp only[kg];omega
 simp[h1,h2]
def btL(n:Int)(w:List Nat):List Nat:=if btR n w then(List.range n.toNat).filter (wbit w)else []
theorem btR_n{n:Int}{w:List Nat}(h:btR n w=true):0≤n∧n≤65536∧w.length=(n.toNat+63)/64∧∀i,i<64*w.length→n.toNat≤i→wbit w i=false:=by
 unfold btR at h;simp only[Bool.and_eq_true,decide_eq_true_eq,List.all_eq_true,List.mem_range,Bool.or_eq_true,Bool.not_eq_true']at h;exact⟨h.1,h.2.1,h.2.2.1,fun i hi hn=>(h.2.2.2 i hi).resolve_left (by omega)⟩
theorem btR_of{n:Int}{w:List Nat}(h1:0≤n)(h2:n≤65536)(h3:w.length=(n.toNat+63)/64)(h4:∀i,i<64*w.length→n.toNat≤i→wbit w i=false):btR n w=true:=by
 unfold btR;simp only[Bool.and_eq_true,decide_eq_true_eq,List.all_eq_true,List.mem_range,Bool.or_eq_true,Bool.not_eq_true'];exact⟨h1,h2,h3,fun i hi=>(Nat.lt_or_ge i n.toNat).imp_right (h4 i hi)⟩
section
variable{h0:AH}{s:Sl}{w:List Nat}{n:Int}
end
theorem k6k{w:List Nat}{i j:Nat}(hi:i/64<w.length):wbit (w.set (i/64) (w[i/64]|||2^(i%64))) j=(decide (j=i)||wbit w j):=by
 unfold wbit;by_cases h:j/64=i/64
 ·rw[h];have:(w.set (i/64) (w[i/64]|||2^(i%64))).getD (i/64) 0=w[i/64]|||2^(i%64):=by simp[List.getD,hi]
  rw[this,Nat.testBit_or,Nat.testBit_two_pow];have h2:w.getD (i/64) 0=w[i/64]:=by simp[List.getD,hi]
  rw[h2,Bool.or_comm];congr 1;rw[decide_eq_decide];omega
 ·have h1:(w.set (i/64) (w[i/64]|||2^(i%64))).getD (j/64) 0=w.getD (j/64) 0:=by
   simp only[List.getD];rw[List.getElem?_set_ne (by omega)]
  rw[h1];have:¬j=i:=fun e=>h (by rw[e]);simp[this]
theorem k6i(n i:Nat):wbit (List.replicate n 0) i=false:=by
 unfold wbit
 have:(List.replicate n 0).getD (i/64) 0=0:=by
  simp only[List.getD,List.getElem?_replicate];split<;>rfl
 rw[this];exact Nat.zero_testBit _
section
variable{h0:AH}
theorem kpf{n:Nat}(hn:n≤65536):Runs (go (.fn kmw [.int .i64 (n:Int)]) h0) fun v h'=>Grow h0 h'∧∃(s:Sl)(i:Nat),v=.tup [.agg [.int .i64 (n:Int),s.v],.int .i64 0]∧h0.blks.size≤i∧Vec h' s i (List.replicate ((n+63)/64) 0):=by
 rw[kbcu];refine Runs.new fun h1 b1 g1=>Runs.ifF (decide_eq_false (by omega)) (Runs.ifF (decide_eq_false (by omega)) ?_);rw[wrap64 (n:=(n:Int)+64) (by omega) (by omega),wrap64 (n:=(n:Int)+64-1) (by omega) (by omega),show(n:Int)+64-1=((n+63:Nat):Int)from by omega,show Int.tdiv ((n+63:Nat):Int) 64=(((n+63)/64:Nat):Int)from rfl,wrap64 (by omega) (by omega)];refine Runs.mk (kfh (by omega)) kdw fun s h2 V g2=>?_;refine Runs.puts (g2.has b1) rfl fun h3 b3 u3=>?_;refine Runs.step (b3.rd 0 rfl (kc _ _)) (Runs.step (b3.rd 1 rfl (asSl_v _)) (Runs.ret ⟨(g1.trans g2).updr (Nat.le_refl _) u3,s,h1.blks.size,rfl,g1.size,V.updr (by have:=b1.lt;omega) u3⟩))
end
theorem k9q{w:List Nat}{i:Nat}(hi:i<w.length):(List.range (64*(i+1))).filter (wbit w)=(List.range (64*i)).filter (wbit w)++(ones w[i]).map (fun k=>64*i+k):=by
 rw[Nat.mul_add,Nat.mul_one,List.range_add,List.filter_append,List.filter_map];congr 1;unfold ones;congr 1;apply List.filter_congr;intro k hk;rw[List.mem_range]at hk;simp only[Function.comp,wbit];rw[show(64*i+k)/64=i from by omega,show(64*i+k)%64=k from by omega];simp[List.getD,hi]
section
variable{w:List Nat}{s:Sl}{l:Nat}
theorem k51{Inv:List Nat→AH→Prop}(hT:∀d h,Inv d h→Tab h)(hround:∀d i h,Inv d h→i<64*w.length→d.length<64*w.length→Runs (go (.round l [.int .i64 (i:Int)]) h) fun v h'=>v=.bool true∧Inv (d++[i]) h')(hl:w.length≤2000){i:Nat}(hi:i<w.length){P:AV→AH→Prop} :
  ∀(n x:Nat),x<18446744073709551616→(ones x).length=n→∀(d:List Nat)(h:AH),d.length+n≤64*w.length→Inv d h→(∀h',Inv (d++(ones x).map (fun k=>64*i+k)) h'→Runs (go (.pt kb5 kjm [(0,.func (.yield l) [] []),(6,s.v),(7,.int .i64 (w.length:Int)),(8,.int .i64 ((i+1:Nat):Int))]) h') P)→
  Runs (go (.pt kb5 kmo [(0,.func (.yield l) [] []),(3,.int .i64 (i:Int)),(4,.int .u64 (x:Int)),(6,s.v),(7,.int .i64 (w.length:Int)),(8,.int .i64 (i:Int))]) h) P:=by
 intro n
 induction n with
 | zero =>
  intro x hx hn d h hd I H
  have hx0:x=0:=by
   rcases Nat.eq_zero_or_pos x with h0 | h0
   ·exact h0
   ·obtain⟨k,m,hk,rfl⟩:=kvv 64 x (by omega) hx;rw[kt0 hk]at hn;simp at hn
  subst hx0;rw[kxr];refine Runs.ifF (by rfl) ?_;rw[kf (by omega)];rw[kvp]at H;exact H h (by simpa using I)
 | succ n ih =>
  intro x hx hn d h hd I H;have hx0:x≠0:=fun e=>by subst e;rw[kvp]at hn;simp at hn
  obtain⟨k,m,hk,hxe⟩:=kvv 64 x hx0 hx;subst hxe;rw[kt0 hk]at hn H;rw[kxr];refine Runs.ifT (by rw[decide_eq_false (by omega)];rfl) ?_;refine Runs.step (tz_is (hT _ _ I) hk hx) (Runs.step (seen rfl) ?_);rw[wrap64 (n:=64*(i:Int)) (by omega) (by omega),wrap64 (by omega) (by omega),show 64*(i:Int)+(k:Int)=((64*i+k:Nat):Int)from by omega];refine(hround d (64*i+k) h I (by omega) (by omega)).call fun v h1 ⟨e,I1⟩=>?_;subst e;refine Runs.step (seen rfl) (Runs.ifF rfl ?_)
  have e1:IntKind.wrap .u64 (((2^(k+1)*m+2^k:Nat):Int)-1)=((2^(k+1)*m+2^k-1:Nat):Int):=by
   have:=Nat.two_pow_pos k;generalize 2^(k+1)*m+2^k=W at *
   rw[wrapU];omega
  have hle:2^(k+1)*m<18446744073709551616:=by
   have:=Nat.two_pow_pos k;exact Nat.lt_of_le_of_lt (Nat.le_add_right _ _) hx
  dsimp only;rw[e1,kqq hx (by omega),k2v];refine ih _ hle (by simpa using hn) (d++[64*i+k]) h1 (by rw[List.length_append,List.length_singleton];omega) I1 fun h' I'=>H h' ?_
  simpa using I'
theorem kbcc{Inv:List Nat→AH→Prop}(hT:∀d h,Inv d h→Tab h)(hN:∀d h,Inv d h→Nats h s w)(hround:∀d i h,Inv d h→i<64*w.length→d.length<64*w.length→Runs (go (.round l [.int .i64 (i:Int)]) h) fun v h'=>v=.bool true∧Inv (d++[i]) h')(hl:w.length≤2000) :
  ∀(k i:Nat),i+k=w.length→∀h,Inv ((List.range (64*i)).filter (wbit w)) h→
  Runs (go (.pt kb5 kjm [(0,.func (.yield l) [] []),(6,s.v),(7,.int .i64 (w.length:Int)),(8,.int .i64 (i:Int))]) h) fun v h'=>v=.tup []∧Inv ((List.range (64*w.length)).filter (wbit w)) h':=by
 intro k
 induction k with
 | zero =>
  intro i hi h I;obtain rfl:i=w.length:=by omega
  rw[krx];exact Runs.ifF (decide_eq_false (by omega)) (Runs.ret ⟨rfl,I⟩)
 | succ k ih =>
  intro i hi h I;have hlt:i<w.length:=by omega
  obtain⟨r,e1,e2⟩:=(hN _ _ I).rdN hlt;rw[krx];refine Runs.ifT (decide_eq_true (by omega)) (Runs.step e1 (Runs.step e2 ?_));refine k51 hT hround hl hlt _ _ ((hN _ _ I).lt _ (List.getElem_mem hlt)) rfl _ h ?_ I fun h' I'=>?_
  ·have h1:=List.length_filter_le (wbit w) (List.range (64*i));have h2:=List.length_filter_le w[i].testBit (List.range 64);rw[List.length_range]at h1 h2;show _+((List.range 64).filter _).length≤_;omega
  rw[← k9q hlt]at I';exact ih (i+1) (by omega) h' I'
end
noncomputable def aNote(st:LoopState)(b:Nat)(g:AV):ABlk:=kec kqw kef 0 st none [(0,(⟨none,0,.is 0⟩:Sl).v),(1,g),(2,.ptr (some (.new b 0))),(4,(⟨none,0,.is 0⟩:Sl).v),(6,g)]
structure Coll(h0:AH)(b l:Nat)(g:AV)(d:List Nat)(h:AH):Prop where
 grow:Grow h0 h
 note:h.blks[l]?=some (aNote .ready b g)
 out:∃(t:Sl)(j:Option Nat),h.has b [t.v] kbr∧LeO (l+1) j∧GF EI T.int h Fp.no t j (zs d)
theorem kdn{m n:Nat}(h:m<n):∀{j:Option Nat},LeO n j→∀k,j=some k→k≠m
 | some x,l,k,e=>by cases e;have:n≤x:=l;omega
theorem k07{h0 h:AH}{b l:Nat}{g:AV}{d:List Nat}(hb:h0.blks.size≤b)(hbl:b<l)(I:Coll h0 b l g d h)(hd:d.length<900000)(i:Nat):Runs (go (.round l [.int .i64 (i:Int)]) h) fun v h'=>v=.bool true∧Coll h0 b l g (d++[i]) h':=by
 obtain⟨G,hn,t,j,B,lj,V⟩:=I;have hl:l<h.blks.size:=(Array.getElem?_eq_some_iff.1 hn).1;rw[kzx l none _ _ _ _ _ _ _ hn,kp6 (h:=h) hn,Option.bind_some];generalize hq:h.setBlk l _=h1;have u1:Upd h h1 l:=by rw[← hq];exact AH.setBlk_Upd _
 have n1:h1.blks[l]?=some (aNote .busy b g):=by rw[← hq];exact AH.setBlk_get hl
 have B1:h1.has b [t.v] kbr:=B.updr (by omega) u1;have V1:GF EI T.int h1 Fp.no t j (zs d):=V.upd u1 Fp.not_no (kdn (Nat.lt_succ_self l) lj);refine Runs.step (B1.rd0 rfl (asSl_v _)) ?_;refine Runs.new fun h2 b2 g2=>?_;refine Runs.step (kcd b2 (by rw[kf5];rfl)) ?_;obtain⟨t',h3,e3,V3,u3⟩:=(V1.grow g2).push (T:=Fp.no) (cs:=[.int .i64 (i:Int)]) (x:=(i:Int)) rfl NotO.no (krb (by rw[zs_len];omega));refine Runs.step e3 (Runs.step (asSl_v _) ?_);have m3:Md (Fp.opt j) h2 h3:=u3.md fun k e=>e;have no:∀{m:Nat},m≤l→¬Fp.opt j m:=fun hm e=>kdn (Nat.lt_succ_of_le hm) lj _ e rfl;have B3:h3.has b [t.v] kbr:=m3.has (g2.has B1) (no (by omega));have n3:h3.blks[l]?=some (aNote .busy b g):=m3.get ((g2.blk l (Array.getElem?_eq_some_iff.1 n1).1).trans n1) (no (Nat.le_refl _));refine Runs.puts B3 rfl fun h4 B4 u4=>?_;have n4:h4.blks[l]?=some (aNote .busy b g):=(u4.blk l (by omega) (Array.getElem?_eq_some_iff.1 n3).1).trans n3;rw[kpm n4];have u5:Upd h4 (h4.setBlk l (aNote .ready b g)) l:=AH.setBlk_Upd _;have hs:h.blks.size≤h2.blks.size:=Nat.le_trans u1.size g2.size;refine Runs.ret ⟨rfl,?_,AH.setBlk_get (Array.getElem?_eq_some_iff.1 n4).1,t',some h2.blks.size,B4.updr (by omega) u5,show l+1≤h2.blks.size by omega,?_⟩
 ·have G2:Grow h0 h2:=(G.updr (by omega) u1).trans g2;have G3:Grow h0 h3:=G2.updo (LeO.trans (by omega) lj) u3;exact(G3.updr hb u4).updr (by omega) u5
 ·rw[zs_app];have V4:GF EI T.int h3 Fp.no t' (some h2.blks.size) (zs d++[(i:Int)]):=V3.mono (fun j x=>x.1.elim id id) NotO.no;have:=(V4.upd u4 Fp.not_no fun k e=>by cases e;omega).upd u5 Fp.not_no fun k e=>by cases e;omega
  exact this
section
variable{h0:AH}{s:Sl}{w:List Nat}{n:Int}
theorem k4j(T0:Tab h0)(N:Nats h0 s w):Runs (go (.fn klp [.agg [.int .i64 n,s.v]]) h0) fun v h'=>Grow h0 h'∧∃(t':Sl)(j':Option Nat),v=t'.v∧LeO h0.blks.size j'∧GF EI T.int h' Fp.no t' j' (zs (btL n w)):=by
 rw[kbej];refine Runs.new fun h1 b1 g1=>Runs.step (b1.rd 0 rfl (kc _ _)) (Runs.step (b1.rd 1 rfl (asSl_v _)) ?_);refine(klq (N.grow g1)).call fun v h2 ⟨e,g2⟩=>?_;subst e;refine Runs.step (seen rfl) ?_;cases hR:btR n w with
 | false =>
  refine Runs.ifT rfl (Runs.ret ⟨g1.trans g2,_,none,rfl,trivial,?_⟩);unfold btL;rw[hR];exact GF.none _ _ _ _
 | true =>
  obtain⟨hn0,hn1,hlen,hov⟩:=btR_n hR;refine Runs.ifF rfl (Runs.step ((g2.has b1).rd 0 rfl (kc _ _)) (Runs.step ((g2.has b1).rd 1 rfl (asSl_v _)) ?_))
  have k0:Runs (go (.fn kn8 [.agg [.int .i64 n,s.v]]) h2) fun v h'=>v=.func (.func kb5) [] [.ptr (some (.new h2.blks.size 0))]∧h'.has h2.blks.size [.int .i64 n,s.v] ky∧Grow h2 h':=by
   rw[k55];exact Runs.new fun h3 b3 g3=>Runs.ret ⟨rfl,b3,g3⟩
  refine k0.call fun v h3 ⟨e,b3,g3⟩=>?_;subst e;have G3:Grow h0 h3:=(g1.trans g2).trans g3
  have key:Runs (go (.fn kef [(⟨none,0,.is 0⟩:Sl).v,.func (.func kb5) [] [.ptr (some (.new h2.blks.size 0))]]) h3) fun v h'=>Grow h3 h'∧∃(t':Sl)(j':Option Nat),v=t'.v∧LeO h3.blks.size j'∧GF EI T.int h' Fp.no t' j' (zs (btL n w)):=by
   rw[k3n];refine Runs.new fun h4 b4 g4=>?_;rw[kbet,kpn];refine Runs.newM fun h5 hb g5=>?_;rw[k0k];generalize hgv:(AV.func (.func kb5) [] [AV.ptr (some (Ref.new h2.blks.size 0))])=gv at hb;have s4:h3.blks.size<h4.blks.size:=b4.lt;have b3':h5.has h2.blks.size [.int .i64 n,s.v] ky:=g5.has (g4.has b3);have I0:Coll h3 h3.blks.size h4.blks.size gv [] h5:=⟨g4.trans g5,hb,_,none,g5.has b4,trivial,GF.none _ _ _ _⟩;have N3:Nats h3 s w:=N.grow G3;have T3:Tab h3:=T0.grow G3
   have k1:Runs (go (.fn kb5 [.func (.yield h4.blks.size) [] [],.ptr (some (.new h2.blks.size 0))]) h5) fun v h'=>v=.tup []∧Coll h3 h3.blks.size h4.blks.size gv ((List.range (64*w.length)).filter (wbit w)) h':=by
    rw[k0h];refine Runs.step (b3'.rd 1 rfl (asSl_v _)) ?_;rw[N.len];exact kbcc (Inv:=Coll h3 h3.blks.size h4.blks.size gv) (fun d h I=>T3.grow I.grow) (fun d h I=>N3.grow I.grow) (fun d i h I hi hd=>k07 (Nat.le_refl _) s4 I (by omega) i) (by omega) w.length 0 (by omega) h5 (by simpa using I0)
   refine k1.call fun v h6 ⟨e,I⟩=>?_;obtain⟨G,hn,t,j,B,lj,V⟩:=I;rw[kpk hn,Option.bind_some];rw[k1i];have hl:=(Array.getElem?_eq_some_iff.1 hn).1;have u6:Upd h6 (h6.setBlk h4.blks.size .dead) h4.blks.size:=AH.setBlk_Upd _;refine Runs.step ((B.updr (by omega) u6).rd0 rfl (asSl_v _)) (Runs.ret ⟨G.updr (by omega) u6,t,j,rfl,LeO.trans (by omega) lj,?_⟩)
   have e:btL n w=(List.range (64*w.length)).filter (wbit w):=by
    unfold btL;rw[hR,if_pos rfl];obtain⟨z,rfl⟩:∃z:Nat,n=(z:Int):=⟨n.toNat,by omega⟩;rw[Int.toNat_natCast]at hlen hov⊢;obtain⟨q,hq⟩:∃q,64*w.length=z+q:=⟨64*w.length-z,by omega⟩;rw[hq,List.range_add,List.filter_append]
    have:((List.range q).map (z + ·)).filter (wbit w)=[]:=List.filter_eq_nil_iff.2 fun x hx=>by
     rw[List.mem_map]at hx;obtain⟨y,hy,rfl⟩:=hx;rw[List.mem_range]at hy;rw[hov (z+y) (by omega) (by omega)];simp
    rw[this,List.append_nil]
   rw[e];exact V.upd u6 Fp.not_no (kdn (Nat.lt_succ_self _) lj)
  have k2:Runs (go (.fn kph [.func (.func kb5) [] [.ptr (some (.new h2.blks.size 0))]]) h3) fun v h'=>Grow h3 h'∧∃(t':Sl)(j':Option Nat),v=t'.v∧LeO h3.blks.size j'∧GF EI T.int h' Fp.no t' j' (zs (btL n w)):=by
   rw[kbcs];refine key.call fun v h' ⟨g,t',j',e,lj,V⟩=>?_;subst e;exact Runs.step (seen (asSl_v _)) (Runs.ret ⟨g,t',j',rfl,lj,V⟩)
  refine k2.call fun v h' ⟨g,t',j',e,lj,V⟩=>?_;subst e;exact Runs.step (seen (asSl_v _)) (Runs.ret ⟨G3.trans g,t',j',rfl,LeO.trans G3.size lj,V⟩)
end
theorem kyo{w:List Nat}{i x:Nat}(hi:i<w.length)(j:Nat):wbit (w.set i x) j=if j/64=i then x.testBit (j%64)else wbit w j:=by
 unfold wbit;split
 ·rename_i h;rw[h];have:(w.set i x).getD i 0=x:=by simp[List.getD,hi]
  rw[this]
 ·rename_i h
  have:(w.set i x).getD (j/64) 0=w.getD (j/64) 0:=by
   simp only[List.getD];rw[List.getElem?_set_ne (by omega)]
  rw[this]
theorem kvb{w:List Nat}{j:Nat}(h:w.length≤j/64):wbit w j=false:=by
 unfold wbit;have:w.getD (j/64) 0=0:=by simp[List.getD,h]
 rw[this];exact Nat.zero_testBit _
section
variable{h0:AH}{S:Fp}{s:Sl}
theorem kxa{xs:List Int}(n:Sq EI h0 S s xs){b:Nat}{z:Int}{e:TypeId}(hb:h0.has b [.int .i64 z] e):Runs (go (.fn kca [s.v,.func (.func kcx) [] [.ptr (some (.new b 0))]]) h0) fun v h'=>v=.bool (xs.any fun x=>decide (x<0)||decide (x≥z))∧Grow h0 h':=by
 rw[k3r];refine Runs.contains (xs:=xs) ?_;rw[k8a,n.len];refine kdz (n:=xs.length) (G:=fun y h=>go (.pt kba kbo [(0,s.v),(1,.func (.func kcx) [] [.ptr (some (.new b 0))]),(7,.int .i64 (xs.length:Int)),(8,.int .i64 y)]) h) (fun i h P hi g hT hF=>?_) (fun h g=>?_) xs.length 0 (by omega) (Grow.refl h0) (fun j hj=>by omega)
 ·obtain⟨r,e1,e2⟩:=(n.grow g).int hi;rw[List.getElem?_eq_getElem hi]at hT hF;simp only[Option.any_some]at hT hF;show Runs (go _ _) _;rw[kv5];refine Runs.ifT (decide_eq_true (by omega)) (Runs.step e1 (Runs.step e2 ?_))
  have key:Runs (go (.fn kcx [.int .i64 xs[i],.ptr (some (.new b 0))]) h) fun v h'=>v=.bool (decide (xs[i]<0)||decide (xs[i]≥z))∧h'=h:=by
   rw[k0q];cases decide (xs[i]<0)
   ·refine Runs.ifF rfl (Runs.step rfl (Runs.step ((g.has hb).rd0 rfl (kc _ _)) ?_));exact Runs.ret ⟨rfl,rfl⟩
   ·exact Runs.ret ⟨rfl,rfl⟩
  refine key.call fun v h' ⟨ev,eh⟩=>?_;subst ev;subst eh;refine Runs.step (seen rfl) ?_;rw[kf (by have:=n.short;omega)];exact Runs.cond (fun c=>Runs.ret (hT _ g c)) fun c=>hF _ g c
 ·rw[kv5,condF (decide_eq_false (by omega))]
theorem kzp{l:List Nat}{n:Nat}(q:Sq EI h0 S s (zs l))(hl:∀x∈l,x<n)(hn:n≤65536){b c i:Nat}{t:Sl}(hb:h0.blks.size≤b)(hci:c≠i)(hbc:b≠c)(hbi:b≠i)(hi:h0.blks.size≤i):∀(k j:Nat),j+k=l.length→∀(h:AH)(w:List Nat),Grow h0 h→(∃cs:List AV,cs.length=2∧h.has b cs ky)→h.has c [.int .i64 (n:Int),t.v] ky→Vec h t i w→w.length=(n+63)/64→(∀m,wbit w m=decide (m∈l.take j))→
  Runs (go (.pt kep klx [(4,.ptr (some (.new b 0))),(6,.ptr (some (.new c 0))),(23,s.v),(24,.int .i64 (l.length:Int)),(25,.int .i64 (j:Int))]) h) fun v h'=>Grow h0 h'∧∃(t:Sl)(w:List Nat),v=.tup [.agg [.int .i64 (n:Int),t.v],.int .i64 0]∧Nats h' t w∧w.length=(n+63)/64∧Own h0 t∧∀m,wbit w m=decide (m∈l):=by
 intro k
 induction k with
 | zero =>
  intro j hj h w g ⟨cs,hcs,B⟩ C V hw hm;obtain rfl:j=l.length:=by omega
  rw[ksw];refine Runs.ifF (decide_eq_false (by omega)) (Runs.step (C.rd 0 rfl (kc _ _)) (Runs.step (C.rd 1 rfl (asSl_v _)) ?_));refine Runs.puts B (by rw[hcs];rfl) fun h1 B1 u1=>?_;refine Runs.step (B1.rd 0 rfl (kc _ _)) (Runs.step (B1.rd 1 rfl (asSl_v _)) (Runs.ret ⟨g.updr hb u1,t,w,rfl,(V.updr (fun e=>hbi e.symm) u1).nats,hw,V.own hi,fun m=>?_⟩));rw[hm,List.take_length]
 | succ k ih =>
  intro j hj h w g hB C V hw hm;have hj':j<(zs l).length:=by rw[zs_len];omega
  obtain⟨r,e1,e2⟩:=(q.grow g).int hj';have hx:(zs l)[j]=((l[j]'(by omega):Nat):Int):=by simp[zs]
  have hjl:j<l.length:=by omega
  have hxn:l[j]<n:=hl _ (List.getElem_mem hjl);have hq:l[j]/64<w.length:=by omega
  rw[ksw];refine Runs.ifT (decide_eq_true (by omega)) (Runs.step e1 (Runs.step e2 ?_));rw[hx];refine Runs.step (C.rd 1 rfl (asSl_v _)) ?_;rw[show Int.tdiv ((l[j]:Nat):Int) 64=((l[j]/64:Nat):Int)from rfl,wrap64 (by omega) (by omega),show Int.tmod ((l[j]:Nat):Int) 64=((l[j]%64:Nat):Int)from rfl,V.len];refine Runs.step (V.idx rfl (kbd hq)) (Runs.step (V.rd rfl (kbd hq) (kc _ _)) (Runs.ifF (decide_eq_false (by omega)) (Runs.step (V.idx rfl (kbd hq)) ?_)));have hwl:w[l[j]/64]<18446744073709551616:=V.lt _ (List.getElem_mem hq);have hpl:2^(l[j]%64)<2^64:=Nat.pow_lt_pow_right (by decide) (by omega);have hgd:w.getD (l[j]/64) 0=w[l[j]/64]:=by simp[List.getD,hq]
  rw[hgd,kbd8 (by omega),or_nat hwl hpl];refine Runs.vput V rfl (kbd hq) (kb4 (Nat.or_lt_two_pow (n:=64) hwl hpl)) fun h1 V1 u1=>?_;rw[kf (by have:=q.short;rw[zs_len]at this;omega)];obtain⟨cs,hcs,B⟩:=hB;refine ih (j+1) (by omega) h1 _ (g.updr hi u1) ⟨cs,hcs,B.updr hbi u1⟩ (C.updr hci u1) V1 (by rw[List.length_set];exact hw) fun m=>?_;rw[k6k hq,hm,List.take_succ_eq_append_getElem hjl,Bool.eq_iff_iff];simp only[Bool.or_eq_true,decide_eq_true_eq,List.mem_append,List.mem_singleton];exact Or.comm
theorem kta{l:List Nat}{n:Nat}(q:Sq EI h0 S s (zs l))(hl:∀x∈l,x<n)(hn:n≤65536):Runs (go (.fn kep [.int .i64 (n:Int),s.v]) h0) fun v h'=>Grow h0 h'∧∃(t:Sl)(w:List Nat),v=.tup [.agg [.int .i64 (n:Int),t.v],.int .i64 0]∧Nats h' t w∧w.length=(n+63)/64∧Own h0 t∧∀m,wbit w m=decide (m∈l):=by
 rw[kua];refine Runs.new fun h1 b1 g1=>Runs.new fun h2 b2 g2=>Runs.step ((g2.has b1).rd0 rfl (kc _ _)) ?_;refine(kpf hn).call fun v h3 ⟨g3,t,i,e,hi,V⟩=>?_;subst e;refine Runs.step rfl (Runs.step rfl (Runs.ifT rfl (Runs.step rfl (Runs.step (seenAt rfl (asSl_v _)) (Runs.step rfl ?_)))));dsimp only;refine Runs.new fun h4 b4 g4=>Runs.puts b4 rfl fun h5 b5 u5=>Runs.ifF rfl ?_;have s1:h0.blks.size<h1.blks.size:=b1.lt;have s2:h1.blks.size<h2.blks.size:=b2.lt;have s3:i<h3.blks.size:=V.inn;have s4:h2.blks.size≤h3.blks.size:=g3.size;have G4:Grow h0 h4:=(((g1.trans g2).trans g3).trans g4);have G5:Grow h0 h5:=G4.updr (by have:=G4.size;omega) u5;have G25:Grow h2 h5:=(g3.trans g4).updr (by omega) u5;refine(kxa (q.grow G5) (G25.has (g2.has b1))).call fun v h6 ⟨e,g6⟩=>?_;subst e
 have hany:((zs l).any fun x=>decide (x<0)||decide (x≥(n:Int)))=false:=by
  rw[List.any_eq_false];intro x hx;unfold zs at hx;rw[List.mem_map]at hx;obtain⟨y,hy,rfl⟩:=hx;have:=hl y hy;simp;omega
 rw[hany];refine Runs.step (seen rfl) (Runs.ifF rfl ?_);rw[q.len,zs_len];have V6:Vec h6 t i (List.replicate ((n+63)/64) 0):=((V.grow g4).updr (by omega) u5).grow g6;exact kzp q hl hn (b:=h1.blks.size) (c:=h3.blks.size) (i:=i) (by omega) (by omega) (by omega) (by omega) (by omega) l.length 0 (by omega) h6 _ (G5.trans g6) ⟨_,rfl,g6.has (G25.has b2)⟩ (g6.has b5) V6 (by simp) (fun m=>by rw[k6i];simp)
end
def andL(n1:Int)(w1:List Nat)(n2:Int)(w2:List Nat):List Nat:=if btR n1 w1&&(btR n2 w2&&decide (n1=n2))then(btL n1 w1).filter (wbit w2)else []
def SetP(h0:AH)(l:List Nat)(v:AV)(h':AH):Prop:=Grow h0 h'∧∃(n:Int)(t:Sl)(w:List Nat)(e:Int),v=.tup [.agg [.int .i64 n,t.v],.int .i64 e]∧Nats h' t w∧Own h0 t∧btL n w=l
theorem k4g:btL 0 []=[]:=by
 unfold btL;split<;>rfl
section
variable{h0:AH}{s1 s2:Sl}{w1 w2:List Nat}{n1 n2:Int}
theorem k8x(N1:Nats h0 s1 w1)(N2:Nats h0 s2 w2)(hl:w1.length=w2.length)(hs:w1.length≤2000){b1 b2 b3 b4 i:Nat}{t:Sl}{x1 x2:Int}(i1:b1≠i)(i2:b2≠i)(i3:b3≠i)(i4:b4≠i)(h3:h0.blks.size≤b3)(hi:h0.blks.size≤i):∀(k j:Nat),j+k=w1.length→∀(h:AH)(w:List Nat),Grow h0 h→h.has b1 [.int .i64 x1,s1.v] ky→h.has b2 [.int .i64 x2,s2.v] ky→(∃cs:List AV,cs.length=2∧h.has b3 cs ky)→h.has b4 [.int .i64 n1,t.v] ky→Vec h t i w→w.length=w1.length→(∀m,m/64<j→wbit w m=(wbit w1 m&&wbit w2 m))→
  Runs (go (.pt kgz klz [(2,.func (.func kev) [] []),(3,.ptr (some (.new b1 0))),(4,.ptr (some (.new b2 0))),(6,.ptr (some (.new b3 0))),(8,.ptr (some (.new b4 0))),(9,.int .i64 0),(35,.int .i64 (w1.length:Int)),(36,.int .i64 (j:Int))]) h) fun v h'=>Grow h0 h'∧∃(t:Sl)(w:List Nat),v=.tup [.agg [.int .i64 n1,t.v],.int .i64 0]∧Nats h' t w∧w.length=w1.length∧Own h0 t∧∀m,wbit w m=(wbit w1 m&&wbit w2 m):=by
 intro k
 induction k with
 | zero =>
  intro j hj h w g B1 B2 ⟨cs,hcs,B3⟩ B4 V hw hm;obtain rfl:j=w1.length:=by omega
  rw[kx0];refine Runs.ifF (decide_eq_false (by omega)) (Runs.step (B4.rd 0 rfl (kc _ _)) (Runs.step (B4.rd 1 rfl (asSl_v _)) ?_));refine Runs.puts B3 (by rw[hcs];rfl) fun h1 B5 u1=>?_;refine Runs.step (B5.rd 0 rfl (kc _ _)) (Runs.step (B5.rd 1 rfl (asSl_v _)) (Runs.ret ⟨g.updr h3 u1,t,w,rfl,(V.updr (fun e=>i3 e.symm) u1).nats,hw,V.own hi,fun m=>?_⟩));rcases Nat.lt_or_ge (m/64) w1.length with h' | h'
  ·exact hm m h'
  ·rw[kvb (by omega),kvb (w:=w1) h'];rfl
 | succ k ih =>
  intro j hj h w g B1 B2 ⟨cs,hcs,B3⟩ B4 V hw hm;have j1:j<w1.length:=by omega
  have j2:j<w2.length:=by omega
  obtain⟨r1,e1,e2⟩:=(N1.grow g).rdN j1;obtain⟨r2,e3,e4⟩:=(N2.grow g).rdN j2;rw[kx0];refine Runs.ifT (decide_eq_true (by omega)) (Runs.step (B4.rd 1 rfl (asSl_v _)) (Runs.step (B1.rd 1 rfl (asSl_v _)) (Runs.step e1 (Runs.step e2 (Runs.step (B2.rd 1 rfl (asSl_v _)) (Runs.step e3 (Runs.step e4 ?_)))))));have a1:w1[j]<18446744073709551616:=N1.lt _ (List.getElem_mem j1);have a2:w2[j]<18446744073709551616:=N2.lt _ (List.getElem_mem j2);refine Runs.step (k3s _ _ _) (Runs.step (seen rfl) ?_);rw[kqq a1 a2];refine Runs.when ((Grow.refl h).same B4 1 1) ?_;rw[V.len];have hq:j<w.length:=by omega
  have hlt:w1[j]&&&w2[j]<18446744073709551616:=Nat.lt_of_le_of_lt Nat.and_le_left a1;refine Runs.step (V.idx rfl (kbd hq)) (Runs.vput V rfl (kbd hq) (kb4 hlt) fun h1 V1 u1=>?_);rw[kf (by omega)];refine ih (j+1) (by omega) h1 _ (g.updr hi u1) (B1.updr i1 u1) (B2.updr i2 u1) ⟨cs,hcs,B3.updr i3 u1⟩ (B4.updr i4 u1) V1 (by rw[List.length_set];exact hw) fun m hm'=>?_;rw[kyo hq];split
  ·rename_i hmj;subst hmj;rw[Nat.testBit_and];unfold wbit;simp[List.getD,j1,j2]
  ·exact hm m (by omega)
theorem k7f(N1:Nats h0 s1 w1)(N2:Nats h0 s2 w2):Runs (go (.fn kgz [.agg [.int .i64 n1,s1.v],.agg [.int .i64 n2,s2.v],.func (.func kev) [] []]) h0) (SetP h0 (andL n1 w1 n2 w2)):=by
 rw[kbfa];refine Runs.new fun h1 b1 g1=>Runs.new fun h2 b2 g2=>Runs.new fun h3 b3 g3=>?_;have B1:=g3.has (g2.has b1);have B2:=g3.has b2;have G3:Grow h0 h3:=(g1.trans g2).trans g3;have s1':h0.blks.size<h1.blks.size:=b1.lt;have s2':h1.blks.size<h2.blks.size:=b2.lt;have s3':h2.blks.size<h3.blks.size:=b3.lt;refine Runs.step (B1.rd 0 rfl (kc _ _)) (Runs.step (B1.rd 1 rfl (asSl_v _)) ?_);refine(klq (N1.grow G3)).call fun v h4 ⟨e,g4⟩=>?_;subst e;refine Runs.step (seen rfl) ?_
 have bad:∀{h:AH},Grow h3 h→andL n1 w1 n2 w2=[]→Runs ((h.puts (Ref.new h2.blks.size 0) [.int .i64 0,(⟨none,0,.is 0⟩:Sl).v]).bind fun h12 =>
   ((h12.cell ((Ref.new h2.blks.size 0).add 0)).bind (AV.asInt .i64)).bind fun n13=>((h12.cell ((Ref.new h2.blks.size 0).add 1)).bind AV.asSl).bind fun l14=>some (.tup [.agg [.int .i64 n13,l14.v],.int .i64 1],h12)) (SetP h0 (andL n1 w1 n2 w2)):=by
  intro h g e;refine Runs.puts (g.has b3) rfl fun h' b' u'=>Runs.step (b'.rd 0 rfl (kc _ _)) (Runs.step (b'.rd 1 rfl (asSl_v _)) (Runs.ret ⟨(G3.trans g).updr (by omega) u',0,_,[],1,rfl,Nats.nil _,Own.nil _,?_⟩));rw[e,k4g]
 refine Runs.cond (fun c=>bad g4 ?_) fun c=>?_
 ·rw[Bool.not_eq_true']at c;unfold andL;rw[c];rfl
 rw[Bool.not_eq_false']at c;have B2':=g4.has B2;refine Runs.step (B2'.rd 0 rfl (kc _ _)) (Runs.step (B2'.rd 1 rfl (asSl_v _)) ?_);refine(klq (N2.grow (G3.trans g4))).call fun v h5 ⟨e,g5⟩=>?_;subst e;refine Runs.step (seen rfl) ?_;have g35:Grow h3 h5:=g4.trans g5;refine Runs.cond (fun c2=>bad g35 ?_) fun c2=>?_
 ·rw[Bool.not_eq_true']at c2;unfold andL;rw[c,c2];rfl
 rw[Bool.not_eq_false']at c2;refine Runs.step ((g35.has B1).rd 0 rfl (kc _ _)) (Runs.step ((g35.has B2).rd 0 rfl (kc _ _)) ?_);refine Runs.cond (fun c3=>bad g35 ?_) fun c3=>?_
 ·rw[Bool.not_eq_true',decide_eq_false_iff_not]at c3;unfold andL;rw[c,c2,decide_eq_false c3];rfl
 rw[Bool.not_eq_false',decide_eq_true_eq]at c3;subst c3;obtain⟨p0,p1,p2,p3⟩:=btR_n c;obtain⟨-,-,q2,q3⟩:=btR_n c2;obtain⟨z,rfl⟩:∃z:Nat,n1=(z:Int):=⟨n1.toNat,by omega⟩;rw[Int.toNat_natCast]at p2 q2 p3 q3;refine Runs.step ((g35.has B1).rd 0 rfl (kc _ _)) ?_;refine(kpf (n:=z) (by omega)).call fun v h6 ⟨g6,t,i,e,hi,V⟩=>?_;have hi:h5.blks.size≤i:=hi;subst e;refine Runs.step rfl (Runs.step rfl (Runs.ifT rfl (Runs.step rfl (Runs.step (seenAt rfl (asSl_v _)) (Runs.step rfl ?_)))));dsimp only;refine Runs.new fun h7 b7 g7=>Runs.puts b7 rfl fun h8 b8 u8=>Runs.step (b8.rd 1 rfl (asSl_v _)) ?_;have s6:i<h6.blks.size:=V.inn;have s5:h3.blks.size≤h5.blks.size:=g35.size;have s6':h5.blks.size≤h6.blks.size:=g6.size;have g38:Grow h3 h8:=((g35.trans g6).trans g7).updr (by omega) u8;have V8:Vec h8 t i (List.replicate ((z+63)/64) 0):=(V.grow g7).updr (by omega) u8;rw[V8.len,List.length_replicate,← p2];have:=k8x (n1:=(z:Int)) (x1:=(z:Int)) (x2:=(z:Int)) N1 N2 (by omega) (by omega) (b1:=h0.blks.size) (b2:=h1.blks.size) (b3:=h2.blks.size) (b4:=h6.blks.size) (i:=i) (t:=t) (by omega) (by omega) (by omega) (by omega) (by omega) (by omega) w1.length 0 (by omega) h8 _ (G3.trans g38) (g38.has B1) (g38.has B2) ⟨_,rfl,g38.has b3⟩ b8 V8 (by rw[List.length_replicate,p2]) (fun m hm=>absurd hm (Nat.not_lt_zero _));refine this.imp fun v h' ⟨g,t',w,e,N,hw,o,hm⟩=>⟨g,(z:Int),t',w,0,e,N,o,?_⟩
 have hR:btR (z:Int) w=true:=btR_of p0 p1 (by rw[Int.toNat_natCast];omega) fun m hm1 hm2=>by
  rw[hm,p3 m (by omega) hm2];rfl
 unfold andL btL;rw[hR,c,c2,decide_eq_true rfl,Int.toNat_natCast];simp only[Bool.and_self,if_true,List.filter_filter];apply List.filter_congr;intro x _;rw[hm,Bool.and_comm]
theorem kban(N1:Nats h0 s1 w1)(N2:Nats h0 s2 w2):Runs (go (.fn knf [.agg [.int .i64 n1,s1.v],.agg [.int .i64 n2,s2.v]]) h0) (SetP h0 (andL n1 w1 n2 w2)):=by
 rw[kyc];refine Runs.new fun h1 b1 g1=>Runs.new fun h2 b2 g2=>Runs.new fun h3 b3 g3=>?_;have B1:=g3.has (g2.has b1);have B2:=g3.has b2;have G3:Grow h0 h3:=(g1.trans g2).trans g3;refine Runs.step (B1.rd 0 rfl (kc _ _)) (Runs.step (B1.rd 1 rfl (asSl_v _)) (Runs.step (B2.rd 0 rfl (kc _ _)) (Runs.step (B2.rd 1 rfl (asSl_v _)) ?_)));refine(k7f (N1.grow G3) (N2.grow G3)).call fun v h4 ⟨g4,n,t,w,e,he,N,ho,hb⟩=>?_;subst he;refine Runs.step rfl (Runs.step rfl (Runs.ifT rfl (Runs.step rfl (Runs.step (seenAt rfl (asSl_v _)) (Runs.step rfl ?_)))));dsimp only;have s1:h0.blks.size<h1.blks.size:=b1.lt;have s2:h1.blks.size<h2.blks.size:=b2.lt;refine Runs.puts (g4.has b3) rfl fun h5 b5 u5=>Runs.step (b5.rd 0 rfl (kc _ _)) (Runs.step (b5.rd 1 rfl (asSl_v _)) (Runs.ret ⟨(G3.trans g4).updr (by omega) u5,n,t,w,e,rfl,N.updr ho b3.lt u5,ho.of_le G3,hb⟩))
end
theorem kco{t:Tb}(h:tabR t=true):t.ids.length≤256∧t.cols.length≤16∧t.bins.length=t.cols.length∧∀i,i<t.cols.length→colR t i=true:=by
 unfold tabR idsR at h;simp only[Bool.and_eq_true,decide_eq_true_eq,List.all_eq_true,List.mem_range,Bool.not_eq_true',decide_eq_false_iff_not]at h;exact⟨h.1.1.1.1,by omega,h.1.2,h.2⟩
theorem kfz{t:Tb}{i:Nat}(h:colR t i=true)(hi:i<t.cols.length)(hb:t.bins.length=t.cols.length):∃hb':i<t.bins.length,2≤t.bins[i]∧t.bins[i]≤32∧t.cols[i].length=t.ids.length:=by
 unfold colR at h;have hb':i<t.bins.length:=by omega
 simp only[Bool.and_eq_true,decide_eq_true_eq,Bool.not_eq_true',decide_eq_false_iff_not,List.getD,List.getElem?_eq_getElem hi,List.getElem?_eq_getElem hb',Option.getD_some]at h;exact⟨hb',by omega,by omega,h.1.2⟩
def leftP(t:Tb)(f:Nat)(c:Int)(i:Nat):Bool:=decide ((t.cols.getD f []).getD i 0≤c)
def leftR(t:Tb)(f:Nat)(c:Int):List Nat:=(List.range t.ids.length).filter (leftP t f c)
section
variable{h0:AH}{S:Fp}{s1 s2 s3:Sl}{t:Tb}
theorem kba4{s:Sl}{f:Nat}{c:Int}(hf:f<t.cols.length)(hc:t.cols[f].length=t.ids.length)(hids:t.ids.length≤256)(q:Sq EI h0 S s t.cols[f]){b1 b2:Nat}{cs2:List AV}(n1:Sq EI h0 S s1 t.ids)(B1:h0.has b1 [s1.v,s2.v,s3.v] ku)(B2:h0.has b2 [.int .i64 0,(⟨none,0,.is 0⟩:Sl).v] ky){ha:AH}(ga:Grow ha h0)(hb2:ha.blks.size≤b2):∀(k i:Nat),i+k=t.ids.length→∀(h:AH)(x:Sl)(j:Option Nat),Grow h0 h→LeO h0.blks.size j→GF EI T.int h Fp.no x j (zs ((List.range i).filter (leftP t f c)))→
  Runs (go (.pt ker kjo [(2,.int .i64 c),(3,.ptr (some (.new b1 0))),(6,.ptr (some (.new b2 0))),(8,x.v),(44,s.v),(45,.int .i64 (t.ids.length:Int)),(46,.int .i64 (i:Int))]) h) fun v h'=>Grow ha h'∧∃(y:Sl)(w:List Nat),v=.tup [.agg [.int .i64 (t.ids.length:Int),y.v],.int .i64 0]∧Nats h' y w∧Own ha y∧w.length=(t.ids.length+63)/64∧∀m,wbit w m=decide (m∈leftR t f c):=by
 intro k
 induction k with
 | zero =>
  intro i hi h x j g lj V;obtain rfl:i=t.ids.length:=by omega
  rw[ku8];refine Runs.ifF (decide_eq_false (by omega)) (Runs.step ((g.has B1).rd 0 rfl (asSl_v _)) ?_);rw[n1.len];refine(kta (S:=Fp.or (Fp.opt j) Fp.no) (l:=leftR t f c) (n:=t.ids.length) V.sq (fun y hy=>?_) (by omega)).call fun v h1 ⟨g1,y,w,e,N,hw,o,hm⟩=>?_
  ·unfold leftR at hy;rw[List.mem_filter,List.mem_range]at hy;exact hy.1
  subst e;refine Runs.step rfl (Runs.step rfl (Runs.ifT rfl (Runs.step rfl (Runs.step (seenAt rfl (asSl_v _)) (Runs.step rfl ?_)))));dsimp only;have hlt:=(g.has B2).lt;refine Runs.puts (g1.has (g.has B2)) rfl fun h2 b2' u2=>Runs.step (b2'.rd 0 rfl (kc _ _)) (Runs.step (b2'.rd 1 rfl (asSl_v _)) (Runs.ret ⟨?_,y,w,rfl,N.updr o hlt u2,?_,hw,hm⟩))
  ·exact((ga.trans g).trans g1).updr hb2 u2
  ·exact o.of_le (ga.trans g)
 | succ k ih =>
  intro i hi h x j g lj V;have hi':i<t.cols[f].length:=by omega
  obtain⟨r,e1,e2⟩:=(q.grow g).int hi';rw[q.len,hc]at e1;rw[ku8]
  have hp:leftP t f c i=decide (t.cols[f][i]≤c):=by
   unfold leftP;simp[List.getD,hf,hi']
  have hr:(List.range (i+1)).filter (leftP t f c)=(List.range i).filter (leftP t f c)++if leftP t f c i then [i]else []:=by
   rw[List.range_succ,List.filter_append];cases hq:leftP t f c i<;>simp[hq]
  have hlen:(zs ((List.range i).filter (leftP t f c))).length≤i:=by
   rw[zs_len];exact Nat.le_trans (List.length_filter_le _ _) (by simp)
  refine Runs.ifT (decide_eq_true (by omega)) ?_;rw[q.len,hc];refine Runs.step e1 (Runs.step e2 (Runs.cond (fun k1=>?_) fun k1=>?_))
  ·refine Runs.new fun h2 b2 g2=>?_;refine Runs.step (kcd b2 (by rw[kf5];rfl)) ?_;have V2:=V.grow g2;obtain⟨y,h3,e3,V3,u3⟩:=V2.push (T:=Fp.no) (cs:=[.int .i64 (i:Int)]) (x:=(i:Int)) rfl NotO.no (krb (by omega));refine Runs.step e3 (Runs.step (asSl_v _) ?_);rw[kf (by omega)];refine ih (i+1) (by omega) h3 y (some h2.blks.size) ((g.trans g2).updo lj u3) (show _≤_ from(g.trans g2).size) ?_;rw[hr,hp,k1,if_pos rfl,zs_app];exact V3.mono (fun j x=>x.1.elim id id) NotO.no
  ·rw[kf (by omega)];refine ih (i+1) (by omega) h x j g lj ?_;rw[hr,hp,k1]
   simpa using V
theorem k21(n:TabAt h0 S s1 s2 s3 t)(hR:tabR t=true){f c:Nat}(hf:f<t.cols.length)(hc:(c:Int)<t.bins.getD f 0):Runs (go (.fn ker [.agg [s1.v,s2.v,s3.v],.int .i64 (f:Int),.int .i64 (c:Int)]) h0) fun v h'=>Grow h0 h'∧∃(y:Sl)(w:List Nat),v=.tup [.agg [.int .i64 (t.ids.length:Int),y.v],.int .i64 0]∧Nats h' y w∧Own h0 y∧w.length=(t.ids.length+63)/64∧∀m,wbit w m=decide (m∈leftR t f (c:Int)):=by
 obtain⟨hids,hcols,hbins,hall⟩:=kco hR;obtain⟨hb,h2,h32,hcl⟩:=kfz (hall f hf) hf hbins;rw[kbfl];refine Runs.new fun h1 b1 g1=>Runs.new fun h2 b2 g2=>?_;have B1:=g2.has b1;refine Runs.step (B1.rd 0 rfl (asSl_v _)) (Runs.step (B1.rd 1 rfl (asSl_v _)) (Runs.step (B1.rd 2 rfl (asSl_v _)) ?_));refine(khj (n.grow (g1.trans g2))).call fun v h3 ⟨e,g3⟩=>?_;subst e;rw[hR];refine Runs.step (seen rfl) (Runs.ifF rfl (Runs.ifF (decide_eq_false (by omega)) ?_));have G3:Grow h0 h3:=(g1.trans g2).trans g3;have B1':=g3.has B1;refine Runs.step (B1'.rd 2 rfl (asSl_v _)) ?_;rw[n.cols.len];refine Runs.ifF (decide_eq_false (by omega)) (Runs.ifF (decide_eq_false (by omega)) (Runs.step (B1'.rd 1 rfl (asSl_v _)) ?_));obtain⟨r,e1,e2⟩:=(n.bins.grow G3).int hb;have hgd:t.bins.getD f 0=t.bins[f]:=by simp[List.getD,hb]
 rw[hgd]at hc;refine Runs.step e1 (Runs.step e2 (Runs.ifF (decide_eq_false (by omega)) (Runs.step (B1'.rd 2 rfl (asSl_v _)) ?_)));obtain⟨r2,s',e3,e4,-,q⟩:=(n.cols.grow G3).sl hf;refine Runs.step e3 (Runs.step e4 ?_);rw[q.len,hcl];have s1':=b1.lt;exact kba4 (cs2:=[]) hf hcl hids q ((n.grow G3).ids) B1' (g3.has b2) G3 (by have:=g1.size;omega) t.ids.length 0 (by omega) h3 _ none (Grow.refl h3) trivial (GF.none _ _ _ _)
end
def nb(t:Tb)(f:Nat):Nat:=(t.bins.getD f 0).toNat-1
def cutsTo(t:Tb)(f:Nat):List (Nat×Nat):=(List.range f).flatMap fun f=>(List.range (nb t f)).map fun c=>(f,c)
def cutsL(t:Tb):List (Nat×Nat):=if tabR t then cutsTo t t.cols.length else []
def rowsL(t:Tb)(n:Int)(w:List Nat)(p:Nat×Nat):List Nat:=if btR n w&&decide ((t.ids.length:Int)=n)then(leftR t p.1 (p.2:Int)).filter (wbit w)else []
theorem kr4(t:Tb)(f:Nat):cutsTo t (f+1)=cutsTo t f++(List.range (nb t f)).map fun c=>(f,c):=by
 unfold cutsTo;rw[List.range_succ,List.flatMap_append];simp
theorem krk(t:Tb):∀f:Nat,(∀i,i<f→nb t i≤31)→(cutsTo t f).length≤31*f
 | 0,_=>by simp[cutsTo]
 | f+1,h=>by
  rw[kr4,List.length_append,List.length_map,List.length_range];have:=krk t f fun i hi=>h i (by omega);have:=h f (by omega);omega
section
variable{S:Fp}{s1 s2 s3 s:Sl}{t:Tb}{n:Int}{w:List Nat}{l b1 b2:Nat}
structure EachOk(S:Fp)(s1 s2 s3 s:Sl)(t:Tb)(n:Int)(w:List Nat)(b1 b2:Nat)(h:AH):Prop where
 tab:Tab h
 at':TabAt h S s1 s2 s3 t
 nats:Nats h s w
 has1:h.has b1 [s1.v,s2.v,s3.v] ku
 has2:h.has b2 [.int .i64 n,s.v] ky
theorem EachOk.grow{h h':AH}(e:EachOk S s1 s2 s3 s t n w b1 b2 h)(g:Grow h h'):EachOk S s1 s2 s3 s t n w b1 b2 h':=⟨e.tab.grow g,e.at'.grow g,e.nats.grow g,g.has e.has1,g.has e.has2⟩
theorem kbdj{h:AH}(E:EachOk S s1 s2 s3 s t n w b1 b2 h)(hR:tabR t=true){f c:Nat}(hf:f<t.cols.length)(hc:(c:Int)<t.bins.getD f 0){K:Sl→AH→Option (AV×AH)}{P:AV→AH→Prop}(H:∀(y:Sl)(j:Option Nat)(h':AH),Grow h h'→GF EI T.int h' Fp.no y j (zs (rowsL t n w (f,c)))→Runs (K y h') P) :
  Runs (((h.cell ((Ref.new b1 0).add 0)).bind AV.asSl).bind fun l10 =>
   ((h.cell ((Ref.new b1 0).add 1)).bind AV.asSl).bind fun l11 =>
   ((h.cell ((Ref.new b1 0).add 2)).bind AV.asSl).bind fun l12 =>
   (go (.fn ker [.agg [l10.v,l11.v,l12.v],.int .i64 (f:Int),.int .i64 (c:Int)]) h).bind fun q13 =>
   (AV.asTup2 q13.1).bind fun p14 =>
   (AV.asAgg p14.1).bind fun cs15 =>
   cond (Nat.beq cs15.length 2) (
   ((cs15[0]?).bind (AV.asInt .i64)).bind fun n16 =>
   ((cs15[1]?).bind AV.asSl).bind fun l17 =>
   ((some p14.2).bind (AV.asInt .i64)).bind fun n18 =>
   newK q13.2 (.cells [.int .i64 0,(⟨none,0,.is 0⟩:Sl).v] ky) fun h19r h19 =>
   (h19.puts h19r [.int .i64 n16,l17.v]).bind fun h20 =>
   ((h20.cell (h19r.add 0)).bind (AV.asInt .i64)).bind fun n21 =>
   ((h20.cell (h19r.add 1)).bind AV.asSl).bind fun l22 =>
   ((h20.cell ((Ref.new b2 0).add 0)).bind (AV.asInt .i64)).bind fun n23 =>
   ((h20.cell ((Ref.new b2 0).add 1)).bind AV.asSl).bind fun l24 =>
   (go (.fn knf [.agg [.int .i64 n21,l22.v],.agg [.int .i64 n23,l24.v]]) h20).bind fun q25 =>
   (AV.asTup2 q25.1).bind fun p26 =>
   (AV.asAgg p26.1).bind fun cs27 =>
   cond (Nat.beq cs27.length 2) (
   ((cs27[0]?).bind (AV.asInt .i64)).bind fun n28 =>
   ((cs27[1]?).bind AV.asSl).bind fun l29 =>
   ((some p26.2).bind (AV.asInt .i64)).bind fun n30 =>
   (q25.2.puts h19r [.int .i64 n28,l29.v]).bind fun h31 =>
   ((h31.cell (h19r.add 0)).bind (AV.asInt .i64)).bind fun n32 =>
   ((h31.cell (h19r.add 1)).bind AV.asSl).bind fun l33 =>
   (go (.fn klp [.agg [.int .i64 n32,l33.v]]) h31).bind fun q34 =>
   ((some q34.1).bind AV.asSl).bind fun l35=>K l35 q34.2) none) none) P:=by
 refine Runs.step (E.has1.rd 0 rfl (asSl_v _)) (Runs.step (E.has1.rd 1 rfl (asSl_v _)) (Runs.step (E.has1.rd 2 rfl (asSl_v _)) ?_));refine(k21 E.at' hR hf hc).call fun v h1 ⟨g1,y1,w1,e,N1,o1,l1,m1⟩=>?_;subst e;refine Runs.step rfl (Runs.step rfl (Runs.ifT rfl (Runs.step rfl (Runs.step (seenAt rfl (asSl_v _)) (Runs.step rfl ?_)))));dsimp only;refine Runs.new fun h2 b3 g2=>Runs.puts b3 rfl fun h3 b4 u3=>?_;have G3:Grow h1 h3:=g2.updr (Nat.le_refl _) u3;have E3:=E.grow (g1.trans G3);refine Runs.step (b4.rd 0 rfl (kc _ _)) (Runs.step (b4.rd 1 rfl (asSl_v _)) (Runs.step (E3.has2.rd 0 rfl (kc _ _)) (Runs.step (E3.has2.rd 1 rfl (asSl_v _)) ?_)));refine(kban (N1.grow G3) E3.nats).call fun v h4 ⟨g4,n4,y4,w4,e4,he,N4,o4,hb⟩=>?_;subst he;refine Runs.step rfl (Runs.step rfl (Runs.ifT rfl (Runs.step rfl (Runs.step (seenAt rfl (asSl_v _)) (Runs.step rfl ?_)))));dsimp only;refine Runs.puts (g4.has b4) rfl fun h5 b5 u5=>Runs.step (b5.rd 0 rfl (kc _ _)) (Runs.step (b5.rd 1 rfl (asSl_v _)) ?_);have G5:Grow h1 h5:=(G3.trans g4).updr (Nat.le_refl _) u5;have G05:Grow h h5:=g1.trans G5;refine(k4j (n:=n4) (E.tab.grow G05) (N4.updr o4 b4.lt u5)).call fun v h6 ⟨g6,y6,j6,e,lj,V⟩=>?_;subst e;refine Runs.step (seen (asSl_v _)) ?_;refine H y6 j6 h6 (G05.trans g6) ?_;rw[hb]at V;have hids:=(kco hR).1
 have hov:∀i,t.ids.length≤i→wbit w1 i=false:=fun i hi=>by
  rw[m1,decide_eq_false];intro hm;unfold leftR at hm;rw[List.mem_filter,List.mem_range]at hm;omega
 have hR1:btR (t.ids.length:Int) w1=true:=btR_of (by omega) (by omega) (by rw[Int.toNat_natCast];exact l1) fun i _ hi=>hov i (by rw[Int.toNat_natCast]at hi;exact hi)
 have hL1:btL (t.ids.length:Int) w1=leftR t f (c:Int):=by
  unfold btL;rw[hR1,if_pos rfl,Int.toNat_natCast];unfold leftR;apply List.filter_congr;intro i hi;rw[m1];unfold leftR;rw[Bool.eq_iff_iff,decide_eq_true_eq,List.mem_filter];exact⟨fun h=>h.2,fun h=>⟨hi,h⟩⟩
 have:andL (t.ids.length:Int) w1 n w=rowsL t n w (f,c):=by
  unfold andL rowsL;rw[hR1,hL1,Bool.true_and]
 rw[this]at V;exact V
theorem k2x{Inv:List (Nat×Nat)→AH→Prop}(hE:∀d h,Inv d h→EachOk S s1 s2 s3 s t n w b1 b2 h)(hG:∀d h h',Inv d h→Grow h h'→Inv d h')(hR:tabR t=true)
  (hround:∀(d:List (Nat×Nat))(f c:Nat)(h:AH)(y:Sl)(j:Option Nat),f<t.cols.length→(c:Int)<t.bins.getD f 0→d.length<1000→Inv d h→GF EI T.int h Fp.no y j (zs (rowsL t n w (f,c)))→Runs (go (.round l [.agg [.int .i64 (f:Int),.int .i64 (c:Int)],y.v]) h) fun v h'=>v=.bool true∧Inv (d++[(f,c)]) h')
  {f:Nat} (hf:f<t.cols.length) {P:AV→AH→Prop} (hP:∀h,Inv (cutsTo t (f+1)) h→Runs (go (.pt kbn kif [(0,.func (.yield l) [] []),(1,.ptr (some (.new b1 0))),(2,.ptr (some (.new b2 0))),(10,s2.v),(11,.int .i64 (t.bins.length:Int)),(12,.int .i64 ((f+1:Nat):Int))]) h) P) :
  ∀(k c:Nat),c+k=nb t f→∀h,Inv (cutsTo t f++(List.range c).map fun c=>(f,c)) h→
  Runs (go (.pt kbn kil [(0,.func (.yield l) [] []),(1,.ptr (some (.new b1 0))),(2,.ptr (some (.new b2 0))),(4,.int .i64 (f:Int)),(10,s2.v),(11,.int .i64 (t.bins.length:Int)),(12,.int .i64 (f:Int)),(18,.int .i64 (nb t f:Int)),(19,.int .i64 (c:Int))]) h) P:=by
 obtain⟨hids,hcols,hbins,hall⟩:=kco hR;obtain⟨hb,hb2,hb32,hcl⟩:=kfz (hall f hf) hf hbins;have hgd:t.bins.getD f 0=t.bins[f]:=by simp[List.getD,hb]
 have hnb:(nb t f:Int)=t.bins[f]-1:=by
  unfold nb;rw[hgd];omega
 have hlen:(cutsTo t f).length≤31*f:=krk t f fun i hi=>by
  obtain⟨hb',h2',h32',-⟩:=kfz (hall i (by omega)) (by omega) hbins;have:t.bins.getD i 0=t.bins[i]:=by simp[List.getD,hb']
  unfold nb;rw[this];omega
 intro k
 induction k with
 | zero =>
  intro c hc h I;obtain rfl:c=nb t f:=by omega
  rw[← kr4]at I;rw[ksr];refine Runs.ifF (decide_eq_false (by omega)) ?_;rw[kf (by omega)];exact hP h I
 | succ k ih =>
  intro c hc h I;rw[ksr];refine Runs.ifT (decide_eq_true (by omega)) ?_;have hcb:(c:Int)<t.bins.getD f 0:=by rw[hgd];omega
  refine kbdj (hE _ _ I) hR hf hcb (K:=fun y h'=>(go (.round l [.agg [.int .i64 (f:Int),.int .i64 (c:Int)],y.v]) h').bind fun q36=>((some q36.1).bind AV.asBool).bind fun b37=>cond (!b37) (some (.tup [],q36.2)) (go (.pt kbn kil [(0,.func (.yield l) [] []),(1,.ptr (some (.new b1 0))),(2,.ptr (some (.new b2 0))),(4,.int .i64 (f:Int)),(10,s2.v),(11,.int .i64 (t.bins.length:Int)),(12,.int .i64 (f:Int)),(18,.int .i64 (nb t f:Int)),(19,.int .i64 (IntKind.wrap .i64 ((c:Int)+1)))]) q36.2)) fun y j h1 g1 V=>?_;refine(hround _ f c h1 y j hf hcb ?_ (hG _ _ _ I g1) V).call fun v h2 ⟨e,I2⟩=>?_
  ·rw[List.length_append,List.length_map,List.length_range];omega
  subst e;refine Runs.step (seen rfl) (Runs.ifF rfl ?_);rw[kf (by omega)];refine ih (c+1) (by omega) h2 ?_;rw[List.range_succ,List.map_append,← List.append_assoc];exact I2
theorem kbcj{Inv:List (Nat×Nat)→AH→Prop}(hE:∀d h,Inv d h→EachOk S s1 s2 s3 s t n w b1 b2 h)(hG:∀d h h',Inv d h→Grow h h'→Inv d h')(hR:tabR t=true)
  (hround:∀(d:List (Nat×Nat))(f c:Nat)(h:AH)(y:Sl)(j:Option Nat),f<t.cols.length→(c:Int)<t.bins.getD f 0→d.length<1000→Inv d h→GF EI T.int h Fp.no y j (zs (rowsL t n w (f,c)))→Runs (go (.round l [.agg [.int .i64 (f:Int),.int .i64 (c:Int)],y.v]) h) fun v h'=>v=.bool true∧Inv (d++[(f,c)]) h') :
  ∀(k f:Nat),f+k=t.cols.length→∀h,Inv (cutsTo t f) h→
  Runs (go (.pt kbn kif [(0,.func (.yield l) [] []),(1,.ptr (some (.new b1 0))),(2,.ptr (some (.new b2 0))),(10,s2.v),(11,.int .i64 (t.bins.length:Int)),(12,.int .i64 (f:Int))]) h) fun v h'=>v=.tup []∧Inv (cutsTo t t.cols.length) h':=by
 obtain⟨hids,hcols,hbins,hall⟩:=kco hR;intro k
 induction k with
 | zero =>
  intro f hf h I;obtain rfl:f=t.cols.length:=by omega
  rw[kxm];exact Runs.ifF (decide_eq_false (by omega)) (Runs.ret ⟨rfl,I⟩)
 | succ k ih =>
  intro f hf h I;have hf':f<t.cols.length:=by omega
  obtain⟨hb,hb2,hb32,hcl⟩:=kfz (hall f hf') hf' hbins;obtain⟨r,e1,e2⟩:=(hE _ _ I).at'.bins.int hb;rw[(hE _ _ I).at'.bins.len]at e1;rw[kxm];refine Runs.ifT (decide_eq_true (by omega)) ?_;rw[(hE _ _ I).at'.bins.len];refine Runs.step e1 (Runs.step e2 ?_);have hgd:t.bins.getD f 0=t.bins[f]:=by simp[List.getD,hb]
  rw[wrap64 (by omega) (by omega),show t.bins[f]-1=(nb t f:Int)from by unfold nb;rw[hgd];omega];exact k2x hE hG hR hround hf' (fun h I=>ih (f+1) (by omega) h I) (nb t f) 0 (by omega) h (by simpa using I)
theorem kv1{Inv:List (Nat×Nat)→AH→Prop}(hE:∀d h,Inv d h→EachOk S s1 s2 s3 s t n w b1 b2 h)(hG:∀d h h',Inv d h→Grow h h'→Inv d h')(hR:tabR t=true)
  (hround:∀(d:List (Nat×Nat))(f c:Nat)(h:AH)(y:Sl)(j:Option Nat),f<t.cols.length→(c:Int)<t.bins.getD f 0→d.length<1000→Inv d h→GF EI T.int h Fp.no y j (zs (rowsL t n w (f,c)))→Runs (go (.round l [.agg [.int .i64 (f:Int),.int .i64 (c:Int)],y.v]) h) fun v h'=>v=.bool true∧Inv (d++[(f,c)]) h') {h:AH} (I:Inv [] h) :
  Runs (go (.fn kbn [.func (.yield l) [] [],.ptr (some (.new b1 0)),.ptr (some (.new b2 0))]) h) fun v h'=>v=.tup []∧Inv (cutsL t) h':=by
 rw[k3y];refine Runs.step ((hE _ _ I).has1.rd 1 rfl (asSl_v _)) ?_;rw[(hE _ _ I).at'.bins.len];unfold cutsL;rw[hR,if_pos rfl];exact kbcj hE hG hR hround t.cols.length 0 (by omega) h I
end
@[reducible] def EP:Ef (Int×Int):=Ef.pair EI EI
def zc(l:List (Nat×Nat)):List (Int×Int):=l.map fun p=>((p.1:Int),(p.2:Int))
theorem zc_len(l:List (Nat×Nat)):(zc l).length=l.length:=List.length_map _
theorem zc_app(l m:List (Nat×Nat)):zc (l++m)=zc l++zc m:=List.map_append
theorem k6g{n:Nat}(h:n≤1000000):growOk Pg n kbp 2=true:=by
 unfold growOk;rw[k4p,k3g];have h1:n*16≤kg:=by simp only[kg];omega
 have h2:n*2≤kg:=by simp only[kg];omega
 have h3:n≤kg:=by simp only[kg];omega
 simp[h1,h2,h3]
theorem EP.of{h:AH}{S:Fp}(a b:Int):EP.has h S [.int .i64 a,.int .i64 b] (a,b):=⟨[.int .i64 a],[.int .i64 b],rfl,rfl,rfl⟩
theorem Sq.two{h:AH}{S:Fp}{s:Sl}{xs:List (Int×Int)}(n:Sq EP h S s xs){i:Nat}(hi:i<xs.length):∃r:Ref,idx s.ref s.len (i:Int) 2=some r∧(h.cell (r.add 0)).bind (AV.asInt .i64)=some xs[i].1∧(h.cell (r.add 1)).bind (AV.asInt .i64)=some xs[i].2:=by
 obtain⟨r,cs,e1,⟨c1,c2,rfl,a1,a2⟩,l⟩:=n.at (kd2 hi);have a1:c1=[.int .i64 xs[i].1]:=a1;have a2:c2=[.int .i64 xs[i].2]:=a2;subst a1;subst a2;rw[n.len];exact⟨r,e1,l.rd (Grow.refl _) 0 rfl (kc _ _),l.rd (Grow.refl _) 1 rfl (kc _ _)⟩
structure Lp{α:Type}(E:Ef α)(elem tl:TypeId)(note:LoopState→ABlk)(hs:AH)(bo l:Nat)(xs:List α)(h:AH):Prop where
 md:Md (fun m=>m=bo∨m=l) hs h
 note:h.blks[l]?=some (note .ready)
 out:∃(t:Sl)(j:Option Nat),h.has bo [t.v] tl∧LeO hs.blks.size j∧GF E elem h Fp.no t j xs
section
variable{α:Type}{E:Ef α}{elem tl:TypeId}{note:LoopState→ABlk}{hs h:AH}{bo l:Nat}{xs:List α}
theorem Lp.grow{h':AH}(L:Lp E elem tl note hs bo l xs h)(g:Grow h h'):Lp E elem tl note hs bo l xs h' :=
 ⟨L.md.thenG g,(g.blk l (Array.getElem?_eq_some_iff.1 L.note).1).trans L.note,L.out.imp fun _ ⟨j,B,lj,V⟩=>⟨j,g.has B,lj,V.grow g⟩⟩
theorem k4u{t:Sl}{j:Option Nat}{x:α}{cs:List AV}{k:Nat}{e':TypeId}(B:h.has bo [t.v] tl)(hn:h.blks[l]?=some (note .busy))(hbl:bo≠l)(hbs:bo<hs.blks.size)(hls:l<hs.blks.size)(hsh:hs.blks.size≤h.blks.size)(lj:LeO hs.blks.size j)(V:GF E elem h Fp.no t j xs)(hx:E.has h Fp.no cs x)(hg:growOk Pg (xs.length+1) elem E.w=true)(bx:h.has k cs e')(hcs:1*Pg.cellsOf elem=cs.length)(hend:∀h',h'.blks[l]?=some (note .busy)→kcj l none h'=some (.bool true,h'.setBlk l (note .ready))) :
  Runs ((kbb Pg elem ((⟨some (.new k 0),1,.is 1⟩:Sl).v) h).bind fun p=>(kw Pg t p.1 p.2 elem E.w h).bind fun q=>(AV.asSl q.1).bind fun l12=>(q.2.puts (.new bo 0) [l12.v]).bind fun h13=>kcj l none h13) fun v h'=>v=.bool true∧Md (fun m=>m=bo∨m=l∨j=some m) h h'∧h'.blks[l]?=some (note .ready)∧∃(t:Sl)(j:Option Nat),h'.has bo [t.v] tl∧LeO hs.blks.size j∧GF E elem h' Fp.no t j (xs++[x]):=by
 refine Runs.step (kcd bx hcs) ?_;obtain⟨t',h3,e3,V3,u3⟩:=V.push (T:=Fp.no) hx NotO.no hg;refine Runs.step e3 (Runs.step (asSl_v _) ?_);have m3:Md (Fp.opt j) h h3:=u3.md fun k e=>e;have no:∀{m:Nat},m<hs.blks.size→¬Fp.opt j m:=fun hm e=>kdn hm lj _ e rfl;have B3:h3.has bo [t.v] tl:=m3.has B (no hbs);have n3:h3.blks[l]?=some (note .busy):=m3.get hn (no hls);refine Runs.puts B3 rfl fun h4 B4 u4=>?_;have n4:h4.blks[l]?=some (note .busy):=(u4.blk l (fun e=>hbl e.symm) (Array.getElem?_eq_some_iff.1 n3).1).trans n3;rw[hend _ n4];have u5:Upd h4 (h4.setBlk l (note .ready)) l:=AH.setBlk_Upd _;refine Runs.ret ⟨rfl,?_,AH.setBlk_get (Array.getElem?_eq_some_iff.1 n4).1,t',some h.blks.size,B4.updr hbl u5,hsh,?_⟩
 ·refine((m3.mono fun m _ e=>.inr (.inr e)).trans (u4.md (.inl rfl))).trans (u5.md (.inr (.inl rfl)))
 ·have V4:GF E elem h3 Fp.no t' (some h.blks.size) (xs++[x]):=V3.mono (fun j x=>x.1.elim id id) NotO.no;exact(V4.upd u4 Fp.not_no fun k e=>by cases e;omega).upd u5 Fp.not_no fun k e=>by cases e;omega
theorem Lp.next{xs ys:List α}{h h1 h':AH}{j:Option Nat}(m1:Md (fun m=>m=bo∨m=l) hs h1)(lj:LeO hs.blks.size j)(m2:Md (fun m=>m=bo∨m=l∨j=some m) h1 h')(hn:h'.blks[l]?=some (note .ready))(o:∃(t:Sl)(j:Option Nat),h'.has bo [t.v] tl∧LeO hs.blks.size j∧GF E elem h' Fp.no t j ys):Lp E elem tl note hs bo l ys h' :=
 ⟨m1.next m2 fun m hm t=>t.elim .inl fun t=>t.elim .inr fun e=>absurd rfl (kdn hm lj _ e),hn,o⟩
end
theorem EachOk.md{S T:Fp}{s1 s2 s3 s:Sl}{t:Tb}{n:Int}{w:List Nat}{b1 b2:Nat}{h h':AH}(e:EachOk S s1 s2 s3 s t n w b1 b2 h)(m:Md T h h')(d:Dis S T)(dn:∀j,¬Av s j w→S j)(n1:¬T b1)(n2:¬T b2):EachOk S s1 s2 s3 s t n w b1 b2 h' :=
 ⟨e.tab.md m,e.at'.md m d,e.nats.mdE dn m d,m.has e.has1 n1,m.has e.has2 n2⟩
theorem TabAt.bound{h:AH}{S:Fp}{s1 s2 s3:Sl}{t:Tb}(n:TabAt h S s1 s2 s3 t):TabAt h (Fp.below h.blks.size) s1 s2 s3 t :=
 ⟨n.ids.bound.mono fun _ x=>x.2,n.bins.bound.mono fun _ x=>x.2,n.cols.bound.mono fun _ x=>x.2⟩
noncomputable def cNote(s1 s2 s3:Sl)(b bo:Nat)(g:AV)(st:LoopState):ABlk:=kec kqy kd9 0 st none [(0,.agg [s1.v,s2.v,s3.v]),(1,.ptr (some (.new b 0))),(2,(⟨none,0,.is 0⟩:Sl).v),(3,.ptr (some (.new bo 0))),(5,.agg [s1.v,s2.v,s3.v]),(6,.bool true),(7,.agg [s1.v,s2.v,s3.v]),(8,.agg [.int .i64 0,(⟨none,0,.is 0⟩:Sl).v]),(9,g)]
section
variable{h0:AH}{S:Fp}{s1 s2 s3:Sl}{t:Tb}
theorem k5q{hs h:AH}{b bo l:Nat}{g:AV}{d:List (Nat×Nat)}{f c:Nat}{y:Sl}(hbl:bo≠l)(hbs:bo<hs.blks.size)(hls:l<hs.blks.size)(hd:d.length<1000)(I:Lp EP kbp khf (cNote s1 s2 s3 b bo g) hs bo l (zc d) h):Runs (go (.round l [.agg [.int .i64 (f:Int),.int .i64 (c:Int)],y.v]) h) fun v h'=>v=.bool true∧Lp EP kbp khf (cNote s1 s2 s3 b bo g) hs bo l (zc (d++[(f,c)])) h':=by
 obtain⟨M,hn,t,j,B,lj,V⟩:=I;rw[kba2 l none _ _ _ _ _ _ _ _ _ _ _ _ _ _ _ _ _ _ _ _ hn];refine Runs.new fun h1 b1 g1=>Runs.puts b1 rfl fun h2 b2 u2=>?_;have G2:Grow h h2:=g1.updr (Nat.le_refl _) u2;have n2:h2.blks[l]?=some (cNote s1 s2 s3 b bo g .ready):=(G2.blk l (Array.getElem?_eq_some_iff.1 hn).1).trans hn;rw[kp6 (h:=h2) n2,Option.bind_some];generalize hq:h2.setBlk l _=h3;have u3:Upd h2 h3 l:=by rw[← hq];exact AH.setBlk_Upd _
 have n3:h3.blks[l]?=some (cNote s1 s2 s3 b bo g .busy):=by rw[← hq];exact AH.setBlk_get (Array.getElem?_eq_some_iff.1 n2).1
 have hsz:=M.size;have hll:l<h.blks.size:=by omega
 have B3:h3.has bo [t.v] khf:=(G2.has B).updr hbl u3;have V3:GF EP kbp h3 Fp.no t j (zc d):=(V.grow G2).upd u3 Fp.not_no (kdn hls lj);have b3:h3.has h.blks.size [.int .i64 (f:Int),.int .i64 (c:Int)] kbp:=b2.updr (by omega) u3;refine Runs.step (B3.rd0 rfl (asSl_v _)) (Runs.step (b3.rd 0 rfl (kc _ _)) (Runs.step (b3.rd 1 rfl (kc _ _)) ?_));refine Runs.new fun h4 b4 g4=>?_;have n4:=(g4.blk l (Array.getElem?_eq_some_iff.1 n3).1).trans n3;have m4:Md (fun m=>m=bo∨m=l) hs h4:=((M.thenG G2).trans (u3.md (.inr rfl))).thenG g4;have:=k4u (note:=cNote s1 s2 s3 b bo g) (hs:=hs) (E:=EP) (x:=((f:Int),(c:Int))) (g4.has B3) n4 hbl hbs hls m4.size lj (V3.grow g4) (EP.of _ _) (k6g (by rw[zc_len];omega)) b4 (by rw[kbcl];rfl) (fun h' hn'=>by rw[kpm hn'];rfl);refine this.imp fun v h' ⟨e,m5,n5,o5⟩=>⟨e,?_⟩;rw[zc_app];exact Lp.next (h:=h) (xs:=zc d) m4 lj m5 n5 o5
theorem k7a(T0:Tab h0)(q:TabAt h0 S s1 s2 s3 t):Runs (go (.fn kd9 [.agg [s1.v,s2.v,s3.v]]) h0) fun v h'=>Grow h0 h'∧∃(y:Sl)(j:Option Nat),v=y.v∧LeO h0.blks.size j∧GF EP kbp h' Fp.no y j (zc (cutsL t)):=by
 rw[k0l];refine Runs.new fun h1 b1 g1=>Runs.new fun h2 b2 g2=>?_;have B1:=g2.has b1;have z1:=b1.lt;have z2:=b2.lt;refine Runs.step (B1.rd 0 rfl (asSl_v _)) (Runs.step (B1.rd 1 rfl (asSl_v _)) (Runs.step (B1.rd 2 rfl (asSl_v _)) ?_));refine(khj (q.grow (g1.trans g2))).call fun v h3 ⟨e,g3⟩=>?_;subst e;refine Runs.step (seen rfl) ?_;have G3:Grow h0 h3:=(g1.trans g2).trans g3;have B1':=g3.has B1;cases hR:tabR t with
 | false =>
  refine Runs.ifF rfl (Runs.step ((g3.has b2).rd0 rfl (asSl_v _)) (Runs.ret ⟨G3,_,none,rfl,trivial,?_⟩));unfold cutsL;rw[hR];exact GF.none _ _ _ _
 | true =>
  refine Runs.ifT rfl (Runs.step (B1'.rd 0 rfl (asSl_v _)) (Runs.step (B1'.rd 1 rfl (asSl_v _)) (Runs.step (B1'.rd 2 rfl (asSl_v _)) ?_)))
  have k0:Runs (go (.fn kje [.agg [s1.v,s2.v,s3.v],.agg [.int .i64 0,(⟨none,0,.is 0⟩:Sl).v]]) h3) fun v h'=>∃c1 c2:Nat,v=.func (.func kbn) [] [.ptr (some (.new c1 0)),.ptr (some (.new c2 0))]∧h3.blks.size≤c1∧h3.blks.size≤c2∧h'.has c1 [s1.v,s2.v,s3.v] ku∧h'.has c2 [.int .i64 0,(⟨none,0,.is 0⟩:Sl).v] ky∧Grow h3 h':=by
   rw[kuc];exact Runs.new fun h4 b4 g4=>Runs.new fun h5 b5 g5=>Runs.ret ⟨_,_,rfl,Nat.le_refl _,g4.size,g5.has b4,b5,g4.trans g5⟩
  refine k0.call fun v h4 ⟨c1,c2,e,l1,l2,d1,d2,g4⟩=>?_;subst e;dsimp only;rw[k9c,kpn];refine Runs.newM fun h5 hb g5=>?_;rw[kx3];generalize hgv:(AV.func (.func kbn) [] [AV.ptr (some (Ref.new c1 0)),AV.ptr (some (Ref.new c2 0))])=gv at hb;have G5:Grow h0 h5:=(G3.trans g4).trans g5;have z3:=g3.size;have z4:=d1.lt;have z5:=d2.lt;have z6:h4.blks.size<h5.blks.size:=(Array.getElem?_eq_some_iff.1 hb).1;have E5:EachOk (Fp.below h0.blks.size) s1 s2 s3 ⟨none,0,.is 0⟩ t 0 [] c1 c2 h5:=⟨T0.grow G5,q.bound.grow G5,Nats.nil _,g5.has d1,g5.has d2⟩;have I0:Lp EP kbp khf (cNote s1 s2 s3 h0.blks.size h1.blks.size gv) h5 h1.blks.size h4.blks.size (zc []) h5:=⟨Md.refl _ _,hb,_,none,g5.has (g4.has (g3.has b2)),trivial,GF.none _ _ _ _⟩;have k1:=kv1 (l:=h4.blks.size) (Inv:=fun d h=>Lp EP kbp khf (cNote s1 s2 s3 h0.blks.size h1.blks.size gv) h5 h1.blks.size h4.blks.size (zc d) h) (fun d h I=>E5.md I.md (fun j a b=>by have a:j<h0.blks.size:=a;rcases b with rfl | rfl<;>omega) (fun j hj=>absurd (.inl rfl) hj) (by omega) (by omega)) (fun d h h' I g=>I.grow g) hR (fun d f c h y j hf hc hd I V=>k5q (by omega) (by omega) (by omega) hd I) I0;show Runs ((go (.fn kbn [.func (.yield h4.blks.size) [] [],.ptr (some (.new c1 0)),.ptr (some (.new c2 0))]) h5).bind _) _;refine k1.call fun v h6 ⟨e,I⟩=>?_;obtain⟨M,hn,t',j,B,lj,V⟩:=I;dsimp only;rw[kpk hn,Option.bind_some,kbau];have u7:Upd h6 (h6.setBlk h4.blks.size .dead) h4.blks.size:=AH.setBlk_Upd _;have z7:=M.size;have G6:Grow h0 h6:=(G5.thenM M).grow fun j hj=>by intro k;rcases k with rfl | rfl<;>omega
  refine Runs.step ((B.updr (by omega) u7).rd0 rfl (asSl_v _)) (Runs.ret ⟨G6.updr (by omega) u7,t',j,rfl,LeO.trans (by omega) lj,?_⟩);exact V.upd u7 Fp.not_no (kdn (by omega) lj)
end
def faultH(t:Tb)(n:Int)(w:List Nat)(m:Int):Int:=if !tabR t then 20 else if !btR n w then 1 else if !decide (n=(t.ids.length:Int))then 1 else if !decide (m=(t.ids.length:Int))then 1 else 0
theorem k4m{t:Tb}{n:Int}{w:List Nat}{m:Int}(h:faultH t n w m=0):tabR t=true∧btR n w=true∧n=(t.ids.length:Int)∧m=(t.ids.length:Int):=by
 unfold faultH at h
 grind
theorem k3b{t:Tb}{n:Int}{w:List Nat}{p:Nat×Nat}:∀x∈rowsL t n w p,x<t.ids.length:=by
 intro x hx;unfold rowsL at hx;split at hx
 ·rw[List.mem_filter]at hx;have:=hx.1;unfold leftR at this;rw[List.mem_filter,List.mem_range]at this;exact this.1
 ·simp at hx
theorem kbcx{t:Tb}{n:Int}{w:List Nat}{p:Nat×Nat}:(rowsL t n w p).length≤t.ids.length:=by
 unfold rowsL;split
 ·refine Nat.le_trans (List.length_filter_le _ _) ?_;unfold leftR;exact Nat.le_trans (List.length_filter_le _ _) (by simp)
 ·simp
section
variable{h0:AH}{S:Fp}{s1 s2 s3 s u:Sl}{t:Tb}{n:Int}{w:List Nat}{g:List Int}
theorem k9k(q:TabAt h0 S s1 s2 s3 t)(N:Nats h0 s w){m:Int}:Runs (go (.fn kqu [.agg [s1.v,s2.v,s3.v],.agg [.int .i64 n,s.v],.int .i64 m]) h0) fun v h'=>v=.int .i64 (faultH t n w m)∧Grow h0 h':=by
 rw[k91];refine Runs.new fun h1 b1 g1=>Runs.new fun h2 b2 g2=>?_;have B1:=g2.has b1;have G2:=g1.trans g2;refine Runs.step (B1.rd 0 rfl (asSl_v _)) (Runs.step (B1.rd 1 rfl (asSl_v _)) (Runs.step (B1.rd 2 rfl (asSl_v _)) ?_));refine(khj (q.grow G2)).call fun v h3 ⟨e,g3⟩=>?_;subst e;unfold faultH;refine Runs.step (seen rfl) (Runs.cond (fun c=>Runs.ret ⟨by rw[if_pos c],G2.trans g3⟩) fun c=>?_);rw[if_neg (by rw[c];simp)];refine Runs.step ((g3.has b2).rd 0 rfl (kc _ _)) (Runs.step ((g3.has b2).rd 1 rfl (asSl_v _)) ?_);refine(klq (N.grow (G2.trans g3))).call fun v h4 ⟨e,g4⟩=>?_;subst e;have G4:=(G2.trans g3).trans g4;have b2':=g4.has (g3.has b2);have B1':=g4.has (g3.has B1);refine Runs.step (seen rfl) (Runs.cond (fun c=>Runs.ret ⟨by rw[if_pos c],G4⟩) fun c=>?_);rw[if_neg (by rw[c];simp)];refine Runs.step (b2'.rd 0 rfl (kc _ _)) (Runs.step (B1'.rd 0 rfl (asSl_v _)) ?_);rw[q.ids.len];refine Runs.cond (fun c=>Runs.ret ⟨by rw[if_pos c],G4⟩) fun c=>?_;rw[if_neg (by rw[c];simp)];refine Runs.step (B1'.rd 0 rfl (asSl_v _)) ?_;rw[q.ids.len];refine Runs.cond (fun c=>Runs.ret ⟨by rw[if_pos c],G4⟩) fun c=>?_;rw[if_neg (by rw[c];simp)];exact Runs.ret ⟨rfl,G4⟩
end
end Go.Ab
set_option maxRecDepth 10000
namespace Go.Ab
open Go.Proofs
section
variable{h0:AH}{S:Fp}{s1 s2 s3 s u:Sl}{t:Tb}{n:Int}{w:List Nat}{g:List Int}
end
end Go.Ab
set_option maxRecDepth 10000
namespace Go.Ab
open Go.Proofs
section
variable{h0:AH}{S:Fp}{s1 s2 s3 s u:Sl}{t:Tb}{n:Int}{w:List Nat}{g:List Int}
end
end Go.Ab
set_option maxRecDepth 10000
namespace Go.Ab
open Go.Proofs
section
variable{h0:AH}{S:Fp}{s1 s2 s3 s u:Sl}{t:Tb}{n:Int}{w:List Nat}{g:List Int}
end
end Go.Ab
set_option maxRecDepth 10000
namespace Go.Ab
open Go.Proofs
section
variable{h0:AH}{S:Fp}{s1 s2 s3 s u:Sl}{t:Tb}{n:Int}{w:List Nat}{g:List Int}
end
end Go.Ab
set_option maxRecDepth 10000
namespace Go.Ab
open Go.Proofs Go.Num
end Go.Ab
set_option maxRecDepth 10000
namespace Go.Ab
open Go.Proofs Go.Num
section
variable{h0:AH}{s1 s2 s3:Sl}{ns cs ds:List Nat}
theorem kzw(N:Nats h0 s1 ns):Runs (go (.fn kn2 [s1.v]) h0) fun v h'=>∃(b:Nat)(t:Sl),v=.func (.func kd0) [] [.ptr (some (.new b 0))]∧h0.blks.size≤b∧h'.has b [t.v] kr∧Nats h' t (kd7 ns)∧Grow h0 h':=by
 rw[ky7];obtain⟨t,h1,e,N1,g1,o1⟩:=kpl N N;rw[e,Option.bind_some];refine Runs.step rfl (Runs.step (seen (asSl_v _)) (Runs.step (seen (kc _ _)) ?_));dsimp only;refine Runs.new fun h2 b2 g2=>Runs.puts b2 rfl fun h3 b3 u3=>?_;have g3:Grow h1 h3:=g2.updr (Nat.le_refl _) u3;exact Runs.ret ⟨h1.blks.size,t,rfl,g1.size,b3,N1.grow g3,g1.trans g3⟩
theorem kbal{a b t:Sl}{xs ys zs:List Nat}(A:Nats h0 a xs)(B':Nats h0 b ys)(Z:Nats h0 t zs){k:Nat}{e:TypeId}(hk:h0.has k [t.v] e):Runs (go (.fn kd0 [a.v,b.v,.ptr (some (.new k 0))]) h0) fun v h'=>∃s:Sl,v=s.v∧Nats h' s (kuz xs ys zs)∧Grow h0 h'∧Own h0 s:=by
 rw[kbfh];obtain⟨p,h1,e1,N1,g1,o1⟩:=kpl A B';rw[e1,Option.bind_some];refine Runs.step rfl (Runs.step (seen (asSl_v _)) (Runs.step (seen (kc _ _)) ?_));dsimp only;refine Runs.step ((g1.has hk).rd0 rfl (asSl_v _)) ?_;obtain⟨q,r,h2,e2,N2,N3,g2,o2,o3⟩:=kue N1 (Z.grow g1);rw[e2,Option.bind_some];refine Runs.step rfl (Runs.step (seen (asSl_v _)) (Runs.step (seen (asSl_v _)) (Runs.step (seen (kc _ _)) ?_)));exact Runs.ret ⟨r,rfl,N3,g1.trans g2,o3.of_le g1⟩
end
end Go.Ab
set_option maxRecDepth 10000
namespace Go.Ab
open Go.Proofs Go.Num
structure LpS{α:Type}(E:Ef α)(elem tl:TypeId)(note:LoopState→ABlk)(hs:AH)(bo l:Nat)(xs:List α)(h:AH):Prop where
 md:Md (fun m=>m=bo∨m=l) hs h
 note:h.blks[l]?=some (note .ready)
 out:∃(S:Fp)(t:Sl)(j:Option Nat),(∀m,S m→hs.blks.size≤m)∧h.has bo [t.v] tl∧LeO hs.blks.size j∧GF E elem h S t j xs
section
variable{α:Type}{E:Ef α}{elem tl:TypeId}{note:LoopState→ABlk}{hs h:AH}{bo l:Nat}{xs:List α}
theorem LpS.grow{h':AH}(L:LpS E elem tl note hs bo l xs h)(g:Grow h h'):LpS E elem tl note hs bo l xs h' :=
 ⟨L.md.thenG g,(g.blk l (Array.getElem?_eq_some_iff.1 L.note).1).trans L.note,L.out.imp fun _ ⟨t,j,a,B,lj,V⟩=>⟨t,j,a,g.has B,lj,V.grow g⟩⟩
theorem k8v{S Tx:Fp}{t:Sl}{j:Option Nat}{x:α}{cs:List AV}{k:Nat}{e':TypeId}(hS:∀m,S m→hs.blks.size≤m)(hT:∀m,Tx m→hs.blks.size≤m)(hTj:NotO Tx j)(B:h.has bo [t.v] tl)(hn:h.blks[l]?=some (note .busy))(hbl:bo≠l)(hbs:bo<hs.blks.size)(hls:l<hs.blks.size)(hsh:hs.blks.size≤h.blks.size)(lj:LeO hs.blks.size j)(V:GF E elem h S t j xs)(hx:E.has h Tx cs x)(hg:growOk Pg (xs.length+1) elem E.w=true)(bx:h.has k cs e')(hcs:1*Pg.cellsOf elem=cs.length)(hend:∀h',h'.blks[l]?=some (note .busy)→kcj l none h'=some (.bool true,h'.setBlk l (note .ready))) :
  Runs ((kbb Pg elem ((⟨some (.new k 0),1,.is 1⟩:Sl).v) h).bind fun p=>(kw Pg t p.1 p.2 elem E.w h).bind fun q=>(AV.asSl q.1).bind fun l12=>(q.2.puts (.new bo 0) [l12.v]).bind fun h13=>kcj l none h13) fun v h'=>v=.bool true∧Md (fun m=>m=bo∨m=l∨j=some m) h h'∧h'.blks[l]?=some (note .ready)∧∃(S:Fp)(t:Sl)(j:Option Nat),(∀m,S m→hs.blks.size≤m)∧h'.has bo [t.v] tl∧LeO hs.blks.size j∧GF E elem h' S t j (xs++[x]):=by
 refine Runs.step (kcd bx hcs) ?_;obtain⟨t',h3,e3,V3,u3⟩:=V.push (T:=Tx) hx hTj hg;refine Runs.step e3 (Runs.step (asSl_v _) ?_);have m3:Md (Fp.opt j) h h3:=u3.md fun k e=>e;have no:∀{m:Nat},m<hs.blks.size→¬Fp.opt j m:=fun hm e=>kdn hm lj _ e rfl;have B3:h3.has bo [t.v] tl:=m3.has B (no hbs);have n3:h3.blks[l]?=some (note .busy):=m3.get hn (no hls);refine Runs.puts B3 rfl fun h4 B4 u4=>?_;have n4:h4.blks[l]?=some (note .busy):=(u4.blk l (fun e=>hbl e.symm) (Array.getElem?_eq_some_iff.1 n3).1).trans n3;rw[hend _ n4];have u5:Upd h4 (h4.setBlk l (note .ready)) l:=AH.setBlk_Upd _;have hS':∀m,((Fp.or S Tx) m∧m<h.blks.size)→hs.blks.size≤m:=fun m x=>x.1.elim (hS m) (hT m);refine Runs.ret ⟨rfl,?_,AH.setBlk_get (Array.getElem?_eq_some_iff.1 n4).1,_,t',some h.blks.size,hS',B4.updr hbl u5,hsh,?_⟩
 ·refine((m3.mono fun m _ e=>.inr (.inr e)).trans (u4.md (.inl rfl))).trans (u5.md (.inr (.inl rfl)))
 ·exact(V3.upd u4 (fun x=>by have:=hS' _ x;omega) fun k e=>by cases e;omega).upd u5 (fun x=>by have:=hS' _ x;omega) fun k e=>by cases e;omega
theorem LpS.next{xs ys:List α}{h h1 h':AH}{j:Option Nat}(m1:Md (fun m=>m=bo∨m=l) hs h1)(lj:LeO hs.blks.size j)(m2:Md (fun m=>m=bo∨m=l∨j=some m) h1 h')(hn:h'.blks[l]?=some (note .ready))(o:∃(S:Fp)(t:Sl)(j:Option Nat),(∀m,S m→hs.blks.size≤m)∧h'.has bo [t.v] tl∧LeO hs.blks.size j∧GF E elem h' S t j ys):LpS E elem tl note hs bo l ys h' :=
 ⟨m1.next m2 fun m hm t=>t.elim .inl fun t=>t.elim .inr fun e=>absurd rfl (kdn hm lj _ e),hn,o⟩
end
noncomputable def prodC(qs:List Nat)(cs:List (List Nat))(l p:List Nat):List Nat:=l.foldl (fun p i=>kuz p (cs.getD i []) qs) p
end Go.Ab
