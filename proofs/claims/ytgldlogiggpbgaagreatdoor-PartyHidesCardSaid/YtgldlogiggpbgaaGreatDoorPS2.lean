/- Words and laws that the last text joins. -/
import Derived.Test.YtgldlogiggpbgaaGreatDoorPU1
import Derived.Test.YtgldlogiggpbgaaGreatDoorPAbsDra
import Derived.Test.YtgldlogiggpbgaaGreatDoorPAbsT
set_option linter.unusedVariables false
set_option linter.unusedSimpArgs false
set_option linter.unusedSectionVars false
set_option maxRecDepth 10000
namespace Go.Ab
open Go.Proofs Go.Num
@[reducible] def B:Nat:=18446744073709551616
theorem B2:2<=B:=by decide
def rt(xs:List Nat):Bool:=decide (xs.length<=64)&&(decide (xs.length=0)||!decide (xs.getD (xs.length-1) 0=0))
theorem kbp{xs:List Nat}{i:Nat}(h:i<xs.length):xs.getD i 0=xs[i]:=by simp[List.getD,h]
theorem rt_iff{xs:List Nat}:rt xs=true↔xs.length<=64/\Trim xs:=by
 unfold rt Trim;simp only[qcb,qby,qcc,qcl,qbx,List.length_eq_zero_iff];refine and_congr_right λ_=>?_;constructor
 ·rintro (h | h) y
  ·exact absurd h y
  ·rwa[List.getLast_eq_getElem,<- kbp]
 ·intro h;by_cases z:xs=[]
  ·exact .inl z
  ·right
   have:=h z;rwa[List.getLast_eq_getElem,<- kbp]at this
theorem Nats.last{h:AH}{s:Sl}{xs:List Nat}(n:Nats h s xs)(F:xs.length≠0):∃r,idx s.ref s.len (IntKind.wrap .i64 ((s.len:Int)-1)) 1=some r/\h.cell r=some (.int .u64 ((xs.getD (xs.length-1) 0:Nat):Int)):=by obtain⟨k,hk⟩:∃k,xs.length=k+1:=⟨xs.length-1,by omega⟩;have hs:=n.short;obtain⟨r,y,z⟩:=n.at (i:=k) (by omega);rw[n.len,hk]at y|-;rw[km3 (by omega)];refine⟨r,y,?_⟩;rw[z,show k+1-1=k from rfl,kbp (by omega)]
theorem kcf{h:AH}{s:Sl}{xs:List Nat}(n:Nats h s xs):go (.fn kb3 [s.v]) h=some (.bool (rt xs),h):=by
 rw[kbje];have F:=n.len;refine kci (λh1=>?_) (λh1=>?_)
 ·have h1:xs.length<=64:=by rw[qby]at h1;omega
  refine kci (λh2=>?_) (λh2=>?_)
  ·have h2:xs.length=0:=by rw[qby]at h2;omega
   simp[rt,h2]
  ·have h2:xs.length≠0:=by rw[qbx]at h2;omega
   obtain⟨r,y,z⟩:=n.last h2;simp[y,z,rt,h1];cases xs
   ·simp at h2
   ·simp
 ·have h1:¬xs.length<=64:=by rw[qbx]at h1;omega
  simp[rt,h1]
theorem kq3{h:AH}{s:Sl}{xs:List Nat}(n:Nats h s xs):go (.fn kj7 [s.v]) h=some (.bool (rt xs),h):=by
 rw[kbf4];have F:=n.len;refine kci (λh1=>?_) (λh1=>?_)
 ·have h1:xs.length<=64:=by rw[qby]at h1;omega
  refine kci (λh2=>?_) (λh2=>?_)
  ·have h2:xs.length=0:=by rw[qby]at h2;omega
   simp[rt,h2]
  ·have h2:xs.length≠0:=by rw[qbx]at h2;omega
   obtain⟨r,y,z⟩:=n.last h2;simp[y,z,rt,h1];cases xs
   ·simp at h2
   ·simp
 ·have h1:¬xs.length<=64:=by rw[qbx]at h1;omega
  simp[rt,h1]
theorem k43{h:AH}{s:Sl}{xs:List Nat}(n:Nats h s xs):∀(k:Nat),k<=xs.length->(∀i,k<=i->(K:i<xs.length)->xs[i]=0)->
  ∃s',go (.pt kbq kmt [(0,s.v),(3,.i (k:Int))]) h=some (s'.v,h)/\Nats h s' (digs B (num B xs))/\∀h0,Own h0 s->Own h0 s'
 | 0,hk,y=>by
  rw[kob];obtain⟨s',z,F,G⟩:=n.cut (l:=0) (n:=0) (qbr _) hk;have:=kkp B2 n.lt y hk (.inl rfl);simp at z;simp only[Int.natCast_zero,gt_iff_lt,Int.lt_irrefl,decide_false,cond_false,z,qbv];refine⟨s',rfl,?_,G⟩;rw[<- this]
  simpa using F
 | k+1,hk,y=>by
  rw[kob];obtain⟨r,z,F⟩:=n.at (i:=k) (by omega);have hs:=n.short;rw[km3 (by omega)];rw[show(decide (((k+1:Nat):Int)>0))=true from by rw[qby];omega];simp only[cond_true,z,F,qbv,kc];by_cases H:xs[k]=0
  ·rw[H,show(decide (((0:Nat):Int)=0))=true from rfl,cond_true];refine k43 n k (by omega) λi K I=>?_;rcases Nat.lt_or_ge k i with h1 | h1
   ·exact y i (by omega) I
   ·have:i=k:=by omega
    subst this;exact H
  ·obtain⟨s',G,Q,U⟩:=n.cut (l:=0) (n:=k+1) (by omega) hk;have V:=kkp B2 n.lt y hk (.inr ⟨by omega,by simpa using H⟩);rw[show(decide (((xs[k]:Nat):Int)=0))=false from by rw[qbx];omega];simp only[cond_false];rw[show cutSl s 0 ((k+1:Nat):Int) 1=some s' from G];refine⟨s',rfl,?_,U⟩;rw[<- V]
   simpa using Q
theorem kd0{h:AH}{s:Sl}{xs:List Nat}(n:Nats h s xs):∃s',go (.fn kbq [s.v]) h=some (s'.v,h)/\Nats h s' (digs B (num B xs))/\∀h0,Own h0 s->Own h0 s':=by rw[kso,n.len];exact k43 n xs.length (qbr _) λi h1 h2=>by omega
theorem kw6{n:Nat}(h:n<=8796093022208):growOk Pg n kf 1=true:=by
 unfold growOk;rw[kbm1,kcz];have h1:n*8<=ky:=by simp only[ky];omega
 have h2:n<=ky:=by simp only[ky];omega
 simp[h1,h2]
theorem khs{h:AH}{s:Sl}{xs:List Nat}(n:Nats h s xs)(G:xs.length<=8796093022208):∃s' h',go (.fn kfd [s.v]) h=some (s'.v,h')/\Nats h' s' xs/\Grow h h'/\Own h s':=by
 rw[kbi2];cases y:s.ref with
 | none =>
  have:xs=[]:=by
   cases xs with
   | nil=>rfl
   | cons x xs =>obtain⟨r,z,_⟩:=n.cells.get 0 (u64 x) rfl;rw[y]at z;cases z
  subst this;exact⟨_,_,rfl,qu h,qk h,qr h⟩
 | some r =>
  simp only[Option.isNone_some,cond_false,kcn];have n1:=n.grow (ql h (.cells [] kf));have F:=n1.cells;rw[<- kkz]at F;rw[kih F,n.len];simp only[qbv];have own:∀(m:Nat)(c:Cap),Own h ⟨some (.new h.blks.size 0),m,c⟩:=λm c r y=>by cases y;exact⟨_,_,rfl,qbr _⟩
  cases xs with
  | nil =>
   obtain⟨s',z,H,I⟩:=k4u (P:=Pg) (elem:=kf) (m:=1) (by omega) (qp (n:=1) (m:=0) (qm h [] kf) rfl);simp only[List.map_nil,List.length_nil,z,qbv,asSl_v];exact⟨s',_,rfl,⟨H,by simp,by simp⟩,ql _ _,I h (own 0 (.is 0))⟩
  | cons x xs =>rw[kiy (c:=0) rfl (by simp) (kw6 (by simpa using G)) (qp (n:=1) (m:=0) (qm h [] kf) rfl)];simp only[qbv,asSl_v];refine⟨_,_,rfl,⟨⟨rfl,by simp,λi v hv=>⟨_,rfl,by rw[qj,Nat.zero_add,AH.cell_push];exact hv⟩⟩,n.lt,n.short⟩,(ql _ _).trans (ql _ _),λr y=>?_⟩;cases y;exact⟨_,_,rfl,by simp⟩
def fromI(y:Bool)(xs:List Nat):Bool×List Nat:=if rt xs=true/\xs≠[]then(y,xs)else(false,[])
@[reducible] def nilI:List AV:=[.bool false,nV]
theorem kcb{h:AH}{s:Sl}{xs:List Nat}(n:Nats h s xs)(y:Bool):∃(s':Sl)(h':AH),go (.fn kbt [.bool y,s.v]) h=some (.agg [.bool (fromI y xs).1,s'.v],h')/\Nats h' s' (fromI y xs).2/\Grow h h'/\Own h s':=by
 rw[k7q];simp only[kcn];have F:=qm h nilI ku;have G:=ql h (.cells nilI ku);have n0:=n.grow G;rw[kcf n0];simp only[qbv,kc9,qj,Nat.zero_add];generalize h.push (.cells nilI ku)=h0 at *
 cases z:rt xs with
 | false =>
  rw[show fromI y xs=(false,[])from by simp[fromI,z]];refine⟨⟨none,0,.is 0⟩,h0.upd h.blks.size nilI ku,?_,qu _,G.upd (qbr _) _ _,qr h⟩;simp[F.puts_all,AH.cell_upd F]
 | true =>
  by_cases H:xs=[]
  ·rw[show fromI y xs=(false,[])from by simp[fromI,H]];have:s.len=0:=by rw[n.len,H];rfl
   refine⟨⟨none,0,.is 0⟩,h0.upd h.blks.size nilI ku,?_,qu _,G.upd (qbr _) _ _,qr h⟩;simp[F.puts_all,AH.cell_upd F,this]
  ·rw[show fromI y xs=(y,xs)from by simp[fromI,H,z]];have:s.len≠0:=by rw[n.len];simpa using H
   have Q:=(rt_iff.1 z).1;obtain⟨s',h',U,V,I,K⟩:=khs n0 (by omega);have b1:=I.has F;refine⟨s',h'.upd h.blks.size [.bool y,s'.v] ku,?_,?_,(G.trans I).upd (qbr _) _ _,λr W=>?_⟩
   ·simp[U,b1.puts_all,AH.cell_upd b1,this]
   ·exact V.upd K F.lt _ _
   ·exact K.of_le G r W
theorem ktn{h:AH}{x:Nat}(y:x<B):∃(s':Sl)(h':AH),go (.fn kfe [.int .u64 (x:Int)]) h=some (s'.v,h')/\Nats h' s' (digs B x)/\Grow h h'/\Own h s':=by rw[k63];simp only[kcn];have n0:Nats (h.push (.cells [u64 x] kf)) ⟨some (.new h.blks.size 0),1,.is 1⟩ [x]:=⟨qp (qm h [u64 x] kf) rfl,by simpa using y,by simp⟩;obtain⟨s',z,F,G⟩:=kd0 n0;rw[z];simp only[qbv,asSl_v];refine⟨s',_,rfl,by simpa[num]using F,ql _ _,G h λr H=>by cases H;exact⟨_,_,rfl,qbr _⟩⟩
def ofI(n:Int):Bool×List Nat:=fromI (decide (n<0)) (digs B n.natAbs)
theorem kbcl{h:AH}{n:Int}(h1:-9223372036854775808<=n)(h2:n<=9223372036854775807):∃(s':Sl)(h':AH),go (.fn kpw [.i n]) h=some (.agg [.bool (ofI n).1,s'.v],h')/\Nats h' s' (ofI n).2/\Grow h h'/\Own h s':=by
 rw[k8c];simp only[kcn];have V:=qm h nilI ku;have W:=ql h (.cells nilI ku);generalize h.push (.cells nilI ku)=h0 at *
 have key:∀(y:Bool)(x:Nat),x<B->fromI y (digs B x)=ofI n->∃(s':Sl)(h':AH),
   ((go (.fn kfe [.int .u64 (x:Int)]) h0).bind λZ =>
    ((some Z.1).bind AV.asSl).bind λl4 =>
    (go (.fn kbt [.bool y,l4.v]) Z.2).bind λq5 =>
    (AV.asAgg q5.1).bind λz =>
    cond (Nat.beq z.length 2) (
    ((z[0]?).bind AV.asBool).bind λb7 =>
    ((z[1]?).bind AV.asSl).bind λl8 =>
    (q5.2.puts (.new h.blks.size 0) [.bool b7,l8.v]).bind λI =>
    ((I.cell ((Ref.new h.blks.size 0).add 0)).bind AV.asBool).bind λK =>
    ((I.cell ((Ref.new h.blks.size 0).add 1)).bind AV.asSl).bind λQ =>
    some (AV.agg [.bool K,Q.v],I)) none)=some (AV.agg [.bool (ofI n).1,s'.v],h')/\Nats h' s' (ofI n).2/\Grow h h'/\Own h s':=by
  intro y x F he;obtain⟨s1,aa,e1,n1,G,o1⟩:=ktn (h:=h0) F;obtain⟨s2,U,e2,n2,g2,o2⟩:=kcb n1 y;rw[he]at e2 n2;have b2:=(G.trans g2).has V;refine⟨s2,U.upd h.blks.size [.bool (ofI n).1,s2.v] ku,?_,n2.upd o2 (G.has V).lt _ _,(W.trans (G.trans g2)).upd (qbr _) _ _,o2.of_le (W.trans G)⟩;simp[e1,e2,b2.puts_all,AH.cell_upd b2]
 by_cases H:n<0
 ·rw[show decide (n<0)=true from qbz H,cond_true]
  have F:IntKind.wrap .u64 (0-IntKind.wrap .u64 n)=((n.natAbs:Nat):Int):=by rw[wrapU,wrapU];omega
  rw[F];exact key true n.natAbs (by show _<18446744073709551616;omega) (by simp[ofI,H])
 ·rw[show decide (n<0)=false from qb0 H,cond_false]
  have F:IntKind.wrap .u64 n=((n.natAbs:Nat):Int):=by rw[wrapU];omega
  rw[F];exact key false n.natAbs (by show _<18446744073709551616;omega) (by simp[ofI,H])
def rtI(y:Bool)(xs:List Nat):Bool:=rt xs&&(!y||decide (xs≠[]))
theorem kx4{h:AH}{s:Sl}{xs:List Nat}(n:Nats h s xs)(y:Bool):∃h',go (.fn kn3 [.agg [.bool y,s.v]]) h=some (.bool (rtI y xs),h')/\Grow h h':=by
 rw[kbpb];simp only[kcn];have F:=qm h [.bool y,s.v] ku;have z:=ql h (.cells [.bool y,s.v] ku);have n0:=n.grow z;have G:=n.len;generalize h.push (.cells [.bool y,s.v] ku)=h0 at *
 refine⟨h0,?_,z⟩;simp[F.cell,kcf n0,rtI];cases rt xs<;>cases y<;>simp[G];cases xs<;>simp
theorem k1k{h:AH}{s t:Sl}{xs:List Nat}(n:Nats h s xs)(m:Nats h t xs):∀(k i:Nat),i+k=xs.length->
  go (.pt kjk kri [(0,s.v),(1,t.v),(5,.i (i:Int))]) h=some (.bool true,h)
 | 0,i,y=>by
  rw[k39,n.len,show decide ((i:Int)<(xs.length:Int))=false from by rw[qbx];omega];rfl
 | k+1,i,y=>by have hs:=n.short;obtain⟨r,z,F⟩:=n.at (i:=i) (by omega);obtain⟨q,G,H⟩:=m.at (i:=i) (by omega);rw[k39,show decide ((i:Int)<(s.len:Int))=true from by rw[qby,n.len];omega,cond_true,z,G];simp only[qbv,F,H,kc,decide_true,Bool.not_true,cond_false];rw[ki (by omega)];exact k1k n m k (i+1) (by omega)
theorem kbj2{h:AH}{s t:Sl}{xs:List Nat}(n:Nats h s xs)(m:Nats h t xs):go (.fn kjk [s.v,t.v]) h=some (.bool true,h):=by rw[kbgw,n.len,m.len];simp only[decide_true,Bool.not_true,cond_false];exact k1k n m xs.length 0 (by omega)
structure Rows(h:AH)(s:Sl)(rows:List (Sl×List Nat)):Prop where
 cells:Cells h s 1 (rows.map λp=>p.1.v)
 each:∀p∈rows,Nats h p.1 p.2
 short:rows.length<=9223372036854775807
theorem Rows.len{h:AH}{s:Sl}{rows:List (Sl×List Nat)}(n:Rows h s rows):s.len=rows.length:=by
 have:=n.cells.len
 simpa using this
theorem Rows.at{h:AH}{s:Sl}{rows:List (Sl×List Nat)}(n:Rows h s rows){i:Nat}(y:i<rows.length):∃r,idx s.ref s.len (i:Int) 1=some r/\h.cell r=some (rows[i].1).v:=by obtain⟨r,z,F⟩:=n.cells.get i (rows[i].1).v (by simp[y]);refine⟨r.add i,?_,F⟩;rw[z,keq _ _ _ _ (by omega) (by rw[n.len];omega)];simp
theorem Rows.two{h:AH}{a b:Sl}{xs ys:List Nat}(n:Nats h a xs)(m:Nats h b ys):Rows (h.push (.cells [a.v,b.v] kj)) ⟨some (.new h.blks.size 0),2,.is 2⟩ [(a,xs),(b,ys)]:=by
 refine⟨qp (qm _ _ _) rfl,λp hp=>?_,by simp⟩;have g:=ql h (.cells [a.v,b.v] kj);simp at hp;rcases hp with rfl | rfl
 ·exact n.grow g
 ·exact m.grow g
theorem k8v{h:AH}{cs:List AV}(a:ArgT Pg h kj cs):∃(s:Sl)(xs:List Nat),cs=[s.v]/\Nats h s xs:=by
 rcases a.slice k3x with rfl | ⟨I,len,cap,rfl,h1,h2,Q⟩
 ·exact⟨⟨none,0,.is 0⟩,[],rfl,qu h⟩
 ·rw[kkz]at Q
  have key:∀i,i<len->∃x:Nat,h.cell (.old (I.add i))=some (u64 x)/\x<18446744073709551616:=by
   intro i y;obtain⟨es,z,V⟩:=Q i y;obtain⟨x,rfl,W⟩:=V.int kvz;rw[Nat.mul_one]at z
   have F:0<=x/\x<18446744073709551616:=by
    have:0<=x/\x<=18446744073709551615:=by simpa[Lit.wf,IntKind.has,IntKind.min,IntKind.max,IntKind.bits,IntKind.signed]using W
    omega
   refine⟨x.toNat,?_,by omega⟩;show _=some (AV.int .u64 ((x.toNat:Nat):Int));rw[show((x.toNat:Nat):Int)=x from by omega];simp only[AH.gets,qbw,Option.map_eq_some_iff]at z;obtain⟨v,Z,l,e4,U⟩:=z;simp only[List.cons.injEq]at U;rw[Z,U.1]
  have mk:∀n,n<=len->∃xs:List Nat,xs.length=n/\∀(i:Nat)(y:i<xs.length),h.cell (.old (I.add i))=some (u64 xs[i])/\xs[i]<18446744073709551616:=by
   intro n
   induction n with
   | zero=>exactλ_=>⟨[],rfl,λi y=>by simp at y⟩
   | succ n ih =>
    intro hn;obtain⟨xs,H,F⟩:=ih (by omega);obtain⟨x,k1,k2⟩:=key n (by omega);refine⟨xs++[x],by simp[H],λi y=>?_⟩;simp only[qb2,List.length_singleton]at y;by_cases G:i<xs.length
    ·rw[List.getElem_append_left G];exact F i G
    ·have:i=n:=by omega
     subst this;rw[List.getElem_append_right (by omega)];simp only[H,Nat.sub_self,List.getElem_singleton];exact⟨k1,k2⟩
  obtain⟨xs,H,F⟩:=mk len (qbr _);refine⟨⟨some (.old I),len,.is cap⟩,xs,rfl,⟨⟨h1,by simp[H],λi v hv=>?_⟩,λx K=>?_,?_⟩⟩
  ·rw[List.getElem?_map,Option.map_eq_some_iff]at hv;obtain⟨x,z,rfl⟩:=hv;obtain⟨y,rfl⟩:=qcg.1 z;exact⟨_,rfl,(F i y).1⟩
  ·obtain⟨i,y,rfl⟩:=List.getElem_of_mem K;exact(F i y).2
  ·have:maxLen=9223372036854775807:=by decide
   omega
theorem kyv{b:Nat}(hb:1<=b){xs:List Nat}(y:∀x∈xs,x<b){k:Nat}(hk:k<=xs.length):num b (xs.take k)<b^k:=by have:=num_lt (b:=b) hb (xs:=xs.take k) λx h=>y x (List.mem_of_mem_take h);rwa[qci,Nat.min_eq_left hk]at this
theorem k3m{b:Nat}(hb:1<=b){xs ys:List Nat}(y:∀x∈xs,x<b)(z:∀x∈ys,x<b){k:Nat}(h1:k<xs.length)(h2:k<ys.length) :
  cmp (num b (xs.take (k+1))) (num b (ys.take (k+1)))=if xs[k]<ys[k]then -1 else if xs[k]=ys[k]then cmp (num b (xs.take k)) (num b (ys.take k))else 1:=by
 rw[kc0 b h1,kc0 b h2];exact kbau (kyv hb y (by omega)) (kyv hb z (by omega))
theorem k0m{b:Nat}(hb:2<=b){xs ys:List Nat}(y:∀x∈xs,x<b)(z:∀x∈ys,x<b)(F:Trim xs)(ty:Trim ys)(h:xs.length≠ys.length):cmp (num b xs) (num b ys)=if xs.length<ys.length then -1 else 1:=by
 rcases Nat.lt_or_ge xs.length ys.length with h1 | h1
 ·have:=kti hb y z ty h1;simp[cmp,this,h1]
 ·have:=kti hb z y F (by omega);rw[if_neg (by omega)];unfold cmp;rw[if_neg (by omega),if_neg (by omega)]
theorem kyh{h:AH}{s t:Sl}{xs ys:List Nat}(n:Nats h s xs)(m:Nats h t ys)(y:xs.length=ys.length):∀(k:Nat),k<=xs.length->
  go (.pt kfa kqf [(0,s.v),(1,t.v),(5,.i ((k:Int)-1))]) h=some (.i (cmp (num B (xs.take k)) (num B (ys.take k))),h)
 | 0,hk=>by
  rw[k1o];rfl
 | k+1,hk=>by
  have hs:=n.short;obtain⟨r,z,F⟩:=n.at (i:=k) (by omega);obtain⟨q,G,H⟩:=m.at (i:=k) (by omega);rw[k1o,show(((k+1:Nat):Int)-1)=(k:Int)from by omega,show decide ((k:Int)>=0)=true from by rw[qby];omega];simp only[cond_true,z,G,F,H,qbv,kc];rw[k3m (by decide) n.lt m.lt (by omega) (by omega),wrap64 (n:=(k:Int)-1) (by omega) (by omega),kyh n m y k (by omega)];by_cases h1:xs[k]=ys[k]'(by omega)
  ·rw[show decide (((xs[k]:Nat):Int)=((ys[k]'(by omega):Nat):Int))=true from by rw[qby];omega];simp[h1]
  ·rw[show decide (((xs[k]:Nat):Int)=((ys[k]'(by omega):Nat):Int))=false from by rw[qbx];omega];by_cases h2:xs[k]<ys[k]'(by omega)
   ·rw[show decide (((xs[k]:Nat):Int)<((ys[k]'(by omega):Nat):Int))=true from by rw[qby];omega];simp[h2]
   ·rw[show decide (((xs[k]:Nat):Int)<((ys[k]'(by omega):Nat):Int))=false from by rw[qbx];omega];simp[h1,h2]
theorem krs{h:AH}{s t:Sl}{xs ys:List Nat}(n:Nats h s xs)(m:Nats h t ys)(z:Trim xs)(ty:Trim ys):go (.fn kfa [s.v,t.v]) h=some (.i (cmp (num B xs) (num B ys)),h):=by
 have hs:=n.short;have F:=m.short;rw[kbe8,n.len,m.len];by_cases y:xs.length=ys.length
 ·rw[show decide ((xs.length:Int)=(ys.length:Int))=true from by rw[qby];omega];simp only[Bool.not_true,cond_false];rw[wrap64 (by omega) (by omega),kyh n m y xs.length (qbr _),List.take_length,y,List.take_length]
 ·rw[show decide ((xs.length:Int)=(ys.length:Int))=false from by rw[qbx];omega,k0m B2 n.lt m.lt z ty y];by_cases h1:xs.length<ys.length
  ·rw[show decide ((xs.length:Int)<(ys.length:Int))=true from by rw[qby];omega];simp[h1]
  ·rw[show decide ((xs.length:Int)<(ys.length:Int))=false from by rw[qbx];omega];simp[h1]
@[reducible] def D:Nat:=65536
theorem D2:2<=D:=by decide
theorem k1u{h:AH}{s t:Sl}{xs ys:List Nat}(n:Nats h s xs)(m:Nats h t ys)(y:∀x∈xs,x<D)(z:∀x∈ys,x<D)(F:xs.length=ys.length):∀(k:Nat),k<=xs.length->
  go (.pt kh7 kp4 [(0,s.v),(1,t.v),(5,.i ((k:Int)-1))]) h=some (.i (cmp (num D (xs.take k)) (num D (ys.take k))),h)
 | 0,hk=>by
  rw[k5h];rfl
 | k+1,hk=>by
  have hs:=n.short;obtain⟨r,G,H⟩:=n.at (i:=k) (by omega);obtain⟨q,I,K⟩:=m.at (i:=k) (by omega);rw[k5h,show(((k+1:Nat):Int)-1)=(k:Int)from by omega,show decide ((k:Int)>=0)=true from by rw[qby];omega];simp only[cond_true,G,I,H,K,qbv,kc];rw[k3m (by decide) y z (by omega) (by omega),wrap64 (n:=(k:Int)-1) (by omega) (by omega),k1u n m y z F k (by omega)];by_cases h2:xs[k]<ys[k]'(by omega)
  ·rw[show decide (((xs[k]:Nat):Int)<((ys[k]'(by omega):Nat):Int))=true from by rw[qby];omega];simp[h2]
  ·rw[show decide (((xs[k]:Nat):Int)<((ys[k]'(by omega):Nat):Int))=false from by rw[qbx];omega];by_cases h1:xs[k]=ys[k]'(by omega)
   ·rw[show decide (((xs[k]:Nat):Int)>((ys[k]'(by omega):Nat):Int))=false from by rw[qbx];omega];simp[h1]
   ·rw[show decide (((xs[k]:Nat):Int)>((ys[k]'(by omega):Nat):Int))=true from by rw[qby];omega];simp[h1,h2]
theorem kbcy{h:AH}{s t:Sl}{xs ys:List Nat}(n:Nats h s xs)(m:Nats h t ys)(z:∀x∈xs,x<D)(F:∀x∈ys,x<D)(G:Trim xs)(ty:Trim ys):go (.fn kh7 [s.v,t.v]) h=some (.i (cmp (num D xs) (num D ys)),h):=by
 have hs:=n.short;have H:=m.short;rw[kbcv,n.len,m.len];by_cases y:xs.length=ys.length
 ·rw[show decide ((xs.length:Int)=(ys.length:Int))=true from by rw[qby];omega];simp only[Bool.not_true,cond_false];rw[wrap64 (by omega) (by omega),k1u n m z F y xs.length (qbr _),List.take_length,y,List.take_length]
 ·rw[show decide ((xs.length:Int)=(ys.length:Int))=false from by rw[qbx];omega,k0m D2 z F G ty y];by_cases h1:xs.length<ys.length
  ·rw[show decide ((xs.length:Int)<(ys.length:Int))=true from by rw[qby];omega];simp[h1]
  ·rw[show decide ((xs.length:Int)<(ys.length:Int))=false from by rw[qbx];omega];simp[h1]
theorem k6i{h:AH}{s:Sl}{xs:List Nat}(n:Nats h s xs)(G:∀x∈xs,x<D):∀(k:Nat),k<=xs.length->(∀i,k<=i->(Q:i<xs.length)->xs[i]=0)->
  ∃s',go (.pt kdm kp3 [(0,s.v),(3,.i (k:Int))]) h=some (s'.v,h)/\Nats h s' (digs D (num D xs))/\∀h0,Own h0 s->Own h0 s'
 | 0,hk,z=>by
  rw[k2v];obtain⟨s',F,H,I⟩:=n.cut (l:=0) (n:=0) (qbr _) hk;have:=kkp D2 G z hk (.inl rfl);simp at F;simp only[Int.natCast_zero,gt_iff_lt,Int.lt_irrefl,decide_false,cond_false,F,qbv];refine⟨s',rfl,?_,I⟩;rw[<- this]
  simpa using H
 | k+1,hk,z=>by
  rw[k2v];obtain⟨r,F,H⟩:=n.at (i:=k) (by omega);have hs:=n.short;rw[km3 (by omega)];rw[show(decide (((k+1:Nat):Int)>0))=true from by rw[qby];omega];simp only[cond_true,F,H,qbv,kc];by_cases y:xs[k]=0
  ·rw[y,show(decide (((0:Nat):Int)=0))=true from rfl,cond_true];refine k6i n G k (by omega) λi Q K=>?_;rcases Nat.lt_or_ge k i with h1 | h1
   ·exact z i (by omega) K
   ·have:i=k:=by omega
    subst this;exact y
  ·obtain⟨s',I,U,V⟩:=n.cut (l:=0) (n:=k+1) (by omega) hk;have W:=kkp D2 G z hk (.inr ⟨by omega,by simpa using y⟩);rw[show(decide (((xs[k]:Nat):Int)=0))=false from by rw[qbx];omega];simp only[cond_false];rw[show cutSl s 0 ((k+1:Nat):Int) 1=some s' from I];refine⟨s',rfl,?_,V⟩;rw[<- W]
   simpa using U
theorem kjn{h:AH}{s:Sl}{xs:List Nat}(n:Nats h s xs)(y:∀x∈xs,x<D):∃s',go (.fn kdm [s.v]) h=some (s'.v,h)/\Nats h s' (digs D (num D xs))/\∀h0,Own h0 s->Own h0 s':=by rw[kbk2,n.len];exact k6i n y xs.length (qbr _) λi h1 h2=>by omega
theorem Mine.push_u64{h0 h:AH}{s:Sl}{ds:List Nat}(M:Mine h0 h s kf 1 (ds.map u64))(x:Nat)(F:ds.length<8796093022208) :
  ∃s' h',kx Pg s [u64 x] 1 kf 1 h=some (s'.v,h')/\Mine h0 h' s' kf 1 ((ds++[x]).map u64):=by
 have:s.len=ds.length:=by simpa using M.cells.len
 obtain⟨s',h',y,G,z,H⟩:=M.append (n:=1) (cs:=[u64 x]) (by omega) rfl (kw6 (by rw[this];omega));exact⟨s',h',y,by simpa using z⟩
theorem k4b{h0:AH}{s:Sl}(i:Nat):∀(k j:Nat),j+k=4->∀{h:AH}{d:Sl}{ds:List Nat}{x:Nat},Mine h0 h d kf 1 (ds.map u64)->ds.length<1099511627776+j->x<B->
  ∃y h',go (.pt kcw koq [(0,s.v),(3,d.v),(4,.i (i:Int)),(5,.int .u64 (x:Int)),(6,.i (j:Int))]) h =
   go (.pt kcw kmd [(0,s.v),(3,Sl.v y),(4,.i (IntKind.wrap .i64 ((i:Int)+1)))]) h'/\Mine h0 h' y kf 1 ((ds++(dig4 x).take k).map u64)
 | 0,j,z,h,d,ds,x,M,G,F=>by
  rw[k1y,show decide ((j:Int)<4)=false from by rw[qbx];omega];exact⟨d,h,rfl,by simpa using M⟩
 | k+1,j,z,h,d,ds,x,M,G,F=>by
  rw[k1y,show decide ((j:Int)<4)=true from by rw[qby];omega,cond_true];simp only[kcn];have H:Int.tmod (x:Int) 65536=((x%65536:Nat):Int):=by rw[Int.tmod_eq_emod_of_nonneg (by omega)];omega
  have I:IntKind.wrap .u64 (Int.tdiv (x:Int) 65536)=((x/65536:Nat):Int):=by rw[Int.tdiv_eq_ediv_of_nonneg (by omega),wrapU];have:x<18446744073709551616:=F;omega
  have c:Cells (h.push (.cells [u64 (x%65536)] kf)) ⟨some (.new h.blks.size 0),1,.is 1⟩ (Pg.cellsOf kf) [u64 (x%65536)]:=by rw[kkz];exact qp (qm h [u64 (x%65536)] kf) rfl
  rw[H,I,kih c];simp only[qbv];obtain⟨s',h',K,Q⟩:=(M.grow' (ql h (.cells [u64 (x%65536)] kf))).push_u64 (x%65536) (by omega);rw[K];simp only[qbv,asSl_v];rw[ki (by omega)];obtain⟨y,h2,U,V⟩:=k4b i k (j+1) (by omega) (x:=x/65536) Q (by simp;omega) (by have:x<18446744073709551616:=F;show _<18446744073709551616;omega);refine⟨y,h2,U,?_⟩
  have:(dig4 x).take (k+1)=x%65536::(dig4 (x/65536)).take k:=by
   match k,z with
   | 0,_=>rfl
   | 1,_=>rfl
   | 2,_=>rfl
   | 3,_=>rfl
   | k+4,z=>omega
  rw[this]
  simpa using V
theorem k2y{h0:AH}{s:Sl}{xs:List Nat}(n:Nats h0 s xs)(U:xs.length<=1073741824):∀(k i:Nat),i+k=xs.length->∀{h:AH}{d:Sl},Mine h0 h d kf 1 (((xs.take i).flatMap dig4).map u64)->
  ∃(H:Sl)(h':AH),go (.pt kcw kmd [(0,s.v),(3,d.v),(4,.i (i:Int))]) h=some (H.v,h')/\Nats h' H (digs D (num B xs))/\Grow h0 h'/\Own h0 H
 | 0,i,V,h,d,M=>by
  rw[k4l,n.len,show decide ((i:Int)<(xs.length:Int))=false from by rw[qbx];omega,cond_false];rw[List.take_of_length_le (by omega)]at M
  have z:∀(l:List Nat),(l.flatMap dig4).length=l.length*4:=by
   intro l
   induction l with
   | nil=>rfl
   | cons a l ih=>rw[List.flatMap_cons,qb2,ih];simp[dig4];omega
  have G:∀x∈xs.flatMap dig4,x<D:=by intro x F;obtain⟨y,_,W⟩:=List.mem_flatMap.1 F;simp[dig4]at W;show x<65536;omega
  have N:Nats h d (xs.flatMap dig4):=⟨M.cells,λx F=>by have:x<65536:=G x F;omega,by rw[z];omega⟩;obtain⟨s',I,K,Q⟩:=kjn N G;rw[I];simp only[qbv,asSl_v];refine⟨s',h,rfl,?_,M.grow,Q h0 M.own_of⟩;rwa[k8e (c:=B) (k:=4) (by decide) λx F=>kbb6 (n.lt x F)]at K
 | k+1,i,V,h,d,M=>by
  have Z:=n.grow M.grow;obtain⟨r,I,K⟩:=Z.at (i:=i) (by omega);rw[k4l,show decide ((i:Int)<(s.len:Int))=true from by rw[qby,n.len];omega,cond_true,I];simp only[qbv,K,kc]
  have z:((xs.take i).flatMap dig4).length=(xs.take i).length*4:=by
   generalize xs.take i=l
   induction l with
   | nil=>rfl
   | cons a l ih=>rw[List.flatMap_cons,qb2,ih];simp[dig4];omega
  obtain⟨H,h',Q,e4⟩:=k4b (s:=s) i 4 0 (by omega) (x:=xs[i]'(by omega)) M (by rw[z,qci];omega) (n.lt _ (qb5 _));rw[show(0:Int)=((0:Nat):Int)from rfl,Q,ki (by omega)];refine k2y n U k (i+1) (by omega) ?_;rw[qck (by omega),List.flatMap_append]
  simpa[dig4]using e4
theorem kq6{h:AH}{s:Sl}{xs:List Nat}(n:Nats h s xs)(z:xs.length<=1073741824):∃(y:Sl)(h':AH),go (.fn kcw [s.v]) h=some (y.v,h')/\Nats h' y (digs D (num B xs))/\Grow h h'/\Own h y:=by rw[k73];exact k2y n z xs.length 0 (by omega) (Mine.nil h kf 1)
theorem kbde{h:AH}{s:Sl}{xs:List Nat}(n:Nats h s xs):go (.fn ke7 [s.v]) h=some (.bool (!rt xs),h):=by rw[kbdy,kcf n];rfl
theorem k3o{h:AH}{s:Sl}{rows:List (Sl×List Nat)}(n:Rows h s rows):∀(k i:Nat),i+k=rows.length->
  ∃j:Int,go (.pt kbi kb7 [(0,s.v),(1,.func (.func ke7) [] []),(7,.i (rows.length:Int)),(8,.i (i:Int))]) h=some (.i j,h)/\
   (j>=0↔(rows.drop i).all (λp=>rt p.2)=false)
 | 0,i,y=>by
  rw[k3p,show decide ((i:Int)<(rows.length:Int))=false from by rw[qbx];omega,List.drop_of_length_le (by omega)];exact⟨-1,rfl,by simp⟩
 | k+1,i,y=>by
  have hs:=n.short;obtain⟨r,z,F⟩:=n.at (i:=i) (by omega);have hp:=n.each rows[i] (qb5 _);rw[k3p,show decide ((i:Int)<(rows.length:Int))=true from by rw[qby];omega,cond_true,z];simp only[qbv,F,asSl_v,kbde hp,kc9];rw[qcj (by omega),List.all_cons,ki (by omega)];cases I:rt (rows[i].2)with
  | false=>exact⟨(i:Int),rfl,by simp⟩
  | true =>obtain⟨j,G,H⟩:=k3o n k (i+1) (by omega);exact⟨j,G,by simpa using H⟩
theorem kle{h:AH}{s:Sl}{rows:List (Sl×List Nat)}(n:Rows h s rows):go (.fn khp [s.v]) h=some (.bool (rows.all λp=>rt p.2),h):=by
 obtain⟨j,F,y⟩:=k3o n rows.length 0 (by omega);rw[kbfu,k9i,kbku,n.len];rw[show(0:Int)=((0:Nat):Int)from rfl,F];simp only[qbv,kc,kc9];rw[List.drop_zero]at y;cases z:rows.all λp=>rt p.2 with
 | false=>rw[z]at y;simp at y;simp;omega
 | true=>rw[z]at y;simp at y;simp;omega
def cmpN(xs ys:List Nat):Int:=if rt xs=true/\rt ys=true then cmp (num B xs) (num B ys)else 0
theorem keg{h:AH}{s t:Sl}{xs ys:List Nat}(n:Nats h s xs)(m:Nats h t ys):∃h',go (.fn kcm [s.v,t.v]) h=some (.i (cmpN xs ys),h')/\Grow h h':=by
 rw[kbjj];simp only[kcn];have r:=Rows.two n m;have g:=ql h (.cells [s.v,t.v] kj);generalize h.push (.cells [s.v,t.v] kj)=h0 at *
 refine⟨h0,?_,g⟩;rw[kle r];simp only[qbv,kc9,List.all_cons,List.all_nil,Bool.and_true];cases y:rt xs with
 | false=>simp[cmpN,y]
 | true =>
  cases z:rt ys with
  | false=>simp[cmpN,z]
  | true =>simp only[Bool.and_self,Bool.not_true,cond_false];rw[krs (n.grow g) (m.grow g) (rt_iff.1 y).2 (rt_iff.1 z).2];simp[cmpN,y,z]
structure IRows(h:AH)(s:Sl)(rows:List (Bool×Sl×List Nat)):Prop where
 cells:Cells h s 2 (rows.flatMap λp=>[.bool p.1,p.2.1.v])
 each:∀p∈rows,Nats h p.2.1 p.2.2
 short:rows.length<=9223372036854775807
theorem IRows.grow{h h':AH}(g:Grow h h'){s:Sl}{rows:List (Bool×Sl×List Nat)}(n:IRows h s rows):IRows h' s rows:=⟨n.cells.grow g,λp hp=>(n.each p hp).grow g,n.short⟩
theorem k08:∀(rows:List (Bool×Sl×List Nat))(i:Nat)(y:i<rows.length),
  (rows.flatMap λp=>[AV.bool p.1,p.2.1.v])[i*2]?=some (AV.bool rows[i].1)/\(rows.flatMap λp=>[AV.bool p.1,p.2.1.v])[i*2+1]?=some rows[i].2.1.v
 | [],i,y=>by simp at y
 | p::rows,0,y=>by simp
 | p::rows,i+1,y=>by
  have:=k08 rows i (by simpa using y);rw[show(i+1)*2=i*2+2 from by omega]
  simpa using this
theorem IRows.len{h:AH}{s:Sl}{rows:List (Bool×Sl×List Nat)}(n:IRows h s rows):s.len=rows.length:=by
 have:=n.cells.len
 have y:(rows.flatMap λp=>[AV.bool p.1,p.2.1.v]).length=rows.length*2:=by
  generalize rows=l
  induction l with
  | nil=>rfl
  | cons a l ih=>rw[List.flatMap_cons,qb2,ih];simp;omega
 omega
theorem IRows.at{h:AH}{s:Sl}{rows:List (Bool×Sl×List Nat)}(n:IRows h s rows){i:Nat}(F:i<rows.length):∃r,idx s.ref s.len (i:Int) 2=some r/\h.cell (r.add 0)=some (.bool rows[i].1)/\h.cell (r.add 1)=some rows[i].2.1.v:=by obtain⟨G,p2⟩:=k08 rows i F;obtain⟨r,y,H⟩:=n.cells.get _ _ G;obtain⟨K,z,I⟩:=n.cells.get _ _ p2;rw[y]at z;cases z;refine⟨r.add (i*2),?_,by simpa using H,by rw[Ref.add_add];exact I⟩;rw[y,keq _ _ _ _ (by omega) (by rw[n.len];omega)];simp
theorem kbnj{h:AH}{s:Sl}{xs:List Nat}(n:Nats h s xs)(y:Bool):∃h',go (.fn kex [.agg [.bool y,s.v]]) h=some (.bool (!rtI y xs),h')/\Grow h h':=by
 rw[k7o];simp only[kcn];have F:=qm h [.bool y,s.v] ku;have z:=ql h (.cells [.bool y,s.v] ku);generalize h.push (.cells [.bool y,s.v] ku)=h0 at *
 obtain⟨h1,G,H⟩:=kx4 (n.grow z) y;exact⟨h1,by simp[F.cell,G],z.trans H⟩
theorem k01{s:Sl}{rows:List (Bool×Sl×List Nat)}:∀(k i:Nat),i+k=rows.length->∀{h:AH},IRows h s rows->
  ∃(j:Int)(h':AH),go (.pt kj6 kr9 [(0,s.v),(1,.func (.func kex) [] []),(7,.i (rows.length:Int)),(8,.i (i:Int))]) h=some (.i j,h')/\
   (j>=0↔(rows.drop i).all (λp=>rtI p.1 p.2.2)=false)/\Grow h h'
 | 0,i,z,h,n=>by
  rw[k6j,show decide ((i:Int)<(rows.length:Int))=false from by rw[qbx];omega,List.drop_of_length_le (by omega)];exact⟨-1,h,rfl,by simp,qk h⟩
 | k+1,i,z,h,n=>by
  have hs:=n.short;obtain⟨r,F,G,H⟩:=n.at (i:=i) (by omega);have hp:=n.each rows[i] (qb5 _);obtain⟨h1,I,y⟩:=kbnj hp rows[i].1;rw[k6j,show decide ((i:Int)<(rows.length:Int))=true from by rw[qby];omega,cond_true,F];simp only[qbv,G,H,asSl_v,kc9,I];rw[qcj (by omega),List.all_cons,ki (by omega)];cases V:rtI rows[i].1 (rows[i].2.2)with
  | false=>exact⟨(i:Int),h1,rfl,by simp,y⟩
  | true =>obtain⟨j,h2,K,Q,U⟩:=k01 k (i+1) (by omega) (n.grow y);exact⟨j,h2,K,by simpa using Q,y.trans U⟩
theorem kbaq{h:AH}{s:Sl}{rows:List (Bool×Sl×List Nat)}(n:IRows h s rows):∃h',go (.fn kjj [s.v]) h=some (.bool (rows.all λp=>rtI p.1 p.2.2),h')/\Grow h h':=by
 obtain⟨j,h',F,y,g⟩:=k01 rows.length 0 (by omega) n;refine⟨h',?_,g⟩;rw[k7h,kbi0,kbb9,n.len];rw[show(0:Int)=((0:Nat):Int)from rfl,F];simp only[qbv,kc,kc9];rw[List.drop_zero]at y;cases z:rows.all λp=>rtI p.1 p.2.2 with
 | false=>rw[z]at y;simp at y;simp;omega
 | true=>rw[z]at y;simp at y;simp;omega
def negI(y:Bool)(xs:List Nat):Bool×List Nat:=if rtI y xs=true then fromI (!y) xs else(false,[])
theorem kbhs{h:AH}{s:Sl}{xs:List Nat}(n:Nats h s xs)(y:Bool):∃(s':Sl)(h':AH),go (.fn ksm [.agg [.bool y,s.v]]) h=some (.agg [.bool (negI y xs).1,s'.v],h')/\Nats h' s' (negI y xs).2/\Grow h h'/\Own h s':=by
 rw[kbo2];simp only[kcn];have W:=qm h [.bool y,s.v] ku;have F:=ql h (.cells [.bool y,s.v] ku);generalize h.push (.cells [.bool y,s.v] ku)=h0 at *
 have Z:=qm h0 nilI ku;have I:=ql h0 (.cells nilI ku);generalize h0.push (.cells nilI ku)=h1 at *
 have b1:=I.has W;have n1:=n.grow (F.trans I);obtain⟨h2,e2,G⟩:=kx4 n1 y;have H:=G.has Z;have b2:=G.has b1;have z:=(F.trans I).trans G;obtain⟨s3,h3,e3,n3,K,Q⟩:=kcb (n1.grow G) (!y);have U:=K.has H;simp only[qj,Nat.zero_add,b1.cell,b2.cell,List.getElem?_cons_zero,List.getElem?_cons_succ,qbv,kc9,asSl_v,e2];cases V:rtI y xs with
 | false =>
  rw[show negI y xs=(false,[])from by simp[negI,V]];refine⟨⟨none,0,.is 0⟩,h2.upd h0.blks.size nilI ku,?_,qu _,z.upd F.size _ _,qr h⟩;simp[H.puts_all,AH.cell_upd H]
 | true =>rw[show negI y xs=fromI (!y) xs from by simp[negI,V]];refine⟨s3,h3.upd h0.blks.size [.bool (fromI (!y) xs).1,s3.v] ku,?_,n3.upd Q H.lt _ _,(z.trans K).upd F.size _ _,Q.of_le z⟩;simp[e3,U.puts_all,AH.cell_upd U]
theorem kgh(b:Nat)(ys:List Nat)(k:Nat):num b (ys.take (k+1))=num b (ys.take k)+b^k*ys.getD k 0:=by
 by_cases h:k<ys.length
 ·rw[kc0 b h,kbp h]
 ·rw[List.take_of_length_le (by omega),List.take_of_length_le (by omega)];simp[List.getD,List.getElem?_eq_none (show ys.length<=k by omega)]
theorem kbfs(zs:List Nat){i:Nat}(v:Nat)(h:i<zs.length):(zs.set i v).take (i+1)=zs.take i++[v]:=by
 apply List.ext_getElem?;intro j;rw[List.getElem?_take];by_cases z:j<i
 ·rw[if_pos (by omega),List.getElem?_set_ne (by omega),List.getElem?_append_left (by simp;omega),List.getElem?_take,if_pos z]
 ·by_cases y:j=i
  ·subst y;rw[if_pos (by omega),List.getElem?_set_self h,List.getElem?_append_right (by simp;omega)];simp[Nat.min_eq_left (show j<=zs.length by omega)]
  ·rw[if_neg (by omega),List.getElem?_eq_none (by simp;omega)]
theorem kxh(b:Nat)(zs:List Nat){i:Nat}(v:Nat)(h:i<zs.length):num b ((zs.set i v).take (i+1))=num b (zs.take i)+b^i*v:=by rw[kbfs zs v h,kcj];simp[num,Nat.min_eq_left (Nat.le_of_lt h)]
theorem kl9{h:AH}{j i:Nat}{zs:List Nat}(b:h.has j (zs.map u64) kf)(v:Nat)(y:i<zs.length):h.puts (.new j i) [u64 v]=some (h.upd j ((zs.set i v).map u64) kf):=by simp only[AH.puts];rw[b.put (by simpa using y)];simp[List.map_set]
theorem k5a{x y c:Nat}(z:x<B)(F:y<B)(G:c<=1):prim "math/bits.Add64" [u64 x,u64 y,u64 c]=some (.tup [u64 ((x+y+c)%B),u64 ((x+y+c)/B)]):=by show cond (decide (0<=(x:Int)/\0<=(y:Int)/\0<=(c:Int)/\(c:Int)<=1)) (some (AV.tup [.int .u64 (((x:Int)+y+c)%18446744073709551616),.int .u64 (((x:Int)+y+c)/18446744073709551616)])) none=_;rw[show decide (0<=(x:Int)/\0<=(y:Int)/\0<=(c:Int)/\(c:Int)<=1)=true from by rw[qby];omega];rfl
theorem kpn{xs:List Nat}(h:∀x∈xs,x<18446744073709551616)(i:Nat):xs.getD i 0<B:=by
 show _<18446744073709551616;by_cases y:i<xs.length
 ·rw[kbp y];exact h _ (qb5 _)
 ·simp[List.getD,List.getElem?_eq_none (show xs.length<=i by omega)]
theorem k5d{h:AH}{s t:Sl}{xs ys:List Nat}(n:Nats h s xs)(m:Nats h t ys)(hl:ys.length<=xs.length)(hs:xs.length<4611686018427387904){j:Nat}(Q:h.blks.size<=j) :
  ∀(k i:Nat),i+k=xs.length->∀{y:AH}{zs:List Nat}{c:Nat},Grow h y->y.has j (zs.map u64) kf->zs.length=xs.length+1->(∀z∈zs,z<18446744073709551616)->c<=1->
   num B (zs.take i)+B^i*c=num B (xs.take i)+num B (ys.take i)->
   ∃(h':AH)(zs':List Nat),go (.pt kdu kg2 [(0,s.v),(1,t.v),(5,Sl.v ⟨some (.new j 0),xs.length+1,.is (xs.length+1)⟩),(6,u64 c),(21,.i (xs.length:Int)),(22,.i (i:Int))]) y =
    some (Sl.v ⟨some (.new j 0),xs.length+1,.is (xs.length+1)⟩,h')/\Grow h h'/\h'.has j (zs'.map u64) kf/\zs'.length=xs.length+1/\(∀z∈zs',z<18446744073709551616)/\num B zs'=num B xs+num B ys
 | 0,i,U,y,zs,c,g,b,V,F,W,inv=>by
  rw[k44,show decide ((i:Int)<(xs.length:Int))=false from by rw[qbx];omega,cond_false,n.len];rw[keq _ _ _ _ (by omega) (by show(xs.length:Int)<((xs.length+1:Nat):Int);omega)];simp only[qbv,Int.toNat_natCast,Nat.mul_one,qj,Nat.zero_add];rw[kl9 b c (by omega)];refine⟨_,zs.set xs.length c,rfl,g.upd Q _ _,qo b _ _,by simpa using V,λz G=>?_,?_⟩
  ·rcases List.mem_or_eq_of_mem_set G with h1 | rfl
   ·exact F z h1
   ·omega
  ·have e:=kxh B zs c (i:=xs.length) (by omega);rw[List.take_of_length_le (by simp;omega)]at e;have:i=xs.length:=by omega
   subst this;rw[e,inv,List.take_length,List.take_of_length_le hl]
 | k+1,i,U,y,zs,c,g,b,V,F,W,inv=>by
  have n':=n.grow g;have m':=m.grow g;obtain⟨r,e1,e2⟩:=n'.at (i:=i) (by omega);have Z:xs.getD i 0<B:=kpn n.lt i;have hy:ys.getD i 0<B:=kpn m.lt i
  have next:∃(h':AH)(zs':List Nat),go (.pt kdu kg2 [(0,s.v),(1,t.v),(5,Sl.v ⟨some (.new j 0),xs.length+1,.is (xs.length+1)⟩),(6,u64 ((xs.getD i 0+ys.getD i 0+c)/B)),(21,.i (xs.length:Int)),(22,.i ((i+1:Nat):Int))]) (y.upd j ((zs.set i ((xs.getD i 0+ys.getD i 0+c)%B)).map u64) kf) =
    some (Sl.v ⟨some (.new j 0),xs.length+1,.is (xs.length+1)⟩,h')/\Grow h h'/\h'.has j (zs'.map u64) kf/\zs'.length=xs.length+1/\(∀z∈zs',z<18446744073709551616)/\num B zs'=num B xs+num B ys:=by
   refine k5d n m hl hs Q k (i+1) (by omega) (g.upd Q _ _) (qo b _ _) (by simpa using V) (λz G=>?_) ?_ ?_
   ·rcases List.mem_or_eq_of_mem_set G with h1 | rfl
    ·exact F z h1
    ·exact Nat.mod_lt _ (by decide)
   ·have h1:xs.getD i 0<18446744073709551616:=Z;have h2:ys.getD i 0<18446744073709551616:=hy;show(xs.getD i 0+ys.getD i 0+c)/18446744073709551616<=1;omega
   ·rw[kxh B zs _ (by omega),kgh B xs i,kgh B ys i];have e:=Nat.mod_add_div (xs.getD i 0+ys.getD i 0+c) B;generalize hq:(xs.getD i 0+ys.getD i 0+c)%B=q at *
    generalize hw:(xs.getD i 0+ys.getD i 0+c)/B=w at *
    rw[Nat.pow_succ,Nat.mul_assoc,Nat.add_assoc,<- Nat.mul_add,e,Nat.mul_add,Nat.mul_add];omega
  rw[k44,show decide ((i:Int)<(xs.length:Int))=true from by rw[qby];omega,cond_true,m.len,ki (by omega)]
  have put:idx (some (.new j 0)) (xs.length+1) (i:Int) 1=some (.new j i):=by rw[keq _ _ _ _ (by omega) (by omega)];simp
  by_cases I:i<ys.length
  ·obtain⟨q,e3,e4⟩:=m'.at (i:=i) I;rw[show decide ((i:Int)<(ys.length:Int))=true from by rw[qby];omega,cond_true];rw[<- m.len,e3,e1];simp only[qbv,e2,e4,kc];have ex:((xs[i]:Nat):Int)=((xs.getD i 0:Nat):Int):=by rw[kbp (by omega)]
   have ey:((ys[i]:Nat):Int)=((ys.getD i 0:Nat):Int):=by rw[kbp I]
   rw[ex,ey];have H:=k5a Z hy W;simp only[u64]at H|-;rw[H];simp only[Option.map_some,qbv,kgf,kc,put];rw[show y.puts (.new j i) [AV.int .u64 (((xs.getD i 0+ys.getD i 0+c)%B:Nat):Int)]=_ from kl9 b _ (by omega)];exact next
  ·have K:ys.getD i 0=0:=by simp[List.getD,List.getElem?_eq_none (show ys.length<=i by omega)]
   rw[show decide ((i:Int)<(ys.length:Int))=false from by rw[qbx];omega,cond_false,e1];simp only[qbv,e2,kc];have ex:((xs[i]:Nat):Int)=((xs.getD i 0:Nat):Int):=by rw[kbp (by omega)]
   rw[ex];have H:=k5a Z hy W;simp only[u64]at H|-;rw[K]at H;rw[show(AV.int .u64 0)=AV.int .u64 ((0:Nat):Int)from rfl,H];simp only[Option.map_some,qbv,kgf,kc,put];rw[K]at next;rw[show y.puts (.new j i) [AV.int .u64 (((xs.getD i 0+0+c)%B:Nat):Int)]=_ from kl9 b _ (by omega)];exact next
theorem k50{h:AH}{l:Int}{n:Nat}(y:l=(n:Int))(z:n<=8796093022207):kbm l l kf (Pg.bytesOf kf) [.int .u64 0] h=some (⟨some (.new h.blks.size 0),n,.is n⟩,h.push (.cells ((List.replicate n 0).map u64) kf)):=by rw[kcz,kxk y y (by omega) (by omega),ktv];simp;rfl
theorem kbld(b n:Nat):num b (List.replicate n 0)=0:=by
 have:=kfq b [] n
 simpa[num]using this
theorem ks3{h:AH}{s t:Sl}{xs ys:List Nat}(n:Nats h s xs)(m:Nats h t ys)(U:xs.length<=1073741824)(Z:ys.length<=1073741824) :
  ∃(s':Sl)(h':AH)(zs:List Nat),go (.fn kdu [s.v,t.v]) h=some (s'.v,h')/\Nats h' s' zs/\Grow h h'/\Own h s'/\num B zs=num B xs+num B ys/\zs.length=max xs.length ys.length+1:=by
 have key:∀{s t:Sl}{xs ys:List Nat},Nats h s xs->Nats h t ys->xs.length<=1073741824->ys.length<=xs.length->∃(s':Sl)(h':AH)(zs:List Nat),
   ((kbm (IntKind.wrap .i64 ((s.len:Int)+1)) (IntKind.wrap .i64 ((s.len:Int)+1)) kf (Pg.bytesOf kf) [.int .u64 0] h).bind λV =>
   go (.pt kdu kg2 [(0,s.v),(1,t.v),(5,V.1.v),(6,.int .u64 0),(21,.i (s.len:Int)),(22,.i 0)]) V.2)=some (s'.v,h')/\Nats h' s' zs/\Grow h h'/\Own h s'/\num B zs=num B xs+num B ys/\zs.length=xs.length+1:=by
  intro s t xs ys n m U z;rw[n.len,ki (by omega),k50 rfl (by omega)];simp only[qbv];have g0:=ql h (.cells ((List.replicate (xs.length+1) 0).map u64) kf);have b0:=qm h ((List.replicate (xs.length+1) 0).map u64) kf;obtain⟨h',zs,y,g1,b1,W,F,v1⟩:=k5d n m z (by omega) (qbr h.blks.size) xs.length 0 (by omega) (c:=0) g0 b0 (by simp) (by simp) (by omega) (by simp[num]);refine⟨_,h',zs,y,⟨qp b1 (by simp[W]),F,by omega⟩,g1,λr hr=>?_,v1,W⟩;cases hr;exact⟨_,_,rfl,qbr _⟩
 rw[kbfw];by_cases aa:xs.length<ys.length
 ·rw[show decide ((s.len:Int)<(t.len:Int))=true from by rw[qby,n.len,m.len];omega,cond_true];obtain⟨s',h',zs,y,G,H,I,K,Q⟩:=key m n Z (by omega);exact⟨s',h',zs,y,G,H,I,by rw[K];omega,by rw[Q];omega⟩
 ·rw[show decide ((s.len:Int)<(t.len:Int))=false from by rw[qbx,n.len,m.len];omega,cond_false];obtain⟨s',h',zs,y,G,H,I,K,Q⟩:=key n m U (by omega);exact⟨s',h',zs,y,G,H,I,K,by rw[Q];omega⟩
def told(n:Nat):List Nat×Int:=if n<B^64 then(digs B n,0)else([],4)
theorem kq9{h:AH}{s:Sl}{xs:List Nat}(n:Nats h s xs):∃s':Sl,go (.fn kj3 [s.v]) h=some (.tup [s'.v,.i (told (num B xs)).2],h)/\Nats h s' (told (num B xs)).1/\∀h0,Own h0 s->Own h0 s':=by
 obtain⟨s',z,n1,F⟩:=kd0 n;rw[kbgz,z];simp only[qbv,asSl_v];unfold told;by_cases y:num B xs<B^64
 ·have:=(kbc B2 (num B xs) 64).2 y;rw[if_pos y,show decide ((s'.len:Int)>64)=false from by rw[qbx,n1.len];omega];exact⟨s',rfl,n1,F⟩
 ·have:¬(digs B (num B xs)).length<=64:=λh=>y ((kbc B2 _ _).1 h);rw[if_neg y,show decide ((s'.len:Int)>64)=true from by rw[qby,n1.len];omega];exact⟨⟨none,0,.is 0⟩,rfl,qu h,λh0 _=>qr h0⟩
def addN(xs ys:List Nat):List Nat×Int:=if rt xs=true/\rt ys=true then told (num B xs+num B ys)else([],1)
theorem kqi{h:AH}{s t:Sl}{xs ys:List Nat}(n:Nats h s xs)(m:Nats h t ys):∃(s':Sl)(h':AH),go (.fn kjr [s.v,t.v]) h=some (.tup [s'.v,.i (addN xs ys).2],h')/\Nats h' s' (addN xs ys).1/\Grow h h'/\Own h s':=by
 rw[kbgr];simp only[kcn];have r:=Rows.two n m;have g:=ql h (.cells [s.v,t.v] kj);generalize h.push (.cells [s.v,t.v] kj)=h0 at *
 rw[kle r];simp only[qbv,kc9,List.all_cons,List.all_nil,Bool.and_true];by_cases hb:rt xs=true/\rt ys=true
 ·rw[show addN xs ys=told (num B xs+num B ys)from by simp[addN,hb]];simp only[hb.1,hb.2,Bool.and_self,Bool.not_true,cond_false];have K:=(rt_iff.1 hb.1).1;have Q:=(rt_iff.1 hb.2).1;obtain⟨s1,h1,zs,z,n1,F,G,H,_⟩:=ks3 (n.grow g) (m.grow g) (by omega) (by omega);obtain⟨s2,y,n2,I⟩:=kq9 n1;rw[H]at y n2;simp only[z,y,qbv,asSl_v,kgf,kc];exact⟨s2,h1,rfl,n2,g.trans F,(I h0 G).of_le g⟩
 ·rw[show addN xs ys=([],1)from by simp only[addN,if_neg hb]]
  have:(rt xs&&rt ys)=false:=by
   cases U:rt xs<;>cases V:rt ys<;>simp_all
  rw[this];exact⟨⟨none,0,.is 0⟩,h0,rfl,qu _,g,qr h⟩
theorem kbf7(x y c:Int):prim "math/bits.Sub64" [.int .u64 x,.int .u64 y,.int .u64 c]=cond (decide (0<=x/\0<=y/\y<18446744073709551616/\0<=c/\c<=1)) (some (AV.tup [.int .u64 ((x-y-c)%18446744073709551616),.int .u64 (cond (decide (x<y+c)) 1 0)])) none:=by
 unfold prim;have s1:("math/bits.Sub64" == "math/bits.Add64")=false:=by decide +kernel
 rw[s1];rfl
theorem kbq5{x y c:Nat}(H:x<B)(I:y<B)(Q:c<=1):∃z w:Nat,prim "math/bits.Sub64" [u64 x,u64 y,u64 c]=some (.tup [u64 z,u64 w])/\z<B/\w<=1/\z+y+c=x+B*w:=by
 have H:x<18446744073709551616:=H;have I:y<18446744073709551616:=I;have e:prim "math/bits.Sub64" [u64 x,u64 y,u64 c]=cond (decide (0<=(x:Int)/\0<=(y:Int)/\(y:Int)<18446744073709551616/\0<=(c:Int)/\(c:Int)<=1)) (some (AV.tup [.int .u64 (((x:Int)-y-c)%18446744073709551616),.int .u64 (cond (decide ((x:Int)<y+c)) 1 0)])) none:=kbf7 _ _ _;rw[e,show decide (0<=(x:Int)/\0<=(y:Int)/\(y:Int)<18446744073709551616/\0<=(c:Int)/\(c:Int)<=1)=true from by rw[qby];omega,cond_true];obtain⟨z,K⟩:∃z:Nat,((x:Int)-y-c)%18446744073709551616=(z:Int):=⟨_,(Int.toNat_of_nonneg (Int.emod_nonneg _ (by decide))).symm⟩;rw[K];by_cases h:x<y+c
 ·rw[show decide ((x:Int)<y+c)=true from by rw[qby];omega];have F:z<18446744073709551616:=by omega
  have G:z+y+c=x+18446744073709551616*1:=by omega
  exact⟨z,1,rfl,F,by omega,G⟩
 ·rw[show decide ((x:Int)<y+c)=false from by rw[qbx];omega];have F:z<18446744073709551616:=by omega
  have G:z+y+c=x+18446744073709551616*0:=by omega
  exact⟨z,0,rfl,F,by omega,G⟩
theorem kx0{b p c x y z w zs ys xs:Nat}(inv:zs+ys=xs+p*c)(F:z+y+c=x+b*w):zs+p*z+(ys+p*y)=xs+p*x+p*b*w:=by have:=congrArg (λq=>p*q) F;simp only[Nat.mul_add]at this;rw[Nat.mul_assoc];omega
theorem k31{h:AH}{s t:Sl}{xs ys:List Nat}(n:Nats h s xs)(m:Nats h t ys)(hl:ys.length<=xs.length)(hs:xs.length<4611686018427387904){j:Nat}(hj:h.blks.size<=j) :
  ∀(k i:Nat),i+k=xs.length->∀{F:AH}{zs:List Nat}{c:Nat},Grow h F->F.has j (zs.map u64) kf->zs.length=xs.length->(∀z∈zs,z<18446744073709551616)->c<=1->
   num B (zs.take i)+num B (ys.take i)=num B (xs.take i)+B^i*c->
   ∃(h':AH)(zs':List Nat)(K:Nat),go (.pt kdp kjx [(0,s.v),(1,t.v),(5,Sl.v ⟨some (.new j 0),xs.length,.is xs.length⟩),(6,u64 c),(13,.i (xs.length:Int)),(14,.i (i:Int))]) F =
    some (Sl.v ⟨some (.new j 0),xs.length,.is xs.length⟩,h')/\Grow h h'/\h'.has j (zs'.map u64) kf/\zs'.length=xs.length/\(∀z∈zs',z<18446744073709551616)/\num B zs'+num B ys=num B xs+B^xs.length*K
 | 0,i,Q,F,zs,c,g,b,U,G,hc,inv=>by
  rw[k4y,show decide ((i:Int)<(xs.length:Int))=false from by rw[qbx];omega,cond_false];have:i=xs.length:=by omega
  subst this;rw[List.take_of_length_le (by omega),List.take_of_length_le hl,List.take_length]at inv;exact⟨F,zs,c,rfl,g,b,U,G,inv⟩
 | k+1,i,Q,F,zs,c,g,b,U,G,hc,inv=>by
  have n':=n.grow g;have m':=m.grow g;obtain⟨r,e1,e2⟩:=n'.at (i:=i) (by omega);have hx:xs.getD i 0<B:=kpn n.lt i;have hy:ys.getD i 0<B:=kpn m.lt i;obtain⟨z,w,H,V,hw,W⟩:=kbq5 hx hy hc
  have next:∃(h':AH)(zs':List Nat)(K:Nat),go (.pt kdp kjx [(0,s.v),(1,t.v),(5,Sl.v ⟨some (.new j 0),xs.length,.is xs.length⟩),(6,u64 w),(13,.i (xs.length:Int)),(14,.i ((i+1:Nat):Int))]) (F.upd j ((zs.set i z).map u64) kf) =
    some (Sl.v ⟨some (.new j 0),xs.length,.is xs.length⟩,h')/\Grow h h'/\h'.has j (zs'.map u64) kf/\zs'.length=xs.length/\(∀z∈zs',z<18446744073709551616)/\num B zs'+num B ys=num B xs+B^xs.length*K:=by
   refine k31 n m hl hs hj k (i+1) (by omega) (g.upd hj _ _) (qo b _ _) (by simpa using U) (λy Z=>?_) hw ?_
   ·rcases List.mem_or_eq_of_mem_set Z with h1 | rfl
    ·exact G y h1
    ·exact V
   ·rw[kxh B zs _ (by omega),kgh B xs i,kgh B ys i,Nat.pow_succ];exact kx0 inv W
  rw[k4y,show decide ((i:Int)<(xs.length:Int))=true from by rw[qby];omega,cond_true,m.len,ki (by omega)];generalize prim "math/bits.Sub64" = f at H|-
  have put:idx (some (.new j 0)) xs.length (i:Int) 1=some (.new j i):=by rw[keq _ _ _ _ (by omega) (by omega)];simp
  by_cases I:i<ys.length
  ·obtain⟨q,e3,e4⟩:=m'.at (i:=i) I;rw[show decide ((i:Int)<(ys.length:Int))=true from by rw[qby];omega,cond_true];rw[<- m.len,e3,e1];rw[qbv,e4,qbv,kc,qbv,qbv,e2,qbv,kc,qbv];have ex:((xs[i]:Nat):Int)=((xs.getD i 0:Nat):Int):=by rw[kbp (by omega)]
   have ey:((ys[i]:Nat):Int)=((ys.getD i 0:Nat):Int):=by rw[kbp I]
   rw[ex,ey];simp only[u64]at H|-;rw[H];simp only[Option.map_some,qbv,kgf,kc,put];rw[show F.puts (.new j i) [AV.int .u64 ((z:Nat):Int)]=_ from kl9 b _ (by omega)];exact next
  ·have aa:ys.getD i 0=0:=by simp[List.getD,List.getElem?_eq_none (show ys.length<=i by omega)]
   rw[show decide ((i:Int)<(ys.length:Int))=false from by rw[qbx];omega,cond_false,e1];simp only[qbv,e2,kc];have ex:((xs[i]:Nat):Int)=((xs.getD i 0:Nat):Int):=by rw[kbp (by omega)]
   rw[ex];simp only[u64]at H|-;rw[aa]at H;rw[show(AV.int .u64 0)=AV.int .u64 ((0:Nat):Int)from rfl,H];simp only[Option.map_some,qbv,kgf,kc,put];rw[show F.puts (.new j i) [AV.int .u64 ((z:Nat):Int)]=_ from kl9 b _ (by omega)];exact next
theorem kqe{h:AH}{s t:Sl}{xs ys:List Nat}(n:Nats h s xs)(m:Nats h t ys)(Z:xs.length<=1073741824)(F:ys.length<=xs.length)(G:num B ys<=num B xs) :
  ∃(s':Sl)(h':AH)(zs:List Nat),go (.fn kdp [s.v,t.v]) h=some (s'.v,h')/\Nats h' s' zs/\Grow h h'/\Own h s'/\num B zs=num B xs-num B ys/\zs.length=xs.length:=by
 rw[kbec,n.len,k50 rfl (by omega)];simp only[qbv];have H:=ql h (.cells ((List.replicate xs.length 0).map u64) kf);have I:=qm h ((List.replicate xs.length 0).map u64) kf;obtain⟨h',zs,c,K,Q,b1,z,y,U⟩:=k31 n m F (by omega) (qbr h.blks.size) xs.length 0 (by omega) (c:=0) H I (by simp) (by simp) (by omega) (by simp[num]);have hb:=num_lt (b:=B) (by decide) y;rw[z]at hb
 have V:c=0:=by
  rcases Nat.eq_zero_or_pos c with h0 | h0
  ·exact h0
  ·have:B^xs.length*1<=B^xs.length*c:=Nat.mul_le_mul_left _ h0;omega
 rw[V,Nat.mul_zero,Nat.add_zero]at U;refine⟨_,h',zs,K,⟨qp b1 (by simp[z]),y,by omega⟩,Q,λr W=>?_,by omega,z⟩;cases W;exact⟨_,_,rfl,qbr _⟩
def subN(xs ys:List Nat):List Nat×Int:=if rt xs=true/\rt ys=true then(if num B xs<num B ys then([],2)else(digs B (num B xs-num B ys),0))else([],1)
theorem kzt{xs ys:List Nat}(y:∀x∈xs,x<18446744073709551616)(z:∀x∈ys,x<18446744073709551616)(ty:Trim ys)(h:num B ys<=num B xs):ys.length<=xs.length:=by
 rcases Nat.lt_or_ge xs.length ys.length with h1 | h1
 ·have:=kti B2 y z ty h1;omega
 ·exact h1
theorem k7f{xs ys:List Nat}(y:∀x∈xs,x<18446744073709551616)(h:xs.length<=64):told (num B xs-num B ys)=(digs B (num B xs-num B ys),0):=by have h1:=num_lt (b:=B) (by decide) y;have h2:B^xs.length<=B^64:=Nat.pow_le_pow_right (by decide) h;unfold told;rw[if_pos (by omega)]
theorem kjw{h:AH}{s t:Sl}{xs ys:List Nat}(n:Nats h s xs)(m:Nats h t ys):∃(s':Sl)(h':AH),go (.fn khj [s.v,t.v]) h=some (.tup [s'.v,.i (subN xs ys).2],h')/\Nats h' s' (subN xs ys).1/\Grow h h'/\Own h s':=by
 rw[kbhr];simp only[kcn];have r:=Rows.two n m;have g:=ql h (.cells [s.v,t.v] kj);generalize h.push (.cells [s.v,t.v] kj)=h0 at *
 rw[kle r];simp only[qbv,kc9,List.all_cons,List.all_nil,Bool.and_true];by_cases hb:rt xs=true/\rt ys=true
 ·simp only[hb.1,hb.2,Bool.and_self,Bool.not_true,cond_false];have z:=rt_iff.1 hb.1;have F:=rt_iff.1 hb.2;rw[krs (n.grow g) (m.grow g) z.2 F.2];simp only[qbv,kc];by_cases y:num B xs<num B ys
  ·rw[show subN xs ys=([],2)from by simp[subN,hb,y]];rw[show decide (cmp (num B xs) (num B ys)<0)=true from by rw[qby];simp[cmp,y]];exact⟨⟨none,0,.is 0⟩,h0,rfl,qu _,g,qr h⟩
  ·rw[show subN xs ys=told (num B xs-num B ys)from by rw[k7f n.lt z.1];simp[subN,hb,y]];rw[show decide (cmp (num B xs) (num B ys)<0)=false from by rw[qbx];unfold cmp;rw[if_neg y];split<;>omega];simp only[cond_false];obtain⟨s1,h1,zs,H,n1,I,K,Q,_⟩:=kqe (n.grow g) (m.grow g) (by omega) (kzt n.lt m.lt F.2 (by omega)) (by omega);obtain⟨s2,G,n2,U⟩:=kq9 n1;rw[Q]at G n2;simp only[H,G,qbv,asSl_v,kgf,kc];exact⟨s2,h1,rfl,n2,g.trans I,(U h0 K).of_le g⟩
 ·rw[show subN xs ys=([],1)from by simp only[subN,if_neg hb]]
  have:(rt xs&&rt ys)=false:=by
   cases V:rt xs<;>cases W:rt ys<;>simp_all
  rw[this];exact⟨⟨none,0,.is 0⟩,h0,rfl,qu _,g,qr h⟩
theorem kt9{n:Nat}(h:n<18446744073709551616):IntKind.wrap .u64 (n:Int)=(n:Int):=by rw[wrapU,Int.emod_eq_of_lt (by omega) (by omega)]
theorem kt1{h:AH}{s:Sl}{xs:List Nat}(n:Nats h s xs)(i:Nat):go (.fn ki3 [s.v,.i (i:Int)]) h=some (u64 (xs.getD i 0),h):=by
 rw[kbg9,n.len];by_cases y:i<xs.length
 ·obtain⟨r,z,F⟩:=n.at (i:=i) y;rw[n.len]at z;rw[show decide ((i:Int)<(xs.length:Int))=true from by rw[qby];omega,cond_true,z,qbv,F,qbv,kc,qbv,kbp y]
 ·rw[show decide ((i:Int)<(xs.length:Int))=false from by rw[qbx];omega,cond_false];simp[List.getD,List.getElem?_eq_none (show xs.length<=i by omega)]
theorem Mine.append_one{h0 h:AH}{d:Sl}{ds:List Nat}(M:Mine h0 h d kf 1 (ds.map u64))(x:Nat)(z:ds.length<8796093022208){R:Type}(k:Sl->AH->Option R) :
  ∃(y:Sl)(h':AH),((kbb Pg kf (Sl.v ⟨some (.new h.blks.size 0),1,.is 1⟩) (h.push (.cells [u64 x] kf))).bind λp=>(kx Pg d p.1 p.2 kf 1 (h.push (.cells [u64 x] kf))).bind λq=>(AV.asSl q.1).bind λl=>k l q.2)=k y h'/\Mine h0 h' y kf 1 ((ds++[x]).map u64):=by
 have c:Cells (h.push (.cells [u64 x] kf)) ⟨some (.new h.blks.size 0),1,.is 1⟩ (Pg.cellsOf kf) [u64 x]:=by rw[kkz];exact qp (qm h [u64 x] kf) rfl
 obtain⟨y,h',F,G⟩:=(M.grow' (ql h (.cells [u64 x] kf))).push_u64 x z;refine⟨y,h',?_,G⟩;rw[kih c,qbv,F,qbv,asSl_v,qbv]
theorem kp7{xs:List Nat}(h:∀x∈xs,x<D)(i:Nat):xs.getD i 0<D:=by
 show _<65536;by_cases y:i<xs.length
 ·rw[kbp y];exact h _ (qb5 _)
 ·simp[List.getD,List.getElem?_eq_none (show xs.length<=i by omega)]
theorem kbmz{b p c x y q w zs ys xs:Nat}(inv:zs+p*c=xs+ys)(z:q+b*w=x+y+c):zs+p*q+p*b*w=xs+p*x+(ys+p*y):=by have:=congrArg (λq=>p*q) z;simp only[Nat.mul_add]at this;rw[Nat.mul_assoc];omega
theorem k5s{h:AH}{s t:Sl}{xs ys:List Nat}(n:Nats h s xs)(m:Nats h t ys)(hx:∀x∈xs,x<D)(hy:∀x∈ys,x<D)(lx:xs.length<=1073741824)(ly:ys.length<=1073741824) :
  ∀(k i:Nat),i+k=max xs.length ys.length->∀{U:AH}{d:Sl}{ds:List Nat}{c:Nat},Mine h U d kf 1 (ds.map u64)->ds.length=i->(∀z∈ds,z<D)->c<=1->num D ds+D^i*c=num D (xs.take i)+num D (ys.take i)->
   ∃(s':Sl)(h':AH),go (.pt kf3 kju [(0,s.v),(1,t.v),(5,d.v),(6,u64 c),(7,.i (i:Int))]) U=some (s'.v,h')/\Nats h' s' (digs D (num D xs+num D ys))/\Grow h h'/\Own h s'
 | 0,i,aa,U,d,ds,c,M,V,hd,hc,inv=>by
  have i1:xs.length<=i:=by omega
  have i2:ys.length<=i:=by omega
  rw[k5f,n.len,m.len,show decide ((i:Int)<(xs.length:Int))=false from by rw[qbx];omega,cond_false,show decide ((i:Int)<(ys.length:Int))=false from by rw[qbx];omega,cond_false];simp only[kcn];obtain⟨d',h',W,H⟩:=M.append_one c (by omega) (λl hh=>(go (.fn kdm [l.v]) hh).bind λI=>((some I.1).bind AV.asSl).bind λab=>some (ab.v,I.2))
  have K:∀z∈ds++[c],z<D:=λz Q=>by
   rcases qb7.1 Q with h1 | h1
   ·exact hd z h1
   ·simp at h1;subst h1;show _<65536;omega
  have N:Nats h' d' (ds++[c]):=⟨H.cells,λz Q=>by have:z<65536:=K z Q;omega,by simp;omega⟩;obtain⟨s',Z,n2,o2⟩:=kjn N K
  have v:num D (ds++[c])=num D xs+num D ys:=by rw[kcj,V];simp only[num,Nat.mul_zero,Nat.add_zero];rw[inv,List.take_of_length_le i1,List.take_of_length_le i2]
  rw[v]at n2;refine⟨s',h',?_,n2,H.grow,o2 h H.own_of⟩;refine Eq.trans W ?_;simp only[Z,qbv,asSl_v]
 | k+1,i,aa,U,d,ds,c,M,V,hd,hc,inv=>by
  have n':=n.grow M.grow;have m':=m.grow M.grow;have x1:xs.getD i 0<65536:=kp7 hx i;have y1:ys.getD i 0<65536:=kp7 hy i
  have y:IntKind.wrap .u64 (IntKind.wrap .u64 (((xs.getD i 0:Nat):Int)+((ys.getD i 0:Nat):Int))+(c:Int))=((xs.getD i 0+ys.getD i 0+c:Nat):Int):=by rw[<- Int.natCast_add,kt9 (by omega),<- Int.natCast_add,kt9 (by omega)]
  have F:Int.tmod ((xs.getD i 0+ys.getD i 0+c:Nat):Int) 65536=(((xs.getD i 0+ys.getD i 0+c)%65536:Nat):Int):=by rw[Int.tmod_eq_emod_of_nonneg (by omega)];omega
  have G:IntKind.wrap .u64 (Int.tdiv ((xs.getD i 0+ys.getD i 0+c:Nat):Int) 65536)=(((xs.getD i 0+ys.getD i 0+c)/65536:Nat):Int):=by rw[Int.tdiv_eq_ediv_of_nonneg (by omega),<- kt9 (n:=(xs.getD i 0+ys.getD i 0+c)/65536) (by omega)];congr 1
  obtain⟨d',h',W,H⟩:=M.append_one ((xs.getD i 0+ys.getD i 0+c)%65536) (by omega) (λl hh=>go (.pt kf3 kju [(0,s.v),(1,t.v),(5,l.v),(6,u64 ((xs.getD i 0+ys.getD i 0+c)/65536)),(7,.i ((i+1:Nat):Int))]) hh)
  obtain⟨s',h2,Z,r⟩:=k5s n m hx hy lx ly k (i+1) (by omega) H (by simp[V]) (λz Q=>by
   rcases qb7.1 Q with h1 | h1
   ·exact hd z h1
   ·simp at h1;subst h1;exact Nat.mod_lt _ (by decide)) (c:=(xs.getD i 0+ys.getD i 0+c)/65536) (by omega) (by
   rw[kcj,V,kgh D xs i,kgh D ys i,Nat.pow_succ];simp only[num,Nat.mul_zero,Nat.add_zero];exact kbmz inv (Nat.mod_add_div _ _))
  refine⟨s',h2,?_,r⟩;rw[k5f,n.len,m.len];have dx:=kt1 n' i;have dy:=kt1 m' i;by_cases h1:i<xs.length
  ·rw[show decide ((i:Int)<(xs.length:Int))=true from by rw[qby];omega,cond_true,dx,qbv,qbv,kc,qbv,dy,qbv,qbv,kc,qbv,y,F,G,ki (by omega),kcn];exact W.trans Z
  ·rw[show decide ((i:Int)<(xs.length:Int))=false from by rw[qbx];omega,cond_false,show decide ((i:Int)<(ys.length:Int))=true from by rw[qby];omega,cond_true,dx,qbv,qbv,kc,qbv,dy,qbv,qbv,kc,qbv,y,F,G,ki (by omega),kcn];exact W.trans Z
theorem kbgy{h:AH}{s t:Sl}{xs ys:List Nat}(n:Nats h s xs)(m:Nats h t ys)(y:∀x∈xs,x<D)(z:∀x∈ys,x<D)(F:xs.length<=1073741824)(G:ys.length<=1073741824) :
  ∃(s':Sl)(h':AH),go (.fn kf3 [s.v,t.v]) h=some (s'.v,h')/\Nats h' s' (digs D (num D xs+num D ys))/\Grow h h'/\Own h s':=by
 rw[kbho];exact k5s n m y z F G (max xs.length ys.length) 0 (by omega) (ds:=[]) (c:=0) (Mine.nil h kf 1) rfl (by simp) (by omega) (by simp[num])
end Go.Ab
set_option maxRecDepth 10000
namespace Go.Ab
open IntKind (wrap)
open Go.Proofs Go.Num
theorem kbn6{x y c:Nat}(F:x<65536)(G:y<65536)(H:c<=1):∃z w:Nat,z<65536/\w<=1/\z+y+c=x+65536*w/\
  Int.tmod (wrap .u64 ((wrap .u64 ((wrap .u64 (65536+(x:Int)))-(y:Int)))-(c:Int))) 65536=(z:Int)/\
  wrap .u64 (1-(wrap .u64 (Int.tdiv (wrap .u64 ((wrap .u64 ((wrap .u64 (65536+(x:Int)))-(y:Int)))-(c:Int))) 65536)))=(w:Int):=by
 have e:wrap .u64 ((wrap .u64 ((wrap .u64 (65536+(x:Int)))-(y:Int)))-(c:Int))=65536+(x:Int)-y-c:=by rw[wrapU,wrapU,wrapU];omega
 rw[e];have p:0<=65536+(x:Int)-y-c:=by omega
 rw[Int.tmod_eq_emod_of_nonneg p,Int.tdiv_eq_ediv_of_nonneg p];by_cases h:x<y+c
 ·exact⟨(65536+(x:Int)-y-c).toNat,1,by omega,by omega,by omega,by omega,by rw[wrapU,wrapU];omega⟩
 ·exact⟨((x:Int)-y-c).toNat,0,by omega,by omega,by omega,by omega,by rw[wrapU,wrapU];omega⟩
theorem k4t{h:AH}{s t:Sl}{xs ys:List Nat}(n:Nats h s xs)(m:Nats h t ys)(hx:∀x∈xs,x<D)(hy:∀x∈ys,x<D)(lx:xs.length<=1073741824)(I:ys.length<=xs.length)(K:num D ys<=num D xs) :
  ∀(k i:Nat),i+k=xs.length->∀{F:AH}{d:Sl}{ds:List Nat}{c:Nat},Mine h F d kf 1 (ds.map u64)->ds.length=i->(∀z∈ds,z<D)->c<=1->num D ds+num D (ys.take i)=num D (xs.take i)+D^i*c->
   ∃(s':Sl)(h':AH),go (.pt kg5 klm [(0,s.v),(1,t.v),(5,d.v),(6,u64 c),(7,.i (i:Int))]) F=some (s'.v,h')/\Nats h' s' (digs D (num D xs-num D ys))/\Grow h h'/\Own h s'
 | 0,i,Q,F,d,ds,c,M,H,G,hc,inv=>by
  have i1:i=xs.length:=by omega
  rw[kzg,n.len,show decide ((i:Int)<(xs.length:Int))=false from by rw[qbx];omega,cond_false];have N:Nats F d ds:=⟨M.cells,λz U=>by have:z<65536:=G z U;omega,by omega⟩;obtain⟨s',V,n2,o2⟩:=kjn N G
  have v:num D ds=num D xs-num D ys:=by
   rw[List.take_of_length_le (by omega),List.take_of_length_le (by omega)]at inv;have b:=num_lt (b:=D) (by decide) G;rw[H]at b
   have c0:c=0:=by
    rcases Nat.eq_zero_or_pos c with h0 | h0
    ·exact h0
    ·have:D^i*1<=D^i*c:=Nat.mul_le_mul_left _ h0;omega
   rw[c0,Nat.mul_zero]at inv;omega
  rw[v]at n2;refine⟨s',F,?_,n2,M.grow,o2 h M.own_of⟩;rw[V,qbv,qbv,asSl_v,qbv]
 | k+1,i,Q,F,d,ds,c,M,H,G,hc,inv=>by
  have n':=n.grow M.grow;have m':=m.grow M.grow;obtain⟨r,e1,V⟩:=n'.at (i:=i) (by omega);have x1:xs.getD i 0<65536:=kp7 hx i;have y1:ys.getD i 0<65536:=kp7 hy i;obtain⟨z,w,U,hw,W,q1,q2⟩:=kbn6 x1 y1 hc;obtain⟨d',h',a1,M'⟩:=M.append_one z (by omega) (λl hh=>go (.pt kg5 klm [(0,s.v),(1,t.v),(5,l.v),(6,u64 w),(7,.i ((i+1:Nat):Int))]) hh)
  obtain⟨s',h2,a2,r2⟩:=k4t n m hx hy lx I K k (i+1) (by omega) M' (by simp[H]) (λy Z=>by
   rcases qb7.1 Z with h1 | h1
   ·exact G y h1
   ·simp at h1;subst h1;exact U) hw (by
   rw[kcj,H,kgh D xs i,kgh D ys i,Nat.pow_succ];simp only[num,Nat.mul_zero,Nat.add_zero];exact kx0 inv W)
  refine⟨s',h2,?_,r2⟩;have ex:((xs[i]:Nat):Int)=((xs.getD i 0:Nat):Int):=by rw[kbp (by omega)]
  rw[kzg,n.len,show decide ((i:Int)<(xs.length:Int))=true from by rw[qby];omega,cond_true,<- n.len,e1,qbv,V,qbv,kc,qbv,
   kt1 m' i,qbv,qbv,kc,qbv,kwz (show SameAt F F r 1 from⟨λ_ _=>rfl,λh=>by cases h⟩),ex,q1,q2,ki (by omega),kcn]
  exact a1.trans a2
theorem kboi{h:AH}{s t:Sl}{xs ys:List Nat}(n:Nats h s xs)(m:Nats h t ys)(F:∀x∈xs,x<D)(G:∀x∈ys,x<D)(H:xs.length<=1073741824)(y:ys.length<=xs.length)(z:num D ys<=num D xs) :
  ∃(s':Sl)(h':AH),go (.fn kg5 [s.v,t.v]) h=some (s'.v,h')/\Nats h' s' (digs D (num D xs-num D ys))/\Grow h h'/\Own h s':=by
 rw[k9v];exact k4t n m F G H y z xs.length 0 (by omega) (ds:=[]) (c:=0) (Mine.nil h kf 1) rfl (by simp) (by omega) (by simp[num])
end Go.Ab
set_option maxRecDepth 10000
namespace Go.Ab
open Go.Proofs Go.Num
theorem kz3{xs:List Nat}(h:Trim xs):∀(k:Nat),Trim (xs.drop k)
 | 0=>by simpa using h
 | k+1=>by
  cases xs with
  | nil=>simp[Trim]
  | cons x xs=>exact kz3 h.tail k
theorem kbkl(b:Nat)(xs:List Nat)(k:Nat):num b xs=num b (xs.take k)+b^(xs.take k).length*num b (xs.drop k):=by rw[<- kcj,List.take_append_drop]
theorem kboo{ds:List Nat}(G:∀z∈ds,z<D)(H:Trim ds)(F:ds≠[]):digs B (num D ds)=num D (ds.take 4)::digs B (num D (ds.drop 4)):=by
 have I:num D ds≠0:=λe=>F (kn0 (by decide) H e);have lt:=num_lt (b:=D) (by decide) (xs:=ds.take 4) λx h=>G x (List.mem_of_mem_take h);have le:D^(ds.take 4).length<=D^4:=Nat.pow_le_pow_right (by decide) (by rw[qci];omega);have K:D^4=B:=by decide
 have y:num D (ds.take 4)<B:=by omega
 rw[kew B2 I,kbkl D ds 4];by_cases Q:4<=ds.length
 ·rw[qci,Nat.min_eq_left Q,K,Nat.add_mul_mod_self_left,Nat.mod_eq_of_lt y,Nat.add_mul_div_left _ _ (by decide),Nat.div_eq_of_lt y,Nat.zero_add]
 ·rw[List.drop_of_length_le (by omega)];simp only[num,Nat.mul_zero,Nat.add_zero];rw[Nat.mod_eq_of_lt y,Nat.div_eq_of_lt y]
theorem num_at(b:Nat)(ds:List Nat)(i k:Nat):num b ((ds.drop i).drop k)=ds.getD (i+k) 0+b*num b ((ds.drop i).drop (k+1)):=by
 rw[List.drop_drop,List.drop_drop,show i+(k+1)=i+k+1 from by omega];by_cases h:i+k<ds.length
 ·rw[qcj h,num,kbp h]
 ·rw[List.drop_of_length_le (by omega),List.drop_of_length_le (by omega)];simp[num,List.getD,List.getElem?_eq_none (show ds.length<=i+k by omega)]
theorem kbma(b:Nat)(ds:List Nat)(i k:Nat)(hk:k<4):num b (((ds.drop i).take 4).drop k)=ds.getD (i+k) 0+b*num b (((ds.drop i).take 4).drop (k+1)):=by have e:=num_at b ((ds.drop i).take 4) 0 k;rw[List.drop_zero,Nat.zero_add]at e;rw[e];congr 1;simp only[List.getD,List.getElem?_take,List.getElem?_drop,if_pos hk]
theorem k03{h0:AH}{s:Sl}{ds:List Nat}(n:Nats h0 s ds)(G:∀z∈ds,z<D){i:Nat}(V:i<=1073741824):∀(k:Nat),k<=4->∀{h:AH}{o:Sl}{os:List Nat},Mine h0 h o kf 1 (os.map u64)->os.length<=1073741824->
  ∃(H:Sl)(h':AH),go (.pt kcp kns [(0,s.v),(4,o.v),(5,.i (i:Int)),(6,u64 (num D (((ds.drop i).take 4).drop k))),(7,.i ((k:Int)-1))]) h =
   go (.pt kcp kla [(0,s.v),(4,H.v),(5,.i ((i+4:Nat):Int))]) h'/\Mine h0 h' H kf 1 ((os++[num D ((ds.drop i).take 4)]).map u64)
 | 0,hk,h,o,os,M,I=>by
  rw[kxu,show decide (((0:Nat):Int)-1>=0)=false from rfl,cond_false,List.drop_zero,kcn,wrap64 (n:=(i:Int)+4) (by omega) (by omega),show(i:Int)+4=((i+4:Nat):Int)from by omega];exact M.append_one (num D ((ds.drop i).take 4)) (by omega) (λl W=>go (.pt kcp kla [(0,s.v),(4,l.v),(5,.i ((i+4:Nat):Int))]) W)
 | k+1,hk,h,o,os,M,I=>by
  have Z:=n.grow M.grow;have K:=k03 n G V k (by omega) M I;have e:=kbma D ds i k (by omega)
  have lt:num D (((ds.drop i).take 4).drop k)<18446744073709551616:=by
   have h1:=num_lt (b:=D) (by decide) (xs:=((ds.drop i).take 4).drop k) λx hx=>G x (List.mem_of_mem_drop (List.mem_of_mem_take (List.mem_of_mem_drop hx)));have h2:D^(((ds.drop i).take 4).drop k).length<=D^4:=Nat.pow_le_pow_right (by decide) (by simp;omega);have h3:D^4=18446744073709551616:=by decide
   omega
  have Q:ds.getD (i+k) 0+65536*num D (((ds.drop i).take 4).drop (k+1))=num D (((ds.drop i).take 4).drop k):=e.symm;generalize hy:num D (((ds.drop i).take 4).drop (k+1))=y at *
  generalize hz:num D (((ds.drop i).take 4).drop k)=z at *
  rw[kxu,n.len,show((k+1:Nat):Int)-1=(k:Int)from by omega,show decide ((k:Int)>=0)=true from by rw[qby];omega,cond_true,wrap64 (n:=(i:Int)+(k:Int)) (by omega) (by omega),wrap64 (n:=(k:Int)-1) (by omega) (by omega),show(i:Int)+(k:Int)=((i+k:Nat):Int)from by omega];have w1:IntKind.wrap .u64 ((y:Int)*65536)=((65536*y:Nat):Int):=by rw[wrapU];omega
  rw[w1];by_cases F:i+k<ds.length
  ·obtain⟨r,U,e2⟩:=Z.at (i:=i+k) F;rw[n.len]at U;have ex:((ds[i+k]:Nat):Int)=((ds.getD (i+k) 0:Nat):Int):=by rw[kbp F]
   have w2:IntKind.wrap .u64 (((65536*y:Nat):Int)+((ds.getD (i+k) 0:Nat):Int))=(z:Int):=by rw[wrapU];omega
   rw[show decide (((i+k:Nat):Int)<(ds.length:Int))=true from by rw[qby];omega,cond_true,U,qbv,e2,qbv,kc,qbv,ex,w2];exact K
  ·have e0:ds.getD (i+k) 0=0:=by simp[List.getD,List.getElem?_eq_none (show ds.length<=i+k by omega)]
   rw[e0,Nat.zero_add]at Q;rw[show decide (((i+k:Nat):Int)<(ds.length:Int))=false from by rw[qbx];omega,cond_false,Q];exact K
theorem k1h{h0:AH}{s:Sl}{ds:List Nat}(n:Nats h0 s ds)(H:∀z∈ds,z<D)(U:Trim ds)(W:ds.length<=536870912):∀(f i:Nat),ds.length<=i+4*f->i<=ds.length+4->∀{h:AH}{o:Sl}{os:List Nat},Mine h0 h o kf 1 (os.map u64)->os.length<=i->(∀z∈os,z<18446744073709551616)->os++digs B (num D (ds.drop i))=digs B (num D ds)->
  ∃(G:Sl)(h':AH),go (.pt kcp kla [(0,s.v),(4,o.v),(5,.i (i:Int))]) h=some (.tup [G.v,.bool (decide ((digs B (num D ds)).length<=64))],h')/\Nats h' G (digs B (num D ds))/\Grow h0 h'/\Own h0 G
 | f,i,I,Z,h,o,os,M,aa,y,inv=>by
  by_cases hi:i<ds.length
  ·match f,I with
   | 0,I=>omega
   | f+1,I =>
    rw[kxs,n.len,show decide ((i:Int)<(ds.length:Int))=true from by rw[qby];omega,cond_true];obtain⟨G,h',V,M'⟩:=k03 n H (i:=i) (by omega) 4 (by omega) M (by omega);have F:num D (((ds.drop i).take 4).drop 4)=0:=by rw[List.drop_of_length_le (by rw[qci];omega)];rfl
    rw[F]at V
    have K:ds.drop i≠[]:=by intro e;have:=congrArg List.length e;simp at this;omega
    have Q:=kboo (λz F=>H z (List.mem_of_mem_drop F)) (kz3 U i) K;rw[List.drop_drop]at Q
    obtain⟨o2,h2,e2,r2⟩:=k1h n H U W f (i+4) (by omega) (by omega) M' (by simp;omega) (λz F=>by
     rcases qb7.1 F with h1 | h1
     ·exact y z h1
     ·have:=kbr B2 (num D (ds.drop i));rw[Q]at this;simp at h1;subst h1;exact this _ (by simp)) (by rw[<- inv,Q];simp)
    exact⟨o2,h2,V.trans e2,r2⟩
  ·rw[kxs,n.len,show decide ((i:Int)<(ds.length:Int))=false from by rw[qbx];omega,cond_false];rw[List.drop_of_length_le (by omega),show num D ([]:List Nat)=0 from rfl,kbo,List.append_nil]at inv
   have N:Nats h o (digs B (num D ds)):=by rw[<- inv];exact⟨M.cells,y,by omega⟩
   refine⟨o,h,?_,N,M.grow,M.own_of⟩;rw[N.len,show decide (((digs B (num D ds)).length:Int)<=64)=decide ((digs B (num D ds)).length<=64)from by rw[decide_eq_decide];omega]
theorem ksg{h:AH}{s:Sl}{ds:List Nat}(n:Nats h s ds)(F:∀z∈ds,z<D)(G:Trim ds)(H:ds.length<=536870912):∃(y:Sl)(h':AH),go (.fn kcp [s.v]) h=some (.tup [y.v,.bool (decide ((digs B (num D ds)).length<=64))],h')/\Nats h' y (digs B (num D ds))/\Grow h h'/\Own h y:=by rw[kbk0];exact k1h n F G H ds.length 0 (by omega) (by omega) (os:=[]) (Mine.nil h kf 1) (by simp) (by simp) (by simp)
theorem kbas{h:AH}{s:Sl}{ds:List Nat}(n:Nats h s ds)(H:∀z∈ds,z<D)(I:Trim ds)(K:ds.length<=536870912):∃(y:Sl)(h':AH),go (.fn kvf [s.v]) h=some (.tup [y.v,.i (told (num D ds)).2],h')/\Nats h' y (told (num D ds)).1/\Grow h h'/\Own h y:=by
 rw[kbli];obtain⟨y,h',Q,n1,G,U⟩:=ksg n H I K;rw[Q];simp only[qbv,kgf,asSl_v,kc9];unfold told;by_cases F:num D ds<B^64
 ·have:=(kbc B2 (num D ds) 64).2 F;rw[if_pos F,show decide ((digs B (num D ds)).length<=64)=true from qbz this];exact⟨y,h',rfl,n1,G,U⟩
 ·have:¬(digs B (num D ds)).length<=64:=λh=>F ((kbc B2 _ _).1 h);rw[if_neg F,show decide ((digs B (num D ds)).length<=64)=false from qb0 this];exact⟨⟨none,0,.is 0⟩,h',rfl,qu _,G,qr h⟩
theorem kn4{xs:List Nat}(y:∀x∈xs,x<18446744073709551616)(z:xs.length<=64):(digs D (num B xs)).length<=256:=by
 rw[kbc D2];have h1:=num_lt (b:=B) (by decide) y;have h2:B^xs.length<=B^64:=Nat.pow_le_pow_right (by decide) z;have F:B^64=D^256:=by decide +kernel
 omega
theorem kbm4{h:AH}{s t:Sl}{xs ys:List Nat}(n:Nats h s xs)(m:Nats h t ys):∃(s':Sl)(h':AH),go (.fn kwj [s.v,t.v]) h=some (.tup [s'.v,.i (addN xs ys).2],h')/\Nats h' s' (addN xs ys).1/\Grow h h'/\Own h s':=by
 rw[kbit,kq3 n,qbv,qbv,kc9,qbv,kq3 m,qbv,qbv,kc9,qbv];cases y:rt xs with
 | false=>exact⟨⟨none,0,.is 0⟩,h,by simp[addN,y],by simpa[addN,y]using qu h,qk h,qr h⟩
 | true =>
  cases z:rt ys with
  | false=>exact⟨⟨none,0,.is 0⟩,h,by simp[addN,z],by simpa[addN,z]using qu h,qk h,qr h⟩
  | true =>
   simp only[Bool.not_true,cond_false];rw[show addN xs ys=told (num B xs+num B ys)from by simp[addN,y,z]];have U:=(rt_iff.1 y).1;have V:=(rt_iff.1 z).1;obtain⟨d1,h1,W,n1,F,o1⟩:=kq6 n (by omega);obtain⟨d2,h2,Z,n2,G,o2⟩:=kq6 (m.grow F) (by omega);have k1:=kn4 n.lt U;have k2:=kn4 m.lt V;obtain⟨d3,h3,e3,H,I,o3⟩:=kbgy (n1.grow G) n2 (kbr D2 _) (kbr D2 _) (by omega) (by omega);rw[kg D2,kg D2]at H
   have k3:(digs D (num B xs+num B ys)).length<=536870912:=by have:=ktk D2 (num B xs) (num B ys);omega
   obtain⟨d4,h4,K,Q,g4,o4⟩:=kbas H (kbr D2 _) (kej D2 _) k3;rw[kg D2]at K Q;refine⟨d4,h4,?_,Q,F.trans (G.trans (I.trans g4)),o4.of_le (F.trans (G.trans I))⟩;simp only[W,Z,e3,K,qbv,asSl_v,kgf,kc]
theorem koy{h:AH}{i:Nat}{a b:Sl}{xs ys:List Nat}{p q:Bool}(c:h.has i [.bool p,a.v,.bool q,b.v] ku)(n:Nats h a xs)(m:Nats h b ys):∃h',go (.fn kjj [(⟨some (.new i 0),2,.is 2⟩:Sl).v]) h=some (.bool (rtI p xs&&rtI q ys),h')/\Grow h h':=by
 have r:IRows h ⟨some (.new i 0),2,.is 2⟩ [(p,a,xs),(q,b,ys)]:=⟨qp c rfl,λr y=>by
  simp at y;rcases y with rfl | rfl
  ·exact n
  ·exact m,by simp⟩
 obtain⟨h',e,g⟩:=kbaq r;exact⟨h',by rw[e];simp,g⟩
def kb1(a1:Bool)(x2:List Nat)(a3:Bool)(x4:List Nat):Bool×List Nat×Int:=cond (!((rtI a1 x2&&rtI a3 x4))) ((false,[],1)) (cond (a1==a3) (((((fromI a1 ((addN x2 x4).1)).1)),(fromI a1 ((addN x2 x4).1)).2,((addN x2 x4).2))) (cond (decide ((cmpN x2 x4)<0)) (((((fromI a3 ((subN x4 x2).1)).1)),(fromI a3 ((subN x4 x2).1)).2,((subN x4 x2).2))) (((((fromI a1 ((subN x2 x4).1)).1)),(fromI a1 ((subN x2 x4).1)).2,((subN x2 x4).2)))))
theorem k87{h:AH}{a2:Sl}{x2:List Nat}{a4:Sl}{x4:List Nat}(n2:Nats h a2 x2)(n4:Nats h a4 x4)(a1 a3:Bool):Runs (go (.fn kwr [.agg [.bool a1,a2.v],.agg [.bool a3,a4.v]]) h) λv h'=>∃s1:Sl,v=.tup [.agg [.bool (kb1 a1 x2 a3 x4).1,s1.v],.i (kb1 a1 x2 a3 x4).2.2]/\Nats h' s1 ((kb1 a1 x2 a3 x4).2.1)/\Grow h h'/\Own h s1:=by
 rw[kbmw];refine qz λH5 W K=>?_;refine qz λH6 b6 I=>?_;refine qz λH7 b7 H=>?_;refine qy (qbe ((I.trans H).has W) 0 rfl rfl) (qy (qbe ((I.trans H).has W) 1 rfl qcq) (qy (qbe (H.has b6) 0 rfl rfl) (qy (qbe (H.has b6) 1 rfl qcq) ?_)));refine qz λH8 b8 G=>?_;obtain⟨H9,e9,F⟩:=koy b8 (n2.grow (((K.trans I).trans H).trans G)) (n4.grow (((K.trans I).trans H).trans G));refine qy e9 (qy (seen rfl) ?_);refine qbc (λae=>?_) (λae=>?_)
 ·refine q0 ((G.trans F).has b7) rfl λcm aw ax=>?_;have bq:=qw (F.has b8) (Nat.ne_of_gt (qbt (b7).lt (qbr _))) ax;refine qy (qbe aw 0 rfl rfl) (qy (qbe aw 1 rfl qcq) ?_);have z:kb1 a1 x2 a3 x4=(false,[],1):=by unfold kb1;exact(condT ae).trans rfl
  rw[z];exact qx ⟨(⟨none,0,.is 0⟩:Sl),rfl,(qu _),(((((K.trans I).trans H).trans G).trans F).updr (qbs ((K.trans I)).size (qbr _)) ax),(qr _)⟩
 ·refine qy (qbe ((((I.trans H).trans G).trans F).has W) 0 rfl rfl) (qy (qbe (((H.trans G).trans F).has b6) 0 rfl rfl) ?_);refine qbc (λag=>?_) (λag=>?_)
  ·refine qy (qbe ((((I.trans H).trans G).trans F).has W) 1 rfl qcq) (qy (qbe (((H.trans G).trans F).has b6) 1 rfl qcq) ?_);obtain⟨cn,br,ao,ay,y,bu⟩:=kqi (n2.grow ((((K.trans I).trans H).trans G).trans F)) (n4.grow ((((K.trans I).trans H).trans G).trans F));refine qy ao (qy rfl (qy (seen qcq) (qy (seen qcr) (qy (qbe (((((I.trans H).trans G).trans F).trans y).has W) 0 rfl rfl) ?_))));obtain⟨bv,cp,bw,bx,ah,az⟩:=kcb ay a1;refine qy bw (qy rfl ?_);refine qba rfl ?_;refine qy (seenAt rfl rfl) (qy (seenAt rfl qcq) ?_);refine q0 ((((G.trans F).trans y).trans ah).has b7) rfl λa0 ai Q=>?_;have bh:=(ay.grow ah).upda (qbi bu ((G.trans F).has b7).lt) Q;have aj:=bx.upda (qbi az (((G.trans F).trans y).has b7).lt) Q;have af:=qw (((F.trans y).trans ah).has b8) (Nat.ne_of_gt (qbt (b7).lt (qbr _))) Q;refine qy (qbe ai 0 rfl rfl) (qy (qbe ai 1 rfl qcq) ?_);have z:kb1 a1 x2 a3 x4=((((fromI a1 ((addN x2 x4).1)).1)),(fromI a1 ((addN x2 x4).1)).2,((addN x2 x4).2)):=by unfold kb1;exact(condF ae).trans ((condT ag).trans rfl)
   rw[z];exact qx ⟨bv,rfl,aj,(((((((K.trans I).trans H).trans G).trans F).trans y).trans ah).updr (qbs ((K.trans I)).size (qbr _)) Q),(az.of_le (((((K.trans I).trans H).trans G).trans F).trans y))⟩
  ·refine qy (qbe ((((I.trans H).trans G).trans F).has W) 1 rfl qcq) (qy (qbe (((H.trans G).trans F).has b6) 1 rfl qcq) ?_);obtain⟨br,ao,y⟩:=keg (n2.grow ((((K.trans I).trans H).trans G).trans F)) (n4.grow ((((K.trans I).trans H).trans G).trans F));refine qy ao (qy (seen qcr) ?_);refine qbc (λap=>?_) (λap=>?_)
   ·refine qy (qbe ((((H.trans G).trans F).trans y).has b6) 0 rfl rfl) (qy (qbe ((((H.trans G).trans F).trans y).has b6) 1 rfl qcq) (qy (qbe (((((I.trans H).trans G).trans F).trans y).has W) 0 rfl rfl) (qy (qbe (((((I.trans H).trans G).trans F).trans y).has W) 1 rfl qcq) ?_)));refine q0 (((((I.trans H).trans G).trans F).trans y).has W) rfl λa0 ai Q=>?_;have aq:=qw ((((H.trans G).trans F).trans y).has b6) (Nat.ne_of_gt (qbt (W).lt (qbr _))) Q;have ar:=qw (((G.trans F).trans y).has b7) (Nat.ne_of_gt (qbt (I.has W).lt (qbr _))) Q;have af:=qw ((F.trans y).has b8) (Nat.ne_of_gt (qbt ((I.trans H).has W).lt (qbr _))) Q;refine q0 aq rfl λbz ba Z=>?_;have U:=qw ai (Nat.ne_of_lt (qbt (W).lt (qbr _))) Z;have aa:=qw ar (Nat.ne_of_gt (qbt (b6).lt (qbr _))) Z;have au:=qw af (Nat.ne_of_gt (qbt (H.has b6).lt (qbr _))) Z;refine qy (qbe U 1 rfl qcq) (qy (qbe ba 1 rfl qcq) ?_);obtain⟨cq,b0,b9,bb,V,ca⟩:=kjw (n4.grow (((((((K.trans I).trans H).trans G).trans F).trans y).updr (qbr _) Q).updr (qbs (K).size (qbr _)) Z)) (n2.grow (((((((K.trans I).trans H).trans G).trans F).trans y).updr (qbr _) Q).updr (qbs (K).size (qbr _)) Z));refine qy b9 (qy rfl (qy (seen qcq) (qy (seen qcr) (qy (qbe (V.has U) 0 rfl rfl) ?_))));obtain⟨cb,cr,cc,cd,ab,bc⟩:=kcb bb a3;refine qy cc (qy rfl ?_);refine qba rfl ?_;refine qy (seenAt rfl rfl) (qy (seenAt rfl qcq) ?_);refine q0 ((V.trans ab).has aa) rfl λct bd ac=>?_;have bi:=(bb.grow ab).upda (qbi ca (aa).lt) ac;have ak:=cd.upda (qbi bc (V.has aa).lt) ac;have bj:=qw ((V.trans ab).has U) (Nat.ne_of_lt (qbt (I.has W).lt (qbr _))) ac;have bk:=qw ((V.trans ab).has ba) (Nat.ne_of_lt (qbt (b6).lt (qbr _))) ac;have ce:=qw ((V.trans ab).has au) (Nat.ne_of_gt (qbt (b7).lt (qbr _))) ac;refine qy (qbe bd 0 rfl rfl) (qy (qbe bd 1 rfl qcq) ?_);have z:kb1 a1 x2 a3 x4=((((fromI a3 ((subN x4 x2).1)).1)),(fromI a3 ((subN x4 x2).1)).2,((subN x4 x2).2)):=by unfold kb1;exact(condF ae).trans ((condF ag).trans ((condT ap).trans rfl))
    rw[z];exact qx ⟨cb,rfl,ak,((((((((((K.trans I).trans H).trans G).trans F).trans y).updr (qbr _) Q).updr (qbs (K).size (qbr _)) Z).trans V).trans ab).updr (qbs ((K.trans I)).size (qbr _)) ac),(bc.of_le ((((((((K.trans I).trans H).trans G).trans F).trans y).updr (qbr _) Q).updr (qbs (K).size (qbr _)) Z).trans V))⟩
   ·refine qy (qbe (((((I.trans H).trans G).trans F).trans y).has W) 1 rfl qcq) (qy (qbe ((((H.trans G).trans F).trans y).has b6) 1 rfl qcq) ?_);obtain⟨cu,a0,cf,be,ad,ch⟩:=kjw (n2.grow (((((K.trans I).trans H).trans G).trans F).trans y)) (n4.grow (((((K.trans I).trans H).trans G).trans F).trans y));refine qy cf (qy rfl (qy (seen qcq) (qy (seen qcr) (qy (qbe ((((((I.trans H).trans G).trans F).trans y).trans ad).has W) 0 rfl rfl) ?_))));obtain⟨ci,bz,cj,ck,al,bf⟩:=kcb be a1;refine qy cj (qy rfl ?_);refine qba rfl ?_;refine qy (seenAt rfl rfl) (qy (seenAt rfl qcq) ?_);refine q0 (((((G.trans F).trans y).trans ad).trans al).has b7) rfl λb0 bg am=>?_;have bn:=(be.grow al).upda (qbi ch (((G.trans F).trans y).has b7).lt) am;have an:=ck.upda (qbi bf ((((G.trans F).trans y).trans ad).has b7).lt) am;have cl:=qw ((((F.trans y).trans ad).trans al).has b8) (Nat.ne_of_gt (qbt (b7).lt (qbr _))) am;refine qy (qbe bg 0 rfl rfl) (qy (qbe bg 1 rfl qcq) ?_);have z:kb1 a1 x2 a3 x4=((((fromI a1 ((subN x2 x4).1)).1)),(fromI a1 ((subN x2 x4).1)).2,((subN x2 x4).2)):=by unfold kb1;exact(condF ae).trans ((condF ag).trans ((condF ap).trans rfl))
    rw[z];exact qx ⟨ci,rfl,an,((((((((K.trans I).trans H).trans G).trans F).trans y).trans ad).trans al).updr (qbs ((K.trans I)).size (qbr _)) am),(bf.of_le ((((((K.trans I).trans H).trans G).trans F).trans y).trans ad))⟩
theorem rtI_rt{p:Bool}{xs:List Nat}(h:rtI p xs=true):rt xs=true:=by unfold rtI at h;revert h;cases rt xs<;>simp
def kbd(a1:Bool)(x2:List Nat)(a3:Bool)(x4:List Nat):Bool×List Nat×Int:=cond (!((rtI a1 x2&&rtI a3 x4))) ((false,[],1)) (((((kb1 a1 x2 ((negI a3 x4).1) ((negI a3 x4).2)).1)),(kb1 a1 x2 ((negI a3 x4).1) ((negI a3 x4).2)).2.1,((kb1 a1 x2 ((negI a3 x4).1) ((negI a3 x4).2)).2.2)))
theorem k55{h:AH}{a2:Sl}{x2:List Nat}{a4:Sl}{x4:List Nat}(n2:Nats h a2 x2)(n4:Nats h a4 x4)(a1 a3:Bool):Runs (go (.fn krf [.agg [.bool a1,a2.v],.agg [.bool a3,a4.v]]) h) λv h'=>∃s1:Sl,v=.tup [.agg [.bool (kbd a1 x2 a3 x4).1,s1.v],.i (kbd a1 x2 a3 x4).2.2]/\Nats h' s1 ((kbd a1 x2 a3 x4).2.1)/\Grow h h'/\Own h s1:=by
 rw[k9b];refine qz λH5 b5 K=>?_;refine qz λH6 b6 I=>?_;refine qz λH7 Z y=>?_;refine qy (qbe ((I.trans y).has b5) 0 rfl rfl) (qy (qbe ((I.trans y).has b5) 1 rfl qcq) (qy (qbe (y.has b6) 0 rfl rfl) (qy (qbe (y.has b6) 1 rfl qcq) ?_)));refine qz λH8 b8 F=>?_;obtain⟨H9,e9,G⟩:=koy b8 (n2.grow (((K.trans I).trans y).trans F)) (n4.grow (((K.trans I).trans y).trans F));refine qy e9 (qy (seen rfl) ?_);refine qbc (λW=>?_) (λW=>?_)
 ·refine q0 ((F.trans G).has Z) rfl λaf aa ab=>?_;have ag:=qw (G.has b8) (Nat.ne_of_gt (qbt (Z).lt (qbr _))) ab;refine qy (qbe aa 0 rfl rfl) (qy (qbe aa 1 rfl qcq) ?_);have z:kbd a1 x2 a3 x4=(false,[],1):=by unfold kbd;exact(condT W).trans rfl
  rw[z];exact qx ⟨(⟨none,0,.is 0⟩:Sl),rfl,(qu _),(((((K.trans I).trans y).trans F).trans G).updr (qbs ((K.trans I)).size (qbr _)) ab),(qr _)⟩
 ·refine qy (qbe ((((I.trans y).trans F).trans G).has b5) 0 rfl rfl) (qy (qbe ((((I.trans y).trans F).trans G).has b5) 1 rfl qcq) (qy (qbe (((y.trans F).trans G).has b6) 0 rfl rfl) (qy (qbe (((y.trans F).trans G).has b6) 1 rfl qcq) ?_)));obtain⟨an,af,ah,ac,H,ai⟩:=kbhs (n4.grow ((((K.trans I).trans y).trans F).trans G)) a3;refine qy ah (qy rfl ?_);refine qba rfl ?_;refine qy (seenAt rfl rfl) (qy (seenAt rfl qcq) ?_);refine qbd (H.same ((((I.trans y).trans F).trans G).has b5) 0 2) ?_;obtain⟨_,ao,aj,ak,rfl,al,Q,ad⟩:=k87 (n2.grow (((((K.trans I).trans y).trans F).trans G).trans H)) ac a1 ((negI a3 x4).1);refine qy aj (qy rfl (qy rfl ?_));refine qba rfl ?_;refine qy (seenAt rfl rfl) (qy (seenAt rfl qcq) (qy (seen qcr) ?_));refine q0 ((((F.trans G).trans H).trans Q).has Z) rfl λap b13 U=>?_;have ae:=(ac.grow Q).upda (qbi ai ((F.trans G).has Z).lt) U;have V:=al.upda (qbi ad (((F.trans G).trans H).has Z).lt) U;have am:=qw (((G.trans H).trans Q).has b8) (Nat.ne_of_gt (qbt (Z).lt (qbr _))) U;refine qy (qbe b13 0 rfl rfl) (qy (qbe b13 1 rfl qcq) ?_);have z:kbd a1 x2 a3 x4=((((kb1 a1 x2 ((negI a3 x4).1) ((negI a3 x4).2)).1)),(kb1 a1 x2 ((negI a3 x4).1) ((negI a3 x4).2)).2.1,((kb1 a1 x2 ((negI a3 x4).1) ((negI a3 x4).2)).2.2)):=by unfold kbd;exact(condF W).trans rfl
  rw[z];exact qx ⟨ak,rfl,V,(((((((K.trans I).trans y).trans F).trans G).trans H).trans Q).updr (qbs ((K.trans I)).size (qbr _)) U),(ad.of_le (((((K.trans I).trans y).trans F).trans G).trans H))⟩
end Go.Ab
set_option maxRecDepth 10000
namespace Go.Ab
open IntKind (wrap)
open Go.Proofs Go.Num
theorem kb9(x n:Nat):ishr .u64 (x:Int) (n:Int)=((x/2^min n 64:Nat):Int):=by
 unfold ishr;rw[Int.toNat_natCast,show IntKind.bits .u64=64 from rfl];have:((2:Int)^min n 64)=((2^min n 64:Nat):Int):=by simp
 rw[this,Int.fdiv_eq_ediv_of_nonneg _ (Int.natCast_nonneg _)];exact(Int.natCast_ediv _ _).symm
theorem kmg{x:Nat}(y:x<18446744073709551616):iand .u64 (x:Int) 4294967295=((x%4294967296:Nat):Int):=by unfold iand;rw[show IntKind.bits .u64=64 from rfl,wrapU];have z:BitVec.ofInt 64 (x:Int)=BitVec.ofNat 64 x:=rfl;have F:BitVec.ofInt 64 4294967295=BitVec.ofNat 64 4294967295:=rfl;rw[z,F,BitVec.toNat_and,BitVec.toNat_ofNat,BitVec.toNat_ofNat];rw[Nat.mod_eq_of_lt (show x<2^64 from y),Nat.mod_eq_of_lt (show 4294967295<2^64 from by decide)];rw[show(4294967295:Nat)=2^32-1 from rfl,Nat.and_two_pow_sub_one_eq_mod];have:=Nat.mod_lt x (show 0<2^32 by decide);omega
def mul64(a1 a2:Int):Int×Int:=((wrap .u64 ((wrap .u64 ((wrap .u64 ((ishr .u64 a1 32)*(ishr .u64 a2 32)))+(ishr .u64 (wrap .u64 ((wrap .u64 ((ishr .u64 a1 32)*(iand .u64 a2 4294967295)))+(ishr .u64 (wrap .u64 ((iand .u64 a1 4294967295)*(iand .u64 a2 4294967295))) 32))) 32)))+(ishr .u64 (wrap .u64 ((iand .u64 (wrap .u64 ((wrap .u64 ((ishr .u64 a1 32)*(iand .u64 a2 4294967295)))+(ishr .u64 (wrap .u64 ((iand .u64 a1 4294967295)*(iand .u64 a2 4294967295))) 32))) 4294967295)+(wrap .u64 ((iand .u64 a1 4294967295)*(ishr .u64 a2 32))))) 32))),wrap .u64 (a1*a2))
theorem kwb(a1 a2:Int){h:AH}:go (.fn knt [.int .u64 a1,.int .u64 a2]) h=some (.tup [.int .u64 (mul64 a1 a2).1,.int .u64 (mul64 a1 a2).2],h):=kbn4 a1 a2 h
theorem kbn9(x1 z y F:Nat):(x1*4294967296+z)*(y*4294967296+F)=x1*y*18446744073709551616+(x1*F+z*y)*4294967296+z*F:=by
 rw[Nat.add_mul,Nat.mul_add,Nat.mul_add]
 have G:x1*4294967296*(y*4294967296)=x1*y*18446744073709551616:=by rw[Nat.mul_mul_mul_comm]
 have H:x1*4294967296*F=x1*F*4294967296:=by rw[Nat.mul_right_comm]
 have I:z*(y*4294967296)=z*y*4294967296:=by rw[Nat.mul_assoc]
 rw[G,H,I];omega
theorem kxc{x y:Nat}(I:x<B)(K:y<B):mul64 (x:Int) (y:Int)=(((x*y/B:Nat):Int),((x*y%B:Nat):Int)):=by
 have I:x<18446744073709551616:=I;have K:y<18446744073709551616:=K;unfold mul64;have s1:=kb9 x 32;have s2:=kb9 y 32;have a1:=kmg I;have a2:=kmg K;have H:(2:Nat)^min 32 64=4294967296:=rfl;rw[H]at s1 s2;rw[show((32:Nat):Int)=32 from rfl]at s1 s2;rw[s1,s2,a1,a2];generalize aa:x/4294967296=x1;generalize ab:x%4294967296=z;generalize ac:y/4294967296=F;generalize ad:y%4294967296=G;have ex:x=x1*4294967296+z:=by omega
 have ey:y=F*4294967296+G:=by omega
 have U:x1<=4294967295:=by omega
 have V:z<=4294967295:=by omega
 have W:F<=4294967295:=by omega
 have Z:G<=4294967295:=by omega
 have b1:x1*F<=4294967295*4294967295:=Nat.mul_le_mul U W;have b2:x1*G<=4294967295*4294967295:=Nat.mul_le_mul U Z;have b3:z*F<=4294967295*4294967295:=Nat.mul_le_mul V W;have b4:z*G<=4294967295*4294967295:=Nat.mul_le_mul V Z;have key:=kbn9 x1 z F G;rw[<- ex,<- ey]at key;have w1:wrap .u64 (((z:Nat):Int)*((G:Nat):Int))=((z*G:Nat):Int):=by rw[wrapU,<- Int.natCast_mul];omega
 have w2:wrap .u64 (((x1:Nat):Int)*((G:Nat):Int))=((x1*G:Nat):Int):=by rw[wrapU,<- Int.natCast_mul];omega
 have w3:wrap .u64 (((z:Nat):Int)*((F:Nat):Int))=((z*F:Nat):Int):=by rw[wrapU,<- Int.natCast_mul];omega
 have w4:wrap .u64 (((x1:Nat):Int)*((F:Nat):Int))=((x1*F:Nat):Int):=by rw[wrapU,<- Int.natCast_mul];omega
 rw[w1,w2,w3,w4]
 have lo:wrap .u64 ((x:Int)*(y:Int))=((x*y%B:Nat):Int):=by rw[wrapU,<- Int.natCast_mul];rfl
 rw[lo];generalize z*G=p at *
 generalize x1*G=q at *
 generalize z*F=u at *
 generalize x1*F=v at *
 have s3:=kb9 p 32;rw[H]at s3;rw[show((32:Nat):Int)=32 from rfl]at s3;rw[s3];have w5:wrap .u64 (((q:Nat):Int)+((p/4294967296:Nat):Int))=((q+p/4294967296:Nat):Int):=by rw[wrapU];omega
 rw[w5];have ht:q+p/4294967296<18446744073709551616:=by omega
 have Q:=kb9 (q+p/4294967296) 32;rw[H]at Q;rw[show((32:Nat):Int)=32 from rfl]at Q;rw[Q,kmg ht];generalize ae:q+p/4294967296=t at *
 have w6:wrap .u64 (((t%4294967296:Nat):Int)+((u:Nat):Int))=((t%4294967296+u:Nat):Int):=by rw[wrapU];omega
 rw[w6];have s5:=kb9 (t%4294967296+u) 32;rw[H]at s5;rw[show((32:Nat):Int)=32 from rfl]at s5;rw[s5];have w7:wrap .u64 (((v:Nat):Int)+((t/4294967296:Nat):Int))=((v+t/4294967296:Nat):Int):=by rw[wrapU];omega
 rw[w7];have w8:wrap .u64 (((v+t/4294967296:Nat):Int)+(((t%4294967296+u)/4294967296:Nat):Int))=((v+t/4294967296+(t%4294967296+u)/4294967296:Nat):Int):=by rw[wrapU];omega
 rw[w8]
 have hi:v+t/4294967296+(t%4294967296+u)/4294967296=x*y/18446744073709551616:=by rw[key];omega
 rw[hi]
inductive kfk
 | fn (x1:List Nat) (x2:List Nat)
 | p3 (x1:List Nat) (x2:List Nat) (x3:List Nat) (a4:Int) (a5:Int)
 | p7 (x1:List Nat) (x2:List Nat) (a3:Int) (a4:Int) (a5:Int) (x6:List Nat) (a7:Int) (a8:Int) (x9:List Nat) (a10:Int) (a11:Int)
abbrev kda:=List Nat
noncomputable def kmy(x1 x2:List Nat):Option (kfk⊕kda):=(mkI (wrap .i64 ((List.length x1:Int)+(List.length x2:Int))) (wrap .i64 ((List.length x1:Int)+(List.length x2:Int)))).bind λy=>some (.inl (.p3 x2 (List.replicate y 0) x1 (List.length x1:Int) 0))
noncomputable def kh0(x1 x2 x3:List Nat)(a4 a5:Int):Option (kfk⊕kda):=cond (decide (a5<a4)) ((atI x3 a5).bind λy=>some (.inl (.p7 x1 x2 a5 ((y:Int)) 0 x3 a4 a5 x1 (List.length x1:Int) 0))) (some (.inr (digs B (num B x2))))
noncomputable def kje(x1 x2:List Nat)(a3 a4 a5:Int)(x6:List Nat)(a7 a8:Int)(x9:List Nat)(a10 a11:Int):Option (kfk⊕kda):=cond (decide (a11<a10)) ((atI x9 a11).bind λy=>(inI (List.length x2) (wrap .i64 (a3+a11))).bind λz=>(add64P ((mul64 a4 ((y:Int))).2) (((List.getD x2 z 0:Nat):Int)) 0).bind λp16=>(add64P (p16.1) a5 0).bind λp17=>(inI (List.length x2) (wrap .i64 (a3+a11))).bind λF=>(u64P (p17.1)).bind λG=>some (.inl (.p7 x1 (List.set x2 F G) a3 a4 (wrap .u64 ((wrap .u64 (((mul64 a4 ((y:Int))).1)+(p16.2)))+(p17.2))) x6 a7 a8 x9 a10 (wrap .i64 (a11+1))))) ((inI (List.length x2) (wrap .i64 (a3+(List.length x1:Int)))).bind λH=>(u64P a5).bind λI=>some (.inl (.p3 x1 (List.set x2 H I) x6 a7 (wrap .i64 (a8+1)))))
noncomputable def kmr:kfk->Option (kfk⊕kda)
 | .fn x1 x2=>kmy x1 x2
 | .p3 x1 x2 x3 a4 a5=>kh0 x1 x2 x3 a4 a5
 | .p7 x1 x2 a3 a4 a5 x6 a7 a8 x9 a10 a11=>kje x1 x2 a3 a4 a5 x6 a7 a8 x9 a10 a11
@[reducible] def ktt(h0:AH)(r:kda)(v:AV)(h':AH):Prop:=∃s1:Sl,v=s1.v/\Nats h' s1 r/\Grow h0 h'/\Own h0 s1
def kit(r:kda):kfk->Prop
 | .fn x1 x2=>∀{h:AH}{a1:Sl}{a2:Sl},Nats h a1 x1->Nats h a2 x2->Runs (go (.fn kc8 [a1.v,a2.v]) h) (ktt h r)
 | .p3 x1 x2 x3 a4 a5=>∀{h0 h:AH}{a1:Sl}{a2:Sl}{a3:Sl}{i2:Nat},Grow h0 h->Nats h a1 x1->Vec h a2 i2 x2->Nats h a3 x3->h0.blks.size<=i2->Av a1 i2 x1->Av a3 i2 x3->Runs (go (.pt kc8 ko6 [(1,a1.v),(5,a2.v),(20,a3.v),(21,.i a4),(22,.i a5)]) h) (ktt h0 r)
 | .p7 x1 x2 a3 a4 a5 x6 a7 a8 x9 a10 a11=>∀{h0 h:AH}{a1:Sl}{a2:Sl}{a6:Sl}{a9:Sl}{i2:Nat},Grow h0 h->Nats h a1 x1->Vec h a2 i2 x2->Nats h a6 x6->Nats h a9 x9->h0.blks.size<=i2->Av a1 i2 x1->Av a6 i2 x6->Av a9 i2 x9->Runs (go (.pt kc8 kpq [(1,a1.v),(5,a2.v),(6,.i a3),(7,.int .u64 a4),(8,.int .u64 a5),(20,a6.v),(21,.i a7),(22,.i a8),(27,a9.v),(28,.i a10),(29,.i a11)]) h) (ktt h0 r)
theorem kbq2{r:kda}{o:kfk⊕kda}{x1 x2:List Nat}(e:kmy x1 x2=some o)(y:GoodS (kit r) r o):kit r (.fn x1 x2):=by intro h a1 a2 n1 n2;rw[kbra];unfold kmy at e;rw[n1.len];rw[n2.len];obtain⟨H,F,e⟩:=qbw.1 e;refine Runs.mk F kcz λs3 I G z=>?_;cases e;exact y z (n2.grow z) G (n1.grow z) (qbr _) (qbh n2 (qbr _)) (qbh n1 (qbr _))
theorem k9d{r:kda}{o:kfk⊕kda}{x1 x2 x3:List Nat}{a4 a5:Int}(e:kh0 x1 x2 x3 a4 a5=some o)(z:GoodS (kit r) r o):kit r (.p3 x1 x2 x3 a4 a5):=by
 intro h0 h a1 a2 a3 i2 Q n1 H I G y F;rw[k6t];unfold kh0 at e;rw[n1.len];rw[I.len];refine qbc (λK=>?_) (λK=>?_)
 ·replace e:=(condT K).symm.trans e;obtain⟨y7,U,e⟩:=qbw.1 e;obtain⟨r7,V,W⟩:=I.atI U;refine qy V (qy (rdc W qcr) ?_);cases e;exact z Q n1 H I n1 G y F y
 ·replace e:=(condF K).symm.trans e;obtain⟨s7,Z,n7,o7⟩:=kd0 H.nats;refine qy Z (qy (seen qcq) ?_);cases e;cases z;exact qx ⟨s7,rfl,n7,Q,((o7 _ (H.own G)).of_le (qk _))⟩
theorem k8p{r:kda}{o:kfk⊕kda}{x1 x2:List Nat}{a3 a4 a5:Int}{x6:List Nat}{a7 a8:Int}{x9:List Nat}{a10 a11:Int}(e:kje x1 x2 a3 a4 a5 x6 a7 a8 x9 a10 a11=some o)(Q:GoodS (kit r) r o):kit r (.p7 x1 x2 a3 a4 a5 x6 a7 a8 x9 a10 a11):=by
 intro h0 h a1 a2 a6 a9 i2 g0 n1 U n6 n9 G y z F;rw[kbot];unfold kje at e;rw[n1.len];rw[U.nats.len];rw[n9.len];refine qbc (λV=>?_) (λV=>?_)
 ·replace e:=(condT V).symm.trans e;obtain⟨ag,H,e⟩:=qbw.1 e;obtain⟨ap,ad,ah⟩:=n9.atI H;refine qy ad (qy (rdc ah qcr) (qy (kwb a4 ((ag:Int))) (qy rfl (qy (seen qcr) (qy (seen qcr) ?_)))));obtain⟨aq,ae,e⟩:=qbw.1 e;refine qy (U.idx rfl ae) (qy (U.rd rfl ae qcr) ?_);obtain⟨p16,ai,e⟩:=qbw.1 e;refine qy (kfw ai) (qy rfl (qy (seen qcr) (qy (seen qcr) ?_)));obtain⟨p17,aj,e⟩:=qbw.1 e;refine qy (kfw aj) (qy rfl (qy (seen qcr) (qy (seen qcr) ?_)));obtain⟨ar,af,e⟩:=qbw.1 e;refine qy (U.idx rfl af) ?_;obtain⟨au,ak,e⟩:=qbw.1 e;refine qbg U rfl af ak λaw al I=>?_;have W:=n1.upda y I;have Z:=n6.upda z I;have aa:=n9.upda F I;cases e;exact Q (g0.updr G I) W al Z aa G y z F
 ·replace e:=(condF V).symm.trans e;obtain⟨ad,H,e⟩:=qbw.1 e;refine qy (U.idx rfl H) ?_;obtain⟨ax,am,e⟩:=qbw.1 e;refine qbg U rfl H am λay an K=>?_;have ab:=n1.upda y K;have ac:=n6.upda z K;have ao:=n9.upda F K;cases e;exact Q (g0.updr G K) ab an ac G y z
theorem kbga{s:kfk}{r:kda}(z:Iter kmr s r):kit r s:=qbf (λs o e y=>by
 cases s with
 | fn x1 x2=>exact @kbq2 _ _ x1 x2 e y
 | p3 x1 x2 x3 a4 a5=>exact @k9d _ _ x1 x2 x3 a4 a5 e y
 | p7 x1 x2 a3 a4 a5 x6 a7 a8 x9 a10 a11=>exact @k8p _ _ x1 x2 a3 a4 a5 x6 a7 a8 x9 a10 a11 e y
 ) z
end Go.Ab
set_option maxRecDepth 10000
namespace Go.Ab
open Go.Proofs Go.Num
theorem kbig{t o c:Nat}(y:o<18446744073709551616)(z:c<18446744073709551616)(h:(t+o+c)/18446744073709551616<18446744073709551616) :
  ((t%18446744073709551616+o+0)%18446744073709551616+c+0)%18446744073709551616=(t+o+c)%18446744073709551616/\
  IntKind.wrap .u64 (IntKind.wrap .u64 (((t/18446744073709551616:Nat):Int)+(((t%18446744073709551616+o+0)/18446744073709551616:Nat):Int))+((((t%18446744073709551616+o+0)%18446744073709551616+c+0)/18446744073709551616:Nat):Int))=(((t+o+c)/18446744073709551616:Nat):Int):=by
 rw[wrapU,wrapU];omega
def Empty(o:List Nat)(k:Nat):Prop:=∀j (h:j<o.length),k<=j->o[j]=0
theorem Empty.set{o:List Nat}{k j w:Nat}(z:Empty o k)(F:j<k):Empty (o.set j w) k:=λt y hk=>by rw[List.getElem_set_ne (by omega)];exact z t (by simpa using y) hk
theorem set_lt{b:Nat}{o:List Nat}{j w:Nat}(h:∀x∈o,x<b)(y:w<b):∀x∈o.set j w,x<b:=λx z=>by
 rcases List.mem_or_eq_of_mem_set z with h1 | h1
 ·exact h x h1
 ·rw[h1];exact y
theorem k2a{xs ys:List Nat}{r:kda}{i x T:Nat}(I:x<B)(Q:∀y∈ys,y<B)(Z:xs.length+ys.length<=8796093022208)(hi:i<xs.length)
  (K:∀o:List Nat,o.length=xs.length+ys.length->(∀y∈o,y<B)->Empty o (i+1+ys.length)->num B o=T+B^i*(x*num B ys)->Iter kmr (.p3 ys o xs (xs.length:Int) ((i+1:Nat):Int)) r) :
  ∀(d k:Nat),k+d=ys.length->∀(o:List Nat)(c:Nat),o.length=xs.length+ys.length->(∀y∈o,y<B)->Empty o (i+ys.length)->c<B->Row B o i k c x ys T->
   Iter kmr (.p7 ys o (i:Int) (x:Int) (c:Int) xs (xs.length:Int) (i:Int) ys (ys.length:Int) (k:Int)) r
 | 0,k,hk,o,c,lo,to,zo,F,row=>by
  have hk:k=ys.length:=by omega
  subst hk;have z:i+ys.length<o.length:=by omega
  refine .next ?_ (K (o.set (i+ys.length) c) (by simpa using lo) (set_lt to F) ?_ ?_)
  ·show kje _ _ _ _ _ _ _ _ _ _ _=_;unfold kje;rw[condF (by rw[qbx];omega),<- Int.natCast_add,kbe (by omega),kba z,qbv,kbg F,qbv,ki (by omega)]
  ·rw[show i+1+ys.length=i+ys.length+1 from by omega];intro j h1 h2;rw[List.getElem_set_ne (by omega)];exact zo j (by simpa using h1) (by omega)
  ·exact row.stop z (zo _ z (qbr _))
 | d+1,k,hk,o,c,lo,to,zo,F,row=>by
  have G:k<ys.length:=by omega
  have z:i+k<o.length:=by omega
  have U:=Q ys[k] (qb5 _);have V:=to o[i+k] (qb5 _);have H:=kwf I U V F;obtain⟨c1,c2⟩:=kbig V F H;have W:=Nat.mod_lt (x*ys[k]+o[i+k]+c) (show 0<18446744073709551616 by omega);refine .next ?_ (k2a I Q Z hi K d (k+1) (by omega) (o.set (i+k) ((x*ys[k]+o[i+k]+c)%18446744073709551616)) ((x*ys[k]+o[i+k]+c)/18446744073709551616) (by simpa using lo) (set_lt to W) (zo.set (by omega)) H (row.step G z (Nat.div_add_mod' _ _).symm))
  ·show kje _ _ _ _ _ _ _ _ _ _ _=_;unfold kje;rw[condT (by rw[qby];omega),kbv G,qbv,<- Int.natCast_add,kbe (by omega),kba z,qbv,kxc I U];dsimp only;rw[show List.getD o (i+k) 0=o[i+k]from kbp z];have a1:=kg9 (x*ys[k]%B) o[i+k] (c:=0) (by omega);have a2:=kg9 ((x*ys[k]%B+o[i+k]+0)%18446744073709551616) c (c:=0) (by omega);rw[show((0:Nat):Int)=0 from rfl]at a1 a2;rw[a1,qbv];dsimp only;rw[a2,qbv,qbv];dsimp only;rw[c1,c2,kbg W,qbv,ki (by omega)]
theorem kye{xs ys:List Nat}(G:∀x∈xs,x<B)(H:∀y∈ys,y<B)(I:xs.length+ys.length<=8796093022208) :
  ∀(d i:Nat),i+d=xs.length->∀(o:List Nat),o.length=xs.length+ys.length->(∀y∈o,y<B)->Empty o (i+ys.length)->num B o=num B (xs.take i)*num B ys->
   Iter kmr (.p3 ys o xs (xs.length:Int) (i:Int)) (digs B (num B xs*num B ys))
 | 0,i,F,o,lo,to,zo,e=>by
  have F:i=xs.length:=by omega
  subst F;rw[List.take_length]at e;refine .done ?_;show kh0 _ _ _ _ _=_;unfold kh0;rw[condF (by rw[qbx];omega),e]
 | d+1,i,F,o,lo,to,zo,e=>by
  have z:i<xs.length:=by omega
  refine .next (s':=.p7 ys o (i:Int) (xs[i]:Int) ((0:Nat):Int) xs (xs.length:Int) (i:Int) ys (ys.length:Int) ((0:Nat):Int)) ?_
   (k2a (T:=num B (xs.take i)*num B ys) (G _ (qb5 _)) H I z (λK Q t' U V=>?_) ys.length 0 (by omega) o 0 lo to zo (show 0<18446744073709551616 by omega) (Row.start e))
  ·show kh0 _ _ _ _ _=_;unfold kh0;rw[condT (by rw[qby];omega),kbv z,qbv];rfl
  ·refine kye G H I d (i+1) (by omega) K Q t' U ?_;rw[V,k1s z rfl]
theorem kbpo{xs ys:List Nat}(G:∀x∈xs,x<B)(H:∀y∈ys,y<B)(F:xs.length+ys.length<=8796093022208):Iter kmr (.fn xs ys) (digs B (num B xs*num B ys)):=by
 have z:∀k,Empty (List.replicate (xs.length+ys.length) 0) k:=λk j K _=>by simp
 refine .next (s':=.p3 ys (List.replicate (xs.length+ys.length) 0) xs (xs.length:Int) ((0:Nat):Int)) ?_ (kye G H F xs.length 0 (by omega) _ (by simp) ?_ (z _) ?_)
 ·show kmy _ _=_;unfold kmy;rw[<- Int.natCast_add,kbe (by omega),kdt F,qbv];rfl
 ·intro y I;rw[List.eq_of_mem_replicate I];exact show 0<18446744073709551616 by omega
 ·have:=kfq B [] (xs.length+ys.length)
  simpa[num]using this
theorem ku3{h:AH}{s t:Sl}{xs ys:List Nat}(n:Nats h s xs)(m:Nats h t ys)(y:xs.length+ys.length<=8796093022208):∃(s':Sl)(h':AH),go (.fn kc8 [s.v,t.v]) h=some (s'.v,h')/\Nats h' s' (digs B (num B xs*num B ys))/\Grow h h'/\Own h s':=by obtain⟨_,h',e,s',rfl,z,g,o⟩:=kbga (kbpo n.lt m.lt y) n m;exact⟨s',h',e,z,g,o⟩
end Go.Ab
set_option maxRecDepth 10000
namespace Go.Ab
open IntKind (wrap)
open Go.Proofs Go.Num
inductive kfx
 | fn (x1:List Nat) (x2:List Nat)
 | p3 (x1:List Nat) (x2:List Nat) (x3:List Nat) (a4:Int)
 | p7 (x1:List Nat) (x2:List Nat) (x3:List Nat) (a4:Int) (a5:Int) (a6:Int)
abbrev kdf:=List Nat
noncomputable def knr(x1 x2:List Nat):Option (kfx⊕kdf):=(mkI (wrap .i64 ((List.length x1:Int)+(List.length x2:Int))) (wrap .i64 ((List.length x1:Int)+(List.length x2:Int)))).bind λy=>some (.inl (.p3 x1 x2 (List.replicate y 0) 0))
noncomputable def kik(x1 x2 x3:List Nat)(a4:Int):Option (kfx⊕kdf):=cond (decide (a4<(List.length x1:Int))) (some (.inl (.p7 x1 x2 x3 a4 0 0))) ((need (∀x∈x3,x<D)).bind λy=>some (.inr (digs D (num D x3))))
noncomputable def kh6(x1 x2 x3:List Nat)(a4 a5 a6:Int):Option (kfx⊕kdf):=cond (decide (a6<(List.length x2:Int))) ((inI (List.length x3) (wrap .i64 (a4+a6))).bind λz=>(atI x1 a4).bind λH=>(atI x2 a6).bind λy=>(inI (List.length x3) (wrap .i64 (a4+a6))).bind λF=>(u64P (Int.tmod (wrap .u64 ((wrap .u64 ((((List.getD x3 z 0:Nat):Int))+(wrap .u64 (((H:Int))*((y:Int))))))+a5)) 65536)).bind λG=>some (.inl (.p7 x1 x2 (List.set x3 F G) a4 (wrap .u64 (Int.tdiv (wrap .u64 ((wrap .u64 ((((List.getD x3 z 0:Nat):Int))+(wrap .u64 (((H:Int))*((y:Int))))))+a5)) 65536)) (wrap .i64 (a6+1))))) ((inI (List.length x3) (wrap .i64 (a4+(List.length x2:Int)))).bind λz=>(u64P a5).bind λI=>some (.inl (.p3 x1 x2 (List.set x3 z I) (wrap .i64 (a4+1)))))
noncomputable def klv:kfx->Option (kfx⊕kdf)
 | .fn x1 x2=>knr x1 x2
 | .p3 x1 x2 x3 a4=>kik x1 x2 x3 a4
 | .p7 x1 x2 x3 a4 a5 a6=>kh6 x1 x2 x3 a4 a5 a6
@[reducible] def kw1(h0:AH)(r:kdf)(v:AV)(h':AH):Prop:=∃s1:Sl,v=s1.v/\Nats h' s1 r/\Grow h0 h'/\Own h0 s1
def kji(r:kdf):kfx->Prop
 | .fn x1 x2=>∀{h:AH}{a1:Sl}{a2:Sl},Nats h a1 x1->Nats h a2 x2->Runs (go (.fn kdi [a1.v,a2.v]) h) (kw1 h r)
 | .p3 x1 x2 x3 a4=>∀{h0 h:AH}{a1:Sl}{a2:Sl}{a3:Sl}{i3:Nat},Grow h0 h->Nats h a1 x1->Nats h a2 x2->Vec h a3 i3 x3->h0.blks.size<=i3->Av a1 i3 x1->Av a2 i3 x2->Runs (go (.pt kdi krn [(0,a1.v),(1,a2.v),(5,a3.v),(6,.i a4)]) h) (kw1 h0 r)
 | .p7 x1 x2 x3 a4 a5 a6=>∀{h0 h:AH}{a1:Sl}{a2:Sl}{a3:Sl}{i3:Nat},Grow h0 h->Nats h a1 x1->Nats h a2 x2->Vec h a3 i3 x3->h0.blks.size<=i3->Av a1 i3 x1->Av a2 i3 x2->Runs (go (.pt kdi krh [(0,a1.v),(1,a2.v),(5,a3.v),(6,.i a4),(7,.int .u64 a5),(8,.i a6)]) h) (kw1 h0 r)
theorem k9c{r:kdf}{o:kfx⊕kdf}{x1 x2:List Nat}(e:knr x1 x2=some o)(y:GoodS (kji r) r o):kji r (.fn x1 x2):=by intro h a1 a2 n1 n2;rw[kbhi];unfold knr at e;rw[n1.len];rw[n2.len];obtain⟨H,F,e⟩:=qbw.1 e;refine Runs.mk F kcz λs3 I G z=>?_;cases e;exact y z (n1.grow z) (n2.grow z) G (qbr _) (qbh n1 (qbr _)) (qbh n2 (qbr _))
theorem kbp2{r:kdf}{o:kfx⊕kdf}{x1 x2 x3:List Nat}{a4:Int}(e:kik x1 x2 x3 a4=some o)(y:GoodS (kji r) r o):kji r (.p3 x1 x2 x3 a4):=by
 intro h0 h a1 a2 a3 i3 Q n1 n2 I G z F;rw[kbkj];unfold kik at e;rw[n1.len];refine qbc (λK=>?_) (λK=>?_)
 ·replace e:=(condT K).symm.trans e;cases e;exact y Q n1 n2 I G z F
 ·replace e:=(condF K).symm.trans e;obtain⟨H,U,e⟩:=qbw.1 e;obtain⟨s6,V,W,Z⟩:=kjn I.nats  H.down;refine qy V (qy (seen qcq) ?_);cases e;cases y;exact qx ⟨s6,rfl,W,Q,((Z _ (I.own G)).of_le (qk _))⟩
theorem k82{r:kdf}{o:kfx⊕kdf}{x1 x2 x3:List Nat}{a4 a5 a6:Int}(e:kh6 x1 x2 x3 a4 a5 a6=some o)(G:GoodS (kji r) r o):kji r (.p7 x1 x2 x3 a4 a5 a6):=by
 intro h0 h a1 a2 a3 i3 g0 n1 n2 H F y z;rw[kbah];unfold kh6 at e;rw[n1.len];rw[n2.len];rw[H.nats.len];refine qbc (λk7=>?_) (λk7=>?_)
 ·replace e:=(condT k7).symm.trans e;obtain⟨j8,U,e⟩:=qbw.1 e;refine qy (H.idx rfl U) (qy (H.rd rfl U qcr) ?_);obtain⟨y9,q9,e⟩:=qbw.1 e;obtain⟨r9,j9,l9⟩:=n1.atI q9;refine qy j9 (qy (rdc l9 qcr) ?_);obtain⟨af,aa,e⟩:=qbw.1 e;obtain⟨ag,ab,ac⟩:=n2.atI aa;refine qy ab (qy (rdc ac qcr) ?_);obtain⟨ah,V,e⟩:=qbw.1 e;refine qy (H.idx rfl V) ?_;obtain⟨ai,ad,e⟩:=qbw.1 e;refine qbg H rfl V ad λaj ae I=>?_;have K:=n1.upda y I;have Q:=n2.upda z I;cases e;exact G (g0.updr F I) K Q ae F y z
 ·replace e:=(condF k7).symm.trans e;obtain⟨j8,U,e⟩:=qbw.1 e;refine qy (H.idx rfl U) ?_;obtain⟨w9,z9,e⟩:=qbw.1 e;refine qbg H rfl U z9 λH9 v9 u9=>?_;have W:=n1.upda y u9;have Z:=n2.upda z u9;cases e;exact G (g0.updr F u9) W Z v9 F y z
theorem kbgh{s:kfx}{r:kdf}(z:Iter klv s r):kji r s:=qbf (λs o e y=>by
 cases s with
 | fn x1 x2=>exact @k9c _ _ x1 x2 e y
 | p3 x1 x2 x3 a4=>exact @kbp2 _ _ x1 x2 x3 a4 e y
 | p7 x1 x2 x3 a4 a5 a6=>exact @k82 _ _ x1 x2 x3 a4 a5 a6 e y
 ) z
end Go.Ab
set_option maxRecDepth 10000
namespace Go.Ab
open Go.Proofs Go.Num
theorem tmodD(n:Nat):Int.tmod (n:Int) 65536=((n%65536:Nat):Int):=rfl
theorem tdivD(n:Nat):Int.tdiv (n:Int) 65536=((n/65536:Nat):Int):=rfl
theorem kco{n:Nat}(h:n<18446744073709551616):IntKind.wrap .u64 (n:Int)=(n:Int):=by rw[wrapU];omega
theorem k3w{xs ys:List Nat}{r:kdf}{i T:Nat}(I:∀x∈xs,x<D)(Q:∀y∈ys,y<D)(hn:xs.length+ys.length<=8796093022208)(U:i<xs.length)
  (K:∀o:List Nat,o.length=xs.length+ys.length->(∀y∈o,y<D)->Empty o (i+1+ys.length)->num D o=T+D^i*(xs[i]*num D ys)->Iter klv (.p3 xs ys o ((i+1:Nat):Int)) r) :
  ∀(d k:Nat),k+d=ys.length->∀(o:List Nat)(c:Nat),o.length=xs.length+ys.length->(∀y∈o,y<D)->Empty o (i+ys.length)->c<D->Row D o i k c xs[i] ys T->
   Iter klv (.p7 xs ys o (i:Int) (c:Int) (k:Int)) r
 | 0,k,hk,o,c,lo,to,zo,G,row=>by
  have hk:k=ys.length:=by omega
  subst hk;have z:i+ys.length<o.length:=by omega
  have F:c<65536:=G;refine .next ?_ (K (o.set (i+ys.length) c) (by simpa using lo) (set_lt to G) ?_ ?_)
  ·show kh6 _ _ _ _ _ _=_;unfold kh6;rw[condF (by rw[qbx];omega),<- Int.natCast_add,kbe (by omega),kba z,qbv,kbg (by omega),qbv,ki (by omega)]
  ·rw[show i+1+ys.length=i+ys.length+1 from by omega];intro j h1 h2;rw[List.getElem_set_ne (by omega)];exact zo j (by simpa using h1) (by omega)
  ·exact row.stop z (zo _ z (qbr _))
 | d+1,k,hk,o,c,lo,to,zo,G,row=>by
  have H:k<ys.length:=by omega
  have z:i+k<o.length:=by omega
  have V:=I xs[i] (qb5 _);have W:=Q ys[k] (qb5 _);have Z:=to o[i+k] (qb5 _);have F:=kwf V W Z G;have hl:=Nat.mod_lt (xs[i]*ys[k]+o[i+k]+c) (show 0<65536 by omega);refine .next ?_ (k3w I Q hn U K d (k+1) (by omega) (o.set (i+k) ((xs[i]*ys[k]+o[i+k]+c)%65536)) ((xs[i]*ys[k]+o[i+k]+c)/65536) (by simpa using lo) (set_lt to hl) (zo.set (by omega)) F (row.step H z (Nat.div_add_mod' _ _).symm))
  ·show kh6 _ _ _ _ _ _=_;unfold kh6;have hp:xs[i]*ys[k]<=65535*65535:=Nat.mul_le_mul (by have:xs[i]<65536:=V;omega) (by have:ys[k]<65536:=W;omega);have ab:o[i+k]<65536:=Z;have aa:c<65536:=G
   have e1:IntKind.wrap .u64 (IntKind.wrap .u64 (((List.getD o (i+k) 0:Nat):Int)+IntKind.wrap .u64 ((xs[i]:Int)*(ys[k]:Int)))+(c:Int))=((xs[i]*ys[k]+o[i+k]+c:Nat):Int):=by
    rw[show List.getD o (i+k) 0=o[i+k]from kbp z,<- Int.natCast_mul];generalize xs[i]*ys[k]=t at *
    generalize o[i+k]=w at *
    rw[kco (n:=t) (by omega),<- Int.natCast_add,kco (by omega),<- Int.natCast_add,kco (by omega)];omega
   rw[condT (by rw[qby];omega),<- Int.natCast_add,kbe (by omega),kba z,qbv,kbv U,qbv,kbv H,qbv,qbv,e1,tmodD,tdivD,kbg (by omega),qbv,ki (by omega),kco];have:(xs[i]*ys[k]+o[i+k]+c)/65536<65536:=F;omega
theorem k4x{xs ys:List Nat}(G:∀x∈xs,x<D)(H:∀y∈ys,y<D)(I:xs.length+ys.length<=8796093022208) :
  ∀(d i:Nat),i+d=xs.length->∀(o:List Nat),o.length=xs.length+ys.length->(∀y∈o,y<D)->Empty o (i+ys.length)->num D o=num D (xs.take i)*num D ys->
   Iter klv (.p3 xs ys o (i:Int)) (digs D (num D xs*num D ys))
 | 0,i,F,o,lo,to,zo,e=>by
  have F:i=xs.length:=by omega
  subst F;rw[List.take_length]at e;refine .done ?_;show kik _ _ _ _=_;unfold kik;rw[condF (by rw[qbx];omega),kp to,qbv,e]
 | d+1,i,F,o,lo,to,zo,e=>by
  have z:i<xs.length:=by omega
  refine .next (s':=.p7 xs ys o (i:Int) ((0:Nat):Int) ((0:Nat):Int)) ?_
   (k3w (T:=num D (xs.take i)*num D ys) G H I z (λK Q t' U V=>?_) ys.length 0 (by omega) o 0 lo to zo (show 0<65536 by omega) (Row.start e))
  ·show kik _ _ _ _=_;unfold kik;rw[condT (by rw[qby];omega)];rfl
  ·refine k4x G H I d (i+1) (by omega) K Q t' U ?_;rw[V,k1s z rfl]
theorem kbpu{xs ys:List Nat}(G:∀x∈xs,x<D)(H:∀y∈ys,y<D)(F:xs.length+ys.length<=8796093022208):Iter klv (.fn xs ys) (digs D (num D xs*num D ys)):=by
 have z:∀k,Empty (List.replicate (xs.length+ys.length) 0) k:=λk j K _=>by simp
 refine .next (s':=.p3 xs ys (List.replicate (xs.length+ys.length) 0) ((0:Nat):Int)) ?_ (k4x G H F xs.length 0 (by omega) _ (by simp) ?_ (z _) ?_)
 ·show knr _ _=_;unfold knr;rw[<- Int.natCast_add,kbe (by omega),kdt F,qbv];rfl
 ·intro y I;rw[List.eq_of_mem_replicate I];exact show 0<65536 by omega
 ·have:=kfq D [] (xs.length+ys.length)
  simpa[num]using this
theorem k0g{h:AH}{s t:Sl}{xs ys:List Nat}(n:Nats h s xs)(m:Nats h t ys)(z:∀x∈xs,x<D)(F:∀y∈ys,y<D)(G:xs.length+ys.length<=8796093022208):∃(s':Sl)(h':AH),go (.fn kdi [s.v,t.v]) h=some (s'.v,h')/\Nats h' s' (digs D (num D xs*num D ys))/\Grow h h'/\Own h s':=by obtain⟨_,h',e,s',rfl,H,g,o⟩:=kbgh (kbpu z F G) n m;exact⟨s',h',e,H,g,o⟩
end Go.Ab
set_option maxRecDepth 10000
namespace Go.Ab
open IntKind (wrap)
open Go.Proofs Go.Num
inductive khq
 | fn (x1:List Nat) (x2:List Nat) (a3:Int)
 | p2 (x1:List Nat) (x2:List Nat) (a3:Int) (a4:Int) (a5:Int)
abbrev kfz:=List Nat
noncomputable def kv4(x1 x2:List Nat)(a3:Int):Option (khq⊕kfz):=some (.inl (.p2 x1 x2 a3 0 a3))
noncomputable def kgn(x1 x2:List Nat)(a3 a4 a5:Int):Option (khq⊕kfz):=cond (decide (a5<(List.length x1:Int))) (cond (decide ((wrap .i64 (a5-a3))<(List.length x2:Int))) (cond (decide ((wrap .i64 (a5-a3))<(List.length x2:Int))) ((atI x2 (wrap .i64 (a5-a3))).bind λV=>(inI (List.length x1) a5).bind λz=>(add64P (((List.getD x1 z 0:Nat):Int)) ((V:Int)) a4).bind λy=>(inI (List.length x1) a5).bind λF=>(u64P (y.1)).bind λG=>some (.inl (.p2 (List.set x1 F G) x2 a3 (y.2) (wrap .i64 (a5+1))))) ((inI (List.length x1) a5).bind λW=>(add64P (((List.getD x1 W 0:Nat):Int)) 0 a4).bind λp10=>(inI (List.length x1) a5).bind λH=>(u64P (p10.1)).bind λI=>some (.inl (.p2 (List.set x1 H I) x2 a3 (p10.2) (wrap .i64 (a5+1)))))) (cond (decide (a4>0)) (cond (decide ((wrap .i64 (a5-a3))<(List.length x2:Int))) ((atI x2 (wrap .i64 (a5-a3))).bind λK=>(inI (List.length x1) a5).bind λH=>(add64P (((List.getD x1 H 0:Nat):Int)) ((K:Int)) a4).bind λp12=>(inI (List.length x1) a5).bind λQ=>(u64P (p12.1)).bind λU=>some (.inl (.p2 (List.set x1 Q U) x2 a3 (p12.2) (wrap .i64 (a5+1))))) ((inI (List.length x1) a5).bind λz=>(add64P (((List.getD x1 z 0:Nat):Int)) 0 a4).bind λy=>(inI (List.length x1) a5).bind λF=>(u64P (y.1)).bind λG=>some (.inl (.p2 (List.set x1 F G) x2 a3 (y.2) (wrap .i64 (a5+1)))))) (some (.inr x1)))) (some (.inr x1))
noncomputable def kuj:khq->Option (khq⊕kfz)
 | .fn x1 x2 a3=>kv4 x1 x2 a3
 | .p2 x1 x2 a3 a4 a5=>kgn x1 x2 a3 a4 a5
@[reducible] def k53(h0:AH)(a:Sl)(i:Nat)(r:kfz)(v:AV)(h':AH):Prop:=v=.tup []/\Vec h' a i r/\Upd h0 h' i
def klq(r:kfz):khq->Prop
 | .fn x1 x2 a3=>∀{h:AH}{a1:Sl}{a2:Sl}{y:Nat},Vec h a1 y x1->Nats h a2 x2->Av a2 y x2->Runs (go (.fn kd1 [a1.v,a2.v,.i a3]) h) (k53 h a1 y r)
 | .p2 x1 x2 a3 a4 a5=>∀{h0 h:AH}{a1:Sl}{a2:Sl}{y:Nat},Upd h0 h y->Vec h a1 y x1->Nats h a2 x2->Av a2 y x2->Runs (go (.pt kd1 kh2 [(0,a1.v),(1,a2.v),(2,.i a3),(6,.int .u64 a4),(7,.i a5)]) h) (k53 h0 a1 y r)
theorem kbfc{r:kfz}{o:khq⊕kfz}{x1 x2:List Nat}{a3:Int}(e:kv4 x1 x2 a3=some o)(z:GoodS (klq r) r o):klq r (.fn x1 x2 a3):=by intro h a1 a2 G F n2 y;rw[kbep];unfold kv4 at e;cases e;exact z ((qk _).toUpd _) F n2 y
theorem kbq6{r:kfz}{o:khq⊕kfz}{x1 x2:List Nat}{a3 a4 a5:Int}(e:kgn x1 x2 a3 a4 a5=some o)(z:GoodS (klq r) r o):klq r (.p2 x1 x2 a3 a4 a5):=by
 intro h0 h a1 a2 i1 g0 F n2 y;rw[kbgq];unfold kgn at e;rw[F.nats.len];rw[n2.len];refine qbc (λk6=>?_) (λk6=>?_)
 ·replace e:=(condT k6).symm.trans e;refine qbc (λk7=>?_) (λk7=>?_)
  ·replace e:=(condT k7).symm.trans e;refine qbc (λU=>?_) (λU=>?_)
   ·replace e:=(condT U).symm.trans e;obtain⟨y9,q9,e⟩:=qbw.1 e;obtain⟨r9,j9,l9⟩:=n2.atI q9;refine qy j9 (qy (rdc l9 qcr) ?_);obtain⟨V,G,e⟩:=qbw.1 e;refine qy (F.idx rfl G) (qy (F.rd rfl G qcr) ?_);obtain⟨af,H,e⟩:=qbw.1 e;refine qy (kfw H) (qy rfl (qy (seen qcr) (qy (seen qcr) ?_)));obtain⟨ag,I,e⟩:=qbw.1 e;refine qy (F.idx rfl I) ?_;obtain⟨ah,W,e⟩:=qbw.1 e;refine qbg F rfl I W λai Z Q=>?_;have K:=n2.upda y Q;cases e;exact z (g0.trans Q) Z K y
   ·replace e:=(condF U).symm.trans e;obtain⟨j9,q9,e⟩:=qbw.1 e;refine qy (F.idx rfl q9) (qy (F.rd rfl q9 qcr) ?_);obtain⟨p10,G,e⟩:=qbw.1 e;refine qy (kfw G) (qy rfl (qy (seen qcr) (qy (seen qcr) ?_)));obtain⟨aj,H,e⟩:=qbw.1 e;refine qy (F.idx rfl H) ?_;obtain⟨ap,ak,e⟩:=qbw.1 e;refine qbg F rfl H ak λaq al ac=>?_;have aa:=n2.upda y ac;cases e;exact z (g0.trans ac) al aa y
  ·replace e:=(condF k7).symm.trans e;refine qbc (λU=>?_) (λU=>?_)
   ·replace e:=(condT U).symm.trans e;refine qbc (λk9=>?_) (λk9=>?_)
    ·replace e:=(condT k9).symm.trans e;obtain⟨ar,G,e⟩:=qbw.1 e;obtain⟨au,V,am⟩:=n2.atI G;refine qy V (qy (rdc am qcr) ?_);obtain⟨aj,H,e⟩:=qbw.1 e;refine qy (F.idx rfl H) (qy (F.rd rfl H qcr) ?_);obtain⟨p12,I,e⟩:=qbw.1 e;refine qy (kfw I) (qy rfl (qy (seen qcr) (qy (seen qcr) ?_)));obtain⟨aw,ad,e⟩:=qbw.1 e;refine qy (F.idx rfl ad) ?_;obtain⟨ax,an,e⟩:=qbw.1 e;refine qbg F rfl ad an λay ao ae=>?_;have ab:=n2.upda y ae;cases e;exact z (g0.trans ae) ao ab y
    ·replace e:=(condF k9).symm.trans e;obtain⟨V,G,e⟩:=qbw.1 e;refine qy (F.idx rfl G) (qy (F.rd rfl G qcr) ?_);obtain⟨af,H,e⟩:=qbw.1 e;refine qy (kfw H) (qy rfl (qy (seen qcr) (qy (seen qcr) ?_)));obtain⟨ag,I,e⟩:=qbw.1 e;refine qy (F.idx rfl I) ?_;obtain⟨ah,W,e⟩:=qbw.1 e;refine qbg F rfl I W λai Z Q=>?_;have K:=n2.upda y Q;cases e;exact z (g0.trans Q) Z K y
   ·replace e:=(condF U).symm.trans e;cases e;cases z;exact qx ⟨rfl,F,g0⟩
 ·replace e:=(condF k6).symm.trans e;cases e;cases z;exact qx ⟨rfl,F,g0⟩
theorem kbbf{s:khq}{r:kfz}(z:Iter kuj s r):klq r s:=qbf (λs o e y=>by
 cases s with
 | fn x1 x2 a3=>exact @kbfc _ _ x1 x2 a3 e y
 | p2 x1 x2 a3 a4 a5=>exact @kbq6 _ _ x1 x2 a3 a4 a5 e y
 ) z
end Go.Ab
set_option maxRecDepth 10000
namespace Go.Ab
open Go.Proofs Go.Num
theorem ke0{xs:List Nat}{i:Nat}(h:i<xs.length):List.getD xs i 0=xs[i]:=kbp h
theorem k8h{o xs:List Nat}{at' i c:Nat}(H:o.length<=4611686018427387904)(I:xs.length<=4611686018427387904)(h1:i<o.length)(h2:at'<=i)(y:c<=1)(hs:i-at'<xs.length\/0<c) :
  kuj (.p2 o xs (at':Int) (c:Int) (i:Int))=some (.inl (.p2 (o.set i ((xs.getD (i-at') 0+o[i]+c)%18446744073709551616)) xs (at':Int) (((xs.getD (i-at') 0+o[i]+c)/18446744073709551616:Nat):Int) ((i+1:Nat):Int))):=by
 show kgn _ _ _ _ _=_;unfold kgn;have F:IntKind.wrap .i64 ((i:Int)-(at':Int))=((i-at':Nat):Int):=by rw[wrap64 (by omega) (by omega)];omega
 have z:∀n:Nat,n%18446744073709551616<18446744073709551616:=λn=>Nat.mod_lt n (by omega);rw[condT (by rw[qby];omega),F];by_cases hk:i-at'<xs.length
 ·have a1:=kg9 o[i] xs[i-at'] y;rw[condT (by rw[qby];omega),condT (by rw[qby];omega),kbv hk,qbv,kba h1,qbv,ke0 h1,a1,qbv,qbv];dsimp only;rw[kbg (z _),qbv,ki (by omega),ke0 hk,Nat.add_comm o[i]]
 ·have G:0<c:=by omega
  have a1:=kg9 o[i] 0 y;rw[show((0:Nat):Int)=0 from rfl]at a1;rw[condF (by rw[qbx];omega),condT (by rw[qby];omega),condF (by rw[qbx];omega),kba h1,qbv,ke0 h1,a1,qbv,qbv];dsimp only;rw[kbg (z _),qbv,ki (by omega),show xs.getD (i-at') 0=0 from by simp[List.getD,List.getElem?_eq_none (Nat.le_of_not_lt hk)]];rw[Nat.add_comm o[i]]
theorem k1b{xs:List Nat}{at' T:Nat}(K:∀x∈xs,x<B)(Q:xs.length<=4611686018427387904) :
  ∀(d i:Nat)(o:List Nat)(c:Nat),i+d=o.length->at'<=i->o.length<=4611686018427387904->(∀y∈o,y<B)->c<=1->num B o+c*B^i=T+B^at'*num B (xs.take (i-at'))->T+B^at'*num B xs<B^o.length->
   ∃r,Iter kuj (.p2 o xs (at':Int) (c:Int) (i:Int)) r/\r.length=o.length/\(∀y∈r,y<B)/\num B r=T+B^at'*num B xs
 | 0,i,o,c,H,F,I,to,U,inv,bound=>by
  have H:i=o.length:=by omega
  subst H
  have G:num B xs=num B (xs.take (o.length-at'))+B^(xs.take (o.length-at')).length*num B (xs.drop (o.length-at')):=by rw[<- kcj,List.take_append_drop]
  have z:c=0:=by
   rcases Nat.eq_zero_or_pos c with e | e
   ·exact e
   ·have:c=1:=by omega
    subst this;have:B^at'*num B (xs.take (o.length-at'))<=B^at'*num B xs:=Nat.mul_le_mul_left _ (by omega);omega
  subst z
  have V:num B (xs.take (o.length-at'))=num B xs:=by
   by_cases W:xs.length<=o.length-at'
   ·rw[List.take_of_length_le W]
   ·rw[qci,Nat.min_eq_left (by omega)]at G;rw[G];rcases Nat.eq_zero_or_pos (num B (xs.drop (o.length-at')))with e | e
    ·rw[e];omega
    ·exfalso
     have h1:B^(o.length-at')<=num B xs:=by have:B^(o.length-at')*1<=B^(o.length-at')*num B (xs.drop (o.length-at')):=Nat.mul_le_mul_left _ e;omega
     have h2:B^at'*B^(o.length-at')<=B^at'*num B xs:=Nat.mul_le_mul_left _ h1;rw[<- Nat.pow_add,show at'+(o.length-at')=o.length from by omega]at h2;omega
  refine⟨o,.done ?_,rfl,to,?_⟩
  ·show kgn _ _ _ _ _=_;unfold kgn;rw[condF (by rw[qbx];omega)]
  ·rw[<- V];omega
 | d+1,i,o,c,H,F,I,to,U,inv,bound=>by
  have h1:i<o.length:=by omega
  by_cases hs:i-at'<xs.length\/0<c
  ·have Z:=Nat.mod_lt (xs.getD (i-at') 0+o[i]+c) (show 0<18446744073709551616 by omega)
   have hy:xs.getD (i-at') 0<18446744073709551616:=by
    by_cases hk:i-at'<xs.length
    ·rw[ke0 hk];exact K _ (qb5 _)
    ·rw[show xs.getD (i-at') 0=0 from by simp[List.getD,List.getElem?_eq_none (Nat.le_of_not_lt hk)]];omega
   have aa:o[i]<18446744073709551616:=to _ (qb5 _)
   obtain⟨r,it,r1,r2,r3⟩:=k1b (T:=T) (at':=at') K Q d (i+1) (o.set i ((xs.getD (i-at') 0+o[i]+c)%18446744073709551616)) ((xs.getD (i-at') 0+o[i]+c)/18446744073709551616) (by simp;omega) (by omega) (by simpa using I) (set_lt to Z) (by omega) (by have k1:=kk8 (b:=B) h1 ((xs.getD (i-at') 0+o[i]+c)%18446744073709551616);have k2:=k1q k1 (Nat.div_add_mod' (xs.getD (i-at') 0+o[i]+c) 18446744073709551616).symm inv;rw[Nat.pow_succ,k2,show i+1-at'=i-at'+1 from by omega,kgh,Nat.mul_add,<- Nat.mul_assoc,<- Nat.pow_add,show at'+(i-at')=i from by omega];omega) (by simpa using bound)
   exact⟨r,.next (k8h I Q h1 F U hs) it,by simpa using r1,r2,r3⟩
  ·have z:c=0:=by omega
   subst z;rw[List.take_of_length_le (by omega)]at inv;refine⟨o,.done ?_,rfl,to,by omega⟩;show kgn _ _ _ _ _=_;unfold kgn;have e0:IntKind.wrap .i64 ((i:Int)-(at':Int))=((i-at':Nat):Int):=by rw[wrap64 (by omega) (by omega)];omega
   rw[condT (by rw[qby];omega),e0,condF (by rw[qbx];omega),condF (by rw[qbx];omega)]
theorem k0x{h:AH}{s t:Sl}{i:Nat}{o xs:List Nat}(v:Vec h s i o)(m:Nats h t xs)(av:Av t i xs){at':Nat}(y:at'<=o.length)(z:o.length<=4611686018427387904)(F:xs.length<=4611686018427387904)(bound:num B o+B^at'*num B xs<B^o.length) :
  ∃(h':AH)(r:List Nat),go (.fn kd1 [s.v,t.v,.i (at':Int)]) h=some (.tup [],h')/\Vec h' s i r/\Upd h h' i/\r.length=o.length/\num B r=num B o+B^at'*num B xs:=by
 obtain⟨r,G,r1,r2,H⟩:=k1b (T:=num B o) (at':=at') m.lt F (o.length-at') at' o 0 (by omega) (qbr _) z v.lt (by omega) (by simp[num]) bound;obtain⟨_,h',e,rfl,v',u⟩:=kbbf (.next (s:=.fn o xs (at':Int)) rfl G) v m av;exact⟨h',r,e,v',u,r1,H⟩
@[reducible] def kw0(p:Ref):AV:=.func (.func kmw) [] [.ptr (some p)]
theorem kqt(p:Ref)(x y:AV)(h:AH):callV Pg go (kw0 p) [x,y] h=go (.fn kmw [x,y,.ptr (some p)]) h:=by kernel_rfl
theorem Grow.same_cell{h h':AH}(g:Grow h h'){p:Ref}{v:AV}(c:h.cell p=some v):SameAt h h' p 1:=⟨λj y=>by
 have:j=0:=by omega
 subst this;rw[Ref.add_zero,c,g.cell_some c],λh=>by cases h⟩
theorem k8i{h:AH}{s d:Sl}{i:Nat}{xs ys:List Nat}(n:Nats h s xs)(v:Vec h d i ys)(G:xs.length<=ys.length):∃h',copyH s d 1 h=some h'/\Vec h' d i (xs++ys.drop xs.length)/\Upd h h' i:=by
 have H:d.ref=some (.new i 0):=by rw[v.is]
 have y:d.len=ys.length:=v.len;have F:=n.cells.gets;unfold copyH;rw[H];cases hs:s.ref with
 | none =>
  have:xs=[]:=by
   cases xs with
   | nil=>rfl
   | cons x xs =>obtain⟨r,e,_⟩:=n.cells.get 0 _ rfl;rw[hs]at e;cases e
  subst this;exact⟨h,rfl,by simpa using v,(qk h).toUpd i⟩
 | some r =>
  rw[hs,n.len]at F;simp only[AH.getsO]at F;dsimp only;rw[n.len,y,Nat.min_eq_left G,F,qbv];obtain⟨e,b⟩:=v.has;rw[b.puts (by simp;omega)]
  have I:(ys.map u64).take 0++xs.map u64++(ys.map u64).drop (0+(xs.map u64).length)=(xs++ys.drop xs.length).map u64:=by simp[List.map_drop]
  rw[I];refine⟨_,rfl,⟨?_,⟨e,qo b _ _⟩,?_,?_⟩,AH.upd_Upd h i _ e⟩
  ·have:(xs++ys.drop xs.length).length=ys.length:=by simp;omega
   rw[this];exact v.is
  ·intro z K;rcases qb7.1 K with h1 | h1
   ·exact n.lt z h1
   ·exact v.lt z (List.mem_of_mem_drop h1)
  ·have:=v.short;simp;omega
theorem kop{h:AH}{s:Sl}{xs:List Nat}{p:Ref}{k:Nat}(n:Nats h s xs)(c:h.cell p=some (.i (k:Int))):∃s',go (.fn kko [s.v,.ptr (some p)]) h=some (s'.v,h)/\Nats h s' (digs B (num B (xs.take (min k xs.length)))):=by rw[k90,c,qbv,kc,qbv,k0u,n.len];obtain⟨s1,y,n1,_⟩:=n.cut (l:=0) (n:=min k xs.length) (by omega) (by omega);rw[show min (k:Int) (xs.length:Int)=((min k xs.length:Nat):Int)from by omega,show(0:Int)=((0:Nat):Int)from rfl,y,qbv];obtain⟨s2,z,n2,_⟩:=kd0 n1;rw[z,qbv,qbv,asSl_v,qbv];exact⟨s2,rfl,by simpa using n2⟩
theorem kq1{h:AH}{s:Sl}{xs:List Nat}{p:Ref}{k:Nat}(n:Nats h s xs)(c:h.cell p=some (.i (k:Int))):∃s',go (.fn kkx [s.v,.ptr (some p)]) h=some (s'.v,h)/\Nats h s' (xs.drop (min k xs.length)):=by rw[kboq,c,qbv,kc,qbv,k0u,n.len];obtain⟨s1,y,n1,_⟩:=n.cut (l:=min k xs.length) (n:=xs.length) (by omega) (by omega);rw[show min (k:Int) (xs.length:Int)=((min k xs.length:Nat):Int)from by omega,y,qbv];refine⟨s1,rfl,?_⟩;rwa[List.take_of_length_le (by simp)]at n1
end Go.Ab
set_option maxRecDepth 10000
namespace Go.Ab
open IntKind (wrap)
open Go.Proofs Go.Num
theorem B1:1<=B:=by decide
theorem kxy(b:Nat)(xs:List Nat)(n:Nat):num b xs=num b (xs.take (min n xs.length))+b^n*num b (xs.drop (min n xs.length)):=by
 have e:num b xs=num b (xs.take (min n xs.length)++xs.drop (min n xs.length)):=by rw[List.take_append_drop]
 rw[kcj,qci]at e;by_cases h:n<=xs.length
 ·rw[e,show min (min n xs.length) xs.length=n from by omega]
 ·have:xs.drop (min n xs.length)=[]:=List.drop_of_length_le (by omega);rw[this]at e|-
  simpa[num]using e
theorem kpr{a c:Nat}(h:a<=c):(digs B a).length<=(digs B c).length:=by rw[kbc B2];exact qbu h ((kbc B2 c _).1 (qbr _))
theorem kma{xs:List Nat}(h:∀x∈xs,x<B):(digs B (num B xs)).length<=xs.length:=by rw[kbc B2];exact num_lt B1 h
theorem kbci(P F y bl z:Nat):(F+P*y)*(bl+P*z)=F*bl+P*((F+y)*(bl+z)-F*bl-y*z)+P*P*(y*z):=by
 have e:(F+y)*(bl+z)-F*bl-y*z=F*z+y*bl:=by rw[Nat.add_mul,Nat.mul_add,Nat.mul_add];omega
 rw[e,Nat.add_mul,Nat.mul_add,Nat.mul_add,Nat.mul_add];have G:F*(P*z)=P*(F*z):=Nat.mul_left_comm _ _ _;have H:P*y*bl=P*(y*bl):=Nat.mul_assoc _ _ _;have I:P*y*(P*z)=P*P*(y*z):=Nat.mul_mul_mul_comm _ _ _ _;rw[G,H,I];omega
set_option maxHeartbeats 2000000 in
theorem kpp:∀(N:Nat){h:AH}{s t:Sl}{xs ys:List Nat}{p:Ref},xs.length+ys.length<N->N<=268435456->Nats h s xs->Nats h t ys->h.cell p=some (kw0 p)->
  Runs (go (.fn kmw [s.v,t.v,.ptr (some p)]) h) λv h'=>∃s':Sl,v=s'.v/\Nats h' s' (digs B (num B xs*num B ys))/\Grow h h'/\Own h s'
 | 0,_,_,_,_,_,_,hN,_,_,_,_=>by omega
 | N+1,h,s,t,xs,ys,p,hN,hM,ns,nt,c=>by
  rw[kbnp,ns.len,nt.len];refine qbc (λk1=>?_) (λk1=>?_)
  ·obtain⟨s4,h4,e4,n4,g4,o4⟩:=ku3 ns nt (by omega);refine qy e4 (qy (seen qcq) ?_);exact qx ⟨s4,rfl,n4,g4,o4⟩
  refine qbc (λk2=>?_) (λk2=>?_)
  ·obtain⟨s4,h4,e4,n4,g4,o4⟩:=ku3 ns nt (by omega);refine qy e4 (qy (seen qcq) ?_);exact qx ⟨s4,rfl,n4,g4,o4⟩
  rw[qbx]at k1 k2;obtain⟨n,hn⟩:∃n,n=(max xs.length ys.length+1)/2:=⟨_,rfl⟩
  have hw:wrap .i64 (Int.tdiv (wrap .i64 ((imax (xs.length:Int) (ys.length:Int))+1)) 2)=(n:Int):=by rw[kbmy,show max (xs.length:Int) (ys.length:Int)=((max xs.length ys.length:Nat):Int)from by omega,ki (by omega)];show wrap .i64 (((max xs.length ys.length+1)/2:Nat):Int)=_;rw[<- hn,kbe (by omega)]
  rw[hw];have dj:(xs.take (min n xs.length)).length=min n xs.length:=by simp
  have dk:(ys.take (min n ys.length)).length=min n ys.length:=by simp
  have bz:∀x∈xs.take (min n xs.length),x<B:=λx hx=>ns.lt x (List.mem_of_mem_take hx);have b0:∀x∈ys.take (min n ys.length),x<B:=λx hx=>nt.lt x (List.mem_of_mem_take hx);have b5:∀x∈xs.drop (min n xs.length),x<B:=λx hx=>ns.lt x (List.mem_of_mem_drop hx);have b6:∀x∈ys.drop (min n ys.length),x<B:=λx hx=>nt.lt x (List.mem_of_mem_drop hx);have dl:(xs.drop (min n xs.length)).length=xs.length-min n xs.length:=by simp
  have dm:(ys.drop (min n ys.length)).length=ys.length-min n ys.length:=by simp
  have da:=kma bz;have db:=kma b0;have dn:=kma b5;have dp:=kma b6;have ea:=kxy B xs n;have eb:=kxy B ys n;generalize aq:num B (xs.take (min n xs.length))=al at *
  generalize ar:num B (xs.drop (min n xs.length))=ah at *
  generalize au:num B (ys.take (min n ys.length))=bl at *
  generalize aw:num B (ys.drop (min n ys.length))=bh at *
  refine qz λH8 b8 g8=>?_;refine q0 b8 rfl λH9 b9 u9=>?_;have gA:=g8.updr (qbr _) u9;have Q:=gA.cell_some c;have k9:H9.cell (.new h.blks.size 0)=some (.i (n:Int)):=b9.cell 0;have U:=ns.grow gA;have V:=nt.grow gA;refine qy Q (qy Q ?_);obtain⟨dq,b7,ax⟩:=kop U k9;obtain⟨dr,ca,ay⟩:=kop V k9;rw[aq]at ax;rw[au]at ay;refine qy b7 (qy (seen qcq) ?_);refine qbd ((qk _).same_cell Q) ?_;refine qbd ((qk _).same_cell Q) ?_;refine qy ca (qy (seen qcq) ?_);refine qbd ((qk _).same_cell Q) ?_;refine qbd ((qk _).same_cell Q) ?_;obtain⟨_,dt,cb,du,rfl,ad,y,dv⟩:=kpp N (by omega) (by omega) ax ay Q;rw[kg B2,kg B2]at ad;refine qy ((kqt p _ _ _).trans cb) (qy (seen qcq) ?_);refine qbd (y.same_cell Q) ?_;have W:=y.cell_some Q;have ae:=y.cell_some k9;obtain⟨dw,cc,cd⟩:=kq1 (U.grow y) ae;obtain⟨dx,ce,cf⟩:=kq1 (V.grow y) ae;refine qy cc (qy (seen qcq) ?_);refine qbd ((qk _).same_cell W) ?_;refine qy ce (qy (seen qcq) ?_);refine qbd ((qk _).same_cell W) ?_;obtain⟨_,dy,ch,dz,rfl,af,Z,d0⟩:=kpp N (by omega) (by omega) cd cf W;rw[ar,aw]at af;refine qy ((kqt p _ _ _).trans ch) (qy (seen qcq) ?_);have G:=Z.cell_some W;have ag:=Z.cell_some ae;have gB:=y.trans Z;refine qy G ?_;obtain⟨d1,ci,az⟩:=kop (U.grow gB) ag;obtain⟨d2,cj,ck⟩:=kq1 (U.grow gB) ag;rw[aq]at az;refine qy ci (qy (seen qcq) ?_);refine qbd ((qk _).same_cell G) ?_;refine qy cj (qy (seen qcq) ?_);refine qbd ((qk _).same_cell G) ?_;obtain⟨d3,d4,zs,cl,cm,z,d5,a0,d6⟩:=ks3 az ck (by omega) (by omega);rw[kg B2,ar]at a0;refine qy cl (qy (seen qcq) ?_);refine qbd (z.same_cell G) ?_;have H:=z.cell_some G;have ai:=z.cell_some ag;obtain⟨d7,cn,ba,_⟩:=kd0 cm;rw[a0]at ba;refine qy cn (qy (seen qcq) ?_);refine qbd ((qk _).same_cell H) ?_;obtain⟨d8,cp,bb⟩:=kop (V.grow (gB.trans z)) ai;obtain⟨d9,cq,cr⟩:=kq1 (V.grow (gB.trans z)) ai;rw[au]at bb;refine qy cp (qy (seen qcq) ?_);refine qbd ((qk _).same_cell H) ?_;refine qy cq (qy (seen qcq) ?_);refine qbd ((qk _).same_cell H) ?_;obtain⟨ec,ed,ws,ct,cu,F,ee,bc,ef⟩:=ks3 bb cr (by omega) (by omega);rw[kg B2,aw]at bc;refine qy ct (qy (seen qcq) ?_);refine qbd (F.same_cell H) ?_;have bd:=F.cell_some H;have eg:=F.cell_some ai;obtain⟨eh,cv,be,_⟩:=kd0 cu;rw[bc]at be;refine qy cv (qy (seen qcq) ?_);refine qbd ((qk _).same_cell bd) ?_;have q1:=ktk B2 al ah;have q2:=ktk B2 bl bh;obtain⟨_,ei,cw,ej,rfl,bf,bg,ek⟩:=kpp N (by omega) (by omega) (ba.grow F) be bd;rw[kg B2,kg B2]at bf;refine qy ((kqt p _ _ _).trans cw) (qy (seen qcq) ?_)
  have mm:al*bl+ah*bh<=(al+ah)*(bl+bh):=by rw[Nat.add_mul,Nat.mul_add,Nat.mul_add];omega
  have gC:=Z.trans (z.trans (F.trans bg))
  have lm:(digs B ((al+ah)*(bl+bh))).length<=2*n+2:=by rw[kbc B2];have h1:=(kbc B2 (al+ah) (n+1)).1 (by omega);have h2:=(kbc B2 (bl+bh) (n+1)).1 (by omega);rw[show 2*n+2=(n+1)+(n+1)from by omega,Nat.pow_add];exact Nat.mul_lt_mul_of_lt_of_lt h1 h2
  obtain⟨el,em,us,cx,cy,aj,en,bi,eo⟩:=kqe bf (ad.grow gC) (by omega) (kpr (by omega)) (by rw[kg B2,kg B2];omega);rw[kg B2,kg B2]at bi;refine qy cx (qy (seen qcq) ?_);obtain⟨ep,cz,bj,_⟩:=kd0 cy;rw[bi]at bj;refine qy cz (qy (seen qcq) ?_);have gD:=(z.trans (F.trans bg)).trans aj;have er:=kpr (a:=(al+ah)*(bl+bh)-al*bl) (c:=(al+ah)*(bl+bh)) (by omega);obtain⟨et,ak,rs,c0,c1,am,eu,bk,ev⟩:=kqe bj (af.grow gD) (by omega) (kpr (by omega)) (by rw[kg B2,kg B2];omega);rw[kg B2,kg B2]at bk;refine qy c0 (qy (seen qcq) ?_);obtain⟨ew,c2,an,_⟩:=kd0 c1;rw[bk]at an;refine qy c2 (qy (seen qcq) ?_);have gE:Grow H9 ak:=(y.trans gC).trans (aj.trans am);have bn:=ad.grow ((gC.trans aj).trans am);have ab:=af.grow (gD.trans am);have bq:=gE.has b9
  rw[show wrap .i64 ((wrap .i64 ((xs.length:Int)+(ys.length:Int)))+1)=((xs.length+ys.length+1:Nat):Int)from by rw[<- Int.natCast_add,kbe (by omega),ki (by omega)]]
  refine Runs.mk (kdt (by omega)) kcz λex ey c3 I=>?_;have total:=kbci (B^n) al ah bl bh;rw[<- ea,<- eb]at total;generalize hm:(al+ah)*(bl+bh)-al*bl-ah*bh=m at *
  have lt:num B xs*num B ys<B^(xs.length+ys.length):=by rw[Nat.pow_add];exact Nat.mul_lt_mul_of_lt_of_lt (num_lt B1 ns.lt) (num_lt B1 nt.lt)
  have ez:num B xs*num B ys<B^(xs.length+ys.length+1):=qbt lt (Nat.pow_le_pow_right B1 (by omega))
  have lp:(digs B (al*bl)).length<=xs.length+ys.length:=by rw[kbc B2];omega
  obtain⟨e0,c4,c5,aa⟩:=k8i (bn.grow I) c3 (by simp;omega);refine qy c4 ?_;have c6:=bq.lt;have ne:h.blks.size≠ak.blks.size:=Nat.ne_of_lt c6;have br:=qw (I.has bq) ne aa;refine qy (AH.has.rd0 br rfl qcr) ?_;have ac:=qbh an (qbr _);have K:=qbh ab (qbr _)
  have w0:num B (digs B (al*bl)++(List.replicate (xs.length+ys.length+1) 0).drop (digs B (al*bl)).length)=al*bl:=by rw[List.drop_replicate,kfq,kg B2]
  have bu:(digs B (al*bl)++(List.replicate (xs.length+ys.length+1) 0).drop (digs B (al*bl)).length).length=xs.length+ys.length+1:=by simp;omega
  generalize digs B (al*bl)++(List.replicate (xs.length+ys.length+1) 0).drop (digs B (al*bl)).length=o0 at *
  have e1:=kpr (a:=m) (c:=(al+ah)*(bl+bh)) (by omega);obtain⟨e2,o1,c7,c8,ao,dc,ap⟩:=k0x c5 ((an.grow I).upda ac aa) ac (at':=n) (by omega) (by omega) (by omega) (by rw[w0,kg B2,bu];omega);refine qy c7 (qy rfl ?_);have dd:=qw br ne ao;refine qy (AH.has.rd0 dd rfl qcr) ?_;rw[show wrap .i64 (2*(n:Int))=((2*n:Nat):Int)from by rw[wrap64 (by omega) (by omega)];omega];have pp:B^(2*n)=B^n*B^n:=by rw[<- Nat.pow_add];congr 1;omega
  have lq:(digs B (ah*bh)).length<=xs.length+ys.length:=by rw[kbc B2];have:1*(ah*bh)<=B^n*B^n*(ah*bh):=Nat.mul_le_mul_right _ (Nat.mul_pos (Nat.pow_pos B1) (Nat.pow_pos B1));omega
  rw[w0,kg B2]at ap;obtain⟨e3,o2,de,bv,df,e5,bw⟩:=k0x c8 (((ab.grow I).upda K aa).upda K ao) K (at':=2*n) (by omega) (by omega) (by omega) (by rw[ap,kg B2,dc,bu,pp];omega);rw[kg B2,ap,pp,<- total]at bw;refine qy de (qy rfl ?_);obtain⟨dg,dh,bx,di⟩:=kd0 bv.nats;rw[bw]at bx;refine qy dh (qy (seen qcq) ?_);have gF:Grow h ak:=gA.trans gE;refine qx ⟨dg,rfl,bx,(((gF.trans I).updr gF.size aa).updr gF.size ao).updr gF.size df,di _ (bv.own gF.size)⟩
end Go.Ab
set_option maxRecDepth 10000
namespace Go.Ab
open Go.Proofs Go.Num
theorem k9a{h:AH}{s t:Sl}{xs ys:List Nat}(n:Nats h s xs)(m:Nats h t ys)(F:xs.length+ys.length<268435456):∃(s':Sl)(h':AH),go (.fn krc [s.v,t.v]) h=some (s'.v,h')/\Nats h' s' (digs B (num B xs*num B ys))/\Grow h h'/\Own h s':=by
 have key:Runs (go (.fn krc [s.v,t.v]) h) λv h'=>∃s':Sl,v=s'.v/\Nats h' s' (digs B (num B xs*num B ys))/\Grow h h'/\Own h s':=by rw[kbmp];refine qz λW b3 G=>?_;refine q0 b3 rfl λH b4 I=>?_;have y:=G.updr (qbr _) I;have z:H.cell (.new h.blks.size 0)=some (kw0 (.new h.blks.size 0)):=b4.cell 0;refine qy z ?_;obtain⟨_,Z,K,s6,rfl,Q,U,V⟩:=kpp 268435456 F (qbr _) (n.grow y) (m.grow y) z;refine qy ((kqt _ _ _ _).trans K) (qy (seen qcq) ?_);exact qx ⟨s6,rfl,Q,y.trans U,V.of_le y⟩
 obtain⟨_,h',e,s',rfl,k⟩:=key;exact⟨s',h',e,k⟩
def mulN(xs ys:List Nat):List Nat×Int:=if rt xs=true/\rt ys=true then told (num B xs*num B ys)else([],1)
theorem kfu{h:AH}{s t:Sl}{xs ys:List Nat}(n:Nats h s xs)(m:Nats h t ys):∃(s':Sl)(h':AH),go (.fn kdy [s.v,t.v]) h=some (.tup [s'.v,.i (mulN xs ys).2],h')/\Nats h' s' (mulN xs ys).1/\Grow h h'/\Own h s':=by
 rw[kbag];simp only[kcn];have r:=Rows.two n m;have g:=ql h (.cells [s.v,t.v] kj);generalize h.push (.cells [s.v,t.v] kj)=h0 at *
 rw[kle r];simp only[qbv,kc9,List.all_cons,List.all_nil,Bool.and_true];cases y:rt xs with
 | false=>exact⟨⟨none,0,.is 0⟩,h0,by simp[mulN,y],by simpa[mulN,y]using qu h0,g,qr h⟩
 | true =>
  cases z:rt ys with
  | false=>exact⟨⟨none,0,.is 0⟩,h0,by simp[mulN,y,z],by simpa[mulN,y,z]using qu h0,g,qr h⟩
  | true =>simp only[Bool.and_self,Bool.not_true,cond_false];have Q:=(rt_iff.1 y).1;have U:=(rt_iff.1 z).1;rw[show mulN xs ys=told (num B xs*num B ys)from by simp[mulN,y,z]];obtain⟨s1,h1,G,n1,H,I⟩:=k9a (n.grow g) (m.grow g) (by omega);obtain⟨s2,F,n2,K⟩:=kq9 n1;rw[kg B2]at F n2;refine⟨s2,h1,?_,n2,g.trans H,K _ (I.of_le g)⟩;simp only[G,F,qbv,asSl_v,kgf,kc]
def kbl(a1:Bool)(x2:List Nat)(a3:Bool)(x4:List Nat):Bool×List Nat×Int:=cond (!((rtI a1 x2&&rtI a3 x4))) ((false,[],1)) (((((fromI (!(a1==a3)) ((mulN x2 x4).1)).1)),(fromI (!(a1==a3)) ((mulN x2 x4).1)).2,((mulN x2 x4).2)))
theorem k05{h:AH}{a2:Sl}{x2:List Nat}{a4:Sl}{x4:List Nat}(n2:Nats h a2 x2)(n4:Nats h a4 x4)(a1 a3:Bool):Runs (go (.fn ko0 [.agg [.bool a1,a2.v],.agg [.bool a3,a4.v]]) h) λv h'=>∃s1:Sl,v=.tup [.agg [.bool (kbl a1 x2 a3 x4).1,s1.v],.i (kbl a1 x2 a3 x4).2.2]/\Nats h' s1 ((kbl a1 x2 a3 x4).2.1)/\Grow h h'/\Own h s1:=by
 rw[kbc1];refine qz λH5 b5 K=>?_;refine qz λH6 b6 I=>?_;refine qz λH7 Z y=>?_;refine qy (qbe ((I.trans y).has b5) 0 rfl rfl) (qy (qbe ((I.trans y).has b5) 1 rfl qcq) (qy (qbe (y.has b6) 0 rfl rfl) (qy (qbe (y.has b6) 1 rfl qcq) ?_)));refine qz λH8 b8 F=>?_;obtain⟨H9,e9,G⟩:=koy b8 (n2.grow (((K.trans I).trans y).trans F)) (n4.grow (((K.trans I).trans y).trans F));refine qy e9 (qy (seen rfl) ?_);refine qbc (λW=>?_) (λW=>?_)
 ·refine q0 ((F.trans G).has Z) rfl λaf aa ab=>?_;have ag:=qw (G.has b8) (Nat.ne_of_gt (qbt (Z).lt (qbr _))) ab;refine qy (qbe aa 0 rfl rfl) (qy (qbe aa 1 rfl qcq) ?_);have z:kbl a1 x2 a3 x4=(false,[],1):=by unfold kbl;exact(condT W).trans rfl
  rw[z];exact qx ⟨(⟨none,0,.is 0⟩:Sl),rfl,(qu _),(((((K.trans I).trans y).trans F).trans G).updr (qbs ((K.trans I)).size (qbr _)) ab),(qr _)⟩
 ·refine qy (qbe ((((I.trans y).trans F).trans G).has b5) 1 rfl qcq) (qy (qbe (((y.trans F).trans G).has b6) 1 rfl qcq) ?_);obtain⟨an,af,ah,ac,H,ai⟩:=kfu (n2.grow ((((K.trans I).trans y).trans F).trans G)) (n4.grow ((((K.trans I).trans y).trans F).trans G));refine qy ah (qy rfl (qy (seen qcq) (qy (seen qcr) (qy (qbe (((((I.trans y).trans F).trans G).trans H).has b5) 0 rfl rfl) (qy (qbe ((((y.trans F).trans G).trans H).has b6) 0 rfl rfl) ?_)))));obtain⟨aj,ao,ak,al,Q,ad⟩:=kcb ac (!(a1==a3));refine qy ak (qy rfl ?_);refine qba rfl ?_;refine qy (seenAt rfl rfl) (qy (seenAt rfl qcq) ?_);refine q0 ((((F.trans G).trans H).trans Q).has Z) rfl λap b13 U=>?_;have ae:=(ac.grow Q).upda (qbi ai ((F.trans G).has Z).lt) U;have V:=al.upda (qbi ad (((F.trans G).trans H).has Z).lt) U;have am:=qw (((G.trans H).trans Q).has b8) (Nat.ne_of_gt (qbt (Z).lt (qbr _))) U;refine qy (qbe b13 0 rfl rfl) (qy (qbe b13 1 rfl qcq) ?_);have z:kbl a1 x2 a3 x4=((((fromI (!(a1==a3)) ((mulN x2 x4).1)).1)),(fromI (!(a1==a3)) ((mulN x2 x4).1)).2,((mulN x2 x4).2)):=by unfold kbl;exact(condF W).trans rfl
  rw[z];exact qx ⟨aj,rfl,V,(((((((K.trans I).trans y).trans F).trans G).trans H).trans Q).updr (qbs ((K.trans I)).size (qbr _)) U),(ad.of_le (((((K.trans I).trans y).trans F).trans G).trans H))⟩
end Go.Ab
set_option maxRecDepth 10000
namespace Go.Ab
open IntKind (wrap)
open Go.Proofs Go.Num
def Bl(x n:Nat):Prop:=x<2^n/\(n=0\/2^(n-1)<=x)
def bl(i:Nat):Nat:=if i=0 then 0 else Nat.log2 i+1
theorem kbfh:∀i:Nat,i<256->(lit1[i]?).map (·.toNat)=some (bl i):=by decide +kernel
theorem bl_Bl(i:Nat):Bl i (bl i):=by
 unfold bl Bl;by_cases h:i=0
 ·subst h;simp
 ·rw[if_neg h];refine⟨Nat.lt_log2_self,.inr ?_⟩
  simpa using Nat.log2_self_le h
theorem k7d{i:Nat}(h:i<256):∃b:UInt8,lit1[i]?=some b/\Bl i b.toNat:=by have e:=kbfh i h;rw[Option.map_eq_some_iff]at e;obtain⟨b,y,z⟩:=e;exact⟨b,y,by rw[z];exact bl_Bl i⟩
theorem Bl.up{x k n:Nat}(b:Bl (x/2^k) n)(h:0<x/2^k):Bl x (k+n):=by
 obtain⟨h1,h2⟩:=b;have p:0<2^k:=Nat.pow_pos (by decide);refine⟨?_,.inr ?_⟩
 ·rw[Nat.pow_add,Nat.mul_comm];exact(Nat.div_lt_iff_lt_mul p).1 h1
 ·rcases h2 with rfl | h2
  ·rw[Nat.pow_zero]at h1;omega
  ·by_cases y:n=0
   ·subst y;rw[Nat.pow_zero]at h1;omega
   ·rw[show k+n-1=k+(n-1)from by omega,Nat.pow_add,Nat.mul_comm];exact(Nat.le_div_iff_mul_le p).1 h2
theorem Bl.le{x n:Nat}(b:Bl x n){m:Nat}(h:x<2^m):n<=m:=by
 rcases b.2 with h1 | h1
 ·omega
 ·rcases Nat.lt_or_ge m n with h2 | h2
  ·have:2^m<=2^(n-1):=Nat.pow_le_pow_right (by decide) (by omega);omega
  ·exact h2
theorem wrap8{n:Nat}(h:n<256):wrap .u8 (n:Int)=(n:Int):=by simp[IntKind.wrap,IntKind.bits,IntKind.signed];omega
theorem kg4{x:Nat}(y:x<256){P:AV->AH->Prop}{h:AH}{K:Int->Int}(H:∀n:Nat,Bl x n->n<=8->P (.i (K (n:Int))) h) :
  Runs (cond (decide (0<=(wrap .u8 (x:Int)))) ((lit1[Int.toNat (wrap .u8 (x:Int))]?).bind λb=>some (.i (K (wrap .i64 (b.toNat:Int))),h)) none) P:=by
 rw[wrap8 y,Int.toNat_natCast];obtain⟨b,F,z⟩:=k7d y;refine qba (by rw[qby];omega) ?_;refine qy F ?_;have:=z.le (m:=8) y;rw[kbe (by omega)];exact qx (H _ z this)
theorem k2o{x:Nat}(hx:x<18446744073709551616){h:AH}:∃n:Nat,go (.fn khk [.int .u64 (x:Int)]) h=some (.i (n:Int),h)/\Bl x n:=by
 have key:Runs (go (.fn khk [.int .u64 (x:Int)]) h) λv h'=>∃n:Nat,v=.i (n:Int)/\h'=h/\Bl x n:=by
  rw[kbps];have U:ishr .u64 (x:Int) 32=((x/2^32:Nat):Int):=kb9 x 32;have V:ishr .u64 (x:Int) 16=((x/2^16:Nat):Int):=kb9 x 16;have Z:ishr .u64 (x:Int) 8=((x/2^8:Nat):Int):=kb9 x 8;have F:ishr .u64 ((x/2^32:Nat):Int) 16=((x/2^32/2^16:Nat):Int):=kb9 _ 16;have I:ishr .u64 ((x/2^32:Nat):Int) 8=((x/2^32/2^8:Nat):Int):=kb9 _ 8;have Q:ishr .u64 ((x/2^16:Nat):Int) 8=((x/2^16/2^8:Nat):Int):=kb9 _ 8;have z:ishr .u64 ((x/2^32/2^16:Nat):Int) 8=((x/2^32/2^16/2^8:Nat):Int):=kb9 _ 8;rw[U,F,z,I,V,Q,Z];refine qbc (λW=>?_) (λW=>?_)
  ·rw[qby]at W;refine qbc (λG=>?_) (λG=>?_)
   ·rw[qby]at G;refine qbc (λy=>?_) (λy=>?_)
    ·rw[qby]at y;refine kg4 (K:=λn=>wrap .i64 ((wrap .i64 ((wrap .i64 (32+16))+8))+n)) (by omega) λn b H=>⟨32+(16+(8+n)),?_,rfl,((b.up (by omega)).up (by omega)).up (by omega)⟩;rw[show(wrap .i64 ((wrap .i64 (32+16))+8))=56 from by decide,wrap64 (by omega) (by omega)];congr 1;omega
    ·rw[qbx]at y;refine kg4 (K:=λn=>wrap .i64 ((wrap .i64 (32+16))+n)) (by omega) λn b H=>⟨32+(16+n),?_,rfl,(b.up (by omega)).up (by omega)⟩;rw[show(wrap .i64 (32+16))=48 from by decide,wrap64 (by omega) (by omega)];congr 1;omega
   ·rw[qbx]at G;refine qbc (λy=>?_) (λy=>?_)
    ·rw[qby]at y;refine kg4 (K:=λn=>wrap .i64 ((wrap .i64 (32+8))+n)) (by omega) λn b H=>⟨32+(8+n),?_,rfl,(b.up (by omega)).up (by omega)⟩;rw[show(wrap .i64 (32+8))=40 from by decide,wrap64 (by omega) (by omega)];congr 1;omega
    ·rw[qbx]at y;refine kg4 (K:=λn=>wrap .i64 (32+n)) (by omega) λn b H=>⟨32+n,?_,rfl,b.up (by omega)⟩;rw[wrap64 (by omega) (by omega)];congr 1
  ·rw[qbx]at W;refine qbc (λG=>?_) (λG=>?_)
   ·rw[qby]at G;refine qbc (λy=>?_) (λy=>?_)
    ·rw[qby]at y;refine kg4 (K:=λn=>wrap .i64 ((wrap .i64 ((wrap .i64 (0+16))+8))+n)) (by omega) λn b H=>⟨16+(8+n),?_,rfl,(b.up (by omega)).up (by omega)⟩;rw[show(wrap .i64 ((wrap .i64 (0+16))+8))=24 from by decide,wrap64 (by omega) (by omega)];congr 1;omega
    ·rw[qbx]at y;refine kg4 (K:=λn=>wrap .i64 ((wrap .i64 (0+16))+n)) (by omega) λn b H=>⟨16+n,?_,rfl,b.up (by omega)⟩;rw[show(wrap .i64 (0+16))=16 from by decide,wrap64 (by omega) (by omega)];congr 1
   ·rw[qbx]at G;refine qbc (λy=>?_) (λy=>?_)
    ·rw[qby]at y;refine kg4 (K:=λn=>wrap .i64 ((wrap .i64 (0+8))+n)) (by omega) λn b H=>⟨8+n,?_,rfl,b.up (by omega)⟩;rw[show(wrap .i64 (0+8))=8 from by decide,wrap64 (by omega) (by omega)];congr 1
    ·rw[qbx]at y;refine kg4 (K:=λn=>wrap .i64 (0+n)) (by omega) λn b H=>⟨n,?_,rfl,b⟩;rw[wrap64 (by omega) (by omega)];congr 1;omega
 obtain⟨_,_,e,n,rfl,rfl,b⟩:=key;exact⟨n,e,b⟩
end Go.Ab
set_option maxRecDepth 10000
namespace Go.Ab
open Go.Proofs Go.Num
theorem Bl.uniq{x n m:Nat}(a:Bl x n)(b:Bl x m):n=m:=Nat.le_antisymm (a.le b.1) (b.le a.1)
theorem k4e(a:Int){h:AH}(y:0<=a/\a<18446744073709551616):go (.fn ksd [.int .u64 a]) h=some (.i ((64-bl a.toNat:Nat):Int),h):=by obtain⟨x,rfl⟩:∃x:Nat,a=(x:Int):=⟨a.toNat,by omega⟩;obtain⟨l,e,b⟩:=k2o (x:=x) (by omega) (h:=h);have z:=b.le (m:=64) (show x<2^64 by omega);have:=b.uniq (bl_Bl x);subst this;rw[kbny,e,qbv,qbv,kc,qbv,Int.toNat_natCast,wrap64 (by omega) (by omega)];rw[show(64:Int)-(bl x:Int)=((64-bl x:Nat):Int)from by omega]
theorem kzi{x:Nat}(z:x<18446744073709551616)(h0:0<x):64-bl x<=63/\9223372036854775808<=x*2^(64-bl x)/\x*2^(64-bl x)<18446744073709551616:=by
 have b:=bl_Bl x;generalize bl x=l at b;have F:=b.le (m:=64) (show x<2^64 by omega)
 have y:1<=l:=by
  rcases Nat.eq_zero_or_pos l with e | e
  ·subst e;have:=b.1;rw[Nat.pow_zero]at this;omega
  ·exact e
 refine⟨by omega,?_,?_⟩
 ·rcases b.2 with h1 | h1
  ·omega
  ·have h2:2^(l-1)*2^(64-l)<=x*2^(64-l):=Nat.mul_le_mul_right _ h1;rw[<- Nat.pow_add,show l-1+(64-l)=63 from by omega]at h2;exact h2
 ·have h2:x*2^(64-l)<2^l*2^(64-l):=Nat.mul_lt_mul_of_pos_right b.1 (Nat.pow_pos (by decide));rw[<- Nat.pow_add,show l+(64-l)=64 from by omega]at h2;exact h2
theorem kjs(x n:Nat)(y:n<=64):ishl .u64 (x:Int) (n:Int)=((x*2^n%18446744073709551616:Nat):Int):=by
 unfold ishl;rw[Int.toNat_natCast,show IntKind.bits .u64=64 from rfl,Nat.min_eq_left y,wrapU];have:(x:Int)*(2:Int)^n=((x*2^n:Nat):Int):=by simp
 rw[this];rfl
theorem krw{a c s:Nat}(h:a*2^s<18446744073709551616)(z:c<2^s)(hs:s<=64):ior .u64 ((a*2^s:Nat):Int) (c:Int)=((a*2^s+c:Nat):Int):=by
 have p:0<2^s:=Nat.pow_pos (by decide);have y:c<18446744073709551616:=show c<2^64 from qbt z (Nat.pow_le_pow_right (by decide) hs)
 have F:a*2^s+c<18446744073709551616:=by
  have e:2^(64-s)*2^s=18446744073709551616:=by rw[<- Nat.pow_add,show 64-s+s=64 from by omega]
  have h1:a<2^(64-s):=Nat.lt_of_mul_lt_mul_right (a:=2^s) (by rw[e];exact h);have h2:(a+1)*2^s<=2^(64-s)*2^s:=Nat.mul_le_mul_right _ h1;rw[e,Nat.add_mul,Nat.one_mul]at h2;omega
 unfold ior;rw[show IntKind.bits .u64=64 from rfl,wrapU];have H:BitVec.ofInt 64 ((a*2^s:Nat):Int)=BitVec.ofNat 64 (a*2^s):=rfl;have I:BitVec.ofInt 64 (c:Int)=BitVec.ofNat 64 c:=rfl;have G:=Nat.shiftLeft_add_eq_or_of_lt z a;rw[Nat.shiftLeft_eq]at G;rw[H,I,BitVec.toNat_or,BitVec.toNat_ofNat,BitVec.toNat_ofNat,Nat.mod_eq_of_lt (show a*2^s<2^64 from h),Nat.mod_eq_of_lt (show c<2^64 from y),<- G];omega
end Go.Ab
set_option maxRecDepth 10000
namespace Go.Ab
open IntKind (wrap)
open Go.Proofs Go.Num
inductive kct
 | fn (a1:Int) (a2:Int) (a3:Int)
 | p3 (a1:Int) (a2:Int) (a3:Int)
 | p17 (a1:Int) (a2:Int) (a3:Int) (a4:Int) (a5:Int) (a6:Int) (a7:Int) (a8:Int) (a9:Int)
 | p24 (a1:Int) (a2:Int) (a3:Int) (a4:Int) (a5:Int) (a6:Int) (a7:Int) (a8:Int) (a9:Int)
abbrev kbx:=Int×Int
noncomputable def knh(a1 a2 a3:Int):Option (kct⊕kbx):=cond (decide (a3=0)) (none) (some (.inl (.p3 a1 a2 a3)))
noncomputable def ki4(a1 a2 a3:Int):Option (kct⊕kbx):=cond (decide (a3<=a1)) (none) (cond (decide (a1=0)) (cond (decide (a3=0)) (none) (cond (decide (a3=0)) (none) (some (.inr (wrap .u64 (Int.tdiv a2 a3),Int.tmod a2 a3))))) ((need (0<=a3/\a3<18446744073709551616)).bind λy=>cond (decide ((wrap .u64 (((64-bl (Int.toNat a3):Nat):Int)))<0)) (none) (cond (decide ((wrap .u64 (((64-bl (Int.toNat a3):Nat):Int)))<0)) (none) (cond (decide ((wrap .u64 (64-(wrap .u64 (((64-bl (Int.toNat a3):Nat):Int)))))<0)) (none) (cond (decide ((wrap .u64 (((64-bl (Int.toNat a3):Nat):Int)))<0)) (none) (cond (decide ((ishr .u64 (ishl .u64 a3 (wrap .u64 (((64-bl (Int.toNat a3):Nat):Int)))) 32)=0)) (none) (some (.inl (.p17 (ishl .u64 a3 (wrap .u64 (((64-bl (Int.toNat a3):Nat):Int)))) (wrap .u64 (((64-bl (Int.toNat a3):Nat):Int))) (ishr .u64 (ishl .u64 a3 (wrap .u64 (((64-bl (Int.toNat a3):Nat):Int)))) 32) (iand .u64 (ishl .u64 a3 (wrap .u64 (((64-bl (Int.toNat a3):Nat):Int)))) 4294967295) (ior .u64 (ishl .u64 a1 (wrap .u64 (((64-bl (Int.toNat a3):Nat):Int)))) (ishr .u64 a2 (wrap .u64 (64-(wrap .u64 (((64-bl (Int.toNat a3):Nat):Int))))))) (ishr .u64 (ishl .u64 a2 (wrap .u64 (((64-bl (Int.toNat a3):Nat):Int)))) 32) (iand .u64 (ishl .u64 a2 (wrap .u64 (((64-bl (Int.toNat a3):Nat):Int)))) 4294967295) (wrap .u64 (Int.tdiv (ior .u64 (ishl .u64 a1 (wrap .u64 (((64-bl (Int.toNat a3):Nat):Int)))) (ishr .u64 a2 (wrap .u64 (64-(wrap .u64 (((64-bl (Int.toNat a3):Nat):Int))))))) (ishr .u64 (ishl .u64 a3 (wrap .u64 (((64-bl (Int.toNat a3):Nat):Int)))) 32))) (wrap .u64 ((ior .u64 (ishl .u64 a1 (wrap .u64 (((64-bl (Int.toNat a3):Nat):Int)))) (ishr .u64 a2 (wrap .u64 (64-(wrap .u64 (((64-bl (Int.toNat a3):Nat):Int)))))))-(wrap .u64 ((wrap .u64 (Int.tdiv (ior .u64 (ishl .u64 a1 (wrap .u64 (((64-bl (Int.toNat a3):Nat):Int)))) (ishr .u64 a2 (wrap .u64 (64-(wrap .u64 (((64-bl (Int.toNat a3):Nat):Int))))))) (ishr .u64 (ishl .u64 a3 (wrap .u64 (((64-bl (Int.toNat a3):Nat):Int)))) 32)))*(ishr .u64 (ishl .u64 a3 (wrap .u64 (((64-bl (Int.toNat a3):Nat):Int)))) 32))))))))))))))
noncomputable def kga(a1 a2 a3 a4 a5 a6 a7 a8 a9:Int):Option (kct⊕kbx):=cond (decide (a8>=4294967296)) (cond (decide ((wrap .u64 (a9+a3))>=4294967296)) (cond (decide (a3=0)) (none) (some (.inl (.p24 a1 a2 a3 a4 a7 (wrap .u64 (a8-1)) (wrap .u64 ((wrap .u64 ((wrap .u64 ((wrap .u64 (a5*4294967296))+a6))-(wrap .u64 ((wrap .u64 (a8-1))*a1))))-(wrap .u64 ((wrap .u64 (Int.tdiv (wrap .u64 ((wrap .u64 ((wrap .u64 (a5*4294967296))+a6))-(wrap .u64 ((wrap .u64 (a8-1))*a1)))) a3))*a3)))) (wrap .u64 ((wrap .u64 ((wrap .u64 (a5*4294967296))+a6))-(wrap .u64 ((wrap .u64 (a8-1))*a1)))) (wrap .u64 (Int.tdiv (wrap .u64 ((wrap .u64 ((wrap .u64 (a5*4294967296))+a6))-(wrap .u64 ((wrap .u64 (a8-1))*a1)))) a3)))))) (some (.inl (.p17 a1 a2 a3 a4 a5 a6 a7 (wrap .u64 (a8-1)) (wrap .u64 (a9+a3)))))) (cond (decide ((wrap .u64 (a8*a4))>(wrap .u64 ((wrap .u64 (4294967296*a9))+a6)))) (cond (decide ((wrap .u64 (a9+a3))>=4294967296)) (cond (decide (a3=0)) (none) (some (.inl (.p24 a1 a2 a3 a4 a7 (wrap .u64 (a8-1)) (wrap .u64 ((wrap .u64 ((wrap .u64 ((wrap .u64 (a5*4294967296))+a6))-(wrap .u64 ((wrap .u64 (a8-1))*a1))))-(wrap .u64 ((wrap .u64 (Int.tdiv (wrap .u64 ((wrap .u64 ((wrap .u64 (a5*4294967296))+a6))-(wrap .u64 ((wrap .u64 (a8-1))*a1)))) a3))*a3)))) (wrap .u64 ((wrap .u64 ((wrap .u64 (a5*4294967296))+a6))-(wrap .u64 ((wrap .u64 (a8-1))*a1)))) (wrap .u64 (Int.tdiv (wrap .u64 ((wrap .u64 ((wrap .u64 (a5*4294967296))+a6))-(wrap .u64 ((wrap .u64 (a8-1))*a1)))) a3)))))) (some (.inl (.p17 a1 a2 a3 a4 a5 a6 a7 (wrap .u64 (a8-1)) (wrap .u64 (a9+a3)))))) (cond (decide (a3=0)) (none) (some (.inl (.p24 a1 a2 a3 a4 a7 a8 (wrap .u64 ((wrap .u64 ((wrap .u64 ((wrap .u64 (a5*4294967296))+a6))-(wrap .u64 (a8*a1))))-(wrap .u64 ((wrap .u64 (Int.tdiv (wrap .u64 ((wrap .u64 ((wrap .u64 (a5*4294967296))+a6))-(wrap .u64 (a8*a1)))) a3))*a3)))) (wrap .u64 ((wrap .u64 ((wrap .u64 (a5*4294967296))+a6))-(wrap .u64 (a8*a1)))) (wrap .u64 (Int.tdiv (wrap .u64 ((wrap .u64 ((wrap .u64 (a5*4294967296))+a6))-(wrap .u64 (a8*a1)))) a3)))))))
noncomputable def kge(a1 a2 a3 a4 a5 a6 a7 a8 a9:Int):Option (kct⊕kbx):=cond (decide (a9>=4294967296)) (cond (decide ((wrap .u64 (a7+a3))>=4294967296)) (cond (decide (a2<0)) (none) (some (.inr (wrap .u64 ((wrap .u64 (a6*4294967296))+(wrap .u64 (a9-1))),ishr .u64 (wrap .u64 ((wrap .u64 ((wrap .u64 (a8*4294967296))+a5))-(wrap .u64 ((wrap .u64 (a9-1))*a1)))) a2)))) (some (.inl (.p24 a1 a2 a3 a4 a5 a6 (wrap .u64 (a7+a3)) a8 (wrap .u64 (a9-1)))))) (cond (decide ((wrap .u64 (a9*a4))>(wrap .u64 ((wrap .u64 (4294967296*a7))+a5)))) (cond (decide ((wrap .u64 (a7+a3))>=4294967296)) (cond (decide (a2<0)) (none) (some (.inr (wrap .u64 ((wrap .u64 (a6*4294967296))+(wrap .u64 (a9-1))),ishr .u64 (wrap .u64 ((wrap .u64 ((wrap .u64 (a8*4294967296))+a5))-(wrap .u64 ((wrap .u64 (a9-1))*a1)))) a2)))) (some (.inl (.p24 a1 a2 a3 a4 a5 a6 (wrap .u64 (a7+a3)) a8 (wrap .u64 (a9-1)))))) (cond (decide (a2<0)) (none) (some (.inr (wrap .u64 ((wrap .u64 (a6*4294967296))+a9),ishr .u64 (wrap .u64 ((wrap .u64 ((wrap .u64 (a8*4294967296))+a5))-(wrap .u64 (a9*a1)))) a2)))))
noncomputable def kfo:kct->Option (kct⊕kbx)
 | .fn a1 a2 a3=>knh a1 a2 a3
 | .p3 a1 a2 a3=>ki4 a1 a2 a3
 | .p17 a1 a2 a3 a4 a5 a6 a7 a8 a9=>kga a1 a2 a3 a4 a5 a6 a7 a8 a9
 | .p24 a1 a2 a3 a4 a5 a6 a7 a8 a9=>kge a1 a2 a3 a4 a5 a6 a7 a8 a9
@[reducible] def kpm(h0:AH)(r:kbx)(v:AV)(h':AH):Prop:=v=.tup [.int .u64 r.1,.int .u64 r.2]/\Grow h0 h'
def kgk(r:kbx):kct->Prop
 | .fn a1 a2 a3=>∀{h:AH},Runs (go (.fn kbw [.int .u64 a1,.int .u64 a2,.int .u64 a3]) h) (kpm h r)
 | .p3 a1 a2 a3=>∀{h0 h:AH},Grow h0 h->Runs (go (.pt kbw kwm [(0,.int .u64 a1),(1,.int .u64 a2),(2,.int .u64 a3)]) h) (kpm h0 r)
 | .p17 a1 a2 a3 a4 a5 a6 a7 a8 a9=>∀{h0 h:AH},Grow h0 h->Runs (go (.pt kbw kne [(2,.int .u64 a1),(8,.int .u64 a2),(9,.int .u64 a3),(10,.int .u64 a4),(11,.int .u64 a5),(13,.int .u64 a6),(14,.int .u64 a7),(15,.int .u64 a8),(16,.int .u64 a9)]) h) (kpm h0 r)
 | .p24 a1 a2 a3 a4 a5 a6 a7 a8 a9=>∀{h0 h:AH},Grow h0 h->Runs (go (.pt kbw kjm [(2,.int .u64 a1),(8,.int .u64 a2),(9,.int .u64 a3),(10,.int .u64 a4),(14,.int .u64 a5),(15,.int .u64 a6),(16,.int .u64 a7),(17,.int .u64 a8),(18,.int .u64 a9)]) h) (kpm h0 r)
theorem kbf5{r:kbx}{o:kct⊕kbx}{a1 a2 a3:Int}(e:knh a1 a2 a3=some o)(y:GoodS (kgk r) r o):kgk r (.fn a1 a2 a3):=by
 intro h;rw[kbif];unfold knh at e;refine qbc (λz=>?_) (λz=>?_)
 ·replace e:=(condT z).symm.trans e;cases e
 ·replace e:=(condF z).symm.trans e;cases e;exact y (qk _)
theorem kbox{r:kbx}{o:kct⊕kbx}{a1 a2 a3:Int}(e:ki4 a1 a2 a3=some o)(y:GoodS (kgk r) r o):kgk r (.p3 a1 a2 a3):=by
 intro h0 h W;rw[kbdk];unfold ki4 at e;refine qbc (λI=>?_) (λI=>?_)
 ·replace e:=(condT I).symm.trans e;cases e
 ·replace e:=(condF I).symm.trans e;refine qbc (λK=>?_) (λK=>?_)
  ·replace e:=(condT K).symm.trans e;refine qbc (λQ=>?_) (λQ=>?_)
   ·replace e:=(condT Q).symm.trans e;cases e
   ·replace e:=(condF Q).symm.trans e;refine qbc (λz=>?_) (λz=>?_)
    ·replace e:=(condT z).symm.trans e;cases e
    ·replace e:=(condF z).symm.trans e;cases e;cases y;exact qx ⟨rfl,W⟩
  ·replace e:=(condF K).symm.trans e;obtain⟨H,Z,e⟩:=qbw.1 e;refine qy (k4e a3  H.down) (qy (seen qcr) ?_);refine qbc (λz=>?_) (λz=>?_)
   ·replace e:=(condT z).symm.trans e;cases e
   ·replace e:=(condF z).symm.trans e;refine qbc (λU=>?_) (λU=>?_)
    ·replace e:=(condT U).symm.trans e;cases e
    ·replace e:=(condF U).symm.trans e;refine qbc (λV=>?_) (λV=>?_)
     ·replace e:=(condT V).symm.trans e;cases e
     ·replace e:=(condF V).symm.trans e;refine qbc (λF=>?_) (λF=>?_)
      ·replace e:=(condT F).symm.trans e;cases e
      ·replace e:=(condF F).symm.trans e;refine qbc (λG=>?_) (λG=>?_)
       ·replace e:=(condT G).symm.trans e;cases e
       ·replace e:=(condF G).symm.trans e;cases e;exact y W
theorem kbf9{r:kbx}{o:kct⊕kbx}{a1 a2 a3 a4 a5 a6 a7 a8 a9:Int}(e:kga a1 a2 a3 a4 a5 a6 a7 a8 a9=some o)(z:GoodS (kgk r) r o):kgk r (.p17 a1 a2 a3 a4 a5 a6 a7 a8 a9):=by
 intro h0 h I;rw[kbh5];unfold kga at e;refine qbc (λG=>?_) (λG=>?_)
 ·replace e:=(condT G).symm.trans e;refine qbc (λF=>?_) (λF=>?_)
  ·replace e:=(condT F).symm.trans e;refine qbc (λy=>?_) (λy=>?_)
   ·replace e:=(condT y).symm.trans e;cases e
   ·replace e:=(condF y).symm.trans e;cases e;exact z I
  ·replace e:=(condF F).symm.trans e;cases e;exact z I
 ·replace e:=(condF G).symm.trans e;refine qbc (λF=>?_) (λF=>?_)
  ·replace e:=(condT F).symm.trans e;refine qbc (λy=>?_) (λy=>?_)
   ·replace e:=(condT y).symm.trans e;refine qbc (λH=>?_) (λH=>?_)
    ·replace e:=(condT H).symm.trans e;cases e
    ·replace e:=(condF H).symm.trans e;cases e;exact z I
   ·replace e:=(condF y).symm.trans e;cases e;exact z I
  ·replace e:=(condF F).symm.trans e;refine qbc (λy=>?_) (λy=>?_)
   ·replace e:=(condT y).symm.trans e;cases e
   ·replace e:=(condF y).symm.trans e;cases e;exact z I
theorem k70{r:kbx}{o:kct⊕kbx}{a1 a2 a3 a4 a5 a6 a7 a8 a9:Int}(e:kge a1 a2 a3 a4 a5 a6 a7 a8 a9=some o)(z:GoodS (kgk r) r o):kgk r (.p24 a1 a2 a3 a4 a5 a6 a7 a8 a9):=by
 intro h0 h I;rw[kbob];unfold kge at e;refine qbc (λG=>?_) (λG=>?_)
 ·replace e:=(condT G).symm.trans e;refine qbc (λF=>?_) (λF=>?_)
  ·replace e:=(condT F).symm.trans e;refine qbc (λy=>?_) (λy=>?_)
   ·replace e:=(condT y).symm.trans e;cases e
   ·replace e:=(condF y).symm.trans e;cases e;cases z;exact qx ⟨rfl,I⟩
  ·replace e:=(condF F).symm.trans e;cases e;exact z I
 ·replace e:=(condF G).symm.trans e;refine qbc (λF=>?_) (λF=>?_)
  ·replace e:=(condT F).symm.trans e;refine qbc (λy=>?_) (λy=>?_)
   ·replace e:=(condT y).symm.trans e;refine qbc (λH=>?_) (λH=>?_)
    ·replace e:=(condT H).symm.trans e;cases e
    ·replace e:=(condF H).symm.trans e;cases e;cases z;exact qx ⟨rfl,I⟩
   ·replace e:=(condF y).symm.trans e;cases e;exact z I
  ·replace e:=(condF F).symm.trans e;refine qbc (λy=>?_) (λy=>?_)
   ·replace e:=(condT y).symm.trans e;cases e
   ·replace e:=(condF y).symm.trans e;cases e;cases z;exact qx ⟨rfl,I⟩
theorem kbq3{s:kct}{r:kbx}(z:Iter kfo s r):kgk r s:=qbf (λs o e y=>by
 cases s with
 | fn a1 a2 a3=>exact @kbf5 _ _ a1 a2 a3 e y
 | p3 a1 a2 a3=>exact @kbox _ _ a1 a2 a3 e y
 | p17 a1 a2 a3 a4 a5 a6 a7 a8 a9=>exact @kbf9 _ _ a1 a2 a3 a4 a5 a6 a7 a8 a9 e y
 | p24 a1 a2 a3 a4 a5 a6 a7 a8 a9=>exact @k70 _ _ a1 a2 a3 a4 a5 a6 a7 a8 a9 e y
 ) z
theorem ktd(a c:Nat):Int.tdiv (a:Int) (c:Int)=((a/c:Nat):Int):=rfl
theorem kboz(a c:Nat):Int.tmod (a:Int) (c:Int)=((a%c:Nat):Int):=rfl
def st24(a1 a2 a3 a4 a5 a6 a7 q:Int):kct :=
 .p24 a1 a2 a3 a4 a7 q (wrap .u64 ((wrap .u64 ((wrap .u64 ((wrap .u64 (a5*4294967296))+a6))-(wrap .u64 (q*a1))))-(wrap .u64 ((wrap .u64 (Int.tdiv (wrap .u64 ((wrap .u64 ((wrap .u64 (a5*4294967296))+a6))-(wrap .u64 (q*a1)))) a3))*a3)))) (wrap .u64 ((wrap .u64 ((wrap .u64 (a5*4294967296))+a6))-(wrap .u64 (q*a1)))) (wrap .u64 (Int.tdiv (wrap .u64 ((wrap .u64 ((wrap .u64 (a5*4294967296))+a6))-(wrap .u64 (q*a1)))) a3))
theorem un_eq{y z q v:Nat}(hq:q=(y*4294967296+z)/v)(F:0<v)(hv:v<18446744073709551616):wrap .u64 ((wrap .u64 ((wrap .u64 ((y:Int)*4294967296))+(z:Int)))-(wrap .u64 ((q:Int)*(v:Int))))=(((y*4294967296+z)%v:Nat):Int):=by
 have h1:=Nat.div_add_mod (y*4294967296+z) v;have h2:=Nat.mod_lt (y*4294967296+z) F;rw[<- hq,Nat.mul_comm]at h1;rw[wrapU,wrapU,wrapU,wrapU,<- Int.natCast_mul];generalize q*v=t at *
 generalize (y*4294967296+z)%v=m at *
 omega
theorem kbpz{s v F I y G K q:Nat}(hq:q=(y*4294967296+G)/v)(H:0<v)(hv:v<18446744073709551616)(h1:0<F) :
  st24 v s F I y G K q=.p24 v s F I K q (((y*4294967296+G)%v%F:Nat):Int) (((y*4294967296+G)%v:Nat):Int) (((y*4294967296+G)%v/F:Nat):Int):=by
 unfold st24;rw[un_eq hq H hv,ktd];have h2:=Nat.mod_lt (y*4294967296+G) H;generalize (y*4294967296+G)%v=m at *
 have U:=Nat.div_le_self m F;rw[kco (n:=m/F) (by omega),<- Int.natCast_mul];have Q:=Nat.div_add_mod m F;rw[Nat.mul_comm]at Q;have V:=Nat.mod_lt m h1;rw[wrapU,wrapU]
 have e:((m:Int)-((m/F*F:Nat):Int)%18446744073709551616)%18446744073709551616=((m%F:Nat):Int):=by
  generalize m/F*F=t at *
  generalize m%F=z at *
  omega
 rw[e]
theorem div17{s v z F y G W:Nat}{res:kbx}(hv:v=z*4294967296+F)(h1:0<z)(aa:z<4294967296)(h0:F<4294967296)(Q:y<v)(U:G<4294967296)
  (K:Iter kfo (st24 v s z F y G W (((y*4294967296+G)/v:Nat):Int)) res) :
  ∀(q r:Nat),q*z+r=y->(y*4294967296+G)/v<=q->r<4294967296->q<8589934592->Iter kfo (.p17 v s z F y G W q r) res
 | q,r,e,V,hr,hq=>by
  have ab:v<18446744073709551616:=by omega
  have H:(4294967296<=q\/4294967296*r+G<q*F)->∃o,Iter kfo o res/\
    cond (decide ((wrap .u64 ((r:Int)+(z:Int)))>=4294967296)) (cond (decide ((z:Int)=0)) none (some (Sum.inl (β:=kbx) (st24 v s z F y G W (wrap .u64 ((q:Int)-1)))))) (some (.inl (.p17 v s z F y G W (wrap .u64 ((q:Int)-1)) (wrap .u64 ((r:Int)+(z:Int))))))=some (.inl o):=by
   intro t;obtain⟨I,Z⟩:=kn_hi hv Q U rfl e V t;obtain⟨p,rfl⟩:∃p,q=p+1:=⟨q-1,by omega⟩;rw[Nat.add_sub_cancel]at I
   have e':p*z+(r+z)=y:=by rw[Nat.add_mul,Nat.one_mul]at e;omega
   have w1:wrap .u64 (((p+1:Nat):Int)-1)=(p:Int):=by rw[wrapU];omega
   have w2:wrap .u64 ((r:Int)+(z:Int))=((r+z:Nat):Int):=by rw[wrapU];omega
   rw[w1,w2];by_cases ho:4294967296<=r+z
   ·have:=kn_lo hv Q rfl e' I (kn_out hv h0 Q e' ho);rw[this]at K;refine⟨_,K,?_⟩;rw[condT (by rw[qby];omega),condF (by rw[qbx];omega)]
   ·refine⟨_,div17 hv h1 aa h0 Q U K p (r+z) e' I (by omega) (by omega),?_⟩;rw[condF (by rw[qbx];omega)]
  by_cases c1:4294967296<=q
  ·obtain⟨o,I,Z⟩:=H (.inl c1);refine .next ?_ I;show kga _ _ _ _ _ _ _ _ _=_;unfold kga;rw[condT (by rw[qby];omega)];exact Z
  ·have m1:q*F<=4294967295*4294967295:=Nat.mul_le_mul (by omega) (by omega)
   have w3:wrap .u64 ((q:Int)*(F:Int))=((q*F:Nat):Int):=by rw[<- Int.natCast_mul];exact kco (by omega)
   have w4:wrap .u64 ((wrap .u64 (4294967296*(r:Int)))+(G:Int))=((4294967296*r+G:Nat):Int):=by rw[wrapU,wrapU];omega
   by_cases c2:4294967296*r+G<q*F
   ·obtain⟨o,I,Z⟩:=H (.inr c2);refine .next ?_ I;show kga _ _ _ _ _ _ _ _ _=_;unfold kga;rw[condF (by rw[qbx];omega),w3,w4,condT (by rw[qby];omega)];exact Z
   ·have:=kn_lo hv Q rfl e V (by omega);rw[this]at K;refine .next ?_ K;show kga _ _ _ _ _ _ _ _ _=_;unfold kga;rw[condF (by rw[qbx];omega),w3,w4,condF (by rw[qbx];omega),condF (by rw[qbx];omega)];rfl
termination_by q=>q
def fin24(a1 a2 a5 a6 a8 q:Int):Option (kct⊕kbx):=cond (decide (a2<0)) none (some (.inr (wrap .u64 ((wrap .u64 (a6*4294967296))+q),ishr .u64 (wrap .u64 ((wrap .u64 ((wrap .u64 (a8*4294967296))+a5))-(wrap .u64 (q*a1)))) a2)))
theorem div24{s v z H y F q1:Nat}{res:kbx}(hv:v=z*4294967296+H)(h1:0<z)(aa:z<4294967296)(h0:H<4294967296)(V:y<v)(W:F<4294967296)
  (K:fin24 v s F q1 y (((y*4294967296+F)/v:Nat):Int)=some (.inr res)) :
  ∀(q r:Nat),q*z+r=y->(y*4294967296+F)/v<=q->r<4294967296->q<8589934592->Iter kfo (.p24 v s z H F q1 r y q) res
 | q,r,e,Z,hr,hq=>by
  have ab:v<18446744073709551616:=by omega
  have Q:(4294967296<=q\/4294967296*r+F<q*H)->∃o,(o=Sum.inr res\/∃I,o=.inl I/\Iter kfo I res)/\
    cond (decide ((wrap .u64 ((r:Int)+(z:Int)))>=4294967296)) (fin24 v s F q1 y (wrap .u64 ((q:Int)-1))) (some (.inl (.p24 v s z H F q1 (wrap .u64 ((r:Int)+(z:Int))) y (wrap .u64 ((q:Int)-1)))))=some o:=by
   intro t;obtain⟨U,k2⟩:=kn_hi hv V W rfl e Z t;obtain⟨p,rfl⟩:∃p,q=p+1:=⟨q-1,by omega⟩;rw[Nat.add_sub_cancel]at U
   have e':p*z+(r+z)=y:=by rw[Nat.add_mul,Nat.one_mul]at e;omega
   have w1:wrap .u64 (((p+1:Nat):Int)-1)=(p:Int):=by rw[wrapU];omega
   have w2:wrap .u64 ((r:Int)+(z:Int))=((r+z:Nat):Int):=by rw[wrapU];omega
   rw[w1,w2];by_cases ho:4294967296<=r+z
   ·have:=kn_lo hv V rfl e' U (kn_out hv h0 V e' ho);rw[this]at K;refine⟨.inr res,.inl rfl,?_⟩;rw[condT (by rw[qby];omega)];exact K
   ·refine⟨_,.inr ⟨_,rfl,div24 hv h1 aa h0 V W K p (r+z) e' U (by omega) (by omega)⟩,?_⟩;rw[condF (by rw[qbx];omega)]
  have G:∀{I:kct}{o:kct⊕kbx},(o=Sum.inr res\/∃I,o=.inl I/\Iter kfo I res)->kfo I=some o->Iter kfo I res:=by
   intro I o h e;rcases h with rfl | ⟨ac,rfl,it⟩
   ·exact .done e
   ·exact .next e it
  by_cases c1:4294967296<=q
  ·obtain⟨o,U,k2⟩:=Q (.inl c1);refine G U ?_;show kge _ _ _ _ _ _ _ _ _=_;unfold kge;rw[condT (by rw[qby];omega)];exact k2
  ·have m1:q*H<=4294967295*4294967295:=Nat.mul_le_mul (by omega) (by omega)
   have w3:wrap .u64 ((q:Int)*(H:Int))=((q*H:Nat):Int):=by rw[<- Int.natCast_mul];exact kco (by omega)
   have w4:wrap .u64 ((wrap .u64 (4294967296*(r:Int)))+(F:Int))=((4294967296*r+F:Nat):Int):=by rw[wrapU,wrapU];omega
   by_cases c2:4294967296*r+F<q*H
   ·obtain⟨o,U,k2⟩:=Q (.inr c2);refine G U ?_;show kge _ _ _ _ _ _ _ _ _=_;unfold kge;rw[condF (by rw[qbx];omega),w3,w4,condT (by rw[qby];omega)];exact k2
   ·have:=kn_lo hv V rfl e Z (by omega);rw[this]at K;refine .done ?_;show kge _ _ _ _ _ _ _ _ _=_;unfold kge;rw[condF (by rw[qbx];omega),w3,w4,condF (by rw[qbx];omega)];exact K
termination_by q=>q
end Go.Ab
