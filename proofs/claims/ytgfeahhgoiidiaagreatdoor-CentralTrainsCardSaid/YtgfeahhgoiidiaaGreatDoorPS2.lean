/- Words and laws that the last text joins. -/
import Derived.Test.YtgfeahhgoiidiaaGreatDoorPU1
import Derived.Test.YtgfeahhgoiidiaaGreatDoorPAbsL
set_option linter.unusedVariables false
set_option linter.unusedSimpArgs false
set_option linter.unusedSectionVars false
set_option maxRecDepth 10000
namespace Go.Ab
open Go.Proofs Go.Num
@[reducible] def B:Nat:=18446744073709551616
theorem B2:2<=B:=by decide
def rt(xs:List Nat):Bool:=decide (xs.length<=64)&&(decide (xs.length=0)||!decide (xs.getD (xs.length-1) 0=0))
theorem kbx{xs:List Nat}{i:Nat}(h:i<xs.length):xs.getD i 0=xs[i]:=by simp[List.getD,h]
theorem rt_iff{xs:List Nat}:rt xs=true↔xs.length<=64/\Trim xs:=by
 unfold rt Trim;simp only[qb8,qbw,qb9,qch,qbv,List.length_eq_zero_iff];refine and_congr_right λ_=>?_;constructor
 ·rintro (h | h) y
  ·exact absurd h y
  ·rwa[List.getLast_eq_getElem,<- kbx]
 ·intro h;by_cases A:xs=[]
  ·exact .inl A
  ·right
   have:=h A;rwa[List.getLast_eq_getElem,<- kbx]at this
theorem Nats.last{h:AH}{s:Sl}{xs:List Nat}(n:Nats h s xs)(F:xs.length≠0):∃r,idx s.ref s.len (IntKind.wrap .i64 ((s.len:Int)-1)) 1=some r/\h.cell r=some (.int .u64 ((xs.getD (xs.length-1) 0:Nat):Int)):=by
 obtain⟨k,A⟩:∃k,xs.length=k+1:=⟨xs.length-1,by omega⟩;have H:=n.short;obtain⟨r,y,C⟩:=n.at (i:=k) (by omega);rw[n.len,A]at y|-;rw[kqt (by omega)];refine⟨r,y,?_⟩;rw[C,show k+1-1=k from rfl,kbx (by omega)]
theorem kgp{h:AH}{s:Sl}{xs:List Nat}(n:Nats h s xs):go (.fn keu [s.v]) h=some (.bool (rt xs),h):=by
 rw[kbgb];have F:=n.len;refine kga (λh1=>?_) (λh1=>?_)
 ·have h1:xs.length<=64:=by rw[qbw]at h1;omega
  refine kga (λy=>?_) (λy=>?_)
  ·have y:xs.length=0:=by rw[qbw]at y;omega
   simp[rt,y]
  ·have y:xs.length≠0:=by rw[qbv]at y;omega
   obtain⟨r,A,C⟩:=n.last y;simp[A,C,rt,h1];cases xs
   ·simp at y
   ·simp
 ·have h1:¬xs.length<=64:=by rw[qbv]at h1;omega
  simp[rt,h1]
theorem kcl{h:AH}{s:Sl}{xs:List Nat}(n:Nats h s xs):go (.fn kcb [s.v]) h=some (.bool (rt xs),h):=by
 rw[kbfp];have F:=n.len;refine kga (λh1=>?_) (λh1=>?_)
 ·have h1:xs.length<=64:=by rw[qbw]at h1;omega
  refine kga (λy=>?_) (λy=>?_)
  ·have y:xs.length=0:=by rw[qbw]at y;omega
   simp[rt,y]
  ·have y:xs.length≠0:=by rw[qbv]at y;omega
   obtain⟨r,A,C⟩:=n.last y;simp[A,C,rt,h1];cases xs
   ·simp at y
   ·simp
 ·have h1:¬xs.length<=64:=by rw[qbv]at h1;omega
  simp[rt,h1]
theorem kwo{h:AH}{s:Sl}{xs:List Nat}(n:Nats h s xs):∀(k:Nat),k<=xs.length->(∀i,k<=i->(hi:i<xs.length)->xs[i]=0)->
  ∃s',go (.pt kb1 knm [(0,s.v),(3,.i (k:Int))]) h=some (s'.v,h)/\Nats h s' (digs B (num B xs))/\∀h0,Own h0 s->Own h0 s'
 | 0,y,A=>by
  rw[kq7];obtain⟨s',C,F,H⟩:=n.cut (l:=0) (n:=0) (qbp _) y;have:=knx B2 n.lt A y (.inl rfl);simp at C;simp only[Int.natCast_zero,gt_iff_lt,Int.lt_irrefl,decide_false,cond_false,C,qbt];refine⟨s',rfl,?_,H⟩;rw[<- this]
  simpa using F
 | k+1,y,A=>by
  rw[kq7];obtain⟨r,C,F⟩:=n.at (i:=k) (by omega);have X:=n.short;rw[kqt (by omega)];rw[show(decide (((k+1:Nat):Int)>0))=true from by rw[qbw];omega];simp only[cond_true,C,F,qbt,kb];by_cases I:xs[k]=0
  ·rw[I,show(decide (((0:Nat):Int)=0))=true from rfl,cond_true];refine kwo n k (by omega) λi hi K=>?_;rcases Nat.lt_or_ge k i with h1 | h1
   ·exact A i (by omega) K
   ·have:i=k:=by omega
    subst this;exact I
  ·obtain⟨s',H,Q,U⟩:=n.cut (l:=0) (n:=k+1) (by omega) y;have V:=knx B2 n.lt A y (.inr ⟨by omega,by simpa using I⟩);rw[show(decide (((xs[k]:Nat):Int)=0))=false from by rw[qbv];omega];simp only[cond_false];rw[show cutSl s 0 ((k+1:Nat):Int) 1=some s' from H];refine⟨s',rfl,?_,U⟩;rw[<- V]
   simpa using Q
theorem kec{h:AH}{s:Sl}{xs:List Nat}(n:Nats h s xs):∃s',go (.fn kb1 [s.v]) h=some (s'.v,h)/\Nats h s' (digs B (num B xs))/\∀h0,Own h0 s->Own h0 s':=by
 rw[ksh,n.len];exact kwo n xs.length (qbp _) λi h1 y=>by omega
end Go.Ab
set_option maxRecDepth 10000
namespace Go.Ab
open IntKind (wrap)
open Go.Proofs Go.Num
theorem kln{n:Nat}(h:n<=8796093022208):growOk Pg n kg 1=true:=by
 unfold growOk;rw[k99,kei];have h1:n*8<=kx:=by simp only[kx];omega
 have y:n<=kx:=by simp only[kx];omega
 simp[h1,y]
theorem knk{h:AH}{s:Sl}{xs:List Nat}(n:Nats h s xs)(F:xs.length<=8796093022208):∃s' h',go (.fn kie [s.v]) h=some (s'.v,h')/\Nats h' s' xs/\Grow h h'/\Own h s':=by
 rw[kbh9];cases y:s.ref with
 | none =>
  have:xs=[]:=by
   cases xs with
   | nil=>rfl
   | cons x xs =>
    obtain⟨r,A,_⟩:=n.cells.get 0 (u64 x) rfl;rw[y]at A;cases A
  subst this;exact⟨_,_,rfl,qw h,ql h,qu h⟩
 | some r =>
  simp only[Option.isNone_some,cond_false,kbv];have n1:=n.grow (qm h (.cells [] kg));have C:=n1.cells;rw[<- klc]at C;rw[kkj C,n.len];simp only[qbt];have own:∀(m:Nat)(c:Cap),Own h ⟨some (.new h.blks.size 0),m,c⟩:=λm c r y=>by cases y;exact⟨_,_,rfl,qbp _⟩
  cases xs with
  | nil =>
   obtain⟨s',A,H,I⟩:=kr9 (P:=Pg) (elem:=kg) (m:=1) (by omega) (qr (n:=1) (m:=0) (qo h [] kg) rfl);simp only[List.map_nil,List.length_nil,A,qbt,asSl_v];exact⟨s',_,rfl,⟨H,by simp,by simp⟩,qm _ _,I h (own 0 (.is 0))⟩
  | cons x xs =>
   rw[kfj (c:=0) rfl (by simp) (kln (by simpa using F)) (qr (n:=1) (m:=0) (qo h [] kg) rfl)];simp only[qbt,asSl_v];refine⟨_,_,rfl,⟨⟨rfl,by simp,λi v K=>⟨_,rfl,by rw[qj,Nat.zero_add,AH.cell_push];exact K⟩⟩,n.lt,n.short⟩,(qm _ _).trans (qm _ _),λr y=>?_⟩;cases y;exact⟨_,_,rfl,by simp⟩
def fromI(neg:Bool)(xs:List Nat):Bool×List Nat:=if rt xs=true/\xs≠[]then(neg,xs)else(false,[])
@[reducible] def nilI:List AV:=[.bool false,nV]
theorem kdj{h:AH}{s:Sl}{xs:List Nat}(n:Nats h s xs)(neg:Bool):∃(s':Sl)(h':AH),go (.fn kcf [.bool neg,s.v]) h=some (.agg [.bool (fromI neg xs).1,s'.v],h')/\Nats h' s' (fromI neg xs).2/\Grow h h'/\Own h s':=by
 rw[kbau];simp only[kbv];have A:=qo h nilI ki;have C:=qm h (.cells nilI ki);have H:=n.grow C;rw[kgp H];simp only[qbt,kbl,qj,Nat.zero_add];generalize h.push (.cells nilI ki)=h0 at *
 cases y:rt xs with
 | false =>
  rw[show fromI neg xs=(false,[])from by simp[fromI,y]];refine⟨⟨none,0,.is 0⟩,h0.upd h.blks.size nilI ki,?_,qw _,C.upd (qbp _) _ _,qu h⟩;simp[A.puts_all,qq A]
 | true =>
  by_cases F:xs=[]
  ·rw[show fromI neg xs=(false,[])from by simp[fromI,F]];have:s.len=0:=by rw[n.len,F];rfl
   refine⟨⟨none,0,.is 0⟩,h0.upd h.blks.size nilI ki,?_,qw _,C.upd (qbp _) _ _,qu h⟩;simp[A.puts_all,qq A,this]
  ·rw[show fromI neg xs=(neg,xs)from by simp[fromI,F,y]];have:s.len≠0:=by rw[n.len];simpa using F
   have Q:=(rt_iff.1 y).1;obtain⟨s',h',U,V,I,K⟩:=knk H (by omega);have b1:=I.has A;refine⟨s',h'.upd h.blks.size [.bool neg,s'.v] ki,?_,?_,(C.trans I).upd (qbp _) _ _,λr X=>?_⟩
   ·simp[U,b1.puts_all,qq b1,this]
   ·exact V.upd K A.lt _ _
   ·exact K.of_le C r X
theorem kdu{h:AH}{s:Sl}{xs:List Nat}(n:Nats h s xs)(neg:Bool):∃(s':Sl)(h':AH),go (.fn kcn [.bool neg,s.v]) h=some (.agg [.bool (fromI neg xs).1,s'.v],h')/\Nats h' s' (fromI neg xs).2/\Grow h h'/\Own h s':=by
 rw[kbbp];simp only[kbv];have C:=qo h nilI ki;have F:=qm h (.cells nilI ki);have K:=n.grow F;rw[kcl K];simp only[qbt,kbl,qj,Nat.zero_add];generalize h.push (.cells nilI ki)=h0 at *
 cases y:rt xs with
 | false =>
  rw[show fromI neg xs=(false,[])from by simp[fromI,y]];refine⟨⟨none,0,.is 0⟩,h0.upd h.blks.size nilI ki,?_,qw _,F.upd (qbp _) _ _,qu h⟩;simp[C.puts_all,qq C]
 | true =>
  by_cases A:xs=[]
  ·rw[show fromI neg xs=(false,[])from by simp[fromI,A]];have:s.len=0:=by rw[n.len,A];rfl
   refine⟨⟨none,0,.is 0⟩,h0.upd h.blks.size nilI ki,?_,qw _,F.upd (qbp _) _ _,qu h⟩;simp[C.puts_all,qq C,this]
  ·rw[show fromI neg xs=(neg,xs)from by simp[fromI,A,y]];have hl:s.len≠0:=by rw[n.len];simpa using A
   have Y:=(rt_iff.1 y).1;have Q:=qm h0 (.cells [] kg);have U:=(K.grow Q).cells;rw[<- klc]at U;have H:0<xs.length:=by cases xs;exact absurd rfl A;simp
   rw[kkj U,n.len];simp only[qbt];rw[kfj (c:=0) rfl (by simpa using H) (kln (by simp;omega)) (qr (n:=1) (m:=0) (qo h0 [] kg) rfl)];simp only[qbt,asSl_v,AH.push_size,List.nil_append,Nat.zero_add];have V:=Q.trans (qm (h0.push (.cells [] kg)) (.cells (xs.map u64) kg));have b1:=V.has C
   have Z:Nats ((h0.push (.cells [] kg)).push (.cells (xs.map u64) kg)) ⟨some (.new (h0.blks.size+1) 0),xs.length,.opn 1⟩ xs :=
    ⟨⟨rfl,by simp,λi v hv=>⟨_,rfl,by
     have:=AH.cell_push (h0.push (.cells [] kg)) (xs.map u64) kg i;rw[AH.push_size]at this;rw[qj,Nat.zero_add,this];exact hv⟩⟩,n.lt,n.short⟩
   have X:Own h0 ⟨some (.new (h0.blks.size+1) 0),xs.length,.opn 1⟩:=λr hr=>by cases hr;exact⟨_,_,rfl,by omega⟩
   generalize (h0.push (.cells [] kg)).push (.cells (xs.map u64) kg)=h2 at *
   refine⟨_,h2.upd h.blks.size [.bool neg,Sl.v ⟨some (.new (h0.blks.size+1) 0),xs.length,.opn 1⟩] ki,?_,Z.upd X C.lt _ _,(F.trans V).upd (qbp _) _ _,X.of_le F⟩;have I:¬(xs=[]):=A;simp[b1.puts_all,qq b1,I,A]
theorem k1y{h:AH}{x:Nat}(y:x<B):∃(s':Sl)(h':AH),go (.fn kex [.int .u64 (x:Int)]) h=some (s'.v,h')/\Nats h' s' (digs B x)/\Grow h h'/\Own h s':=by
 rw[k7t];simp only[kbv];have A:Nats (h.push (.cells [u64 x] kg)) ⟨some (.new h.blks.size 0),1,.is 1⟩ [x]:=⟨qr (qo h [u64 x] kg) rfl,by simpa using y,by simp⟩;obtain⟨s',C,F,H⟩:=kec A;rw[C];simp only[qbt,asSl_v];refine⟨s',_,rfl,by simpa[num]using F,qm _ _,H h λr I=>by cases I;exact⟨_,_,rfl,qbp _⟩⟩
theorem ktt{h:AH}{x:Nat}(y:x<B):∃(s':Sl)(h':AH),go (.fn kfz [.int .u64 (x:Int)]) h=some (s'.v,h')/\Nats h' s' (digs B x)/\Grow h h'/\Own h s':=by
 rw[kbg6];by_cases h0:x=0
 ·subst h0;rw[kcc];exact⟨_,_,rfl,qw h,ql h,qu h⟩
 ·have A:digs B x=[x]:=by
   rw[ke2 B2 h0,Nat.mod_eq_of_lt y,Nat.div_eq_of_lt y,kcc]
  rw[A];rw[show decide ((x:Int)=0)=false from by rw[qbv];omega];refine⟨_,_,rfl,⟨qr (qo h [u64 x] kg) rfl,by simpa using y,by simp⟩,qm _ _,λr C=>by cases C;exact⟨_,_,rfl,qbp _⟩⟩
def ofI(n:Int):Bool×List Nat:=fromI (decide (n<0)) (digs B n.natAbs)
theorem k9n{h:AH}{n:Int}(h1:-9223372036854775808<=n)(h2:n<=9223372036854775807):∃(s':Sl)(h':AH),go (.fn kh9 [.i n]) h=some (.agg [.bool (ofI n).1,s'.v],h')/\Nats h' s' (ofI n).2/\Grow h h'/\Own h s':=by
 rw[k7n];simp only[kbv];have U:=qo h nilI ki;have V:=qm h (.cells nilI ki);generalize h.push (.cells nilI ki)=h0 at *
 have key:∀(neg:Bool)(x:Nat),x<B->fromI neg (digs B x)=ofI n->∃(s':Sl)(h':AH),
   ((go (.fn kex [.int .u64 (x:Int)]) h0).bind λX =>
    ((some X.1).bind AV.asSl).bind λl4 =>
    (go (.fn kcf [.bool neg,l4.v]) X.2).bind λY =>
    (AV.asAgg Y.1).bind λy =>
    cond (Nat.beq y.length 2) (
    ((y[0]?).bind AV.asBool).bind λb7 =>
    ((y[1]?).bind AV.asSl).bind λl8 =>
    (Y.2.puts (.new h.blks.size 0) [.bool b7,l8.v]).bind λH =>
    ((H.cell ((Ref.new h.blks.size 0).add 0)).bind AV.asBool).bind λI =>
    ((H.cell ((Ref.new h.blks.size 0).add 1)).bind AV.asSl).bind λK =>
    some (AV.agg [.bool I,K.v],H)) none)=some (AV.agg [.bool (ofI n).1,s'.v],h')/\Nats h' s' (ofI n).2/\Grow h h'/\Own h s':=by
  intro neg x A he;obtain⟨s1,aa,e1,n1,C,o1⟩:=k1y (h:=h0) A;obtain⟨s2,Q,Z,n2,g2,o2⟩:=kdj n1 neg;rw[he]at Z n2;have b2:=(C.trans g2).has U;refine⟨s2,Q.upd h.blks.size [.bool (ofI n).1,s2.v] ki,?_,n2.upd o2 (C.has U).lt _ _,(V.trans (C.trans g2)).upd (qbp _) _ _,o2.of_le (V.trans C)⟩;simp[e1,Z,b2.puts_all,qq b2]
 by_cases F:n<0
 ·rw[show decide (n<0)=true from qbx F,cond_true]
  have A:wrap .u64 (0-wrap .u64 n)=((n.natAbs:Nat):Int):=by
   rw[wrapU,wrapU];omega
  rw[A];exact key true n.natAbs (by show _<18446744073709551616;omega) (by simp[ofI,F])
 ·rw[show decide (n<0)=false from qby F,cond_false]
  have A:wrap .u64 n=((n.natAbs:Nat):Int):=by
   rw[wrapU];omega
  rw[A];exact key false n.natAbs (by show _<18446744073709551616;omega) (by simp[ofI,F])
theorem kbg8{h:AH}{n:Int}(h1:-9223372036854775808<=n)(h2:n<=9223372036854775807):∃(s':Sl)(h':AH),go (.fn keo [.i n]) h=some (.agg [.bool (ofI n).1,s'.v],h')/\Nats h' s' (ofI n).2/\Grow h h'/\Own h s':=by
 rw[k5i];simp only[kbv];have U:=qo h nilI ki;have V:=qm h (.cells nilI ki);generalize h.push (.cells nilI ki)=h0 at *
 have key:∀(neg:Bool)(x:Nat),x<B->fromI neg (digs B x)=ofI n->∃(s':Sl)(h':AH),
   ((go (.fn kfz [.int .u64 (x:Int)]) h0).bind λX =>
    ((some X.1).bind AV.asSl).bind λl4 =>
    (go (.fn kcn [.bool neg,l4.v]) X.2).bind λY =>
    (AV.asAgg Y.1).bind λy =>
    cond (Nat.beq y.length 2) (
    ((y[0]?).bind AV.asBool).bind λb7 =>
    ((y[1]?).bind AV.asSl).bind λl8 =>
    (Y.2.puts (.new h.blks.size 0) [.bool b7,l8.v]).bind λH =>
    ((H.cell ((Ref.new h.blks.size 0).add 0)).bind AV.asBool).bind λI =>
    ((H.cell ((Ref.new h.blks.size 0).add 1)).bind AV.asSl).bind λK =>
    some (AV.agg [.bool I,K.v],H)) none)=some (AV.agg [.bool (ofI n).1,s'.v],h')/\Nats h' s' (ofI n).2/\Grow h h'/\Own h s':=by
  intro neg x A he;obtain⟨s1,aa,e1,n1,C,o1⟩:=ktt (h:=h0) A;obtain⟨s2,Q,Z,n2,g2,o2⟩:=kdu n1 neg;rw[he]at Z n2;have b2:=(C.trans g2).has U;refine⟨s2,Q.upd h.blks.size [.bool (ofI n).1,s2.v] ki,?_,n2.upd o2 (C.has U).lt _ _,(V.trans (C.trans g2)).upd (qbp _) _ _,o2.of_le (V.trans C)⟩;simp[e1,Z,b2.puts_all,qq b2]
 by_cases F:n<0
 ·rw[show decide (n<0)=true from qbx F,cond_true]
  have A:wrap .u64 ((wrap .u64 (wrap .i64 (0-(wrap .i64 (n+1)))))+1)=((n.natAbs:Nat):Int):=by
   rw[wrap64 (n:=n+1) (by omega) (by omega),wrap64 (by omega) (by omega),wrapU,wrapU];omega
  rw[A];exact key true n.natAbs (by show _<18446744073709551616;omega) (by simp[ofI,F])
 ·rw[show decide (n<0)=false from qby F,cond_false]
  have A:wrap .u64 n=((n.natAbs:Nat):Int):=by
   rw[wrapU];omega
  rw[A];exact key false n.natAbs (by show _<18446744073709551616;omega) (by simp[ofI,F])
end Go.Ab
set_option maxRecDepth 10000
namespace Go.Ab
open Go.Proofs Go.Num
def rtI(neg:Bool)(xs:List Nat):Bool:=rt xs&&(!neg||decide (xs≠[]))
theorem kmd{h:AH}{s:Sl}{xs:List Nat}(n:Nats h s xs)(neg:Bool):∃h',go (.fn khf [.agg [.bool neg,s.v]]) h=some (.bool (rtI neg xs),h')/\Grow h h':=by
 rw[k71];simp only[kbv];have A:=qo h [.bool neg,s.v] ki;have y:=qm h (.cells [.bool neg,s.v] ki);have C:=n.grow y;have F:=n.len;generalize h.push (.cells [.bool neg,s.v] ki)=h0 at *
 refine⟨h0,?_,y⟩;simp[A.cell,kgp C,rtI];cases rt xs<;>cases neg<;>simp[F];cases xs<;>simp
theorem kd8{h:AH}{s:Sl}{xs:List Nat}(n:Nats h s xs)(neg:Bool):∃h',go (.fn kdm [.agg [.bool neg,s.v]]) h=some (.bool (rtI neg xs),h')/\Grow h h':=by
 rw[kbfj];simp only[kbv];have A:=qo h [.bool neg,s.v] ki;have y:=qm h (.cells [.bool neg,s.v] ki);have C:=n.grow y;have F:=n.len;generalize h.push (.cells [.bool neg,s.v] ki)=h0 at *
 refine⟨h0,?_,y⟩;simp[A.cell,kcl C,rtI];cases rt xs<;>cases neg<;>simp[F];cases xs<;>simp
structure Rows(h:AH)(s:Sl)(rows:List (Sl×List Nat)):Prop where
 cells:Cells h s 1 (rows.map λp=>p.1.v)
 each:∀p∈rows,Nats h p.1 p.2
 short:rows.length<=9223372036854775807
theorem Rows.len{h:AH}{s:Sl}{rows:List (Sl×List Nat)}(n:Rows h s rows):s.len=rows.length:=by
 have:=n.cells.len
 simpa using this
theorem Rows.at{h:AH}{s:Sl}{rows:List (Sl×List Nat)}(n:Rows h s rows){i:Nat}(hi:i<rows.length):∃r,idx s.ref s.len (i:Int) 1=some r/\h.cell r=some (rows[i].1).v:=by
 obtain⟨r,y,A⟩:=n.cells.get i (rows[i].1).v (by simp[hi]);refine⟨r.add i,?_,A⟩;rw[y,kdx _ _ _ _ (by omega) (by rw[n.len];omega)];simp
theorem Rows.two{h:AH}{a b:Sl}{xs ys:List Nat}(n:Nats h a xs)(m:Nats h b ys):Rows (h.push (.cells [a.v,b.v] kcz)) ⟨some (.new h.blks.size 0),2,.is 2⟩ [(a,xs),(b,ys)]:=by
 refine⟨qr (qo _ _ _) rfl,λp y=>?_,by simp⟩;have g:=qm h (.cells [a.v,b.v] kcz);simp at y;rcases y with rfl | rfl
 ·exact n.grow g
 ·exact m.grow g
theorem kxp{b:Nat}(y:1<=b){xs:List Nat}(A:∀x∈xs,x<b){k:Nat}(C:k<=xs.length):num b (xs.take k)<b^k:=by
 have:=num_lt (b:=b) y (xs:=xs.take k) λx h=>A x (List.mem_of_mem_take h);rwa[qce,Nat.min_eq_left C]at this
theorem k2x{b:Nat}(y:1<=b){xs ys:List Nat}(A:∀x∈xs,x<b)(C:∀x∈ys,x<b){k:Nat}(h1:k<xs.length)(F:k<ys.length) :
  cmp (num b (xs.take (k+1))) (num b (ys.take (k+1)))=if xs[k]<ys[k]then -1 else if xs[k]=ys[k]then cmp (num b (xs.take k)) (num b (ys.take k))else 1:=by
 rw[kds b h1,kds b F];exact k7d (kxp y A (by omega)) (kxp y C (by omega))
theorem kyy{b:Nat}(y:2<=b){xs ys:List Nat}(A:∀x∈xs,x<b)(C:∀x∈ys,x<b)(F:Trim xs)(ty:Trim ys)(h:xs.length≠ys.length):cmp (num b xs) (num b ys)=if xs.length<ys.length then -1 else 1:=by
 rcases Nat.lt_or_ge xs.length ys.length with h1 | h1
 ·have:=ktg y A C ty h1;simp[cmp,this,h1]
 ·have:=ktg y C A F (by omega);rw[if_neg (by omega)];unfold cmp;rw[if_neg (by omega),if_neg (by omega)]
theorem k3h{h:AH}{s t:Sl}{xs ys:List Nat}(n:Nats h s xs)(m:Nats h t ys)(A:xs.length=ys.length):∀(k:Nat),k<=xs.length->
  go (.pt kev ko3 [(0,s.v),(1,t.v),(5,.i ((k:Int)-1))]) h=some (.i (cmp (num B (xs.take k)) (num B (ys.take k))),h)
 | 0,C=>by
  rw[kyu];rfl
 | k+1,C=>by
  have Q:=n.short;obtain⟨r,F,H⟩:=n.at (i:=k) (by omega);obtain⟨q,I,K⟩:=m.at (i:=k) (by omega);rw[kyu,show(((k+1:Nat):Int)-1)=(k:Int)from by omega,show decide ((k:Int)>=0)=true from by rw[qbw];omega];simp only[cond_true,F,I,H,K,qbt,kb];rw[k2x (by decide) n.lt m.lt (by omega) (by omega),wrap64 (n:=(k:Int)-1) (by omega) (by omega),k3h n m A k (by omega)];by_cases h1:xs[k]=ys[k]'(by omega)
  ·rw[show decide (((xs[k]:Nat):Int)=((ys[k]'(by omega):Nat):Int))=true from by rw[qbw];omega];simp[h1]
  ·rw[show decide (((xs[k]:Nat):Int)=((ys[k]'(by omega):Nat):Int))=false from by rw[qbv];omega];by_cases y:xs[k]<ys[k]'(by omega)
   ·rw[show decide (((xs[k]:Nat):Int)<((ys[k]'(by omega):Nat):Int))=true from by rw[qbw];omega];simp[y]
   ·rw[show decide (((xs[k]:Nat):Int)<((ys[k]'(by omega):Nat):Int))=false from by rw[qbv];omega];simp[h1,y]
theorem kpb{h:AH}{s t:Sl}{xs ys:List Nat}(n:Nats h s xs)(m:Nats h t ys)(A:Trim xs)(ty:Trim ys):go (.fn kev [s.v,t.v]) h=some (.i (cmp (num B xs) (num B ys)),h):=by
 have C:=n.short;have F:=m.short;rw[kbi8,n.len,m.len];by_cases y:xs.length=ys.length
 ·rw[show decide ((xs.length:Int)=(ys.length:Int))=true from by rw[qbw];omega];simp only[Bool.not_true,cond_false];rw[wrap64 (by omega) (by omega),k3h n m y xs.length (qbp _),List.take_length,y,List.take_length]
 ·rw[show decide ((xs.length:Int)=(ys.length:Int))=false from by rw[qbv];omega,kyy B2 n.lt m.lt A ty y];by_cases h1:xs.length<ys.length
  ·rw[show decide ((xs.length:Int)<(ys.length:Int))=true from by rw[qbw];omega];simp[h1]
  ·rw[show decide ((xs.length:Int)<(ys.length:Int))=false from by rw[qbv];omega];simp[h1]
@[reducible] def D:Nat:=65536
theorem D2:2<=D:=by decide
theorem k26{h:AH}{s t:Sl}{xs ys:List Nat}(n:Nats h s xs)(m:Nats h t ys)(y:∀x∈xs,x<D)(A:∀x∈ys,x<D)(F:xs.length=ys.length):∀(k:Nat),k<=xs.length->
  go (.pt kfu kn7 [(0,s.v),(1,t.v),(5,.i ((k:Int)-1))]) h=some (.i (cmp (num D (xs.take k)) (num D (ys.take k))),h)
 | 0,H=>by
  rw[kyt];rfl
 | k+1,H=>by
  have V:=n.short;obtain⟨r,I,K⟩:=n.at (i:=k) (by omega);obtain⟨q,Q,U⟩:=m.at (i:=k) (by omega);rw[kyt,show(((k+1:Nat):Int)-1)=(k:Int)from by omega,show decide ((k:Int)>=0)=true from by rw[qbw];omega];simp only[cond_true,I,Q,K,U,qbt,kb];rw[k2x (by decide) y A (by omega) (by omega),wrap64 (n:=(k:Int)-1) (by omega) (by omega),k26 n m y A F k (by omega)];by_cases C:xs[k]<ys[k]'(by omega)
  ·rw[show decide (((xs[k]:Nat):Int)<((ys[k]'(by omega):Nat):Int))=true from by rw[qbw];omega];simp[C]
  ·rw[show decide (((xs[k]:Nat):Int)<((ys[k]'(by omega):Nat):Int))=false from by rw[qbv];omega];by_cases h1:xs[k]=ys[k]'(by omega)
   ·rw[show decide (((xs[k]:Nat):Int)>((ys[k]'(by omega):Nat):Int))=false from by rw[qbv];omega];simp[h1]
   ·rw[show decide (((xs[k]:Nat):Int)>((ys[k]'(by omega):Nat):Int))=true from by rw[qbw];omega];simp[h1,C]
theorem kur{h:AH}{s t:Sl}{xs ys:List Nat}(n:Nats h s xs)(m:Nats h t ys)(A:∀x∈xs,x<D)(C:∀x∈ys,x<D)(F:Trim xs)(ty:Trim ys):go (.fn kfu [s.v,t.v]) h=some (.i (cmp (num D xs) (num D ys)),h):=by
 have H:=n.short;have I:=m.short;rw[kbi9,n.len,m.len];by_cases y:xs.length=ys.length
 ·rw[show decide ((xs.length:Int)=(ys.length:Int))=true from by rw[qbw];omega];simp only[Bool.not_true,cond_false];rw[wrap64 (by omega) (by omega),k26 n m A C y xs.length (qbp _),List.take_length,y,List.take_length]
 ·rw[show decide ((xs.length:Int)=(ys.length:Int))=false from by rw[qbv];omega,kyy D2 A C F ty y];by_cases h1:xs.length<ys.length
  ·rw[show decide ((xs.length:Int)<(ys.length:Int))=true from by rw[qbw];omega];simp[h1]
  ·rw[show decide ((xs.length:Int)<(ys.length:Int))=false from by rw[qbv];omega];simp[h1]
theorem k0h{h:AH}{s:Sl}{xs:List Nat}(n:Nats h s xs)(H:∀x∈xs,x<D):∀(k:Nat),k<=xs.length->(∀i,k<=i->(hi:i<xs.length)->xs[i]=0)->
  ∃s',go (.pt kdq ko1 [(0,s.v),(3,.i (k:Int))]) h=some (s'.v,h)/\Nats h s' (digs D (num D xs))/\∀h0,Own h0 s->Own h0 s'
 | 0,A,C=>by
  rw[k1p];obtain⟨s',F,I,K⟩:=n.cut (l:=0) (n:=0) (qbp _) A;have:=knx D2 H C A (.inl rfl);simp at F;simp only[Int.natCast_zero,gt_iff_lt,Int.lt_irrefl,decide_false,cond_false,F,qbt];refine⟨s',rfl,?_,K⟩;rw[<- this]
  simpa using I
 | k+1,A,C=>by
  rw[k1p];obtain⟨r,F,I⟩:=n.at (i:=k) (by omega);have Y:=n.short;rw[kqt (by omega)];rw[show(decide (((k+1:Nat):Int)>0))=true from by rw[qbw];omega];simp only[cond_true,F,I,qbt,kb];by_cases y:xs[k]=0
  ·rw[y,show(decide (((0:Nat):Int)=0))=true from rfl,cond_true];refine k0h n H k (by omega) λi hi Q=>?_;rcases Nat.lt_or_ge k i with h1 | h1
   ·exact C i (by omega) Q
   ·have:i=k:=by omega
    subst this;exact y
  ·obtain⟨s',K,U,V⟩:=n.cut (l:=0) (n:=k+1) (by omega) A;have X:=knx D2 H C A (.inr ⟨by omega,by simpa using y⟩);rw[show(decide (((xs[k]:Nat):Int)=0))=false from by rw[qbv];omega];simp only[cond_false];rw[show cutSl s 0 ((k+1:Nat):Int) 1=some s' from K];refine⟨s',rfl,?_,V⟩;rw[<- X]
   simpa using U
theorem kke{h:AH}{s:Sl}{xs:List Nat}(n:Nats h s xs)(y:∀x∈xs,x<D):∃s',go (.fn kdq [s.v]) h=some (s'.v,h)/\Nats h s' (digs D (num D xs))/\∀h0,Own h0 s->Own h0 s':=by
 rw[kbkk,n.len];exact k0h n y xs.length (qbp _) λi h1 A=>by omega
theorem Mine.push_u64{h0 h:AH}{s:Sl}{ds:List Nat}(M:Mine h0 h s kg 1 (ds.map u64))(x:Nat)(C:ds.length<8796093022208) :
  ∃s' h',kv Pg s [u64 x] 1 kg 1 h=some (s'.v,h')/\Mine h0 h' s' kg 1 ((ds++[x]).map u64):=by
 have:s.len=ds.length:=by simpa using M.cells.len
 obtain⟨s',h',y,F,A,H⟩:=M.append (n:=1) (cs:=[u64 x]) (by omega) rfl (kln (by rw[this];omega));exact⟨s',h',y,by simpa using A⟩
theorem kzr{h0:AH}{s:Sl}(i:Nat):∀(k j:Nat),j+k=4->∀{h:AH}{d:Sl}{ds:List Nat}{x:Nat},Mine h0 h d kg 1 (ds.map u64)->ds.length<1099511627776+j->x<B->
  ∃y h',go (.pt kb8 kn5 [(0,s.v),(3,d.v),(4,.i (i:Int)),(5,.int .u64 (x:Int)),(6,.i (j:Int))]) h =
   go (.pt kb8 kms [(0,s.v),(3,Sl.v y),(4,.i (IntKind.wrap .i64 ((i:Int)+1)))]) h'/\Mine h0 h' y kg 1 ((ds++(dig4 x).take k).map u64)
 | 0,j,A,h,d,ds,x,M,F,C=>by
  rw[k0m,show decide ((j:Int)<4)=false from by rw[qbv];omega];exact⟨d,h,rfl,by simpa using M⟩
 | k+1,j,A,h,d,ds,x,M,F,C=>by
  rw[k0m,show decide ((j:Int)<4)=true from by rw[qbw];omega,cond_true];simp only[kbv];have H:Int.tmod (x:Int) 65536=((x%65536:Nat):Int):=by rw[Int.tmod_eq_emod_of_nonneg (by omega)];omega
  have I:IntKind.wrap .u64 (Int.tdiv (x:Int) 65536)=((x/65536:Nat):Int):=by
   rw[Int.tdiv_eq_ediv_of_nonneg (by omega),wrapU];have:x<18446744073709551616:=C;omega
  have c:Cells (h.push (.cells [u64 (x%65536)] kg)) ⟨some (.new h.blks.size 0),1,.is 1⟩ (Pg.cellsOf kg) [u64 (x%65536)]:=by
   rw[klc];exact qr (qo h [u64 (x%65536)] kg) rfl
  rw[H,I,kkj c];simp only[qbt];obtain⟨s',h',K,Q⟩:=(M.grow' (qm h (.cells [u64 (x%65536)] kg))).push_u64 (x%65536) (by omega);rw[K];simp only[qbt,asSl_v];rw[kj (by omega)];obtain⟨y,U,V,X⟩:=kzr i k (j+1) (by omega) (x:=x/65536) Q (by simp;omega) (by have:x<18446744073709551616:=C;show _<18446744073709551616;omega);refine⟨y,U,V,?_⟩
  have:(dig4 x).take (k+1)=x%65536::(dig4 (x/65536)).take k:=by
   match k,A with
   | 0,_=>rfl
   | 1,_=>rfl
   | 2,_=>rfl
   | 3,_=>rfl
   | k+4,A=>omega
  rw[this]
  simpa using X
theorem kx4{h0:AH}{s:Sl}{xs:List Nat}(n:Nats h0 s xs)(U:xs.length<=1073741824):∀(k i:Nat),i+k=xs.length->∀{h:AH}{d:Sl},Mine h0 h d kg 1 (((xs.take i).flatMap dig4).map u64)->
  ∃(H:Sl)(h':AH),go (.pt kb8 kms [(0,s.v),(3,d.v),(4,.i (i:Int))]) h=some (H.v,h')/\Nats h' H (digs D (num B xs))/\Grow h0 h'/\Own h0 H
 | 0,i,hi,h,d,M=>by
  rw[ky1,n.len,show decide ((i:Int)<(xs.length:Int))=false from by rw[qbv];omega,cond_false];rw[List.take_of_length_le (by omega)]at M
  have A:∀(l:List Nat),(l.flatMap dig4).length=l.length*4:=by
   intro l
   induction l with
   | nil=>rfl
   | cons a l ih=>rw[List.flatMap_cons,qbz,ih];simp[dig4];omega
  have F:∀x∈xs.flatMap dig4,x<D:=by
   intro x C;obtain⟨y,_,V⟩:=List.mem_flatMap.1 C;simp[dig4]at V;show x<65536;omega
  have N:Nats h d (xs.flatMap dig4):=⟨M.cells,λx C=>by have:x<65536:=F x C;omega,by rw[A];omega⟩;obtain⟨s',I,K,Q⟩:=kke N F;rw[I];simp only[qbt,asSl_v];refine⟨s',h,rfl,?_,M.grow,Q h0 M.own_of⟩;rwa[kbbw (c:=B) (k:=4) (by decide) λx C=>kbdl (n.lt x C)]at K
 | k+1,i,hi,h,d,M=>by
  have X:=n.grow M.grow;obtain⟨r,I,K⟩:=X.at (i:=i) (by omega);rw[ky1,show decide ((i:Int)<(s.len:Int))=true from by rw[qbw,n.len];omega,cond_true,I];simp only[qbt,K,kb]
  have A:((xs.take i).flatMap dig4).length=(xs.take i).length*4:=by
   generalize xs.take i=l
   induction l with
   | nil=>rfl
   | cons a l ih=>rw[List.flatMap_cons,qbz,ih];simp[dig4];omega
  obtain⟨H,h',Q,Y⟩:=kzr (s:=s) i 4 0 (by omega) (x:=xs[i]'(by omega)) M (by rw[A,qce];omega) (n.lt _ (qb2 _));rw[show(0:Int)=((0:Nat):Int)from rfl,Q,kj (by omega)];refine kx4 n U k (i+1) (by omega) ?_;rw[qcg (by omega),List.flatMap_append]
  simpa[dig4]using Y
theorem kfa{h:AH}{s:Sl}{xs:List Nat}(n:Nats h s xs)(A:xs.length<=1073741824):∃(y:Sl)(h':AH),go (.fn kb8 [s.v]) h=some (y.v,h')/\Nats h' y (digs D (num B xs))/\Grow h h'/\Own h y:=by
 rw[kbhd];exact kx4 n A xs.length 0 (by omega) (Mine.nil h kg 1)
theorem kbde{h:AH}{s:Sl}{xs:List Nat}(n:Nats h s xs):go (.fn keq [s.v]) h=some (.bool (!rt xs),h):=by
 rw[kbk4,kgp n];rfl
theorem k3x{h:AH}{s:Sl}{rows:List (Sl×List Nat)}(n:Rows h s rows):∀(k i:Nat),i+k=rows.length->
  ∃j:Int,go (.pt kjj kq0 [(0,s.v),(1,.func (.func keq) [] []),(7,.i (rows.length:Int)),(8,.i (i:Int))]) h=some (.i j,h)/\
   (j>=0↔(rows.drop i).all (λp=>rt p.2)=false)
 | 0,i,hi=>by
  rw[kwy,show decide ((i:Int)<(rows.length:Int))=false from by rw[qbv];omega,List.drop_of_length_le (by omega)];exact⟨-1,rfl,by simp⟩
 | k+1,i,hi=>by
  have I:=n.short;obtain⟨r,y,A⟩:=n.at (i:=i) (by omega);have C:=n.each rows[i] (qb2 _);rw[kwy,show decide ((i:Int)<(rows.length:Int))=true from by rw[qbw];omega,cond_true,y];simp only[qbt,A,asSl_v,kbde C,kbl];rw[qcf (by omega),List.all_cons,kj (by omega)];cases K:rt (rows[i].2)with
  | false=>exact⟨(i:Int),rfl,by simp⟩
  | true =>
   obtain⟨j,F,H⟩:=k3x n k (i+1) (by omega);exact⟨j,F,by simpa using H⟩
theorem kme{h:AH}{s:Sl}{rows:List (Sl×List Nat)}(n:Rows h s rows):go (.fn kg7 [s.v]) h=some (.bool (rows.all λp=>rt p.2),h):=by
 obtain⟨j,C,y⟩:=k3x n rows.length 0 (by omega);rw[kbg2,kbc7,kbbc,n.len];rw[show(0:Int)=((0:Nat):Int)from rfl,C];simp only[qbt,kb,kbl];rw[List.drop_zero]at y;cases A:rows.all λp=>rt p.2 with
 | false=>rw[A]at y;simp at y;simp;omega
 | true=>rw[A]at y;simp at y;simp;omega
def cmpN(xs ys:List Nat):Int:=if rt xs=true/\rt ys=true then cmp (num B xs) (num B ys)else 0
theorem kqg{h:AH}{s t:Sl}{xs ys:List Nat}(n:Nats h s xs)(m:Nats h t ys):∃h',go (.fn kjz [s.v,t.v]) h=some (.i (cmpN xs ys),h')/\Grow h h':=by
 rw[kbla];simp only[kbv];have r:=Rows.two n m;have g:=qm h (.cells [s.v,t.v] kcz);generalize h.push (.cells [s.v,t.v] kcz)=h0 at *
 refine⟨h0,?_,g⟩;rw[kme r];simp only[qbt,kbl,List.all_cons,List.all_nil,Bool.and_true];cases y:rt xs with
 | false=>simp[cmpN,y]
 | true =>
  cases A:rt ys with
  | false=>simp[cmpN,A]
  | true =>
   simp only[Bool.and_self,Bool.not_true,cond_false];rw[kpb (n.grow g) (m.grow g) (rt_iff.1 y).2 (rt_iff.1 A).2];simp[cmpN,y,A]
theorem kqb{h:AH}{s t:Sl}{xs ys:List Nat}(n:Nats h s xs)(m:Nats h t ys):∃h',go (.fn kjp [s.v,t.v]) h=some (.i (cmpN xs ys),h')/\Grow h h':=by
 rw[k6e,kcl n];simp only[qbt,kbl];rw[kcl m];simp only[qbt,kbl];cases y:rt xs with
 | false=>exact⟨h,by simp[cmpN,y],ql h⟩
 | true =>
  cases A:rt ys with
  | false=>exact⟨h,by simp[cmpN,A],ql h⟩
  | true =>
   simp only[Bool.not_true,cond_false];have U:=(rt_iff.1 y).1;have V:=(rt_iff.1 A).1;obtain⟨d1,h1,H,n1,C,X⟩:=kfa n (by omega);obtain⟨Y,I,K,Q,F,Z⟩:=kfa (m.grow C) (by omega);refine⟨I,?_,C.trans F⟩;simp only[H,qbt,asSl_v,K];rw[kur (n1.grow F) Q (kbu D2 _) (kbu D2 _) (kcq D2 _) (kcq D2 _),ko D2,ko D2];simp[cmpN,y,A]
structure IRows(h:AH)(s:Sl)(rows:List (Bool×Sl×List Nat)):Prop where
 cells:Cells h s 2 (rows.flatMap λp=>[.bool p.1,p.2.1.v])
 each:∀p∈rows,Nats h p.2.1 p.2.2
 short:rows.length<=9223372036854775807
theorem IRows.grow{h h':AH}(g:Grow h h'){s:Sl}{rows:List (Bool×Sl×List Nat)}(n:IRows h s rows):IRows h' s rows:=⟨n.cells.grow g,λp y=>(n.each p y).grow g,n.short⟩
theorem kx9:∀(rows:List (Bool×Sl×List Nat))(i:Nat)(hi:i<rows.length),
  (rows.flatMap λp=>[AV.bool p.1,p.2.1.v])[i*2]?=some (AV.bool rows[i].1)/\(rows.flatMap λp=>[AV.bool p.1,p.2.1.v])[i*2+1]?=some rows[i].2.1.v
 | [],i,hi=>by simp at hi
 | p::rows,0,hi=>by simp
 | p::rows,i+1,hi=>by
  have:=kx9 rows i (by simpa using hi);rw[show(i+1)*2=i*2+2 from by omega]
  simpa using this
theorem IRows.len{h:AH}{s:Sl}{rows:List (Bool×Sl×List Nat)}(n:IRows h s rows):s.len=rows.length:=by
 have:=n.cells.len
 have y:(rows.flatMap λp=>[AV.bool p.1,p.2.1.v]).length=rows.length*2:=by
  generalize rows=l
  induction l with
  | nil=>rfl
  | cons a l ih=>rw[List.flatMap_cons,qbz,ih];simp;omega
 omega
theorem IRows.at{h:AH}{s:Sl}{rows:List (Bool×Sl×List Nat)}(n:IRows h s rows){i:Nat}(hi:i<rows.length):∃r,idx s.ref s.len (i:Int) 2=some r/\h.cell (r.add 0)=some (.bool rows[i].1)/\h.cell (r.add 1)=some rows[i].2.1.v:=by
 obtain⟨C,p2⟩:=kx9 rows i hi;obtain⟨r,y,F⟩:=n.cells.get _ _ C;obtain⟨I,A,H⟩:=n.cells.get _ _ p2;rw[y]at A;cases A;refine⟨r.add (i*2),?_,by simpa using F,by rw[Ref.add_add];exact H⟩;rw[y,kdx _ _ _ _ (by omega) (by rw[n.len];omega)];simp
theorem kbka{h:AH}{s:Sl}{xs:List Nat}(n:Nats h s xs)(neg:Bool):∃h',go (.fn kel [.agg [.bool neg,s.v]]) h=some (.bool (!rtI neg xs),h')/\Grow h h':=by
 rw[kbdu];simp only[kbv];have A:=qo h [.bool neg,s.v] ki;have y:=qm h (.cells [.bool neg,s.v] ki);generalize h.push (.cells [.bool neg,s.v] ki)=h0 at *
 obtain⟨h1,C,F⟩:=kmd (n.grow y) neg;exact⟨h1,by simp[A.cell,C],y.trans F⟩
theorem kx6{s:Sl}{rows:List (Bool×Sl×List Nat)}:∀(k i:Nat),i+k=rows.length->∀{h:AH},IRows h s rows->
  ∃(j:Int)(h':AH),go (.pt kj0 kom [(0,s.v),(1,.func (.func kel) [] []),(7,.i (rows.length:Int)),(8,.i (i:Int))]) h=some (.i j,h')/\
   (j>=0↔(rows.drop i).all (λp=>rtI p.1 p.2.2)=false)/\Grow h h'
 | 0,i,hi,h,n=>by
  rw[kwn,show decide ((i:Int)<(rows.length:Int))=false from by rw[qbv];omega,List.drop_of_length_le (by omega)];exact⟨-1,h,rfl,by simp,ql h⟩
 | k+1,i,hi,h,n=>by
  have X:=n.short;obtain⟨r,A,C,F⟩:=n.at (i:=i) (by omega);have H:=n.each rows[i] (qb2 _);obtain⟨h1,I,y⟩:=kbka H rows[i].1;rw[kwn,show decide ((i:Int)<(rows.length:Int))=true from by rw[qbw];omega,cond_true,A];simp only[qbt,C,F,asSl_v,kbl,I];rw[qcf (by omega),List.all_cons,kj (by omega)];cases Y:rtI rows[i].1 (rows[i].2.2)with
  | false=>exact⟨(i:Int),h1,rfl,by simp,y⟩
  | true =>
   obtain⟨j,K,Q,U,V⟩:=kx6 k (i+1) (by omega) (n.grow y);exact⟨j,K,Q,by simpa using U,y.trans V⟩
theorem kyi{h:AH}{s:Sl}{rows:List (Bool×Sl×List Nat)}(n:IRows h s rows):∃h',go (.fn khh [s.v]) h=some (.bool (rows.all λp=>rtI p.1 p.2.2),h')/\Grow h h':=by
 obtain⟨j,h',C,y,g⟩:=kx6 rows.length 0 (by omega) n;refine⟨h',?_,g⟩;rw[k44,k4z,kban,n.len];rw[show(0:Int)=((0:Nat):Int)from rfl,C];simp only[qbt,kb,kbl];rw[List.drop_zero]at y;cases A:rows.all λp=>rtI p.1 p.2.2 with
 | false=>rw[A]at y;simp at y;simp;omega
 | true=>rw[A]at y;simp at y;simp;omega
theorem IRows.two{h:AH}{a b:Sl}{xs ys:List Nat}(n:Nats h a xs)(m:Nats h b ys)(p q:Bool):IRows (h.push (.cells [.bool p,a.v,.bool q,b.v] ki)) ⟨some (.new h.blks.size 0),2,.is 2⟩ [(p,a,xs),(q,b,ys)]:=by
 refine⟨qr (qo _ _ _) rfl,λr y=>?_,by simp⟩;have g:=qm h (.cells [.bool p,a.v,.bool q,b.v] ki);simp at y;rcases y with rfl | rfl
 ·exact n.grow g
 ·exact m.grow g
def cmpI(p:Bool)(xs:List Nat)(q:Bool)(ys:List Nat):Int :=
 if rtI p xs=true/\rtI q ys=true then(if p=q then(if p=true then cmpN ys xs else cmpN xs ys)else if p=true then -1 else 1)else 0
theorem kbeb{h:AH}{s t:Sl}{xs ys:List Nat}(n:Nats h s xs)(m:Nats h t ys)(p q:Bool):∃h',go (.fn ksq [.agg [.bool p,s.v],.agg [.bool q,t.v]]) h=some (.i (cmpI p xs q ys),h')/\Grow h h':=by
 rw[kbcv];simp only[kbv];have Y:=qo h [.bool p,s.v] ki;have K:=qm h (.cells [.bool p,s.v] ki);generalize h.push (.cells [.bool p,s.v] ki)=h0 at *
 have Q:=qo h0 [.bool q,t.v] ki;have H:=qm h0 (.cells [.bool q,t.v] ki);generalize h0.push (.cells [.bool q,t.v] ki)=h1 at *
 have b1:=H.has Y;simp only[qj,Nat.zero_add,b1.cell,Q.cell,List.getElem?_cons_zero,List.getElem?_cons_succ,qbt,kbl,asSl_v];have n1:=n.grow (K.trans H);have U:=m.grow (K.trans H);have r2:=IRows.two n1 U p q;have Z:=qm h1 (.cells [.bool p,s.v,.bool q,t.v] ki);generalize h1.push (.cells [.bool p,s.v,.bool q,t.v] ki)=h2 at *
 obtain⟨I,e3,g3⟩:=kyi r2;have y:=Z.trans g3;have b3:=y.has b1;have c3:=y.has Q;have V:=n1.grow y;have X:=U.grow y;have A:=(K.trans H).trans y;obtain⟨h4,e4,g4⟩:=kqg V X;obtain⟨h5,e5,g5⟩:=kqg X V;rw[e3];simp only[qbt,kbl,List.all_cons,List.all_nil,Bool.and_true,b3.cell,c3.cell,List.getElem?_cons_zero,List.getElem?_cons_succ,asSl_v,e4,e5,kb];cases C:rtI p xs with
 | false=>exact⟨I,by simp[cmpI,C],A⟩
 | true =>
  cases F:rtI q ys with
  | false=>exact⟨I,by simp[cmpI,F],A⟩
  | true =>
   cases p<;>cases q
   ·exact⟨h4,by simp[cmpI,C,F],A.trans g4⟩
   ·exact⟨I,by simp[cmpI,C,F],A⟩
   ·exact⟨I,by simp[cmpI,C,F],A⟩
   ·exact⟨h5,by simp[cmpI,C,F],A.trans g5⟩
theorem k58{h:AH}{s t:Sl}{xs ys:List Nat}(n:Nats h s xs)(m:Nats h t ys)(p q:Bool):∃h',go (.fn kun [.agg [.bool p,s.v],.agg [.bool q,t.v]]) h=some (.i (cmpI p xs q ys),h')/\Grow h h':=by
 rw[kbhi];simp only[kbv];have Z:=qo h [.bool p,s.v] ki;have K:=qm h (.cells [.bool p,s.v] ki);generalize h.push (.cells [.bool p,s.v] ki)=h0 at *
 have U:=qo h0 [.bool q,t.v] ki;have H:=qm h0 (.cells [.bool q,t.v] ki);generalize h0.push (.cells [.bool q,t.v] ki)=h1 at *
 have b1:=H.has Z;have n1:=n.grow (K.trans H);have V:=m.grow (K.trans H);obtain⟨h2,e2,Q⟩:=kd8 n1 p;obtain⟨I,e3,g3⟩:=kd8 (V.grow Q) q;have y:=Q.trans g3;have b3:=y.has b1;have c3:=y.has U;have X:=n1.grow y;have Y:=V.grow y;have A:=(K.trans H).trans y;obtain⟨h4,e4,g4⟩:=kqb X Y;obtain⟨h5,e5,g5⟩:=kqb Y X;simp only[qj,Nat.zero_add,b1.cell,(Q.has U).cell,b3.cell,c3.cell,List.getElem?_cons_zero,List.getElem?_cons_succ,qbt,kbl,asSl_v,e2,e3,e4,e5,kb];cases C:rtI p xs with
 | false=>exact⟨I,by simp[cmpI,C],A⟩
 | true =>
  cases F:rtI q ys with
  | false=>exact⟨I,by simp[cmpI,F],A⟩
  | true =>
   cases p<;>cases q
   ·exact⟨h4,by simp[cmpI,C,F],A.trans g4⟩
   ·exact⟨I,by simp[cmpI,C,F],A⟩
   ·exact⟨I,by simp[cmpI,C,F],A⟩
   ·exact⟨h5,by simp[cmpI,C,F],A.trans g5⟩
def negI(neg:Bool)(xs:List Nat):Bool×List Nat:=if rtI neg xs=true then fromI (!neg) xs else(false,[])
theorem kbci{h:AH}{s:Sl}{xs:List Nat}(n:Nats h s xs)(neg:Bool):∃(s':Sl)(h':AH),go (.fn ksd [.agg [.bool neg,s.v]]) h=some (.agg [.bool (negI neg xs).1,s'.v],h')/\Nats h' s' (negI neg xs).2/\Grow h h'/\Own h s':=by
 rw[kbj6];simp only[kbv];have V:=qo h [.bool neg,s.v] ki;have A:=qm h (.cells [.bool neg,s.v] ki);generalize h.push (.cells [.bool neg,s.v] ki)=h0 at *
 have X:=qo h0 nilI ki;have H:=qm h0 (.cells nilI ki);generalize h0.push (.cells nilI ki)=h1 at *
 have b1:=H.has V;have n1:=n.grow (A.trans H);obtain⟨Y,Z,C⟩:=kmd n1 neg;have F:=C.has X;have b2:=C.has b1;have y:=(A.trans H).trans C;obtain⟨s3,h3,e3,n3,I,K⟩:=kdj (n1.grow C) (!neg);have Q:=I.has F;simp only[qj,Nat.zero_add,b1.cell,b2.cell,List.getElem?_cons_zero,List.getElem?_cons_succ,qbt,kbl,asSl_v,Z];cases U:rtI neg xs with
 | false =>
  rw[show negI neg xs=(false,[])from by simp[negI,U]];refine⟨⟨none,0,.is 0⟩,Y.upd h0.blks.size nilI ki,?_,qw _,y.upd A.size _ _,qu h⟩;simp[F.puts_all,qq F]
 | true =>
  rw[show negI neg xs=fromI (!neg) xs from by simp[negI,U]];refine⟨s3,h3.upd h0.blks.size [.bool (fromI (!neg) xs).1,s3.v] ki,?_,n3.upd K F.lt _ _,(y.trans I).upd A.size _ _,K.of_le y⟩;simp[e3,Q.puts_all,qq Q]
theorem k9f{h:AH}{s:Sl}{xs:List Nat}(n:Nats h s xs)(neg:Bool):∃(s':Sl)(h':AH),go (.fn ku3 [.agg [.bool neg,s.v]]) h=some (.agg [.bool (negI neg xs).1,s'.v],h')/\Nats h' s' (negI neg xs).2/\Grow h h'/\Own h s':=by
 rw[kba4];simp only[kbv];have V:=qo h [.bool neg,s.v] ki;have A:=qm h (.cells [.bool neg,s.v] ki);generalize h.push (.cells [.bool neg,s.v] ki)=h0 at *
 have X:=qo h0 nilI ki;have H:=qm h0 (.cells nilI ki);generalize h0.push (.cells nilI ki)=h1 at *
 have b1:=H.has V;have n1:=n.grow (A.trans H);obtain⟨Y,Z,C⟩:=kd8 n1 neg;have F:=C.has X;have b2:=C.has b1;have y:=(A.trans H).trans C;obtain⟨s3,h3,e3,n3,I,K⟩:=kdu (n1.grow C) (!neg);have Q:=I.has F;simp only[qj,Nat.zero_add,b1.cell,b2.cell,List.getElem?_cons_zero,List.getElem?_cons_succ,qbt,kbl,asSl_v,Z];cases U:rtI neg xs with
 | false =>
  rw[show negI neg xs=(false,[])from by simp[negI,U]];refine⟨⟨none,0,.is 0⟩,Y.upd h0.blks.size nilI ki,?_,qw _,y.upd A.size _ _,qu h⟩;simp[F.puts_all,qq F]
 | true =>
  rw[show negI neg xs=fromI (!neg) xs from by simp[negI,U]];refine⟨s3,h3.upd h0.blks.size [.bool (fromI (!neg) xs).1,s3.v] ki,?_,n3.upd K F.lt _ _,(y.trans I).upd A.size _ _,K.of_le y⟩;simp[e3,Q.puts_all,qq Q]
theorem kgf(b:Nat)(ys:List Nat)(k:Nat):num b (ys.take (k+1))=num b (ys.take k)+b^k*ys.getD k 0:=by
 by_cases h:k<ys.length
 ·rw[kds b h,kbx h]
 ·rw[List.take_of_length_le (by omega),List.take_of_length_le (by omega)];simp[List.getD,List.getElem?_eq_none (show ys.length<=k by omega)]
theorem k8y(zs:List Nat){i:Nat}(v:Nat)(h:i<zs.length):(zs.set i v).take (i+1)=zs.take i++[v]:=by
 apply List.ext_getElem?;intro j;rw[List.getElem?_take];by_cases hi:j<i
 ·rw[if_pos (by omega),List.getElem?_set_ne (by omega),List.getElem?_append_left (by simp;omega),List.getElem?_take,if_pos hi]
 ·by_cases y:j=i
  ·subst y;rw[if_pos (by omega),List.getElem?_set_self h,List.getElem?_append_right (by simp;omega)];simp[Nat.min_eq_left (show j<=zs.length by omega)]
  ·rw[if_neg (by omega),List.getElem?_eq_none (by simp;omega)]
theorem ks3(b:Nat)(zs:List Nat){i:Nat}(v:Nat)(h:i<zs.length):num b ((zs.set i v).take (i+1))=num b (zs.take i)+b^i*v:=by
 rw[k8y zs v h,kde];simp[num,Nat.min_eq_left (Nat.le_of_lt h)]
theorem klk{h:AH}{j i:Nat}{zs:List Nat}(b:h.has j (zs.map u64) kg)(v:Nat)(hi:i<zs.length):h.puts (.new j i) [u64 v]=some (h.upd j ((zs.set i v).map u64) kg):=by
 simp only[AH.puts];rw[b.put (by simpa using hi)];simp[List.map_set]
theorem k23{x y c:Nat}(A:x<B)(C:y<B)(F:c<=1):prim "math/bits.Add64" [u64 x,u64 y,u64 c]=some (.tup [u64 ((x+y+c)%B),u64 ((x+y+c)/B)]):=by
 show cond (decide (0<=(x:Int)/\0<=(y:Int)/\0<=(c:Int)/\(c:Int)<=1)) (some (AV.tup [.int .u64 (((x:Int)+y+c)%18446744073709551616),.int .u64 (((x:Int)+y+c)/18446744073709551616)])) none=_;rw[show decide (0<=(x:Int)/\0<=(y:Int)/\0<=(c:Int)/\(c:Int)<=1)=true from by rw[qbw];omega];rfl
theorem koe{xs:List Nat}(h:∀x∈xs,x<18446744073709551616)(i:Nat):xs.getD i 0<B:=by
 show _<18446744073709551616;by_cases hi:i<xs.length
 ·rw[kbx hi];exact h _ (qb2 _)
 ·simp[List.getD,List.getElem?_eq_none (show xs.length<=i by omega)]
theorem kwh{h:AH}{s t:Sl}{xs ys:List Nat}(n:Nats h s xs)(m:Nats h t ys)(Z:ys.length<=xs.length)(hs:xs.length<4611686018427387904){j:Nat}(I:h.blks.size<=j) :
  ∀(k i:Nat),i+k=xs.length->∀{hi:AH}{zs:List Nat}{c:Nat},Grow h hi->hi.has j (zs.map u64) kg->zs.length=xs.length+1->(∀z∈zs,z<18446744073709551616)->c<=1->
   num B (zs.take i)+B^i*c=num B (xs.take i)+num B (ys.take i)->
   ∃(h':AH)(zs':List Nat),go (.pt kdw kgu [(0,s.v),(1,t.v),(5,Sl.v ⟨some (.new j 0),xs.length+1,.is (xs.length+1)⟩),(6,u64 c),(21,.i (xs.length:Int)),(22,.i (i:Int))]) hi =
    some (Sl.v ⟨some (.new j 0),xs.length+1,.is (xs.length+1)⟩,h')/\Grow h h'/\h'.has j (zs'.map u64) kg/\zs'.length=xs.length+1/\(∀z∈zs',z<18446744073709551616)/\num B zs'=num B xs+num B ys
 | 0,i,K,hi,zs,c,g,b,Q,y,U,inv=>by
  rw[kwk,show decide ((i:Int)<(xs.length:Int))=false from by rw[qbv];omega,cond_false,n.len];rw[kdx _ _ _ _ (by omega) (by show(xs.length:Int)<((xs.length+1:Nat):Int);omega)];simp only[qbt,Int.toNat_natCast,Nat.mul_one,qj,Nat.zero_add];rw[klk b c (by omega)];refine⟨_,zs.set xs.length c,rfl,g.upd I _ _,qp b _ _,by simpa using Q,λz A=>?_,?_⟩
  ·rcases List.mem_or_eq_of_mem_set A with h1 | rfl
   ·exact y z h1
   ·omega
  ·have e:=ks3 B zs c (i:=xs.length) (by omega);rw[List.take_of_length_le (by simp;omega)]at e;have:i=xs.length:=by omega
   subst this;rw[e,inv,List.take_length,List.take_of_length_le Z]
 | k+1,i,K,hi,zs,c,g,b,Q,y,U,inv=>by
  have n':=n.grow g;have m':=m.grow g;obtain⟨r,e1,e2⟩:=n'.at (i:=i) (by omega);have V:xs.getD i 0<B:=koe n.lt i;have X:ys.getD i 0<B:=koe m.lt i
  have next:∃(h':AH)(zs':List Nat),go (.pt kdw kgu [(0,s.v),(1,t.v),(5,Sl.v ⟨some (.new j 0),xs.length+1,.is (xs.length+1)⟩),(6,u64 ((xs.getD i 0+ys.getD i 0+c)/B)),(21,.i (xs.length:Int)),(22,.i ((i+1:Nat):Int))]) (hi.upd j ((zs.set i ((xs.getD i 0+ys.getD i 0+c)%B)).map u64) kg) =
    some (Sl.v ⟨some (.new j 0),xs.length+1,.is (xs.length+1)⟩,h')/\Grow h h'/\h'.has j (zs'.map u64) kg/\zs'.length=xs.length+1/\(∀z∈zs',z<18446744073709551616)/\num B zs'=num B xs+num B ys:=by
   refine kwh n m Z hs I k (i+1) (by omega) (g.upd I _ _) (qp b _ _) (by simpa using Q) (λz A=>?_) ?_ ?_
   ·rcases List.mem_or_eq_of_mem_set A with h1 | rfl
    ·exact y z h1
    ·exact Nat.mod_lt _ (by decide)
   ·have h1:xs.getD i 0<18446744073709551616:=V;have h2:ys.getD i 0<18446744073709551616:=X;show(xs.getD i 0+ys.getD i 0+c)/18446744073709551616<=1;omega
   ·rw[ks3 B zs _ (by omega),kgf B xs i,kgf B ys i];have e:=Nat.mod_add_div (xs.getD i 0+ys.getD i 0+c) B;generalize hq:(xs.getD i 0+ys.getD i 0+c)%B=q at *
    generalize hw:(xs.getD i 0+ys.getD i 0+c)/B=w at *
    rw[Nat.pow_succ,Nat.mul_assoc,Nat.add_assoc,<- Nat.mul_add,e,Nat.mul_add,Nat.mul_add];omega
  rw[kwk,show decide ((i:Int)<(xs.length:Int))=true from by rw[qbw];omega,cond_true,m.len,kj (by omega)]
  have put:idx (some (.new j 0)) (xs.length+1) (i:Int) 1=some (.new j i):=by
   rw[kdx _ _ _ _ (by omega) (by omega)];simp
  by_cases F:i<ys.length
  ·obtain⟨q,e3,e4⟩:=m'.at (i:=i) F;rw[show decide ((i:Int)<(ys.length:Int))=true from by rw[qbw];omega,cond_true];rw[<- m.len,e3,e1];simp only[qbt,e2,e4,kb];have Y:((xs[i]:Nat):Int)=((xs.getD i 0:Nat):Int):=by rw[kbx (by omega)]
   have ey:((ys[i]:Nat):Int)=((ys.getD i 0:Nat):Int):=by rw[kbx F]
   rw[Y,ey];have C:=k23 V X U;simp only[u64]at C|-;rw[C];simp only[Option.map_some,qbt,kc0,kb,put];rw[show hi.puts (.new j i) [AV.int .u64 (((xs.getD i 0+ys.getD i 0+c)%B:Nat):Int)]=_ from klk b _ (by omega)];exact next
  ·have H:ys.getD i 0=0:=by simp[List.getD,List.getElem?_eq_none (show ys.length<=i by omega)]
   rw[show decide ((i:Int)<(ys.length:Int))=false from by rw[qbv];omega,cond_false,e1];simp only[qbt,e2,kb];have Y:((xs[i]:Nat):Int)=((xs.getD i 0:Nat):Int):=by rw[kbx (by omega)]
   rw[Y];have C:=k23 V X U;simp only[u64]at C|-;rw[H]at C;rw[show(AV.int .u64 0)=AV.int .u64 ((0:Nat):Int)from rfl,C];simp only[Option.map_some,qbt,kc0,kb,put];rw[H]at next;rw[show hi.puts (.new j i) [AV.int .u64 (((xs.getD i 0+0+c)%B:Nat):Int)]=_ from klk b _ (by omega)];exact next
theorem k1u{h:AH}{l:Int}{n:Nat}(y:l=(n:Int))(A:n<=8796093022207):kby l l kg (Pg.bytesOf kg) [.int .u64 0] h=some (⟨some (.new h.blks.size 0),n,.is n⟩,h.push (.cells ((List.replicate n 0).map u64) kg)):=by
 rw[kei,kva y y (by omega) (by omega),k0n];simp;rfl
theorem krw{h:AH}{s t:Sl}{xs ys:List Nat}(n:Nats h s xs)(m:Nats h t ys)(U:xs.length<=1073741824)(Y:ys.length<=1073741824) :
  ∃(s':Sl)(h':AH)(zs:List Nat),go (.fn kdw [s.v,t.v]) h=some (s'.v,h')/\Nats h' s' zs/\Grow h h'/\Own h s'/\num B zs=num B xs+num B ys/\zs.length=max xs.length ys.length+1:=by
 have key:∀{s t:Sl}{xs ys:List Nat},Nats h s xs->Nats h t ys->xs.length<=1073741824->ys.length<=xs.length->∃(s':Sl)(h':AH)(zs:List Nat),
   ((kby (IntKind.wrap .i64 ((s.len:Int)+1)) (IntKind.wrap .i64 ((s.len:Int)+1)) kg (Pg.bytesOf kg) [.int .u64 0] h).bind λV =>
   go (.pt kdw kgu [(0,s.v),(1,t.v),(5,V.1.v),(6,.int .u64 0),(21,.i (s.len:Int)),(22,.i 0)]) V.2)=some (s'.v,h')/\Nats h' s' zs/\Grow h h'/\Own h s'/\num B zs=num B xs+num B ys/\zs.length=xs.length+1:=by
  intro s t xs ys n m U A;rw[n.len,kj (by omega),k1u rfl (by omega)];simp only[qbt];have Z:=qm h (.cells ((List.replicate (xs.length+1) 0).map u64) kg);have b0:=qo h ((List.replicate (xs.length+1) 0).map u64) kg;obtain⟨h',zs,y,g1,b1,X,C,v1⟩:=kwh n m A (by omega) (qbp h.blks.size) xs.length 0 (by omega) (c:=0) Z b0 (by simp) (by simp) (by omega) (by simp[num]);refine⟨_,h',zs,y,⟨qr b1 (by simp[X]),C,by omega⟩,g1,λr hr=>?_,v1,X⟩;cases hr;exact⟨_,_,rfl,qbp _⟩
 rw[kbkt];by_cases aa:xs.length<ys.length
 ·rw[show decide ((s.len:Int)<(t.len:Int))=true from by rw[qbw,n.len,m.len];omega,cond_true];obtain⟨s',h',zs,y,F,H,I,K,Q⟩:=key m n Y (by omega);exact⟨s',h',zs,y,F,H,I,by rw[K];omega,by rw[Q];omega⟩
 ·rw[show decide ((s.len:Int)<(t.len:Int))=false from by rw[qbv,n.len,m.len];omega,cond_false];obtain⟨s',h',zs,y,F,H,I,K,Q⟩:=key n m U (by omega);exact⟨s',h',zs,y,F,H,I,K,by rw[Q];omega⟩
def told(n:Nat):List Nat×Int:=if n<B^64 then(digs B n,0)else([],4)
theorem kuj{h:AH}{s:Sl}{xs:List Nat}(n:Nats h s xs):∃s':Sl,go (.fn knb [s.v]) h=some (.tup [s'.v,.i (told (num B xs)).2],h)/\Nats h s' (told (num B xs)).1/\∀h0,Own h0 s->Own h0 s':=by
 obtain⟨s',A,n1,C⟩:=kec n;rw[kbf2,A];simp only[qbt,asSl_v];unfold told;by_cases y:num B xs<B^64
 ·have:=(kbj B2 (num B xs) 64).2 y;rw[if_pos y,show decide ((s'.len:Int)>64)=false from by rw[qbv,n1.len];omega];exact⟨s',rfl,n1,C⟩
 ·have:¬(digs B (num B xs)).length<=64:=λh=>y ((kbj B2 _ _).1 h);rw[if_neg y,show decide ((s'.len:Int)>64)=true from by rw[qbw,n1.len];omega];exact⟨⟨none,0,.is 0⟩,rfl,qw h,λh0 _=>qu h0⟩
def addN(xs ys:List Nat):List Nat×Int:=if rt xs=true/\rt ys=true then told (num B xs+num B ys)else([],1)
theorem kwa{h:AH}{s t:Sl}{xs ys:List Nat}(n:Nats h s xs)(m:Nats h t ys):∃(s':Sl)(h':AH),go (.fn kqj [s.v,t.v]) h=some (.tup [s'.v,.i (addN xs ys).2],h')/\Nats h' s' (addN xs ys).1/\Grow h h'/\Own h s':=by
 rw[k6k];simp only[kbv];have r:=Rows.two n m;have g:=qm h (.cells [s.v,t.v] kcz);generalize h.push (.cells [s.v,t.v] kcz)=h0 at *
 rw[kme r];simp only[qbt,kbl,List.all_cons,List.all_nil,Bool.and_true];by_cases y:rt xs=true/\rt ys=true
 ·rw[show addN xs ys=told (num B xs+num B ys)from by simp[addN,y]];simp only[y.1,y.2,Bool.and_self,Bool.not_true,cond_false];have U:=(rt_iff.1 y.1).1;have V:=(rt_iff.1 y.2).1;obtain⟨s1,h1,zs,F,n1,H,I,K,_⟩:=krw (n.grow g) (m.grow g) (by omega) (by omega);obtain⟨s2,A,C,Q⟩:=kuj n1;rw[K]at A C;simp only[F,A,qbt,asSl_v,kc0,kb];exact⟨s2,h1,rfl,C,g.trans H,(Q h0 I).of_le g⟩
 ·rw[show addN xs ys=([],1)from by simp only[addN,if_neg y]]
  have:(rt xs&&rt ys)=false:=by
   cases X:rt xs<;>cases Y:rt ys<;>simp_all
  rw[this];exact⟨⟨none,0,.is 0⟩,h0,rfl,qw _,g,qu h⟩
theorem kbct(x y c:Int):prim "math/bits.Sub64" [.int .u64 x,.int .u64 y,.int .u64 c]=cond (decide (0<=x/\0<=y/\y<18446744073709551616/\0<=c/\c<=1)) (some (AV.tup [.int .u64 ((x-y-c)%18446744073709551616),.int .u64 (cond (decide (x<y+c)) 1 0)])) none:=by
 unfold prim;have s1:("math/bits.Sub64" == "math/bits.Add64")=false:=by decide +kernel
 rw[s1];rfl
theorem kbir{x y c:Nat}(F:x<B)(H:y<B)(K:c<=1):∃z w:Nat,prim "math/bits.Sub64" [u64 x,u64 y,u64 c]=some (.tup [u64 z,u64 w])/\z<B/\w<=1/\z+y+c=x+B*w:=by
 have F:x<18446744073709551616:=F;have H:y<18446744073709551616:=H;have e:prim "math/bits.Sub64" [u64 x,u64 y,u64 c]=cond (decide (0<=(x:Int)/\0<=(y:Int)/\(y:Int)<18446744073709551616/\0<=(c:Int)/\(c:Int)<=1)) (some (AV.tup [.int .u64 (((x:Int)-y-c)%18446744073709551616),.int .u64 (cond (decide ((x:Int)<y+c)) 1 0)])) none:=kbct _ _ _;rw[e,show decide (0<=(x:Int)/\0<=(y:Int)/\(y:Int)<18446744073709551616/\0<=(c:Int)/\(c:Int)<=1)=true from by rw[qbw];omega,cond_true];obtain⟨z,I⟩:∃z:Nat,((x:Int)-y-c)%18446744073709551616=(z:Int):=⟨_,(Int.toNat_of_nonneg (Int.emod_nonneg _ (by decide))).symm⟩;rw[I];by_cases h:x<y+c
 ·rw[show decide ((x:Int)<y+c)=true from by rw[qbw];omega];have A:z<18446744073709551616:=by omega
  have C:z+y+c=x+18446744073709551616*1:=by omega
  exact⟨z,1,rfl,A,by omega,C⟩
 ·rw[show decide ((x:Int)<y+c)=false from by rw[qbv];omega];have A:z<18446744073709551616:=by omega
  have C:z+y+c=x+18446744073709551616*0:=by omega
  exact⟨z,0,rfl,A,by omega,C⟩
theorem k0k{b p c x y z w zs ys xs:Nat}(C:zs+ys=xs+p*c)(A:z+y+c=x+b*w):zs+p*z+(ys+p*y)=xs+p*x+p*b*w:=by
 have:=congrArg (λq=>p*q) A;simp only[Nat.mul_add]at this;rw[Nat.mul_assoc];omega
theorem kvn{h:AH}{s t:Sl}{xs ys:List Nat}(n:Nats h s xs)(m:Nats h t ys)(Z:ys.length<=xs.length)(hs:xs.length<4611686018427387904){j:Nat}(hj:h.blks.size<=j) :
  ∀(k i:Nat),i+k=xs.length->∀{hi:AH}{zs:List Nat}{c:Nat},Grow h hi->hi.has j (zs.map u64) kg->zs.length=xs.length->(∀z∈zs,z<18446744073709551616)->c<=1->
   num B (zs.take i)+num B (ys.take i)=num B (xs.take i)+B^i*c->
   ∃(h':AH)(zs':List Nat)(H:Nat),go (.pt kdv kkv [(0,s.v),(1,t.v),(5,Sl.v ⟨some (.new j 0),xs.length,.is xs.length⟩),(6,u64 c),(13,.i (xs.length:Int)),(14,.i (i:Int))]) hi =
    some (Sl.v ⟨some (.new j 0),xs.length,.is xs.length⟩,h')/\Grow h h'/\h'.has j (zs'.map u64) kg/\zs'.length=xs.length/\(∀z∈zs',z<18446744073709551616)/\num B zs'+num B ys=num B xs+B^xs.length*H
 | 0,i,I,hi,zs,c,g,b,K,A,hc,inv=>by
  rw[kzd,show decide ((i:Int)<(xs.length:Int))=false from by rw[qbv];omega,cond_false];have:i=xs.length:=by omega
  subst this;rw[List.take_of_length_le (by omega),List.take_of_length_le Z,List.take_length]at inv;exact⟨hi,zs,c,rfl,g,b,K,A,inv⟩
 | k+1,i,I,hi,zs,c,g,b,K,A,hc,inv=>by
  have n':=n.grow g;have m':=m.grow g;obtain⟨r,e1,e2⟩:=n'.at (i:=i) (by omega);have hx:xs.getD i 0<B:=koe n.lt i;have hy:ys.getD i 0<B:=koe m.lt i;obtain⟨z,w,C,Q,hw,U⟩:=kbir hx hy hc
  have next:∃(h':AH)(zs':List Nat)(H:Nat),go (.pt kdv kkv [(0,s.v),(1,t.v),(5,Sl.v ⟨some (.new j 0),xs.length,.is xs.length⟩),(6,u64 w),(13,.i (xs.length:Int)),(14,.i ((i+1:Nat):Int))]) (hi.upd j ((zs.set i z).map u64) kg) =
    some (Sl.v ⟨some (.new j 0),xs.length,.is xs.length⟩,h')/\Grow h h'/\h'.has j (zs'.map u64) kg/\zs'.length=xs.length/\(∀z∈zs',z<18446744073709551616)/\num B zs'+num B ys=num B xs+B^xs.length*H:=by
   refine kvn n m Z hs hj k (i+1) (by omega) (g.upd hj _ _) (qp b _ _) (by simpa using K) (λy V=>?_) hw ?_
   ·rcases List.mem_or_eq_of_mem_set V with h1 | rfl
    ·exact A y h1
    ·exact Q
   ·rw[ks3 B zs _ (by omega),kgf B xs i,kgf B ys i,Nat.pow_succ];exact k0k inv U
  rw[kzd,show decide ((i:Int)<(xs.length:Int))=true from by rw[qbw];omega,cond_true,m.len,kj (by omega)];generalize prim "math/bits.Sub64" = f at C|-
  have put:idx (some (.new j 0)) xs.length (i:Int) 1=some (.new j i):=by
   rw[kdx _ _ _ _ (by omega) (by omega)];simp
  by_cases F:i<ys.length
  ·obtain⟨q,e3,e4⟩:=m'.at (i:=i) F;rw[show decide ((i:Int)<(ys.length:Int))=true from by rw[qbw];omega,cond_true];rw[<- m.len,e3,e1];rw[qbt,e4,qbt,kb,qbt,qbt,e2,qbt,kb,qbt];have X:((xs[i]:Nat):Int)=((xs.getD i 0:Nat):Int):=by rw[kbx (by omega)]
   have ey:((ys[i]:Nat):Int)=((ys.getD i 0:Nat):Int):=by rw[kbx F]
   rw[X,ey];simp only[u64]at C|-;rw[C];simp only[Option.map_some,qbt,kc0,kb,put];rw[show hi.puts (.new j i) [AV.int .u64 ((z:Nat):Int)]=_ from klk b _ (by omega)];exact next
  ·have Y:ys.getD i 0=0:=by simp[List.getD,List.getElem?_eq_none (show ys.length<=i by omega)]
   rw[show decide ((i:Int)<(ys.length:Int))=false from by rw[qbv];omega,cond_false,e1];simp only[qbt,e2,kb];have X:((xs[i]:Nat):Int)=((xs.getD i 0:Nat):Int):=by rw[kbx (by omega)]
   rw[X];simp only[u64]at C|-;rw[Y]at C;rw[show(AV.int .u64 0)=AV.int .u64 ((0:Nat):Int)from rfl,C];simp only[Option.map_some,qbt,kc0,kb,put];rw[show hi.puts (.new j i) [AV.int .u64 ((z:Nat):Int)]=_ from klk b _ (by omega)];exact next
theorem kpk{h:AH}{s t:Sl}{xs ys:List Nat}(n:Nats h s xs)(m:Nats h t ys)(Z:xs.length<=1073741824)(C:ys.length<=xs.length)(F:num B ys<=num B xs) :
  ∃(s':Sl)(h':AH)(zs:List Nat),go (.fn kdv [s.v,t.v]) h=some (s'.v,h')/\Nats h' s' zs/\Grow h h'/\Own h s'/\num B zs=num B xs-num B ys/\zs.length=xs.length:=by
 rw[k5y,n.len,k1u rfl (by omega)];simp only[qbt];have H:=qm h (.cells ((List.replicate xs.length 0).map u64) kg);have I:=qo h ((List.replicate xs.length 0).map u64) kg;obtain⟨h',zs,c,K,Q,b1,A,y,U⟩:=kvn n m C (by omega) (qbp h.blks.size) xs.length 0 (by omega) (c:=0) H I (by simp) (by simp) (by omega) (by simp[num]);have V:=num_lt (b:=B) (by decide) y;rw[A]at V
 have X:c=0:=by
  rcases Nat.eq_zero_or_pos c with h0 | h0
  ·exact h0
  ·have:B^xs.length*1<=B^xs.length*c:=Nat.mul_le_mul_left _ h0;omega
 rw[X,Nat.mul_zero,Nat.add_zero]at U;refine⟨_,h',zs,K,⟨qr b1 (by simp[A]),y,by omega⟩,Q,λr Y=>?_,by omega,A⟩;cases Y;exact⟨_,_,rfl,qbp _⟩
def subN(xs ys:List Nat):List Nat×Int:=if rt xs=true/\rt ys=true then(if num B xs<num B ys then([],2)else(digs B (num B xs-num B ys),0))else([],1)
theorem k3q{xs ys:List Nat}(y:∀x∈xs,x<18446744073709551616)(A:∀x∈ys,x<18446744073709551616)(ty:Trim ys)(h:num B ys<=num B xs):ys.length<=xs.length:=by
 rcases Nat.lt_or_ge xs.length ys.length with h1 | h1
 ·have:=ktg B2 y A ty h1;omega
 ·exact h1
theorem kxs{xs ys:List Nat}(y:∀x∈xs,x<18446744073709551616)(h:xs.length<=64):told (num B xs-num B ys)=(digs B (num B xs-num B ys),0):=by
 have h1:=num_lt (b:=B) (by decide) y;have A:B^xs.length<=B^64:=Nat.pow_le_pow_right (by decide) h;unfold told;rw[if_pos (by omega)]
theorem ku8{h:AH}{s t:Sl}{xs ys:List Nat}(n:Nats h s xs)(m:Nats h t ys):∃(s':Sl)(h':AH),go (.fn kne [s.v,t.v]) h=some (.tup [s'.v,.i (subN xs ys).2],h')/\Nats h' s' (subN xs ys).1/\Grow h h'/\Own h s':=by
 rw[kbcu];simp only[kbv];have r:=Rows.two n m;have g:=qm h (.cells [s.v,t.v] kcz);generalize h.push (.cells [s.v,t.v] kcz)=h0 at *
 rw[kme r];simp only[qbt,kbl,List.all_cons,List.all_nil,Bool.and_true];by_cases y:rt xs=true/\rt ys=true
 ·simp only[y.1,y.2,Bool.and_self,Bool.not_true,cond_false];have C:=rt_iff.1 y.1;have F:=rt_iff.1 y.2;rw[kpb (n.grow g) (m.grow g) C.2 F.2];simp only[qbt,kb];by_cases A:num B xs<num B ys
  ·rw[show subN xs ys=([],2)from by simp[subN,y,A]];rw[show decide (cmp (num B xs) (num B ys)<0)=true from by rw[qbw];simp[cmp,A]];exact⟨⟨none,0,.is 0⟩,h0,rfl,qw _,g,qu h⟩
  ·rw[show subN xs ys=told (num B xs-num B ys)from by rw[kxs n.lt C.1];simp[subN,y,A]];rw[show decide (cmp (num B xs) (num B ys)<0)=false from by rw[qbv];unfold cmp;rw[if_neg A];split<;>omega];simp only[cond_false];obtain⟨s1,h1,zs,K,n1,Q,U,V,_⟩:=kpk (n.grow g) (m.grow g) (by omega) (k3q n.lt m.lt F.2 (by omega)) (by omega);obtain⟨s2,H,I,X⟩:=kuj n1;rw[V]at H I;simp only[K,H,qbt,asSl_v,kc0,kb];exact⟨s2,h1,rfl,I,g.trans Q,(X h0 U).of_le g⟩
 ·rw[show subN xs ys=([],1)from by simp only[subN,if_neg y]]
  have:(rt xs&&rt ys)=false:=by
   cases Y:rt xs<;>cases Z:rt ys<;>simp_all
  rw[this];exact⟨⟨none,0,.is 0⟩,h0,rfl,qw _,g,qu h⟩
theorem kr5{n:Nat}(h:n<18446744073709551616):IntKind.wrap .u64 (n:Int)=(n:Int):=by
 rw[wrapU,Int.emod_eq_of_lt (by omega) (by omega)]
theorem ksi{h:AH}{s:Sl}{xs:List Nat}(n:Nats h s xs)(i:Nat):go (.fn kih [s.v,.i (i:Int)]) h=some (u64 (xs.getD i 0),h):=by
 rw[k5a,n.len];by_cases hi:i<xs.length
 ·obtain⟨r,y,A⟩:=n.at (i:=i) hi;rw[n.len]at y;rw[show decide ((i:Int)<(xs.length:Int))=true from by rw[qbw];omega,cond_true,y,qbt,A,qbt,kb,qbt,kbx hi]
 ·rw[show decide ((i:Int)<(xs.length:Int))=false from by rw[qbv];omega,cond_false];simp[List.getD,List.getElem?_eq_none (show xs.length<=i by omega)]
theorem Mine.append_one{h0 h:AH}{d:Sl}{ds:List Nat}(M:Mine h0 h d kg 1 (ds.map u64))(x:Nat)(A:ds.length<8796093022208){R:Type}(k:Sl->AH->Option R) :
  ∃(y:Sl)(h':AH),((kbh Pg kg (Sl.v ⟨some (.new h.blks.size 0),1,.is 1⟩) (h.push (.cells [u64 x] kg))).bind λp=>(kv Pg d p.1 p.2 kg 1 (h.push (.cells [u64 x] kg))).bind λq=>(AV.asSl q.1).bind λl=>k l q.2)=k y h'/\Mine h0 h' y kg 1 ((ds++[x]).map u64):=by
 have c:Cells (h.push (.cells [u64 x] kg)) ⟨some (.new h.blks.size 0),1,.is 1⟩ (Pg.cellsOf kg) [u64 x]:=by
  rw[klc];exact qr (qo h [u64 x] kg) rfl
 obtain⟨y,h',C,F⟩:=(M.grow' (qm h (.cells [u64 x] kg))).push_u64 x A;refine⟨y,h',?_,F⟩;rw[kkj c,qbt,C,qbt,asSl_v,qbt]
theorem kor{xs:List Nat}(h:∀x∈xs,x<D)(i:Nat):xs.getD i 0<D:=by
 show _<65536;by_cases hi:i<xs.length
 ·rw[kbx hi];exact h _ (qb2 _)
 ·simp[List.getD,List.getElem?_eq_none (show xs.length<=i by omega)]
theorem kbh3{b p c x y q w zs ys xs:Nat}(C:zs+p*c=xs+ys)(A:q+b*w=x+y+c):zs+p*q+p*b*w=xs+p*x+(ys+p*y):=by
 have:=congrArg (λq=>p*q) A;simp only[Nat.mul_add]at this;rw[Nat.mul_assoc];omega
theorem kwf{h:AH}{s t:Sl}{xs ys:List Nat}(n:Nats h s xs)(m:Nats h t ys)(hx:∀x∈xs,x<D)(hy:∀x∈ys,x<D)(lx:xs.length<=1073741824)(ly:ys.length<=1073741824) :
  ∀(k i:Nat),i+k=max xs.length ys.length->∀{hi:AH}{d:Sl}{ds:List Nat}{c:Nat},Mine h hi d kg 1 (ds.map u64)->ds.length=i->(∀z∈ds,z<D)->c<=1->num D ds+D^i*c=num D (xs.take i)+num D (ys.take i)->
   ∃(s':Sl)(h':AH),go (.pt kgd kjx [(0,s.v),(1,t.v),(5,d.v),(6,u64 c),(7,.i (i:Int))]) hi=some (s'.v,h')/\Nats h' s' (digs D (num D xs+num D ys))/\Grow h h'/\Own h s'
 | 0,i,X,hi,d,ds,c,M,Q,Y,hc,inv=>by
  have i1:xs.length<=i:=by omega
  have i2:ys.length<=i:=by omega
  rw[kys,n.len,m.len,show decide ((i:Int)<(xs.length:Int))=false from by rw[qbv];omega,cond_false,show decide ((i:Int)<(ys.length:Int))=false from by rw[qbv];omega,cond_false];simp only[kbv];obtain⟨d',h',U,F⟩:=M.append_one c (by omega) (λl Z=>(go (.fn kdq [l.v]) Z).bind λH=>((some H.1).bind AV.asSl).bind λaa=>some (aa.v,H.2))
  have I:∀z∈ds++[c],z<D:=λz K=>by
   rcases qb4.1 K with h1 | h1
   ·exact Y z h1
   ·simp at h1;subst h1;show _<65536;omega
  have N:Nats h' d' (ds++[c]):=⟨F.cells,λz K=>by have:z<65536:=I z K;omega,by simp;omega⟩;obtain⟨s',V,n2,o2⟩:=kke N I
  have v:num D (ds++[c])=num D xs+num D ys:=by
   rw[kde,Q];simp only[num,Nat.mul_zero,Nat.add_zero];rw[inv,List.take_of_length_le i1,List.take_of_length_le i2]
  rw[v]at n2;refine⟨s',h',?_,n2,F.grow,o2 h F.own_of⟩;refine Eq.trans U ?_;simp only[V,qbt,asSl_v]
 | k+1,i,X,hi,d,ds,c,M,Q,Y,hc,inv=>by
  have n':=n.grow M.grow;have m':=m.grow M.grow;have x1:xs.getD i 0<65536:=kor hx i;have y1:ys.getD i 0<65536:=kor hy i
  have y:IntKind.wrap .u64 (IntKind.wrap .u64 (((xs.getD i 0:Nat):Int)+((ys.getD i 0:Nat):Int))+(c:Int))=((xs.getD i 0+ys.getD i 0+c:Nat):Int):=by
   rw[<- Int.natCast_add,kr5 (by omega),<- Int.natCast_add,kr5 (by omega)]
  have A:Int.tmod ((xs.getD i 0+ys.getD i 0+c:Nat):Int) 65536=(((xs.getD i 0+ys.getD i 0+c)%65536:Nat):Int):=by
   rw[Int.tmod_eq_emod_of_nonneg (by omega)];omega
  have C:IntKind.wrap .u64 (Int.tdiv ((xs.getD i 0+ys.getD i 0+c:Nat):Int) 65536)=(((xs.getD i 0+ys.getD i 0+c)/65536:Nat):Int):=by
   rw[Int.tdiv_eq_ediv_of_nonneg (by omega),<- kr5 (n:=(xs.getD i 0+ys.getD i 0+c)/65536) (by omega)];congr 1
  obtain⟨d',h',U,F⟩:=M.append_one ((xs.getD i 0+ys.getD i 0+c)%65536) (by omega) (λl Z=>go (.pt kgd kjx [(0,s.v),(1,t.v),(5,l.v),(6,u64 ((xs.getD i 0+ys.getD i 0+c)/65536)),(7,.i ((i+1:Nat):Int))]) Z)
  obtain⟨s',h2,V,r⟩:=kwf n m hx hy lx ly k (i+1) (by omega) F (by simp[Q]) (λz K=>by
   rcases qb4.1 K with h1 | h1
   ·exact Y z h1
   ·simp at h1;subst h1;exact Nat.mod_lt _ (by decide)) (c:=(xs.getD i 0+ys.getD i 0+c)/65536) (by omega) (by
   rw[kde,Q,kgf D xs i,kgf D ys i,Nat.pow_succ];simp only[num,Nat.mul_zero,Nat.add_zero];exact kbh3 inv (Nat.mod_add_div _ _))
  refine⟨s',h2,?_,r⟩;rw[kys,n.len,m.len];have dx:=ksi n' i;have dy:=ksi m' i;by_cases h1:i<xs.length
  ·rw[show decide ((i:Int)<(xs.length:Int))=true from by rw[qbw];omega,cond_true,dx,qbt,qbt,kb,qbt,dy,qbt,qbt,kb,qbt,y,A,C,kj (by omega),kbv];exact U.trans V
  ·rw[show decide ((i:Int)<(xs.length:Int))=false from by rw[qbv];omega,cond_false,show decide ((i:Int)<(ys.length:Int))=true from by rw[qbw];omega,cond_true,dx,qbt,qbt,kb,qbt,dy,qbt,qbt,kb,qbt,y,A,C,kj (by omega),kbv];exact U.trans V
theorem k8q{h:AH}{s t:Sl}{xs ys:List Nat}(n:Nats h s xs)(m:Nats h t ys)(y:∀x∈xs,x<D)(A:∀x∈ys,x<D)(C:xs.length<=1073741824)(F:ys.length<=1073741824) :
  ∃(s':Sl)(h':AH),go (.fn kgd [s.v,t.v]) h=some (s'.v,h')/\Nats h' s' (digs D (num D xs+num D ys))/\Grow h h'/\Own h s':=by
 rw[kbij];exact kwf n m y A C F (max xs.length ys.length) 0 (by omega) (ds:=[]) (c:=0) (Mine.nil h kg 1) rfl (by simp) (by omega) (by simp[num])
end Go.Ab
set_option maxRecDepth 10000
namespace Go.Ab
open IntKind (wrap)
open Go.Proofs Go.Num
theorem k51{x y c:Nat}(A:x<65536)(C:y<65536)(F:c<=1):∃z w:Nat,z<65536/\w<=1/\z+y+c=x+65536*w/\
  Int.tmod (wrap .u64 ((wrap .u64 ((wrap .u64 (65536+(x:Int)))-(y:Int)))-(c:Int))) 65536=(z:Int)/\
  wrap .u64 (1-(wrap .u64 (Int.tdiv (wrap .u64 ((wrap .u64 ((wrap .u64 (65536+(x:Int)))-(y:Int)))-(c:Int))) 65536)))=(w:Int):=by
 have e:wrap .u64 ((wrap .u64 ((wrap .u64 (65536+(x:Int)))-(y:Int)))-(c:Int))=65536+(x:Int)-y-c:=by
  rw[wrapU,wrapU,wrapU];omega
 rw[e];have p:0<=65536+(x:Int)-y-c:=by omega
 rw[Int.tmod_eq_emod_of_nonneg p,Int.tdiv_eq_ediv_of_nonneg p];by_cases h:x<y+c
 ·exact⟨(65536+(x:Int)-y-c).toNat,1,by omega,by omega,by omega,by omega,by rw[wrapU,wrapU];omega⟩
 ·exact⟨((x:Int)-y-c).toNat,0,by omega,by omega,by omega,by omega,by rw[wrapU,wrapU];omega⟩
theorem kw2{h:AH}{s t:Sl}{xs ys:List Nat}(n:Nats h s xs)(m:Nats h t ys)(X:∀x∈xs,x<D)(Y:∀x∈ys,x<D)(lx:xs.length<=1073741824)(F:ys.length<=xs.length)(H:num D ys<=num D xs) :
  ∀(k i:Nat),i+k=xs.length->∀{hi:AH}{d:Sl}{ds:List Nat}{c:Nat},Mine h hi d kg 1 (ds.map u64)->ds.length=i->(∀z∈ds,z<D)->c<=1->num D ds+num D (ys.take i)=num D (xs.take i)+D^i*c->
   ∃(s':Sl)(h':AH),go (.pt kf0 km3 [(0,s.v),(1,t.v),(5,d.v),(6,u64 c),(7,.i (i:Int))]) hi=some (s'.v,h')/\Nats h' s' (digs D (num D xs-num D ys))/\Grow h h'/\Own h s'
 | 0,i,I,hi,d,ds,c,M,C,A,Z,inv=>by
  have i1:i=xs.length:=by omega
  rw[k3s,n.len,show decide ((i:Int)<(xs.length:Int))=false from by rw[qbv];omega,cond_false];have N:Nats hi d ds:=⟨M.cells,λz K=>by have:z<65536:=A z K;omega,by omega⟩;obtain⟨s',Q,n2,o2⟩:=kke N A
  have v:num D ds=num D xs-num D ys:=by
   rw[List.take_of_length_le (by omega),List.take_of_length_le (by omega)]at inv;have b:=num_lt (b:=D) (by decide) A;rw[C]at b
   have c0:c=0:=by
    rcases Nat.eq_zero_or_pos c with h0 | h0
    ·exact h0
    ·have:D^i*1<=D^i*c:=Nat.mul_le_mul_left _ h0;omega
   rw[c0,Nat.mul_zero]at inv;omega
  rw[v]at n2;refine⟨s',hi,?_,n2,M.grow,o2 h M.own_of⟩;rw[Q,qbt,qbt,asSl_v,qbt]
 | k+1,i,I,hi,d,ds,c,M,C,A,Z,inv=>by
  have n':=n.grow M.grow;have m':=m.grow M.grow;obtain⟨r,e1,Q⟩:=n'.at (i:=i) (by omega);have x1:xs.getD i 0<65536:=kor X i;have y1:ys.getD i 0<65536:=kor Y i;obtain⟨z,w,K,hw,U,q1,q2⟩:=k51 x1 y1 Z;obtain⟨d',h',a1,M'⟩:=M.append_one z (by omega) (λl hh=>go (.pt kf0 km3 [(0,s.v),(1,t.v),(5,l.v),(6,u64 w),(7,.i ((i+1:Nat):Int))]) hh)
  obtain⟨s',h2,a2,r2⟩:=kw2 n m X Y lx F H k (i+1) (by omega) M' (by simp[C]) (λy V=>by
   rcases qb4.1 V with h1 | h1
   ·exact A y h1
   ·simp at h1;subst h1;exact K) hw (by
   rw[kde,C,kgf D xs i,kgf D ys i,Nat.pow_succ];simp only[num,Nat.mul_zero,Nat.add_zero];exact k0k inv U)
  refine⟨s',h2,?_,r2⟩;have ex:((xs[i]:Nat):Int)=((xs.getD i 0:Nat):Int):=by rw[kbx (by omega)]
  rw[k3s,n.len,show decide ((i:Int)<(xs.length:Int))=true from by rw[qbw];omega,cond_true,<- n.len,e1,qbt,Q,qbt,kb,qbt,
   ksi m' i,qbt,qbt,kb,qbt,kxt (show SameAt hi hi r 1 from⟨λ_ _=>rfl,λh=>by cases h⟩),ex,q1,q2,kj (by omega),kbv]
  exact a1.trans a2
theorem kxc{h:AH}{s t:Sl}{xs ys:List Nat}(n:Nats h s xs)(m:Nats h t ys)(C:∀x∈xs,x<D)(F:∀x∈ys,x<D)(H:xs.length<=1073741824)(y:ys.length<=xs.length)(A:num D ys<=num D xs) :
  ∃(s':Sl)(h':AH),go (.fn kf0 [s.v,t.v]) h=some (s'.v,h')/\Nats h' s' (digs D (num D xs-num D ys))/\Grow h h'/\Own h s':=by
 rw[kbam];exact kw2 n m C F H y A xs.length 0 (by omega) (ds:=[]) (c:=0) (Mine.nil h kg 1) rfl (by simp) (by omega) (by simp[num])
end Go.Ab
set_option maxRecDepth 10000
namespace Go.Ab
open Go.Proofs Go.Num
theorem kxw{xs:List Nat}(h:Trim xs):∀(k:Nat),Trim (xs.drop k)
 | 0=>by simpa using h
 | k+1=>by
  cases xs with
  | nil=>simp[Trim]
  | cons x xs=>exact kxw h.tail k
theorem k4j(b:Nat)(xs:List Nat)(k:Nat):num b xs=num b (xs.take k)+b^(xs.take k).length*num b (xs.drop k):=by
 rw[<- kde,List.take_append_drop]
theorem k46{ds:List Nat}(C:∀z∈ds,z<D)(F:Trim ds)(A:ds≠[]):digs B (num D ds)=num D (ds.take 4)::digs B (num D (ds.drop 4)):=by
 have H:num D ds≠0:=λe=>A (kph (by decide) F e);have lt:=num_lt (b:=D) (by decide) (xs:=ds.take 4) λx h=>C x (List.mem_of_mem_take h);have le:D^(ds.take 4).length<=D^4:=Nat.pow_le_pow_right (by decide) (by rw[qce];omega);have I:D^4=B:=by decide
 have y:num D (ds.take 4)<B:=by omega
 rw[ke2 B2 H,k4j D ds 4];by_cases K:4<=ds.length
 ·rw[qce,Nat.min_eq_left K,I,Nat.add_mul_mod_self_left,Nat.mod_eq_of_lt y,Nat.add_mul_div_left _ _ (by decide),Nat.div_eq_of_lt y,Nat.zero_add]
 ·rw[List.drop_of_length_le (by omega)];simp only[num,Nat.mul_zero,Nat.add_zero];rw[Nat.mod_eq_of_lt y,Nat.div_eq_of_lt y]
theorem num_at(b:Nat)(ds:List Nat)(i k:Nat):num b ((ds.drop i).drop k)=ds.getD (i+k) 0+b*num b ((ds.drop i).drop (k+1)):=by
 rw[List.drop_drop,List.drop_drop,show i+(k+1)=i+k+1 from by omega];by_cases h:i+k<ds.length
 ·rw[qcf h,num,kbx h]
 ·rw[List.drop_of_length_le (by omega),List.drop_of_length_le (by omega)];simp[num,List.getD,List.getElem?_eq_none (show ds.length<=i+k by omega)]
theorem k40(b:Nat)(ds:List Nat)(i k:Nat)(y:k<4):num b (((ds.drop i).take 4).drop k)=ds.getD (i+k) 0+b*num b (((ds.drop i).take 4).drop (k+1)):=by
 have e:=num_at b ((ds.drop i).take 4) 0 k;rw[List.drop_zero,Nat.zero_add]at e;rw[e];congr 1;simp only[List.getD,List.getElem?_take,List.getElem?_drop,if_pos y]
theorem k3y{h0:AH}{s:Sl}{ds:List Nat}(n:Nats h0 s ds)(C:∀z∈ds,z<D){i:Nat}(hi:i<=1073741824):∀(k:Nat),k<=4->∀{h:AH}{o:Sl}{os:List Nat},Mine h0 h o kg 1 (os.map u64)->os.length<=1073741824->
  ∃(F:Sl)(h':AH),go (.pt kcx kmu [(0,s.v),(4,o.v),(5,.i (i:Int)),(6,u64 (num D (((ds.drop i).take 4).drop k))),(7,.i ((k:Int)-1))]) h =
   go (.pt kcx kkg [(0,s.v),(4,F.v),(5,.i ((i+4:Nat):Int))]) h'/\Mine h0 h' F kg 1 ((os++[num D ((ds.drop i).take 4)]).map u64)
 | 0,U,h,o,os,M,H=>by
  rw[kz8,show decide (((0:Nat):Int)-1>=0)=false from rfl,cond_false,List.drop_zero,kbv,wrap64 (n:=(i:Int)+4) (by omega) (by omega),show(i:Int)+4=((i+4:Nat):Int)from by omega];exact M.append_one (num D ((ds.drop i).take 4)) (by omega) (λl V=>go (.pt kcx kkg [(0,s.v),(4,l.v),(5,.i ((i+4:Nat):Int))]) V)
 | k+1,U,h,o,os,M,H=>by
  have X:=n.grow M.grow;have I:=k3y n C hi k (by omega) M H;have e:=k40 D ds i k (by omega)
  have lt:num D (((ds.drop i).take 4).drop k)<18446744073709551616:=by
   have h1:=num_lt (b:=D) (by decide) (xs:=((ds.drop i).take 4).drop k) λx Y=>C x (List.mem_of_mem_drop (List.mem_of_mem_take (List.mem_of_mem_drop Y)));have h2:D^(((ds.drop i).take 4).drop k).length<=D^4:=Nat.pow_le_pow_right (by decide) (by simp;omega);have h3:D^4=18446744073709551616:=by decide
   omega
  have K:ds.getD (i+k) 0+65536*num D (((ds.drop i).take 4).drop (k+1))=num D (((ds.drop i).take 4).drop k):=e.symm;generalize hy:num D (((ds.drop i).take 4).drop (k+1))=y at *
  generalize hz:num D (((ds.drop i).take 4).drop k)=z at *
  rw[kz8,n.len,show((k+1:Nat):Int)-1=(k:Int)from by omega,show decide ((k:Int)>=0)=true from by rw[qbw];omega,cond_true,wrap64 (n:=(i:Int)+(k:Int)) (by omega) (by omega),wrap64 (n:=(k:Int)-1) (by omega) (by omega),show(i:Int)+(k:Int)=((i+k:Nat):Int)from by omega];have Z:IntKind.wrap .u64 ((y:Int)*65536)=((65536*y:Nat):Int):=by rw[wrapU];omega
  rw[Z];by_cases A:i+k<ds.length
  ·obtain⟨r,Q,e2⟩:=X.at (i:=i+k) A;rw[n.len]at Q;have ex:((ds[i+k]:Nat):Int)=((ds.getD (i+k) 0:Nat):Int):=by rw[kbx A]
   have w2:IntKind.wrap .u64 (((65536*y:Nat):Int)+((ds.getD (i+k) 0:Nat):Int))=(z:Int):=by rw[wrapU];omega
   rw[show decide (((i+k:Nat):Int)<(ds.length:Int))=true from by rw[qbw];omega,cond_true,Q,qbt,e2,qbt,kb,qbt,ex,w2];exact I
  ·have e0:ds.getD (i+k) 0=0:=by simp[List.getD,List.getElem?_eq_none (show ds.length<=i+k by omega)]
   rw[e0,Nat.zero_add]at K;rw[show decide (((i+k:Nat):Int)<(ds.length:Int))=false from by rw[qbv];omega,cond_false,K];exact I
theorem k3r{h0:AH}{s:Sl}{ds:List Nat}(n:Nats h0 s ds)(F:∀z∈ds,z<D)(Q:Trim ds)(V:ds.length<=536870912):∀(f i:Nat),ds.length<=i+4*f->i<=ds.length+4->∀{h:AH}{o:Sl}{os:List Nat},Mine h0 h o kg 1 (os.map u64)->os.length<=i->(∀z∈os,z<18446744073709551616)->os++digs B (num D (ds.drop i))=digs B (num D ds)->
  ∃(C:Sl)(h':AH),go (.pt kcx kkg [(0,s.v),(4,o.v),(5,.i (i:Int))]) h=some (.tup [C.v,.bool (decide ((digs B (num D ds)).length<=64))],h')/\Nats h' C (digs B (num D ds))/\Grow h0 h'/\Own h0 C
 | f,i,H,X,h,o,os,M,Y,y,inv=>by
  by_cases hi:i<ds.length
  ·match f,H with
   | 0,H=>omega
   | f+1,H =>
    rw[kvp,n.len,show decide ((i:Int)<(ds.length:Int))=true from by rw[qbw];omega,cond_true];obtain⟨C,h',U,Z⟩:=k3y n F (i:=i) (by omega) 4 (by omega) M (by omega);have A:num D (((ds.drop i).take 4).drop 4)=0:=by rw[List.drop_of_length_le (by rw[qce];omega)];rfl
    rw[A]at U
    have I:ds.drop i≠[]:=by
     intro e;have:=congrArg List.length e;simp at this;omega
    have K:=k46 (λz A=>F z (List.mem_of_mem_drop A)) (kxw Q i) I;rw[List.drop_drop]at K
    obtain⟨o2,h2,e2,r2⟩:=k3r n F Q V f (i+4) (by omega) (by omega) Z (by simp;omega) (λz A=>by
     rcases qb4.1 A with h1 | h1
     ·exact y z h1
     ·have:=kbu B2 (num D (ds.drop i));rw[K]at this;simp at h1;subst h1;exact this _ (by simp)) (by rw[<- inv,K];simp)
    exact⟨o2,h2,U.trans e2,r2⟩
  ·rw[kvp,n.len,show decide ((i:Int)<(ds.length:Int))=false from by rw[qbv];omega,cond_false];rw[List.drop_of_length_le (by omega),show num D ([]:List Nat)=0 from rfl,kcc,List.append_nil]at inv
   have N:Nats h o (digs B (num D ds)):=by
    rw[<- inv];exact⟨M.cells,y,by omega⟩
   refine⟨o,h,?_,N,M.grow,M.own_of⟩;rw[N.len,show decide (((digs B (num D ds)).length:Int)<=64)=decide ((digs B (num D ds)).length<=64)from by rw[decide_eq_decide];omega]
theorem kt6{h:AH}{s:Sl}{ds:List Nat}(n:Nats h s ds)(A:∀z∈ds,z<D)(C:Trim ds)(F:ds.length<=536870912):∃(y:Sl)(h':AH),go (.fn kcx [s.v]) h=some (.tup [y.v,.bool (decide ((digs B (num D ds)).length<=64))],h')/\Nats h' y (digs B (num D ds))/\Grow h h'/\Own h y:=by
 rw[kbkn];exact k3r n A C F ds.length 0 (by omega) (by omega) (os:=[]) (Mine.nil h kg 1) (by simp) (by simp) (by simp)
theorem kr1{h:AH}{s:Sl}{ds:List Nat}(n:Nats h s ds)(F:∀z∈ds,z<D)(H:Trim ds)(I:ds.length<=536870912):∃(y:Sl)(h':AH),go (.fn knn [s.v]) h=some (.tup [y.v,.i (told (num D ds)).2],h')/\Nats h' y (told (num D ds)).1/\Grow h h'/\Own h y:=by
 rw[k6y];obtain⟨y,h',K,n1,C,Q⟩:=kt6 n F H I;rw[K];simp only[qbt,kc0,asSl_v,kbl];unfold told;by_cases A:num D ds<B^64
 ·have:=(kbj B2 (num D ds) 64).2 A;rw[if_pos A,show decide ((digs B (num D ds)).length<=64)=true from qbx this];exact⟨y,h',rfl,n1,C,Q⟩
 ·have:¬(digs B (num D ds)).length<=64:=λh=>A ((kbj B2 _ _).1 h);rw[if_neg A,show decide ((digs B (num D ds)).length<=64)=false from qby this];exact⟨⟨none,0,.is 0⟩,h',rfl,qw _,C,qu h⟩
theorem kgo{xs:List Nat}(y:∀x∈xs,x<18446744073709551616)(A:xs.length<=64):(digs D (num B xs)).length<=256:=by
 rw[kbj D2];have h1:=num_lt (b:=B) (by decide) y;have C:B^xs.length<=B^64:=Nat.pow_le_pow_right (by decide) A;have F:B^64=D^256:=by decide +kernel
 omega
theorem kwc{h:AH}{s t:Sl}{xs ys:List Nat}(n:Nats h s xs)(m:Nats h t ys):∃(s':Sl)(h':AH),go (.fn krj [s.v,t.v]) h=some (.tup [s'.v,.i (addN xs ys).2],h')/\Nats h' s' (addN xs ys).1/\Grow h h'/\Own h s':=by
 rw[k79,kcl n,qbt,qbt,kbl,qbt,kcl m,qbt,qbt,kbl,qbt];cases y:rt xs with
 | false=>exact⟨⟨none,0,.is 0⟩,h,by simp[addN,y],by simpa[addN,y]using qw h,ql h,qu h⟩
 | true =>
  cases A:rt ys with
  | false=>exact⟨⟨none,0,.is 0⟩,h,by simp[addN,A],by simpa[addN,A]using qw h,ql h,qu h⟩
  | true =>
   simp only[Bool.not_true,cond_false];rw[show addN xs ys=told (num B xs+num B ys)from by simp[addN,y,A]];have U:=(rt_iff.1 y).1;have V:=(rt_iff.1 A).1;obtain⟨d1,h1,X,n1,C,o1⟩:=kfa n (by omega);obtain⟨d2,h2,Y,Z,F,o2⟩:=kfa (m.grow C) (by omega);have k1:=kgo n.lt U;have k2:=kgo m.lt V;obtain⟨d3,h3,e3,H,I,o3⟩:=k8q (n1.grow F) Z (kbu D2 _) (kbu D2 _) (by omega) (by omega);rw[ko D2,ko D2]at H
   have k3:(digs D (num B xs+num B ys)).length<=536870912:=by
    have:=kve D2 (num B xs) (num B ys);omega
   obtain⟨d4,h4,K,Q,g4,o4⟩:=kr1 H (kbu D2 _) (kcq D2 _) k3;rw[ko D2]at K Q;refine⟨d4,h4,?_,Q,C.trans (F.trans (I.trans g4)),o4.of_le (C.trans (F.trans I))⟩;simp only[X,Y,e3,K,qbt,asSl_v,kc0,kb]
theorem kuq{h:AH}{s t:Sl}{xs ys:List Nat}(n:Nats h s xs)(m:Nats h t ys):∃(s':Sl)(h':AH),go (.fn kly [s.v,t.v]) h=some (.tup [s'.v,.i (subN xs ys).2],h')/\Nats h' s' (subN xs ys).1/\Grow h h'/\Own h s':=by
 rw[kbhs,kcl n,qbt,qbt,kbl,qbt,kcl m,qbt,qbt,kbl,qbt];cases y:rt xs with
 | false=>exact⟨⟨none,0,.is 0⟩,h,by simp[subN,y],by simpa[subN,y]using qw h,ql h,qu h⟩
 | true =>
  cases A:rt ys with
  | false=>exact⟨⟨none,0,.is 0⟩,h,by simp[subN,A],by simpa[subN,A]using qw h,ql h,qu h⟩
  | true =>
   simp only[Bool.not_true,cond_false];have K:=(rt_iff.1 y).1;have ly:=(rt_iff.1 A).1;obtain⟨d1,h1,e1,n1,H,o1⟩:=kfa n (by omega);obtain⟨d2,h2,e2,Q,C,o2⟩:=kfa (m.grow H) (by omega);have k1:=kgo n.lt K;have k2:=kgo m.lt ly;have U:=kur (n1.grow C) Q (kbu D2 _) (kbu D2 _) (kcq D2 _) (kcq D2 _);rw[ko D2,ko D2]at U;simp only[e1,e2,U,qbt,asSl_v,kb];by_cases I:num B xs<num B ys
   ·rw[show subN xs ys=([],2)from by simp[subN,y,A,I]];rw[show decide (cmp (num B xs) (num B ys)<0)=true from by rw[qbw];simp[cmp,I]];exact⟨⟨none,0,.is 0⟩,h2,rfl,qw _,H.trans C,qu h⟩
   ·rw[show subN xs ys=told (num B xs-num B ys)from by rw[kxs n.lt K];simp[subN,y,A,I]];rw[show decide (cmp (num B xs) (num B ys)<0)=false from by rw[qbv];unfold cmp;rw[if_neg I];split<;>omega];simp only[cond_false]
    have F:(digs D (num B ys)).length<=(digs D (num B xs)).length:=by
     rw[kbj D2];have:=(kbj D2 (num B xs) _).1 (qbp _);omega
    obtain⟨d3,h3,e3,V,X,o3⟩:=kxc (n1.grow C) Q (kbu D2 _) (kbu D2 _) (by omega) F (by rw[ko D2,ko D2];omega);rw[ko D2,ko D2]at V
    have k3:(digs D (num B xs-num B ys)).length<=536870912:=by
     have:(digs D (num B xs-num B ys)).length<=256:=by
      rw[kbj D2]at k1|-;omega
     omega
    obtain⟨d4,h4,Y,Z,g4,o4⟩:=kr1 V (kbu D2 _) (kcq D2 _) k3;rw[ko D2]at Y Z;refine⟨d4,h4,?_,Z,H.trans (C.trans (X.trans g4)),o4.of_le (H.trans (C.trans X))⟩;simp only[e3,Y,qbt,asSl_v,kc0,kb]
theorem kp8{h:AH}{i:Nat}{a b:Sl}{xs ys:List Nat}{p q:Bool}(c:h.has i [.bool p,a.v,.bool q,b.v] ki)(n:Nats h a xs)(m:Nats h b ys):∃h',go (.fn khh [(⟨some (.new i 0),2,.is 2⟩:Sl).v]) h=some (.bool (rtI p xs&&rtI q ys),h')/\Grow h h':=by
 have r:IRows h ⟨some (.new i 0),2,.is 2⟩ [(p,a,xs),(q,b,ys)]:=⟨qr c rfl,λr y=>by
  simp at y;rcases y with rfl | rfl
  ·exact n
  ·exact m,by simp⟩
 obtain⟨h',e,g⟩:=kyi r;exact⟨h',by rw[e];simp,g⟩
def kbf(a1:Bool)(x2:List Nat)(a3:Bool)(x4:List Nat):Bool×List Nat×Int :=
 cond (!((rtI a1 x2&&rtI a3 x4))) ((false,[],1)) (cond (a1==a3) (((((fromI a1 ((addN x2 x4).1)).1)),(fromI a1 ((addN x2 x4).1)).2,((addN x2 x4).2))) (cond (decide ((cmpN x2 x4)<0)) (((((fromI a3 ((subN x4 x2).1)).1)),(fromI a3 ((subN x4 x2).1)).2,((subN x4 x2).2))) (((((fromI a1 ((subN x2 x4).1)).1)),(fromI a1 ((subN x2 x4).1)).2,((subN x2 x4).2)))))
theorem kzt{h:AH}{a2:Sl}{x2:List Nat}{a4:Sl}{x4:List Nat}(n2:Nats h a2 x2)(n4:Nats h a4 x4)(a1 a3:Bool):Runs (go (.fn kh0 [.agg [.bool a1,a2.v],.agg [.bool a3,a4.v]]) h) λv h'=>∃s1:Sl,v=.tup [.agg [.bool (kbf a1 x2 a3 x4).1,s1.v],.i (kbf a1 x2 a3 x4).2.2]/\Nats h' s1 ((kbf a1 x2 a3 x4).2.1)/\Grow h h'/\Own h s1:=by
 rw[kbef];refine q0 λH5 V I=>?_;refine q0 λH6 b6 H=>?_;refine q0 λH7 b7 F=>?_;refine qz (qbf ((H.trans F).has V) 0 rfl rfl) (qz (qbf ((H.trans F).has V) 1 rfl qcm) (qz (qbf (F.has b6) 0 rfl rfl) (qz (qbf (F.has b6) 1 rfl qcm) ?_)));refine q0 λH8 b8 C=>?_;obtain⟨H9,e9,A⟩:=kp8 b8 (n2.grow (((I.trans H).trans F).trans C)) (n4.grow (((I.trans H).trans F).trans C));refine qz e9 (qz (seen rfl) ?_);refine qbd (λad=>?_) (λad=>?_)
 ·refine qba ((C.trans A).has b7) rfl λce aw ax=>?_;have bn:=qx (A.has b8) (Nat.ne_of_gt (qbr (b7).lt (qbp _))) ax;refine qz (qbf aw 0 rfl rfl) (qz (qbf aw 1 rfl qcm) ?_);have z:kbf a1 x2 a3 x4=(false,[],1):=by unfold kbf;exact(condT ad).trans rfl
  rw[z];exact qy ⟨(⟨none,0,.is 0⟩:Sl),rfl,(qw _),(((((I.trans H).trans F).trans C).trans A).updr (qbq ((I.trans H)).size (qbp _)) ax),(qu _)⟩
 ·refine qz (qbf ((((H.trans F).trans C).trans A).has V) 0 rfl rfl) (qz (qbf (((F.trans C).trans A).has b6) 0 rfl rfl) ?_);refine qbd (λaf=>?_) (λaf=>?_)
  ·refine qz (qbf ((((H.trans F).trans C).trans A).has V) 1 rfl qcm) (qz (qbf (((F.trans C).trans A).has b6) 1 rfl qcm) ?_);obtain⟨cf,bp,an,ay,y,bq⟩:=kwa (n2.grow ((((I.trans H).trans F).trans C).trans A)) (n4.grow ((((I.trans H).trans F).trans C).trans A));refine qz an (qz rfl (qz (seen qcm) (qz (seen qcn) (qz (qbf (((((H.trans F).trans C).trans A).trans y).has V) 0 rfl rfl) ?_))));obtain⟨br,cg,bt,bu,ag,az⟩:=kdj ay a1;refine qz bt (qz rfl ?_);refine qbb rfl ?_;refine qz (seenAt rfl rfl) (qz (seenAt rfl qcm) ?_);refine qba ((((C.trans A).trans y).trans ag).has b7) rfl λa0 ah K=>?_;have bh:=(ay.grow ag).upda (qbj bq ((C.trans A).has b7).lt) K;have ai:=bu.upda (qbj az (((C.trans A).trans y).has b7).lt) K;have ae:=qx (((A.trans y).trans ag).has b8) (Nat.ne_of_gt (qbr (b7).lt (qbp _))) K;refine qz (qbf ah 0 rfl rfl) (qz (qbf ah 1 rfl qcm) ?_);have z:kbf a1 x2 a3 x4=((((fromI a1 ((addN x2 x4).1)).1)),(fromI a1 ((addN x2 x4).1)).2,((addN x2 x4).2)):=by unfold kbf;exact(condF ad).trans ((condT af).trans rfl)
   rw[z];exact qy ⟨br,rfl,ai,(((((((I.trans H).trans F).trans C).trans A).trans y).trans ag).updr (qbq ((I.trans H)).size (qbp _)) K),(az.of_le (((((I.trans H).trans F).trans C).trans A).trans y))⟩
  ·refine qz (qbf ((((H.trans F).trans C).trans A).has V) 1 rfl qcm) (qz (qbf (((F.trans C).trans A).has b6) 1 rfl qcm) ?_);obtain⟨bp,an,y⟩:=kqg (n2.grow ((((I.trans H).trans F).trans C).trans A)) (n4.grow ((((I.trans H).trans F).trans C).trans A));refine qz an (qz (seen qcn) ?_);refine qbd (λap=>?_) (λap=>?_)
   ·refine qz (qbf ((((F.trans C).trans A).trans y).has b6) 0 rfl rfl) (qz (qbf ((((F.trans C).trans A).trans y).has b6) 1 rfl qcm) (qz (qbf (((((H.trans F).trans C).trans A).trans y).has V) 0 rfl rfl) (qz (qbf (((((H.trans F).trans C).trans A).trans y).has V) 1 rfl qcm) ?_)));refine qba (((((H.trans F).trans C).trans A).trans y).has V) rfl λa0 ah K=>?_;have aq:=qx ((((F.trans C).trans A).trans y).has b6) (Nat.ne_of_gt (qbr (V).lt (qbp _))) K;have ar:=qx (((C.trans A).trans y).has b7) (Nat.ne_of_gt (qbr (H.has V).lt (qbp _))) K;have ae:=qx ((A.trans y).has b8) (Nat.ne_of_gt (qbr ((H.trans F).has V).lt (qbp _))) K;refine qba aq rfl λbv ba X=>?_;have Q:=qx ah (Nat.ne_of_lt (qbr (V).lt (qbp _))) X;have Y:=qx ar (Nat.ne_of_gt (qbr (b6).lt (qbp _))) X;have au:=qx ae (Nat.ne_of_gt (qbr (F.has b6).lt (qbp _))) X;refine qz (qbf Q 1 rfl qcm) (qz (qbf ba 1 rfl qcm) ?_);obtain⟨ci,bw,bx,bb,U,bz⟩:=ku8 (n4.grow (((((((I.trans H).trans F).trans C).trans A).trans y).updr (qbp _) K).updr (qbq (I).size (qbp _)) X)) (n2.grow (((((((I.trans H).trans F).trans C).trans A).trans y).updr (qbp _) K).updr (qbq (I).size (qbp _)) X));refine qz bx (qz rfl (qz (seen qcm) (qz (seen qcn) (qz (qbf (U.has Q) 0 rfl rfl) ?_))));obtain⟨b0,cj,b1,b2,Z,bc⟩:=kdj bb a3;refine qz b1 (qz rfl ?_);refine qbb rfl ?_;refine qz (seenAt rfl rfl) (qz (seenAt rfl qcm) ?_);refine qba ((U.trans Z).has Y) rfl λcl bd aa=>?_;have bi:=(bb.grow Z).upda (qbj bz (Y).lt) aa;have aj:=b2.upda (qbj bc (U.has Y).lt) aa;have bj:=qx ((U.trans Z).has Q) (Nat.ne_of_lt (qbr (H.has V).lt (qbp _))) aa;have bk:=qx ((U.trans Z).has ba) (Nat.ne_of_lt (qbr (b6).lt (qbp _))) aa;have b3:=qx ((U.trans Z).has au) (Nat.ne_of_gt (qbr (b7).lt (qbp _))) aa;refine qz (qbf bd 0 rfl rfl) (qz (qbf bd 1 rfl qcm) ?_);have z:kbf a1 x2 a3 x4=((((fromI a3 ((subN x4 x2).1)).1)),(fromI a3 ((subN x4 x2).1)).2,((subN x4 x2).2)):=by unfold kbf;exact(condF ad).trans ((condF af).trans ((condT ap).trans rfl))
    rw[z];exact qy ⟨b0,rfl,aj,((((((((((I.trans H).trans F).trans C).trans A).trans y).updr (qbp _) K).updr (qbq (I).size (qbp _)) X).trans U).trans Z).updr (qbq ((I.trans H)).size (qbp _)) aa),(bc.of_le ((((((((I.trans H).trans F).trans C).trans A).trans y).updr (qbp _) K).updr (qbq (I).size (qbp _)) X).trans U))⟩
   ·refine qz (qbf (((((H.trans F).trans C).trans A).trans y).has V) 1 rfl qcm) (qz (qbf ((((F.trans C).trans A).trans y).has b6) 1 rfl qcm) ?_);obtain⟨cm,a0,b4,be,ac,b9⟩:=ku8 (n2.grow (((((I.trans H).trans F).trans C).trans A).trans y)) (n4.grow (((((I.trans H).trans F).trans C).trans A).trans y));refine qz b4 (qz rfl (qz (seen qcm) (qz (seen qcn) (qz (qbf ((((((H.trans F).trans C).trans A).trans y).trans ac).has V) 0 rfl rfl) ?_))));obtain⟨ca,bv,cb,cc,ak,bf⟩:=kdj be a1;refine qz cb (qz rfl ?_);refine qbb rfl ?_;refine qz (seenAt rfl rfl) (qz (seenAt rfl qcm) ?_);refine qba (((((C.trans A).trans y).trans ac).trans ak).has b7) rfl λbw bg al=>?_;have bm:=(be.grow ak).upda (qbj b9 (((C.trans A).trans y).has b7).lt) al;have am:=cc.upda (qbj bf ((((C.trans A).trans y).trans ac).has b7).lt) al;have cd:=qx ((((A.trans y).trans ac).trans ak).has b8) (Nat.ne_of_gt (qbr (b7).lt (qbp _))) al;refine qz (qbf bg 0 rfl rfl) (qz (qbf bg 1 rfl qcm) ?_);have z:kbf a1 x2 a3 x4=((((fromI a1 ((subN x2 x4).1)).1)),(fromI a1 ((subN x2 x4).1)).2,((subN x2 x4).2)):=by unfold kbf;exact(condF ad).trans ((condF af).trans ((condF ap).trans rfl))
    rw[z];exact qy ⟨ca,rfl,am,((((((((I.trans H).trans F).trans C).trans A).trans y).trans ac).trans ak).updr (qbq ((I.trans H)).size (qbp _)) al),(bf.of_le ((((((I.trans H).trans F).trans C).trans A).trans y).trans ac))⟩
def kc2(a1:Bool)(x2:List Nat)(a3:Bool)(x4:List Nat):Bool×List Nat×Int :=
 cond (!(rtI a1 x2)) ((false,[],1)) (cond (!(rtI a3 x4)) ((false,[],1)) (cond (a1==a3) (((((fromI a1 ((addN x2 x4).1)).1)),(fromI a1 ((addN x2 x4).1)).2,((addN x2 x4).2))) (cond (decide ((cmpN x2 x4)>=0)) (((((fromI a1 ((subN x2 x4).1)).1)),(fromI a1 ((subN x2 x4).1)).2,0)) (((((fromI a3 ((subN x4 x2).1)).1)),(fromI a3 ((subN x4 x2).1)).2,0)))))
theorem kbb6{h:AH}{a2:Sl}{x2:List Nat}{a4:Sl}{x4:List Nat}(n2:Nats h a2 x2)(n4:Nats h a4 x4)(a1 a3:Bool):Runs (go (.fn kod [.agg [.bool a1,a2.v],.agg [.bool a3,a4.v]]) h) λv h'=>∃s1:Sl,v=.tup [.agg [.bool (kc2 a1 x2 a3 x4).1,s1.v],.i (kc2 a1 x2 a3 x4).2.2]/\Nats h' s1 ((kc2 a1 x2 a3 x4).2.1)/\Grow h h'/\Own h s1:=by
 rw[kbba];refine q0 λH5 b5 I=>?_;refine q0 λH6 b6 H=>?_;refine q0 λH7 Y F=>?_;refine qz (qbf ((H.trans F).has b5) 0 rfl rfl) (qz (qbf ((H.trans F).has b5) 1 rfl qcm) ?_);obtain⟨H8,e8,A⟩:=kd8 (n2.grow ((I.trans H).trans F)) a1;refine qz e8 (qz (seen rfl) (qz (qbf ((F.trans A).has b6) 0 rfl rfl) (qz (qbf ((F.trans A).has b6) 1 rfl qcm) ?_)));obtain⟨H9,e9,C⟩:=kd8 (n4.grow (((I.trans H).trans F).trans A)) a3;refine qz e9 (qz (seen rfl) ?_);refine qbd (λX=>?_) (λX=>?_)
 ·refine qba ((A.trans C).has Y) rfl λbk ar ba=>?_;refine qz (qbf ar 0 rfl rfl) (qz (qbf ar 1 rfl qcm) ?_);have z:kc2 a1 x2 a3 x4=(false,[],1):=by unfold kc2;exact(condT X).trans rfl
  rw[z];exact qy ⟨(⟨none,0,.is 0⟩:Sl),rfl,(qw _),(((((I.trans H).trans F).trans A).trans C).updr (qbq ((I.trans H)).size (qbp _)) ba),(qu _)⟩
 ·refine qbd (λZ=>?_) (λZ=>?_)
  ·refine qba ((A.trans C).has Y) rfl λbm au bb=>?_;refine qz (qbf au 0 rfl rfl) (qz (qbf au 1 rfl qcm) ?_);have z:kc2 a1 x2 a3 x4=(false,[],1):=by unfold kc2;exact(condF X).trans ((condT Z).trans rfl)
   rw[z];exact qy ⟨(⟨none,0,.is 0⟩:Sl),rfl,(qw _),(((((I.trans H).trans F).trans A).trans C).updr (qbq ((I.trans H)).size (qbp _)) bb),(qu _)⟩
  ·refine qz (qbf ((((H.trans F).trans A).trans C).has b5) 0 rfl rfl) (qz (qbf (((F.trans A).trans C).has b6) 0 rfl rfl) ?_);refine qbd (λae=>?_) (λae=>?_)
   ·refine qz (qbf ((((H.trans F).trans A).trans C).has b5) 1 rfl qcm) (qz (qbf (((F.trans A).trans C).has b6) 1 rfl qcm) ?_);obtain⟨bn,bc,ah,aw,y,bd⟩:=kwc (n2.grow ((((I.trans H).trans F).trans A).trans C)) (n4.grow ((((I.trans H).trans F).trans A).trans C));refine qz ah (qz rfl (qz (seen qcm) (qz (seen qcn) (qz (qbf (((((H.trans F).trans A).trans C).trans y).has b5) 0 rfl rfl) ?_))));obtain⟨be,bp,bf,bg,ai,ax⟩:=kdu aw a1;refine qz bf (qz rfl ?_);refine qbb rfl ?_;refine qz (seenAt rfl rfl) (qz (seenAt rfl qcm) ?_);refine qba ((((A.trans C).trans y).trans ai).has Y) rfl λay az aj=>?_;have a0:=(aw.grow ai).upda (qbj bd ((A.trans C).has Y).lt) aj;have af:=bg.upda (qbj ax (((A.trans C).trans y).has Y).lt) aj;refine qz (qbf az 0 rfl rfl) (qz (qbf az 1 rfl qcm) ?_);have z:kc2 a1 x2 a3 x4=((((fromI a1 ((addN x2 x4).1)).1)),(fromI a1 ((addN x2 x4).1)).2,((addN x2 x4).2)):=by unfold kc2;exact(condF X).trans ((condF Z).trans ((condT ae).trans rfl))
    rw[z];exact qy ⟨be,rfl,af,(((((((I.trans H).trans F).trans A).trans C).trans y).trans ai).updr (qbq ((I.trans H)).size (qbp _)) aj),(ax.of_le (((((I.trans H).trans F).trans A).trans C).trans y))⟩
   ·refine qz (qbf ((((H.trans F).trans A).trans C).has b5) 1 rfl qcm) (qz (qbf (((F.trans A).trans C).has b6) 1 rfl qcm) ?_);obtain⟨bc,ah,y⟩:=kqb (n2.grow ((((I.trans H).trans F).trans A).trans C)) (n4.grow ((((I.trans H).trans F).trans A).trans C));refine qz ah (qz (seen qcn) ?_);refine qbd (λak=>?_) (λak=>?_)
    ·refine qz (qbf (((((H.trans F).trans A).trans C).trans y).has b5) 1 rfl qcm) (qz (qbf ((((F.trans A).trans C).trans y).has b6) 1 rfl qcm) ?_);obtain⟨bh,ay,al,aa,K,am⟩:=kuq (n2.grow (((((I.trans H).trans F).trans A).trans C).trans y)) (n4.grow (((((I.trans H).trans F).trans A).trans C).trans y));refine qz al (qz rfl (qz (seen qcm) (qz (seen qcn) (qz (qbf ((((((H.trans F).trans A).trans C).trans y).trans K).has b5) 0 rfl rfl) ?_))));obtain⟨an,bi,ap,aq,U,ac⟩:=kdu aa a1;refine qz ap (qz rfl ?_);refine qbb rfl ?_;refine qz (seenAt rfl rfl) (qz (seenAt rfl qcm) ?_);refine qba (((((A.trans C).trans y).trans K).trans U).has Y) rfl λbj ad V=>?_;have ag:=(aa.grow U).upda (qbj am (((A.trans C).trans y).has Y).lt) V;have Q:=aq.upda (qbj ac ((((A.trans C).trans y).trans K).has Y).lt) V;refine qz (qbf ad 0 rfl rfl) (qz (qbf ad 1 rfl qcm) ?_);have z:kc2 a1 x2 a3 x4=((((fromI a1 ((subN x2 x4).1)).1)),(fromI a1 ((subN x2 x4).1)).2,0):=by unfold kc2;exact(condF X).trans ((condF Z).trans ((condF ae).trans ((condT ak).trans rfl)))
     rw[z];exact qy ⟨an,rfl,Q,((((((((I.trans H).trans F).trans A).trans C).trans y).trans K).trans U).updr (qbq ((I.trans H)).size (qbp _)) V),(ac.of_le ((((((I.trans H).trans F).trans A).trans C).trans y).trans K))⟩
    ·refine qz (qbf ((((F.trans A).trans C).trans y).has b6) 1 rfl qcm) (qz (qbf (((((H.trans F).trans A).trans C).trans y).has b5) 1 rfl qcm) ?_);obtain⟨bh,ay,al,aa,K,am⟩:=kuq (n4.grow (((((I.trans H).trans F).trans A).trans C).trans y)) (n2.grow (((((I.trans H).trans F).trans A).trans C).trans y));refine qz al (qz rfl (qz (seen qcm) (qz (seen qcn) (qz (qbf (((((F.trans A).trans C).trans y).trans K).has b6) 0 rfl rfl) ?_))));obtain⟨an,bi,ap,aq,U,ac⟩:=kdu aa a3;refine qz ap (qz rfl ?_);refine qbb rfl ?_;refine qz (seenAt rfl rfl) (qz (seenAt rfl qcm) ?_);refine qba (((((A.trans C).trans y).trans K).trans U).has Y) rfl λbj ad V=>?_;have ag:=(aa.grow U).upda (qbj am (((A.trans C).trans y).has Y).lt) V;have Q:=aq.upda (qbj ac ((((A.trans C).trans y).trans K).has Y).lt) V;refine qz (qbf ad 0 rfl rfl) (qz (qbf ad 1 rfl qcm) ?_);have z:kc2 a1 x2 a3 x4=((((fromI a3 ((subN x4 x2).1)).1)),(fromI a3 ((subN x4 x2).1)).2,0):=by unfold kc2;exact(condF X).trans ((condF Z).trans ((condF ae).trans ((condF ak).trans rfl)))
     rw[z];exact qy ⟨an,rfl,Q,((((((((I.trans H).trans F).trans A).trans C).trans y).trans K).trans U).updr (qbq ((I.trans H)).size (qbp _)) V),(ac.of_le ((((((I.trans H).trans F).trans A).trans C).trans y).trans K))⟩
theorem rtI_rt{p:Bool}{xs:List Nat}(h:rtI p xs=true):rt xs=true:=by
 unfold rtI at h;revert h;cases rt xs<;>simp
theorem kba5:kc2=kbf:=by
 funext p xs q ys;unfold kc2 kbf;cases F:rtI p xs with
 | false=>rfl
 | true =>
  cases H:rtI q ys with
  | false=>rfl
  | true =>
   have A:=rtI_rt F;have C:=rtI_rt H;simp only[Bool.not_true,cond_false,Bool.and_self];cases Q:p==q with
   | true=>rfl
   | false =>
    simp only[cond_false];have I:cmpN xs ys=cmp (num B xs) (num B ys):=by simp[cmpN,A,C]
    rw[I];by_cases y:num B xs<num B ys
    ·rw[show decide (cmp (num B xs) (num B ys)<0)=true from by rw[qbw];simp[cmp,y],show decide (cmp (num B xs) (num B ys)>=0)=false from by rw[qbv];simp[cmp,y]]
     have:(subN ys xs).2=0:=by
      rw[show subN ys xs=(digs B (num B ys-num B xs),0)from by simp[subN,A,C];omega]
     simp[this]
    ·have K:¬cmp (num B xs) (num B ys)<0:=by
      unfold cmp;rw[if_neg y];split<;>omega
     rw[show decide (cmp (num B xs) (num B ys)<0)=false from qby K,show decide (cmp (num B xs) (num B ys)>=0)=true from qbx (by omega)]
     have:(subN xs ys).2=0:=by
      rw[show subN xs ys=(digs B (num B xs-num B ys),0)from by simp[subN,A,C,y]]
     simp[this]
theorem k7v{h:AH}{a2:Sl}{x2:List Nat}{a4:Sl}{x4:List Nat}(y:Nats h a2 x2)(A:Nats h a4 x4)(a1 a3:Bool):Runs (go (.fn kod [.agg [.bool a1,a2.v],.agg [.bool a3,a4.v]]) h) λv h'=>∃s1:Sl,v=.tup [.agg [.bool (kbf a1 x2 a3 x4).1,s1.v],.i (kbf a1 x2 a3 x4).2.2]/\Nats h' s1 ((kbf a1 x2 a3 x4).2.1)/\Grow h h'/\Own h s1:=by
 rw[<- kba5];exact kbb6 y A a1 a3
def ken(a1:Bool)(x2:List Nat)(a3:Bool)(x4:List Nat):Bool×List Nat×Int :=
 cond (!((rtI a1 x2&&rtI a3 x4))) ((false,[],1)) (((((kbf a1 x2 ((negI a3 x4).1) ((negI a3 x4).2)).1)),(kbf a1 x2 ((negI a3 x4).1) ((negI a3 x4).2)).2.1,((kbf a1 x2 ((negI a3 x4).1) ((negI a3 x4).2)).2.2)))
theorem kbko{h:AH}{a2:Sl}{x2:List Nat}{a4:Sl}{x4:List Nat}(n2:Nats h a2 x2)(n4:Nats h a4 x4)(a1 a3:Bool):Runs (go (.fn kkw [.agg [.bool a1,a2.v],.agg [.bool a3,a4.v]]) h) λv h'=>∃s1:Sl,v=.tup [.agg [.bool (ken a1 x2 a3 x4).1,s1.v],.i (ken a1 x2 a3 x4).2.2]/\Nats h' s1 ((ken a1 x2 a3 x4).2.1)/\Grow h h'/\Own h s1:=by
 rw[k49];refine q0 λH5 Y I=>?_;refine q0 λH6 b6 H=>?_;refine q0 λH7 X y=>?_;refine qz (qbf ((H.trans y).has Y) 0 rfl rfl) (qz (qbf ((H.trans y).has Y) 1 rfl qcm) (qz (qbf (y.has b6) 0 rfl rfl) (qz (qbf (y.has b6) 1 rfl qcm) ?_)));refine q0 λH8 b8 A=>?_;obtain⟨H9,e9,C⟩:=kp8 b8 (n2.grow (((I.trans H).trans y).trans A)) (n4.grow (((I.trans H).trans y).trans A));refine qz e9 (qz (seen rfl) ?_);refine qbd (λV=>?_) (λV=>?_)
 ·refine qba ((A.trans C).has X) rfl λag Z aa=>?_;have ah:=qx (C.has b8) (Nat.ne_of_gt (qbr (X).lt (qbp _))) aa;refine qz (qbf Z 0 rfl rfl) (qz (qbf Z 1 rfl qcm) ?_);have z:ken a1 x2 a3 x4=(false,[],1):=by unfold ken;exact(condT V).trans rfl
  rw[z];exact qy ⟨(⟨none,0,.is 0⟩:Sl),rfl,(qw _),(((((I.trans H).trans y).trans A).trans C).updr (qbq ((I.trans H)).size (qbp _)) aa),(qu _)⟩
 ·refine qz (qbf ((((H.trans y).trans A).trans C).has Y) 0 rfl rfl) (qz (qbf ((((H.trans y).trans A).trans C).has Y) 1 rfl qcm) (qz (qbf (((y.trans A).trans C).has b6) 0 rfl rfl) (qz (qbf (((y.trans A).trans C).has b6) 1 rfl qcm) ?_)));obtain⟨ap,ag,ai,ac,F,aj⟩:=kbci (n4.grow ((((I.trans H).trans y).trans A).trans C)) a3;refine qz ai (qz rfl ?_);refine qbb rfl ?_;refine qz (seenAt rfl rfl) (qz (seenAt rfl qcm) ?_);refine qbe (F.same ((((H.trans y).trans A).trans C).has Y) 0 2) ?_;obtain⟨_,aq,ak,al,rfl,am,K,ad⟩:=kzt (n2.grow (((((I.trans H).trans y).trans A).trans C).trans F)) ac a1 ((negI a3 x4).1);refine qz ak (qz rfl (qz rfl ?_));refine qbb rfl ?_;refine qz (seenAt rfl rfl) (qz (seenAt rfl qcm) (qz (seen qcn) ?_));refine qba ((((A.trans C).trans F).trans K).has X) rfl λar ae Q=>?_;have af:=(ac.grow K).upda (qbj aj ((A.trans C).has X).lt) Q;have U:=am.upda (qbj ad (((A.trans C).trans F).has X).lt) Q;have an:=qx (((C.trans F).trans K).has b8) (Nat.ne_of_gt (qbr (X).lt (qbp _))) Q;refine qz (qbf ae 0 rfl rfl) (qz (qbf ae 1 rfl qcm) ?_);have z:ken a1 x2 a3 x4=((((kbf a1 x2 ((negI a3 x4).1) ((negI a3 x4).2)).1)),(kbf a1 x2 ((negI a3 x4).1) ((negI a3 x4).2)).2.1,((kbf a1 x2 ((negI a3 x4).1) ((negI a3 x4).2)).2.2)):=by unfold ken;exact(condF V).trans rfl
  rw[z];exact qy ⟨al,rfl,U,(((((((I.trans H).trans y).trans A).trans C).trans F).trans K).updr (qbq ((I.trans H)).size (qbp _)) Q),(ad.of_le (((((I.trans H).trans y).trans A).trans C).trans F))⟩
end Go.Ab
set_option maxRecDepth 10000
namespace Go.Ab
open IntKind (wrap)
open Go.Proofs Go.Num
theorem kcm(x n:Nat):ishr .u64 (x:Int) (n:Int)=((x/2^min n 64:Nat):Int):=by
 unfold ishr;rw[Int.toNat_natCast,show IntKind.bits .u64=64 from rfl];have:((2:Int)^min n 64)=((2^min n 64:Nat):Int):=by simp
 rw[this,Int.fdiv_eq_ediv_of_nonneg _ (Int.natCast_nonneg _)];exact(Int.natCast_ediv _ _).symm
theorem kmj{x:Nat}(y:x<18446744073709551616):iand .u64 (x:Int) 4294967295=((x%4294967296:Nat):Int):=by
 unfold iand;rw[show IntKind.bits .u64=64 from rfl,wrapU];have A:BitVec.ofInt 64 (x:Int)=BitVec.ofNat 64 x:=rfl;have C:BitVec.ofInt 64 4294967295=BitVec.ofNat 64 4294967295:=rfl;rw[A,C,BitVec.toNat_and,BitVec.toNat_ofNat,BitVec.toNat_ofNat];rw[Nat.mod_eq_of_lt (show x<2^64 from y),Nat.mod_eq_of_lt (show 4294967295<2^64 from by decide)];rw[show(4294967295:Nat)=2^32-1 from rfl,Nat.and_two_pow_sub_one_eq_mod];have:=Nat.mod_lt x (show 0<2^32 by decide);omega
def mul64(a1 a2:Int):Int×Int:=((wrap .u64 ((wrap .u64 ((wrap .u64 ((ishr .u64 a1 32)*(ishr .u64 a2 32)))+(ishr .u64 (wrap .u64 ((wrap .u64 ((ishr .u64 a1 32)*(iand .u64 a2 4294967295)))+(ishr .u64 (wrap .u64 ((iand .u64 a1 4294967295)*(iand .u64 a2 4294967295))) 32))) 32)))+(ishr .u64 (wrap .u64 ((iand .u64 (wrap .u64 ((wrap .u64 ((ishr .u64 a1 32)*(iand .u64 a2 4294967295)))+(ishr .u64 (wrap .u64 ((iand .u64 a1 4294967295)*(iand .u64 a2 4294967295))) 32))) 4294967295)+(wrap .u64 ((iand .u64 a1 4294967295)*(ishr .u64 a2 32))))) 32))),wrap .u64 (a1*a2))
theorem kxf(a1 a2:Int){h:AH}:go (.fn krd [.int .u64 a1,.int .u64 a2]) h=some (.tup [.int .u64 (mul64 a1 a2).1,.int .u64 (mul64 a1 a2).2],h):=k48 a1 a2 h
theorem k56(x1 A y C:Nat):(x1*4294967296+A)*(y*4294967296+C)=x1*y*18446744073709551616+(x1*C+A*y)*4294967296+A*C:=by
 rw[Nat.add_mul,Nat.mul_add,Nat.mul_add]
 have F:x1*4294967296*(y*4294967296)=x1*y*18446744073709551616:=by
  rw[Nat.mul_mul_mul_comm]
 have H:x1*4294967296*C=x1*C*4294967296:=by rw[Nat.mul_right_comm]
 have I:A*(y*4294967296)=A*y*4294967296:=by rw[Nat.mul_assoc]
 rw[F,H,I];omega
theorem k0i{x y:Nat}(I:x<B)(K:y<B):mul64 (x:Int) (y:Int)=(((x*y/B:Nat):Int),((x*y%B:Nat):Int)):=by
 have I:x<18446744073709551616:=I;have K:y<18446744073709551616:=K;unfold mul64;have s1:=kcm x 32;have s2:=kcm y 32;have a1:=kmj I;have a2:=kmj K;have H:(2:Nat)^min 32 64=4294967296:=rfl;rw[H]at s1 s2;rw[show((32:Nat):Int)=32 from rfl]at s1 s2;rw[s1,s2,a1,a2];generalize aa:x/4294967296=x1;generalize ac:x%4294967296=A;generalize ad:y/4294967296=C;generalize ae:y%4294967296=F;have ex:x=x1*4294967296+A:=by omega
 have ey:y=C*4294967296+F:=by omega
 have V:x1<=4294967295:=by omega
 have X:A<=4294967295:=by omega
 have Y:C<=4294967295:=by omega
 have Z:F<=4294967295:=by omega
 have b1:x1*C<=4294967295*4294967295:=Nat.mul_le_mul V Y;have b2:x1*F<=4294967295*4294967295:=Nat.mul_le_mul V Z;have b3:A*C<=4294967295*4294967295:=Nat.mul_le_mul X Y;have b4:A*F<=4294967295*4294967295:=Nat.mul_le_mul X Z;have key:=k56 x1 A C F;rw[<- ex,<- ey]at key;have w1:wrap .u64 (((A:Nat):Int)*((F:Nat):Int))=((A*F:Nat):Int):=by rw[wrapU,<- Int.natCast_mul];omega
 have w2:wrap .u64 (((x1:Nat):Int)*((F:Nat):Int))=((x1*F:Nat):Int):=by rw[wrapU,<- Int.natCast_mul];omega
 have w3:wrap .u64 (((A:Nat):Int)*((C:Nat):Int))=((A*C:Nat):Int):=by rw[wrapU,<- Int.natCast_mul];omega
 have w4:wrap .u64 (((x1:Nat):Int)*((C:Nat):Int))=((x1*C:Nat):Int):=by rw[wrapU,<- Int.natCast_mul];omega
 rw[w1,w2,w3,w4]
 have lo:wrap .u64 ((x:Int)*(y:Int))=((x*y%B:Nat):Int):=by
  rw[wrapU,<- Int.natCast_mul];rfl
 rw[lo];generalize A*F=p at *
 generalize x1*F=q at *
 generalize A*C=u at *
 generalize x1*C=v at *
 have s3:=kcm p 32;rw[H]at s3;rw[show((32:Nat):Int)=32 from rfl]at s3;rw[s3];have w5:wrap .u64 (((q:Nat):Int)+((p/4294967296:Nat):Int))=((q+p/4294967296:Nat):Int):=by rw[wrapU];omega
 rw[w5];have ht:q+p/4294967296<18446744073709551616:=by omega
 have Q:=kcm (q+p/4294967296) 32;rw[H]at Q;rw[show((32:Nat):Int)=32 from rfl]at Q;rw[Q,kmj ht];generalize af:q+p/4294967296=t at *
 have w6:wrap .u64 (((t%4294967296:Nat):Int)+((u:Nat):Int))=((t%4294967296+u:Nat):Int):=by rw[wrapU];omega
 rw[w6];have U:=kcm (t%4294967296+u) 32;rw[H]at U;rw[show((32:Nat):Int)=32 from rfl]at U;rw[U];have w7:wrap .u64 (((v:Nat):Int)+((t/4294967296:Nat):Int))=((v+t/4294967296:Nat):Int):=by rw[wrapU];omega
 rw[w7];have w8:wrap .u64 (((v+t/4294967296:Nat):Int)+(((t%4294967296+u)/4294967296:Nat):Int))=((v+t/4294967296+(t%4294967296+u)/4294967296:Nat):Int):=by rw[wrapU];omega
 rw[w8]
 have hi:v+t/4294967296+(t%4294967296+u)/4294967296=x*y/18446744073709551616:=by
  rw[key];omega
 rw[hi]
inductive ke7
 | fn (x1:List Nat) (x2:List Nat)
 | p3 (x1:List Nat) (x2:List Nat) (x3:List Nat) (a4:Int) (a5:Int)
 | p7 (x1:List Nat) (x2:List Nat) (a3:Int) (a4:Int) (a5:Int) (x6:List Nat) (a7:Int) (a8:Int) (x9:List Nat) (a10:Int) (a11:Int)
abbrev kdi:=List Nat
noncomputable def kmp(x1 x2:List Nat):Option (ke7⊕kdi) :=
 (mkI (wrap .i64 ((List.length x1:Int)+(List.length x2:Int))) (wrap .i64 ((List.length x1:Int)+(List.length x2:Int)))).bind λy=>some (.inl (.p3 x2 (List.replicate y 0) x1 (List.length x1:Int) 0))
noncomputable def khj(x1 x2 x3:List Nat)(a4 a5:Int):Option (ke7⊕kdi) :=
 cond (decide (a5<a4)) ((atI x3 a5).bind λy=>some (.inl (.p7 x1 x2 a5 ((y:Int)) 0 x3 a4 a5 x1 (List.length x1:Int) 0))) (some (.inr (digs B (num B x2))))
noncomputable def kiv(x1 x2:List Nat)(a3 a4 a5:Int)(x6:List Nat)(a7 a8:Int)(x9:List Nat)(a10 a11:Int):Option (ke7⊕kdi) :=
 cond (decide (a11<a10)) ((atI x9 a11).bind λy=>(inI (List.length x2) (wrap .i64 (a3+a11))).bind λC=>(add64P ((mul64 a4 ((y:Int))).2) (((List.getD x2 C 0:Nat):Int)) 0).bind λA=>(add64P (A.1) a5 0).bind λp17=>(inI (List.length x2) (wrap .i64 (a3+a11))).bind λF=>(u64P (p17.1)).bind λH=>some (.inl (.p7 x1 (List.set x2 F H) a3 a4 (wrap .u64 ((wrap .u64 (((mul64 a4 ((y:Int))).1)+(A.2)))+(p17.2))) x6 a7 a8 x9 a10 (wrap .i64 (a11+1))))) ((inI (List.length x2) (wrap .i64 (a3+(List.length x1:Int)))).bind λI=>(u64P a5).bind λK=>some (.inl (.p3 x1 (List.set x2 I K) x6 a7 (wrap .i64 (a8+1)))))
noncomputable def knd:ke7->Option (ke7⊕kdi)
 | .fn x1 x2=>kmp x1 x2
 | .p3 x1 x2 x3 a4 a5=>khj x1 x2 x3 a4 a5
 | .p7 x1 x2 a3 a4 a5 x6 a7 a8 x9 a10 a11=>kiv x1 x2 a3 a4 a5 x6 a7 a8 x9 a10 a11
@[reducible] def kti(h0:AH)(r:kdi)(v:AV)(h':AH):Prop:=∃s1:Sl,v=s1.v/\Nats h' s1 r/\Grow h0 h'/\Own h0 s1
def khy(r:kdi):ke7->Prop
 | .fn x1 x2=>∀{h:AH}{a1:Sl}{a2:Sl},Nats h a1 x1->Nats h a2 x2->Runs (go (.fn kdb [a1.v,a2.v]) h) (kti h r)
 | .p3 x1 x2 x3 a4 a5=>∀{h0 h:AH}{a1:Sl}{a2:Sl}{a3:Sl}{y:Nat},Grow h0 h->Nats h a1 x1->Vec h a2 y x2->Nats h a3 x3->h0.blks.size<=y->Av a1 y x1->Av a3 y x3->Runs (go (.pt kdb kqe [(1,a1.v),(5,a2.v),(20,a3.v),(21,.i a4),(22,.i a5)]) h) (kti h0 r)
 | .p7 x1 x2 a3 a4 a5 x6 a7 a8 x9 a10 a11=>∀{h0 h:AH}{a1:Sl}{a2:Sl}{a6:Sl}{a9:Sl}{y:Nat},Grow h0 h->Nats h a1 x1->Vec h a2 y x2->Nats h a6 x6->Nats h a9 x9->h0.blks.size<=y->Av a1 y x1->Av a6 y x6->Av a9 y x9->Runs (go (.pt kdb kpf [(1,a1.v),(5,a2.v),(6,.i a3),(7,.int .u64 a4),(8,.int .u64 a5),(20,a6.v),(21,.i a7),(22,.i a8),(27,a9.v),(28,.i a10),(29,.i a11)]) h) (kti h0 r)
theorem k90{r:kdi}{o:ke7⊕kdi}{x1 x2:List Nat}(e:kmp x1 x2=some o)(y:GoodS (khy r) r o):khy r (.fn x1 x2):=by
 intro h a1 a2 n1 A;rw[kbhl];unfold kmp at e;rw[n1.len];rw[A.len];obtain⟨I,F,e⟩:=qbu.1 e;refine Runs.mk F kei λs3 K H C=>?_;cases e;exact y C (A.grow C) H (n1.grow C) (qbp _) (qbi A (qbp _)) (qbi n1 (qbp _))
theorem kbft{r:kdi}{o:ke7⊕kdi}{x1 x2 x3:List Nat}{a4 a5:Int}(e:khj x1 x2 x3 a4 a5=some o)(A:GoodS (khy r) r o):khy r (.p3 x1 x2 x3 a4 a5):=by
 intro h0 h a1 a2 a3 i2 Q n1 H I F y C;rw[k6w];unfold khj at e;rw[n1.len];rw[I.len];refine qbd (λK=>?_) (λK=>?_)
 ·replace e:=(condT K).symm.trans e;obtain⟨y7,U,e⟩:=qbu.1 e;obtain⟨r7,V,X⟩:=I.atI U;refine qz V (qz (rdc X qcn) ?_);cases e;exact A Q n1 H I n1 F y C y
 ·replace e:=(condF K).symm.trans e;obtain⟨Y,Z,n7,o7⟩:=kec H.nats;refine qz Z (qz (seen qcm) ?_);cases e;cases A;exact qy ⟨Y,rfl,n7,Q,((o7 _ (H.own F)).of_le (ql _))⟩
theorem kbd7{r:kdi}{o:ke7⊕kdi}{x1 x2:List Nat}{a3 a4 a5:Int}{x6:List Nat}{a7 a8:Int}{x9:List Nat}{a10 a11:Int}(e:kiv x1 x2 a3 a4 a5 x6 a7 a8 x9 a10 a11=some o)(Q:GoodS (khy r) r o):khy r (.p7 x1 x2 a3 a4 a5 x6 a7 a8 x9 a10 a11):=by
 intro h0 h a1 a2 a6 a9 i2 g0 n1 U n6 n9 F y A C;rw[kblt];unfold kiv at e;rw[n1.len];rw[U.nats.len];rw[n9.len];refine qbd (λV=>?_) (λV=>?_)
 ·replace e:=(condT V).symm.trans e;obtain⟨ag,H,e⟩:=qbu.1 e;obtain⟨aq,ad,ah⟩:=n9.atI H;refine qz ad (qz (rdc ah qcn) (qz (kxf a4 ((ag:Int))) (qz rfl (qz (seen qcn) (qz (seen qcn) ?_)))));obtain⟨ar,ae,e⟩:=qbu.1 e;refine qz (U.idx rfl ae) (qz (U.rd rfl ae qcn) ?_);obtain⟨au,ai,e⟩:=qbu.1 e;refine qz (ki9 ai) (qz rfl (qz (seen qcn) (qz (seen qcn) ?_)));obtain⟨p17,aj,e⟩:=qbu.1 e;refine qz (ki9 aj) (qz rfl (qz (seen qcn) (qz (seen qcn) ?_)));obtain⟨aw,af,e⟩:=qbu.1 e;refine qz (U.idx rfl af) ?_;obtain⟨ax,ak,e⟩:=qbu.1 e;refine qbh U rfl af ak λay al I=>?_;have X:=n1.upda y I;have Y:=n6.upda A I;have Z:=n9.upda C I;cases e;exact Q (g0.updr F I) X al Y Z F y A C
 ·replace e:=(condF V).symm.trans e;obtain⟨ad,H,e⟩:=qbu.1 e;refine qz (U.idx rfl H) ?_;obtain⟨az,am,e⟩:=qbu.1 e;refine qbh U rfl H am λa0 an K=>?_;have aa:=n1.upda y K;have ac:=n6.upda A K;have ap:=n9.upda C K;cases e;exact Q (g0.updr F K) aa an ac F y A
theorem k65{s:ke7}{r:kdi}(A:Iter knd s r):khy r s:=qbg (λs o e y=>by
 cases s with
 | fn x1 x2=>exact @k90 _ _ x1 x2 e y
 | p3 x1 x2 x3 a4 a5=>exact @kbft _ _ x1 x2 x3 a4 a5 e y
 | p7 x1 x2 a3 a4 a5 x6 a7 a8 x9 a10 a11=>exact @kbd7 _ _ x1 x2 a3 a4 a5 x6 a7 a8 x9 a10 a11 e y
 ) A
end Go.Ab
set_option maxRecDepth 10000
namespace Go.Ab
open Go.Proofs Go.Num
theorem kbip{t o c:Nat}(y:o<18446744073709551616)(A:c<18446744073709551616)(h:(t+o+c)/18446744073709551616<18446744073709551616) :
  ((t%18446744073709551616+o+0)%18446744073709551616+c+0)%18446744073709551616=(t+o+c)%18446744073709551616/\
  IntKind.wrap .u64 (IntKind.wrap .u64 (((t/18446744073709551616:Nat):Int)+(((t%18446744073709551616+o+0)/18446744073709551616:Nat):Int))+((((t%18446744073709551616+o+0)%18446744073709551616+c+0)/18446744073709551616:Nat):Int))=(((t+o+c)/18446744073709551616:Nat):Int):=by
 rw[wrapU,wrapU];omega
def Empty(o:List Nat)(k:Nat):Prop:=∀j (h:j<o.length),k<=j->o[j]=0
theorem Empty.set{o:List Nat}{k j w:Nat}(z:Empty o k)(C:j<k):Empty (o.set j w) k:=λt y A=>by
 rw[List.getElem_set_ne (by omega)];exact z t (by simpa using y) A
theorem set_lt{b:Nat}{o:List Nat}{j w:Nat}(h:∀x∈o,x<b)(y:w<b):∀x∈o.set j w,x<b:=λx A=>by
 rcases List.mem_or_eq_of_mem_set A with h1 | h1
 ·exact h x h1
 ·rw[h1];exact y
theorem kz9{xs ys:List Nat}{r:kdi}{i x T:Nat}(I:x<B)(U:∀y∈ys,y<B)(Z:xs.length+ys.length<=8796093022208)(hi:i<xs.length)
  (K:∀o:List Nat,o.length=xs.length+ys.length->(∀y∈o,y<B)->Empty o (i+1+ys.length)->num B o=T+B^i*(x*num B ys)->Iter knd (.p3 ys o xs (xs.length:Int) ((i+1:Nat):Int)) r) :
  ∀(d k:Nat),k+d=ys.length->∀(o:List Nat)(c:Nat),o.length=xs.length+ys.length->(∀y∈o,y<B)->Empty o (i+ys.length)->c<B->Row B o i k c x ys T->
   Iter knd (.p7 ys o (i:Int) (x:Int) (c:Int) xs (xs.length:Int) (i:Int) ys (ys.length:Int) (k:Int)) r
 | 0,k,Q,o,c,lo,to,zo,C,row=>by
  have Q:k=ys.length:=by omega
  subst Q;have A:i+ys.length<o.length:=by omega
  refine .next ?_ (K (o.set (i+ys.length) c) (by simpa using lo) (set_lt to C) ?_ ?_)
  ·show kiv _ _ _ _ _ _ _ _ _ _ _=_;unfold kiv;rw[condF (by rw[qbv];omega),<- Int.natCast_add,kgj (by omega),kbi A,qbt,kbr C,qbt,kj (by omega)]
  ·rw[show i+1+ys.length=i+ys.length+1 from by omega];intro j h1 h2;rw[List.getElem_set_ne (by omega)];exact zo j (by simpa using h1) (by omega)
  ·exact row.stop A (zo _ A (qbp _))
 | d+1,k,Q,o,c,lo,to,zo,C,row=>by
  have F:k<ys.length:=by omega
  have A:i+k<o.length:=by omega
  have V:=U ys[k] (qb2 _);have X:=to o[i+k] (qb2 _);have H:=kwe I V X C;obtain⟨c1,c2⟩:=kbip X C H;have Y:=Nat.mod_lt (x*ys[k]+o[i+k]+c) (show 0<18446744073709551616 by omega);refine .next ?_ (kz9 I U Z hi K d (k+1) (by omega) (o.set (i+k) ((x*ys[k]+o[i+k]+c)%18446744073709551616)) ((x*ys[k]+o[i+k]+c)/18446744073709551616) (by simpa using lo) (set_lt to Y) (zo.set (by omega)) H (row.step F A (Nat.div_add_mod' _ _).symm))
  ·show kiv _ _ _ _ _ _ _ _ _ _ _=_;unfold kiv;rw[condT (by rw[qbw];omega),kco F,qbt,<- Int.natCast_add,kgj (by omega),kbi A,qbt,k0i I V];dsimp only;rw[show List.getD o (i+k) 0=o[i+k]from kbx A];have a1:=kqm (x*ys[k]%B) o[i+k] (c:=0) (by omega);have a2:=kqm ((x*ys[k]%B+o[i+k]+0)%18446744073709551616) c (c:=0) (by omega);rw[show((0:Nat):Int)=0 from rfl]at a1 a2;rw[a1,qbt];dsimp only;rw[a2,qbt,qbt];dsimp only;rw[c1,c2,kbr Y,qbt,kj (by omega)]
theorem ky7{xs ys:List Nat}(C:∀x∈xs,x<B)(F:∀y∈ys,y<B)(H:xs.length+ys.length<=8796093022208) :
  ∀(d i:Nat),i+d=xs.length->∀(o:List Nat),o.length=xs.length+ys.length->(∀y∈o,y<B)->Empty o (i+ys.length)->num B o=num B (xs.take i)*num B ys->
   Iter knd (.p3 ys o xs (xs.length:Int) (i:Int)) (digs B (num B xs*num B ys))
 | 0,i,hi,o,lo,to,zo,e=>by
  have hi:i=xs.length:=by omega
  subst hi;rw[List.take_length]at e;refine .done ?_;show khj _ _ _ _ _=_;unfold khj;rw[condF (by rw[qbv];omega),e]
 | d+1,i,hi,o,lo,to,zo,e=>by
  have A:i<xs.length:=by omega
  refine .next (s':=.p7 ys o (i:Int) (xs[i]:Int) ((0:Nat):Int) xs (xs.length:Int) (i:Int) ys (ys.length:Int) ((0:Nat):Int)) ?_
   (kz9 (T:=num B (xs.take i)*num B ys) (C _ (qb2 _)) F H A (λI K t' Q U=>?_) ys.length 0 (by omega) o 0 lo to zo (show 0<18446744073709551616 by omega) (Row.start e))
  ·show khj _ _ _ _ _=_;unfold khj;rw[condT (by rw[qbw];omega),kco A,qbt];rfl
  ·refine ky7 C F H d (i+1) (by omega) I K t' Q ?_;rw[U,k07 A rfl]
theorem k4g{xs ys:List Nat}(C:∀x∈xs,x<B)(F:∀y∈ys,y<B)(A:xs.length+ys.length<=8796093022208):Iter knd (.fn xs ys) (digs B (num B xs*num B ys)):=by
 have z:∀k,Empty (List.replicate (xs.length+ys.length) 0) k:=λk j I _=>by simp
 refine .next (s':=.p3 ys (List.replicate (xs.length+ys.length) 0) xs (xs.length:Int) ((0:Nat):Int)) ?_ (ky7 C F A xs.length 0 (by omega) _ (by simp) ?_ (z _) ?_)
 ·show kmp _ _=_;unfold kmp;rw[<- Int.natCast_add,kgj (by omega),kf5 A,qbt];rfl
 ·intro y H;rw[List.eq_of_mem_replicate H];exact show 0<18446744073709551616 by omega
 ·have:=knu B [] (xs.length+ys.length)
  simpa[num]using this
theorem kr7{h:AH}{s t:Sl}{xs ys:List Nat}(n:Nats h s xs)(m:Nats h t ys)(y:xs.length+ys.length<=8796093022208):∃(s':Sl)(h':AH),go (.fn kdb [s.v,t.v]) h=some (s'.v,h')/\Nats h' s' (digs B (num B xs*num B ys))/\Grow h h'/\Own h s':=by
 obtain⟨_,h',e,s',rfl,A,g,o⟩:=k65 (k4g n.lt m.lt y) n m;exact⟨s',h',e,A,g,o⟩
end Go.Ab
set_option maxRecDepth 10000
namespace Go.Ab
open IntKind (wrap)
open Go.Proofs Go.Num
inductive ke4
 | fn (x1:List Nat) (x2:List Nat)
 | p3 (x1:List Nat) (x2:List Nat) (x3:List Nat) (a4:Int)
 | p7 (x1:List Nat) (x2:List Nat) (x3:List Nat) (a4:Int) (a5:Int) (a6:Int)
abbrev kdg:=List Nat
noncomputable def kmt(x1 x2:List Nat):Option (ke4⊕kdg) :=
 (mkI (wrap .i64 ((List.length x1:Int)+(List.length x2:Int))) (wrap .i64 ((List.length x1:Int)+(List.length x2:Int)))).bind λy=>some (.inl (.p3 x1 x2 (List.replicate y 0) 0))
noncomputable def khn(x1 x2 x3:List Nat)(a4:Int):Option (ke4⊕kdg) :=
 cond (decide (a4<(List.length x1:Int))) (some (.inl (.p7 x1 x2 x3 a4 0 0))) ((need (∀x∈x3,x<D)).bind λy=>some (.inr (digs D (num D x3))))
noncomputable def kil(x1 x2 x3:List Nat)(a4 a5 a6:Int):Option (ke4⊕kdg) :=
 cond (decide (a6<(List.length x2:Int))) ((inI (List.length x3) (wrap .i64 (a4+a6))).bind λA=>(atI x1 a4).bind λH=>(atI x2 a6).bind λy=>(inI (List.length x3) (wrap .i64 (a4+a6))).bind λC=>(u64P (Int.tmod (wrap .u64 ((wrap .u64 ((((List.getD x3 A 0:Nat):Int))+(wrap .u64 (((H:Int))*((y:Int))))))+a5)) 65536)).bind λF=>some (.inl (.p7 x1 x2 (List.set x3 C F) a4 (wrap .u64 (Int.tdiv (wrap .u64 ((wrap .u64 ((((List.getD x3 A 0:Nat):Int))+(wrap .u64 (((H:Int))*((y:Int))))))+a5)) 65536)) (wrap .i64 (a6+1))))) ((inI (List.length x3) (wrap .i64 (a4+(List.length x2:Int)))).bind λA=>(u64P a5).bind λI=>some (.inl (.p3 x1 x2 (List.set x3 A I) (wrap .i64 (a4+1)))))
noncomputable def klj:ke4->Option (ke4⊕kdg)
 | .fn x1 x2=>kmt x1 x2
 | .p3 x1 x2 x3 a4=>khn x1 x2 x3 a4
 | .p7 x1 x2 x3 a4 a5 a6=>kil x1 x2 x3 a4 a5 a6
@[reducible] def kr6(h0:AH)(r:kdg)(v:AV)(h':AH):Prop:=∃s1:Sl,v=s1.v/\Nats h' s1 r/\Grow h0 h'/\Own h0 s1
def kis(r:kdg):ke4->Prop
 | .fn x1 x2=>∀{h:AH}{a1:Sl}{a2:Sl},Nats h a1 x1->Nats h a2 x2->Runs (go (.fn kc8 [a1.v,a2.v]) h) (kr6 h r)
 | .p3 x1 x2 x3 a4=>∀{h0 h:AH}{a1:Sl}{a2:Sl}{a3:Sl}{y:Nat},Grow h0 h->Nats h a1 x1->Nats h a2 x2->Vec h a3 y x3->h0.blks.size<=y->Av a1 y x1->Av a2 y x2->Runs (go (.pt kc8 kqw [(0,a1.v),(1,a2.v),(5,a3.v),(6,.i a4)]) h) (kr6 h0 r)
 | .p7 x1 x2 x3 a4 a5 a6=>∀{h0 h:AH}{a1:Sl}{a2:Sl}{a3:Sl}{y:Nat},Grow h0 h->Nats h a1 x1->Nats h a2 x2->Vec h a3 y x3->h0.blks.size<=y->Av a1 y x1->Av a2 y x2->Runs (go (.pt kc8 kop [(0,a1.v),(1,a2.v),(5,a3.v),(6,.i a4),(7,.int .u64 a5),(8,.i a6)]) h) (kr6 h0 r)
theorem kbbu{r:kdg}{o:ke4⊕kdg}{x1 x2:List Nat}(e:kmt x1 x2=some o)(y:GoodS (kis r) r o):kis r (.fn x1 x2):=by
 intro h a1 a2 n1 A;rw[kbbj];unfold kmt at e;rw[n1.len];rw[A.len];obtain⟨I,F,e⟩:=qbu.1 e;refine Runs.mk F kei λs3 K H C=>?_;cases e;exact y C (n1.grow C) (A.grow C) H (qbp _) (qbi n1 (qbp _)) (qbi A (qbp _))
theorem kbho{r:kdg}{o:ke4⊕kdg}{x1 x2 x3:List Nat}{a4:Int}(e:khn x1 x2 x3 a4=some o)(y:GoodS (kis r) r o):kis r (.p3 x1 x2 x3 a4):=by
 intro h0 h a1 a2 a3 i3 Q n1 V I F A C;rw[k50];unfold khn at e;rw[n1.len];refine qbd (λK=>?_) (λK=>?_)
 ·replace e:=(condT K).symm.trans e;cases e;exact y Q n1 V I F A C
 ·replace e:=(condF K).symm.trans e;obtain⟨H,U,e⟩:=qbu.1 e;obtain⟨X,Y,Z,o6⟩:=kke I.nats  H.down;refine qz Y (qz (seen qcm) ?_);cases e;cases y;exact qy ⟨X,rfl,Z,Q,((o6 _ (I.own F)).of_le (ql _))⟩
theorem kbe4{r:kdg}{o:ke4⊕kdg}{x1 x2 x3:List Nat}{a4 a5 a6:Int}(e:kil x1 x2 x3 a4 a5 a6=some o)(F:GoodS (kis r) r o):kis r (.p7 x1 x2 x3 a4 a5 a6):=by
 intro h0 h a1 a2 a3 i3 g0 n1 Z H C y A;rw[kbbx];unfold kil at e;rw[n1.len];rw[Z.len];rw[H.nats.len];refine qbd (λk7=>?_) (λk7=>?_)
 ·replace e:=(condT k7).symm.trans e;obtain⟨j8,U,e⟩:=qbu.1 e;refine qz (H.idx rfl U) (qz (H.rd rfl U qcn) ?_);obtain⟨y9,q9,e⟩:=qbu.1 e;obtain⟨r9,j9,l9⟩:=n1.atI q9;refine qz j9 (qz (rdc l9 qcn) ?_);obtain⟨ag,aa,e⟩:=qbu.1 e;obtain⟨ah,ac,ad⟩:=Z.atI aa;refine qz ac (qz (rdc ad qcn) ?_);obtain⟨ai,V,e⟩:=qbu.1 e;refine qz (H.idx rfl V) ?_;obtain⟨aj,ae,e⟩:=qbu.1 e;refine qbh H rfl V ae λak af I=>?_;have K:=n1.upda y I;have Q:=Z.upda A I;cases e;exact F (g0.updr C I) K Q af C y A
 ·replace e:=(condF k7).symm.trans e;obtain⟨j8,U,e⟩:=qbu.1 e;refine qz (H.idx rfl U) ?_;obtain⟨w9,z9,e⟩:=qbu.1 e;refine qbh H rfl U z9 λH9 v9 u9=>?_;have X:=n1.upda y u9;have Y:=Z.upda A u9;cases e;exact F (g0.updr C u9) X Y v9 C y A
theorem kbj9{s:ke4}{r:kdg}(A:Iter klj s r):kis r s:=qbg (λs o e y=>by
 cases s with
 | fn x1 x2=>exact @kbbu _ _ x1 x2 e y
 | p3 x1 x2 x3 a4=>exact @kbho _ _ x1 x2 x3 a4 e y
 | p7 x1 x2 x3 a4 a5 a6=>exact @kbe4 _ _ x1 x2 x3 a4 a5 a6 e y
 ) A
end Go.Ab
set_option maxRecDepth 10000
namespace Go.Ab
open Go.Proofs Go.Num
theorem tmodD(n:Nat):Int.tmod (n:Int) 65536=((n%65536:Nat):Int):=rfl
theorem tdivD(n:Nat):Int.tdiv (n:Int) 65536=((n/65536:Nat):Int):=rfl
theorem kct{n:Nat}(h:n<18446744073709551616):IntKind.wrap .u64 (n:Int)=(n:Int):=by
 rw[wrapU];omega
theorem kw4{xs ys:List Nat}{r:kdg}{i T:Nat}(Q:∀x∈xs,x<D)(U:∀y∈ys,y<D)(hn:xs.length+ys.length<=8796093022208)(hi:i<xs.length)
  (K:∀o:List Nat,o.length=xs.length+ys.length->(∀y∈o,y<D)->Empty o (i+1+ys.length)->num D o=T+D^i*(xs[i]*num D ys)->Iter klj (.p3 xs ys o ((i+1:Nat):Int)) r) :
  ∀(d k:Nat),k+d=ys.length->∀(o:List Nat)(c:Nat),o.length=xs.length+ys.length->(∀y∈o,y<D)->Empty o (i+ys.length)->c<D->Row D o i k c xs[i] ys T->
   Iter klj (.p7 xs ys o (i:Int) (c:Int) (k:Int)) r
 | 0,k,I,o,c,lo,to,zo,F,row=>by
  have I:k=ys.length:=by omega
  subst I;have A:i+ys.length<o.length:=by omega
  have C:c<65536:=F;refine .next ?_ (K (o.set (i+ys.length) c) (by simpa using lo) (set_lt to F) ?_ ?_)
  ·show kil _ _ _ _ _ _=_;unfold kil;rw[condF (by rw[qbv];omega),<- Int.natCast_add,kgj (by omega),kbi A,qbt,kbr (by omega),qbt,kj (by omega)]
  ·rw[show i+1+ys.length=i+ys.length+1 from by omega];intro j h1 h2;rw[List.getElem_set_ne (by omega)];exact zo j (by simpa using h1) (by omega)
  ·exact row.stop A (zo _ A (qbp _))
 | d+1,k,I,o,c,lo,to,zo,F,row=>by
  have H:k<ys.length:=by omega
  have A:i+k<o.length:=by omega
  have V:=Q xs[i] (qb2 _);have X:=U ys[k] (qb2 _);have Y:=to o[i+k] (qb2 _);have C:=kwe V X Y F;have hl:=Nat.mod_lt (xs[i]*ys[k]+o[i+k]+c) (show 0<65536 by omega);refine .next ?_ (kw4 Q U hn hi K d (k+1) (by omega) (o.set (i+k) ((xs[i]*ys[k]+o[i+k]+c)%65536)) ((xs[i]*ys[k]+o[i+k]+c)/65536) (by simpa using lo) (set_lt to hl) (zo.set (by omega)) C (row.step H A (Nat.div_add_mod' _ _).symm))
  ·show kil _ _ _ _ _ _=_;unfold kil;have hp:xs[i]*ys[k]<=65535*65535:=Nat.mul_le_mul (by have:xs[i]<65536:=V;omega) (by have:ys[k]<65536:=X;omega);have aa:o[i+k]<65536:=Y;have Z:c<65536:=F
   have e1:IntKind.wrap .u64 (IntKind.wrap .u64 (((List.getD o (i+k) 0:Nat):Int)+IntKind.wrap .u64 ((xs[i]:Int)*(ys[k]:Int)))+(c:Int))=((xs[i]*ys[k]+o[i+k]+c:Nat):Int):=by
    rw[show List.getD o (i+k) 0=o[i+k]from kbx A,<- Int.natCast_mul];generalize xs[i]*ys[k]=t at *
    generalize o[i+k]=w at *
    rw[kct (n:=t) (by omega),<- Int.natCast_add,kct (by omega),<- Int.natCast_add,kct (by omega)];omega
   rw[condT (by rw[qbw];omega),<- Int.natCast_add,kgj (by omega),kbi A,qbt,kco hi,qbt,kco H,qbt,qbt,e1,tmodD,tdivD,kbr (by omega),qbt,kj (by omega),kct];have:(xs[i]*ys[k]+o[i+k]+c)/65536<65536:=C;omega
theorem kvu{xs ys:List Nat}(C:∀x∈xs,x<D)(F:∀y∈ys,y<D)(H:xs.length+ys.length<=8796093022208) :
  ∀(d i:Nat),i+d=xs.length->∀(o:List Nat),o.length=xs.length+ys.length->(∀y∈o,y<D)->Empty o (i+ys.length)->num D o=num D (xs.take i)*num D ys->
   Iter klj (.p3 xs ys o (i:Int)) (digs D (num D xs*num D ys))
 | 0,i,hi,o,lo,to,zo,e=>by
  have hi:i=xs.length:=by omega
  subst hi;rw[List.take_length]at e;refine .done ?_;show khn _ _ _ _=_;unfold khn;rw[condF (by rw[qbv];omega),kq to,qbt,e]
 | d+1,i,hi,o,lo,to,zo,e=>by
  have A:i<xs.length:=by omega
  refine .next (s':=.p7 xs ys o (i:Int) ((0:Nat):Int) ((0:Nat):Int)) ?_
   (kw4 (T:=num D (xs.take i)*num D ys) C F H A (λI K t' Q U=>?_) ys.length 0 (by omega) o 0 lo to zo (show 0<65536 by omega) (Row.start e))
  ·show khn _ _ _ _=_;unfold khn;rw[condT (by rw[qbw];omega)];rfl
  ·refine kvu C F H d (i+1) (by omega) I K t' Q ?_;rw[U,k07 A rfl]
theorem kbae{xs ys:List Nat}(C:∀x∈xs,x<D)(F:∀y∈ys,y<D)(A:xs.length+ys.length<=8796093022208):Iter klj (.fn xs ys) (digs D (num D xs*num D ys)):=by
 have z:∀k,Empty (List.replicate (xs.length+ys.length) 0) k:=λk j I _=>by simp
 refine .next (s':=.p3 xs ys (List.replicate (xs.length+ys.length) 0) ((0:Nat):Int)) ?_ (kvu C F A xs.length 0 (by omega) _ (by simp) ?_ (z _) ?_)
 ·show kmt _ _=_;unfold kmt;rw[<- Int.natCast_add,kgj (by omega),kf5 A,qbt];rfl
 ·intro y H;rw[List.eq_of_mem_replicate H];exact show 0<65536 by omega
 ·have:=knu D [] (xs.length+ys.length)
  simpa[num]using this
theorem kvg{h:AH}{s t:Sl}{xs ys:List Nat}(n:Nats h s xs)(m:Nats h t ys)(A:∀x∈xs,x<D)(C:∀y∈ys,y<D)(F:xs.length+ys.length<=8796093022208):∃(s':Sl)(h':AH),go (.fn kc8 [s.v,t.v]) h=some (s'.v,h')/\Nats h' s' (digs D (num D xs*num D ys))/\Grow h h'/\Own h s':=by
 obtain⟨_,h',e,s',rfl,H,g,o⟩:=kbj9 (kbae A C F) n m;exact⟨s',h',e,H,g,o⟩
end Go.Ab
set_option maxRecDepth 10000
namespace Go.Ab
open IntKind (wrap)
open Go.Proofs Go.Num
inductive kgt
 | fn (x1:List Nat) (x2:List Nat) (a3:Int)
 | p2 (x1:List Nat) (x2:List Nat) (a3:Int) (a4:Int) (a5:Int)
abbrev ke0:=List Nat
noncomputable def krp(x1 x2:List Nat)(a3:Int):Option (kgt⊕ke0) :=
 some (.inl (.p2 x1 x2 a3 0 a3))
noncomputable def kgb(x1 x2:List Nat)(a3 a4 a5:Int):Option (kgt⊕ke0) :=
 cond (decide (a5<(List.length x1:Int))) (cond (decide ((wrap .i64 (a5-a3))<(List.length x2:Int))) (cond (decide ((wrap .i64 (a5-a3))<(List.length x2:Int))) ((atI x2 (wrap .i64 (a5-a3))).bind λX=>(inI (List.length x1) a5).bind λA=>(add64P (((List.getD x1 A 0:Nat):Int)) ((X:Int)) a4).bind λy=>(inI (List.length x1) a5).bind λC=>(u64P (y.1)).bind λF=>some (.inl (.p2 (List.set x1 C F) x2 a3 (y.2) (wrap .i64 (a5+1))))) ((inI (List.length x1) a5).bind λY=>(add64P (((List.getD x1 Y 0:Nat):Int)) 0 a4).bind λp10=>(inI (List.length x1) a5).bind λH=>(u64P (p10.1)).bind λK=>some (.inl (.p2 (List.set x1 H K) x2 a3 (p10.2) (wrap .i64 (a5+1)))))) (cond (decide (a4>0)) (cond (decide ((wrap .i64 (a5-a3))<(List.length x2:Int))) ((atI x2 (wrap .i64 (a5-a3))).bind λQ=>(inI (List.length x1) a5).bind λH=>(add64P (((List.getD x1 H 0:Nat):Int)) ((Q:Int)) a4).bind λI=>(inI (List.length x1) a5).bind λU=>(u64P (I.1)).bind λV=>some (.inl (.p2 (List.set x1 U V) x2 a3 (I.2) (wrap .i64 (a5+1))))) ((inI (List.length x1) a5).bind λA=>(add64P (((List.getD x1 A 0:Nat):Int)) 0 a4).bind λy=>(inI (List.length x1) a5).bind λC=>(u64P (y.1)).bind λF=>some (.inl (.p2 (List.set x1 C F) x2 a3 (y.2) (wrap .i64 (a5+1)))))) (some (.inr x1)))) (some (.inr x1))
noncomputable def kst:kgt->Option (kgt⊕ke0)
 | .fn x1 x2 a3=>krp x1 x2 a3
 | .p2 x1 x2 a3 a4 a5=>kgb x1 x2 a3 a4 a5
@[reducible] def kyj(h0:AH)(a:Sl)(i:Nat)(r:ke0)(v:AV)(h':AH):Prop:=v=.tup []/\Vec h' a i r/\Upd h0 h' i
def knf(r:ke0):kgt->Prop
 | .fn x1 x2 a3=>∀{h:AH}{a1:Sl}{a2:Sl}{y:Nat},Vec h a1 y x1->Nats h a2 x2->Av a2 y x2->Runs (go (.fn kd3 [a1.v,a2.v,.i a3]) h) (kyj h a1 y r)
 | .p2 x1 x2 a3 a4 a5=>∀{h0 h:AH}{a1:Sl}{a2:Sl}{y:Nat},Upd h0 h y->Vec h a1 y x1->Nats h a2 x2->Av a2 y x2->Runs (go (.pt kd3 kiq [(0,a1.v),(1,a2.v),(2,.i a3),(6,.int .u64 a4),(7,.i a5)]) h) (kyj h0 a1 y r)
theorem k9y{r:ke0}{o:kgt⊕ke0}{x1 x2:List Nat}{a3:Int}(e:krp x1 x2 a3=some o)(A:GoodS (knf r) r o):knf r (.fn x1 x2 a3):=by
 intro h a1 a2 H C F y;rw[k9u];unfold krp at e;cases e;exact A ((ql _).toUpd _) C F y
theorem k8o{r:ke0}{o:kgt⊕ke0}{x1 x2:List Nat}{a3 a4 a5:Int}(e:kgb x1 x2 a3 a4 a5=some o)(A:GoodS (knf r) r o):knf r (.p2 x1 x2 a3 a4 a5):=by
 intro h0 h a1 a2 i1 g0 C U y;rw[kbcs];unfold kgb at e;rw[C.nats.len];rw[U.len];refine qbd (λk6=>?_) (λk6=>?_)
 ·replace e:=(condT k6).symm.trans e;refine qbd (λk7=>?_) (λk7=>?_)
  ·replace e:=(condT k7).symm.trans e;refine qbd (λV=>?_) (λV=>?_)
   ·replace e:=(condT V).symm.trans e;obtain⟨y9,q9,e⟩:=qbu.1 e;obtain⟨r9,j9,l9⟩:=U.atI q9;refine qz j9 (qz (rdc l9 qcn) ?_);obtain⟨X,F,e⟩:=qbu.1 e;refine qz (C.idx rfl F) (qz (C.rd rfl F qcn) ?_);obtain⟨ag,H,e⟩:=qbu.1 e;refine qz (ki9 H) (qz rfl (qz (seen qcn) (qz (seen qcn) ?_)));obtain⟨ah,I,e⟩:=qbu.1 e;refine qz (C.idx rfl I) ?_;obtain⟨ai,Y,e⟩:=qbu.1 e;refine qbh C rfl I Y λaj Z Q=>?_;have K:=U.upda y Q;cases e;exact A (g0.trans Q) Z K y
   ·replace e:=(condF V).symm.trans e;obtain⟨j9,q9,e⟩:=qbu.1 e;refine qz (C.idx rfl q9) (qz (C.rd rfl q9 qcn) ?_);obtain⟨p10,F,e⟩:=qbu.1 e;refine qz (ki9 F) (qz rfl (qz (seen qcn) (qz (seen qcn) ?_)));obtain⟨ak,H,e⟩:=qbu.1 e;refine qz (C.idx rfl H) ?_;obtain⟨ar,al,e⟩:=qbu.1 e;refine qbh C rfl H al λau am ad=>?_;have aa:=U.upda y ad;cases e;exact A (g0.trans ad) am aa y
  ·replace e:=(condF k7).symm.trans e;refine qbd (λV=>?_) (λV=>?_)
   ·replace e:=(condT V).symm.trans e;refine qbd (λk9=>?_) (λk9=>?_)
    ·replace e:=(condT k9).symm.trans e;obtain⟨aw,F,e⟩:=qbu.1 e;obtain⟨ax,X,an⟩:=U.atI F;refine qz X (qz (rdc an qcn) ?_);obtain⟨ak,H,e⟩:=qbu.1 e;refine qz (C.idx rfl H) (qz (C.rd rfl H qcn) ?_);obtain⟨ay,I,e⟩:=qbu.1 e;refine qz (ki9 I) (qz rfl (qz (seen qcn) (qz (seen qcn) ?_)));obtain⟨az,ae,e⟩:=qbu.1 e;refine qz (C.idx rfl ae) ?_;obtain⟨a0,ap,e⟩:=qbu.1 e;refine qbh C rfl ae ap λba aq af=>?_;have ac:=U.upda y af;cases e;exact A (g0.trans af) aq ac y
    ·replace e:=(condF k9).symm.trans e;obtain⟨X,F,e⟩:=qbu.1 e;refine qz (C.idx rfl F) (qz (C.rd rfl F qcn) ?_);obtain⟨ag,H,e⟩:=qbu.1 e;refine qz (ki9 H) (qz rfl (qz (seen qcn) (qz (seen qcn) ?_)));obtain⟨ah,I,e⟩:=qbu.1 e;refine qz (C.idx rfl I) ?_;obtain⟨ai,Y,e⟩:=qbu.1 e;refine qbh C rfl I Y λaj Z Q=>?_;have K:=U.upda y Q;cases e;exact A (g0.trans Q) Z K y
   ·replace e:=(condF V).symm.trans e;cases e;cases A;exact qy ⟨rfl,C,g0⟩
 ·replace e:=(condF k6).symm.trans e;cases e;cases A;exact qy ⟨rfl,C,g0⟩
theorem kbg4{s:kgt}{r:ke0}(A:Iter kst s r):knf r s:=qbg (λs o e y=>by
 cases s with
 | fn x1 x2 a3=>exact @k9y _ _ x1 x2 a3 e y
 | p2 x1 x2 a3 a4 a5=>exact @k8o _ _ x1 x2 a3 a4 a5 e y
 ) A
end Go.Ab
set_option maxRecDepth 10000
namespace Go.Ab
open Go.Proofs Go.Num
theorem kem{xs:List Nat}{i:Nat}(h:i<xs.length):List.getD xs i 0=xs[i]:=kbx h
theorem kbj0{o xs:List Nat}{at' i c:Nat}(I:o.length<=4611686018427387904)(K:xs.length<=4611686018427387904)(h1:i<o.length)(Q:at'<=i)(A:c<=1)(U:i-at'<xs.length\/0<c) :
  kst (.p2 o xs (at':Int) (c:Int) (i:Int))=some (.inl (.p2 (o.set i ((xs.getD (i-at') 0+o[i]+c)%18446744073709551616)) xs (at':Int) (((xs.getD (i-at') 0+o[i]+c)/18446744073709551616:Nat):Int) ((i+1:Nat):Int))):=by
 show kgb _ _ _ _ _=_;unfold kgb;have F:IntKind.wrap .i64 ((i:Int)-(at':Int))=((i-at':Nat):Int):=by rw[wrap64 (by omega) (by omega)];omega
 have C:∀n:Nat,n%18446744073709551616<18446744073709551616:=λn=>Nat.mod_lt n (by omega);rw[condT (by rw[qbw];omega),F];by_cases y:i-at'<xs.length
 ·have a1:=kqm o[i] xs[i-at'] A;rw[condT (by rw[qbw];omega),condT (by rw[qbw];omega),kco y,qbt,kbi h1,qbt,kem h1,a1,qbt,qbt];dsimp only;rw[kbr (C _),qbt,kj (by omega),kem y,Nat.add_comm o[i]]
 ·have H:0<c:=by omega
  have a1:=kqm o[i] 0 A;rw[show((0:Nat):Int)=0 from rfl]at a1;rw[condF (by rw[qbv];omega),condT (by rw[qbw];omega),condF (by rw[qbv];omega),kbi h1,qbt,kem h1,a1,qbt,qbt];dsimp only;rw[kbr (C _),qbt,kj (by omega),show xs.getD (i-at') 0=0 from by simp[List.getD,List.getElem?_eq_none (Nat.le_of_not_lt y)]];rw[Nat.add_comm o[i]]
theorem k0x{xs:List Nat}{at' T:Nat}(I:∀x∈xs,x<B)(K:xs.length<=4611686018427387904) :
  ∀(d i:Nat)(o:List Nat)(c:Nat),i+d=o.length->at'<=i->o.length<=4611686018427387904->(∀y∈o,y<B)->c<=1->num B o+c*B^i=T+B^at'*num B (xs.take (i-at'))->T+B^at'*num B xs<B^o.length->
   ∃r,Iter kst (.p2 o xs (at':Int) (c:Int) (i:Int)) r/\r.length=o.length/\(∀y∈r,y<B)/\num B r=T+B^at'*num B xs
 | 0,i,o,c,hi,C,H,to,Q,inv,bound=>by
  have hi:i=o.length:=by omega
  subst hi
  have F:num B xs=num B (xs.take (o.length-at'))+B^(xs.take (o.length-at')).length*num B (xs.drop (o.length-at')):=by
   rw[<- kde,List.take_append_drop]
  have A:c=0:=by
   rcases Nat.eq_zero_or_pos c with e | e
   ·exact e
   ·have:c=1:=by omega
    subst this;have:B^at'*num B (xs.take (o.length-at'))<=B^at'*num B xs:=Nat.mul_le_mul_left _ (by omega);omega
  subst A
  have V:num B (xs.take (o.length-at'))=num B xs:=by
   by_cases X:xs.length<=o.length-at'
   ·rw[List.take_of_length_le X]
   ·rw[qce,Nat.min_eq_left (by omega)]at F;rw[F];rcases Nat.eq_zero_or_pos (num B (xs.drop (o.length-at')))with e | e
    ·rw[e];omega
    ·exfalso
     have h1:B^(o.length-at')<=num B xs:=by
      have:B^(o.length-at')*1<=B^(o.length-at')*num B (xs.drop (o.length-at')):=Nat.mul_le_mul_left _ e;omega
     have Y:B^at'*B^(o.length-at')<=B^at'*num B xs:=Nat.mul_le_mul_left _ h1;rw[<- Nat.pow_add,show at'+(o.length-at')=o.length from by omega]at Y;omega
  refine⟨o,.done ?_,rfl,to,?_⟩
  ·show kgb _ _ _ _ _=_;unfold kgb;rw[condF (by rw[qbv];omega)]
  ·rw[<- V];omega
 | d+1,i,o,c,hi,C,H,to,Q,inv,bound=>by
  have h1:i<o.length:=by omega
  by_cases Z:i-at'<xs.length\/0<c
  ·have hm:=Nat.mod_lt (xs.getD (i-at') 0+o[i]+c) (show 0<18446744073709551616 by omega)
   have hy:xs.getD (i-at') 0<18446744073709551616:=by
    by_cases U:i-at'<xs.length
    ·rw[kem U];exact I _ (qb2 _)
    ·rw[show xs.getD (i-at') 0=0 from by simp[List.getD,List.getElem?_eq_none (Nat.le_of_not_lt U)]];omega
   have aa:o[i]<18446744073709551616:=to _ (qb2 _)
   obtain⟨r,it,r1,r2,r3⟩:=k0x (T:=T) (at':=at') I K d (i+1) (o.set i ((xs.getD (i-at') 0+o[i]+c)%18446744073709551616)) ((xs.getD (i-at') 0+o[i]+c)/18446744073709551616) (by simp;omega) (by omega) (by simpa using H) (set_lt to hm) (by omega) (by
    have k1:=kk0 (b:=B) h1 ((xs.getD (i-at') 0+o[i]+c)%18446744073709551616);have k2:=k0z k1 (Nat.div_add_mod' (xs.getD (i-at') 0+o[i]+c) 18446744073709551616).symm inv;rw[Nat.pow_succ,k2,show i+1-at'=i-at'+1 from by omega,kgf,Nat.mul_add,<- Nat.mul_assoc,<- Nat.pow_add,show at'+(i-at')=i from by omega];omega) (by simpa using bound)
   exact⟨r,.next (kbj0 H K h1 C Q Z) it,by simpa using r1,r2,r3⟩
  ·have A:c=0:=by omega
   subst A;rw[List.take_of_length_le (by omega)]at inv;refine⟨o,.done ?_,rfl,to,by omega⟩;show kgb _ _ _ _ _=_;unfold kgb;have e0:IntKind.wrap .i64 ((i:Int)-(at':Int))=((i-at':Nat):Int):=by rw[wrap64 (by omega) (by omega)];omega
   rw[condT (by rw[qbw];omega),e0,condF (by rw[qbv];omega),condF (by rw[qbv];omega)]
theorem k2l{h:AH}{s t:Sl}{i:Nat}{o xs:List Nat}(v:Vec h s i o)(m:Nats h t xs)(av:Av t i xs){at':Nat}(y:at'<=o.length)(A:o.length<=4611686018427387904)(C:xs.length<=4611686018427387904)(bound:num B o+B^at'*num B xs<B^o.length) :
  ∃(h':AH)(r:List Nat),go (.fn kd3 [s.v,t.v,.i (at':Int)]) h=some (.tup [],h')/\Vec h' s i r/\Upd h h' i/\r.length=o.length/\num B r=num B o+B^at'*num B xs:=by
 obtain⟨r,F,r1,r2,H⟩:=k0x (T:=num B o) (at':=at') m.lt C (o.length-at') at' o 0 (by omega) (qbp _) A v.lt (by omega) (by simp[num]) bound;obtain⟨_,h',e,rfl,v',u⟩:=kbg4 (.next (s:=.fn o xs (at':Int)) rfl F) v m av;exact⟨h',r,e,v',u,r1,H⟩
@[reducible] def ks1(p:Ref):AV:=.func (.func kmm) [] [.ptr (some p)]
theorem kot(p:Ref)(x y:AV)(h:AH):callV Pg go (ks1 p) [x,y] h=go (.fn kmm [x,y,.ptr (some p)]) h:=by kernel_rfl
theorem Grow.same_cell{h h':AH}(g:Grow h h'){p:Ref}{v:AV}(c:h.cell p=some v):SameAt h h' p 1:=⟨λj y=>by
 have:j=0:=by omega
 subst this;rw[Ref.add_zero,c,g.cell_some c],λh=>by cases h⟩
theorem kbec{h:AH}{s d:Sl}{i:Nat}{xs ys:List Nat}(n:Nats h s xs)(v:Vec h d i ys)(F:xs.length<=ys.length):∃h',copyH s d 1 h=some h'/\Vec h' d i (xs++ys.drop xs.length)/\Upd h h' i:=by
 have H:d.ref=some (.new i 0):=by rw[v.is]
 have y:d.len=ys.length:=v.len;have A:=n.cells.gets;unfold copyH;rw[H];cases C:s.ref with
 | none =>
  have:xs=[]:=by
   cases xs with
   | nil=>rfl
   | cons x xs =>
    obtain⟨r,e,_⟩:=n.cells.get 0 _ rfl;rw[C]at e;cases e
  subst this;exact⟨h,rfl,by simpa using v,(ql h).toUpd i⟩
 | some r =>
  rw[C,n.len]at A;simp only[AH.getsO]at A;dsimp only;rw[n.len,y,Nat.min_eq_left F,A,qbt];obtain⟨e,b⟩:=v.has;rw[b.puts (by simp;omega)]
  have I:(ys.map u64).take 0++xs.map u64++(ys.map u64).drop (0+(xs.map u64).length)=(xs++ys.drop xs.length).map u64:=by
   simp[List.map_drop]
  rw[I];refine⟨_,rfl,⟨?_,⟨e,qp b _ _⟩,?_,?_⟩,AH.upd_Upd h i _ e⟩
  ·have:(xs++ys.drop xs.length).length=ys.length:=by simp;omega
   rw[this];exact v.is
  ·intro z K;rcases qb4.1 K with h1 | h1
   ·exact n.lt z h1
   ·exact v.lt z (List.mem_of_mem_drop h1)
  ·have:=v.short;simp;omega
theorem kpt{h:AH}{s:Sl}{xs:List Nat}{p:Ref}{k:Nat}(n:Nats h s xs)(c:h.cell p=some (.i (k:Int))):∃s',go (.fn kjq [s.v,.ptr (some p)]) h=some (s'.v,h)/\Nats h s' (digs B (num B (xs.take (min k xs.length)))):=by
 rw[kba2,c,qbt,kb,qbt,kj5,n.len];obtain⟨s1,y,n1,_⟩:=n.cut (l:=0) (n:=min k xs.length) (by omega) (by omega);rw[show min (k:Int) (xs.length:Int)=((min k xs.length:Nat):Int)from by omega,show(0:Int)=((0:Nat):Int)from rfl,y,qbt];obtain⟨s2,A,C,_⟩:=kec n1;rw[A,qbt,qbt,asSl_v,qbt];exact⟨s2,rfl,by simpa using C⟩
theorem kqp{h:AH}{s:Sl}{xs:List Nat}{p:Ref}{k:Nat}(n:Nats h s xs)(c:h.cell p=some (.i (k:Int))):∃s',go (.fn kjo [s.v,.ptr (some p)]) h=some (s'.v,h)/\Nats h s' (xs.drop (min k xs.length)):=by
 rw[kbii,c,qbt,kb,qbt,kj5,n.len];obtain⟨s1,y,n1,_⟩:=n.cut (l:=min k xs.length) (n:=xs.length) (by omega) (by omega);rw[show min (k:Int) (xs.length:Int)=((min k xs.length:Nat):Int)from by omega,y,qbt];refine⟨s1,rfl,?_⟩;rwa[List.take_of_length_le (by simp)]at n1
end Go.Ab
set_option maxRecDepth 10000
namespace Go.Ab
open IntKind (wrap)
open Go.Proofs Go.Num
theorem B1:1<=B:=by decide
theorem k1w(b:Nat)(xs:List Nat)(n:Nat):num b xs=num b (xs.take (min n xs.length))+b^n*num b (xs.drop (min n xs.length)):=by
 have e:num b xs=num b (xs.take (min n xs.length)++xs.drop (min n xs.length)):=by rw[List.take_append_drop]
 rw[kde,qce]at e;by_cases h:n<=xs.length
 ·rw[e,show min (min n xs.length) xs.length=n from by omega]
 ·have:xs.drop (min n xs.length)=[]:=List.drop_of_length_le (by omega);rw[this]at e|-
  simpa[num]using e
theorem kon{a c:Nat}(h:a<=c):(digs B a).length<=(digs B c).length:=by
 rw[kbj B2];exact qbs h ((kbj B2 c _).1 (qbp _))
theorem km0{xs:List Nat}(h:∀x∈xs,x<B):(digs B (num B xs)).length<=xs.length:=by
 rw[kbj B2];exact num_lt B1 h
theorem kbf5(P C y bl A:Nat):(C+P*y)*(bl+P*A)=C*bl+P*((C+y)*(bl+A)-C*bl-y*A)+P*P*(y*A):=by
 have e:(C+y)*(bl+A)-C*bl-y*A=C*A+y*bl:=by
  rw[Nat.add_mul,Nat.mul_add,Nat.mul_add];omega
 rw[e,Nat.add_mul,Nat.mul_add,Nat.mul_add,Nat.mul_add];have F:C*(P*A)=P*(C*A):=Nat.mul_left_comm _ _ _;have H:P*y*bl=P*(y*bl):=Nat.mul_assoc _ _ _;have I:P*y*(P*A)=P*P*(y*A):=Nat.mul_mul_mul_comm _ _ _ _;rw[F,H,I];omega
set_option maxHeartbeats 2000000 in
theorem ko7:∀(N:Nat){h:AH}{s t:Sl}{xs ys:List Nat}{p:Ref},xs.length+ys.length<N->N<=268435456->Nats h s xs->Nats h t ys->h.cell p=some (ks1 p)->
  Runs (go (.fn kmm [s.v,t.v,.ptr (some p)]) h) λv h'=>∃s':Sl,v=s'.v/\Nats h' s' (digs B (num B xs*num B ys))/\Grow h h'/\Own h s'
 | 0,_,_,_,_,_,_,hN,_,_,_,_=>by omega
 | N+1,h,s,t,xs,ys,p,hN,hM,ns,nt,c=>by
  rw[kbeu,ns.len,nt.len];refine qbd (λk1=>?_) (λk1=>?_)
  ·obtain⟨s4,h4,e4,n4,g4,o4⟩:=kr7 ns nt (by omega);refine qz e4 (qz (seen qcm) ?_);exact qy ⟨s4,rfl,n4,g4,o4⟩
  refine qbd (λk2=>?_) (λk2=>?_)
  ·obtain⟨s4,h4,e4,n4,g4,o4⟩:=kr7 ns nt (by omega);refine qz e4 (qz (seen qcm) ?_);exact qy ⟨s4,rfl,n4,g4,o4⟩
  rw[qbv]at k1 k2;obtain⟨n,hn⟩:∃n,n=(max xs.length ys.length+1)/2:=⟨_,rfl⟩
  have hw:wrap .i64 (Int.tdiv (wrap .i64 ((imax (xs.length:Int) (ys.length:Int))+1)) 2)=(n:Int):=by
   rw[kij,show max (xs.length:Int) (ys.length:Int)=((max xs.length ys.length:Nat):Int)from by omega,kj (by omega)];show wrap .i64 (((max xs.length ys.length+1)/2:Nat):Int)=_;rw[<- hn,kgj (by omega)]
  rw[hw];have di:(xs.take (min n xs.length)).length=min n xs.length:=by simp
  have dj:(ys.take (min n ys.length)).length=min n ys.length:=by simp
  have bw:∀x∈xs.take (min n xs.length),x<B:=λx hx=>ns.lt x (List.mem_of_mem_take hx);have bx:∀x∈ys.take (min n ys.length),x<B:=λx hx=>nt.lt x (List.mem_of_mem_take hx);have bz:∀x∈xs.drop (min n xs.length),x<B:=λx hx=>ns.lt x (List.mem_of_mem_drop hx);have b0:∀x∈ys.drop (min n ys.length),x<B:=λx hx=>nt.lt x (List.mem_of_mem_drop hx);have dk:(xs.drop (min n xs.length)).length=xs.length-min n xs.length:=by simp
  have dl:(ys.drop (min n ys.length)).length=ys.length-min n ys.length:=by simp
  have da:=km0 bw;have db:=km0 bx;have dm:=km0 bz;have dn:=km0 b0;have ea:=k1w B xs n;have eb:=k1w B ys n;generalize ar:num B (xs.take (min n xs.length))=al at *
  generalize au:num B (xs.drop (min n xs.length))=ah at *
  generalize aw:num B (ys.take (min n ys.length))=bl at *
  generalize ax:num B (ys.drop (min n ys.length))=bh at *
  refine q0 λH8 b8 g8=>?_;refine qba b8 rfl λH9 b9 u9=>?_;have gA:=g8.updr (qbp _) u9;have Q:=gA.cell_some c;have k9:H9.cell (.new h.blks.size 0)=some (.i (n:Int)):=b9.cell 0;have U:=ns.grow gA;have V:=nt.grow gA;refine qz Q (qz Q ?_);obtain⟨dp,b1,ay⟩:=kpt U k9;obtain⟨dq,b2,az⟩:=kpt V k9;rw[ar]at ay;rw[aw]at az;refine qz b1 (qz (seen qcm) ?_);refine qbe ((ql _).same_cell Q) ?_;refine qbe ((ql _).same_cell Q) ?_;refine qz b2 (qz (seen qcm) ?_);refine qbe ((ql _).same_cell Q) ?_;refine qbe ((ql _).same_cell Q) ?_;obtain⟨_,dr,b3,dt,rfl,ad,y,du⟩:=ko7 N (by omega) (by omega) ay az Q;rw[ko B2,ko B2]at ad;refine qz ((kot p _ _ _).trans b3) (qz (seen qcm) ?_);refine qbe (y.same_cell Q) ?_;have X:=y.cell_some Q;have ae:=y.cell_some k9;obtain⟨dv,b4,b5⟩:=kqp (U.grow y) ae;obtain⟨dw,b6,b7⟩:=kqp (V.grow y) ae;refine qz b4 (qz (seen qcm) ?_);refine qbe ((ql _).same_cell X) ?_;refine qz b6 (qz (seen qcm) ?_);refine qbe ((ql _).same_cell X) ?_;obtain⟨_,dx,ca,dy,rfl,af,Y,dz⟩:=ko7 N (by omega) (by omega) b5 b7 X;rw[au,ax]at af;refine qz ((kot p _ _ _).trans ca) (qz (seen qcm) ?_);have F:=Y.cell_some X;have ag:=Y.cell_some ae;have gB:=y.trans Y;refine qz F ?_;obtain⟨d0,cb,a0⟩:=kpt (U.grow gB) ag;obtain⟨d1,cc,cd⟩:=kqp (U.grow gB) ag;rw[ar]at a0;refine qz cb (qz (seen qcm) ?_);refine qbe ((ql _).same_cell F) ?_;refine qz cc (qz (seen qcm) ?_);refine qbe ((ql _).same_cell F) ?_;obtain⟨d2,d3,zs,ce,cf,A,d4,ba,d5⟩:=krw a0 cd (by omega) (by omega);rw[ko B2,au]at ba;refine qz ce (qz (seen qcm) ?_);refine qbe (A.same_cell F) ?_;have H:=A.cell_some F;have ai:=A.cell_some ag;obtain⟨d6,cg,bb,_⟩:=kec cf;rw[ba]at bb;refine qz cg (qz (seen qcm) ?_);refine qbe ((ql _).same_cell H) ?_;obtain⟨d7,ci,bc⟩:=kpt (V.grow (gB.trans A)) ai;obtain⟨d8,cj,cl⟩:=kqp (V.grow (gB.trans A)) ai;rw[aw]at bc;refine qz ci (qz (seen qcm) ?_);refine qbe ((ql _).same_cell H) ?_;refine qz cj (qz (seen qcm) ?_);refine qbe ((ql _).same_cell H) ?_;obtain⟨d9,ec,ws,cm,cp,C,ed,bd,ee⟩:=krw bc cl (by omega) (by omega);rw[ko B2,ax]at bd;refine qz cm (qz (seen qcm) ?_);refine qbe (C.same_cell H) ?_;have be:=C.cell_some H;have ef:=C.cell_some ai;obtain⟨eg,cu,bf,_⟩:=kec cp;rw[bd]at bf;refine qz cu (qz (seen qcm) ?_);refine qbe ((ql _).same_cell be) ?_;have q1:=kve B2 al ah;have q2:=kve B2 bl bh;obtain⟨_,eh,cv,ei,rfl,bg,bi,ej⟩:=ko7 N (by omega) (by omega) (bb.grow C) bf be;rw[ko B2,ko B2]at bg;refine qz ((kot p _ _ _).trans cv) (qz (seen qcm) ?_)
  have mm:al*bl+ah*bh<=(al+ah)*(bl+bh):=by
   rw[Nat.add_mul,Nat.mul_add,Nat.mul_add];omega
  have gC:=Y.trans (A.trans (C.trans bi))
  have lm:(digs B ((al+ah)*(bl+bh))).length<=2*n+2:=by
   rw[kbj B2];have h1:=(kbj B2 (al+ah) (n+1)).1 (by omega);have h2:=(kbj B2 (bl+bh) (n+1)).1 (by omega);rw[show 2*n+2=(n+1)+(n+1)from by omega,Nat.pow_add];exact Nat.mul_lt_mul_of_lt_of_lt h1 h2
  obtain⟨ek,el,us,cw,cx,aj,em,bj,en⟩:=kpk bg (ad.grow gC) (by omega) (kon (by omega)) (by rw[ko B2,ko B2];omega);rw[ko B2,ko B2]at bj;refine qz cw (qz (seen qcm) ?_);obtain⟨eo,cy,bk,_⟩:=kec cx;rw[bj]at bk;refine qz cy (qz (seen qcm) ?_);have gD:=(A.trans (C.trans bi)).trans aj;have ep:=kon (a:=(al+ah)*(bl+bh)-al*bl) (c:=(al+ah)*(bl+bh)) (by omega);obtain⟨eq,ak,rs,cz,c0,am,er,bm,et⟩:=kpk bk (af.grow gD) (by omega) (kon (by omega)) (by rw[ko B2,ko B2];omega);rw[ko B2,ko B2]at bm;refine qz cz (qz (seen qcm) ?_);obtain⟨eu,c1,an,_⟩:=kec c0;rw[bm]at an;refine qz c1 (qz (seen qcm) ?_);have gE:Grow H9 ak:=(y.trans gC).trans (aj.trans am);have bn:=ad.grow ((gC.trans aj).trans am);have aa:=af.grow (gD.trans am);have bp:=gE.has b9
  rw[show wrap .i64 ((wrap .i64 ((xs.length:Int)+(ys.length:Int)))+1)=((xs.length+ys.length+1:Nat):Int)from by
   rw[<- Int.natCast_add,kgj (by omega),kj (by omega)]]
  refine Runs.mk (kf5 (by omega)) kei λev ew c2 I=>?_;have total:=kbf5 (B^n) al ah bl bh;rw[<- ea,<- eb]at total;generalize hm:(al+ah)*(bl+bh)-al*bl-ah*bh=m at *
  have lt:num B xs*num B ys<B^(xs.length+ys.length):=by
   rw[Nat.pow_add];exact Nat.mul_lt_mul_of_lt_of_lt (num_lt B1 ns.lt) (num_lt B1 nt.lt)
  have ex:num B xs*num B ys<B^(xs.length+ys.length+1):=qbr lt (Nat.pow_le_pow_right B1 (by omega))
  have lp:(digs B (al*bl)).length<=xs.length+ys.length:=by
   rw[kbj B2];omega
  obtain⟨ey,c3,c4,Z⟩:=kbec (bn.grow I) c2 (by simp;omega);refine qz c3 ?_;have c5:=bp.lt;have ne:h.blks.size≠ak.blks.size:=Nat.ne_of_lt c5;have bq:=qx (I.has bp) ne Z;refine qz (AH.has.rd0 bq rfl qcn) ?_;have ac:=qbi an (qbp _);have K:=qbi aa (qbp _)
  have w0:num B (digs B (al*bl)++(List.replicate (xs.length+ys.length+1) 0).drop (digs B (al*bl)).length)=al*bl:=by
   rw[List.drop_replicate,knu,ko B2]
  have br:(digs B (al*bl)++(List.replicate (xs.length+ys.length+1) 0).drop (digs B (al*bl)).length).length=xs.length+ys.length+1:=by
   simp;omega
  generalize digs B (al*bl)++(List.replicate (xs.length+ys.length+1) 0).drop (digs B (al*bl)).length=o0 at *
  have ez:=kon (a:=m) (c:=(al+ah)*(bl+bh)) (by omega);obtain⟨e0,o1,c6,c7,ap,c8,aq⟩:=k2l c4 ((an.grow I).upda ac Z) ac (at':=n) (by omega) (by omega) (by omega) (by rw[w0,ko B2,br];omega);refine qz c6 (qz rfl ?_);have dc:=qx bq ne ap;refine qz (AH.has.rd0 dc rfl qcn) ?_;rw[show wrap .i64 (2*(n:Int))=((2*n:Nat):Int)from by rw[wrap64 (by omega) (by omega)];omega];have pp:B^(2*n)=B^n*B^n:=by rw[<- Nat.pow_add];congr 1;omega
  have lq:(digs B (ah*bh)).length<=xs.length+ys.length:=by
   rw[kbj B2];have:1*(ah*bh)<=B^n*B^n*(ah*bh):=Nat.mul_le_mul_right _ (Nat.mul_pos (Nat.pow_pos B1) (Nat.pow_pos B1));omega
  rw[w0,ko B2]at aq;obtain⟨e1,o2,dd,bt,de,e2,bu⟩:=k2l c7 (((aa.grow I).upda K Z).upda K ap) K (at':=2*n) (by omega) (by omega) (by omega) (by rw[aq,ko B2,c8,br,pp];omega);rw[ko B2,aq,pp,<- total]at bu;refine qz dd (qz rfl ?_);obtain⟨df,dg,bv,dh⟩:=kec bt.nats;rw[bu]at bv;refine qz dg (qz (seen qcm) ?_);have gF:Grow h ak:=gA.trans gE;refine qy ⟨df,rfl,bv,(((gF.trans I).updr gF.size Z).updr gF.size ap).updr gF.size de,dh _ (bt.own gF.size)⟩
end Go.Ab
set_option maxRecDepth 10000
namespace Go.Ab
open Go.Proofs Go.Num
theorem k7c{h:AH}{s t:Sl}{xs ys:List Nat}(n:Nats h s xs)(m:Nats h t ys)(C:xs.length+ys.length<268435456):∃(s':Sl)(h':AH),go (.fn kok [s.v,t.v]) h=some (s'.v,h')/\Nats h' s' (digs B (num B xs*num B ys))/\Grow h h'/\Own h s':=by
 have key:Runs (go (.fn kok [s.v,t.v]) h) λv h'=>∃s':Sl,v=s'.v/\Nats h' s' (digs B (num B xs*num B ys))/\Grow h h'/\Own h s':=by
  rw[kbdj];refine q0 λY b3 F=>?_;refine qba b3 rfl λH b4 I=>?_;have y:=F.updr (qbp _) I;have A:H.cell (.new h.blks.size 0)=some (ks1 (.new h.blks.size 0)):=b4.cell 0;refine qz A ?_;obtain⟨_,Z,K,Q,rfl,U,V,X⟩:=ko7 268435456 C (qbp _) (n.grow y) (m.grow y) A;refine qz ((kot _ _ _ _).trans K) (qz (seen qcm) ?_);exact qy ⟨Q,rfl,U,y.trans V,X.of_le y⟩
 obtain⟨_,h',e,s',rfl,k⟩:=key;exact⟨s',h',e,k⟩
def mulN(xs ys:List Nat):List Nat×Int:=if rt xs=true/\rt ys=true then told (num B xs*num B ys)else([],1)
theorem k0p{h:AH}{s t:Sl}{xs ys:List Nat}(n:Nats h s xs)(m:Nats h t ys):∃(s':Sl)(h':AH),go (.fn kpy [s.v,t.v]) h=some (.tup [s'.v,.i (mulN xs ys).2],h')/\Nats h' s' (mulN xs ys).1/\Grow h h'/\Own h s':=by
 rw[kbh4];simp only[kbv];have r:=Rows.two n m;have g:=qm h (.cells [s.v,t.v] kcz);generalize h.push (.cells [s.v,t.v] kcz)=h0 at *
 rw[kme r];simp only[qbt,kbl,List.all_cons,List.all_nil,Bool.and_true];cases y:rt xs with
 | false=>exact⟨⟨none,0,.is 0⟩,h0,by simp[mulN,y],by simpa[mulN,y]using qw h0,g,qu h⟩
 | true =>
  cases A:rt ys with
  | false=>exact⟨⟨none,0,.is 0⟩,h0,by simp[mulN,y,A],by simpa[mulN,y,A]using qw h0,g,qu h⟩
  | true =>
   simp only[Bool.and_self,Bool.not_true,cond_false];have U:=(rt_iff.1 y).1;have V:=(rt_iff.1 A).1;rw[show mulN xs ys=told (num B xs*num B ys)from by simp[mulN,y,A]];obtain⟨s1,h1,H,n1,I,K⟩:=k7c (n.grow g) (m.grow g) (by omega);obtain⟨s2,C,F,Q⟩:=kuj n1;rw[ko B2]at C F;refine⟨s2,h1,?_,F,g.trans I,Q _ (K.of_le g)⟩;simp only[H,C,qbt,asSl_v,kc0,kb]
theorem ky8{h:AH}{s t:Sl}{xs ys:List Nat}(n:Nats h s xs)(m:Nats h t ys):∃(s':Sl)(h':AH),go (.fn kn2 [s.v,t.v]) h=some (.tup [s'.v,.i (mulN xs ys).2],h')/\Nats h' s' (mulN xs ys).1/\Grow h h'/\Own h s':=by
 rw[kbay,kcl n,qbt,qbt,kbl,qbt,kcl m,qbt,qbt,kbl,qbt];cases y:rt xs with
 | false=>exact⟨⟨none,0,.is 0⟩,h,by simp[mulN,y],by simpa[mulN,y]using qw h,ql h,qu h⟩
 | true =>
  cases A:rt ys with
  | false=>exact⟨⟨none,0,.is 0⟩,h,by simp[mulN,y,A],by simpa[mulN,y,A]using qw h,ql h,qu h⟩
  | true =>
   simp only[Bool.not_true,cond_false];have V:=(rt_iff.1 y).1;have X:=(rt_iff.1 A).1;rw[show mulN xs ys=told (num B xs*num B ys)from by simp[mulN,y,A]];obtain⟨d1,h1,Y,n1,C,o1⟩:=kfa n (by omega);obtain⟨d2,H,Z,n2,F,o2⟩:=kfa (m.grow C) (by omega);have k1:=kgo n.lt V;have k2:=kgo m.lt X;obtain⟨d3,h3,e3,I,K,o3⟩:=kvg (n1.grow F) n2 (kbu D2 _) (kbu D2 _) (by omega);rw[ko D2,ko D2]at I
   have k3:(digs D (num B xs*num B ys)).length<=536870912:=by
    have h1:=(kbj D2 (num B xs) _).1 (qbp _);have H:=(kbj D2 (num B ys) _).1 (qbp _)
    have:(digs D (num B xs*num B ys)).length<=(digs D (num B xs)).length+(digs D (num B ys)).length:=by
     rw[kbj D2,Nat.pow_add];exact Nat.mul_lt_mul_of_lt_of_lt h1 H
    omega
   obtain⟨d4,h4,Q,U,g4,o4⟩:=kr1 I (kbu D2 _) (kcq D2 _) k3;rw[ko D2]at Q U;refine⟨d4,h4,?_,U,C.trans (F.trans (K.trans g4)),o4.of_le (C.trans (F.trans K))⟩;simp only[Y,Z,e3,Q,qbt,asSl_v,kc0,kb]
def kw(a1:Bool)(x2:List Nat)(a3:Bool)(x4:List Nat):Bool×List Nat×Int :=
 cond (!((rtI a1 x2&&rtI a3 x4))) ((false,[],1)) (((((fromI (!(a1==a3)) ((mulN x2 x4).1)).1)),(fromI (!(a1==a3)) ((mulN x2 x4).1)).2,((mulN x2 x4).2)))
theorem ks7{h:AH}{a2:Sl}{x2:List Nat}{a4:Sl}{x4:List Nat}(n2:Nats h a2 x2)(n4:Nats h a4 x4)(a1 a3:Bool):Runs (go (.fn kl3 [.agg [.bool a1,a2.v],.agg [.bool a3,a4.v]]) h) λv h'=>∃s1:Sl,v=.tup [.agg [.bool (kw a1 x2 a3 x4).1,s1.v],.i (kw a1 x2 a3 x4).2.2]/\Nats h' s1 ((kw a1 x2 a3 x4).2.1)/\Grow h h'/\Own h s1:=by
 rw[kbe3];refine q0 λH5 b5 I=>?_;refine q0 λH6 b6 H=>?_;refine q0 λH7 X y=>?_;refine qz (qbf ((H.trans y).has b5) 0 rfl rfl) (qz (qbf ((H.trans y).has b5) 1 rfl qcm) (qz (qbf (y.has b6) 0 rfl rfl) (qz (qbf (y.has b6) 1 rfl qcm) ?_)));refine q0 λH8 b8 A=>?_;obtain⟨H9,e9,C⟩:=kp8 b8 (n2.grow (((I.trans H).trans y).trans A)) (n4.grow (((I.trans H).trans y).trans A));refine qz e9 (qz (seen rfl) ?_);refine qbd (λV=>?_) (λV=>?_)
 ·refine qba ((A.trans C).has X) rfl λaf Y Z=>?_;have ag:=qx (C.has b8) (Nat.ne_of_gt (qbr (X).lt (qbp _))) Z;refine qz (qbf Y 0 rfl rfl) (qz (qbf Y 1 rfl qcm) ?_);have z:kw a1 x2 a3 x4=(false,[],1):=by unfold kw;exact(condT V).trans rfl
  rw[z];exact qy ⟨(⟨none,0,.is 0⟩:Sl),rfl,(qw _),(((((I.trans H).trans y).trans A).trans C).updr (qbq ((I.trans H)).size (qbp _)) Z),(qu _)⟩
 ·refine qz (qbf ((((H.trans y).trans A).trans C).has b5) 1 rfl qcm) (qz (qbf (((y.trans A).trans C).has b6) 1 rfl qcm) ?_);obtain⟨an,af,ah,aa,F,ai⟩:=k0p (n2.grow ((((I.trans H).trans y).trans A).trans C)) (n4.grow ((((I.trans H).trans y).trans A).trans C));refine qz ah (qz rfl (qz (seen qcm) (qz (seen qcn) (qz (qbf (((((H.trans y).trans A).trans C).trans F).has b5) 0 rfl rfl) (qz (qbf ((((y.trans A).trans C).trans F).has b6) 0 rfl rfl) ?_)))));obtain⟨aj,ap,ak,al,K,ac⟩:=kdj aa (!(a1==a3));refine qz ak (qz rfl ?_);refine qbb rfl ?_;refine qz (seenAt rfl rfl) (qz (seenAt rfl qcm) ?_);refine qba ((((A.trans C).trans F).trans K).has X) rfl λaq ad Q=>?_;have ae:=(aa.grow K).upda (qbj ai ((A.trans C).has X).lt) Q;have U:=al.upda (qbj ac (((A.trans C).trans F).has X).lt) Q;have am:=qx (((C.trans F).trans K).has b8) (Nat.ne_of_gt (qbr (X).lt (qbp _))) Q;refine qz (qbf ad 0 rfl rfl) (qz (qbf ad 1 rfl qcm) ?_);have z:kw a1 x2 a3 x4=((((fromI (!(a1==a3)) ((mulN x2 x4).1)).1)),(fromI (!(a1==a3)) ((mulN x2 x4).1)).2,((mulN x2 x4).2)):=by unfold kw;exact(condF V).trans rfl
  rw[z];exact qy ⟨aj,rfl,U,(((((((I.trans H).trans y).trans A).trans C).trans F).trans K).updr (qbq ((I.trans H)).size (qbp _)) Q),(ac.of_le (((((I.trans H).trans y).trans A).trans C).trans F))⟩
def kes(a1:Bool)(x2:List Nat)(a3:Bool)(x4:List Nat):Bool×List Nat×Int :=
 cond (!(rtI a1 x2)) ((false,[],1)) (cond (!(rtI a3 x4)) ((false,[],1)) (((((fromI (!(a1==a3)) ((mulN x2 x4).1)).1)),(fromI (!(a1==a3)) ((mulN x2 x4).1)).2,((mulN x2 x4).2))))
theorem k8i{h:AH}{a2:Sl}{x2:List Nat}{a4:Sl}{x4:List Nat}(n2:Nats h a2 x2)(n4:Nats h a4 x4)(a1 a3:Bool):Runs (go (.fn ki3 [.agg [.bool a1,a2.v],.agg [.bool a3,a4.v]]) h) λv h'=>∃s1:Sl,v=.tup [.agg [.bool (kes a1 x2 a3 x4).1,s1.v],.i (kes a1 x2 a3 x4).2.2]/\Nats h' s1 ((kes a1 x2 a3 x4).2.1)/\Grow h h'/\Own h s1:=by
 rw[kbj7];refine q0 λH5 b5 I=>?_;refine q0 λH6 b6 C=>?_;refine q0 λH7 Y A=>?_;refine qz (qbf ((C.trans A).has b5) 0 rfl rfl) (qz (qbf ((C.trans A).has b5) 1 rfl qcm) ?_);obtain⟨H8,e8,y⟩:=kd8 (n2.grow ((I.trans C).trans A)) a1;refine qz e8 (qz (seen rfl) (qz (qbf ((A.trans y).has b6) 0 rfl rfl) (qz (qbf ((A.trans y).has b6) 1 rfl qcm) ?_)));obtain⟨H9,e9,F⟩:=kd8 (n4.grow (((I.trans C).trans A).trans y)) a3;refine qz e9 (qz (seen rfl) ?_);refine qbd (λK=>?_) (λK=>?_)
 ·refine qba ((y.trans F).has Y) rfl λap Z ag=>?_;refine qz (qbf Z 0 rfl rfl) (qz (qbf Z 1 rfl qcm) ?_);have z:kes a1 x2 a3 x4=(false,[],1):=by unfold kes;exact(condT K).trans rfl
  rw[z];exact qy ⟨(⟨none,0,.is 0⟩:Sl),rfl,(qw _),(((((I.trans C).trans A).trans y).trans F).updr (qbq ((I.trans C)).size (qbp _)) ag),(qu _)⟩
 ·refine qbd (λU=>?_) (λU=>?_)
  ·refine qba ((y.trans F).has Y) rfl λah aa ai=>?_;refine qz (qbf aa 0 rfl rfl) (qz (qbf aa 1 rfl qcm) ?_);have z:kes a1 x2 a3 x4=(false,[],1):=by unfold kes;exact(condF K).trans ((condT U).trans rfl)
   rw[z];exact qy ⟨(⟨none,0,.is 0⟩:Sl),rfl,(qw _),(((((I.trans C).trans A).trans y).trans F).updr (qbq ((I.trans C)).size (qbp _)) ai),(qu _)⟩
  ·refine qz (qbf ((((C.trans A).trans y).trans F).has b5) 1 rfl qcm) (qz (qbf (((A.trans y).trans F).has b6) 1 rfl qcm) ?_);obtain⟨aq,ah,aj,ac,H,ak⟩:=ky8 (n2.grow ((((I.trans C).trans A).trans y).trans F)) (n4.grow ((((I.trans C).trans A).trans y).trans F));refine qz aj (qz rfl (qz (seen qcm) (qz (seen qcn) (qz (qbf (((((C.trans A).trans y).trans F).trans H).has b5) 0 rfl rfl) (qz (qbf ((((A.trans y).trans F).trans H).has b6) 0 rfl rfl) ?_)))));obtain⟨al,ar,am,an,V,ad⟩:=kdu ac (!(a1==a3));refine qz am (qz rfl ?_);refine qbb rfl ?_;refine qz (seenAt rfl rfl) (qz (seenAt rfl qcm) ?_);refine qba ((((y.trans F).trans H).trans V).has Y) rfl λau ae X=>?_;have af:=(ac.grow V).upda (qbj ak ((y.trans F).has Y).lt) X;have Q:=an.upda (qbj ad (((y.trans F).trans H).has Y).lt) X;refine qz (qbf ae 0 rfl rfl) (qz (qbf ae 1 rfl qcm) ?_);have z:kes a1 x2 a3 x4=((((fromI (!(a1==a3)) ((mulN x2 x4).1)).1)),(fromI (!(a1==a3)) ((mulN x2 x4).1)).2,((mulN x2 x4).2)):=by unfold kes;exact(condF K).trans ((condF U).trans rfl)
   rw[z];exact qy ⟨al,rfl,Q,(((((((I.trans C).trans A).trans y).trans F).trans H).trans V).updr (qbq ((I.trans C)).size (qbp _)) X),(ad.of_le (((((I.trans C).trans A).trans y).trans F).trans H))⟩
theorem kbbo:kes=kw:=by
 funext p xs q ys;unfold kes kw;cases y:rtI p xs with
 | false=>rfl
 | true =>
  cases A:rtI q ys with
  | false=>rfl
  | true =>
   simp only[Bool.not_true,cond_false,Bool.and_self]
theorem kpa{h:AH}{a2:Sl}{x2:List Nat}{a4:Sl}{x4:List Nat}(y:Nats h a2 x2)(A:Nats h a4 x4)(a1 a3:Bool):Runs (go (.fn ki3 [.agg [.bool a1,a2.v],.agg [.bool a3,a4.v]]) h) λv h'=>∃s1:Sl,v=.tup [.agg [.bool (kw a1 x2 a3 x4).1,s1.v],.i (kw a1 x2 a3 x4).2.2]/\Nats h' s1 ((kw a1 x2 a3 x4).2.1)/\Grow h h'/\Own h s1:=by
 rw[<- kbbo];exact k8i y A a1 a3
end Go.Ab
