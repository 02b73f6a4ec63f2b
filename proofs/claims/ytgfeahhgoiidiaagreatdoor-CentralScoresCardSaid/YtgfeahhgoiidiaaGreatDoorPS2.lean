/- Words and laws that the last text joins. -/
import Derived.Test.YtgfeahhgoiidiaaGreatDoorPU1
import Derived.Test.YtgfeahhgoiidiaaGreatDoorPAbsL
set_option linter.unusedVariables false
set_option linter.unusedSimpArgs false
set_option linter.unusedSectionVars false
set_option maxRecDepth 10000
namespace Go.Ab
open Go.Proofs Go.Num
@[reducible] def B:Nat:=18446744073709551616
theorem B2:2<=B:=by decide
def rt(xs:List Nat):Bool:=decide (xs.length<=64)&&(decide (xs.length=0)||!decide (xs.getD (xs.length-1) 0=0))
theorem kb0{xs:List Nat}{i:Nat}(h:i<xs.length):xs.getD i 0=xs[i]:=by simp[List.getD,h]
theorem rt_iff{xs:List Nat}:rt xs=true↔xs.length<=64/\Trim xs:=by
 unfold rt Trim;simp only[qb9,qbw,qca,qci,qbv,List.length_eq_zero_iff];refine and_congr_right λ_=>?_;constructor
 ·rintro (h | h) A
  ·exact absurd h A
  ·rwa[List.getLast_eq_getElem,<- kb0]
 ·intro h;by_cases C:xs=[]
  ·exact .inl C
  ·right
   have:=h C;rwa[List.getLast_eq_getElem,<- kb0]at this
theorem Nats.last{h:AH}{s:Sl}{xs:List Nat}(n:Nats h s xs)(H:xs.length≠0):∃r,idx s.ref s.len (IntKind.wrap .i64 ((s.len:Int)-1)) 1=some r/\h.cell r=some (.int .u64 ((xs.getD (xs.length-1) 0:Nat):Int)):=by obtain⟨k,C⟩:∃k,xs.length=k+1:=⟨xs.length-1,by omega⟩;have I:=n.short;obtain⟨r,A,F⟩:=n.at (i:=k) (by omega);rw[n.len,C]at A|-;rw[kro (by omega)];refine⟨r,A,?_⟩;rw[F,show k+1-1=k from rfl,kb0 (by omega)]
theorem khf{h:AH}{s:Sl}{xs:List Nat}(n:Nats h s xs):go (.fn kfp [s.v]) h=some (.bool (rt xs),h):=by
 rw[kbeo];have H:=n.len;refine kft (λh1=>?_) (λh1=>?_)
 ·have h1:xs.length<=64:=by rw[qbw]at h1;omega
  refine kft (λA=>?_) (λA=>?_)
  ·have A:xs.length=0:=by rw[qbw]at A;omega
   simp[rt,A]
  ·have A:xs.length≠0:=by rw[qbv]at A;omega
   obtain⟨r,C,F⟩:=n.last A;simp[C,F,rt,h1];cases xs
   ·simp at A
   ·simp
 ·have h1:¬xs.length<=64:=by rw[qbv]at h1;omega
  simp[rt,h1]
theorem kco{h:AH}{s:Sl}{xs:List Nat}(n:Nats h s xs):go (.fn kce [s.v]) h=some (.bool (rt xs),h):=by
 rw[kbhi];have H:=n.len;refine kft (λh1=>?_) (λh1=>?_)
 ·have h1:xs.length<=64:=by rw[qbw]at h1;omega
  refine kft (λA=>?_) (λA=>?_)
  ·have A:xs.length=0:=by rw[qbw]at A;omega
   simp[rt,A]
  ·have A:xs.length≠0:=by rw[qbv]at A;omega
   obtain⟨r,C,F⟩:=n.last A;simp[C,F,rt,h1];cases xs
   ·simp at A
   ·simp
 ·have h1:¬xs.length<=64:=by rw[qbv]at h1;omega
  simp[rt,h1]
theorem k0e{h:AH}{s:Sl}{xs:List Nat}(n:Nats h s xs):∀(k:Nat),k<=xs.length->(∀i,k<=i->(hi:i<xs.length)->xs[i]=0)->
  ∃s',go (.pt kb1 kmx [(0,s.v),(3,.i (k:Int))]) h=some (s'.v,h)/\Nats h s' (digs B (num B xs))/\∀h0,Own h0 s->Own h0 s'
 | 0,A,C=>by
  rw[kql];obtain⟨s',F,H,I⟩:=n.cut (l:=0) (n:=0) (qbp _) A;have:=kq1 B2 n.lt C A (.inl rfl);simp at F;simp only[Int.natCast_zero,gt_iff_lt,Int.lt_irrefl,decide_false,cond_false,F,qbt];refine⟨s',rfl,?_,I⟩;rw[<- this]
  simpa using H
 | k+1,A,C=>by
  rw[kql];obtain⟨r,F,H⟩:=n.at (i:=k) (by omega);have Z:=n.short;rw[kro (by omega)];rw[show(decide (((k+1:Nat):Int)>0))=true from by rw[qbw];omega];simp only[cond_true,F,H,qbt,kb];by_cases K:xs[k]=0
  ·rw[K,show(decide (((0:Nat):Int)=0))=true from rfl,cond_true];refine k0e n k (by omega) λi hi Q=>?_;rcases Nat.lt_or_ge k i with h1 | h1
   ·exact C i (by omega) Q
   ·have:i=k:=by omega
    subst this;exact K
  ·obtain⟨s',I,U,X⟩:=n.cut (l:=0) (n:=k+1) (by omega) A;have Y:=kq1 B2 n.lt C A (.inr ⟨by omega,by simpa using K⟩);rw[show(decide (((xs[k]:Nat):Int)=0))=false from by rw[qbv];omega];simp only[cond_false];rw[show cutSl s 0 ((k+1:Nat):Int) 1=some s' from I];refine⟨s',rfl,?_,X⟩;rw[<- Y]
   simpa using U
theorem kea{h:AH}{s:Sl}{xs:List Nat}(n:Nats h s xs):∃s',go (.fn kb1 [s.v]) h=some (s'.v,h)/\Nats h s' (digs B (num B xs))/\∀h0,Own h0 s->Own h0 s':=by rw[kun,n.len];exact k0e n xs.length (qbp _) λi h1 A=>by omega
end Go.Ab
set_option maxRecDepth 10000
namespace Go.Ab
open IntKind (wrap)
open Go.Proofs Go.Num
theorem klm{n:Nat}(h:n<=8796093022208):growOk Pg n kg 1=true:=by
 unfold growOk;rw[kbl1,kes];have h1:n*8<=ks:=by simp only[ks];omega
 have A:n<=ks:=by simp only[ks];omega
 simp[h1,A]
theorem kni{h:AH}{s:Sl}{xs:List Nat}(n:Nats h s xs)(H:xs.length<=8796093022208):∃s' h',go (.fn kim [s.v]) h=some (s'.v,h')/\Nats h' s' xs/\Grow h h'/\Own h s':=by
 rw[kban];cases A:s.ref with
 | none =>
  have:xs=[]:=by
   cases xs with
   | nil=>rfl
   | cons x xs =>obtain⟨r,C,_⟩:=n.cells.get 0 (u64 x) rfl;rw[A]at C;cases C
  subst this;exact⟨_,_,rfl,qw h,ql h,qu h⟩
 | some r =>
  simp only[Option.isNone_some,cond_false,kbw];have n1:=n.grow (qm h (.cells [] kg));have F:=n1.cells;rw[<- kn6]at F;rw[kk5 F,n.len];simp only[qbt];have own:∀(m:Nat)(c:Cap),Own h ⟨some (.new h.blks.size 0),m,c⟩:=λm c r A=>by cases A;exact⟨_,_,rfl,qbp _⟩
  cases xs with
  | nil =>
   obtain⟨s',C,I,K⟩:=ksa (P:=Pg) (elem:=kg) (m:=1) (by omega) (qr (n:=1) (m:=0) (qo h [] kg) rfl);simp only[List.map_nil,List.length_nil,C,qbt,asSl_v];exact⟨s',_,rfl,⟨I,by simp,by simp⟩,qm _ _,K h (own 0 (.is 0))⟩
  | cons x xs =>rw[kfa (c:=0) rfl (by simp) (klm (by simpa using H)) (qr (n:=1) (m:=0) (qo h [] kg) rfl)];simp only[qbt,asSl_v];refine⟨_,_,rfl,⟨⟨rfl,by simp,λi v Q=>⟨_,rfl,by rw[qj,Nat.zero_add,AH.cell_push];exact Q⟩⟩,n.lt,n.short⟩,(qm _ _).trans (qm _ _),λr A=>?_⟩;cases A;exact⟨_,_,rfl,by simp⟩
def fromI(neg:Bool)(xs:List Nat):Bool×List Nat:=if rt xs=true/\xs≠[]then(neg,xs)else(false,[])
@[reducible] def nilI:List AV:=[.bool false,nV]
theorem kdo{h:AH}{s:Sl}{xs:List Nat}(n:Nats h s xs)(neg:Bool):∃(s':Sl)(h':AH),go (.fn kci [.bool neg,s.v]) h=some (.agg [.bool (fromI neg xs).1,s'.v],h')/\Nats h' s' (fromI neg xs).2/\Grow h h'/\Own h s':=by
 rw[kblh];simp only[kbw];have C:=qo h nilI ki;have F:=qm h (.cells nilI ki);have I:=n.grow F;rw[khf I];simp only[qbt,kbo,qj,Nat.zero_add];generalize h.push (.cells nilI ki)=h0 at *
 cases A:rt xs with
 | false =>
  rw[show fromI neg xs=(false,[])from by simp[fromI,A]];refine⟨⟨none,0,.is 0⟩,h0.upd h.blks.size nilI ki,?_,qw _,F.upd (qbp _) _ _,qu h⟩;simp[C.puts_all,qq C]
 | true =>
  by_cases H:xs=[]
  ·rw[show fromI neg xs=(false,[])from by simp[fromI,H]];have:s.len=0:=by rw[n.len,H];rfl
   refine⟨⟨none,0,.is 0⟩,h0.upd h.blks.size nilI ki,?_,qw _,F.upd (qbp _) _ _,qu h⟩;simp[C.puts_all,qq C,this]
  ·rw[show fromI neg xs=(neg,xs)from by simp[fromI,H,A]];have:s.len≠0:=by rw[n.len];simpa using H
   have U:=(rt_iff.1 A).1;obtain⟨s',h',X,Y,K,Q⟩:=kni I (by omega);have b1:=K.has C;refine⟨s',h'.upd h.blks.size [.bool neg,s'.v] ki,?_,?_,(F.trans K).upd (qbp _) _ _,λr Z=>?_⟩
   ·simp[X,b1.puts_all,qq b1,this]
   ·exact Y.upd Q C.lt _ _
   ·exact Q.of_le F r Z
theorem kd2{h:AH}{s:Sl}{xs:List Nat}(n:Nats h s xs)(neg:Bool):∃(s':Sl)(h':AH),go (.fn kcv [.bool neg,s.v]) h=some (.agg [.bool (fromI neg xs).1,s'.v],h')/\Nats h' s' (fromI neg xs).2/\Grow h h'/\Own h s':=by
 rw[kbfb];simp only[kbw];have F:=qo h nilI ki;have H:=qm h (.cells nilI ki);have Q:=n.grow H;rw[kco Q];simp only[qbt,kbo,qj,Nat.zero_add];generalize h.push (.cells nilI ki)=h0 at *
 cases A:rt xs with
 | false =>
  rw[show fromI neg xs=(false,[])from by simp[fromI,A]];refine⟨⟨none,0,.is 0⟩,h0.upd h.blks.size nilI ki,?_,qw _,H.upd (qbp _) _ _,qu h⟩;simp[F.puts_all,qq F]
 | true =>
  by_cases C:xs=[]
  ·rw[show fromI neg xs=(false,[])from by simp[fromI,C]];have:s.len=0:=by rw[n.len,C];rfl
   refine⟨⟨none,0,.is 0⟩,h0.upd h.blks.size nilI ki,?_,qw _,H.upd (qbp _) _ _,qu h⟩;simp[F.puts_all,qq F,this]
  ·rw[show fromI neg xs=(neg,xs)from by simp[fromI,C,A]];have hl:s.len≠0:=by rw[n.len];simpa using C
   have aa:=(rt_iff.1 A).1;have U:=qm h0 (.cells [] kg);have X:=(Q.grow U).cells;rw[<- kn6]at X;have I:0<xs.length:=by cases xs;exact absurd rfl C;simp
   rw[kk5 X,n.len];simp only[qbt];rw[kfa (c:=0) rfl (by simpa using I) (klm (by simp;omega)) (qr (n:=1) (m:=0) (qo h0 [] kg) rfl)];simp only[qbt,asSl_v,AH.push_size,List.nil_append,Nat.zero_add];have Y:=U.trans (qm (h0.push (.cells [] kg)) (.cells (xs.map u64) kg));have b1:=Y.has F
   have n2:Nats ((h0.push (.cells [] kg)).push (.cells (xs.map u64) kg)) ⟨some (.new (h0.blks.size+1) 0),xs.length,.opn 1⟩ xs :=
    ⟨⟨rfl,by simp,λi v hv=>⟨_,rfl,by have:=AH.cell_push (h0.push (.cells [] kg)) (xs.map u64) kg i;rw[AH.push_size]at this;rw[qj,Nat.zero_add,this];exact hv⟩⟩,n.lt,n.short⟩
   have Z:Own h0 ⟨some (.new (h0.blks.size+1) 0),xs.length,.opn 1⟩:=λr hr=>by cases hr;exact⟨_,_,rfl,by omega⟩
   generalize (h0.push (.cells [] kg)).push (.cells (xs.map u64) kg)=h2 at *
   refine⟨_,h2.upd h.blks.size [.bool neg,Sl.v ⟨some (.new (h0.blks.size+1) 0),xs.length,.opn 1⟩] ki,?_,n2.upd Z F.lt _ _,(H.trans Y).upd (qbp _) _ _,Z.of_le H⟩;have K:¬(xs=[]):=C;simp[b1.puts_all,qq b1,K,C]
theorem kx0{h:AH}{x:Nat}(A:x<B):∃(s':Sl)(h':AH),go (.fn kfo [.int .u64 (x:Int)]) h=some (s'.v,h')/\Nats h' s' (digs B x)/\Grow h h'/\Own h s':=by rw[kbcm];simp only[kbw];have C:Nats (h.push (.cells [u64 x] kg)) ⟨some (.new h.blks.size 0),1,.is 1⟩ [x]:=⟨qr (qo h [u64 x] kg) rfl,by simpa using A,by simp⟩;obtain⟨s',F,H,I⟩:=kea C;rw[F];simp only[qbt,asSl_v];refine⟨s',_,rfl,by simpa[num]using H,qm _ _,I h λr K=>by cases K;exact⟨_,_,rfl,qbp _⟩⟩
theorem ksh{h:AH}{x:Nat}(A:x<B):∃(s':Sl)(h':AH),go (.fn kgr [.int .u64 (x:Int)]) h=some (s'.v,h')/\Nats h' s' (digs B x)/\Grow h h'/\Own h s':=by
 rw[kbhd];by_cases h0:x=0
 ·subst h0;rw[kcg];exact⟨_,_,rfl,qw h,ql h,qu h⟩
 ·have C:digs B x=[x]:=by
   rw[kfc B2 h0,Nat.mod_eq_of_lt A,Nat.div_eq_of_lt A,kcg]
  rw[C];rw[show decide ((x:Int)=0)=false from by rw[qbv];omega];refine⟨_,_,rfl,⟨qr (qo h [u64 x] kg) rfl,by simpa using A,by simp⟩,qm _ _,λr F=>by cases F;exact⟨_,_,rfl,qbp _⟩⟩
def ofI(n:Int):Bool×List Nat:=fromI (decide (n<0)) (digs B n.natAbs)
theorem k5w{h:AH}{n:Int}(h1:-9223372036854775808<=n)(h2:n<=9223372036854775807):∃(s':Sl)(h':AH),go (.fn kjb [.i n]) h=some (.agg [.bool (ofI n).1,s'.v],h')/\Nats h' s' (ofI n).2/\Grow h h'/\Own h s':=by
 rw[k8u];simp only[kbw];have X:=qo h nilI ki;have Y:=qm h (.cells nilI ki);generalize h.push (.cells nilI ki)=h0 at *
 have key:∀(neg:Bool)(x:Nat),x<B->fromI neg (digs B x)=ofI n->∃(s':Sl)(h':AH),
   ((go (.fn kfo [.int .u64 (x:Int)]) h0).bind λZ =>
    ((some Z.1).bind AV.asSl).bind λl4 =>
    (go (.fn kci [.bool neg,l4.v]) Z.2).bind λq5 =>
    (AV.asAgg q5.1).bind λA =>
    cond (Nat.beq A.length 2) (
    ((A[0]?).bind AV.asBool).bind λb7 =>
    ((A[1]?).bind AV.asSl).bind λl8 =>
    (q5.2.puts (.new h.blks.size 0) [.bool b7,l8.v]).bind λI =>
    ((I.cell ((Ref.new h.blks.size 0).add 0)).bind AV.asBool).bind λK =>
    ((I.cell ((Ref.new h.blks.size 0).add 1)).bind AV.asSl).bind λQ =>
    some (AV.agg [.bool K,Q.v],I)) none)=some (AV.agg [.bool (ofI n).1,s'.v],h')/\Nats h' s' (ofI n).2/\Grow h h'/\Own h s':=by
  intro neg x C he;obtain⟨s1,aa,e1,n1,F,o1⟩:=kx0 (h:=h0) C;obtain⟨s2,U,e2,n2,g2,o2⟩:=kdo n1 neg;rw[he]at e2 n2;have b2:=(F.trans g2).has X;refine⟨s2,U.upd h.blks.size [.bool (ofI n).1,s2.v] ki,?_,n2.upd o2 (F.has X).lt _ _,(Y.trans (F.trans g2)).upd (qbp _) _ _,o2.of_le (Y.trans F)⟩;simp[e1,e2,b2.puts_all,qq b2]
 by_cases H:n<0
 ·rw[show decide (n<0)=true from qbx H,cond_true]
  have C:wrap .u64 (0-wrap .u64 n)=((n.natAbs:Nat):Int):=by rw[wrapU,wrapU];omega
  rw[C];exact key true n.natAbs (by show _<18446744073709551616;omega) (by simp[ofI,H])
 ·rw[show decide (n<0)=false from qby H,cond_false]
  have C:wrap .u64 n=((n.natAbs:Nat):Int):=by rw[wrapU];omega
  rw[C];exact key false n.natAbs (by show _<18446744073709551616;omega) (by simp[ofI,H])
theorem kbd4{h:AH}{n:Int}(h1:-9223372036854775808<=n)(h2:n<=9223372036854775807):∃(s':Sl)(h':AH),go (.fn ke0 [.i n]) h=some (.agg [.bool (ofI n).1,s'.v],h')/\Nats h' s' (ofI n).2/\Grow h h'/\Own h s':=by
 rw[kbaq];simp only[kbw];have X:=qo h nilI ki;have Y:=qm h (.cells nilI ki);generalize h.push (.cells nilI ki)=h0 at *
 have key:∀(neg:Bool)(x:Nat),x<B->fromI neg (digs B x)=ofI n->∃(s':Sl)(h':AH),
   ((go (.fn kgr [.int .u64 (x:Int)]) h0).bind λZ =>
    ((some Z.1).bind AV.asSl).bind λl4 =>
    (go (.fn kcv [.bool neg,l4.v]) Z.2).bind λq5 =>
    (AV.asAgg q5.1).bind λA =>
    cond (Nat.beq A.length 2) (
    ((A[0]?).bind AV.asBool).bind λb7 =>
    ((A[1]?).bind AV.asSl).bind λl8 =>
    (q5.2.puts (.new h.blks.size 0) [.bool b7,l8.v]).bind λI =>
    ((I.cell ((Ref.new h.blks.size 0).add 0)).bind AV.asBool).bind λK =>
    ((I.cell ((Ref.new h.blks.size 0).add 1)).bind AV.asSl).bind λQ =>
    some (AV.agg [.bool K,Q.v],I)) none)=some (AV.agg [.bool (ofI n).1,s'.v],h')/\Nats h' s' (ofI n).2/\Grow h h'/\Own h s':=by
  intro neg x C he;obtain⟨s1,aa,e1,n1,F,o1⟩:=ksh (h:=h0) C;obtain⟨s2,U,e2,n2,g2,o2⟩:=kd2 n1 neg;rw[he]at e2 n2;have b2:=(F.trans g2).has X;refine⟨s2,U.upd h.blks.size [.bool (ofI n).1,s2.v] ki,?_,n2.upd o2 (F.has X).lt _ _,(Y.trans (F.trans g2)).upd (qbp _) _ _,o2.of_le (Y.trans F)⟩;simp[e1,e2,b2.puts_all,qq b2]
 by_cases H:n<0
 ·rw[show decide (n<0)=true from qbx H,cond_true]
  have C:wrap .u64 ((wrap .u64 (wrap .i64 (0-(wrap .i64 (n+1)))))+1)=((n.natAbs:Nat):Int):=by rw[wrap64 (n:=n+1) (by omega) (by omega),wrap64 (by omega) (by omega),wrapU,wrapU];omega
  rw[C];exact key true n.natAbs (by show _<18446744073709551616;omega) (by simp[ofI,H])
 ·rw[show decide (n<0)=false from qby H,cond_false]
  have C:wrap .u64 n=((n.natAbs:Nat):Int):=by rw[wrapU];omega
  rw[C];exact key false n.natAbs (by show _<18446744073709551616;omega) (by simp[ofI,H])
end Go.Ab
set_option maxRecDepth 10000
namespace Go.Ab
open Go.Proofs Go.Num
def rtI(neg:Bool)(xs:List Nat):Bool:=rt xs&&(!neg||decide (xs≠[]))
theorem km0{h:AH}{s:Sl}{xs:List Nat}(n:Nats h s xs)(neg:Bool):∃h',go (.fn kg1 [.agg [.bool neg,s.v]]) h=some (.bool (rtI neg xs),h')/\Grow h h':=by
 rw[kblo];simp only[kbw];have C:=qo h [.bool neg,s.v] ki;have A:=qm h (.cells [.bool neg,s.v] ki);have F:=n.grow A;have H:=n.len;generalize h.push (.cells [.bool neg,s.v] ki)=h0 at *
 refine⟨h0,?_,A⟩;simp[C.cell,khf F,rtI];cases rt xs<;>cases neg<;>simp[H];cases xs<;>simp
theorem keh{h:AH}{s:Sl}{xs:List Nat}(n:Nats h s xs)(neg:Bool):∃h',go (.fn kdl [.agg [.bool neg,s.v]]) h=some (.bool (rtI neg xs),h')/\Grow h h':=by
 rw[k6m];simp only[kbw];have C:=qo h [.bool neg,s.v] ki;have A:=qm h (.cells [.bool neg,s.v] ki);have F:=n.grow A;have H:=n.len;generalize h.push (.cells [.bool neg,s.v] ki)=h0 at *
 refine⟨h0,?_,A⟩;simp[C.cell,kco F,rtI];cases rt xs<;>cases neg<;>simp[H];cases xs<;>simp
structure Rows(h:AH)(s:Sl)(rows:List (Sl×List Nat)):Prop where
 cells:Cells h s 1 (rows.map λp=>p.1.v)
 each:∀p∈rows,Nats h p.1 p.2
 short:rows.length<=9223372036854775807
theorem Rows.len{h:AH}{s:Sl}{rows:List (Sl×List Nat)}(n:Rows h s rows):s.len=rows.length:=by
 have:=n.cells.len
 simpa using this
theorem Rows.at{h:AH}{s:Sl}{rows:List (Sl×List Nat)}(n:Rows h s rows){i:Nat}(hi:i<rows.length):∃r,idx s.ref s.len (i:Int) 1=some r/\h.cell r=some (rows[i].1).v:=by obtain⟨r,A,C⟩:=n.cells.get i (rows[i].1).v (by simp[hi]);refine⟨r.add i,?_,C⟩;rw[A,kdq _ _ _ _ (by omega) (by rw[n.len];omega)];simp
theorem Rows.two{h:AH}{a b:Sl}{xs ys:List Nat}(n:Nats h a xs)(m:Nats h b ys):Rows (h.push (.cells [a.v,b.v] kc2)) ⟨some (.new h.blks.size 0),2,.is 2⟩ [(a,xs),(b,ys)]:=by
 refine⟨qr (qo _ _ _) rfl,λp A=>?_,by simp⟩;have g:=qm h (.cells [a.v,b.v] kc2);simp at A;rcases A with rfl | rfl
 ·exact n.grow g
 ·exact m.grow g
theorem ky8{b:Nat}(A:1<=b){xs:List Nat}(C:∀x∈xs,x<b){k:Nat}(F:k<=xs.length):num b (xs.take k)<b^k:=by have:=num_lt (b:=b) A (xs:=xs.take k) λx h=>C x (List.mem_of_mem_take h);rwa[qcf,Nat.min_eq_left F]at this
theorem k3s{b:Nat}(A:1<=b){xs ys:List Nat}(C:∀x∈xs,x<b)(F:∀x∈ys,x<b){k:Nat}(h1:k<xs.length)(H:k<ys.length) :
  cmp (num b (xs.take (k+1))) (num b (ys.take (k+1)))=if xs[k]<ys[k]then -1 else if xs[k]=ys[k]then cmp (num b (xs.take k)) (num b (ys.take k))else 1:=by
 rw[kdt b h1,kdt b H];exact k8k (ky8 A C (by omega)) (ky8 A F (by omega))
theorem k0n{b:Nat}(A:2<=b){xs ys:List Nat}(C:∀x∈xs,x<b)(F:∀x∈ys,x<b)(H:Trim xs)(ty:Trim ys)(h:xs.length≠ys.length):cmp (num b xs) (num b ys)=if xs.length<ys.length then -1 else 1:=by
 rcases Nat.lt_or_ge xs.length ys.length with h1 | h1
 ·have:=ktj A C F ty h1;simp[cmp,this,h1]
 ·have:=ktj A F C H (by omega);rw[if_neg (by omega)];unfold cmp;rw[if_neg (by omega),if_neg (by omega)]
theorem kzz{h:AH}{s t:Sl}{xs ys:List Nat}(n:Nats h s xs)(m:Nats h t ys)(C:xs.length=ys.length):∀(k:Nat),k<=xs.length->
  go (.pt ke3 kpa [(0,s.v),(1,t.v),(5,.i ((k:Int)-1))]) h=some (.i (cmp (num B (xs.take k)) (num B (ys.take k))),h)
 | 0,F=>by
  rw[kyx];rfl
 | k+1,F=>by
  have U:=n.short;obtain⟨r,H,I⟩:=n.at (i:=k) (by omega);obtain⟨q,K,Q⟩:=m.at (i:=k) (by omega);rw[kyx,show(((k+1:Nat):Int)-1)=(k:Int)from by omega,show decide ((k:Int)>=0)=true from by rw[qbw];omega];simp only[cond_true,H,K,I,Q,qbt,kb];rw[k3s (by decide) n.lt m.lt (by omega) (by omega),wrap64 (n:=(k:Int)-1) (by omega) (by omega),kzz n m C k (by omega)];by_cases h1:xs[k]=ys[k]'(by omega)
  ·rw[show decide (((xs[k]:Nat):Int)=((ys[k]'(by omega):Nat):Int))=true from by rw[qbw];omega];simp[h1]
  ·rw[show decide (((xs[k]:Nat):Int)=((ys[k]'(by omega):Nat):Int))=false from by rw[qbv];omega];by_cases A:xs[k]<ys[k]'(by omega)
   ·rw[show decide (((xs[k]:Nat):Int)<((ys[k]'(by omega):Nat):Int))=true from by rw[qbw];omega];simp[A]
   ·rw[show decide (((xs[k]:Nat):Int)<((ys[k]'(by omega):Nat):Int))=false from by rw[qbv];omega];simp[h1,A]
theorem kp2{h:AH}{s t:Sl}{xs ys:List Nat}(n:Nats h s xs)(m:Nats h t ys)(C:Trim xs)(ty:Trim ys):go (.fn ke3 [s.v,t.v]) h=some (.i (cmp (num B xs) (num B ys)),h):=by
 have F:=n.short;have H:=m.short;rw[kbgc,n.len,m.len];by_cases A:xs.length=ys.length
 ·rw[show decide ((xs.length:Int)=(ys.length:Int))=true from by rw[qbw];omega];simp only[Bool.not_true,cond_false];rw[wrap64 (by omega) (by omega),kzz n m A xs.length (qbp _),List.take_length,A,List.take_length]
 ·rw[show decide ((xs.length:Int)=(ys.length:Int))=false from by rw[qbv];omega,k0n B2 n.lt m.lt C ty A];by_cases h1:xs.length<ys.length
  ·rw[show decide ((xs.length:Int)<(ys.length:Int))=true from by rw[qbw];omega];simp[h1]
  ·rw[show decide ((xs.length:Int)<(ys.length:Int))=false from by rw[qbv];omega];simp[h1]
@[reducible] def D:Nat:=65536
theorem D2:2<=D:=by decide
theorem kzc{h:AH}{s t:Sl}{xs ys:List Nat}(n:Nats h s xs)(m:Nats h t ys)(A:∀x∈xs,x<D)(C:∀x∈ys,x<D)(H:xs.length=ys.length):∀(k:Nat),k<=xs.length->
  go (.pt kgm kpy [(0,s.v),(1,t.v),(5,.i ((k:Int)-1))]) h=some (.i (cmp (num D (xs.take k)) (num D (ys.take k))),h)
 | 0,I=>by
  rw[kyp];rfl
 | k+1,I=>by
  have Y:=n.short;obtain⟨r,K,Q⟩:=n.at (i:=k) (by omega);obtain⟨q,U,X⟩:=m.at (i:=k) (by omega);rw[kyp,show(((k+1:Nat):Int)-1)=(k:Int)from by omega,show decide ((k:Int)>=0)=true from by rw[qbw];omega];simp only[cond_true,K,U,Q,X,qbt,kb];rw[k3s (by decide) A C (by omega) (by omega),wrap64 (n:=(k:Int)-1) (by omega) (by omega),kzc n m A C H k (by omega)];by_cases F:xs[k]<ys[k]'(by omega)
  ·rw[show decide (((xs[k]:Nat):Int)<((ys[k]'(by omega):Nat):Int))=true from by rw[qbw];omega];simp[F]
  ·rw[show decide (((xs[k]:Nat):Int)<((ys[k]'(by omega):Nat):Int))=false from by rw[qbv];omega];by_cases h1:xs[k]=ys[k]'(by omega)
   ·rw[show decide (((xs[k]:Nat):Int)>((ys[k]'(by omega):Nat):Int))=false from by rw[qbv];omega];simp[h1]
   ·rw[show decide (((xs[k]:Nat):Int)>((ys[k]'(by omega):Nat):Int))=true from by rw[qbw];omega];simp[h1,F]
theorem ktb{h:AH}{s t:Sl}{xs ys:List Nat}(n:Nats h s xs)(m:Nats h t ys)(C:∀x∈xs,x<D)(F:∀x∈ys,x<D)(H:Trim xs)(ty:Trim ys):go (.fn kgm [s.v,t.v]) h=some (.i (cmp (num D xs) (num D ys)),h):=by
 have I:=n.short;have K:=m.short;rw[kbhb,n.len,m.len];by_cases A:xs.length=ys.length
 ·rw[show decide ((xs.length:Int)=(ys.length:Int))=true from by rw[qbw];omega];simp only[Bool.not_true,cond_false];rw[wrap64 (by omega) (by omega),kzc n m C F A xs.length (qbp _),List.take_length,A,List.take_length]
 ·rw[show decide ((xs.length:Int)=(ys.length:Int))=false from by rw[qbv];omega,k0n D2 C F H ty A];by_cases h1:xs.length<ys.length
  ·rw[show decide ((xs.length:Int)<(ys.length:Int))=true from by rw[qbw];omega];simp[h1]
  ·rw[show decide ((xs.length:Int)<(ys.length:Int))=false from by rw[qbv];omega];simp[h1]
theorem k1x{h:AH}{s:Sl}{xs:List Nat}(n:Nats h s xs)(I:∀x∈xs,x<D):∀(k:Nat),k<=xs.length->(∀i,k<=i->(hi:i<xs.length)->xs[i]=0)->
  ∃s',go (.pt kdx krj [(0,s.v),(3,.i (k:Int))]) h=some (s'.v,h)/\Nats h s' (digs D (num D xs))/\∀h0,Own h0 s->Own h0 s'
 | 0,C,F=>by
  rw[kwt];obtain⟨s',H,K,Q⟩:=n.cut (l:=0) (n:=0) (qbp _) C;have:=kq1 D2 I F C (.inl rfl);simp at H;simp only[Int.natCast_zero,gt_iff_lt,Int.lt_irrefl,decide_false,cond_false,H,qbt];refine⟨s',rfl,?_,Q⟩;rw[<- this]
  simpa using K
 | k+1,C,F=>by
  rw[kwt];obtain⟨r,H,K⟩:=n.at (i:=k) (by omega);have hs:=n.short;rw[kro (by omega)];rw[show(decide (((k+1:Nat):Int)>0))=true from by rw[qbw];omega];simp only[cond_true,H,K,qbt,kb];by_cases A:xs[k]=0
  ·rw[A,show(decide (((0:Nat):Int)=0))=true from rfl,cond_true];refine k1x n I k (by omega) λi hi U=>?_;rcases Nat.lt_or_ge k i with h1 | h1
   ·exact F i (by omega) U
   ·have:i=k:=by omega
    subst this;exact A
  ·obtain⟨s',Q,X,Y⟩:=n.cut (l:=0) (n:=k+1) (by omega) C;have Z:=kq1 D2 I F C (.inr ⟨by omega,by simpa using A⟩);rw[show(decide (((xs[k]:Nat):Int)=0))=false from by rw[qbv];omega];simp only[cond_false];rw[show cutSl s 0 ((k+1:Nat):Int) 1=some s' from Q];refine⟨s',rfl,?_,Y⟩;rw[<- Z]
   simpa using X
theorem kkn{h:AH}{s:Sl}{xs:List Nat}(n:Nats h s xs)(A:∀x∈xs,x<D):∃s',go (.fn kdx [s.v]) h=some (s'.v,h)/\Nats h s' (digs D (num D xs))/\∀h0,Own h0 s->Own h0 s':=by rw[kbj3,n.len];exact k1x n A xs.length (qbp _) λi h1 C=>by omega
theorem Mine.push_u64{h0 h:AH}{s:Sl}{ds:List Nat}(M:Mine h0 h s kg 1 (ds.map u64))(x:Nat)(F:ds.length<8796093022208) :
  ∃s' h',kv Pg s [u64 x] 1 kg 1 h=some (s'.v,h')/\Mine h0 h' s' kg 1 ((ds++[x]).map u64):=by
 have:s.len=ds.length:=by simpa using M.cells.len
 obtain⟨s',h',A,H,C,I⟩:=M.append (n:=1) (cs:=[u64 x]) (by omega) rfl (klm (by rw[this];omega));exact⟨s',h',A,by simpa using C⟩
theorem k0o{h0:AH}{s:Sl}(i:Nat):∀(k j:Nat),j+k=4->∀{h:AH}{d:Sl}{ds:List Nat}{x:Nat},Mine h0 h d kg 1 (ds.map u64)->ds.length<1099511627776+j->x<B->
  ∃A h',go (.pt kb8 kq9 [(0,s.v),(3,d.v),(4,.i (i:Int)),(5,.int .u64 (x:Int)),(6,.i (j:Int))]) h =
   go (.pt kb8 kn8 [(0,s.v),(3,Sl.v A),(4,.i (IntKind.wrap .i64 ((i:Int)+1)))]) h'/\Mine h0 h' A kg 1 ((ds++(dig4 x).take k).map u64)
 | 0,j,C,h,d,ds,x,M,H,F=>by
  rw[k3e,show decide ((j:Int)<4)=false from by rw[qbv];omega];exact⟨d,h,rfl,by simpa using M⟩
 | k+1,j,C,h,d,ds,x,M,H,F=>by
  rw[k3e,show decide ((j:Int)<4)=true from by rw[qbw];omega,cond_true];simp only[kbw];have I:Int.tmod (x:Int) 65536=((x%65536:Nat):Int):=by rw[Int.tmod_eq_emod_of_nonneg (by omega)];omega
  have K:IntKind.wrap .u64 (Int.tdiv (x:Int) 65536)=((x/65536:Nat):Int):=by rw[Int.tdiv_eq_ediv_of_nonneg (by omega),wrapU];have:x<18446744073709551616:=F;omega
  have c:Cells (h.push (.cells [u64 (x%65536)] kg)) ⟨some (.new h.blks.size 0),1,.is 1⟩ (Pg.cellsOf kg) [u64 (x%65536)]:=by rw[kn6];exact qr (qo h [u64 (x%65536)] kg) rfl
  rw[I,K,kk5 c];simp only[qbt];obtain⟨s',h',Q,U⟩:=(M.grow' (qm h (.cells [u64 (x%65536)] kg))).push_u64 (x%65536) (by omega);rw[Q];simp only[qbt,asSl_v];rw[kj (by omega)];obtain⟨A,X,Y,Z⟩:=k0o i k (j+1) (by omega) (x:=x/65536) U (by simp;omega) (by have:x<18446744073709551616:=F;show _<18446744073709551616;omega);refine⟨A,X,Y,?_⟩
  have:(dig4 x).take (k+1)=x%65536::(dig4 (x/65536)).take k:=by
   match k,C with
   | 0,_=>rfl
   | 1,_=>rfl
   | 2,_=>rfl
   | 3,_=>rfl
   | k+4,C=>omega
  rw[this]
  simpa using Z
theorem k08{h0:AH}{s:Sl}{xs:List Nat}(n:Nats h0 s xs)(U:xs.length<=1073741824):∀(k i:Nat),i+k=xs.length->∀{h:AH}{d:Sl},Mine h0 h d kg 1 (((xs.take i).flatMap dig4).map u64)->
  ∃(H:Sl)(h':AH),go (.pt kb8 kn8 [(0,s.v),(3,d.v),(4,.i (i:Int))]) h=some (H.v,h')/\Nats h' H (digs D (num B xs))/\Grow h0 h'/\Own h0 H
 | 0,i,hi,h,d,M=>by
  rw[k4e,n.len,show decide ((i:Int)<(xs.length:Int))=false from by rw[qbv];omega,cond_false];rw[List.take_of_length_le (by omega)]at M
  have A:∀(l:List Nat),(l.flatMap dig4).length=l.length*4:=by
   intro l
   induction l with
   | nil=>rfl
   | cons a l ih=>rw[List.flatMap_cons,qb0,ih];simp[dig4];omega
  have F:∀x∈xs.flatMap dig4,x<D:=by intro x C;obtain⟨y,_,X⟩:=List.mem_flatMap.1 C;simp[dig4]at X;show x<65536;omega
  have N:Nats h d (xs.flatMap dig4):=⟨M.cells,λx C=>by have:x<65536:=F x C;omega,by rw[A];omega⟩;obtain⟨s',I,K,Q⟩:=kkn N F;rw[I];simp only[qbt,asSl_v];refine⟨s',h,rfl,?_,M.grow,Q h0 M.own_of⟩;rwa[k6d (c:=B) (k:=4) (by decide) λx C=>kbk2 (n.lt x C)]at K
 | k+1,i,hi,h,d,M=>by
  have Y:=n.grow M.grow;obtain⟨r,I,K⟩:=Y.at (i:=i) (by omega);rw[k4e,show decide ((i:Int)<(s.len:Int))=true from by rw[qbw,n.len];omega,cond_true,I];simp only[qbt,K,kb]
  have A:((xs.take i).flatMap dig4).length=(xs.take i).length*4:=by
   generalize xs.take i=l
   induction l with
   | nil=>rfl
   | cons a l ih=>rw[List.flatMap_cons,qb0,ih];simp[dig4];omega
  obtain⟨H,h',Q,Z⟩:=k0o (s:=s) i 4 0 (by omega) (x:=xs[i]'(by omega)) M (by rw[A,qcf];omega) (n.lt _ (qb3 _));rw[show(0:Int)=((0:Nat):Int)from rfl,Q,kj (by omega)];refine k08 n U k (i+1) (by omega) ?_;rw[qch (by omega),List.flatMap_append]
  simpa[dig4]using Z
theorem kfi{h:AH}{s:Sl}{xs:List Nat}(n:Nats h s xs)(C:xs.length<=1073741824):∃(A:Sl)(h':AH),go (.fn kb8 [s.v]) h=some (A.v,h')/\Nats h' A (digs D (num B xs))/\Grow h h'/\Own h A:=by rw[k60];exact k08 n C xs.length 0 (by omega) (Mine.nil h kg 1)
theorem kbjn{h:AH}{s:Sl}{xs:List Nat}(n:Nats h s xs):go (.fn keu [s.v]) h=some (.bool (!rt xs),h):=by rw[kbj5,khf n];rfl
theorem kzi{h:AH}{s:Sl}{rows:List (Sl×List Nat)}(n:Rows h s rows):∀(k i:Nat),i+k=rows.length->
  ∃j:Int,go (.pt kkk krr [(0,s.v),(1,.func (.func keu) [] []),(7,.i (rows.length:Int)),(8,.i (i:Int))]) h=some (.i j,h)/\
   (j>=0↔(rows.drop i).all (λp=>rt p.2)=false)
 | 0,i,hi=>by
  rw[k0u,show decide ((i:Int)<(rows.length:Int))=false from by rw[qbv];omega,List.drop_of_length_le (by omega)];exact⟨-1,rfl,by simp⟩
 | k+1,i,hi=>by
  have K:=n.short;obtain⟨r,A,C⟩:=n.at (i:=i) (by omega);have F:=n.each rows[i] (qb3 _);rw[k0u,show decide ((i:Int)<(rows.length:Int))=true from by rw[qbw];omega,cond_true,A];simp only[qbt,C,asSl_v,kbjn F,kbo];rw[qcg (by omega),List.all_cons,kj (by omega)];cases Q:rt (rows[i].2)with
  | false=>exact⟨(i:Int),rfl,by simp⟩
  | true =>obtain⟨j,H,I⟩:=kzi n k (i+1) (by omega);exact⟨j,H,by simpa using I⟩
theorem kmq{h:AH}{s:Sl}{rows:List (Sl×List Nat)}(n:Rows h s rows):go (.fn khb [s.v]) h=some (.bool (rows.all λp=>rt p.2),h):=by
 obtain⟨j,F,A⟩:=kzi n rows.length 0 (by omega);rw[k6n,kbb8,k81,n.len];rw[show(0:Int)=((0:Nat):Int)from rfl,F];simp only[qbt,kb,kbo];rw[List.drop_zero]at A;cases C:rows.all λp=>rt p.2 with
 | false=>rw[C]at A;simp at A;simp;omega
 | true=>rw[C]at A;simp at A;simp;omega
def cmpN(xs ys:List Nat):Int:=if rt xs=true/\rt ys=true then cmp (num B xs) (num B ys)else 0
theorem kqr{h:AH}{s t:Sl}{xs ys:List Nat}(n:Nats h s xs)(m:Nats h t ys):∃h',go (.fn kjr [s.v,t.v]) h=some (.i (cmpN xs ys),h')/\Grow h h':=by
 rw[k6a];simp only[kbw];have r:=Rows.two n m;have g:=qm h (.cells [s.v,t.v] kc2);generalize h.push (.cells [s.v,t.v] kc2)=h0 at *
 refine⟨h0,?_,g⟩;rw[kmq r];simp only[qbt,kbo,List.all_cons,List.all_nil,Bool.and_true];cases A:rt xs with
 | false=>simp[cmpN,A]
 | true =>
  cases C:rt ys with
  | false=>simp[cmpN,C]
  | true =>simp only[Bool.and_self,Bool.not_true,cond_false];rw[kp2 (n.grow g) (m.grow g) (rt_iff.1 A).2 (rt_iff.1 C).2];simp[cmpN,A,C]
theorem kou{h:AH}{s t:Sl}{xs ys:List Nat}(n:Nats h s xs)(m:Nats h t ys):∃h',go (.fn kk6 [s.v,t.v]) h=some (.i (cmpN xs ys),h')/\Grow h h':=by
 rw[kbag,kco n];simp only[qbt,kbo];rw[kco m];simp only[qbt,kbo];cases A:rt xs with
 | false=>exact⟨h,by simp[cmpN,A],ql h⟩
 | true =>
  cases C:rt ys with
  | false=>exact⟨h,by simp[cmpN,C],ql h⟩
  | true =>simp only[Bool.not_true,cond_false];have X:=(rt_iff.1 A).1;have Y:=(rt_iff.1 C).1;obtain⟨d1,h1,I,n1,F,Z⟩:=kfi n (by omega);obtain⟨d2,K,Q,U,H,o2⟩:=kfi (m.grow F) (by omega);refine⟨K,?_,F.trans H⟩;simp only[I,qbt,asSl_v,Q];rw[ktb (n1.grow H) U (kbv D2 _) (kbv D2 _) (kcn D2 _) (kcn D2 _),ko D2,ko D2];simp[cmpN,A,C]
structure IRows(h:AH)(s:Sl)(rows:List (Bool×Sl×List Nat)):Prop where
 cells:Cells h s 2 (rows.flatMap λp=>[.bool p.1,p.2.1.v])
 each:∀p∈rows,Nats h p.2.1 p.2.2
 short:rows.length<=9223372036854775807
theorem IRows.grow{h h':AH}(g:Grow h h'){s:Sl}{rows:List (Bool×Sl×List Nat)}(n:IRows h s rows):IRows h' s rows:=⟨n.cells.grow g,λp A=>(n.each p A).grow g,n.short⟩
theorem kz3:∀(rows:List (Bool×Sl×List Nat))(i:Nat)(hi:i<rows.length),
  (rows.flatMap λp=>[AV.bool p.1,p.2.1.v])[i*2]?=some (AV.bool rows[i].1)/\(rows.flatMap λp=>[AV.bool p.1,p.2.1.v])[i*2+1]?=some rows[i].2.1.v
 | [],i,hi=>by simp at hi
 | p::rows,0,hi=>by simp
 | p::rows,i+1,hi=>by
  have:=kz3 rows i (by simpa using hi);rw[show(i+1)*2=i*2+2 from by omega]
  simpa using this
theorem IRows.len{h:AH}{s:Sl}{rows:List (Bool×Sl×List Nat)}(n:IRows h s rows):s.len=rows.length:=by
 have:=n.cells.len
 have A:(rows.flatMap λp=>[AV.bool p.1,p.2.1.v]).length=rows.length*2:=by
  generalize rows=l
  induction l with
  | nil=>rfl
  | cons a l ih=>rw[List.flatMap_cons,qb0,ih];simp;omega
 omega
theorem IRows.at{h:AH}{s:Sl}{rows:List (Bool×Sl×List Nat)}(n:IRows h s rows){i:Nat}(hi:i<rows.length):∃r,idx s.ref s.len (i:Int) 2=some r/\h.cell (r.add 0)=some (.bool rows[i].1)/\h.cell (r.add 1)=some rows[i].2.1.v:=by obtain⟨F,p2⟩:=kz3 rows i hi;obtain⟨r,A,H⟩:=n.cells.get _ _ F;obtain⟨K,C,I⟩:=n.cells.get _ _ p2;rw[A]at C;cases C;refine⟨r.add (i*2),?_,by simpa using H,by rw[Ref.add_add];exact I⟩;rw[A,kdq _ _ _ _ (by omega) (by rw[n.len];omega)];simp
theorem k72{h:AH}{s:Sl}{xs:List Nat}(n:Nats h s xs)(neg:Bool):∃h',go (.fn ket [.agg [.bool neg,s.v]]) h=some (.bool (!rtI neg xs),h')/\Grow h h':=by
 rw[kbmv];simp only[kbw];have C:=qo h [.bool neg,s.v] ki;have A:=qm h (.cells [.bool neg,s.v] ki);generalize h.push (.cells [.bool neg,s.v] ki)=h0 at *
 obtain⟨h1,F,H⟩:=km0 (n.grow A) neg;exact⟨h1,by simp[C.cell,F],A.trans H⟩
theorem kzv{s:Sl}{rows:List (Bool×Sl×List Nat)}:∀(k i:Nat),i+k=rows.length->∀{h:AH},IRows h s rows->
  ∃(j:Int)(h':AH),go (.pt kkt kqe [(0,s.v),(1,.func (.func ket) [] []),(7,.i (rows.length:Int)),(8,.i (i:Int))]) h=some (.i j,h')/\
   (j>=0↔(rows.drop i).all (λp=>rtI p.1 p.2.2)=false)/\Grow h h'
 | 0,i,hi,h,n=>by
  rw[kz1,show decide ((i:Int)<(rows.length:Int))=false from by rw[qbv];omega,List.drop_of_length_le (by omega)];exact⟨-1,h,rfl,by simp,ql h⟩
 | k+1,i,hi,h,n=>by
  have Z:=n.short;obtain⟨r,C,F,H⟩:=n.at (i:=i) (by omega);have I:=n.each rows[i] (qb3 _);obtain⟨h1,K,A⟩:=k72 I rows[i].1;rw[kz1,show decide ((i:Int)<(rows.length:Int))=true from by rw[qbw];omega,cond_true,C];simp only[qbt,F,H,asSl_v,kbo,K];rw[qcg (by omega),List.all_cons,kj (by omega)];cases hr:rtI rows[i].1 (rows[i].2.2)with
  | false=>exact⟨(i:Int),h1,rfl,by simp,A⟩
  | true =>obtain⟨j,Q,U,X,Y⟩:=kzv k (i+1) (by omega) (n.grow A);exact⟨j,Q,U,by simpa using X,A.trans Y⟩
theorem kwu{h:AH}{s:Sl}{rows:List (Bool×Sl×List Nat)}(n:IRows h s rows):∃h',go (.fn kg9 [s.v]) h=some (.bool (rows.all λp=>rtI p.1 p.2.2),h')/\Grow h h':=by
 obtain⟨j,h',F,A,g⟩:=kzv rows.length 0 (by omega) n;refine⟨h',?_,g⟩;rw[kbfo,kbb4,k9n,n.len];rw[show(0:Int)=((0:Nat):Int)from rfl,F];simp only[qbt,kb,kbo];rw[List.drop_zero]at A;cases C:rows.all λp=>rtI p.1 p.2.2 with
 | false=>rw[C]at A;simp at A;simp;omega
 | true=>rw[C]at A;simp at A;simp;omega
theorem IRows.two{h:AH}{a b:Sl}{xs ys:List Nat}(n:Nats h a xs)(m:Nats h b ys)(p q:Bool):IRows (h.push (.cells [.bool p,a.v,.bool q,b.v] ki)) ⟨some (.new h.blks.size 0),2,.is 2⟩ [(p,a,xs),(q,b,ys)]:=by
 refine⟨qr (qo _ _ _) rfl,λr A=>?_,by simp⟩;have g:=qm h (.cells [.bool p,a.v,.bool q,b.v] ki);simp at A;rcases A with rfl | rfl
 ·exact n.grow g
 ·exact m.grow g
def cmpI(p:Bool)(xs:List Nat)(q:Bool)(ys:List Nat):Int:=if rtI p xs=true/\rtI q ys=true then(if p=q then(if p=true then cmpN ys xs else cmpN xs ys)else if p=true then -1 else 1)else 0
theorem kbjz{h:AH}{s t:Sl}{xs ys:List Nat}(n:Nats h s xs)(m:Nats h t ys)(p q:Bool):∃h',go (.fn kut [.agg [.bool p,s.v],.agg [.bool q,t.v]]) h=some (.i (cmpI p xs q ys),h')/\Grow h h':=by
 rw[kbgb];simp only[kbw];have b0:=qo h [.bool p,s.v] ki;have Q:=qm h (.cells [.bool p,s.v] ki);generalize h.push (.cells [.bool p,s.v] ki)=h0 at *
 have U:=qo h0 [.bool q,t.v] ki;have I:=qm h0 (.cells [.bool q,t.v] ki);generalize h0.push (.cells [.bool q,t.v] ki)=h1 at *
 have b1:=I.has b0;simp only[qj,Nat.zero_add,b1.cell,U.cell,List.getElem?_cons_zero,List.getElem?_cons_succ,qbt,kbo,asSl_v];have n1:=n.grow (Q.trans I);have X:=m.grow (Q.trans I);have r2:=IRows.two n1 X p q;have g2:=qm h1 (.cells [.bool p,s.v,.bool q,t.v] ki);generalize h1.push (.cells [.bool p,s.v,.bool q,t.v] ki)=h2 at *
 obtain⟨K,e3,g3⟩:=kwu r2;have A:=g2.trans g3;have b3:=A.has b1;have c3:=A.has U;have Y:=n1.grow A;have Z:=X.grow A;have C:=(Q.trans I).trans A;obtain⟨h4,e4,g4⟩:=kqr Y Z;obtain⟨h5,e5,g5⟩:=kqr Z Y;rw[e3];simp only[qbt,kbo,List.all_cons,List.all_nil,Bool.and_true,b3.cell,c3.cell,List.getElem?_cons_zero,List.getElem?_cons_succ,asSl_v,e4,e5,kb];cases F:rtI p xs with
 | false=>exact⟨K,by simp[cmpI,F],C⟩
 | true =>
  cases H:rtI q ys with
  | false=>exact⟨K,by simp[cmpI,H],C⟩
  | true =>
   cases p<;>cases q
   ·exact⟨h4,by simp[cmpI,F,H],C.trans g4⟩
   ·exact⟨K,by simp[cmpI,F,H],C⟩
   ·exact⟨K,by simp[cmpI,F,H],C⟩
   ·exact⟨h5,by simp[cmpI,F,H],C.trans g5⟩
theorem kbgm{h:AH}{s t:Sl}{xs ys:List Nat}(n:Nats h s xs)(m:Nats h t ys)(p q:Bool):∃h',go (.fn kuo [.agg [.bool p,s.v],.agg [.bool q,t.v]]) h=some (.i (cmpI p xs q ys),h')/\Grow h h':=by
 rw[kbbh];simp only[kbw];have b0:=qo h [.bool p,s.v] ki;have Q:=qm h (.cells [.bool p,s.v] ki);generalize h.push (.cells [.bool p,s.v] ki)=h0 at *
 have X:=qo h0 [.bool q,t.v] ki;have I:=qm h0 (.cells [.bool q,t.v] ki);generalize h0.push (.cells [.bool q,t.v] ki)=h1 at *
 have b1:=I.has b0;have n1:=n.grow (Q.trans I);have Y:=m.grow (Q.trans I);obtain⟨h2,e2,U⟩:=keh n1 p;obtain⟨K,e3,g3⟩:=keh (Y.grow U) q;have A:=U.trans g3;have b3:=A.has b1;have c3:=A.has X;have Z:=n1.grow A;have m3:=Y.grow A;have C:=(Q.trans I).trans A;obtain⟨h4,e4,g4⟩:=kou Z m3;obtain⟨h5,e5,g5⟩:=kou m3 Z;simp only[qj,Nat.zero_add,b1.cell,(U.has X).cell,b3.cell,c3.cell,List.getElem?_cons_zero,List.getElem?_cons_succ,qbt,kbo,asSl_v,e2,e3,e4,e5,kb];cases F:rtI p xs with
 | false=>exact⟨K,by simp[cmpI,F],C⟩
 | true =>
  cases H:rtI q ys with
  | false=>exact⟨K,by simp[cmpI,H],C⟩
  | true =>
   cases p<;>cases q
   ·exact⟨h4,by simp[cmpI,F,H],C.trans g4⟩
   ·exact⟨K,by simp[cmpI,F,H],C⟩
   ·exact⟨K,by simp[cmpI,F,H],C⟩
   ·exact⟨h5,by simp[cmpI,F,H],C.trans g5⟩
def negI(neg:Bool)(xs:List Nat):Bool×List Nat:=if rtI neg xs=true then fromI (!neg) xs else(false,[])
theorem kbmm{h:AH}{s:Sl}{xs:List Nat}(n:Nats h s xs)(neg:Bool):∃(s':Sl)(h':AH),go (.fn kva [.agg [.bool neg,s.v]]) h=some (.agg [.bool (negI neg xs).1,s'.v],h')/\Nats h' s' (negI neg xs).2/\Grow h h'/\Own h s':=by
 rw[kbnc];simp only[kbw];have Y:=qo h [.bool neg,s.v] ki;have C:=qm h (.cells [.bool neg,s.v] ki);generalize h.push (.cells [.bool neg,s.v] ki)=h0 at *
 have Z:=qo h0 nilI ki;have I:=qm h0 (.cells nilI ki);generalize h0.push (.cells nilI ki)=h1 at *
 have b1:=I.has Y;have n1:=n.grow (C.trans I);obtain⟨h2,e2,F⟩:=km0 n1 neg;have H:=F.has Z;have b2:=F.has b1;have A:=(C.trans I).trans F;obtain⟨s3,h3,e3,n3,K,Q⟩:=kdo (n1.grow F) (!neg);have U:=K.has H;simp only[qj,Nat.zero_add,b1.cell,b2.cell,List.getElem?_cons_zero,List.getElem?_cons_succ,qbt,kbo,asSl_v,e2];cases X:rtI neg xs with
 | false =>
  rw[show negI neg xs=(false,[])from by simp[negI,X]];refine⟨⟨none,0,.is 0⟩,h2.upd h0.blks.size nilI ki,?_,qw _,A.upd C.size _ _,qu h⟩;simp[H.puts_all,qq H]
 | true =>rw[show negI neg xs=fromI (!neg) xs from by simp[negI,X]];refine⟨s3,h3.upd h0.blks.size [.bool (fromI (!neg) xs).1,s3.v] ki,?_,n3.upd Q H.lt _ _,(A.trans K).upd C.size _ _,Q.of_le A⟩;simp[e3,U.puts_all,qq U]
theorem k5d{h:AH}{s:Sl}{xs:List Nat}(n:Nats h s xs)(neg:Bool):∃(s':Sl)(h':AH),go (.fn ktx [.agg [.bool neg,s.v]]) h=some (.agg [.bool (negI neg xs).1,s'.v],h')/\Nats h' s' (negI neg xs).2/\Grow h h'/\Own h s':=by
 rw[kbaz];simp only[kbw];have Y:=qo h [.bool neg,s.v] ki;have C:=qm h (.cells [.bool neg,s.v] ki);generalize h.push (.cells [.bool neg,s.v] ki)=h0 at *
 have Z:=qo h0 nilI ki;have I:=qm h0 (.cells nilI ki);generalize h0.push (.cells nilI ki)=h1 at *
 have b1:=I.has Y;have n1:=n.grow (C.trans I);obtain⟨h2,e2,F⟩:=keh n1 neg;have H:=F.has Z;have b2:=F.has b1;have A:=(C.trans I).trans F;obtain⟨s3,h3,e3,n3,K,Q⟩:=kd2 (n1.grow F) (!neg);have U:=K.has H;simp only[qj,Nat.zero_add,b1.cell,b2.cell,List.getElem?_cons_zero,List.getElem?_cons_succ,qbt,kbo,asSl_v,e2];cases X:rtI neg xs with
 | false =>
  rw[show negI neg xs=(false,[])from by simp[negI,X]];refine⟨⟨none,0,.is 0⟩,h2.upd h0.blks.size nilI ki,?_,qw _,A.upd C.size _ _,qu h⟩;simp[H.puts_all,qq H]
 | true =>rw[show negI neg xs=fromI (!neg) xs from by simp[negI,X]];refine⟨s3,h3.upd h0.blks.size [.bool (fromI (!neg) xs).1,s3.v] ki,?_,n3.upd Q H.lt _ _,(A.trans K).upd C.size _ _,Q.of_le A⟩;simp[e3,U.puts_all,qq U]
theorem kf9(b:Nat)(ys:List Nat)(k:Nat):num b (ys.take (k+1))=num b (ys.take k)+b^k*ys.getD k 0:=by
 by_cases h:k<ys.length
 ·rw[kdt b h,kb0 h]
 ·rw[List.take_of_length_le (by omega),List.take_of_length_le (by omega)];simp[List.getD,List.getElem?_eq_none (show ys.length<=k by omega)]
theorem kbgn(zs:List Nat){i:Nat}(v:Nat)(h:i<zs.length):(zs.set i v).take (i+1)=zs.take i++[v]:=by
 apply List.ext_getElem?;intro j;rw[List.getElem?_take];by_cases hi:j<i
 ·rw[if_pos (by omega),List.getElem?_set_ne (by omega),List.getElem?_append_left (by simp;omega),List.getElem?_take,if_pos hi]
 ·by_cases A:j=i
  ·subst A;rw[if_pos (by omega),List.getElem?_set_self h,List.getElem?_append_right (by simp;omega)];simp[Nat.min_eq_left (show j<=zs.length by omega)]
  ·rw[if_neg (by omega),List.getElem?_eq_none (by simp;omega)]
theorem kso(b:Nat)(zs:List Nat){i:Nat}(v:Nat)(h:i<zs.length):num b ((zs.set i v).take (i+1))=num b (zs.take i)+b^i*v:=by rw[kbgn zs v h,kdn];simp[num,Nat.min_eq_left (Nat.le_of_lt h)]
theorem knp{h:AH}{j i:Nat}{zs:List Nat}(b:h.has j (zs.map u64) kg)(v:Nat)(hi:i<zs.length):h.puts (.new j i) [u64 v]=some (h.upd j ((zs.set i v).map u64) kg):=by simp only[AH.puts];rw[b.put (by simpa using hi)];simp[List.map_set]
theorem k4j{x y c:Nat}(A:x<B)(C:y<B)(F:c<=1):prim "math/bits.Add64" [u64 x,u64 y,u64 c]=some (.tup [u64 ((x+y+c)%B),u64 ((x+y+c)/B)]):=by show cond (decide (0<=(x:Int)/\0<=(y:Int)/\0<=(c:Int)/\(c:Int)<=1)) (some (AV.tup [.int .u64 (((x:Int)+y+c)%18446744073709551616),.int .u64 (((x:Int)+y+c)/18446744073709551616)])) none=_;rw[show decide (0<=(x:Int)/\0<=(y:Int)/\0<=(c:Int)/\(c:Int)<=1)=true from by rw[qbw];omega];rfl
theorem krm{xs:List Nat}(h:∀x∈xs,x<18446744073709551616)(i:Nat):xs.getD i 0<B:=by
 show _<18446744073709551616;by_cases hi:i<xs.length
 ·rw[kb0 hi];exact h _ (qb3 _)
 ·simp[List.getD,List.getElem?_eq_none (show xs.length<=i by omega)]
theorem k31{h:AH}{s t:Sl}{xs ys:List Nat}(n:Nats h s xs)(m:Nats h t ys)(hl:ys.length<=xs.length)(hs:xs.length<4611686018427387904){j:Nat}(K:h.blks.size<=j) :
  ∀(k i:Nat),i+k=xs.length->∀{hi:AH}{zs:List Nat}{c:Nat},Grow h hi->hi.has j (zs.map u64) kg->zs.length=xs.length+1->(∀z∈zs,z<18446744073709551616)->c<=1->
   num B (zs.take i)+B^i*c=num B (xs.take i)+num B (ys.take i)->
   ∃(h':AH)(zs':List Nat),go (.pt kdy khc [(0,s.v),(1,t.v),(5,Sl.v ⟨some (.new j 0),xs.length+1,.is (xs.length+1)⟩),(6,u64 c),(21,.i (xs.length:Int)),(22,.i (i:Int))]) hi =
    some (Sl.v ⟨some (.new j 0),xs.length+1,.is (xs.length+1)⟩,h')/\Grow h h'/\h'.has j (zs'.map u64) kg/\zs'.length=xs.length+1/\(∀z∈zs',z<18446744073709551616)/\num B zs'=num B xs+num B ys
 | 0,i,Q,hi,zs,c,g,b,U,A,X,inv=>by
  rw[kzb,show decide ((i:Int)<(xs.length:Int))=false from by rw[qbv];omega,cond_false,n.len];rw[kdq _ _ _ _ (by omega) (by show(xs.length:Int)<((xs.length+1:Nat):Int);omega)];simp only[qbt,Int.toNat_natCast,Nat.mul_one,qj,Nat.zero_add];rw[knp b c (by omega)];refine⟨_,zs.set xs.length c,rfl,g.upd K _ _,qp b _ _,by simpa using U,λz C=>?_,?_⟩
  ·rcases List.mem_or_eq_of_mem_set C with h1 | rfl
   ·exact A z h1
   ·omega
  ·have e:=kso B zs c (i:=xs.length) (by omega);rw[List.take_of_length_le (by simp;omega)]at e;have:i=xs.length:=by omega
   subst this;rw[e,inv,List.take_length,List.take_of_length_le hl]
 | k+1,i,Q,hi,zs,c,g,b,U,A,X,inv=>by
  have n':=n.grow g;have m':=m.grow g;obtain⟨r,e1,e2⟩:=n'.at (i:=i) (by omega);have Y:xs.getD i 0<B:=krm n.lt i;have Z:ys.getD i 0<B:=krm m.lt i
  have next:∃(h':AH)(zs':List Nat),go (.pt kdy khc [(0,s.v),(1,t.v),(5,Sl.v ⟨some (.new j 0),xs.length+1,.is (xs.length+1)⟩),(6,u64 ((xs.getD i 0+ys.getD i 0+c)/B)),(21,.i (xs.length:Int)),(22,.i ((i+1:Nat):Int))]) (hi.upd j ((zs.set i ((xs.getD i 0+ys.getD i 0+c)%B)).map u64) kg) =
    some (Sl.v ⟨some (.new j 0),xs.length+1,.is (xs.length+1)⟩,h')/\Grow h h'/\h'.has j (zs'.map u64) kg/\zs'.length=xs.length+1/\(∀z∈zs',z<18446744073709551616)/\num B zs'=num B xs+num B ys:=by
   refine k31 n m hl hs K k (i+1) (by omega) (g.upd K _ _) (qp b _ _) (by simpa using U) (λz C=>?_) ?_ ?_
   ·rcases List.mem_or_eq_of_mem_set C with h1 | rfl
    ·exact A z h1
    ·exact Nat.mod_lt _ (by decide)
   ·have h1:xs.getD i 0<18446744073709551616:=Y;have h2:ys.getD i 0<18446744073709551616:=Z;show(xs.getD i 0+ys.getD i 0+c)/18446744073709551616<=1;omega
   ·rw[kso B zs _ (by omega),kf9 B xs i,kf9 B ys i];have e:=Nat.mod_add_div (xs.getD i 0+ys.getD i 0+c) B;generalize hq:(xs.getD i 0+ys.getD i 0+c)%B=q at *
    generalize hw:(xs.getD i 0+ys.getD i 0+c)/B=w at *
    rw[Nat.pow_succ,Nat.mul_assoc,Nat.add_assoc,<- Nat.mul_add,e,Nat.mul_add,Nat.mul_add];omega
  rw[kzb,show decide ((i:Int)<(xs.length:Int))=true from by rw[qbw];omega,cond_true,m.len,kj (by omega)]
  have put:idx (some (.new j 0)) (xs.length+1) (i:Int) 1=some (.new j i):=by rw[kdq _ _ _ _ (by omega) (by omega)];simp
  by_cases H:i<ys.length
  ·obtain⟨q,e3,e4⟩:=m'.at (i:=i) H;rw[show decide ((i:Int)<(ys.length:Int))=true from by rw[qbw];omega,cond_true];rw[<- m.len,e3,e1];simp only[qbt,e2,e4,kb];have ex:((xs[i]:Nat):Int)=((xs.getD i 0:Nat):Int):=by rw[kb0 (by omega)]
   have ey:((ys[i]:Nat):Int)=((ys.getD i 0:Nat):Int):=by rw[kb0 H]
   rw[ex,ey];have F:=k4j Y Z X;simp only[u64]at F|-;rw[F];simp only[Option.map_some,qbt,kc5,kb,put];rw[show hi.puts (.new j i) [AV.int .u64 (((xs.getD i 0+ys.getD i 0+c)%B:Nat):Int)]=_ from knp b _ (by omega)];exact next
  ·have I:ys.getD i 0=0:=by simp[List.getD,List.getElem?_eq_none (show ys.length<=i by omega)]
   rw[show decide ((i:Int)<(ys.length:Int))=false from by rw[qbv];omega,cond_false,e1];simp only[qbt,e2,kb];have ex:((xs[i]:Nat):Int)=((xs.getD i 0:Nat):Int):=by rw[kb0 (by omega)]
   rw[ex];have F:=k4j Y Z X;simp only[u64]at F|-;rw[I]at F;rw[show(AV.int .u64 0)=AV.int .u64 ((0:Nat):Int)from rfl,F];simp only[Option.map_some,qbt,kc5,kb,put];rw[I]at next;rw[show hi.puts (.new j i) [AV.int .u64 (((xs.getD i 0+0+c)%B:Nat):Int)]=_ from knp b _ (by omega)];exact next
theorem k4c{h:AH}{l:Int}{n:Nat}(A:l=(n:Int))(C:n<=8796093022207):kby l l kg (Pg.bytesOf kg) [.int .u64 0] h=some (⟨some (.new h.blks.size 0),n,.is n⟩,h.push (.cells ((List.replicate n 0).map u64) kg)):=by rw[kes,kvh A A (by omega) (by omega),kzr];simp;rfl
theorem kr8{h:AH}{s t:Sl}{xs ys:List Nat}(n:Nats h s xs)(m:Nats h t ys)(X:xs.length<=1073741824)(hy:ys.length<=1073741824) :
  ∃(s':Sl)(h':AH)(zs:List Nat),go (.fn kdy [s.v,t.v]) h=some (s'.v,h')/\Nats h' s' zs/\Grow h h'/\Own h s'/\num B zs=num B xs+num B ys/\zs.length=max xs.length ys.length+1:=by
 have key:∀{s t:Sl}{xs ys:List Nat},Nats h s xs->Nats h t ys->xs.length<=1073741824->ys.length<=xs.length->∃(s':Sl)(h':AH)(zs:List Nat),
   ((kby (IntKind.wrap .i64 ((s.len:Int)+1)) (IntKind.wrap .i64 ((s.len:Int)+1)) kg (Pg.bytesOf kg) [.int .u64 0] h).bind λY =>
   go (.pt kdy khc [(0,s.v),(1,t.v),(5,Y.1.v),(6,.int .u64 0),(21,.i (s.len:Int)),(22,.i 0)]) Y.2)=some (s'.v,h')/\Nats h' s' zs/\Grow h h'/\Own h s'/\num B zs=num B xs+num B ys/\zs.length=xs.length+1:=by
  intro s t xs ys n m X C;rw[n.len,kj (by omega),k4c rfl (by omega)];simp only[qbt];have g0:=qm h (.cells ((List.replicate (xs.length+1) 0).map u64) kg);have b0:=qo h ((List.replicate (xs.length+1) 0).map u64) kg;obtain⟨h',zs,A,g1,b1,Z,F,v1⟩:=k31 n m C (by omega) (qbp h.blks.size) xs.length 0 (by omega) (c:=0) g0 b0 (by simp) (by simp) (by omega) (by simp[num]);refine⟨_,h',zs,A,⟨qr b1 (by simp[Z]),F,by omega⟩,g1,λr hr=>?_,v1,Z⟩;cases hr;exact⟨_,_,rfl,qbp _⟩
 rw[kbjf];by_cases aa:xs.length<ys.length
 ·rw[show decide ((s.len:Int)<(t.len:Int))=true from by rw[qbw,n.len,m.len];omega,cond_true];obtain⟨s',h',zs,A,H,I,K,Q,U⟩:=key m n hy (by omega);exact⟨s',h',zs,A,H,I,K,by rw[Q];omega,by rw[U];omega⟩
 ·rw[show decide ((s.len:Int)<(t.len:Int))=false from by rw[qbv,n.len,m.len];omega,cond_false];obtain⟨s',h',zs,A,H,I,K,Q,U⟩:=key n m X (by omega);exact⟨s',h',zs,A,H,I,K,Q,by rw[U];omega⟩
def told(n:Nat):List Nat×Int:=if n<B^64 then(digs B n,0)else([],4)
theorem ktr{h:AH}{s:Sl}{xs:List Nat}(n:Nats h s xs):∃s':Sl,go (.fn knu [s.v]) h=some (.tup [s'.v,.i (told (num B xs)).2],h)/\Nats h s' (told (num B xs)).1/\∀h0,Own h0 s->Own h0 s':=by
 obtain⟨s',C,n1,F⟩:=kea n;rw[kbak,C];simp only[qbt,asSl_v];unfold told;by_cases A:num B xs<B^64
 ·have:=(kbl B2 (num B xs) 64).2 A;rw[if_pos A,show decide ((s'.len:Int)>64)=false from by rw[qbv,n1.len];omega];exact⟨s',rfl,n1,F⟩
 ·have:¬(digs B (num B xs)).length<=64:=λh=>A ((kbl B2 _ _).1 h);rw[if_neg A,show decide ((s'.len:Int)>64)=true from by rw[qbw,n1.len];omega];exact⟨⟨none,0,.is 0⟩,rfl,qw h,λh0 _=>qu h0⟩
def addN(xs ys:List Nat):List Nat×Int:=if rt xs=true/\rt ys=true then told (num B xs+num B ys)else([],1)
theorem k32{h:AH}{s t:Sl}{xs ys:List Nat}(n:Nats h s xs)(m:Nats h t ys):∃(s':Sl)(h':AH),go (.fn kpd [s.v,t.v]) h=some (.tup [s'.v,.i (addN xs ys).2],h')/\Nats h' s' (addN xs ys).1/\Grow h h'/\Own h s':=by
 rw[k5o];simp only[kbw];have r:=Rows.two n m;have g:=qm h (.cells [s.v,t.v] kc2);generalize h.push (.cells [s.v,t.v] kc2)=h0 at *
 rw[kmq r];simp only[qbt,kbo,List.all_cons,List.all_nil,Bool.and_true];by_cases A:rt xs=true/\rt ys=true
 ·rw[show addN xs ys=told (num B xs+num B ys)from by simp[addN,A]];simp only[A.1,A.2,Bool.and_self,Bool.not_true,cond_false];have X:=(rt_iff.1 A.1).1;have Y:=(rt_iff.1 A.2).1;obtain⟨s1,h1,zs,H,n1,I,K,Q,_⟩:=kr8 (n.grow g) (m.grow g) (by omega) (by omega);obtain⟨s2,C,F,U⟩:=ktr n1;rw[Q]at C F;simp only[H,C,qbt,asSl_v,kc5,kb];exact⟨s2,h1,rfl,F,g.trans I,(U h0 K).of_le g⟩
 ·rw[show addN xs ys=([],1)from by simp only[addN,if_neg A]]
  have:(rt xs&&rt ys)=false:=by
   cases Z:rt xs<;>cases hy:rt ys<;>simp_all
  rw[this];exact⟨⟨none,0,.is 0⟩,h0,rfl,qw _,g,qu h⟩
theorem kbi6(x y c:Int):prim "math/bits.Sub64" [.int .u64 x,.int .u64 y,.int .u64 c]=cond (decide (0<=x/\0<=y/\y<18446744073709551616/\0<=c/\c<=1)) (some (AV.tup [.int .u64 ((x-y-c)%18446744073709551616),.int .u64 (cond (decide (x<y+c)) 1 0)])) none:=by
 unfold prim;have s1:("math/bits.Sub64" == "math/bits.Add64")=false:=by decide +kernel
 rw[s1];rfl
theorem kbjl{x y c:Nat}(F:x<B)(H:y<B)(K:c<=1):∃z w:Nat,prim "math/bits.Sub64" [u64 x,u64 y,u64 c]=some (.tup [u64 z,u64 w])/\z<B/\w<=1/\z+y+c=x+B*w:=by
 have F:x<18446744073709551616:=F;have H:y<18446744073709551616:=H;have e:prim "math/bits.Sub64" [u64 x,u64 y,u64 c]=cond (decide (0<=(x:Int)/\0<=(y:Int)/\(y:Int)<18446744073709551616/\0<=(c:Int)/\(c:Int)<=1)) (some (AV.tup [.int .u64 (((x:Int)-y-c)%18446744073709551616),.int .u64 (cond (decide ((x:Int)<y+c)) 1 0)])) none:=kbi6 _ _ _;rw[e,show decide (0<=(x:Int)/\0<=(y:Int)/\(y:Int)<18446744073709551616/\0<=(c:Int)/\(c:Int)<=1)=true from by rw[qbw];omega,cond_true];obtain⟨z,I⟩:∃z:Nat,((x:Int)-y-c)%18446744073709551616=(z:Int):=⟨_,(Int.toNat_of_nonneg (Int.emod_nonneg _ (by decide))).symm⟩;rw[I];by_cases h:x<y+c
 ·rw[show decide ((x:Int)<y+c)=true from by rw[qbw];omega];have A:z<18446744073709551616:=by omega
  have C:z+y+c=x+18446744073709551616*1:=by omega
  exact⟨z,1,rfl,A,by omega,C⟩
 ·rw[show decide ((x:Int)<y+c)=false from by rw[qbv];omega];have A:z<18446744073709551616:=by omega
  have C:z+y+c=x+18446744073709551616*0:=by omega
  exact⟨z,0,rfl,A,by omega,C⟩
theorem k4g{b p c x y z w zs ys xs:Nat}(C:zs+ys=xs+p*c)(A:z+y+c=x+b*w):zs+p*z+(ys+p*y)=xs+p*x+p*b*w:=by have:=congrArg (λq=>p*q) A;simp only[Nat.mul_add]at this;rw[Nat.mul_assoc];omega
theorem k3t{h:AH}{s t:Sl}{xs ys:List Nat}(n:Nats h s xs)(m:Nats h t ys)(hl:ys.length<=xs.length)(hs:xs.length<4611686018427387904){j:Nat}(hj:h.blks.size<=j) :
  ∀(k i:Nat),i+k=xs.length->∀{hi:AH}{zs:List Nat}{c:Nat},Grow h hi->hi.has j (zs.map u64) kg->zs.length=xs.length->(∀z∈zs,z<18446744073709551616)->c<=1->
   num B (zs.take i)+num B (ys.take i)=num B (xs.take i)+B^i*c->
   ∃(h':AH)(zs':List Nat)(H:Nat),go (.pt kd0 kkl [(0,s.v),(1,t.v),(5,Sl.v ⟨some (.new j 0),xs.length,.is xs.length⟩),(6,u64 c),(13,.i (xs.length:Int)),(14,.i (i:Int))]) hi =
    some (Sl.v ⟨some (.new j 0),xs.length,.is xs.length⟩,h')/\Grow h h'/\h'.has j (zs'.map u64) kg/\zs'.length=xs.length/\(∀z∈zs',z<18446744073709551616)/\num B zs'+num B ys=num B xs+B^xs.length*H
 | 0,i,I,hi,zs,c,g,b,K,A,hc,inv=>by
  rw[k3d,show decide ((i:Int)<(xs.length:Int))=false from by rw[qbv];omega,cond_false];have:i=xs.length:=by omega
  subst this;rw[List.take_of_length_le (by omega),List.take_of_length_le hl,List.take_length]at inv;exact⟨hi,zs,c,rfl,g,b,K,A,inv⟩
 | k+1,i,I,hi,zs,c,g,b,K,A,hc,inv=>by
  have n':=n.grow g;have m':=m.grow g;obtain⟨r,e1,e2⟩:=n'.at (i:=i) (by omega);have hx:xs.getD i 0<B:=krm n.lt i;have hy:ys.getD i 0<B:=krm m.lt i;obtain⟨z,w,C,Q,hw,U⟩:=kbjl hx hy hc
  have next:∃(h':AH)(zs':List Nat)(H:Nat),go (.pt kd0 kkl [(0,s.v),(1,t.v),(5,Sl.v ⟨some (.new j 0),xs.length,.is xs.length⟩),(6,u64 w),(13,.i (xs.length:Int)),(14,.i ((i+1:Nat):Int))]) (hi.upd j ((zs.set i z).map u64) kg) =
    some (Sl.v ⟨some (.new j 0),xs.length,.is xs.length⟩,h')/\Grow h h'/\h'.has j (zs'.map u64) kg/\zs'.length=xs.length/\(∀z∈zs',z<18446744073709551616)/\num B zs'+num B ys=num B xs+B^xs.length*H:=by
   refine k3t n m hl hs hj k (i+1) (by omega) (g.upd hj _ _) (qp b _ _) (by simpa using K) (λy X=>?_) hw ?_
   ·rcases List.mem_or_eq_of_mem_set X with h1 | rfl
    ·exact A y h1
    ·exact Q
   ·rw[kso B zs _ (by omega),kf9 B xs i,kf9 B ys i,Nat.pow_succ];exact k4g inv U
  rw[k3d,show decide ((i:Int)<(xs.length:Int))=true from by rw[qbw];omega,cond_true,m.len,kj (by omega)];generalize prim "math/bits.Sub64" = f at C|-
  have put:idx (some (.new j 0)) xs.length (i:Int) 1=some (.new j i):=by rw[kdq _ _ _ _ (by omega) (by omega)];simp
  by_cases F:i<ys.length
  ·obtain⟨q,e3,e4⟩:=m'.at (i:=i) F;rw[show decide ((i:Int)<(ys.length:Int))=true from by rw[qbw];omega,cond_true];rw[<- m.len,e3,e1];rw[qbt,e4,qbt,kb,qbt,qbt,e2,qbt,kb,qbt];have Y:((xs[i]:Nat):Int)=((xs.getD i 0:Nat):Int):=by rw[kb0 (by omega)]
   have ey:((ys[i]:Nat):Int)=((ys.getD i 0:Nat):Int):=by rw[kb0 F]
   rw[Y,ey];simp only[u64]at C|-;rw[C];simp only[Option.map_some,qbt,kc5,kb,put];rw[show hi.puts (.new j i) [AV.int .u64 ((z:Nat):Int)]=_ from knp b _ (by omega)];exact next
  ·have Z:ys.getD i 0=0:=by simp[List.getD,List.getElem?_eq_none (show ys.length<=i by omega)]
   rw[show decide ((i:Int)<(ys.length:Int))=false from by rw[qbv];omega,cond_false,e1];simp only[qbt,e2,kb];have Y:((xs[i]:Nat):Int)=((xs.getD i 0:Nat):Int):=by rw[kb0 (by omega)]
   rw[Y];simp only[u64]at C|-;rw[Z]at C;rw[show(AV.int .u64 0)=AV.int .u64 ((0:Nat):Int)from rfl,C];simp only[Option.map_some,qbt,kc5,kb,put];rw[show hi.puts (.new j i) [AV.int .u64 ((z:Nat):Int)]=_ from knp b _ (by omega)];exact next
theorem krn{h:AH}{s t:Sl}{xs ys:List Nat}(n:Nats h s xs)(m:Nats h t ys)(hx:xs.length<=1073741824)(F:ys.length<=xs.length)(H:num B ys<=num B xs) :
  ∃(s':Sl)(h':AH)(zs:List Nat),go (.fn kd0 [s.v,t.v]) h=some (s'.v,h')/\Nats h' s' zs/\Grow h h'/\Own h s'/\num B zs=num B xs-num B ys/\zs.length=xs.length:=by
 rw[kbhy,n.len,k4c rfl (by omega)];simp only[qbt];have I:=qm h (.cells ((List.replicate xs.length 0).map u64) kg);have K:=qo h ((List.replicate xs.length 0).map u64) kg;obtain⟨h',zs,c,Q,U,b1,C,A,X⟩:=k3t n m F (by omega) (qbp h.blks.size) xs.length 0 (by omega) (c:=0) I K (by simp) (by simp) (by omega) (by simp[num]);have Y:=num_lt (b:=B) (by decide) A;rw[C]at Y
 have Z:c=0:=by
  rcases Nat.eq_zero_or_pos c with h0 | h0
  ·exact h0
  ·have:B^xs.length*1<=B^xs.length*c:=Nat.mul_le_mul_left _ h0;omega
 rw[Z,Nat.mul_zero,Nat.add_zero]at X;refine⟨_,h',zs,Q,⟨qr b1 (by simp[C]),A,by omega⟩,U,λr hr=>?_,by omega,C⟩;cases hr;exact⟨_,_,rfl,qbp _⟩
def subN(xs ys:List Nat):List Nat×Int:=if rt xs=true/\rt ys=true then(if num B xs<num B ys then([],2)else(digs B (num B xs-num B ys),0))else([],1)
theorem k1o{xs ys:List Nat}(A:∀x∈xs,x<18446744073709551616)(C:∀x∈ys,x<18446744073709551616)(ty:Trim ys)(h:num B ys<=num B xs):ys.length<=xs.length:=by
 rcases Nat.lt_or_ge xs.length ys.length with h1 | h1
 ·have:=ktj B2 A C ty h1;omega
 ·exact h1
theorem k2q{xs ys:List Nat}(A:∀x∈xs,x<18446744073709551616)(h:xs.length<=64):told (num B xs-num B ys)=(digs B (num B xs-num B ys),0):=by have h1:=num_lt (b:=B) (by decide) A;have C:B^xs.length<=B^64:=Nat.pow_le_pow_right (by decide) h;unfold told;rw[if_pos (by omega)]
theorem kvd{h:AH}{s t:Sl}{xs ys:List Nat}(n:Nats h s xs)(m:Nats h t ys):∃(s':Sl)(h':AH),go (.fn kml [s.v,t.v]) h=some (.tup [s'.v,.i (subN xs ys).2],h')/\Nats h' s' (subN xs ys).1/\Grow h h'/\Own h s':=by
 rw[k5e];simp only[kbw];have r:=Rows.two n m;have g:=qm h (.cells [s.v,t.v] kc2);generalize h.push (.cells [s.v,t.v] kc2)=h0 at *
 rw[kmq r];simp only[qbt,kbo,List.all_cons,List.all_nil,Bool.and_true];by_cases A:rt xs=true/\rt ys=true
 ·simp only[A.1,A.2,Bool.and_self,Bool.not_true,cond_false];have F:=rt_iff.1 A.1;have H:=rt_iff.1 A.2;rw[kp2 (n.grow g) (m.grow g) F.2 H.2];simp only[qbt,kb];by_cases C:num B xs<num B ys
  ·rw[show subN xs ys=([],2)from by simp[subN,A,C]];rw[show decide (cmp (num B xs) (num B ys)<0)=true from by rw[qbw];simp[cmp,C]];exact⟨⟨none,0,.is 0⟩,h0,rfl,qw _,g,qu h⟩
  ·rw[show subN xs ys=told (num B xs-num B ys)from by rw[k2q n.lt F.1];simp[subN,A,C]];rw[show decide (cmp (num B xs) (num B ys)<0)=false from by rw[qbv];unfold cmp;rw[if_neg C];split<;>omega];simp only[cond_false];obtain⟨s1,h1,zs,Q,n1,U,X,Y,_⟩:=krn (n.grow g) (m.grow g) (by omega) (k1o n.lt m.lt H.2 (by omega)) (by omega);obtain⟨s2,I,K,Z⟩:=ktr n1;rw[Y]at I K;simp only[Q,I,qbt,asSl_v,kc5,kb];exact⟨s2,h1,rfl,K,g.trans U,(Z h0 X).of_le g⟩
 ·rw[show subN xs ys=([],1)from by simp only[subN,if_neg A]]
  have:(rt xs&&rt ys)=false:=by
   cases hx:rt xs<;>cases hy:rt ys<;>simp_all
  rw[this];exact⟨⟨none,0,.is 0⟩,h0,rfl,qw _,g,qu h⟩
theorem ktc{n:Nat}(h:n<18446744073709551616):IntKind.wrap .u64 (n:Int)=(n:Int):=by rw[wrapU,Int.emod_eq_of_lt (by omega) (by omega)]
theorem ku5{h:AH}{s:Sl}{xs:List Nat}(n:Nats h s xs)(i:Nat):go (.fn kiz [s.v,.i (i:Int)]) h=some (u64 (xs.getD i 0),h):=by
 rw[kbib,n.len];by_cases hi:i<xs.length
 ·obtain⟨r,A,C⟩:=n.at (i:=i) hi;rw[n.len]at A;rw[show decide ((i:Int)<(xs.length:Int))=true from by rw[qbw];omega,cond_true,A,qbt,C,qbt,kb,qbt,kb0 hi]
 ·rw[show decide ((i:Int)<(xs.length:Int))=false from by rw[qbv];omega,cond_false];simp[List.getD,List.getElem?_eq_none (show xs.length<=i by omega)]
theorem Mine.append_one{h0 h:AH}{d:Sl}{ds:List Nat}(M:Mine h0 h d kg 1 (ds.map u64))(x:Nat)(C:ds.length<8796093022208){R:Type}(k:Sl->AH->Option R) :
  ∃(A:Sl)(h':AH),((kbg Pg kg (Sl.v ⟨some (.new h.blks.size 0),1,.is 1⟩) (h.push (.cells [u64 x] kg))).bind λp=>(kv Pg d p.1 p.2 kg 1 (h.push (.cells [u64 x] kg))).bind λq=>(AV.asSl q.1).bind λl=>k l q.2)=k A h'/\Mine h0 h' A kg 1 ((ds++[x]).map u64):=by
 have c:Cells (h.push (.cells [u64 x] kg)) ⟨some (.new h.blks.size 0),1,.is 1⟩ (Pg.cellsOf kg) [u64 x]:=by rw[kn6];exact qr (qo h [u64 x] kg) rfl
 obtain⟨A,h',F,H⟩:=(M.grow' (qm h (.cells [u64 x] kg))).push_u64 x C;refine⟨A,h',?_,H⟩;rw[kk5 c,qbt,F,qbt,asSl_v,qbt]
theorem kpl{xs:List Nat}(h:∀x∈xs,x<D)(i:Nat):xs.getD i 0<D:=by
 show _<65536;by_cases hi:i<xs.length
 ·rw[kb0 hi];exact h _ (qb3 _)
 ·simp[List.getD,List.getElem?_eq_none (show xs.length<=i by omega)]
theorem k5p{b p c x y q w zs ys xs:Nat}(C:zs+p*c=xs+ys)(A:q+b*w=x+y+c):zs+p*q+p*b*w=xs+p*x+(ys+p*y):=by have:=congrArg (λq=>p*q) A;simp only[Nat.mul_add]at this;rw[Nat.mul_assoc];omega
theorem kxx{h:AH}{s t:Sl}{xs ys:List Nat}(n:Nats h s xs)(m:Nats h t ys)(hx:∀x∈xs,x<D)(hy:∀x∈ys,x<D)(lx:xs.length<=1073741824)(ly:ys.length<=1073741824) :
  ∀(k i:Nat),i+k=max xs.length ys.length->∀{hi:AH}{d:Sl}{ds:List Nat}{c:Nat},Mine h hi d kg 1 (ds.map u64)->ds.length=i->(∀z∈ds,z<D)->c<=1->num D ds+D^i*c=num D (xs.take i)+num D (ys.take i)->
   ∃(s':Sl)(h':AH),go (.pt kf6 kj9 [(0,s.v),(1,t.v),(5,d.v),(6,u64 c),(7,.i (i:Int))]) hi=some (s'.v,h')/\Nats h' s' (digs D (num D xs+num D ys))/\Grow h h'/\Own h s'
 | 0,i,Z,hi,d,ds,c,M,U,hd,hc,inv=>by
  have i1:xs.length<=i:=by omega
  have i2:ys.length<=i:=by omega
  rw[kyu,n.len,m.len,show decide ((i:Int)<(xs.length:Int))=false from by rw[qbv];omega,cond_false,show decide ((i:Int)<(ys.length:Int))=false from by rw[qbv];omega,cond_false];simp only[kbw];obtain⟨d',h',X,H⟩:=M.append_one c (by omega) (λl hh=>(go (.fn kdx [l.v]) hh).bind λI=>((some I.1).bind AV.asSl).bind λaa=>some (aa.v,I.2))
  have K:∀z∈ds++[c],z<D:=λz Q=>by
   rcases qb5.1 Q with h1 | h1
   ·exact hd z h1
   ·simp at h1;subst h1;show _<65536;omega
  have N:Nats h' d' (ds++[c]):=⟨H.cells,λz Q=>by have:z<65536:=K z Q;omega,by simp;omega⟩;obtain⟨s',Y,n2,o2⟩:=kkn N K
  have v:num D (ds++[c])=num D xs+num D ys:=by rw[kdn,U];simp only[num,Nat.mul_zero,Nat.add_zero];rw[inv,List.take_of_length_le i1,List.take_of_length_le i2]
  rw[v]at n2;refine⟨s',h',?_,n2,H.grow,o2 h H.own_of⟩;refine Eq.trans X ?_;simp only[Y,qbt,asSl_v]
 | k+1,i,Z,hi,d,ds,c,M,U,hd,hc,inv=>by
  have n':=n.grow M.grow;have m':=m.grow M.grow;have x1:xs.getD i 0<65536:=kpl hx i;have y1:ys.getD i 0<65536:=kpl hy i
  have A:IntKind.wrap .u64 (IntKind.wrap .u64 (((xs.getD i 0:Nat):Int)+((ys.getD i 0:Nat):Int))+(c:Int))=((xs.getD i 0+ys.getD i 0+c:Nat):Int):=by rw[<- Int.natCast_add,ktc (by omega),<- Int.natCast_add,ktc (by omega)]
  have C:Int.tmod ((xs.getD i 0+ys.getD i 0+c:Nat):Int) 65536=(((xs.getD i 0+ys.getD i 0+c)%65536:Nat):Int):=by rw[Int.tmod_eq_emod_of_nonneg (by omega)];omega
  have F:IntKind.wrap .u64 (Int.tdiv ((xs.getD i 0+ys.getD i 0+c:Nat):Int) 65536)=(((xs.getD i 0+ys.getD i 0+c)/65536:Nat):Int):=by rw[Int.tdiv_eq_ediv_of_nonneg (by omega),<- ktc (n:=(xs.getD i 0+ys.getD i 0+c)/65536) (by omega)];congr 1
  obtain⟨d',h',X,H⟩:=M.append_one ((xs.getD i 0+ys.getD i 0+c)%65536) (by omega) (λl hh=>go (.pt kf6 kj9 [(0,s.v),(1,t.v),(5,l.v),(6,u64 ((xs.getD i 0+ys.getD i 0+c)/65536)),(7,.i ((i+1:Nat):Int))]) hh)
  obtain⟨s',h2,Y,r⟩:=kxx n m hx hy lx ly k (i+1) (by omega) H (by simp[U]) (λz Q=>by
   rcases qb5.1 Q with h1 | h1
   ·exact hd z h1
   ·simp at h1;subst h1;exact Nat.mod_lt _ (by decide)) (c:=(xs.getD i 0+ys.getD i 0+c)/65536) (by omega) (by
   rw[kdn,U,kf9 D xs i,kf9 D ys i,Nat.pow_succ];simp only[num,Nat.mul_zero,Nat.add_zero];exact k5p inv (Nat.mod_add_div _ _))
  refine⟨s',h2,?_,r⟩;rw[kyu,n.len,m.len];have dx:=ku5 n' i;have dy:=ku5 m' i;by_cases h1:i<xs.length
  ·rw[show decide ((i:Int)<(xs.length:Int))=true from by rw[qbw];omega,cond_true,dx,qbt,qbt,kb,qbt,dy,qbt,qbt,kb,qbt,A,C,F,kj (by omega),kbw];exact X.trans Y
  ·rw[show decide ((i:Int)<(xs.length:Int))=false from by rw[qbv];omega,cond_false,show decide ((i:Int)<(ys.length:Int))=true from by rw[qbw];omega,cond_true,dx,qbt,qbt,kb,qbt,dy,qbt,qbt,kb,qbt,A,C,F,kj (by omega),kbw];exact X.trans Y
theorem kbdt{h:AH}{s t:Sl}{xs ys:List Nat}(n:Nats h s xs)(m:Nats h t ys)(A:∀x∈xs,x<D)(C:∀x∈ys,x<D)(F:xs.length<=1073741824)(H:ys.length<=1073741824) :
  ∃(s':Sl)(h':AH),go (.fn kf6 [s.v,t.v]) h=some (s'.v,h')/\Nats h' s' (digs D (num D xs+num D ys))/\Grow h h'/\Own h s':=by
 rw[kbfe];exact kxx n m A C F H (max xs.length ys.length) 0 (by omega) (ds:=[]) (c:=0) (Mine.nil h kg 1) rfl (by simp) (by omega) (by simp[num])
end Go.Ab
set_option maxRecDepth 10000
namespace Go.Ab
open IntKind (wrap)
open Go.Proofs Go.Num
theorem kbh2{x y c:Nat}(A:x<65536)(C:y<65536)(F:c<=1):∃z w:Nat,z<65536/\w<=1/\z+y+c=x+65536*w/\
  Int.tmod (wrap .u64 ((wrap .u64 ((wrap .u64 (65536+(x:Int)))-(y:Int)))-(c:Int))) 65536=(z:Int)/\
  wrap .u64 (1-(wrap .u64 (Int.tdiv (wrap .u64 ((wrap .u64 ((wrap .u64 (65536+(x:Int)))-(y:Int)))-(c:Int))) 65536)))=(w:Int):=by
 have e:wrap .u64 ((wrap .u64 ((wrap .u64 (65536+(x:Int)))-(y:Int)))-(c:Int))=65536+(x:Int)-y-c:=by rw[wrapU,wrapU,wrapU];omega
 rw[e];have p:0<=65536+(x:Int)-y-c:=by omega
 rw[Int.tmod_eq_emod_of_nonneg p,Int.tdiv_eq_ediv_of_nonneg p];by_cases h:x<y+c
 ·exact⟨(65536+(x:Int)-y-c).toNat,1,by omega,by omega,by omega,by omega,by rw[wrapU,wrapU];omega⟩
 ·exact⟨((x:Int)-y-c).toNat,0,by omega,by omega,by omega,by omega,by rw[wrapU,wrapU];omega⟩
theorem k1j{h:AH}{s t:Sl}{xs ys:List Nat}(n:Nats h s xs)(m:Nats h t ys)(Y:∀x∈xs,x<D)(Z:∀x∈ys,x<D)(lx:xs.length<=1073741824)(F:ys.length<=xs.length)(H:num D ys<=num D xs) :
  ∀(k i:Nat),i+k=xs.length->∀{hi:AH}{d:Sl}{ds:List Nat}{c:Nat},Mine h hi d kg 1 (ds.map u64)->ds.length=i->(∀z∈ds,z<D)->c<=1->num D ds+num D (ys.take i)=num D (xs.take i)+D^i*c->
   ∃(s':Sl)(h':AH),go (.pt kgc kn0 [(0,s.v),(1,t.v),(5,d.v),(6,u64 c),(7,.i (i:Int))]) hi=some (s'.v,h')/\Nats h' s' (digs D (num D xs-num D ys))/\Grow h h'/\Own h s'
 | 0,i,I,hi,d,ds,c,M,C,A,hc,inv=>by
  have i1:i=xs.length:=by omega
  rw[k30,n.len,show decide ((i:Int)<(xs.length:Int))=false from by rw[qbv];omega,cond_false];have N:Nats hi d ds:=⟨M.cells,λz K=>by have:z<65536:=A z K;omega,by omega⟩;obtain⟨s',Q,n2,o2⟩:=kkn N A
  have v:num D ds=num D xs-num D ys:=by
   rw[List.take_of_length_le (by omega),List.take_of_length_le (by omega)]at inv;have b:=num_lt (b:=D) (by decide) A;rw[C]at b
   have c0:c=0:=by
    rcases Nat.eq_zero_or_pos c with h0 | h0
    ·exact h0
    ·have:D^i*1<=D^i*c:=Nat.mul_le_mul_left _ h0;omega
   rw[c0,Nat.mul_zero]at inv;omega
  rw[v]at n2;refine⟨s',hi,?_,n2,M.grow,o2 h M.own_of⟩;rw[Q,qbt,qbt,asSl_v,qbt]
 | k+1,i,I,hi,d,ds,c,M,C,A,hc,inv=>by
  have n':=n.grow M.grow;have m':=m.grow M.grow;obtain⟨r,e1,Q⟩:=n'.at (i:=i) (by omega);have x1:xs.getD i 0<65536:=kpl Y i;have y1:ys.getD i 0<65536:=kpl Z i;obtain⟨z,w,K,hw,U,q1,q2⟩:=kbh2 x1 y1 hc;obtain⟨d',h',a1,M'⟩:=M.append_one z (by omega) (λl hh=>go (.pt kgc kn0 [(0,s.v),(1,t.v),(5,l.v),(6,u64 w),(7,.i ((i+1:Nat):Int))]) hh)
  obtain⟨s',h2,a2,r2⟩:=k1j n m Y Z lx F H k (i+1) (by omega) M' (by simp[C]) (λy X=>by
   rcases qb5.1 X with h1 | h1
   ·exact A y h1
   ·simp at h1;subst h1;exact K) hw (by
   rw[kdn,C,kf9 D xs i,kf9 D ys i,Nat.pow_succ];simp only[num,Nat.mul_zero,Nat.add_zero];exact k4g inv U)
  refine⟨s',h2,?_,r2⟩;have ex:((xs[i]:Nat):Int)=((xs.getD i 0:Nat):Int):=by rw[kb0 (by omega)]
  rw[k30,n.len,show decide ((i:Int)<(xs.length:Int))=true from by rw[qbw];omega,cond_true,<- n.len,e1,qbt,Q,qbt,kb,qbt,
   ku5 m' i,qbt,qbt,kb,qbt,kzg (show SameAt hi hi r 1 from⟨λ_ _=>rfl,λh=>by cases h⟩),ex,q1,q2,kj (by omega),kbw]
  exact a1.trans a2
theorem k1g{h:AH}{s t:Sl}{xs ys:List Nat}(n:Nats h s xs)(m:Nats h t ys)(F:∀x∈xs,x<D)(H:∀x∈ys,x<D)(I:xs.length<=1073741824)(A:ys.length<=xs.length)(C:num D ys<=num D xs) :
  ∃(s':Sl)(h':AH),go (.fn kgc [s.v,t.v]) h=some (s'.v,h')/\Nats h' s' (digs D (num D xs-num D ys))/\Grow h h'/\Own h s':=by
 rw[kbdh];exact k1j n m F H I A C xs.length 0 (by omega) (ds:=[]) (c:=0) (Mine.nil h kg 1) rfl (by simp) (by omega) (by simp[num])
end Go.Ab
set_option maxRecDepth 10000
namespace Go.Ab
open Go.Proofs Go.Num
theorem k3l{xs:List Nat}(h:Trim xs):∀(k:Nat),Trim (xs.drop k)
 | 0=>by simpa using h
 | k+1=>by
  cases xs with
  | nil=>simp[Trim]
  | cons x xs=>exact k3l h.tail k
theorem k9c(b:Nat)(xs:List Nat)(k:Nat):num b xs=num b (xs.take k)+b^(xs.take k).length*num b (xs.drop k):=by rw[<- kdn,List.take_append_drop]
theorem kbg5{ds:List Nat}(F:∀z∈ds,z<D)(H:Trim ds)(C:ds≠[]):digs B (num D ds)=num D (ds.take 4)::digs B (num D (ds.drop 4)):=by
 have I:num D ds≠0:=λe=>C (ko2 (by decide) H e);have lt:=num_lt (b:=D) (by decide) (xs:=ds.take 4) λx h=>F x (List.mem_of_mem_take h);have le:D^(ds.take 4).length<=D^4:=Nat.pow_le_pow_right (by decide) (by rw[qcf];omega);have hB:D^4=B:=by decide
 have A:num D (ds.take 4)<B:=by omega
 rw[kfc B2 I,k9c D ds 4];by_cases K:4<=ds.length
 ·rw[qcf,Nat.min_eq_left K,hB,Nat.add_mul_mod_self_left,Nat.mod_eq_of_lt A,Nat.add_mul_div_left _ _ (by decide),Nat.div_eq_of_lt A,Nat.zero_add]
 ·rw[List.drop_of_length_le (by omega)];simp only[num,Nat.mul_zero,Nat.add_zero];rw[Nat.mod_eq_of_lt A,Nat.div_eq_of_lt A]
theorem num_at(b:Nat)(ds:List Nat)(i k:Nat):num b ((ds.drop i).drop k)=ds.getD (i+k) 0+b*num b ((ds.drop i).drop (k+1)):=by
 rw[List.drop_drop,List.drop_drop,show i+(k+1)=i+k+1 from by omega];by_cases h:i+k<ds.length
 ·rw[qcg h,num,kb0 h]
 ·rw[List.drop_of_length_le (by omega),List.drop_of_length_le (by omega)];simp[num,List.getD,List.getElem?_eq_none (show ds.length<=i+k by omega)]
theorem kba8(b:Nat)(ds:List Nat)(i k:Nat)(A:k<4):num b (((ds.drop i).take 4).drop k)=ds.getD (i+k) 0+b*num b (((ds.drop i).take 4).drop (k+1)):=by have e:=num_at b ((ds.drop i).take 4) 0 k;rw[List.drop_zero,Nat.zero_add]at e;rw[e];congr 1;simp only[List.getD,List.getElem?_take,List.getElem?_drop,if_pos A]
theorem kxd{h0:AH}{s:Sl}{ds:List Nat}(n:Nats h0 s ds)(C:∀z∈ds,z<D){i:Nat}(hi:i<=1073741824):∀(k:Nat),k<=4->∀{h:AH}{o:Sl}{os:List Nat},Mine h0 h o kg 1 (os.map u64)->os.length<=1073741824->
  ∃(F:Sl)(h':AH),go (.pt kc1 klp [(0,s.v),(4,o.v),(5,.i (i:Int)),(6,u64 (num D (((ds.drop i).take 4).drop k))),(7,.i ((k:Int)-1))]) h =
   go (.pt kc1 kj3 [(0,s.v),(4,F.v),(5,.i ((i+4:Nat):Int))]) h'/\Mine h0 h' F kg 1 ((os++[num D ((ds.drop i).take 4)]).map u64)
 | 0,U,h,o,os,M,H=>by
  rw[kv7,show decide (((0:Nat):Int)-1>=0)=false from rfl,cond_false,List.drop_zero,kbw,wrap64 (n:=(i:Int)+4) (by omega) (by omega),show(i:Int)+4=((i+4:Nat):Int)from by omega];exact M.append_one (num D ((ds.drop i).take 4)) (by omega) (λl X=>go (.pt kc1 kj3 [(0,s.v),(4,l.v),(5,.i ((i+4:Nat):Int))]) X)
 | k+1,U,h,o,os,M,H=>by
  have Y:=n.grow M.grow;have I:=kxd n C hi k (by omega) M H;have e:=kba8 D ds i k (by omega)
  have lt:num D (((ds.drop i).take 4).drop k)<18446744073709551616:=by
   have h1:=num_lt (b:=D) (by decide) (xs:=((ds.drop i).take 4).drop k) λx Z=>C x (List.mem_of_mem_drop (List.mem_of_mem_take (List.mem_of_mem_drop Z)));have h2:D^(((ds.drop i).take 4).drop k).length<=D^4:=Nat.pow_le_pow_right (by decide) (by simp;omega);have h3:D^4=18446744073709551616:=by decide
   omega
  have K:ds.getD (i+k) 0+65536*num D (((ds.drop i).take 4).drop (k+1))=num D (((ds.drop i).take 4).drop k):=e.symm;generalize hy:num D (((ds.drop i).take 4).drop (k+1))=y at *
  generalize hz:num D (((ds.drop i).take 4).drop k)=z at *
  rw[kv7,n.len,show((k+1:Nat):Int)-1=(k:Int)from by omega,show decide ((k:Int)>=0)=true from by rw[qbw];omega,cond_true,wrap64 (n:=(i:Int)+(k:Int)) (by omega) (by omega),wrap64 (n:=(k:Int)-1) (by omega) (by omega),show(i:Int)+(k:Int)=((i+k:Nat):Int)from by omega];have w1:IntKind.wrap .u64 ((y:Int)*65536)=((65536*y:Nat):Int):=by rw[wrapU];omega
  rw[w1];by_cases A:i+k<ds.length
  ·obtain⟨r,Q,e2⟩:=Y.at (i:=i+k) A;rw[n.len]at Q;have ex:((ds[i+k]:Nat):Int)=((ds.getD (i+k) 0:Nat):Int):=by rw[kb0 A]
   have w2:IntKind.wrap .u64 (((65536*y:Nat):Int)+((ds.getD (i+k) 0:Nat):Int))=(z:Int):=by rw[wrapU];omega
   rw[show decide (((i+k:Nat):Int)<(ds.length:Int))=true from by rw[qbw];omega,cond_true,Q,qbt,e2,qbt,kb,qbt,ex,w2];exact I
  ·have e0:ds.getD (i+k) 0=0:=by simp[List.getD,List.getElem?_eq_none (show ds.length<=i+k by omega)]
   rw[e0,Nat.zero_add]at K;rw[show decide (((i+k:Nat):Int)<(ds.length:Int))=false from by rw[qbv];omega,cond_false,K];exact I
theorem k0v{h0:AH}{s:Sl}{ds:List Nat}(n:Nats h0 s ds)(H:∀z∈ds,z<D)(U:Trim ds)(Y:ds.length<=536870912):∀(f i:Nat),ds.length<=i+4*f->i<=ds.length+4->∀{h:AH}{o:Sl}{os:List Nat},Mine h0 h o kg 1 (os.map u64)->os.length<=i->(∀z∈os,z<18446744073709551616)->os++digs B (num D (ds.drop i))=digs B (num D ds)->
  ∃(F:Sl)(h':AH),go (.pt kc1 kj3 [(0,s.v),(4,o.v),(5,.i (i:Int))]) h=some (.tup [F.v,.bool (decide ((digs B (num D ds)).length<=64))],h')/\Nats h' F (digs B (num D ds))/\Grow h0 h'/\Own h0 F
 | f,i,I,Z,h,o,os,M,aa,A,inv=>by
  by_cases hi:i<ds.length
  ·match f,I with
   | 0,I=>omega
   | f+1,I =>
    rw[k0c,n.len,show decide ((i:Int)<(ds.length:Int))=true from by rw[qbw];omega,cond_true];obtain⟨F,h',X,M'⟩:=kxd n H (i:=i) (by omega) 4 (by omega) M (by omega);have C:num D (((ds.drop i).take 4).drop 4)=0:=by rw[List.drop_of_length_le (by rw[qcf];omega)];rfl
    rw[C]at X
    have K:ds.drop i≠[]:=by intro e;have:=congrArg List.length e;simp at this;omega
    have Q:=kbg5 (λz C=>H z (List.mem_of_mem_drop C)) (k3l U i) K;rw[List.drop_drop]at Q
    obtain⟨o2,h2,e2,r2⟩:=k0v n H U Y f (i+4) (by omega) (by omega) M' (by simp;omega) (λz C=>by
     rcases qb5.1 C with h1 | h1
     ·exact A z h1
     ·have:=kbv B2 (num D (ds.drop i));rw[Q]at this;simp at h1;subst h1;exact this _ (by simp)) (by rw[<- inv,Q];simp)
    exact⟨o2,h2,X.trans e2,r2⟩
  ·rw[k0c,n.len,show decide ((i:Int)<(ds.length:Int))=false from by rw[qbv];omega,cond_false];rw[List.drop_of_length_le (by omega),show num D ([]:List Nat)=0 from rfl,kcg,List.append_nil]at inv
   have N:Nats h o (digs B (num D ds)):=by rw[<- inv];exact⟨M.cells,A,by omega⟩
   refine⟨o,h,?_,N,M.grow,M.own_of⟩;rw[N.len,show decide (((digs B (num D ds)).length:Int)<=64)=decide ((digs B (num D ds)).length<=64)from by rw[decide_eq_decide];omega]
theorem ku6{h:AH}{s:Sl}{ds:List Nat}(n:Nats h s ds)(C:∀z∈ds,z<D)(F:Trim ds)(H:ds.length<=536870912):∃(A:Sl)(h':AH),go (.fn kc1 [s.v]) h=some (.tup [A.v,.bool (decide ((digs B (num D ds)).length<=64))],h')/\Nats h' A (digs B (num D ds))/\Grow h h'/\Own h A:=by rw[kbij];exact k0v n C F H ds.length 0 (by omega) (by omega) (os:=[]) (Mine.nil h kg 1) (by simp) (by simp) (by simp)
theorem kup{h:AH}{s:Sl}{ds:List Nat}(n:Nats h s ds)(H:∀z∈ds,z<D)(I:Trim ds)(K:ds.length<=536870912):∃(A:Sl)(h':AH),go (.fn kmk [s.v]) h=some (.tup [A.v,.i (told (num D ds)).2],h')/\Nats h' A (told (num D ds)).1/\Grow h h'/\Own h A:=by
 rw[kblu];obtain⟨A,h',Q,n1,F,U⟩:=ku6 n H I K;rw[Q];simp only[qbt,kc5,asSl_v,kbo];unfold told;by_cases C:num D ds<B^64
 ·have:=(kbl B2 (num D ds) 64).2 C;rw[if_pos C,show decide ((digs B (num D ds)).length<=64)=true from qbx this];exact⟨A,h',rfl,n1,F,U⟩
 ·have:¬(digs B (num D ds)).length<=64:=λh=>C ((kbl B2 _ _).1 h);rw[if_neg C,show decide ((digs B (num D ds)).length<=64)=false from qby this];exact⟨⟨none,0,.is 0⟩,h',rfl,qw _,F,qu h⟩
theorem khh{xs:List Nat}(A:∀x∈xs,x<18446744073709551616)(C:xs.length<=64):(digs D (num B xs)).length<=256:=by
 rw[kbl D2];have h1:=num_lt (b:=B) (by decide) A;have F:B^xs.length<=B^64:=Nat.pow_le_pow_right (by decide) C;have H:B^64=D^256:=by decide +kernel
 omega
theorem kyf{h:AH}{s t:Sl}{xs ys:List Nat}(n:Nats h s xs)(m:Nats h t ys):∃(s':Sl)(h':AH),go (.fn ko4 [s.v,t.v]) h=some (.tup [s'.v,.i (addN xs ys).2],h')/\Nats h' s' (addN xs ys).1/\Grow h h'/\Own h s':=by
 rw[kbgd,kco n,qbt,qbt,kbo,qbt,kco m,qbt,qbt,kbo,qbt];cases A:rt xs with
 | false=>exact⟨⟨none,0,.is 0⟩,h,by simp[addN,A],by simpa[addN,A]using qw h,ql h,qu h⟩
 | true =>
  cases C:rt ys with
  | false=>exact⟨⟨none,0,.is 0⟩,h,by simp[addN,C],by simpa[addN,C]using qw h,ql h,qu h⟩
  | true =>
   simp only[Bool.not_true,cond_false];rw[show addN xs ys=told (num B xs+num B ys)from by simp[addN,A,C]];have X:=(rt_iff.1 A).1;have Y:=(rt_iff.1 C).1;obtain⟨d1,h1,Z,n1,F,o1⟩:=kfi n (by omega);obtain⟨d2,h2,e2,n2,H,o2⟩:=kfi (m.grow F) (by omega);have k1:=khh n.lt X;have k2:=khh m.lt Y;obtain⟨d3,h3,e3,I,K,o3⟩:=kbdt (n1.grow H) n2 (kbv D2 _) (kbv D2 _) (by omega) (by omega);rw[ko D2,ko D2]at I
   have k3:(digs D (num B xs+num B ys)).length<=536870912:=by have:=ku8 D2 (num B xs) (num B ys);omega
   obtain⟨d4,h4,Q,U,g4,o4⟩:=kup I (kbv D2 _) (kcn D2 _) k3;rw[ko D2]at Q U;refine⟨d4,h4,?_,U,F.trans (H.trans (K.trans g4)),o4.of_le (F.trans (H.trans K))⟩;simp only[Z,e2,e3,Q,qbt,asSl_v,kc5,kb]
theorem kv4{h:AH}{s t:Sl}{xs ys:List Nat}(n:Nats h s xs)(m:Nats h t ys):∃(s':Sl)(h':AH),go (.fn kl8 [s.v,t.v]) h=some (.tup [s'.v,.i (subN xs ys).2],h')/\Nats h' s' (subN xs ys).1/\Grow h h'/\Own h s':=by
 rw[kbh8,kco n,qbt,qbt,kbo,qbt,kco m,qbt,qbt,kbo,qbt];cases A:rt xs with
 | false=>exact⟨⟨none,0,.is 0⟩,h,by simp[subN,A],by simpa[subN,A]using qw h,ql h,qu h⟩
 | true =>
  cases C:rt ys with
  | false=>exact⟨⟨none,0,.is 0⟩,h,by simp[subN,C],by simpa[subN,C]using qw h,ql h,qu h⟩
  | true =>
   simp only[Bool.not_true,cond_false];have Q:=(rt_iff.1 A).1;have ly:=(rt_iff.1 C).1;obtain⟨d1,h1,e1,n1,I,o1⟩:=kfi n (by omega);obtain⟨d2,h2,e2,U,F,o2⟩:=kfi (m.grow I) (by omega);have k1:=khh n.lt Q;have k2:=khh m.lt ly;have X:=ktb (n1.grow F) U (kbv D2 _) (kbv D2 _) (kcn D2 _) (kcn D2 _);rw[ko D2,ko D2]at X;simp only[e1,e2,X,qbt,asSl_v,kb];by_cases K:num B xs<num B ys
   ·rw[show subN xs ys=([],2)from by simp[subN,A,C,K]];rw[show decide (cmp (num B xs) (num B ys)<0)=true from by rw[qbw];simp[cmp,K]];exact⟨⟨none,0,.is 0⟩,h2,rfl,qw _,I.trans F,qu h⟩
   ·rw[show subN xs ys=told (num B xs-num B ys)from by rw[k2q n.lt Q];simp[subN,A,C,K]];rw[show decide (cmp (num B xs) (num B ys)<0)=false from by rw[qbv];unfold cmp;rw[if_neg K];split<;>omega];simp only[cond_false]
    have H:(digs D (num B ys)).length<=(digs D (num B xs)).length:=by rw[kbl D2];have:=(kbl D2 (num B xs) _).1 (qbp _);omega
    obtain⟨d3,h3,e3,Y,Z,o3⟩:=k1g (n1.grow F) U (kbv D2 _) (kbv D2 _) (by omega) H (by rw[ko D2,ko D2];omega);rw[ko D2,ko D2]at Y
    have k3:(digs D (num B xs-num B ys)).length<=536870912:=by
     have:(digs D (num B xs-num B ys)).length<=256:=by rw[kbl D2]at k1|-;omega
     omega
    obtain⟨d4,h4,e4,n4,g4,o4⟩:=kup Y (kbv D2 _) (kcn D2 _) k3;rw[ko D2]at e4 n4;refine⟨d4,h4,?_,n4,I.trans (F.trans (Z.trans g4)),o4.of_le (I.trans (F.trans Z))⟩;simp only[e3,e4,qbt,asSl_v,kc5,kb]
theorem kqn{h:AH}{i:Nat}{a b:Sl}{xs ys:List Nat}{p q:Bool}(c:h.has i [.bool p,a.v,.bool q,b.v] ki)(n:Nats h a xs)(m:Nats h b ys):∃h',go (.fn kg9 [(⟨some (.new i 0),2,.is 2⟩:Sl).v]) h=some (.bool (rtI p xs&&rtI q ys),h')/\Grow h h':=by
 have r:IRows h ⟨some (.new i 0),2,.is 2⟩ [(p,a,xs),(q,b,ys)]:=⟨qr c rfl,λr A=>by
  simp at A;rcases A with rfl | rfl
  ·exact n
  ·exact m,by simp⟩
 obtain⟨h',e,g⟩:=kwu r;exact⟨h',by rw[e];simp,g⟩
def kbf(a1:Bool)(x2:List Nat)(a3:Bool)(x4:List Nat):Bool×List Nat×Int:=cond (!((rtI a1 x2&&rtI a3 x4))) ((false,[],1)) (cond (a1==a3) (((((fromI a1 ((addN x2 x4).1)).1)),(fromI a1 ((addN x2 x4).1)).2,((addN x2 x4).2))) (cond (decide ((cmpN x2 x4)<0)) (((((fromI a3 ((subN x4 x2).1)).1)),(fromI a3 ((subN x4 x2).1)).2,((subN x4 x2).2))) (((((fromI a1 ((subN x2 x4).1)).1)),(fromI a1 ((subN x2 x4).1)).2,((subN x2 x4).2)))))
theorem kzp{h:AH}{a2:Sl}{x2:List Nat}{a4:Sl}{x4:List Nat}(n2:Nats h a2 x2)(n4:Nats h a4 x4)(a1 a3:Bool):Runs (go (.fn ki2 [.agg [.bool a1,a2.v],.agg [.bool a3,a4.v]]) h) λv h'=>∃s1:Sl,v=.tup [.agg [.bool (kbf a1 x2 a3 x4).1,s1.v],.i (kbf a1 x2 a3 x4).2.2]/\Nats h' s1 ((kbf a1 x2 a3 x4).2.1)/\Grow h h'/\Own h s1:=by
 rw[kbj7];refine q0 λH5 Y K=>?_;refine q0 λH6 b6 I=>?_;refine q0 λH7 b7 H=>?_;refine qz (qbf ((I.trans H).has Y) 0 rfl rfl) (qz (qbf ((I.trans H).has Y) 1 rfl qco) (qz (qbf (H.has b6) 0 rfl rfl) (qz (qbf (H.has b6) 1 rfl qco) ?_)));refine q0 λH8 b8 F=>?_;obtain⟨H9,e9,C⟩:=kqn b8 (n2.grow (((K.trans I).trans H).trans F)) (n4.grow (((K.trans I).trans H).trans F));refine qz e9 (qz (seen rfl) ?_);refine qbd (λaf=>?_) (λaf=>?_)
 ·refine qba ((F.trans C).has b7) rfl λcg ay az=>?_;have bq:=qx (C.has b8) (Nat.ne_of_gt (qbr (b7).lt (qbp _))) az;refine qz (qbf ay 0 rfl rfl) (qz (qbf ay 1 rfl qco) ?_);have z:kbf a1 x2 a3 x4=(false,[],1):=by unfold kbf;exact(condT af).trans rfl
  rw[z];exact qy ⟨(⟨none,0,.is 0⟩:Sl),rfl,(qw _),(((((K.trans I).trans H).trans F).trans C).updr (qbq ((K.trans I)).size (qbp _)) az),(qu _)⟩
 ·refine qz (qbf ((((I.trans H).trans F).trans C).has Y) 0 rfl rfl) (qz (qbf (((H.trans F).trans C).has b6) 0 rfl rfl) ?_);refine qbd (λah=>?_) (λah=>?_)
  ·refine qz (qbf ((((I.trans H).trans F).trans C).has Y) 1 rfl qco) (qz (qbf (((H.trans F).trans C).has b6) 1 rfl qco) ?_);obtain⟨ci,br,aq,a0,A,bt⟩:=k32 (n2.grow ((((K.trans I).trans H).trans F).trans C)) (n4.grow ((((K.trans I).trans H).trans F).trans C));refine qz aq (qz rfl (qz (seen qco) (qz (seen qcp) (qz (qbf (((((I.trans H).trans F).trans C).trans A).has Y) 0 rfl rfl) ?_))));obtain⟨bu,cj,bv,bw,ai,ba⟩:=kdo a0 a1;refine qz bv (qz rfl ?_);refine qbb rfl ?_;refine qz (seenAt rfl rfl) (qz (seenAt rfl qco) ?_);refine qba ((((F.trans C).trans A).trans ai).has b7) rfl λbb aj Q=>?_;have bj:=(a0.grow ai).upda (qbj bt ((F.trans C).has b7).lt) Q;have ak:=bw.upda (qbj ba (((F.trans C).trans A).has b7).lt) Q;have ag:=qx (((C.trans A).trans ai).has b8) (Nat.ne_of_gt (qbr (b7).lt (qbp _))) Q;refine qz (qbf aj 0 rfl rfl) (qz (qbf aj 1 rfl qco) ?_);have z:kbf a1 x2 a3 x4=((((fromI a1 ((addN x2 x4).1)).1)),(fromI a1 ((addN x2 x4).1)).2,((addN x2 x4).2)):=by unfold kbf;exact(condF af).trans ((condT ah).trans rfl)
   rw[z];exact qy ⟨bu,rfl,ak,(((((((K.trans I).trans H).trans F).trans C).trans A).trans ai).updr (qbq ((K.trans I)).size (qbp _)) Q),(ba.of_le (((((K.trans I).trans H).trans F).trans C).trans A))⟩
  ·refine qz (qbf ((((I.trans H).trans F).trans C).has Y) 1 rfl qco) (qz (qbf (((H.trans F).trans C).has b6) 1 rfl qco) ?_);obtain⟨br,aq,A⟩:=kqr (n2.grow ((((K.trans I).trans H).trans F).trans C)) (n4.grow ((((K.trans I).trans H).trans F).trans C));refine qz aq (qz (seen qcp) ?_);refine qbd (λar=>?_) (λar=>?_)
   ·refine qz (qbf ((((H.trans F).trans C).trans A).has b6) 0 rfl rfl) (qz (qbf ((((H.trans F).trans C).trans A).has b6) 1 rfl qco) (qz (qbf (((((I.trans H).trans F).trans C).trans A).has Y) 0 rfl rfl) (qz (qbf (((((I.trans H).trans F).trans C).trans A).has Y) 1 rfl qco) ?_)));refine qba (((((I.trans H).trans F).trans C).trans A).has Y) rfl λbb aj Q=>?_;have au:=qx ((((H.trans F).trans C).trans A).has b6) (Nat.ne_of_gt (qbr (Y).lt (qbp _))) Q;have aw:=qx (((F.trans C).trans A).has b7) (Nat.ne_of_gt (qbr (I.has Y).lt (qbp _))) Q;have ag:=qx ((C.trans A).has b8) (Nat.ne_of_gt (qbr ((I.trans H).has Y).lt (qbp _))) Q;refine qba au rfl λbx bc Z=>?_;have U:=qx aj (Nat.ne_of_lt (qbr (Y).lt (qbp _))) Z;have aa:=qx aw (Nat.ne_of_gt (qbr (b6).lt (qbp _))) Z;have ax:=qx ag (Nat.ne_of_gt (qbr (H.has b6).lt (qbp _))) Z;refine qz (qbf U 1 rfl qco) (qz (qbf bc 1 rfl qco) ?_);obtain⟨cl,bz,b0,bd,X,b1⟩:=kvd (n4.grow (((((((K.trans I).trans H).trans F).trans C).trans A).updr (qbp _) Q).updr (qbq (K).size (qbp _)) Z)) (n2.grow (((((((K.trans I).trans H).trans F).trans C).trans A).updr (qbp _) Q).updr (qbq (K).size (qbp _)) Z));refine qz b0 (qz rfl (qz (seen qco) (qz (seen qcp) (qz (qbf (X.has U) 0 rfl rfl) ?_))));obtain⟨b2,cm,b3,b4,ac,be⟩:=kdo bd a3;refine qz b3 (qz rfl ?_);refine qbb rfl ?_;refine qz (seenAt rfl rfl) (qz (seenAt rfl qco) ?_);refine qba ((X.trans ac).has aa) rfl λcp bf ad=>?_;have bk:=(bd.grow ac).upda (qbj b1 (aa).lt) ad;have al:=b4.upda (qbj be (X.has aa).lt) ad;have bm:=qx ((X.trans ac).has U) (Nat.ne_of_lt (qbr (I.has Y).lt (qbp _))) ad;have bn:=qx ((X.trans ac).has bc) (Nat.ne_of_lt (qbr (b6).lt (qbp _))) ad;have b9:=qx ((X.trans ac).has ax) (Nat.ne_of_gt (qbr (b7).lt (qbp _))) ad;refine qz (qbf bf 0 rfl rfl) (qz (qbf bf 1 rfl qco) ?_);have z:kbf a1 x2 a3 x4=((((fromI a3 ((subN x4 x2).1)).1)),(fromI a3 ((subN x4 x2).1)).2,((subN x4 x2).2)):=by unfold kbf;exact(condF af).trans ((condF ah).trans ((condT ar).trans rfl))
    rw[z];exact qy ⟨b2,rfl,al,((((((((((K.trans I).trans H).trans F).trans C).trans A).updr (qbp _) Q).updr (qbq (K).size (qbp _)) Z).trans X).trans ac).updr (qbq ((K.trans I)).size (qbp _)) ad),(be.of_le ((((((((K.trans I).trans H).trans F).trans C).trans A).updr (qbp _) Q).updr (qbq (K).size (qbp _)) Z).trans X))⟩
   ·refine qz (qbf (((((I.trans H).trans F).trans C).trans A).has Y) 1 rfl qco) (qz (qbf ((((H.trans F).trans C).trans A).has b6) 1 rfl qco) ?_);obtain⟨cu,bb,ca,bg,ae,cb⟩:=kvd (n2.grow (((((K.trans I).trans H).trans F).trans C).trans A)) (n4.grow (((((K.trans I).trans H).trans F).trans C).trans A));refine qz ca (qz rfl (qz (seen qco) (qz (seen qcp) (qz (qbf ((((((I.trans H).trans F).trans C).trans A).trans ae).has Y) 0 rfl rfl) ?_))));obtain⟨cc,bx,cd,ce,am,bh⟩:=kdo bg a1;refine qz cd (qz rfl ?_);refine qbb rfl ?_;refine qz (seenAt rfl rfl) (qz (seenAt rfl qco) ?_);refine qba (((((F.trans C).trans A).trans ae).trans am).has b7) rfl λbz bi an=>?_;have bp:=(bg.grow am).upda (qbj cb (((F.trans C).trans A).has b7).lt) an;have ap:=ce.upda (qbj bh ((((F.trans C).trans A).trans ae).has b7).lt) an;have cf:=qx ((((C.trans A).trans ae).trans am).has b8) (Nat.ne_of_gt (qbr (b7).lt (qbp _))) an;refine qz (qbf bi 0 rfl rfl) (qz (qbf bi 1 rfl qco) ?_);have z:kbf a1 x2 a3 x4=((((fromI a1 ((subN x2 x4).1)).1)),(fromI a1 ((subN x2 x4).1)).2,((subN x2 x4).2)):=by unfold kbf;exact(condF af).trans ((condF ah).trans ((condF ar).trans rfl))
    rw[z];exact qy ⟨cc,rfl,ap,((((((((K.trans I).trans H).trans F).trans C).trans A).trans ae).trans am).updr (qbq ((K.trans I)).size (qbp _)) an),(bh.of_le ((((((K.trans I).trans H).trans F).trans C).trans A).trans ae))⟩
def kc6(a1:Bool)(x2:List Nat)(a3:Bool)(x4:List Nat):Bool×List Nat×Int:=cond (!(rtI a1 x2)) ((false,[],1)) (cond (!(rtI a3 x4)) ((false,[],1)) (cond (a1==a3) (((((fromI a1 ((addN x2 x4).1)).1)),(fromI a1 ((addN x2 x4).1)).2,((addN x2 x4).2))) (cond (decide ((cmpN x2 x4)>=0)) (((((fromI a1 ((subN x2 x4).1)).1)),(fromI a1 ((subN x2 x4).1)).2,0)) (((((fromI a3 ((subN x4 x2).1)).1)),(fromI a3 ((subN x4 x2).1)).2,0)))))
theorem k65{h:AH}{a2:Sl}{x2:List Nat}{a4:Sl}{x4:List Nat}(n2:Nats h a2 x2)(n4:Nats h a4 x4)(a1 a3:Bool):Runs (go (.fn koj [.agg [.bool a1,a2.v],.agg [.bool a3,a4.v]]) h) λv h'=>∃s1:Sl,v=.tup [.agg [.bool (kc6 a1 x2 a3 x4).1,s1.v],.i (kc6 a1 x2 a3 x4).2.2]/\Nats h' s1 ((kc6 a1 x2 a3 x4).2.1)/\Grow h h'/\Own h s1:=by
 rw[kbm1];refine q0 λH5 b5 K=>?_;refine q0 λH6 b6 I=>?_;refine q0 λH7 b7 H=>?_;refine qz (qbf ((I.trans H).has b5) 0 rfl rfl) (qz (qbf ((I.trans H).has b5) 1 rfl qco) ?_);obtain⟨H8,e8,C⟩:=keh (n2.grow ((K.trans I).trans H)) a1;refine qz e8 (qz (seen rfl) (qz (qbf ((H.trans C).has b6) 0 rfl rfl) (qz (qbf ((H.trans C).has b6) 1 rfl qco) ?_)));obtain⟨H9,e9,F⟩:=keh (n4.grow (((K.trans I).trans H).trans C)) a3;refine qz e9 (qz (seen rfl) ?_);refine qbd (λZ=>?_) (λZ=>?_)
 ·refine qba ((C.trans F).has b7) rfl λbm au bb=>?_;refine qz (qbf au 0 rfl rfl) (qz (qbf au 1 rfl qco) ?_);have z:kc6 a1 x2 a3 x4=(false,[],1):=by unfold kc6;exact(condT Z).trans rfl
  rw[z];exact qy ⟨(⟨none,0,.is 0⟩:Sl),rfl,(qw _),(((((K.trans I).trans H).trans C).trans F).updr (qbq ((K.trans I)).size (qbp _)) bb),(qu _)⟩
 ·refine qbd (λaa=>?_) (λaa=>?_)
  ·refine qba ((C.trans F).has b7) rfl λbn aw bc=>?_;refine qz (qbf aw 0 rfl rfl) (qz (qbf aw 1 rfl qco) ?_);have z:kc6 a1 x2 a3 x4=(false,[],1):=by unfold kc6;exact(condF Z).trans ((condT aa).trans rfl)
   rw[z];exact qy ⟨(⟨none,0,.is 0⟩:Sl),rfl,(qw _),(((((K.trans I).trans H).trans C).trans F).updr (qbq ((K.trans I)).size (qbp _)) bc),(qu _)⟩
  ·refine qz (qbf ((((I.trans H).trans C).trans F).has b5) 0 rfl rfl) (qz (qbf (((H.trans C).trans F).has b6) 0 rfl rfl) ?_);refine qbd (λaf=>?_) (λaf=>?_)
   ·refine qz (qbf ((((I.trans H).trans C).trans F).has b5) 1 rfl qco) (qz (qbf (((H.trans C).trans F).has b6) 1 rfl qco) ?_);obtain⟨bp,bd,ai,ax,A,be⟩:=kyf (n2.grow ((((K.trans I).trans H).trans C).trans F)) (n4.grow ((((K.trans I).trans H).trans C).trans F));refine qz ai (qz rfl (qz (seen qco) (qz (seen qcp) (qz (qbf (((((I.trans H).trans C).trans F).trans A).has b5) 0 rfl rfl) ?_))));obtain⟨bf,bq,bg,bh,aj,ay⟩:=kd2 ax a1;refine qz bg (qz rfl ?_);refine qbb rfl ?_;refine qz (seenAt rfl rfl) (qz (seenAt rfl qco) ?_);refine qba ((((C.trans F).trans A).trans aj).has b7) rfl λaz a0 ak=>?_;have ba:=(ax.grow aj).upda (qbj be ((C.trans F).has b7).lt) ak;have ag:=bh.upda (qbj ay (((C.trans F).trans A).has b7).lt) ak;refine qz (qbf a0 0 rfl rfl) (qz (qbf a0 1 rfl qco) ?_);have z:kc6 a1 x2 a3 x4=((((fromI a1 ((addN x2 x4).1)).1)),(fromI a1 ((addN x2 x4).1)).2,((addN x2 x4).2)):=by unfold kc6;exact(condF Z).trans ((condF aa).trans ((condT af).trans rfl))
    rw[z];exact qy ⟨bf,rfl,ag,(((((((K.trans I).trans H).trans C).trans F).trans A).trans aj).updr (qbq ((K.trans I)).size (qbp _)) ak),(ay.of_le (((((K.trans I).trans H).trans C).trans F).trans A))⟩
   ·refine qz (qbf ((((I.trans H).trans C).trans F).has b5) 1 rfl qco) (qz (qbf (((H.trans C).trans F).has b6) 1 rfl qco) ?_);obtain⟨bd,ai,A⟩:=kou (n2.grow ((((K.trans I).trans H).trans C).trans F)) (n4.grow ((((K.trans I).trans H).trans C).trans F));refine qz ai (qz (seen qcp) ?_);refine qbd (λal=>?_) (λal=>?_)
    ·refine qz (qbf (((((I.trans H).trans C).trans F).trans A).has b5) 1 rfl qco) (qz (qbf ((((H.trans C).trans F).trans A).has b6) 1 rfl qco) ?_);obtain⟨bi,az,am,ac,Q,an⟩:=kv4 (n2.grow (((((K.trans I).trans H).trans C).trans F).trans A)) (n4.grow (((((K.trans I).trans H).trans C).trans F).trans A));refine qz am (qz rfl (qz (seen qco) (qz (seen qcp) (qz (qbf ((((((I.trans H).trans C).trans F).trans A).trans Q).has b5) 0 rfl rfl) ?_))));obtain⟨ap,bj,aq,ar,X,ad⟩:=kd2 ac a1;refine qz aq (qz rfl ?_);refine qbb rfl ?_;refine qz (seenAt rfl rfl) (qz (seenAt rfl qco) ?_);refine qba (((((C.trans F).trans A).trans Q).trans X).has b7) rfl λbk ae Y=>?_;have ah:=(ac.grow X).upda (qbj an (((C.trans F).trans A).has b7).lt) Y;have U:=ar.upda (qbj ad ((((C.trans F).trans A).trans Q).has b7).lt) Y;refine qz (qbf ae 0 rfl rfl) (qz (qbf ae 1 rfl qco) ?_);have z:kc6 a1 x2 a3 x4=((((fromI a1 ((subN x2 x4).1)).1)),(fromI a1 ((subN x2 x4).1)).2,0):=by unfold kc6;exact(condF Z).trans ((condF aa).trans ((condF af).trans ((condT al).trans rfl)))
     rw[z];exact qy ⟨ap,rfl,U,((((((((K.trans I).trans H).trans C).trans F).trans A).trans Q).trans X).updr (qbq ((K.trans I)).size (qbp _)) Y),(ad.of_le ((((((K.trans I).trans H).trans C).trans F).trans A).trans Q))⟩
    ·refine qz (qbf ((((H.trans C).trans F).trans A).has b6) 1 rfl qco) (qz (qbf (((((I.trans H).trans C).trans F).trans A).has b5) 1 rfl qco) ?_);obtain⟨bi,az,am,ac,Q,an⟩:=kv4 (n4.grow (((((K.trans I).trans H).trans C).trans F).trans A)) (n2.grow (((((K.trans I).trans H).trans C).trans F).trans A));refine qz am (qz rfl (qz (seen qco) (qz (seen qcp) (qz (qbf (((((H.trans C).trans F).trans A).trans Q).has b6) 0 rfl rfl) ?_))));obtain⟨ap,bj,aq,ar,X,ad⟩:=kd2 ac a3;refine qz aq (qz rfl ?_);refine qbb rfl ?_;refine qz (seenAt rfl rfl) (qz (seenAt rfl qco) ?_);refine qba (((((C.trans F).trans A).trans Q).trans X).has b7) rfl λbk ae Y=>?_;have ah:=(ac.grow X).upda (qbj an (((C.trans F).trans A).has b7).lt) Y;have U:=ar.upda (qbj ad ((((C.trans F).trans A).trans Q).has b7).lt) Y;refine qz (qbf ae 0 rfl rfl) (qz (qbf ae 1 rfl qco) ?_);have z:kc6 a1 x2 a3 x4=((((fromI a3 ((subN x4 x2).1)).1)),(fromI a3 ((subN x4 x2).1)).2,0):=by unfold kc6;exact(condF Z).trans ((condF aa).trans ((condF af).trans ((condF al).trans rfl)))
     rw[z];exact qy ⟨ap,rfl,U,((((((((K.trans I).trans H).trans C).trans F).trans A).trans Q).trans X).updr (qbq ((K.trans I)).size (qbp _)) Y),(ad.of_le ((((((K.trans I).trans H).trans C).trans F).trans A).trans Q))⟩
theorem rtI_rt{p:Bool}{xs:List Nat}(h:rtI p xs=true):rt xs=true:=by unfold rtI at h;revert h;cases rt xs<;>simp
theorem kbhm:kc6=kbf:=by
 funext p xs q ys;unfold kc6 kbf;cases H:rtI p xs with
 | false=>rfl
 | true =>
  cases I:rtI q ys with
  | false=>rfl
  | true =>
   have C:=rtI_rt H;have F:=rtI_rt I;simp only[Bool.not_true,cond_false,Bool.and_self];cases U:p==q with
   | true=>rfl
   | false =>
    simp only[cond_false];have K:cmpN xs ys=cmp (num B xs) (num B ys):=by simp[cmpN,C,F]
    rw[K];by_cases A:num B xs<num B ys
    ·rw[show decide (cmp (num B xs) (num B ys)<0)=true from by rw[qbw];simp[cmp,A],show decide (cmp (num B xs) (num B ys)>=0)=false from by rw[qbv];simp[cmp,A]]
     have:(subN ys xs).2=0:=by rw[show subN ys xs=(digs B (num B ys-num B xs),0)from by simp[subN,C,F];omega]
     simp[this]
    ·have Q:¬cmp (num B xs) (num B ys)<0:=by
      unfold cmp;rw[if_neg A];split<;>omega
     rw[show decide (cmp (num B xs) (num B ys)<0)=false from qby Q,show decide (cmp (num B xs) (num B ys)>=0)=true from qbx (by omega)]
     have:(subN xs ys).2=0:=by rw[show subN xs ys=(digs B (num B xs-num B ys),0)from by simp[subN,C,F,A]]
     simp[this]
theorem kbng{h:AH}{a2:Sl}{x2:List Nat}{a4:Sl}{x4:List Nat}(A:Nats h a2 x2)(C:Nats h a4 x4)(a1 a3:Bool):Runs (go (.fn koj [.agg [.bool a1,a2.v],.agg [.bool a3,a4.v]]) h) λv h'=>∃s1:Sl,v=.tup [.agg [.bool (kbf a1 x2 a3 x4).1,s1.v],.i (kbf a1 x2 a3 x4).2.2]/\Nats h' s1 ((kbf a1 x2 a3 x4).2.1)/\Grow h h'/\Own h s1:=by rw[<- kbhm];exact k65 A C a1 a3
def ken(a1:Bool)(x2:List Nat)(a3:Bool)(x4:List Nat):Bool×List Nat×Int:=cond (!((rtI a1 x2&&rtI a3 x4))) ((false,[],1)) (((((kbf a1 x2 ((negI a3 x4).1) ((negI a3 x4).2)).1)),(kbf a1 x2 ((negI a3 x4).1) ((negI a3 x4).2)).2.1,((kbf a1 x2 ((negI a3 x4).1) ((negI a3 x4).2)).2.2)))
theorem k6k{h:AH}{a2:Sl}{x2:List Nat}{a4:Sl}{x4:List Nat}(n2:Nats h a2 x2)(n4:Nats h a4 x4)(a1 a3:Bool):Runs (go (.fn kjy [.agg [.bool a1,a2.v],.agg [.bool a3,a4.v]]) h) λv h'=>∃s1:Sl,v=.tup [.agg [.bool (ken a1 x2 a3 x4).1,s1.v],.i (ken a1 x2 a3 x4).2.2]/\Nats h' s1 ((ken a1 x2 a3 x4).2.1)/\Grow h h'/\Own h s1:=by
 rw[k71];refine q0 λH5 b5 K=>?_;refine q0 λH6 b6 I=>?_;refine q0 λH7 Z A=>?_;refine qz (qbf ((I.trans A).has b5) 0 rfl rfl) (qz (qbf ((I.trans A).has b5) 1 rfl qco) (qz (qbf (A.has b6) 0 rfl rfl) (qz (qbf (A.has b6) 1 rfl qco) ?_)));refine q0 λH8 b8 C=>?_;obtain⟨H9,e9,F⟩:=kqn b8 (n2.grow (((K.trans I).trans A).trans C)) (n4.grow (((K.trans I).trans A).trans C));refine qz e9 (qz (seen rfl) ?_);refine qbd (λY=>?_) (λY=>?_)
 ·refine qba ((C.trans F).has Z) rfl λah aa ac=>?_;have ai:=qx (F.has b8) (Nat.ne_of_gt (qbr (Z).lt (qbp _))) ac;refine qz (qbf aa 0 rfl rfl) (qz (qbf aa 1 rfl qco) ?_);have z:ken a1 x2 a3 x4=(false,[],1):=by unfold ken;exact(condT Y).trans rfl
  rw[z];exact qy ⟨(⟨none,0,.is 0⟩:Sl),rfl,(qw _),(((((K.trans I).trans A).trans C).trans F).updr (qbq ((K.trans I)).size (qbp _)) ac),(qu _)⟩
 ·refine qz (qbf ((((I.trans A).trans C).trans F).has b5) 0 rfl rfl) (qz (qbf ((((I.trans A).trans C).trans F).has b5) 1 rfl qco) (qz (qbf (((A.trans C).trans F).has b6) 0 rfl rfl) (qz (qbf (((A.trans C).trans F).has b6) 1 rfl qco) ?_)));obtain⟨aq,ah,aj,ad,H,ak⟩:=kbmm (n4.grow ((((K.trans I).trans A).trans C).trans F)) a3;refine qz aj (qz rfl ?_);refine qbb rfl ?_;refine qz (seenAt rfl rfl) (qz (seenAt rfl qco) ?_);refine qbe (H.same ((((I.trans A).trans C).trans F).has b5) 0 2) ?_;obtain⟨_,ar,al,am,rfl,an,Q,ae⟩:=kzp (n2.grow (((((K.trans I).trans A).trans C).trans F).trans H)) ad a1 ((negI a3 x4).1);refine qz al (qz rfl (qz rfl ?_));refine qbb rfl ?_;refine qz (seenAt rfl rfl) (qz (seenAt rfl qco) (qz (seen qcp) ?_));refine qba ((((C.trans F).trans H).trans Q).has Z) rfl λau af U=>?_;have ag:=(ad.grow Q).upda (qbj ak ((C.trans F).has Z).lt) U;have X:=an.upda (qbj ae (((C.trans F).trans H).has Z).lt) U;have ap:=qx (((F.trans H).trans Q).has b8) (Nat.ne_of_gt (qbr (Z).lt (qbp _))) U;refine qz (qbf af 0 rfl rfl) (qz (qbf af 1 rfl qco) ?_);have z:ken a1 x2 a3 x4=((((kbf a1 x2 ((negI a3 x4).1) ((negI a3 x4).2)).1)),(kbf a1 x2 ((negI a3 x4).1) ((negI a3 x4).2)).2.1,((kbf a1 x2 ((negI a3 x4).1) ((negI a3 x4).2)).2.2)):=by unfold ken;exact(condF Y).trans rfl
  rw[z];exact qy ⟨am,rfl,X,(((((((K.trans I).trans A).trans C).trans F).trans H).trans Q).updr (qbq ((K.trans I)).size (qbp _)) U),(ae.of_le (((((K.trans I).trans A).trans C).trans F).trans H))⟩
end Go.Ab
set_option maxRecDepth 10000
namespace Go.Ab
open IntKind (wrap)
open Go.Proofs Go.Num
theorem kct(x n:Nat):ishr .u64 (x:Int) (n:Int)=((x/2^min n 64:Nat):Int):=by
 unfold ishr;rw[Int.toNat_natCast,show IntKind.bits .u64=64 from rfl];have:((2:Int)^min n 64)=((2^min n 64:Nat):Int):=by simp
 rw[this,Int.fdiv_eq_ediv_of_nonneg _ (Int.natCast_nonneg _)];exact(Int.natCast_ediv _ _).symm
theorem km5{x:Nat}(A:x<18446744073709551616):iand .u64 (x:Int) 4294967295=((x%4294967296:Nat):Int):=by unfold iand;rw[show IntKind.bits .u64=64 from rfl,wrapU];have C:BitVec.ofInt 64 (x:Int)=BitVec.ofNat 64 x:=rfl;have F:BitVec.ofInt 64 4294967295=BitVec.ofNat 64 4294967295:=rfl;rw[C,F,BitVec.toNat_and,BitVec.toNat_ofNat,BitVec.toNat_ofNat];rw[Nat.mod_eq_of_lt (show x<2^64 from A),Nat.mod_eq_of_lt (show 4294967295<2^64 from by decide)];rw[show(4294967295:Nat)=2^32-1 from rfl,Nat.and_two_pow_sub_one_eq_mod];have:=Nat.mod_lt x (show 0<2^32 by decide);omega
def mul64(a1 a2:Int):Int×Int:=((wrap .u64 ((wrap .u64 ((wrap .u64 ((ishr .u64 a1 32)*(ishr .u64 a2 32)))+(ishr .u64 (wrap .u64 ((wrap .u64 ((ishr .u64 a1 32)*(iand .u64 a2 4294967295)))+(ishr .u64 (wrap .u64 ((iand .u64 a1 4294967295)*(iand .u64 a2 4294967295))) 32))) 32)))+(ishr .u64 (wrap .u64 ((iand .u64 (wrap .u64 ((wrap .u64 ((ishr .u64 a1 32)*(iand .u64 a2 4294967295)))+(ishr .u64 (wrap .u64 ((iand .u64 a1 4294967295)*(iand .u64 a2 4294967295))) 32))) 4294967295)+(wrap .u64 ((iand .u64 a1 4294967295)*(ishr .u64 a2 32))))) 32))),wrap .u64 (a1*a2))
theorem k1w(a1 a2:Int){h:AH}:go (.fn kpm [.int .u64 a1,.int .u64 a2]) h=some (.tup [.int .u64 (mul64 a1 a2).1,.int .u64 (mul64 a1 a2).2],h):=k7v a1 a2 h
theorem kbd7(x1 C A F:Nat):(x1*4294967296+C)*(A*4294967296+F)=x1*A*18446744073709551616+(x1*F+C*A)*4294967296+C*F:=by
 rw[Nat.add_mul,Nat.mul_add,Nat.mul_add]
 have H:x1*4294967296*(A*4294967296)=x1*A*18446744073709551616:=by rw[Nat.mul_mul_mul_comm]
 have I:x1*4294967296*F=x1*F*4294967296:=by rw[Nat.mul_right_comm]
 have K:C*(A*4294967296)=C*A*4294967296:=by rw[Nat.mul_assoc]
 rw[H,I,K];omega
theorem k1y{x y:Nat}(I:x<B)(K:y<B):mul64 (x:Int) (y:Int)=(((x*y/B:Nat):Int),((x*y%B:Nat):Int)):=by
 have I:x<18446744073709551616:=I;have K:y<18446744073709551616:=K;unfold mul64;have s1:=kct x 32;have s2:=kct y 32;have a1:=km5 I;have a2:=km5 K;have H:(2:Nat)^min 32 64=4294967296:=rfl;rw[H]at s1 s2;rw[show((32:Nat):Int)=32 from rfl]at s1 s2;rw[s1,s2,a1,a2];generalize aa:x/4294967296=x1;generalize ac:x%4294967296=A;generalize ad:y/4294967296=C;generalize ae:y%4294967296=F;have ex:x=x1*4294967296+A:=by omega
 have ey:y=C*4294967296+F:=by omega
 have X:x1<=4294967295:=by omega
 have Y:A<=4294967295:=by omega
 have Z:C<=4294967295:=by omega
 have l4:F<=4294967295:=by omega
 have b1:x1*C<=4294967295*4294967295:=Nat.mul_le_mul X Z;have b2:x1*F<=4294967295*4294967295:=Nat.mul_le_mul X l4;have b3:A*C<=4294967295*4294967295:=Nat.mul_le_mul Y Z;have b4:A*F<=4294967295*4294967295:=Nat.mul_le_mul Y l4;have key:=kbd7 x1 A C F;rw[<- ex,<- ey]at key;have w1:wrap .u64 (((A:Nat):Int)*((F:Nat):Int))=((A*F:Nat):Int):=by rw[wrapU,<- Int.natCast_mul];omega
 have w2:wrap .u64 (((x1:Nat):Int)*((F:Nat):Int))=((x1*F:Nat):Int):=by rw[wrapU,<- Int.natCast_mul];omega
 have w3:wrap .u64 (((A:Nat):Int)*((C:Nat):Int))=((A*C:Nat):Int):=by rw[wrapU,<- Int.natCast_mul];omega
 have w4:wrap .u64 (((x1:Nat):Int)*((C:Nat):Int))=((x1*C:Nat):Int):=by rw[wrapU,<- Int.natCast_mul];omega
 rw[w1,w2,w3,w4]
 have lo:wrap .u64 ((x:Int)*(y:Int))=((x*y%B:Nat):Int):=by rw[wrapU,<- Int.natCast_mul];rfl
 rw[lo];generalize A*F=p at *
 generalize x1*F=q at *
 generalize A*C=u at *
 generalize x1*C=v at *
 have s3:=kct p 32;rw[H]at s3;rw[show((32:Nat):Int)=32 from rfl]at s3;rw[s3];have w5:wrap .u64 (((q:Nat):Int)+((p/4294967296:Nat):Int))=((q+p/4294967296:Nat):Int):=by rw[wrapU];omega
 rw[w5];have ht:q+p/4294967296<18446744073709551616:=by omega
 have Q:=kct (q+p/4294967296) 32;rw[H]at Q;rw[show((32:Nat):Int)=32 from rfl]at Q;rw[Q,km5 ht];generalize af:q+p/4294967296=t at *
 have w6:wrap .u64 (((t%4294967296:Nat):Int)+((u:Nat):Int))=((t%4294967296+u:Nat):Int):=by rw[wrapU];omega
 rw[w6];have U:=kct (t%4294967296+u) 32;rw[H]at U;rw[show((32:Nat):Int)=32 from rfl]at U;rw[U];have w7:wrap .u64 (((v:Nat):Int)+((t/4294967296:Nat):Int))=((v+t/4294967296:Nat):Int):=by rw[wrapU];omega
 rw[w7];have w8:wrap .u64 (((v+t/4294967296:Nat):Int)+(((t%4294967296+u)/4294967296:Nat):Int))=((v+t/4294967296+(t%4294967296+u)/4294967296:Nat):Int):=by rw[wrapU];omega
 rw[w8]
 have hi:v+t/4294967296+(t%4294967296+u)/4294967296=x*y/18446744073709551616:=by rw[key];omega
 rw[hi]
inductive ke8
 | fn (x1:List Nat) (x2:List Nat)
 | p3 (x1:List Nat) (x2:List Nat) (x3:List Nat) (a4:Int) (a5:Int)
 | p7 (x1:List Nat) (x2:List Nat) (a3:Int) (a4:Int) (a5:Int) (x6:List Nat) (a7:Int) (a8:Int) (x9:List Nat) (a10:Int) (a11:Int)
abbrev kdj:=List Nat
noncomputable def knl(x1 x2:List Nat):Option (ke8⊕kdj):=(mkI (wrap .i64 ((List.length x1:Int)+(List.length x2:Int))) (wrap .i64 ((List.length x1:Int)+(List.length x2:Int)))).bind λA=>some (.inl (.p3 x2 (List.replicate A 0) x1 (List.length x1:Int) 0))
noncomputable def khz(x1 x2 x3:List Nat)(a4 a5:Int):Option (ke8⊕kdj):=cond (decide (a5<a4)) ((atI x3 a5).bind λA=>some (.inl (.p7 x1 x2 a5 ((A:Int)) 0 x3 a4 a5 x1 (List.length x1:Int) 0))) (some (.inr (digs B (num B x2))))
noncomputable def kig(x1 x2:List Nat)(a3 a4 a5:Int)(x6:List Nat)(a7 a8:Int)(x9:List Nat)(a10 a11:Int):Option (ke8⊕kdj):=cond (decide (a11<a10)) ((atI x9 a11).bind λA=>(inI (List.length x2) (wrap .i64 (a3+a11))).bind λF=>(add64P ((mul64 a4 ((A:Int))).2) (((List.getD x2 F 0:Nat):Int)) 0).bind λC=>(add64P (C.1) a5 0).bind λp17=>(inI (List.length x2) (wrap .i64 (a3+a11))).bind λH=>(u64P (p17.1)).bind λI=>some (.inl (.p7 x1 (List.set x2 H I) a3 a4 (wrap .u64 ((wrap .u64 (((mul64 a4 ((A:Int))).1)+(C.2)))+(p17.2))) x6 a7 a8 x9 a10 (wrap .i64 (a11+1))))) ((inI (List.length x2) (wrap .i64 (a3+(List.length x1:Int)))).bind λK=>(u64P a5).bind λQ=>some (.inl (.p3 x1 (List.set x2 K Q) x6 a7 (wrap .i64 (a8+1)))))
noncomputable def kn1:ke8->Option (ke8⊕kdj)
 | .fn x1 x2=>knl x1 x2
 | .p3 x1 x2 x3 a4 a5=>khz x1 x2 x3 a4 a5
 | .p7 x1 x2 a3 a4 a5 x6 a7 a8 x9 a10 a11=>kig x1 x2 a3 a4 a5 x6 a7 a8 x9 a10 a11
@[reducible] def kvm(h0:AH)(r:kdj)(v:AV)(h':AH):Prop:=∃s1:Sl,v=s1.v/\Nats h' s1 r/\Grow h0 h'/\Own h0 s1
def kiv(r:kdj):ke8->Prop
 | .fn x1 x2=>∀{h:AH}{a1:Sl}{a2:Sl},Nats h a1 x1->Nats h a2 x2->Runs (go (.fn kda [a1.v,a2.v]) h) (kvm h r)
 | .p3 x1 x2 x3 a4 a5=>∀{h0 h:AH}{a1:Sl}{a2:Sl}{a3:Sl}{A:Nat},Grow h0 h->Nats h a1 x1->Vec h a2 A x2->Nats h a3 x3->h0.blks.size<=A->Av a1 A x1->Av a3 A x3->Runs (go (.pt kda krd [(1,a1.v),(5,a2.v),(20,a3.v),(21,.i a4),(22,.i a5)]) h) (kvm h0 r)
 | .p7 x1 x2 a3 a4 a5 x6 a7 a8 x9 a10 a11=>∀{h0 h:AH}{a1:Sl}{a2:Sl}{a6:Sl}{a9:Sl}{A:Nat},Grow h0 h->Nats h a1 x1->Vec h a2 A x2->Nats h a6 x6->Nats h a9 x9->h0.blks.size<=A->Av a1 A x1->Av a6 A x6->Av a9 A x9->Runs (go (.pt kda kp5 [(1,a1.v),(5,a2.v),(6,.i a3),(7,.int .u64 a4),(8,.int .u64 a5),(20,a6.v),(21,.i a7),(22,.i a8),(27,a9.v),(28,.i a10),(29,.i a11)]) h) (kvm h0 r)
theorem kbmo{r:kdj}{o:ke8⊕kdj}{x1 x2:List Nat}(e:knl x1 x2=some o)(A:GoodS (kiv r) r o):kiv r (.fn x1 x2):=by intro h a1 a2 n1 C;rw[kbb5];unfold knl at e;rw[n1.len];rw[C.len];obtain⟨K,H,e⟩:=qbu.1 e;refine Runs.mk H kes λs3 Q I F=>?_;cases e;exact A F (C.grow F) I (n1.grow F) (qbp _) (qbi C (qbp _)) (qbi n1 (qbp _))
theorem kbao{r:kdj}{o:ke8⊕kdj}{x1 x2 x3:List Nat}{a4 a5:Int}(e:khz x1 x2 x3 a4 a5=some o)(C:GoodS (kiv r) r o):kiv r (.p3 x1 x2 x3 a4 a5):=by
 intro h0 h a1 a2 a3 i2 U n1 I K H A F;rw[k9p];unfold khz at e;rw[n1.len];rw[K.len];refine qbd (λQ=>?_) (λQ=>?_)
 ·replace e:=(condT Q).symm.trans e;obtain⟨y7,X,e⟩:=qbu.1 e;obtain⟨r7,Y,Z⟩:=K.atI X;refine qz Y (qz (rdc Z qcp) ?_);cases e;exact C U n1 I K n1 H A F A
 ·replace e:=(condF Q).symm.trans e;obtain⟨s7,e7,n7,o7⟩:=kea I.nats;refine qz e7 (qz (seen qco) ?_);cases e;cases C;exact qy ⟨s7,rfl,n7,U,((o7 _ (I.own H)).of_le (ql _))⟩
theorem kba1{r:kdj}{o:ke8⊕kdj}{x1 x2:List Nat}{a3 a4 a5:Int}{x6:List Nat}{a7 a8:Int}{x9:List Nat}{a10 a11:Int}(e:kig x1 x2 a3 a4 a5 x6 a7 a8 x9 a10 a11=some o)(U:GoodS (kiv r) r o):kiv r (.p7 x1 x2 a3 a4 a5 x6 a7 a8 x9 a10 a11):=by
 intro h0 h a1 a2 a6 a9 i2 g0 n1 X n6 n9 H A C F;rw[k9w];unfold kig at e;rw[n1.len];rw[X.nats.len];rw[n9.len];refine qbd (λY=>?_) (λY=>?_)
 ·replace e:=(condT Y).symm.trans e;obtain⟨ai,I,e⟩:=qbu.1 e;obtain⟨au,af,aj⟩:=n9.atI I;refine qz af (qz (rdc aj qcp) (qz (k1w a4 ((ai:Int))) (qz rfl (qz (seen qcp) (qz (seen qcp) ?_)))));obtain⟨aw,ag,e⟩:=qbu.1 e;refine qz (X.idx rfl ag) (qz (X.rd rfl ag qcp) ?_);obtain⟨ax,ak,e⟩:=qbu.1 e;refine qz (kki ak) (qz rfl (qz (seen qcp) (qz (seen qcp) ?_)));obtain⟨p17,al,e⟩:=qbu.1 e;refine qz (kki al) (qz rfl (qz (seen qcp) (qz (seen qcp) ?_)));obtain⟨ay,ah,e⟩:=qbu.1 e;refine qz (X.idx rfl ah) ?_;obtain⟨az,am,e⟩:=qbu.1 e;refine qbh X rfl ah am λa0 an K=>?_;have Z:=n1.upda A K;have aa:=n6.upda C K;have ac:=n9.upda F K;cases e;exact U (g0.updr H K) Z an aa ac H A C F
 ·replace e:=(condF Y).symm.trans e;obtain⟨af,I,e⟩:=qbu.1 e;refine qz (X.idx rfl I) ?_;obtain⟨ba,ap,e⟩:=qbu.1 e;refine qbh X rfl I ap λbb aq Q=>?_;have ad:=n1.upda A Q;have ae:=n6.upda C Q;have ar:=n9.upda F Q;cases e;exact U (g0.updr H Q) ad aq ae H A C
theorem kbbv{s:ke8}{r:kdj}(C:Iter kn1 s r):kiv r s:=qbg (λs o e A=>by
 cases s with
 | fn x1 x2=>exact @kbmo _ _ x1 x2 e A
 | p3 x1 x2 x3 a4 a5=>exact @kbao _ _ x1 x2 x3 a4 a5 e A
 | p7 x1 x2 a3 a4 a5 x6 a7 a8 x9 a10 a11=>exact @kba1 _ _ x1 x2 a3 a4 a5 x6 a7 a8 x9 a10 a11 e A
 ) C
end Go.Ab
set_option maxRecDepth 10000
namespace Go.Ab
open Go.Proofs Go.Num
theorem kbdw{t o c:Nat}(A:o<18446744073709551616)(C:c<18446744073709551616)(h:(t+o+c)/18446744073709551616<18446744073709551616) :
  ((t%18446744073709551616+o+0)%18446744073709551616+c+0)%18446744073709551616=(t+o+c)%18446744073709551616/\
  IntKind.wrap .u64 (IntKind.wrap .u64 (((t/18446744073709551616:Nat):Int)+(((t%18446744073709551616+o+0)/18446744073709551616:Nat):Int))+((((t%18446744073709551616+o+0)%18446744073709551616+c+0)/18446744073709551616:Nat):Int))=(((t+o+c)/18446744073709551616:Nat):Int):=by
 rw[wrapU,wrapU];omega
def Empty(o:List Nat)(k:Nat):Prop:=∀j (h:j<o.length),k<=j->o[j]=0
theorem Empty.set{o:List Nat}{k j w:Nat}(z:Empty o k)(F:j<k):Empty (o.set j w) k:=λt A C=>by rw[List.getElem_set_ne (by omega)];exact z t (by simpa using A) C
theorem set_lt{b:Nat}{o:List Nat}{j w:Nat}(h:∀x∈o,x<b)(A:w<b):∀x∈o.set j w,x<b:=λx C=>by
 rcases List.mem_or_eq_of_mem_set C with h1 | h1
 ·exact h x h1
 ·rw[h1];exact A
theorem kwk{xs ys:List Nat}{r:kdj}{i x T:Nat}(I:x<B)(U:∀y∈ys,y<B)(hn:xs.length+ys.length<=8796093022208)(hi:i<xs.length)
  (K:∀o:List Nat,o.length=xs.length+ys.length->(∀y∈o,y<B)->Empty o (i+1+ys.length)->num B o=T+B^i*(x*num B ys)->Iter kn1 (.p3 ys o xs (xs.length:Int) ((i+1:Nat):Int)) r) :
  ∀(d k:Nat),k+d=ys.length->∀(o:List Nat)(c:Nat),o.length=xs.length+ys.length->(∀y∈o,y<B)->Empty o (i+ys.length)->c<B->Row B o i k c x ys T->
   Iter kn1 (.p7 ys o (i:Int) (x:Int) (c:Int) xs (xs.length:Int) (i:Int) ys (ys.length:Int) (k:Int)) r
 | 0,k,Q,o,c,lo,to,zo,C,row=>by
  have Q:k=ys.length:=by omega
  subst Q;have A:i+ys.length<o.length:=by omega
  refine .next ?_ (K (o.set (i+ys.length) c) (by simpa using lo) (set_lt to C) ?_ ?_)
  ·show kig _ _ _ _ _ _ _ _ _ _ _=_;unfold kig;rw[condF (by rw[qbv];omega),<- Int.natCast_add,kfy (by omega),kbi A,qbt,kbt C,qbt,kj (by omega)]
  ·rw[show i+1+ys.length=i+ys.length+1 from by omega];intro j h1 h2;rw[List.getElem_set_ne (by omega)];exact zo j (by simpa using h1) (by omega)
  ·exact row.stop A (zo _ A (qbp _))
 | d+1,k,Q,o,c,lo,to,zo,C,row=>by
  have F:k<ys.length:=by omega
  have A:i+k<o.length:=by omega
  have X:=U ys[k] (qb3 _);have Y:=to o[i+k] (qb3 _);have H:=kzs I X Y C;obtain⟨c1,c2⟩:=kbdw Y C H;have Z:=Nat.mod_lt (x*ys[k]+o[i+k]+c) (show 0<18446744073709551616 by omega);refine .next ?_ (kwk I U hn hi K d (k+1) (by omega) (o.set (i+k) ((x*ys[k]+o[i+k]+c)%18446744073709551616)) ((x*ys[k]+o[i+k]+c)/18446744073709551616) (by simpa using lo) (set_lt to Z) (zo.set (by omega)) H (row.step F A (Nat.div_add_mod' _ _).symm))
  ·show kig _ _ _ _ _ _ _ _ _ _ _=_;unfold kig;rw[condT (by rw[qbw];omega),kcw F,qbt,<- Int.natCast_add,kfy (by omega),kbi A,qbt,k1y I X];dsimp only;rw[show List.getD o (i+k) 0=o[i+k]from kb0 A];have a1:=kon (x*ys[k]%B) o[i+k] (c:=0) (by omega);have a2:=kon ((x*ys[k]%B+o[i+k]+0)%18446744073709551616) c (c:=0) (by omega);rw[show((0:Nat):Int)=0 from rfl]at a1 a2;rw[a1,qbt];dsimp only;rw[a2,qbt,qbt];dsimp only;rw[c1,c2,kbt Z,qbt,kj (by omega)]
theorem k2k{xs ys:List Nat}(C:∀x∈xs,x<B)(F:∀y∈ys,y<B)(H:xs.length+ys.length<=8796093022208) :
  ∀(d i:Nat),i+d=xs.length->∀(o:List Nat),o.length=xs.length+ys.length->(∀y∈o,y<B)->Empty o (i+ys.length)->num B o=num B (xs.take i)*num B ys->
   Iter kn1 (.p3 ys o xs (xs.length:Int) (i:Int)) (digs B (num B xs*num B ys))
 | 0,i,hi,o,lo,to,zo,e=>by
  have hi:i=xs.length:=by omega
  subst hi;rw[List.take_length]at e;refine .done ?_;show khz _ _ _ _ _=_;unfold khz;rw[condF (by rw[qbv];omega),e]
 | d+1,i,hi,o,lo,to,zo,e=>by
  have A:i<xs.length:=by omega
  refine .next (s':=.p7 ys o (i:Int) (xs[i]:Int) ((0:Nat):Int) xs (xs.length:Int) (i:Int) ys (ys.length:Int) ((0:Nat):Int)) ?_
   (kwk (T:=num B (xs.take i)*num B ys) (C _ (qb3 _)) F H A (λI K t' Q U=>?_) ys.length 0 (by omega) o 0 lo to zo (show 0<18446744073709551616 by omega) (Row.start e))
  ·show khz _ _ _ _ _=_;unfold khz;rw[condT (by rw[qbw];omega),kcw A,qbt];rfl
  ·refine k2k C F H d (i+1) (by omega) I K t' Q ?_;rw[U,kyj A rfl]
theorem kbef{xs ys:List Nat}(C:∀x∈xs,x<B)(F:∀y∈ys,y<B)(A:xs.length+ys.length<=8796093022208):Iter kn1 (.fn xs ys) (digs B (num B xs*num B ys)):=by
 have z:∀k,Empty (List.replicate (xs.length+ys.length) 0) k:=λk j I _=>by simp
 refine .next (s':=.p3 ys (List.replicate (xs.length+ys.length) 0) xs (xs.length:Int) ((0:Nat):Int)) ?_ (k2k C F A xs.length 0 (by omega) _ (by simp) ?_ (z _) ?_)
 ·show knl _ _=_;unfold knl;rw[<- Int.natCast_add,kfy (by omega),kgi A,qbt];rfl
 ·intro y H;rw[List.eq_of_mem_replicate H];exact show 0<18446744073709551616 by omega
 ·have:=klx B [] (xs.length+ys.length)
  simpa[num]using this
theorem kt6{h:AH}{s t:Sl}{xs ys:List Nat}(n:Nats h s xs)(m:Nats h t ys)(A:xs.length+ys.length<=8796093022208):∃(s':Sl)(h':AH),go (.fn kda [s.v,t.v]) h=some (s'.v,h')/\Nats h' s' (digs B (num B xs*num B ys))/\Grow h h'/\Own h s':=by obtain⟨_,h',e,s',rfl,C,g,o⟩:=kbbv (kbef n.lt m.lt A) n m;exact⟨s',h',e,C,g,o⟩
end Go.Ab
set_option maxRecDepth 10000
namespace Go.Ab
open IntKind (wrap)
open Go.Proofs Go.Num
inductive ke7
 | fn (x1:List Nat) (x2:List Nat)
 | p3 (x1:List Nat) (x2:List Nat) (x3:List Nat) (a4:Int)
 | p7 (x1:List Nat) (x2:List Nat) (x3:List Nat) (a4:Int) (a5:Int) (a6:Int)
abbrev kdh:=List Nat
noncomputable def kn9(x1 x2:List Nat):Option (ke7⊕kdh):=(mkI (wrap .i64 ((List.length x1:Int)+(List.length x2:Int))) (wrap .i64 ((List.length x1:Int)+(List.length x2:Int)))).bind λA=>some (.inl (.p3 x1 x2 (List.replicate A 0) 0))
noncomputable def kib(x1 x2 x3:List Nat)(a4:Int):Option (ke7⊕kdh):=cond (decide (a4<(List.length x1:Int))) (some (.inl (.p7 x1 x2 x3 a4 0 0))) ((need (∀x∈x3,x<D)).bind λA=>some (.inr (digs D (num D x3))))
noncomputable def kje(x1 x2 x3:List Nat)(a4 a5 a6:Int):Option (ke7⊕kdh):=cond (decide (a6<(List.length x2:Int))) ((inI (List.length x3) (wrap .i64 (a4+a6))).bind λC=>(atI x1 a4).bind λI=>(atI x2 a6).bind λA=>(inI (List.length x3) (wrap .i64 (a4+a6))).bind λF=>(u64P (Int.tmod (wrap .u64 ((wrap .u64 ((((List.getD x3 C 0:Nat):Int))+(wrap .u64 (((I:Int))*((A:Int))))))+a5)) 65536)).bind λH=>some (.inl (.p7 x1 x2 (List.set x3 F H) a4 (wrap .u64 (Int.tdiv (wrap .u64 ((wrap .u64 ((((List.getD x3 C 0:Nat):Int))+(wrap .u64 (((I:Int))*((A:Int))))))+a5)) 65536)) (wrap .i64 (a6+1))))) ((inI (List.length x3) (wrap .i64 (a4+(List.length x2:Int)))).bind λC=>(u64P a5).bind λK=>some (.inl (.p3 x1 x2 (List.set x3 C K) (wrap .i64 (a4+1)))))
noncomputable def knj:ke7->Option (ke7⊕kdh)
 | .fn x1 x2=>kn9 x1 x2
 | .p3 x1 x2 x3 a4=>kib x1 x2 x3 a4
 | .p7 x1 x2 x3 a4 a5 a6=>kje x1 x2 x3 a4 a5 a6
@[reducible] def ksb(h0:AH)(r:kdh)(v:AV)(h':AH):Prop:=∃s1:Sl,v=s1.v/\Nats h' s1 r/\Grow h0 h'/\Own h0 s1
def ki7(r:kdh):ke7->Prop
 | .fn x1 x2=>∀{h:AH}{a1:Sl}{a2:Sl},Nats h a1 x1->Nats h a2 x2->Runs (go (.fn kde [a1.v,a2.v]) h) (ksb h r)
 | .p3 x1 x2 x3 a4=>∀{h0 h:AH}{a1:Sl}{a2:Sl}{a3:Sl}{A:Nat},Grow h0 h->Nats h a1 x1->Nats h a2 x2->Vec h a3 A x3->h0.blks.size<=A->Av a1 A x1->Av a2 A x2->Runs (go (.pt kde kqm [(0,a1.v),(1,a2.v),(5,a3.v),(6,.i a4)]) h) (ksb h0 r)
 | .p7 x1 x2 x3 a4 a5 a6=>∀{h0 h:AH}{a1:Sl}{a2:Sl}{a3:Sl}{A:Nat},Grow h0 h->Nats h a1 x1->Nats h a2 x2->Vec h a3 A x3->h0.blks.size<=A->Av a1 A x1->Av a2 A x2->Runs (go (.pt kde kp7 [(0,a1.v),(1,a2.v),(5,a3.v),(6,.i a4),(7,.int .u64 a5),(8,.i a6)]) h) (ksb h0 r)
theorem kbff{r:kdh}{o:ke7⊕kdh}{x1 x2:List Nat}(e:kn9 x1 x2=some o)(A:GoodS (ki7 r) r o):ki7 r (.fn x1 x2):=by intro h a1 a2 n1 C;rw[kbbq];unfold kn9 at e;rw[n1.len];rw[C.len];obtain⟨K,H,e⟩:=qbu.1 e;refine Runs.mk H kes λs3 Q I F=>?_;cases e;exact A F (n1.grow F) (C.grow F) I (qbp _) (qbi n1 (qbp _)) (qbi C (qbp _))
theorem k5i{r:kdh}{o:ke7⊕kdh}{x1 x2 x3:List Nat}{a4:Int}(e:kib x1 x2 x3 a4=some o)(A:GoodS (ki7 r) r o):ki7 r (.p3 x1 x2 x3 a4):=by
 intro h0 h a1 a2 a3 i3 U n1 Y K H C F;rw[k52];unfold kib at e;rw[n1.len];refine qbd (λQ=>?_) (λQ=>?_)
 ·replace e:=(condT Q).symm.trans e;cases e;exact A U n1 Y K H C F
 ·replace e:=(condF Q).symm.trans e;obtain⟨I,X,e⟩:=qbu.1 e;obtain⟨Z,e6,n6,o6⟩:=kkn K.nats  I.down;refine qz e6 (qz (seen qco) ?_);cases e;cases A;exact qy ⟨Z,rfl,n6,U,((o6 _ (K.own H)).of_le (ql _))⟩
theorem kbkt{r:kdh}{o:ke7⊕kdh}{x1 x2 x3:List Nat}{a4 a5 a6:Int}(e:kje x1 x2 x3 a4 a5 a6=some o)(H:GoodS (ki7 r) r o):ki7 r (.p7 x1 x2 x3 a4 a5 a6):=by
 intro h0 h a1 a2 a3 i3 g0 n1 n2 I F A C;rw[kbcu];unfold kje at e;rw[n1.len];rw[n2.len];rw[I.nats.len];refine qbd (λk7=>?_) (λk7=>?_)
 ·replace e:=(condT k7).symm.trans e;obtain⟨j8,X,e⟩:=qbu.1 e;refine qz (I.idx rfl X) (qz (I.rd rfl X qcp) ?_);obtain⟨y9,q9,e⟩:=qbu.1 e;obtain⟨r9,j9,l9⟩:=n1.atI q9;refine qz j9 (qz (rdc l9 qcp) ?_);obtain⟨ah,ac,e⟩:=qbu.1 e;obtain⟨ai,ad,ae⟩:=n2.atI ac;refine qz ad (qz (rdc ae qcp) ?_);obtain⟨aj,Y,e⟩:=qbu.1 e;refine qz (I.idx rfl Y) ?_;obtain⟨ak,af,e⟩:=qbu.1 e;refine qbh I rfl Y af λal ag K=>?_;have Q:=n1.upda A K;have U:=n2.upda C K;cases e;exact H (g0.updr F K) Q U ag F A C
 ·replace e:=(condF k7).symm.trans e;obtain⟨j8,X,e⟩:=qbu.1 e;refine qz (I.idx rfl X) ?_;obtain⟨w9,z9,e⟩:=qbu.1 e;refine qbh I rfl X z9 λH9 v9 u9=>?_;have Z:=n1.upda A u9;have aa:=n2.upda C u9;cases e;exact H (g0.updr F u9) Z aa v9 F A C
theorem kbgt{s:ke7}{r:kdh}(C:Iter knj s r):ki7 r s:=qbg (λs o e A=>by
 cases s with
 | fn x1 x2=>exact @kbff _ _ x1 x2 e A
 | p3 x1 x2 x3 a4=>exact @k5i _ _ x1 x2 x3 a4 e A
 | p7 x1 x2 x3 a4 a5 a6=>exact @kbkt _ _ x1 x2 x3 a4 a5 a6 e A
 ) C
end Go.Ab
set_option maxRecDepth 10000
namespace Go.Ab
open Go.Proofs Go.Num
theorem tmodD(n:Nat):Int.tmod (n:Int) 65536=((n%65536:Nat):Int):=rfl
theorem tdivD(n:Nat):Int.tdiv (n:Int) 65536=((n/65536:Nat):Int):=rfl
theorem kcx{n:Nat}(h:n<18446744073709551616):IntKind.wrap .u64 (n:Int)=(n:Int):=by rw[wrapU];omega
theorem kzq{xs ys:List Nat}{r:kdh}{i T:Nat}(Q:∀x∈xs,x<D)(U:∀y∈ys,y<D)(hn:xs.length+ys.length<=8796093022208)(hi:i<xs.length)
  (K:∀o:List Nat,o.length=xs.length+ys.length->(∀y∈o,y<D)->Empty o (i+1+ys.length)->num D o=T+D^i*(xs[i]*num D ys)->Iter knj (.p3 xs ys o ((i+1:Nat):Int)) r) :
  ∀(d k:Nat),k+d=ys.length->∀(o:List Nat)(c:Nat),o.length=xs.length+ys.length->(∀y∈o,y<D)->Empty o (i+ys.length)->c<D->Row D o i k c xs[i] ys T->
   Iter knj (.p7 xs ys o (i:Int) (c:Int) (k:Int)) r
 | 0,k,I,o,c,lo,to,zo,F,row=>by
  have I:k=ys.length:=by omega
  subst I;have A:i+ys.length<o.length:=by omega
  have C:c<65536:=F;refine .next ?_ (K (o.set (i+ys.length) c) (by simpa using lo) (set_lt to F) ?_ ?_)
  ·show kje _ _ _ _ _ _=_;unfold kje;rw[condF (by rw[qbv];omega),<- Int.natCast_add,kfy (by omega),kbi A,qbt,kbt (by omega),qbt,kj (by omega)]
  ·rw[show i+1+ys.length=i+ys.length+1 from by omega];intro j h1 h2;rw[List.getElem_set_ne (by omega)];exact zo j (by simpa using h1) (by omega)
  ·exact row.stop A (zo _ A (qbp _))
 | d+1,k,I,o,c,lo,to,zo,F,row=>by
  have H:k<ys.length:=by omega
  have A:i+k<o.length:=by omega
  have X:=Q xs[i] (qb3 _);have Y:=U ys[k] (qb3 _);have Z:=to o[i+k] (qb3 _);have C:=kzs X Y Z F;have hl:=Nat.mod_lt (xs[i]*ys[k]+o[i+k]+c) (show 0<65536 by omega);refine .next ?_ (kzq Q U hn hi K d (k+1) (by omega) (o.set (i+k) ((xs[i]*ys[k]+o[i+k]+c)%65536)) ((xs[i]*ys[k]+o[i+k]+c)/65536) (by simpa using lo) (set_lt to hl) (zo.set (by omega)) C (row.step H A (Nat.div_add_mod' _ _).symm))
  ·show kje _ _ _ _ _ _=_;unfold kje;have hp:xs[i]*ys[k]<=65535*65535:=Nat.mul_le_mul (by have:xs[i]<65536:=X;omega) (by have:ys[k]<65536:=Y;omega);have ac:o[i+k]<65536:=Z;have aa:c<65536:=F
   have e1:IntKind.wrap .u64 (IntKind.wrap .u64 (((List.getD o (i+k) 0:Nat):Int)+IntKind.wrap .u64 ((xs[i]:Int)*(ys[k]:Int)))+(c:Int))=((xs[i]*ys[k]+o[i+k]+c:Nat):Int):=by
    rw[show List.getD o (i+k) 0=o[i+k]from kb0 A,<- Int.natCast_mul];generalize xs[i]*ys[k]=t at *
    generalize o[i+k]=w at *
    rw[kcx (n:=t) (by omega),<- Int.natCast_add,kcx (by omega),<- Int.natCast_add,kcx (by omega)];omega
   rw[condT (by rw[qbw];omega),<- Int.natCast_add,kfy (by omega),kbi A,qbt,kcw hi,qbt,kcw H,qbt,qbt,e1,tmodD,tdivD,kbt (by omega),qbt,kj (by omega),kcx];have:(xs[i]*ys[k]+o[i+k]+c)/65536<65536:=C;omega
theorem kzh{xs ys:List Nat}(C:∀x∈xs,x<D)(F:∀y∈ys,y<D)(H:xs.length+ys.length<=8796093022208) :
  ∀(d i:Nat),i+d=xs.length->∀(o:List Nat),o.length=xs.length+ys.length->(∀y∈o,y<D)->Empty o (i+ys.length)->num D o=num D (xs.take i)*num D ys->
   Iter knj (.p3 xs ys o (i:Int)) (digs D (num D xs*num D ys))
 | 0,i,hi,o,lo,to,zo,e=>by
  have hi:i=xs.length:=by omega
  subst hi;rw[List.take_length]at e;refine .done ?_;show kib _ _ _ _=_;unfold kib;rw[condF (by rw[qbv];omega),kq to,qbt,e]
 | d+1,i,hi,o,lo,to,zo,e=>by
  have A:i<xs.length:=by omega
  refine .next (s':=.p7 xs ys o (i:Int) ((0:Nat):Int) ((0:Nat):Int)) ?_
   (kzq (T:=num D (xs.take i)*num D ys) C F H A (λI K t' Q U=>?_) ys.length 0 (by omega) o 0 lo to zo (show 0<65536 by omega) (Row.start e))
  ·show kib _ _ _ _=_;unfold kib;rw[condT (by rw[qbw];omega)];rfl
  ·refine kzh C F H d (i+1) (by omega) I K t' Q ?_;rw[U,kyj A rfl]
theorem k7r{xs ys:List Nat}(C:∀x∈xs,x<D)(F:∀y∈ys,y<D)(A:xs.length+ys.length<=8796093022208):Iter knj (.fn xs ys) (digs D (num D xs*num D ys)):=by
 have z:∀k,Empty (List.replicate (xs.length+ys.length) 0) k:=λk j I _=>by simp
 refine .next (s':=.p3 xs ys (List.replicate (xs.length+ys.length) 0) ((0:Nat):Int)) ?_ (kzh C F A xs.length 0 (by omega) _ (by simp) ?_ (z _) ?_)
 ·show kn9 _ _=_;unfold kn9;rw[<- Int.natCast_add,kfy (by omega),kgi A,qbt];rfl
 ·intro y H;rw[List.eq_of_mem_replicate H];exact show 0<65536 by omega
 ·have:=klx D [] (xs.length+ys.length)
  simpa[num]using this
theorem ktu{h:AH}{s t:Sl}{xs ys:List Nat}(n:Nats h s xs)(m:Nats h t ys)(A:∀x∈xs,x<D)(C:∀y∈ys,y<D)(F:xs.length+ys.length<=8796093022208):∃(s':Sl)(h':AH),go (.fn kde [s.v,t.v]) h=some (s'.v,h')/\Nats h' s' (digs D (num D xs*num D ys))/\Grow h h'/\Own h s':=by obtain⟨_,h',e,s',rfl,H,g,o⟩:=kbgt (k7r A C F) n m;exact⟨s',h',e,H,g,o⟩
end Go.Ab
set_option maxRecDepth 10000
namespace Go.Ab
open IntKind (wrap)
open Go.Proofs Go.Num
inductive kg3
 | fn (x1:List Nat) (x2:List Nat) (a3:Int)
 | p2 (x1:List Nat) (x2:List Nat) (a3:Int) (a4:Int) (a5:Int)
abbrev kff:=List Nat
noncomputable def kr9(x1 x2:List Nat)(a3:Int):Option (kg3⊕kff):=some (.inl (.p2 x1 x2 a3 0 a3))
noncomputable def kf3(x1 x2:List Nat)(a3 a4 a5:Int):Option (kg3⊕kff):=cond (decide (a5<(List.length x1:Int))) (cond (decide ((wrap .i64 (a5-a3))<(List.length x2:Int))) (cond (decide ((wrap .i64 (a5-a3))<(List.length x2:Int))) ((atI x2 (wrap .i64 (a5-a3))).bind λZ=>(inI (List.length x1) a5).bind λC=>(add64P (((List.getD x1 C 0:Nat):Int)) ((Z:Int)) a4).bind λA=>(inI (List.length x1) a5).bind λF=>(u64P (A.1)).bind λH=>some (.inl (.p2 (List.set x1 F H) x2 a3 (A.2) (wrap .i64 (a5+1))))) ((inI (List.length x1) a5).bind λj9=>(add64P (((List.getD x1 j9 0:Nat):Int)) 0 a4).bind λp10=>(inI (List.length x1) a5).bind λI=>(u64P (p10.1)).bind λQ=>some (.inl (.p2 (List.set x1 I Q) x2 a3 (p10.2) (wrap .i64 (a5+1)))))) (cond (decide (a4>0)) (cond (decide ((wrap .i64 (a5-a3))<(List.length x2:Int))) ((atI x2 (wrap .i64 (a5-a3))).bind λU=>(inI (List.length x1) a5).bind λI=>(add64P (((List.getD x1 I 0:Nat):Int)) ((U:Int)) a4).bind λK=>(inI (List.length x1) a5).bind λX=>(u64P (K.1)).bind λY=>some (.inl (.p2 (List.set x1 X Y) x2 a3 (K.2) (wrap .i64 (a5+1))))) ((inI (List.length x1) a5).bind λC=>(add64P (((List.getD x1 C 0:Nat):Int)) 0 a4).bind λA=>(inI (List.length x1) a5).bind λF=>(u64P (A.1)).bind λH=>some (.inl (.p2 (List.set x1 F H) x2 a3 (A.2) (wrap .i64 (a5+1)))))) (some (.inr x1)))) (some (.inr x1))
noncomputable def kvj:kg3->Option (kg3⊕kff)
 | .fn x1 x2 a3=>kr9 x1 x2 a3
 | .p2 x1 x2 a3 a4 a5=>kf3 x1 x2 a3 a4 a5
@[reducible] def k4x(h0:AH)(a:Sl)(i:Nat)(r:kff)(v:AV)(h':AH):Prop:=v=.tup []/\Vec h' a i r/\Upd h0 h' i
def kmb(r:kff):kg3->Prop
 | .fn x1 x2 a3=>∀{h:AH}{a1:Sl}{a2:Sl}{A:Nat},Vec h a1 A x1->Nats h a2 x2->Av a2 A x2->Runs (go (.fn kem [a1.v,a2.v,.i a3]) h) (k4x h a1 A r)
 | .p2 x1 x2 a3 a4 a5=>∀{h0 h:AH}{a1:Sl}{a2:Sl}{A:Nat},Upd h0 h A->Vec h a1 A x1->Nats h a2 x2->Av a2 A x2->Runs (go (.pt kem kix [(0,a1.v),(1,a2.v),(2,.i a3),(6,.int .u64 a4),(7,.i a5)]) h) (k4x h0 a1 A r)
theorem kbkm{r:kff}{o:kg3⊕kff}{x1 x2:List Nat}{a3:Int}(e:kr9 x1 x2 a3=some o)(C:GoodS (kmb r) r o):kmb r (.fn x1 x2 a3):=by intro h a1 a2 I F H A;rw[k94];unfold kr9 at e;cases e;exact C ((ql _).toUpd _) F H A
theorem kbcw{r:kff}{o:kg3⊕kff}{x1 x2:List Nat}{a3 a4 a5:Int}(e:kf3 x1 x2 a3 a4 a5=some o)(C:GoodS (kmb r) r o):kmb r (.p2 x1 x2 a3 a4 a5):=by
 intro h0 h a1 a2 i1 g0 F X A;rw[kbis];unfold kf3 at e;rw[F.nats.len];rw[X.len];refine qbd (λk6=>?_) (λk6=>?_)
 ·replace e:=(condT k6).symm.trans e;refine qbd (λk7=>?_) (λk7=>?_)
  ·replace e:=(condT k7).symm.trans e;refine qbd (λY=>?_) (λY=>?_)
   ·replace e:=(condT Y).symm.trans e;obtain⟨y9,q9,e⟩:=qbu.1 e;obtain⟨r9,j9,l9⟩:=X.atI q9;refine qz j9 (qz (rdc l9 qcp) ?_);obtain⟨Z,H,e⟩:=qbu.1 e;refine qz (F.idx rfl H) (qz (F.rd rfl H qcp) ?_);obtain⟨ai,I,e⟩:=qbu.1 e;refine qz (kki I) (qz rfl (qz (seen qcp) (qz (seen qcp) ?_)));obtain⟨aj,K,e⟩:=qbu.1 e;refine qz (F.idx rfl K) ?_;obtain⟨ak,aa,e⟩:=qbu.1 e;refine qbh F rfl K aa λal ac U=>?_;have Q:=X.upda A U;cases e;exact C (g0.trans U) ac Q A
   ·replace e:=(condF Y).symm.trans e;obtain⟨j9,q9,e⟩:=qbu.1 e;refine qz (F.idx rfl q9) (qz (F.rd rfl q9 qcp) ?_);obtain⟨p10,H,e⟩:=qbu.1 e;refine qz (kki H) (qz rfl (qz (seen qcp) (qz (seen qcp) ?_)));obtain⟨am,I,e⟩:=qbu.1 e;refine qz (F.idx rfl I) ?_;obtain⟨aw,an,e⟩:=qbu.1 e;refine qbh F rfl I an λax ap af=>?_;have ad:=X.upda A af;cases e;exact C (g0.trans af) ap ad A
  ·replace e:=(condF k7).symm.trans e;refine qbd (λY=>?_) (λY=>?_)
   ·replace e:=(condT Y).symm.trans e;refine qbd (λk9=>?_) (λk9=>?_)
    ·replace e:=(condT k9).symm.trans e;obtain⟨ay,H,e⟩:=qbu.1 e;obtain⟨az,Z,aq⟩:=X.atI H;refine qz Z (qz (rdc aq qcp) ?_);obtain⟨am,I,e⟩:=qbu.1 e;refine qz (F.idx rfl I) (qz (F.rd rfl I qcp) ?_);obtain⟨a0,K,e⟩:=qbu.1 e;refine qz (kki K) (qz rfl (qz (seen qcp) (qz (seen qcp) ?_)));obtain⟨ba,ag,e⟩:=qbu.1 e;refine qz (F.idx rfl ag) ?_;obtain⟨bb,ar,e⟩:=qbu.1 e;refine qbh F rfl ag ar λbc au ah=>?_;have ae:=X.upda A ah;cases e;exact C (g0.trans ah) au ae A
    ·replace e:=(condF k9).symm.trans e;obtain⟨Z,H,e⟩:=qbu.1 e;refine qz (F.idx rfl H) (qz (F.rd rfl H qcp) ?_);obtain⟨ai,I,e⟩:=qbu.1 e;refine qz (kki I) (qz rfl (qz (seen qcp) (qz (seen qcp) ?_)));obtain⟨aj,K,e⟩:=qbu.1 e;refine qz (F.idx rfl K) ?_;obtain⟨ak,aa,e⟩:=qbu.1 e;refine qbh F rfl K aa λal ac U=>?_;have Q:=X.upda A U;cases e;exact C (g0.trans U) ac Q A
   ·replace e:=(condF Y).symm.trans e;cases e;cases C;exact qy ⟨rfl,F,g0⟩
 ·replace e:=(condF k6).symm.trans e;cases e;cases C;exact qy ⟨rfl,F,g0⟩
theorem kbba{s:kg3}{r:kff}(C:Iter kvj s r):kmb r s:=qbg (λs o e A=>by
 cases s with
 | fn x1 x2 a3=>exact @kbkm _ _ x1 x2 a3 e A
 | p2 x1 x2 a3 a4 a5=>exact @kbcw _ _ x1 x2 a3 a4 a5 e A
 ) C
end Go.Ab
set_option maxRecDepth 10000
namespace Go.Ab
open Go.Proofs Go.Num
theorem ker{xs:List Nat}{i:Nat}(h:i<xs.length):List.getD xs i 0=xs[i]:=kb0 h
theorem kbne{o xs:List Nat}{at' i c:Nat}(K:o.length<=4611686018427387904)(Q:xs.length<=4611686018427387904)(h1:i<o.length)(U:at'<=i)(C:c<=1)(X:i-at'<xs.length\/0<c) :
  kvj (.p2 o xs (at':Int) (c:Int) (i:Int))=some (.inl (.p2 (o.set i ((xs.getD (i-at') 0+o[i]+c)%18446744073709551616)) xs (at':Int) (((xs.getD (i-at') 0+o[i]+c)/18446744073709551616:Nat):Int) ((i+1:Nat):Int))):=by
 show kf3 _ _ _ _ _=_;unfold kf3;have H:IntKind.wrap .i64 ((i:Int)-(at':Int))=((i-at':Nat):Int):=by rw[wrap64 (by omega) (by omega)];omega
 have F:∀n:Nat,n%18446744073709551616<18446744073709551616:=λn=>Nat.mod_lt n (by omega);rw[condT (by rw[qbw];omega),H];by_cases A:i-at'<xs.length
 ·have a1:=kon o[i] xs[i-at'] C;rw[condT (by rw[qbw];omega),condT (by rw[qbw];omega),kcw A,qbt,kbi h1,qbt,ker h1,a1,qbt,qbt];dsimp only;rw[kbt (F _),qbt,kj (by omega),ker A,Nat.add_comm o[i]]
 ·have I:0<c:=by omega
  have a1:=kon o[i] 0 C;rw[show((0:Nat):Int)=0 from rfl]at a1;rw[condF (by rw[qbv];omega),condT (by rw[qbw];omega),condF (by rw[qbv];omega),kbi h1,qbt,ker h1,a1,qbt,qbt];dsimp only;rw[kbt (F _),qbt,kj (by omega),show xs.getD (i-at') 0=0 from by simp[List.getD,List.getElem?_eq_none (Nat.le_of_not_lt A)]];rw[Nat.add_comm o[i]]
theorem kx6{xs:List Nat}{at' T:Nat}(I:∀x∈xs,x<B)(K:xs.length<=4611686018427387904) :
  ∀(d i:Nat)(o:List Nat)(c:Nat),i+d=o.length->at'<=i->o.length<=4611686018427387904->(∀y∈o,y<B)->c<=1->num B o+c*B^i=T+B^at'*num B (xs.take (i-at'))->T+B^at'*num B xs<B^o.length->
   ∃r,Iter kvj (.p2 o xs (at':Int) (c:Int) (i:Int)) r/\r.length=o.length/\(∀y∈r,y<B)/\num B r=T+B^at'*num B xs
 | 0,i,o,c,hi,C,H,to,Q,inv,bound=>by
  have hi:i=o.length:=by omega
  subst hi
  have F:num B xs=num B (xs.take (o.length-at'))+B^(xs.take (o.length-at')).length*num B (xs.drop (o.length-at')):=by rw[<- kdn,List.take_append_drop]
  have A:c=0:=by
   rcases Nat.eq_zero_or_pos c with e | e
   ·exact e
   ·have:c=1:=by omega
    subst this;have:B^at'*num B (xs.take (o.length-at'))<=B^at'*num B xs:=Nat.mul_le_mul_left _ (by omega);omega
  subst A
  have X:num B (xs.take (o.length-at'))=num B xs:=by
   by_cases Y:xs.length<=o.length-at'
   ·rw[List.take_of_length_le Y]
   ·rw[qcf,Nat.min_eq_left (by omega)]at F;rw[F];rcases Nat.eq_zero_or_pos (num B (xs.drop (o.length-at')))with e | e
    ·rw[e];omega
    ·exfalso
     have h1:B^(o.length-at')<=num B xs:=by have:B^(o.length-at')*1<=B^(o.length-at')*num B (xs.drop (o.length-at')):=Nat.mul_le_mul_left _ e;omega
     have Z:B^at'*B^(o.length-at')<=B^at'*num B xs:=Nat.mul_le_mul_left _ h1;rw[<- Nat.pow_add,show at'+(o.length-at')=o.length from by omega]at Z;omega
  refine⟨o,.done ?_,rfl,to,?_⟩
  ·show kf3 _ _ _ _ _=_;unfold kf3;rw[condF (by rw[qbv];omega)]
  ·rw[<- X];omega
 | d+1,i,o,c,hi,C,H,to,Q,inv,bound=>by
  have h1:i<o.length:=by omega
  by_cases hs:i-at'<xs.length\/0<c
  ·have hm:=Nat.mod_lt (xs.getD (i-at') 0+o[i]+c) (show 0<18446744073709551616 by omega)
   have hy:xs.getD (i-at') 0<18446744073709551616:=by
    by_cases U:i-at'<xs.length
    ·rw[ker U];exact I _ (qb3 _)
    ·rw[show xs.getD (i-at') 0=0 from by simp[List.getD,List.getElem?_eq_none (Nat.le_of_not_lt U)]];omega
   have aa:o[i]<18446744073709551616:=to _ (qb3 _)
   obtain⟨r,it,r1,r2,r3⟩:=kx6 (T:=T) (at':=at') I K d (i+1) (o.set i ((xs.getD (i-at') 0+o[i]+c)%18446744073709551616)) ((xs.getD (i-at') 0+o[i]+c)/18446744073709551616) (by simp;omega) (by omega) (by simpa using H) (set_lt to hm) (by omega) (by have k1:=kj1 (b:=B) h1 ((xs.getD (i-at') 0+o[i]+c)%18446744073709551616);have k2:=kw4 k1 (Nat.div_add_mod' (xs.getD (i-at') 0+o[i]+c) 18446744073709551616).symm inv;rw[Nat.pow_succ,k2,show i+1-at'=i-at'+1 from by omega,kf9,Nat.mul_add,<- Nat.mul_assoc,<- Nat.pow_add,show at'+(i-at')=i from by omega];omega) (by simpa using bound)
   exact⟨r,.next (kbne H K h1 C Q hs) it,by simpa using r1,r2,r3⟩
  ·have A:c=0:=by omega
   subst A;rw[List.take_of_length_le (by omega)]at inv;refine⟨o,.done ?_,rfl,to,by omega⟩;show kf3 _ _ _ _ _=_;unfold kf3;have e0:IntKind.wrap .i64 ((i:Int)-(at':Int))=((i-at':Nat):Int):=by rw[wrap64 (by omega) (by omega)];omega
   rw[condT (by rw[qbw];omega),e0,condF (by rw[qbv];omega),condF (by rw[qbv];omega)]
theorem kw2{h:AH}{s t:Sl}{i:Nat}{o xs:List Nat}(v:Vec h s i o)(m:Nats h t xs)(av:Av t i xs){at':Nat}(A:at'<=o.length)(C:o.length<=4611686018427387904)(F:xs.length<=4611686018427387904)(bound:num B o+B^at'*num B xs<B^o.length) :
  ∃(h':AH)(r:List Nat),go (.fn kem [s.v,t.v,.i (at':Int)]) h=some (.tup [],h')/\Vec h' s i r/\Upd h h' i/\r.length=o.length/\num B r=num B o+B^at'*num B xs:=by
 obtain⟨r,H,r1,r2,I⟩:=kx6 (T:=num B o) (at':=at') m.lt F (o.length-at') at' o 0 (by omega) (qbp _) C v.lt (by omega) (by simp[num]) bound;obtain⟨_,h',e,rfl,v',u⟩:=kbba (.next (s:=.fn o xs (at':Int)) rfl H) v m av;exact⟨h',r,e,v',u,r1,I⟩
@[reducible] def ksv(p:Ref):AV:=.func (.func kln) [] [.ptr (some p)]
theorem kqw(p:Ref)(x y:AV)(h:AH):callV Pg go (ksv p) [x,y] h=go (.fn kln [x,y,.ptr (some p)]) h:=by kernel_rfl
theorem Grow.same_cell{h h':AH}(g:Grow h h'){p:Ref}{v:AV}(c:h.cell p=some v):SameAt h h' p 1:=⟨λj A=>by
 have:j=0:=by omega
 subst this;rw[Ref.add_zero,c,g.cell_some c],λh=>by cases h⟩
theorem kbeu{h:AH}{s d:Sl}{i:Nat}{xs ys:List Nat}(n:Nats h s xs)(v:Vec h d i ys)(H:xs.length<=ys.length):∃h',copyH s d 1 h=some h'/\Vec h' d i (xs++ys.drop xs.length)/\Upd h h' i:=by
 have I:d.ref=some (.new i 0):=by rw[v.is]
 have A:d.len=ys.length:=v.len;have C:=n.cells.gets;unfold copyH;rw[I];cases F:s.ref with
 | none =>
  have:xs=[]:=by
   cases xs with
   | nil=>rfl
   | cons x xs =>obtain⟨r,e,_⟩:=n.cells.get 0 _ rfl;rw[F]at e;cases e
  subst this;exact⟨h,rfl,by simpa using v,(ql h).toUpd i⟩
 | some r =>
  rw[F,n.len]at C;simp only[AH.getsO]at C;dsimp only;rw[n.len,A,Nat.min_eq_left H,C,qbt];obtain⟨e,b⟩:=v.has;rw[b.puts (by simp;omega)]
  have K:(ys.map u64).take 0++xs.map u64++(ys.map u64).drop (0+(xs.map u64).length)=(xs++ys.drop xs.length).map u64:=by simp[List.map_drop]
  rw[K];refine⟨_,rfl,⟨?_,⟨e,qp b _ _⟩,?_,?_⟩,AH.upd_Upd h i _ e⟩
  ·have:(xs++ys.drop xs.length).length=ys.length:=by simp;omega
   rw[this];exact v.is
  ·intro z Q;rcases qb5.1 Q with h1 | h1
   ·exact n.lt z h1
   ·exact v.lt z (List.mem_of_mem_drop h1)
  ·have:=v.short;simp;omega
theorem kri{h:AH}{s:Sl}{xs:List Nat}{p:Ref}{k:Nat}(n:Nats h s xs)(c:h.cell p=some (.i (k:Int))):∃s',go (.fn kkp [s.v,.ptr (some p)]) h=some (s'.v,h)/\Nats h s' (digs B (num B (xs.take (min k xs.length)))):=by rw[k9h,c,qbt,kb,qbt,klb,n.len];obtain⟨s1,A,n1,_⟩:=n.cut (l:=0) (n:=min k xs.length) (by omega) (by omega);rw[show min (k:Int) (xs.length:Int)=((min k xs.length:Nat):Int)from by omega,show(0:Int)=((0:Nat):Int)from rfl,A,qbt];obtain⟨s2,C,F,_⟩:=kea n1;rw[C,qbt,qbt,asSl_v,qbt];exact⟨s2,rfl,by simpa using F⟩
theorem kop{h:AH}{s:Sl}{xs:List Nat}{p:Ref}{k:Nat}(n:Nats h s xs)(c:h.cell p=some (.i (k:Int))):∃s',go (.fn kjv [s.v,.ptr (some p)]) h=some (s'.v,h)/\Nats h s' (xs.drop (min k xs.length)):=by rw[kbf1,c,qbt,kb,qbt,klb,n.len];obtain⟨s1,A,n1,_⟩:=n.cut (l:=min k xs.length) (n:=xs.length) (by omega) (by omega);rw[show min (k:Int) (xs.length:Int)=((min k xs.length:Nat):Int)from by omega,A,qbt];refine⟨s1,rfl,?_⟩;rwa[List.take_of_length_le (by simp)]at n1
end Go.Ab
set_option maxRecDepth 10000
namespace Go.Ab
open IntKind (wrap)
open Go.Proofs Go.Num
theorem B1:1<=B:=by decide
theorem k24(b:Nat)(xs:List Nat)(n:Nat):num b xs=num b (xs.take (min n xs.length))+b^n*num b (xs.drop (min n xs.length)):=by
 have e:num b xs=num b (xs.take (min n xs.length)++xs.drop (min n xs.length)):=by rw[List.take_append_drop]
 rw[kdn,qcf]at e;by_cases h:n<=xs.length
 ·rw[e,show min (min n xs.length) xs.length=n from by omega]
 ·have:xs.drop (min n xs.length)=[]:=List.drop_of_length_le (by omega);rw[this]at e|-
  simpa[num]using e
theorem koe{a c:Nat}(h:a<=c):(digs B a).length<=(digs B c).length:=by rw[kbl B2];exact qbs h ((kbl B2 c _).1 (qbp _))
theorem klk{xs:List Nat}(h:∀x∈xs,x<B):(digs B (num B xs)).length<=xs.length:=by rw[kbl B2];exact num_lt B1 h
theorem k5f(P F A bl C:Nat):(F+P*A)*(bl+P*C)=F*bl+P*((F+A)*(bl+C)-F*bl-A*C)+P*P*(A*C):=by
 have e:(F+A)*(bl+C)-F*bl-A*C=F*C+A*bl:=by rw[Nat.add_mul,Nat.mul_add,Nat.mul_add];omega
 rw[e,Nat.add_mul,Nat.mul_add,Nat.mul_add,Nat.mul_add];have H:F*(P*C)=P*(F*C):=Nat.mul_left_comm _ _ _;have I:P*A*bl=P*(A*bl):=Nat.mul_assoc _ _ _;have K:P*A*(P*C)=P*P*(A*C):=Nat.mul_mul_mul_comm _ _ _ _;rw[H,I,K];omega
set_option maxHeartbeats 2000000 in
theorem kpn:∀(N:Nat){h:AH}{s t:Sl}{xs ys:List Nat}{p:Ref},xs.length+ys.length<N->N<=268435456->Nats h s xs->Nats h t ys->h.cell p=some (ksv p)->
  Runs (go (.fn kln [s.v,t.v,.ptr (some p)]) h) λv h'=>∃s':Sl,v=s'.v/\Nats h' s' (digs B (num B xs*num B ys))/\Grow h h'/\Own h s'
 | 0,_,_,_,_,_,_,hN,_,_,_,_=>by omega
 | N+1,h,s,t,xs,ys,p,hN,hM,ns,nt,c=>by
  rw[kbbn,ns.len,nt.len];refine qbd (λk1=>?_) (λk1=>?_)
  ·obtain⟨s4,h4,e4,n4,g4,o4⟩:=kt6 ns nt (by omega);refine qz e4 (qz (seen qco) ?_);exact qy ⟨s4,rfl,n4,g4,o4⟩
  refine qbd (λk2=>?_) (λk2=>?_)
  ·obtain⟨s4,h4,e4,n4,g4,o4⟩:=kt6 ns nt (by omega);refine qz e4 (qz (seen qco) ?_);exact qy ⟨s4,rfl,n4,g4,o4⟩
  rw[qbv]at k1 k2;obtain⟨n,hn⟩:∃n,n=(max xs.length ys.length+1)/2:=⟨_,rfl⟩
  have hw:wrap .i64 (Int.tdiv (wrap .i64 ((imax (xs.length:Int) (ys.length:Int))+1)) 2)=(n:Int):=by rw[kih,show max (xs.length:Int) (ys.length:Int)=((max xs.length ys.length:Nat):Int)from by omega,kj (by omega)];show wrap .i64 (((max xs.length ys.length+1)/2:Nat):Int)=_;rw[<- hn,kfy (by omega)]
  rw[hw];have dk:(xs.take (min n xs.length)).length=min n xs.length:=by simp
  have dl:(ys.take (min n ys.length)).length=min n ys.length:=by simp
  have bz:∀x∈xs.take (min n xs.length),x<B:=λx hx=>ns.lt x (List.mem_of_mem_take hx);have b0:∀x∈ys.take (min n ys.length),x<B:=λx hx=>nt.lt x (List.mem_of_mem_take hx);have b1:∀x∈xs.drop (min n xs.length),x<B:=λx hx=>ns.lt x (List.mem_of_mem_drop hx);have b2:∀x∈ys.drop (min n ys.length),x<B:=λx hx=>nt.lt x (List.mem_of_mem_drop hx);have dm:(xs.drop (min n xs.length)).length=xs.length-min n xs.length:=by simp
  have dn:(ys.drop (min n ys.length)).length=ys.length-min n ys.length:=by simp
  have da:=klk bz;have db:=klk b0;have dp:=klk b1;have dq:=klk b2;have ea:=k24 B xs n;have eb:=k24 B ys n;generalize aw:num B (xs.take (min n xs.length))=al at *
  generalize ax:num B (xs.drop (min n xs.length))=ah at *
  generalize ay:num B (ys.take (min n ys.length))=bl at *
  generalize az:num B (ys.drop (min n ys.length))=bh at *
  refine q0 λH8 b8 g8=>?_;refine qba b8 rfl λH9 b9 u9=>?_;have gA:=g8.updr (qbp _) u9;have U:=gA.cell_some c;have k9:H9.cell (.new h.blks.size 0)=some (.i (n:Int)):=b9.cell 0;have X:=ns.grow gA;have Y:=nt.grow gA;refine qz U (qz U ?_);obtain⟨dr,b3,a0⟩:=kri X k9;obtain⟨dt,b4,ba⟩:=kri Y k9;rw[aw]at a0;rw[ay]at ba;refine qz b3 (qz (seen qco) ?_);refine qbe ((ql _).same_cell U) ?_;refine qbe ((ql _).same_cell U) ?_;refine qz b4 (qz (seen qco) ?_);refine qbe ((ql _).same_cell U) ?_;refine qbe ((ql _).same_cell U) ?_;obtain⟨_,du,b5,dv,rfl,af,A,dw⟩:=kpn N (by omega) (by omega) a0 ba U;rw[ko B2,ko B2]at af;refine qz ((kqw p _ _ _).trans b5) (qz (seen qco) ?_);refine qbe (A.same_cell U) ?_;have Z:=A.cell_some U;have ag:=A.cell_some k9;obtain⟨dx,b6,b7⟩:=kop (X.grow A) ag;obtain⟨dy,ca,cb⟩:=kop (Y.grow A) ag;refine qz b6 (qz (seen qco) ?_);refine qbe ((ql _).same_cell Z) ?_;refine qz ca (qz (seen qco) ?_);refine qbe ((ql _).same_cell Z) ?_;obtain⟨_,dz,cc,d0,rfl,ai,aa,d1⟩:=kpn N (by omega) (by omega) b7 cb Z;rw[ax,az]at ai;refine qz ((kqw p _ _ _).trans cc) (qz (seen qco) ?_);have H:=aa.cell_some Z;have aj:=aa.cell_some ag;have gB:=A.trans aa;refine qz H ?_;obtain⟨d2,cd,bb⟩:=kri (X.grow gB) aj;obtain⟨d3,ce,cf⟩:=kop (X.grow gB) aj;rw[aw]at bb;refine qz cd (qz (seen qco) ?_);refine qbe ((ql _).same_cell H) ?_;refine qz ce (qz (seen qco) ?_);refine qbe ((ql _).same_cell H) ?_;obtain⟨d4,d5,zs,cg,ci,C,d6,bc,d7⟩:=kr8 bb cf (by omega) (by omega);rw[ko B2,ax]at bc;refine qz cg (qz (seen qco) ?_);refine qbe (C.same_cell H) ?_;have I:=C.cell_some H;have ak:=C.cell_some aj;obtain⟨d8,cj,bd,_⟩:=kea ci;rw[bc]at bd;refine qz cj (qz (seen qco) ?_);refine qbe ((ql _).same_cell I) ?_;obtain⟨d9,cl,be⟩:=kri (Y.grow (gB.trans C)) ak;obtain⟨ec,cm,cp⟩:=kop (Y.grow (gB.trans C)) ak;rw[ay]at be;refine qz cl (qz (seen qco) ?_);refine qbe ((ql _).same_cell I) ?_;refine qz cm (qz (seen qco) ?_);refine qbe ((ql _).same_cell I) ?_;obtain⟨ed,ee,ws,cu,cv,F,ef,bf,eg⟩:=kr8 be cp (by omega) (by omega);rw[ko B2,az]at bf;refine qz cu (qz (seen qco) ?_);refine qbe (F.same_cell I) ?_;have bg:=F.cell_some I;have eh:=F.cell_some ak;obtain⟨ei,cw,bi,_⟩:=kea cv;rw[bf]at bi;refine qz cw (qz (seen qco) ?_);refine qbe ((ql _).same_cell bg) ?_;have q1:=ku8 B2 al ah;have q2:=ku8 B2 bl bh;obtain⟨_,ej,cx,ek,rfl,bj,bk,el⟩:=kpn N (by omega) (by omega) (bd.grow F) bi bg;rw[ko B2,ko B2]at bj;refine qz ((kqw p _ _ _).trans cx) (qz (seen qco) ?_)
  have mm:al*bl+ah*bh<=(al+ah)*(bl+bh):=by rw[Nat.add_mul,Nat.mul_add,Nat.mul_add];omega
  have gC:=aa.trans (C.trans (F.trans bk))
  have lm:(digs B ((al+ah)*(bl+bh))).length<=2*n+2:=by rw[kbl B2];have h1:=(kbl B2 (al+ah) (n+1)).1 (by omega);have h2:=(kbl B2 (bl+bh) (n+1)).1 (by omega);rw[show 2*n+2=(n+1)+(n+1)from by omega,Nat.pow_add];exact Nat.mul_lt_mul_of_lt_of_lt h1 h2
  obtain⟨em,en,us,cy,cz,am,eo,bm,ep⟩:=krn bj (af.grow gC) (by omega) (koe (by omega)) (by rw[ko B2,ko B2];omega);rw[ko B2,ko B2]at bm;refine qz cy (qz (seen qco) ?_);obtain⟨eq,c0,bn,_⟩:=kea cz;rw[bm]at bn;refine qz c0 (qz (seen qco) ?_);have gD:=(C.trans (F.trans bk)).trans am;have er:=koe (a:=(al+ah)*(bl+bh)-al*bl) (c:=(al+ah)*(bl+bh)) (by omega);obtain⟨et,an,rs,c1,c2,ap,eu,bp,ev⟩:=krn bn (ai.grow gD) (by omega) (koe (by omega)) (by rw[ko B2,ko B2];omega);rw[ko B2,ko B2]at bp;refine qz c1 (qz (seen qco) ?_);obtain⟨ew,c3,aq,_⟩:=kea c2;rw[bp]at aq;refine qz c3 (qz (seen qco) ?_);have gE:Grow H9 an:=(A.trans gC).trans (am.trans ap);have bq:=af.grow ((gC.trans am).trans ap);have ad:=ai.grow (gD.trans ap);have br:=gE.has b9
  rw[show wrap .i64 ((wrap .i64 ((xs.length:Int)+(ys.length:Int)))+1)=((xs.length+ys.length+1:Nat):Int)from by rw[<- Int.natCast_add,kfy (by omega),kj (by omega)]]
  refine Runs.mk (kgi (by omega)) kes λex ey c4 K=>?_;have total:=k5f (B^n) al ah bl bh;rw[<- ea,<- eb]at total;generalize hm:(al+ah)*(bl+bh)-al*bl-ah*bh=m at *
  have lt:num B xs*num B ys<B^(xs.length+ys.length):=by rw[Nat.pow_add];exact Nat.mul_lt_mul_of_lt_of_lt (num_lt B1 ns.lt) (num_lt B1 nt.lt)
  have ez:num B xs*num B ys<B^(xs.length+ys.length+1):=qbr lt (Nat.pow_le_pow_right B1 (by omega))
  have lp:(digs B (al*bl)).length<=xs.length+ys.length:=by rw[kbl B2];omega
  obtain⟨e0,c5,c6,ac⟩:=kbeu (bq.grow K) c4 (by simp;omega);refine qz c5 ?_;have c7:=br.lt;have ne:h.blks.size≠an.blks.size:=Nat.ne_of_lt c7;have bt:=qx (K.has br) ne ac;refine qz (AH.has.rd0 bt rfl qcp) ?_;have ae:=qbi aq (qbp _);have Q:=qbi ad (qbp _)
  have w0:num B (digs B (al*bl)++(List.replicate (xs.length+ys.length+1) 0).drop (digs B (al*bl)).length)=al*bl:=by rw[List.drop_replicate,klx,ko B2]
  have bu:(digs B (al*bl)++(List.replicate (xs.length+ys.length+1) 0).drop (digs B (al*bl)).length).length=xs.length+ys.length+1:=by simp;omega
  generalize digs B (al*bl)++(List.replicate (xs.length+ys.length+1) 0).drop (digs B (al*bl)).length=o0 at *
  have e1:=koe (a:=m) (c:=(al+ah)*(bl+bh)) (by omega);obtain⟨e2,o1,c8,dc,ar,dd,au⟩:=kw2 c6 ((aq.grow K).upda ae ac) ae (at':=n) (by omega) (by omega) (by omega) (by rw[w0,ko B2,bu];omega);refine qz c8 (qz rfl ?_);have de:=qx bt ne ar;refine qz (AH.has.rd0 de rfl qcp) ?_;rw[show wrap .i64 (2*(n:Int))=((2*n:Nat):Int)from by rw[wrap64 (by omega) (by omega)];omega];have pp:B^(2*n)=B^n*B^n:=by rw[<- Nat.pow_add];congr 1;omega
  have lq:(digs B (ah*bh)).length<=xs.length+ys.length:=by rw[kbl B2];have:1*(ah*bh)<=B^n*B^n*(ah*bh):=Nat.mul_le_mul_right _ (Nat.mul_pos (Nat.pow_pos B1) (Nat.pow_pos B1));omega
  rw[w0,ko B2]at au;obtain⟨e3,o2,df,bv,dg,e5,bw⟩:=kw2 dc (((ad.grow K).upda Q ac).upda Q ar) Q (at':=2*n) (by omega) (by omega) (by omega) (by rw[au,ko B2,dd,bu,pp];omega);rw[ko B2,au,pp,<- total]at bw;refine qz df (qz rfl ?_);obtain⟨dh,di,bx,dj⟩:=kea bv.nats;rw[bw]at bx;refine qz di (qz (seen qco) ?_);have gF:Grow h an:=gA.trans gE;refine qy ⟨dh,rfl,bx,(((gF.trans K).updr gF.size ac).updr gF.size ar).updr gF.size dg,dj _ (bv.own gF.size)⟩
end Go.Ab
set_option maxRecDepth 10000
namespace Go.Ab
open Go.Proofs Go.Num
theorem k9y{h:AH}{s t:Sl}{xs ys:List Nat}(n:Nats h s xs)(m:Nats h t ys)(F:xs.length+ys.length<268435456):∃(s':Sl)(h':AH),go (.fn krw [s.v,t.v]) h=some (s'.v,h')/\Nats h' s' (digs B (num B xs*num B ys))/\Grow h h'/\Own h s':=by
 have key:Runs (go (.fn krw [s.v,t.v]) h) λv h'=>∃s':Sl,v=s'.v/\Nats h' s' (digs B (num B xs*num B ys))/\Grow h h'/\Own h s':=by rw[kbbu];refine q0 λH3 b3 H=>?_;refine qba b3 rfl λI b4 K=>?_;have A:=H.updr (qbp _) K;have C:I.cell (.new h.blks.size 0)=some (ksv (.new h.blks.size 0)):=b4.cell 0;refine qz C ?_;obtain⟨_,H6,Q,U,rfl,X,Y,Z⟩:=kpn 268435456 F (qbp _) (n.grow A) (m.grow A) C;refine qz ((kqw _ _ _ _).trans Q) (qz (seen qco) ?_);exact qy ⟨U,rfl,X,A.trans Y,Z.of_le A⟩
 obtain⟨_,h',e,s',rfl,k⟩:=key;exact⟨s',h',e,k⟩
def mulN(xs ys:List Nat):List Nat×Int:=if rt xs=true/\rt ys=true then told (num B xs*num B ys)else([],1)
theorem ky7{h:AH}{s t:Sl}{xs ys:List Nat}(n:Nats h s xs)(m:Nats h t ys):∃(s':Sl)(h':AH),go (.fn krs [s.v,t.v]) h=some (.tup [s'.v,.i (mulN xs ys).2],h')/\Nats h' s' (mulN xs ys).1/\Grow h h'/\Own h s':=by
 rw[kbmx];simp only[kbw];have r:=Rows.two n m;have g:=qm h (.cells [s.v,t.v] kc2);generalize h.push (.cells [s.v,t.v] kc2)=h0 at *
 rw[kmq r];simp only[qbt,kbo,List.all_cons,List.all_nil,Bool.and_true];cases A:rt xs with
 | false=>exact⟨⟨none,0,.is 0⟩,h0,by simp[mulN,A],by simpa[mulN,A]using qw h0,g,qu h⟩
 | true =>
  cases C:rt ys with
  | false=>exact⟨⟨none,0,.is 0⟩,h0,by simp[mulN,A,C],by simpa[mulN,A,C]using qw h0,g,qu h⟩
  | true =>simp only[Bool.and_self,Bool.not_true,cond_false];have X:=(rt_iff.1 A).1;have Y:=(rt_iff.1 C).1;rw[show mulN xs ys=told (num B xs*num B ys)from by simp[mulN,A,C]];obtain⟨s1,h1,I,n1,K,Q⟩:=k9y (n.grow g) (m.grow g) (by omega);obtain⟨s2,F,H,U⟩:=ktr n1;rw[ko B2]at F H;refine⟨s2,h1,?_,H,g.trans K,U _ (Q.of_le g)⟩;simp only[I,F,qbt,asSl_v,kc5,kb]
theorem kxz{h:AH}{s t:Sl}{xs ys:List Nat}(n:Nats h s xs)(m:Nats h t ys):∃(s':Sl)(h':AH),go (.fn kq8 [s.v,t.v]) h=some (.tup [s'.v,.i (mulN xs ys).2],h')/\Nats h' s' (mulN xs ys).1/\Grow h h'/\Own h s':=by
 rw[kbj0,kco n,qbt,qbt,kbo,qbt,kco m,qbt,qbt,kbo,qbt];cases A:rt xs with
 | false=>exact⟨⟨none,0,.is 0⟩,h,by simp[mulN,A],by simpa[mulN,A]using qw h,ql h,qu h⟩
 | true =>
  cases C:rt ys with
  | false=>exact⟨⟨none,0,.is 0⟩,h,by simp[mulN,A,C],by simpa[mulN,A,C]using qw h,ql h,qu h⟩
  | true =>
   simp only[Bool.not_true,cond_false];have Y:=(rt_iff.1 A).1;have Z:=(rt_iff.1 C).1;rw[show mulN xs ys=told (num B xs*num B ys)from by simp[mulN,A,C]];obtain⟨d1,h1,e1,n1,F,o1⟩:=kfi n (by omega);obtain⟨d2,I,e2,n2,H,o2⟩:=kfi (m.grow F) (by omega);have k1:=khh n.lt Y;have k2:=khh m.lt Z;obtain⟨d3,h3,e3,K,Q,o3⟩:=ktu (n1.grow H) n2 (kbv D2 _) (kbv D2 _) (by omega);rw[ko D2,ko D2]at K
   have k3:(digs D (num B xs*num B ys)).length<=536870912:=by
    have h1:=(kbl D2 (num B xs) _).1 (qbp _);have I:=(kbl D2 (num B ys) _).1 (qbp _)
    have:(digs D (num B xs*num B ys)).length<=(digs D (num B xs)).length+(digs D (num B ys)).length:=by rw[kbl D2,Nat.pow_add];exact Nat.mul_lt_mul_of_lt_of_lt h1 I
    omega
   obtain⟨d4,h4,U,X,g4,o4⟩:=kup K (kbv D2 _) (kcn D2 _) k3;rw[ko D2]at U X;refine⟨d4,h4,?_,X,F.trans (H.trans (Q.trans g4)),o4.of_le (F.trans (H.trans Q))⟩;simp only[e1,e2,e3,U,qbt,asSl_v,kc5,kb]
def kx(a1:Bool)(x2:List Nat)(a3:Bool)(x4:List Nat):Bool×List Nat×Int:=cond (!((rtI a1 x2&&rtI a3 x4))) ((false,[],1)) (((((fromI (!(a1==a3)) ((mulN x2 x4).1)).1)),(fromI (!(a1==a3)) ((mulN x2 x4).1)).2,((mulN x2 x4).2)))
theorem kt8{h:AH}{a2:Sl}{x2:List Nat}{a4:Sl}{x4:List Nat}(n2:Nats h a2 x2)(n4:Nats h a4 x4)(a1 a3:Bool):Runs (go (.fn kn4 [.agg [.bool a1,a2.v],.agg [.bool a3,a4.v]]) h) λv h'=>∃s1:Sl,v=.tup [.agg [.bool (kx a1 x2 a3 x4).1,s1.v],.i (kx a1 x2 a3 x4).2.2]/\Nats h' s1 ((kx a1 x2 a3 x4).2.1)/\Grow h h'/\Own h s1:=by
 rw[kbbz];refine q0 λH5 b5 K=>?_;refine q0 λH6 b6 I=>?_;refine q0 λH7 Z A=>?_;refine qz (qbf ((I.trans A).has b5) 0 rfl rfl) (qz (qbf ((I.trans A).has b5) 1 rfl qco) (qz (qbf (A.has b6) 0 rfl rfl) (qz (qbf (A.has b6) 1 rfl qco) ?_)));refine q0 λH8 b8 C=>?_;obtain⟨H9,e9,F⟩:=kqn b8 (n2.grow (((K.trans I).trans A).trans C)) (n4.grow (((K.trans I).trans A).trans C));refine qz e9 (qz (seen rfl) ?_);refine qbd (λY=>?_) (λY=>?_)
 ·refine qba ((C.trans F).has Z) rfl λah aa ac=>?_;have ai:=qx (F.has b8) (Nat.ne_of_gt (qbr (Z).lt (qbp _))) ac;refine qz (qbf aa 0 rfl rfl) (qz (qbf aa 1 rfl qco) ?_);have z:kx a1 x2 a3 x4=(false,[],1):=by unfold kx;exact(condT Y).trans rfl
  rw[z];exact qy ⟨(⟨none,0,.is 0⟩:Sl),rfl,(qw _),(((((K.trans I).trans A).trans C).trans F).updr (qbq ((K.trans I)).size (qbp _)) ac),(qu _)⟩
 ·refine qz (qbf ((((I.trans A).trans C).trans F).has b5) 1 rfl qco) (qz (qbf (((A.trans C).trans F).has b6) 1 rfl qco) ?_);obtain⟨aq,ah,aj,ad,H,ak⟩:=ky7 (n2.grow ((((K.trans I).trans A).trans C).trans F)) (n4.grow ((((K.trans I).trans A).trans C).trans F));refine qz aj (qz rfl (qz (seen qco) (qz (seen qcp) (qz (qbf (((((I.trans A).trans C).trans F).trans H).has b5) 0 rfl rfl) (qz (qbf ((((A.trans C).trans F).trans H).has b6) 0 rfl rfl) ?_)))));obtain⟨al,ar,am,an,Q,ae⟩:=kdo ad (!(a1==a3));refine qz am (qz rfl ?_);refine qbb rfl ?_;refine qz (seenAt rfl rfl) (qz (seenAt rfl qco) ?_);refine qba ((((C.trans F).trans H).trans Q).has Z) rfl λau af U=>?_;have ag:=(ad.grow Q).upda (qbj ak ((C.trans F).has Z).lt) U;have X:=an.upda (qbj ae (((C.trans F).trans H).has Z).lt) U;have ap:=qx (((F.trans H).trans Q).has b8) (Nat.ne_of_gt (qbr (Z).lt (qbp _))) U;refine qz (qbf af 0 rfl rfl) (qz (qbf af 1 rfl qco) ?_);have z:kx a1 x2 a3 x4=((((fromI (!(a1==a3)) ((mulN x2 x4).1)).1)),(fromI (!(a1==a3)) ((mulN x2 x4).1)).2,((mulN x2 x4).2)):=by unfold kx;exact(condF Y).trans rfl
  rw[z];exact qy ⟨al,rfl,X,(((((((K.trans I).trans A).trans C).trans F).trans H).trans Q).updr (qbq ((K.trans I)).size (qbp _)) U),(ae.of_le (((((K.trans I).trans A).trans C).trans F).trans H))⟩
def kex(a1:Bool)(x2:List Nat)(a3:Bool)(x4:List Nat):Bool×List Nat×Int:=cond (!(rtI a1 x2)) ((false,[],1)) (cond (!(rtI a3 x4)) ((false,[],1)) (((((fromI (!(a1==a3)) ((mulN x2 x4).1)).1)),(fromI (!(a1==a3)) ((mulN x2 x4).1)).2,((mulN x2 x4).2))))
theorem k7q{h:AH}{a2:Sl}{x2:List Nat}{a4:Sl}{x4:List Nat}(n2:Nats h a2 x2)(n4:Nats h a4 x4)(a1 a3:Bool):Runs (go (.fn kjd [.agg [.bool a1,a2.v],.agg [.bool a3,a4.v]]) h) λv h'=>∃s1:Sl,v=.tup [.agg [.bool (kex a1 x2 a3 x4).1,s1.v],.i (kex a1 x2 a3 x4).2.2]/\Nats h' s1 ((kex a1 x2 a3 x4).2.1)/\Grow h h'/\Own h s1:=by
 rw[kbiy];refine q0 λH5 b5 K=>?_;refine q0 λH6 b6 F=>?_;refine q0 λH7 b7 C=>?_;refine qz (qbf ((F.trans C).has b5) 0 rfl rfl) (qz (qbf ((F.trans C).has b5) 1 rfl qco) ?_);obtain⟨H8,e8,A⟩:=keh (n2.grow ((K.trans F).trans C)) a1;refine qz e8 (qz (seen rfl) (qz (qbf ((C.trans A).has b6) 0 rfl rfl) (qz (qbf ((C.trans A).has b6) 1 rfl qco) ?_)));obtain⟨H9,e9,H⟩:=keh (n4.grow (((K.trans F).trans C).trans A)) a3;refine qz e9 (qz (seen rfl) ?_);refine qbd (λQ=>?_) (λQ=>?_)
 ·refine qba ((A.trans H).has b7) rfl λaq aa ah=>?_;refine qz (qbf aa 0 rfl rfl) (qz (qbf aa 1 rfl qco) ?_);have z:kex a1 x2 a3 x4=(false,[],1):=by unfold kex;exact(condT Q).trans rfl
  rw[z];exact qy ⟨(⟨none,0,.is 0⟩:Sl),rfl,(qw _),(((((K.trans F).trans C).trans A).trans H).updr (qbq ((K.trans F)).size (qbp _)) ah),(qu _)⟩
 ·refine qbd (λX=>?_) (λX=>?_)
  ·refine qba ((A.trans H).has b7) rfl λai ac aj=>?_;refine qz (qbf ac 0 rfl rfl) (qz (qbf ac 1 rfl qco) ?_);have z:kex a1 x2 a3 x4=(false,[],1):=by unfold kex;exact(condF Q).trans ((condT X).trans rfl)
   rw[z];exact qy ⟨(⟨none,0,.is 0⟩:Sl),rfl,(qw _),(((((K.trans F).trans C).trans A).trans H).updr (qbq ((K.trans F)).size (qbp _)) aj),(qu _)⟩
  ·refine qz (qbf ((((F.trans C).trans A).trans H).has b5) 1 rfl qco) (qz (qbf (((C.trans A).trans H).has b6) 1 rfl qco) ?_);obtain⟨ar,ai,ak,ad,I,al⟩:=kxz (n2.grow ((((K.trans F).trans C).trans A).trans H)) (n4.grow ((((K.trans F).trans C).trans A).trans H));refine qz ak (qz rfl (qz (seen qco) (qz (seen qcp) (qz (qbf (((((F.trans C).trans A).trans H).trans I).has b5) 0 rfl rfl) (qz (qbf ((((C.trans A).trans H).trans I).has b6) 0 rfl rfl) ?_)))));obtain⟨am,au,an,ap,Y,ae⟩:=kd2 ad (!(a1==a3));refine qz an (qz rfl ?_);refine qbb rfl ?_;refine qz (seenAt rfl rfl) (qz (seenAt rfl qco) ?_);refine qba ((((A.trans H).trans I).trans Y).has b7) rfl λaw af Z=>?_;have ag:=(ad.grow Y).upda (qbj al ((A.trans H).has b7).lt) Z;have U:=ap.upda (qbj ae (((A.trans H).trans I).has b7).lt) Z;refine qz (qbf af 0 rfl rfl) (qz (qbf af 1 rfl qco) ?_);have z:kex a1 x2 a3 x4=((((fromI (!(a1==a3)) ((mulN x2 x4).1)).1)),(fromI (!(a1==a3)) ((mulN x2 x4).1)).2,((mulN x2 x4).2)):=by unfold kex;exact(condF Q).trans ((condF X).trans rfl)
   rw[z];exact qy ⟨am,rfl,U,(((((((K.trans F).trans C).trans A).trans H).trans I).trans Y).updr (qbq ((K.trans F)).size (qbp _)) Z),(ae.of_le (((((K.trans F).trans C).trans A).trans H).trans I))⟩
theorem k58:kex=kx:=by
 funext p xs q ys;unfold kex kx;cases A:rtI p xs with
 | false=>rfl
 | true =>
  cases C:rtI q ys with
  | false=>rfl
  | true =>simp only[Bool.not_true,cond_false,Bool.and_self]
theorem kr2{h:AH}{a2:Sl}{x2:List Nat}{a4:Sl}{x4:List Nat}(A:Nats h a2 x2)(C:Nats h a4 x4)(a1 a3:Bool):Runs (go (.fn kjd [.agg [.bool a1,a2.v],.agg [.bool a3,a4.v]]) h) λv h'=>∃s1:Sl,v=.tup [.agg [.bool (kx a1 x2 a3 x4).1,s1.v],.i (kx a1 x2 a3 x4).2.2]/\Nats h' s1 ((kx a1 x2 a3 x4).2.1)/\Grow h h'/\Own h s1:=by rw[<- k58];exact k7q A C a1 a3
end Go.Ab
