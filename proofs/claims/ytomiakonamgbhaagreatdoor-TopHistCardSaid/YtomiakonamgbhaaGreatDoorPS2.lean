/- Words and laws that the last text joins. -/
import Derived.Test.YtomiakonamgbhaaGreatDoorPU1
import Derived.Test.YtomiakonamgbhaaGreatDoorPAbsL
set_option linter.unusedVariables false
set_option linter.unusedSimpArgs false
set_option linter.unusedSectionVars false
set_option maxRecDepth 10000
namespace Go.Ab
open Go.Proofs Go.Num
@[reducible] def B:Nat:=18446744073709551616
theorem B2:2<=B:=by decide
def rt(xs:List Nat):Bool:=decide (xs.length<=64)&&(decide (xs.length=0)||!decide (xs.getD (xs.length-1) 0=0))
theorem kcb{xs:List Nat}{i:Nat}(h:i<xs.length):xs.getD i 0=xs[i]:=by simp[List.getD,h]
theorem rt_iff{xs:List Nat}:rt xs=true↔xs.length<=64/\Trim xs:=by
 unfold rt Trim;simp only[qb6,qbu,qb7,qcf,qbt,List.length_eq_zero_iff];refine and_congr_right λ_=>?_;constructor
 ·rintro (h | h) y
  ·exact absurd h y
  ·rwa[List.getLast_eq_getElem,<- kcb]
 ·intro h;by_cases C:xs=[]
  ·exact .inl C
  ·right
   have:=h C;rwa[List.getLast_eq_getElem,<- kcb]at this
theorem Nats.last{h:AH}{s:Sl}{xs:List Nat}(n:Nats h s xs)(F:xs.length≠0):∃r,idx s.ref s.len (IntKind.wrap .i64 ((s.len:Int)-1)) 1=some r/\h.cell r=some (.int .u64 ((xs.getD (xs.length-1) 0:Nat):Int)):=by obtain⟨k,hk⟩:∃k,xs.length=k+1:=⟨xs.length-1,by omega⟩;have hs:=n.short;obtain⟨r,y,C⟩:=n.at (i:=k) (by omega);rw[n.len,hk]at y|-;rw[kop (by omega)];refine⟨r,y,?_⟩;rw[C,show k+1-1=k from rfl,kcb (by omega)]
theorem kbt{h:AH}{s:Sl}{xs:List Nat}(n:Nats h s xs):go (.fn kbo [s.v]) h=some (.bool (rt xs),h):=by
 rw[kbg1];have I:=n.len;refine kcx (λC=>?_) (λC=>?_)
 ·have C:xs.length<=64:=by rw[qbu]at C;omega
  refine kcx (λy=>?_) (λy=>?_)
  ·have y:xs.length=0:=by rw[qbu]at y;omega
   simp[rt,y]
  ·have y:xs.length≠0:=by rw[qbt]at y;omega
   obtain⟨r,F,H⟩:=n.last y;simp[F,H,rt,C];cases xs
   ·simp at y
   ·simp
 ·have C:¬xs.length<=64:=by rw[qbt]at C;omega
  simp[rt,C]
theorem k2w{h:AH}{s:Sl}{xs:List Nat}(n:Nats h s xs):∀(k:Nat),k<=xs.length->(∀i,k<=i->(K:i<xs.length)->xs[i]=0)->
  ∃s',go (.pt kbs klc [(0,s.v),(3,.i (k:Int))]) h=some (s'.v,h)/\Nats h s' (digs B (num B xs))/\∀h0,Own h0 s->Own h0 s'
 | 0,hk,y=>by
  rw[kox];obtain⟨s',C,F,e3⟩:=n.cut (l:=0) (n:=0) (qbn _) hk;have:=kp6 B2 n.lt y hk (.inl rfl);simp at C;simp only[Int.natCast_zero,gt_iff_lt,Int.lt_irrefl,decide_false,cond_false,C,qbr];refine⟨s',rfl,?_,e3⟩;rw[<- this]
  simpa using F
 | k+1,hk,y=>by
  rw[kox];obtain⟨r,C,F⟩:=n.at (i:=k) (by omega);have hs:=n.short;rw[kop (by omega)];rw[show(decide (((k+1:Nat):Int)>0))=true from by rw[qbu];omega];simp only[cond_true,C,F,qbr,kc];by_cases H:xs[k]=0
  ·rw[H,show(decide (((0:Nat):Int)=0))=true from rfl,cond_true];refine k2w n k (by omega) λi K I=>?_;rcases Nat.lt_or_ge k i with Q | Q
   ·exact y i (by omega) I
   ·have:i=k:=by omega
    subst this;exact H
  ·obtain⟨s',e3,U,V⟩:=n.cut (l:=0) (n:=k+1) (by omega) hk;have W:=kp6 B2 n.lt y hk (.inr ⟨by omega,by simpa using H⟩);rw[show(decide (((xs[k]:Nat):Int)=0))=false from by rw[qbt];omega];simp only[cond_false];rw[show cutSl s 0 ((k+1:Nat):Int) 1=some s' from e3];refine⟨s',rfl,?_,V⟩;rw[<- W]
   simpa using U
theorem kdo{h:AH}{s:Sl}{xs:List Nat}(n:Nats h s xs):∃s',go (.fn kbs [s.v]) h=some (s'.v,h)/\Nats h s' (digs B (num B xs))/\∀h0,Own h0 s->Own h0 s':=by rw[ks9,n.len];exact k2w n xs.length (qbn _) λi y C=>by omega
theorem kwm{n:Nat}(h:n<=8796093022208):growOk Pg n kf 1=true:=by
 unfold growOk;rw[k96,kda];have y:n*8<=kbb:=by simp only[kbb];omega
 have C:n<=kbb:=by simp only[kbb];omega
 simp[y,C]
theorem kkf{h:AH}{s:Sl}{xs:List Nat}(n:Nats h s xs)(H:xs.length<=8796093022208):∃s' h',go (.fn kg3 [s.v]) h=some (s'.v,h')/\Nats h' s' xs/\Grow h h'/\Own h s':=by
 rw[kbi4];cases y:s.ref with
 | none =>
  have:xs=[]:=by
   cases xs with
   | nil=>rfl
   | cons x xs =>obtain⟨r,C,_⟩:=n.cells.get 0 (u64 x) rfl;rw[y]at C;cases C
  subst this;exact⟨_,_,rfl,qq h,qk h,qp h⟩
 | some r =>
  simp only[Option.isNone_some,cond_false,kcy];have n1:=n.grow (ql h (.cells [] kf));have F:=n1.cells;rw[<- kr3]at F;rw[ktx F,n.len];simp only[qbr];have own:∀(m:Nat)(c:Cap),Own h ⟨some (.new h.blks.size 0),m,c⟩:=λm c r y=>by cases y;exact⟨_,_,rfl,qbn _⟩
  cases xs with
  | nil =>
   obtain⟨s',C,I,e3⟩:=k05 (P:=Pg) (elem:=kf) (m:=1) (by omega) (qo (n:=1) (m:=0) (qm h [] kf) rfl);simp only[List.map_nil,List.length_nil,C,qbr,asSl_v];exact⟨s',_,rfl,⟨I,by simp,by simp⟩,ql _ _,e3 h (own 0 (.is 0))⟩
  | cons x xs =>rw[km6 (c:=0) rfl (by simp) (kwm (by simpa using H)) (qo (n:=1) (m:=0) (qm h [] kf) rfl)];simp only[qbr,asSl_v];refine⟨_,_,rfl,⟨⟨rfl,by simp,λi v hv=>⟨_,rfl,by rw[qj,Nat.zero_add,AH.cell_push];exact hv⟩⟩,n.lt,n.short⟩,(ql _ _).trans (ql _ _),λr y=>?_⟩;cases y;exact⟨_,_,rfl,by simp⟩
def fromI(y:Bool)(xs:List Nat):Bool×List Nat:=if rt xs=true/\xs≠[]then(y,xs)else(false,[])
@[reducible] def nilI:List AV:=[.bool false,nV]
theorem kbx{h:AH}{s:Sl}{xs:List Nat}(n:Nats h s xs)(y:Bool):∃(s':Sl)(h':AH),go (.fn kbj [.bool y,s.v]) h=some (.agg [.bool (fromI y xs).1,s'.v],h')/\Nats h' s' (fromI y xs).2/\Grow h h'/\Own h s':=by
 rw[kbhm];simp only[kcy];have F:=qm h nilI ki;have H:=ql h (.cells nilI ki);have K:=n.grow H;rw[kbt K];simp only[qbr,kcl,qj,Nat.zero_add];generalize h.push (.cells nilI ki)=h0 at *
 cases C:rt xs with
 | false =>
  rw[show fromI y xs=(false,[])from by simp[fromI,C]];refine⟨⟨none,0,.is 0⟩,h0.upd h.blks.size nilI ki,?_,qq _,H.upd (qbn _) _ _,qp h⟩;simp[F.puts_all,AH.cell_upd F]
 | true =>
  by_cases I:xs=[]
  ·rw[show fromI y xs=(false,[])from by simp[fromI,I]];have:s.len=0:=by rw[n.len,I];rfl
   refine⟨⟨none,0,.is 0⟩,h0.upd h.blks.size nilI ki,?_,qq _,H.upd (qbn _) _ _,qp h⟩;simp[F.puts_all,AH.cell_upd F,this]
  ·rw[show fromI y xs=(y,xs)from by simp[fromI,I,C]];have:s.len≠0:=by rw[n.len];simpa using I
   have U:=(rt_iff.1 C).1;obtain⟨s',h',V,W,e3,Q⟩:=kkf K (by omega);have b1:=e3.has F;refine⟨s',h'.upd h.blks.size [.bool y,s'.v] ki,?_,?_,(H.trans e3).upd (qbn _) _ _,λr Z=>?_⟩
   ·simp[V,b1.puts_all,AH.cell_upd b1,this]
   ·exact W.upd Q F.lt _ _
   ·exact Q.of_le H r Z
theorem k0b{h:AH}{x:Nat}(y:x<B):∃(s':Sl)(h':AH),go (.fn kff [.int .u64 (x:Int)]) h=some (s'.v,h')/\Nats h' s' (digs B x)/\Grow h h'/\Own h s':=by rw[k5v];simp only[kcy];have C:Nats (h.push (.cells [u64 x] kf)) ⟨some (.new h.blks.size 0),1,.is 1⟩ [x]:=⟨qo (qm h [u64 x] kf) rfl,by simpa using y,by simp⟩;obtain⟨s',F,H,e3⟩:=kdo C;rw[F];simp only[qbr,asSl_v];refine⟨s',_,rfl,by simpa[num]using H,ql _ _,e3 h λr I=>by cases I;exact⟨_,_,rfl,qbn _⟩⟩
def ofI(n:Int):Bool×List Nat:=fromI (decide (n<0)) (digs B n.natAbs)
theorem kzy{h:AH}{n:Int}(h1:-9223372036854775808<=n)(h2:n<=9223372036854775807):∃(s':Sl)(h':AH),go (.fn kc8 [.i n]) h=some (.agg [.bool (ofI n).1,s'.v],h')/\Nats h' s' (ofI n).2/\Grow h h'/\Own h s':=by
 rw[kbcu];simp only[kcy];have W:=qm h nilI ki;have Z:=ql h (.cells nilI ki);generalize h.push (.cells nilI ki)=h0 at *
 have key:∀(y:Bool)(x:Nat),x<B->fromI y (digs B x)=ofI n->∃(s':Sl)(h':AH),
   ((go (.fn kff [.int .u64 (x:Int)]) h0).bind λq3 =>
    ((some q3.1).bind AV.asSl).bind λl4 =>
    (go (.fn kbj [.bool y,l4.v]) q3.2).bind λq5 =>
    (AV.asAgg q5.1).bind λC =>
    cond (Nat.beq C.length 2) (
    ((C[0]?).bind AV.asBool).bind λb7 =>
    ((C[1]?).bind AV.asSl).bind λl8 =>
    (q5.2.puts (.new h.blks.size 0) [.bool b7,l8.v]).bind λK =>
    ((K.cell ((Ref.new h.blks.size 0).add 0)).bind AV.asBool).bind λQ =>
    ((K.cell ((Ref.new h.blks.size 0).add 1)).bind AV.asSl).bind λU =>
    some (AV.agg [.bool Q,U.v],K)) none)=some (AV.agg [.bool (ofI n).1,s'.v],h')/\Nats h' s' (ofI n).2/\Grow h h'/\Own h s':=by
  intro y x F he;obtain⟨s1,aa,e1,n1,H,o1⟩:=k0b (h:=h0) F;obtain⟨s2,V,e2,n2,g2,o2⟩:=kbx n1 y;rw[he]at e2 n2;have b2:=(H.trans g2).has W;refine⟨s2,V.upd h.blks.size [.bool (ofI n).1,s2.v] ki,?_,n2.upd o2 (H.has W).lt _ _,(Z.trans (H.trans g2)).upd (qbn _) _ _,o2.of_le (Z.trans H)⟩;simp[e1,e2,b2.puts_all,AH.cell_upd b2]
 by_cases I:n<0
 ·rw[show decide (n<0)=true from qbv I,cond_true]
  have F:IntKind.wrap .u64 (0-IntKind.wrap .u64 n)=((n.natAbs:Nat):Int):=by rw[wrapU,wrapU];omega
  rw[F];exact key true n.natAbs (by show _<18446744073709551616;omega) (by simp[ofI,I])
 ·rw[show decide (n<0)=false from qbw I,cond_false]
  have F:IntKind.wrap .u64 n=((n.natAbs:Nat):Int):=by rw[wrapU];omega
  rw[F];exact key false n.natAbs (by show _<18446744073709551616;omega) (by simp[ofI,I])
def rtI(y:Bool)(xs:List Nat):Bool:=rt xs&&(!y||decide (xs≠[]))
theorem kkn{h:AH}{s:Sl}{xs:List Nat}(n:Nats h s xs)(y:Bool):∃h',go (.fn kfs [.agg [.bool y,s.v]]) h=some (.bool (rtI y xs),h')/\Grow h h':=by
 rw[k6p];simp only[kcy];have F:=qm h [.bool y,s.v] ki;have C:=ql h (.cells [.bool y,s.v] ki);have H:=n.grow C;have I:=n.len;generalize h.push (.cells [.bool y,s.v] ki)=h0 at *
 refine⟨h0,?_,C⟩;simp[F.cell,kbt H,rtI];cases rt xs<;>cases y<;>simp[I];cases xs<;>simp
structure Rows(h:AH)(s:Sl)(rows:List (Sl×List Nat)):Prop where
 cells:Cells h s 1 (rows.map λp=>p.1.v)
 each:∀p∈rows,Nats h p.1 p.2
 short:rows.length<=9223372036854775807
theorem Rows.len{h:AH}{s:Sl}{rows:List (Sl×List Nat)}(n:Rows h s rows):s.len=rows.length:=by
 have:=n.cells.len
 simpa using this
theorem Rows.at{h:AH}{s:Sl}{rows:List (Sl×List Nat)}(n:Rows h s rows){i:Nat}(y:i<rows.length):∃r,idx s.ref s.len (i:Int) 1=some r/\h.cell r=some (rows[i].1).v:=by obtain⟨r,C,F⟩:=n.cells.get i (rows[i].1).v (by simp[y]);refine⟨r.add i,?_,F⟩;rw[C,kej _ _ _ _ (by omega) (by rw[n.len];omega)];simp
theorem Rows.two{h:AH}{a b:Sl}{xs ys:List Nat}(n:Nats h a xs)(m:Nats h b ys):Rows (h.push (.cells [a.v,b.v] kr)) ⟨some (.new h.blks.size 0),2,.is 2⟩ [(a,xs),(b,ys)]:=by
 refine⟨qo (qm _ _ _) rfl,λp hp=>?_,by simp⟩;have g:=ql h (.cells [a.v,b.v] kr);simp at hp;rcases hp with rfl | rfl
 ·exact n.grow g
 ·exact m.grow g
theorem k1c{b:Nat}(y:1<=b){xs:List Nat}(C:∀x∈xs,x<b){k:Nat}(hk:k<=xs.length):num b (xs.take k)<b^k:=by have:=num_lt (b:=b) y (xs:=xs.take k) λx h=>C x (List.mem_of_mem_take h);rwa[qcc,Nat.min_eq_left hk]at this
theorem kbis{b:Nat}(y:1<=b){xs ys:List Nat}(C:∀x∈xs,x<b)(F:∀x∈ys,x<b){k:Nat}(H:k<xs.length)(I:k<ys.length) :
  cmp (num b (xs.take (k+1))) (num b (ys.take (k+1)))=if xs[k]<ys[k]then -1 else if xs[k]=ys[k]then cmp (num b (xs.take k)) (num b (ys.take k))else 1:=by
 rw[kc2 b H,kc2 b I];exact kbdf (k1c y C (by omega)) (k1c y F (by omega))
theorem k52{b:Nat}(C:2<=b){xs ys:List Nat}(F:∀x∈xs,x<b)(H:∀x∈ys,x<b)(I:Trim xs)(ty:Trim ys)(h:xs.length≠ys.length):cmp (num b xs) (num b ys)=if xs.length<ys.length then -1 else 1:=by
 rcases Nat.lt_or_ge xs.length ys.length with y | y
 ·have:=ksq C F H ty y;simp[cmp,this,y]
 ·have:=ksq C H F I (by omega);rw[if_neg (by omega)];unfold cmp;rw[if_neg (by omega),if_neg (by omega)]
theorem kzf{h:AH}{s t:Sl}{xs ys:List Nat}(n:Nats h s xs)(m:Nats h t ys)(F:xs.length=ys.length):∀(k:Nat),k<=xs.length->
  go (.pt kfn knc [(0,s.v),(1,t.v),(5,.i ((k:Int)-1))]) h=some (.i (cmp (num B (xs.take k)) (num B (ys.take k))),h)
 | 0,hk=>by
  rw[k2v];rfl
 | k+1,hk=>by
  have hs:=n.short;obtain⟨r,H,I⟩:=n.at (i:=k) (by omega);obtain⟨q,e3,K⟩:=m.at (i:=k) (by omega);rw[k2v,show(((k+1:Nat):Int)-1)=(k:Int)from by omega,show decide ((k:Int)>=0)=true from by rw[qbu];omega];simp only[cond_true,H,e3,I,K,qbr,kc];rw[kbis (by decide) n.lt m.lt (by omega) (by omega),wrap64 (n:=(k:Int)-1) (by omega) (by omega),kzf n m F k (by omega)];by_cases y:xs[k]=ys[k]'(by omega)
  ·rw[show decide (((xs[k]:Nat):Int)=((ys[k]'(by omega):Nat):Int))=true from by rw[qbu];omega];simp[y]
  ·rw[show decide (((xs[k]:Nat):Int)=((ys[k]'(by omega):Nat):Int))=false from by rw[qbt];omega];by_cases C:xs[k]<ys[k]'(by omega)
   ·rw[show decide (((xs[k]:Nat):Int)<((ys[k]'(by omega):Nat):Int))=true from by rw[qbu];omega];simp[C]
   ·rw[show decide (((xs[k]:Nat):Int)<((ys[k]'(by omega):Nat):Int))=false from by rw[qbt];omega];simp[y,C]
theorem knk{h:AH}{s t:Sl}{xs ys:List Nat}(n:Nats h s xs)(m:Nats h t ys)(F:Trim xs)(ty:Trim ys):go (.fn kfn [s.v,t.v]) h=some (.i (cmp (num B xs) (num B ys)),h):=by
 have hs:=n.short;have H:=m.short;rw[kbie,n.len,m.len];by_cases y:xs.length=ys.length
 ·rw[show decide ((xs.length:Int)=(ys.length:Int))=true from by rw[qbu];omega];simp only[Bool.not_true,cond_false];rw[wrap64 (by omega) (by omega),kzf n m y xs.length (qbn _),List.take_length,y,List.take_length]
 ·rw[show decide ((xs.length:Int)=(ys.length:Int))=false from by rw[qbt];omega,k52 B2 n.lt m.lt F ty y];by_cases C:xs.length<ys.length
  ·rw[show decide ((xs.length:Int)<(ys.length:Int))=true from by rw[qbu];omega];simp[C]
  ·rw[show decide ((xs.length:Int)<(ys.length:Int))=false from by rw[qbt];omega];simp[C]
@[reducible] def D:Nat:=65536
theorem kbgo{h:AH}{s:Sl}{xs:List Nat}(n:Nats h s xs):go (.fn keh [s.v]) h=some (.bool (!rt xs),h):=by rw[k7m,kbt n];rfl
theorem kz8{h:AH}{s:Sl}{rows:List (Sl×List Nat)}(n:Rows h s rows):∀(k i:Nat),i+k=rows.length->
  ∃j:Int,go (.pt kcd kex [(0,s.v),(1,.func (.func keh) [] []),(7,.i (rows.length:Int)),(8,.i (i:Int))]) h=some (.i j,h)/\
   (j>=0↔(rows.drop i).all (λp=>rt p.2)=false)
 | 0,i,y=>by
  rw[kyi,show decide ((i:Int)<(rows.length:Int))=false from by rw[qbt];omega,List.drop_of_length_le (by omega)];exact⟨-1,rfl,by simp⟩
 | k+1,i,y=>by
  have hs:=n.short;obtain⟨r,C,F⟩:=n.at (i:=i) (by omega);have hp:=n.each rows[i] (qb0 _);rw[kyi,show decide ((i:Int)<(rows.length:Int))=true from by rw[qbu];omega,cond_true,C];simp only[qbr,F,asSl_v,kbgo hp,kcl];rw[qcd (by omega),List.all_cons,ko (by omega)];cases I:rt (rows[i].2)with
  | false=>exact⟨(i:Int),rfl,by simp⟩
  | true =>obtain⟨j,e3,H⟩:=kz8 n k (i+1) (by omega);exact⟨j,e3,by simpa using H⟩
theorem klg{h:AH}{s:Sl}{rows:List (Sl×List Nat)}(n:Rows h s rows):go (.fn kg0 [s.v]) h=some (.bool (rows.all λp=>rt p.2),h):=by
 obtain⟨j,F,y⟩:=kz8 n rows.length 0 (by omega);rw[kbic,kbha,kblk,n.len];rw[show(0:Int)=((0:Nat):Int)from rfl,F];simp only[qbr,kc,kcl];rw[List.drop_zero]at y;cases C:rows.all λp=>rt p.2 with
 | false=>rw[C]at y;simp at y;simp;omega
 | true=>rw[C]at y;simp at y;simp;omega
def cmpN(xs ys:List Nat):Int:=if rt xs=true/\rt ys=true then cmp (num B xs) (num B ys)else 0
theorem kco{h:AH}{s t:Sl}{xs ys:List Nat}(n:Nats h s xs)(m:Nats h t ys):∃h',go (.fn kbv [s.v,t.v]) h=some (.i (cmpN xs ys),h')/\Grow h h':=by
 rw[kbc5];simp only[kcy];have r:=Rows.two n m;have g:=ql h (.cells [s.v,t.v] kr);generalize h.push (.cells [s.v,t.v] kr)=h0 at *
 refine⟨h0,?_,g⟩;rw[klg r];simp only[qbr,kcl,List.all_cons,List.all_nil,Bool.and_true];cases y:rt xs with
 | false=>simp[cmpN,y]
 | true =>
  cases C:rt ys with
  | false=>simp[cmpN,C]
  | true =>simp only[Bool.and_self,Bool.not_true,cond_false];rw[knk (n.grow g) (m.grow g) (rt_iff.1 y).2 (rt_iff.1 C).2];simp[cmpN,y,C]
structure IRows(h:AH)(s:Sl)(rows:List (Bool×Sl×List Nat)):Prop where
 cells:Cells h s 2 (rows.flatMap λp=>[.bool p.1,p.2.1.v])
 each:∀p∈rows,Nats h p.2.1 p.2.2
 short:rows.length<=9223372036854775807
theorem IRows.grow{h h':AH}(g:Grow h h'){s:Sl}{rows:List (Bool×Sl×List Nat)}(n:IRows h s rows):IRows h' s rows:=⟨n.cells.grow g,λp hp=>(n.each p hp).grow g,n.short⟩
theorem ky5:∀(rows:List (Bool×Sl×List Nat))(i:Nat)(y:i<rows.length),
  (rows.flatMap λp=>[AV.bool p.1,p.2.1.v])[i*2]?=some (AV.bool rows[i].1)/\(rows.flatMap λp=>[AV.bool p.1,p.2.1.v])[i*2+1]?=some rows[i].2.1.v
 | [],i,y=>by simp at y
 | p::rows,0,y=>by simp
 | p::rows,i+1,y=>by
  have:=ky5 rows i (by simpa using y);rw[show(i+1)*2=i*2+2 from by omega]
  simpa using this
theorem IRows.len{h:AH}{s:Sl}{rows:List (Bool×Sl×List Nat)}(n:IRows h s rows):s.len=rows.length:=by
 have:=n.cells.len
 have y:(rows.flatMap λp=>[AV.bool p.1,p.2.1.v]).length=rows.length*2:=by
  generalize rows=l
  induction l with
  | nil=>rfl
  | cons a l ih=>rw[List.flatMap_cons,qbx,ih];simp;omega
 omega
theorem IRows.at{h:AH}{s:Sl}{rows:List (Bool×Sl×List Nat)}(n:IRows h s rows){i:Nat}(C:i<rows.length):∃r,idx s.ref s.len (i:Int) 2=some r/\h.cell (r.add 0)=some (.bool rows[i].1)/\h.cell (r.add 1)=some rows[i].2.1.v:=by obtain⟨F,p2⟩:=ky5 rows i C;obtain⟨r,y,H⟩:=n.cells.get _ _ F;obtain⟨K,e3,I⟩:=n.cells.get _ _ p2;rw[y]at e3;cases e3;refine⟨r.add (i*2),?_,by simpa using H,by rw[Ref.add_add];exact I⟩;rw[y,kej _ _ _ _ (by omega) (by rw[n.len];omega)];simp
theorem kbik{h:AH}{s:Sl}{xs:List Nat}(n:Nats h s xs)(y:Bool):∃h',go (.fn kev [.agg [.bool y,s.v]]) h=some (.bool (!rtI y xs),h')/\Grow h h':=by
 rw[kbiu];simp only[kcy];have F:=qm h [.bool y,s.v] ki;have C:=ql h (.cells [.bool y,s.v] ki);generalize h.push (.cells [.bool y,s.v] ki)=h0 at *
 obtain⟨H,I,K⟩:=kkn (n.grow C) y;exact⟨H,by simp[F.cell,I],C.trans K⟩
theorem kyo{s:Sl}{rows:List (Bool×Sl×List Nat)}:∀(k i:Nat),i+k=rows.length->∀{h:AH},IRows h s rows->
  ∃(j:Int)(h':AH),go (.pt kjy kqb [(0,s.v),(1,.func (.func kev) [] []),(7,.i (rows.length:Int)),(8,.i (i:Int))]) h=some (.i j,h')/\
   (j>=0↔(rows.drop i).all (λp=>rtI p.1 p.2.2)=false)/\Grow h h'
 | 0,i,C,h,n=>by
  rw[k0m,show decide ((i:Int)<(rows.length:Int))=false from by rw[qbt];omega,List.drop_of_length_le (by omega)];exact⟨-1,h,rfl,by simp,qk h⟩
 | k+1,i,C,h,n=>by
  have hs:=n.short;obtain⟨r,F,H,e3⟩:=n.at (i:=i) (by omega);have hp:=n.each rows[i] (qb0 _);obtain⟨I,K,y⟩:=kbik hp rows[i].1;rw[k0m,show decide ((i:Int)<(rows.length:Int))=true from by rw[qbu];omega,cond_true,F];simp only[qbr,H,e3,asSl_v,kcl,K];rw[qcd (by omega),List.all_cons,ko (by omega)];cases Z:rtI rows[i].1 (rows[i].2.2)with
  | false=>exact⟨(i:Int),I,rfl,by simp,y⟩
  | true =>obtain⟨j,Q,U,V,W⟩:=kyo k (i+1) (by omega) (n.grow y);exact⟨j,Q,U,by simpa using V,y.trans W⟩
theorem k1m{h:AH}{s:Sl}{rows:List (Bool×Sl×List Nat)}(n:IRows h s rows):∃h',go (.fn kgx [s.v]) h=some (.bool (rows.all λp=>rtI p.1 p.2.2),h')/\Grow h h':=by
 obtain⟨j,h',F,y,g⟩:=kyo rows.length 0 (by omega) n;refine⟨h',?_,g⟩;rw[kbld,kbh4,kbjn,n.len];rw[show(0:Int)=((0:Nat):Int)from rfl,F];simp only[qbr,kc,kcl];rw[List.drop_zero]at y;cases C:rows.all λp=>rtI p.1 p.2.2 with
 | false=>rw[C]at y;simp at y;simp;omega
 | true=>rw[C]at y;simp at y;simp;omega
theorem IRows.two{h:AH}{a b:Sl}{xs ys:List Nat}(n:Nats h a xs)(m:Nats h b ys)(p q:Bool):IRows (h.push (.cells [.bool p,a.v,.bool q,b.v] ki)) ⟨some (.new h.blks.size 0),2,.is 2⟩ [(p,a,xs),(q,b,ys)]:=by
 refine⟨qo (qm _ _ _) rfl,λr y=>?_,by simp⟩;have g:=ql h (.cells [.bool p,a.v,.bool q,b.v] ki);simp at y;rcases y with rfl | rfl
 ·exact n.grow g
 ·exact m.grow g
def cmpI(p:Bool)(xs:List Nat)(q:Bool)(ys:List Nat):Int:=if rtI p xs=true/\rtI q ys=true then(if p=q then(if p=true then cmpN ys xs else cmpN xs ys)else if p=true then -1 else 1)else 0
theorem kbhz{h:AH}{s t:Sl}{xs ys:List Nat}(n:Nats h s xs)(m:Nats h t ys)(p q:Bool):∃h',go (.fn kte [.agg [.bool p,s.v],.agg [.bool q,t.v]]) h=some (.i (cmpI p xs q ys),h')/\Grow h h':=by
 rw[k6h];simp only[kcy];have b0:=qm h [.bool p,s.v] ki;have Q:=ql h (.cells [.bool p,s.v] ki);generalize h.push (.cells [.bool p,s.v] ki)=h0 at *
 have U:=qm h0 [.bool q,t.v] ki;have I:=ql h0 (.cells [.bool q,t.v] ki);generalize h0.push (.cells [.bool q,t.v] ki)=V at *
 have b1:=I.has b0;simp only[qj,Nat.zero_add,b1.cell,U.cell,List.getElem?_cons_zero,List.getElem?_cons_succ,qbr,kcl,asSl_v];have n1:=n.grow (Q.trans I);have W:=m.grow (Q.trans I);have r2:=IRows.two n1 W p q;have g2:=ql V (.cells [.bool p,s.v,.bool q,t.v] ki);generalize V.push (.cells [.bool p,s.v,.bool q,t.v] ki)=h2 at *
 obtain⟨K,e3,g3⟩:=k1m r2;have y:=g2.trans g3;have b3:=y.has b1;have c3:=y.has U;have Z:=n1.grow y;have m3:=W.grow y;have C:=(Q.trans I).trans y;obtain⟨h4,e4,g4⟩:=kco Z m3;obtain⟨h5,e5,g5⟩:=kco m3 Z;rw[e3];simp only[qbr,kcl,List.all_cons,List.all_nil,Bool.and_true,b3.cell,c3.cell,List.getElem?_cons_zero,List.getElem?_cons_succ,asSl_v,e4,e5,kc];cases F:rtI p xs with
 | false=>exact⟨K,by simp[cmpI,F],C⟩
 | true =>
  cases H:rtI q ys with
  | false=>exact⟨K,by simp[cmpI,H],C⟩
  | true =>
   cases p<;>cases q
   ·exact⟨h4,by simp[cmpI,F,H],C.trans g4⟩
   ·exact⟨K,by simp[cmpI,F,H],C⟩
   ·exact⟨K,by simp[cmpI,F,H],C⟩
   ·exact⟨h5,by simp[cmpI,F,H],C.trans g5⟩
def negI(y:Bool)(xs:List Nat):Bool×List Nat:=if rtI y xs=true then fromI (!y) xs else(false,[])
theorem kbk7{h:AH}{s:Sl}{xs:List Nat}(n:Nats h s xs)(y:Bool):∃(s':Sl)(h':AH),go (.fn ksh [.agg [.bool y,s.v]]) h=some (.agg [.bool (negI y xs).1,s'.v],h')/\Nats h' s' (negI y xs).2/\Grow h h'/\Own h s':=by
 rw[k70];simp only[kcy];have Z:=qm h [.bool y,s.v] ki;have F:=ql h (.cells [.bool y,s.v] ki);generalize h.push (.cells [.bool y,s.v] ki)=h0 at *
 have c1:=qm h0 nilI ki;have K:=ql h0 (.cells nilI ki);generalize h0.push (.cells nilI ki)=h1 at *
 have b1:=K.has Z;have n1:=n.grow (F.trans K);obtain⟨h2,e2,H⟩:=kkn n1 y;have I:=H.has c1;have b2:=H.has b1;have C:=(F.trans K).trans H;obtain⟨s3,h3,e3,n3,Q,U⟩:=kbx (n1.grow H) (!y);have V:=Q.has I;simp only[qj,Nat.zero_add,b1.cell,b2.cell,List.getElem?_cons_zero,List.getElem?_cons_succ,qbr,kcl,asSl_v,e2];cases W:rtI y xs with
 | false =>
  rw[show negI y xs=(false,[])from by simp[negI,W]];refine⟨⟨none,0,.is 0⟩,h2.upd h0.blks.size nilI ki,?_,qq _,C.upd F.size _ _,qp h⟩;simp[I.puts_all,AH.cell_upd I]
 | true =>rw[show negI y xs=fromI (!y) xs from by simp[negI,W]];refine⟨s3,h3.upd h0.blks.size [.bool (fromI (!y) xs).1,s3.v] ki,?_,n3.upd U I.lt _ _,(C.trans Q).upd F.size _ _,U.of_le C⟩;simp[e3,V.puts_all,AH.cell_upd V]
theorem kmr(b:Nat)(ys:List Nat)(k:Nat):num b (ys.take (k+1))=num b (ys.take k)+b^k*ys.getD k 0:=by
 by_cases h:k<ys.length
 ·rw[kc2 b h,kcb h]
 ·rw[List.take_of_length_le (by omega),List.take_of_length_le (by omega)];simp[List.getD,List.getElem?_eq_none (show ys.length<=k by omega)]
theorem k41(zs:List Nat){i:Nat}(v:Nat)(h:i<zs.length):(zs.set i v).take (i+1)=zs.take i++[v]:=by
 apply List.ext_getElem?;intro j;rw[List.getElem?_take];by_cases C:j<i
 ·rw[if_pos (by omega),List.getElem?_set_ne (by omega),List.getElem?_append_left (by simp;omega),List.getElem?_take,if_pos C]
 ·by_cases y:j=i
  ·subst y;rw[if_pos (by omega),List.getElem?_set_self h,List.getElem?_append_right (by simp;omega)];simp[Nat.min_eq_left (show j<=zs.length by omega)]
  ·rw[if_neg (by omega),List.getElem?_eq_none (by simp;omega)]
theorem ktp(b:Nat)(zs:List Nat){i:Nat}(v:Nat)(h:i<zs.length):num b ((zs.set i v).take (i+1))=num b (zs.take i)+b^i*v:=by rw[k41 zs v h,kfh];simp[num,Nat.min_eq_left (Nat.le_of_lt h)]
theorem kk1{h:AH}{j i:Nat}{zs:List Nat}(b:h.has j (zs.map u64) kf)(v:Nat)(y:i<zs.length):h.puts (.new j i) [u64 v]=some (h.upd j ((zs.set i v).map u64) kf):=by simp only[AH.puts];rw[b.put (by simpa using y)];simp[List.map_set]
theorem k3q{x y c:Nat}(C:x<B)(F:y<B)(H:c<=1):prim "math/bits.Add64" [u64 x,u64 y,u64 c]=some (.tup [u64 ((x+y+c)%B),u64 ((x+y+c)/B)]):=by show cond (decide (0<=(x:Int)/\0<=(y:Int)/\0<=(c:Int)/\(c:Int)<=1)) (some (AV.tup [.int .u64 (((x:Int)+y+c)%18446744073709551616),.int .u64 (((x:Int)+y+c)/18446744073709551616)])) none=_;rw[show decide (0<=(x:Int)/\0<=(y:Int)/\0<=(c:Int)/\(c:Int)<=1)=true from by rw[qbu];omega];rfl
theorem kno{xs:List Nat}(h:∀x∈xs,x<18446744073709551616)(i:Nat):xs.getD i 0<B:=by
 show _<18446744073709551616;by_cases y:i<xs.length
 ·rw[kcb y];exact h _ (qb0 _)
 ·simp[List.getD,List.getElem?_eq_none (show xs.length<=i by omega)]
theorem k09{h:AH}{s t:Sl}{xs ys:List Nat}(n:Nats h s xs)(m:Nats h t ys)(hl:ys.length<=xs.length)(hs:xs.length<4611686018427387904){j:Nat}(U:h.blks.size<=j) :
  ∀(k i:Nat),i+k=xs.length->∀{y:AH}{zs:List Nat}{c:Nat},Grow h y->y.has j (zs.map u64) kf->zs.length=xs.length+1->(∀z∈zs,z<18446744073709551616)->c<=1->
   num B (zs.take i)+B^i*c=num B (xs.take i)+num B (ys.take i)->
   ∃(h':AH)(zs':List Nat),go (.pt kde kgn [(0,s.v),(1,t.v),(5,Sl.v ⟨some (.new j 0),xs.length+1,.is (xs.length+1)⟩),(6,u64 c),(21,.i (xs.length:Int)),(22,.i (i:Int))]) y =
    some (Sl.v ⟨some (.new j 0),xs.length+1,.is (xs.length+1)⟩,h')/\Grow h h'/\h'.has j (zs'.map u64) kf/\zs'.length=xs.length+1/\(∀z∈zs',z<18446744073709551616)/\num B zs'=num B xs+num B ys
 | 0,i,V,y,zs,c,g,b,W,C,Z,inv=>by
  rw[k1g,show decide ((i:Int)<(xs.length:Int))=false from by rw[qbt];omega,cond_false,n.len];rw[kej _ _ _ _ (by omega) (by show(xs.length:Int)<((xs.length+1:Nat):Int);omega)];simp only[qbr,Int.toNat_natCast,Nat.mul_one,qj,Nat.zero_add];rw[kk1 b c (by omega)];refine⟨_,zs.set xs.length c,rfl,g.upd U _ _,qn b _ _,by simpa using W,λz F=>?_,?_⟩
  ·rcases List.mem_or_eq_of_mem_set F with Q | rfl
   ·exact C z Q
   ·omega
  ·have e:=ktp B zs c (i:=xs.length) (by omega);rw[List.take_of_length_le (by simp;omega)]at e;have:i=xs.length:=by omega
   subst this;rw[e,inv,List.take_length,List.take_of_length_le hl]
 | k+1,i,V,y,zs,c,g,b,W,C,Z,inv=>by
  have n':=n.grow g;have m':=m.grow g;obtain⟨r,e1,e2⟩:=n'.at (i:=i) (by omega);have hx:xs.getD i 0<B:=kno n.lt i;have hy:ys.getD i 0<B:=kno m.lt i
  have next:∃(h':AH)(zs':List Nat),go (.pt kde kgn [(0,s.v),(1,t.v),(5,Sl.v ⟨some (.new j 0),xs.length+1,.is (xs.length+1)⟩),(6,u64 ((xs.getD i 0+ys.getD i 0+c)/B)),(21,.i (xs.length:Int)),(22,.i ((i+1:Nat):Int))]) (y.upd j ((zs.set i ((xs.getD i 0+ys.getD i 0+c)%B)).map u64) kf) =
    some (Sl.v ⟨some (.new j 0),xs.length+1,.is (xs.length+1)⟩,h')/\Grow h h'/\h'.has j (zs'.map u64) kf/\zs'.length=xs.length+1/\(∀z∈zs',z<18446744073709551616)/\num B zs'=num B xs+num B ys:=by
   refine k09 n m hl hs U k (i+1) (by omega) (g.upd U _ _) (qn b _ _) (by simpa using W) (λz F=>?_) ?_ ?_
   ·rcases List.mem_or_eq_of_mem_set F with Q | rfl
    ·exact C z Q
    ·exact Nat.mod_lt _ (by decide)
   ·have Q:xs.getD i 0<18446744073709551616:=hx;have h2:ys.getD i 0<18446744073709551616:=hy;show(xs.getD i 0+ys.getD i 0+c)/18446744073709551616<=1;omega
   ·rw[ktp B zs _ (by omega),kmr B xs i,kmr B ys i];have e:=Nat.mod_add_div (xs.getD i 0+ys.getD i 0+c) B;generalize hq:(xs.getD i 0+ys.getD i 0+c)%B=q at *
    generalize hw:(xs.getD i 0+ys.getD i 0+c)/B=w at *
    rw[Nat.pow_succ,Nat.mul_assoc,Nat.add_assoc,<- Nat.mul_add,e,Nat.mul_add,Nat.mul_add];omega
  rw[k1g,show decide ((i:Int)<(xs.length:Int))=true from by rw[qbu];omega,cond_true,m.len,ko (by omega)]
  have put:idx (some (.new j 0)) (xs.length+1) (i:Int) 1=some (.new j i):=by rw[kej _ _ _ _ (by omega) (by omega)];simp
  by_cases I:i<ys.length
  ·obtain⟨q,e3,e4⟩:=m'.at (i:=i) I;rw[show decide ((i:Int)<(ys.length:Int))=true from by rw[qbu];omega,cond_true];rw[<- m.len,e3,e1];simp only[qbr,e2,e4,kc];have ex:((xs[i]:Nat):Int)=((xs.getD i 0:Nat):Int):=by rw[kcb (by omega)]
   have ey:((ys[i]:Nat):Int)=((ys.getD i 0:Nat):Int):=by rw[kcb I]
   rw[ex,ey];have H:=k3q hx hy Z;simp only[u64]at H|-;rw[H];simp only[Option.map_some,qbr,kf0,kc,put];rw[show y.puts (.new j i) [AV.int .u64 (((xs.getD i 0+ys.getD i 0+c)%B:Nat):Int)]=_ from kk1 b _ (by omega)];exact next
  ·have K:ys.getD i 0=0:=by simp[List.getD,List.getElem?_eq_none (show ys.length<=i by omega)]
   rw[show decide ((i:Int)<(ys.length:Int))=false from by rw[qbt];omega,cond_false,e1];simp only[qbr,e2,kc];have ex:((xs[i]:Nat):Int)=((xs.getD i 0:Nat):Int):=by rw[kcb (by omega)]
   rw[ex];have H:=k3q hx hy Z;simp only[u64]at H|-;rw[K]at H;rw[show(AV.int .u64 0)=AV.int .u64 ((0:Nat):Int)from rfl,H];simp only[Option.map_some,qbr,kf0,kc,put];rw[K]at next;rw[show y.puts (.new j i) [AV.int .u64 (((xs.getD i 0+0+c)%B:Nat):Int)]=_ from kk1 b _ (by omega)];exact next
theorem kwd{h:AH}{l:Int}{n:Nat}(y:l=(n:Int))(C:n<=8796093022207):kbq l l kf (Pg.bytesOf kf) [.int .u64 0] h=some (⟨some (.new h.blks.size 0),n,.is n⟩,h.push (.cells ((List.replicate n 0).map u64) kf)):=by rw[kda,kxj y y (by omega) (by omega),kx1];simp;rfl
theorem kt1{h:AH}{s t:Sl}{xs ys:List Nat}(n:Nats h s xs)(m:Nats h t ys)(U:xs.length<=1073741824)(Z:ys.length<=1073741824) :
  ∃(s':Sl)(h':AH)(zs:List Nat),go (.fn kde [s.v,t.v]) h=some (s'.v,h')/\Nats h' s' zs/\Grow h h'/\Own h s'/\num B zs=num B xs+num B ys/\zs.length=max xs.length ys.length+1:=by
 have key:∀{s t:Sl}{xs ys:List Nat},Nats h s xs->Nats h t ys->xs.length<=1073741824->ys.length<=xs.length->∃(s':Sl)(h':AH)(zs:List Nat),
   ((kbq (IntKind.wrap .i64 ((s.len:Int)+1)) (IntKind.wrap .i64 ((s.len:Int)+1)) kf (Pg.bytesOf kf) [.int .u64 0] h).bind λV =>
   go (.pt kde kgn [(0,s.v),(1,t.v),(5,V.1.v),(6,.int .u64 0),(21,.i (s.len:Int)),(22,.i 0)]) V.2)=some (s'.v,h')/\Nats h' s' zs/\Grow h h'/\Own h s'/\num B zs=num B xs+num B ys/\zs.length=xs.length+1:=by
  intro s t xs ys n m U C;rw[n.len,ko (by omega),kwd rfl (by omega)];simp only[qbr];have g0:=ql h (.cells ((List.replicate (xs.length+1) 0).map u64) kf);have b0:=qm h ((List.replicate (xs.length+1) 0).map u64) kf;obtain⟨h',zs,y,g1,b1,W,F,v1⟩:=k09 n m C (by omega) (qbn h.blks.size) xs.length 0 (by omega) (c:=0) g0 b0 (by simp) (by simp) (by omega) (by simp[num]);refine⟨_,h',zs,y,⟨qo b1 (by simp[W]),F,by omega⟩,g1,λr hr=>?_,v1,W⟩;cases hr;exact⟨_,_,rfl,qbn _⟩
 rw[kbdx];by_cases aa:xs.length<ys.length
 ·rw[show decide ((s.len:Int)<(t.len:Int))=true from by rw[qbu,n.len,m.len];omega,cond_true];obtain⟨s',h',zs,y,H,e3,I,K,Q⟩:=key m n Z (by omega);exact⟨s',h',zs,y,H,e3,I,by rw[K];omega,by rw[Q];omega⟩
 ·rw[show decide ((s.len:Int)<(t.len:Int))=false from by rw[qbt,n.len,m.len];omega,cond_false];obtain⟨s',h',zs,y,H,e3,I,K,Q⟩:=key n m U (by omega);exact⟨s',h',zs,y,H,e3,I,K,by rw[Q];omega⟩
def told(n:Nat):List Nat×Int:=if n<B^64 then(digs B n,0)else([],4)
theorem kl5{h:AH}{s:Sl}{xs:List Nat}(n:Nats h s xs):∃s':Sl,go (.fn kib [s.v]) h=some (.tup [s'.v,.i (told (num B xs)).2],h)/\Nats h s' (told (num B xs)).1/\∀h0,Own h0 s->Own h0 s':=by
 obtain⟨s',C,n1,F⟩:=kdo n;rw[kbjs,C];simp only[qbr,asSl_v];unfold told;by_cases y:num B xs<B^64
 ·have:=(kbg B2 (num B xs) 64).2 y;rw[if_pos y,show decide ((s'.len:Int)>64)=false from by rw[qbt,n1.len];omega];exact⟨s',rfl,n1,F⟩
 ·have:¬(digs B (num B xs)).length<=64:=λh=>y ((kbg B2 _ _).1 h);rw[if_neg y,show decide ((s'.len:Int)>64)=true from by rw[qbu,n1.len];omega];exact⟨⟨none,0,.is 0⟩,rfl,qq h,λh0 _=>qp h0⟩
def addN(xs ys:List Nat):List Nat×Int:=if rt xs=true/\rt ys=true then told (num B xs+num B ys)else([],1)
theorem kkr{h:AH}{s t:Sl}{xs ys:List Nat}(n:Nats h s xs)(m:Nats h t ys):∃(s':Sl)(h':AH),go (.fn kie [s.v,t.v]) h=some (.tup [s'.v,.i (addN xs ys).2],h')/\Nats h' s' (addN xs ys).1/\Grow h h'/\Own h s':=by
 rw[kbdp];simp only[kcy];have r:=Rows.two n m;have g:=ql h (.cells [s.v,t.v] kr);generalize h.push (.cells [s.v,t.v] kr)=h0 at *
 rw[klg r];simp only[qbr,kcl,List.all_cons,List.all_nil,Bool.and_true];by_cases y:rt xs=true/\rt ys=true
 ·rw[show addN xs ys=told (num B xs+num B ys)from by simp[addN,y]];simp only[y.1,y.2,Bool.and_self,Bool.not_true,cond_false];have V:=(rt_iff.1 y.1).1;have W:=(rt_iff.1 y.2).1;obtain⟨s1,F,zs,H,n1,I,K,Q,_⟩:=kt1 (n.grow g) (m.grow g) (by omega) (by omega);obtain⟨s2,C,n2,U⟩:=kl5 n1;rw[Q]at C n2;simp only[H,C,qbr,asSl_v,kf0,kc];exact⟨s2,F,rfl,n2,g.trans I,(U h0 K).of_le g⟩
 ·rw[show addN xs ys=([],1)from by simp only[addN,if_neg y]]
  have:(rt xs&&rt ys)=false:=by
   cases Z:rt xs<;>cases hy:rt ys<;>simp_all
  rw[this];exact⟨⟨none,0,.is 0⟩,h0,rfl,qq _,g,qp h⟩
theorem kblb(x y c:Int):prim "math/bits.Sub64" [.int .u64 x,.int .u64 y,.int .u64 c]=cond (decide (0<=x/\0<=y/\y<18446744073709551616/\0<=c/\c<=1)) (some (AV.tup [.int .u64 ((x-y-c)%18446744073709551616),.int .u64 (cond (decide (x<y+c)) 1 0)])) none:=by
 unfold prim;have s1:("math/bits.Sub64" == "math/bits.Add64")=false:=by decide +kernel
 rw[s1];rfl
theorem kbbd{x y c:Nat}(H:x<B)(I:y<B)(Q:c<=1):∃z w:Nat,prim "math/bits.Sub64" [u64 x,u64 y,u64 c]=some (.tup [u64 z,u64 w])/\z<B/\w<=1/\z+y+c=x+B*w:=by
 have H:x<18446744073709551616:=H;have I:y<18446744073709551616:=I;have e:prim "math/bits.Sub64" [u64 x,u64 y,u64 c]=cond (decide (0<=(x:Int)/\0<=(y:Int)/\(y:Int)<18446744073709551616/\0<=(c:Int)/\(c:Int)<=1)) (some (AV.tup [.int .u64 (((x:Int)-y-c)%18446744073709551616),.int .u64 (cond (decide ((x:Int)<y+c)) 1 0)])) none:=kblb _ _ _;rw[e,show decide (0<=(x:Int)/\0<=(y:Int)/\(y:Int)<18446744073709551616/\0<=(c:Int)/\(c:Int)<=1)=true from by rw[qbu];omega,cond_true];obtain⟨z,K⟩:∃z:Nat,((x:Int)-y-c)%18446744073709551616=(z:Int):=⟨_,(Int.toNat_of_nonneg (Int.emod_nonneg _ (by decide))).symm⟩;rw[K];by_cases h:x<y+c
 ·rw[show decide ((x:Int)<y+c)=true from by rw[qbu];omega];have C:z<18446744073709551616:=by omega
  have F:z+y+c=x+18446744073709551616*1:=by omega
  exact⟨z,1,rfl,C,by omega,F⟩
 ·rw[show decide ((x:Int)<y+c)=false from by rw[qbt];omega];have C:z<18446744073709551616:=by omega
  have F:z+y+c=x+18446744073709551616*0:=by omega
  exact⟨z,0,rfl,C,by omega,F⟩
theorem kbir{b p c x y z w zs ys xs:Nat}(inv:zs+ys=xs+p*c)(C:z+y+c=x+b*w):zs+p*z+(ys+p*y)=xs+p*x+p*b*w:=by have:=congrArg (λq=>p*q) C;simp only[Nat.mul_add]at this;rw[Nat.mul_assoc];omega
theorem kwq{h:AH}{s t:Sl}{xs ys:List Nat}(n:Nats h s xs)(m:Nats h t ys)(hl:ys.length<=xs.length)(hs:xs.length<4611686018427387904){j:Nat}(hj:h.blks.size<=j) :
  ∀(k i:Nat),i+k=xs.length->∀{C:AH}{zs:List Nat}{c:Nat},Grow h C->C.has j (zs.map u64) kf->zs.length=xs.length->(∀z∈zs,z<18446744073709551616)->c<=1->
   num B (zs.take i)+num B (ys.take i)=num B (xs.take i)+B^i*c->
   ∃(h':AH)(zs':List Nat)(K:Nat),go (.pt kdk kj2 [(0,s.v),(1,t.v),(5,Sl.v ⟨some (.new j 0),xs.length,.is xs.length⟩),(6,u64 c),(13,.i (xs.length:Int)),(14,.i (i:Int))]) C =
    some (Sl.v ⟨some (.new j 0),xs.length,.is xs.length⟩,h')/\Grow h h'/\h'.has j (zs'.map u64) kf/\zs'.length=xs.length/\(∀z∈zs',z<18446744073709551616)/\num B zs'+num B ys=num B xs+B^xs.length*K
 | 0,i,Q,C,zs,c,g,b,U,F,hc,inv=>by
  rw[k3k,show decide ((i:Int)<(xs.length:Int))=false from by rw[qbt];omega,cond_false];have:i=xs.length:=by omega
  subst this;rw[List.take_of_length_le (by omega),List.take_of_length_le hl,List.take_length]at inv;exact⟨C,zs,c,rfl,g,b,U,F,inv⟩
 | k+1,i,Q,C,zs,c,g,b,U,F,hc,inv=>by
  have n':=n.grow g;have m':=m.grow g;obtain⟨r,e1,e2⟩:=n'.at (i:=i) (by omega);have hx:xs.getD i 0<B:=kno n.lt i;have hy:ys.getD i 0<B:=kno m.lt i;obtain⟨z,w,H,V,hw,W⟩:=kbbd hx hy hc
  have next:∃(h':AH)(zs':List Nat)(K:Nat),go (.pt kdk kj2 [(0,s.v),(1,t.v),(5,Sl.v ⟨some (.new j 0),xs.length,.is xs.length⟩),(6,u64 w),(13,.i (xs.length:Int)),(14,.i ((i+1:Nat):Int))]) (C.upd j ((zs.set i z).map u64) kf) =
    some (Sl.v ⟨some (.new j 0),xs.length,.is xs.length⟩,h')/\Grow h h'/\h'.has j (zs'.map u64) kf/\zs'.length=xs.length/\(∀z∈zs',z<18446744073709551616)/\num B zs'+num B ys=num B xs+B^xs.length*K:=by
   refine kwq n m hl hs hj k (i+1) (by omega) (g.upd hj _ _) (qn b _ _) (by simpa using U) (λy Z=>?_) hw ?_
   ·rcases List.mem_or_eq_of_mem_set Z with h1 | rfl
    ·exact F y h1
    ·exact V
   ·rw[ktp B zs _ (by omega),kmr B xs i,kmr B ys i,Nat.pow_succ];exact kbir inv W
  rw[k3k,show decide ((i:Int)<(xs.length:Int))=true from by rw[qbu];omega,cond_true,m.len,ko (by omega)];generalize prim "math/bits.Sub64" = f at H|-
  have put:idx (some (.new j 0)) xs.length (i:Int) 1=some (.new j i):=by rw[kej _ _ _ _ (by omega) (by omega)];simp
  by_cases I:i<ys.length
  ·obtain⟨q,e3,e4⟩:=m'.at (i:=i) I;rw[show decide ((i:Int)<(ys.length:Int))=true from by rw[qbu];omega,cond_true];rw[<- m.len,e3,e1];rw[qbr,e4,qbr,kc,qbr,qbr,e2,qbr,kc,qbr];have ex:((xs[i]:Nat):Int)=((xs.getD i 0:Nat):Int):=by rw[kcb (by omega)]
   have ey:((ys[i]:Nat):Int)=((ys.getD i 0:Nat):Int):=by rw[kcb I]
   rw[ex,ey];simp only[u64]at H|-;rw[H];simp only[Option.map_some,qbr,kf0,kc,put];rw[show C.puts (.new j i) [AV.int .u64 ((z:Nat):Int)]=_ from kk1 b _ (by omega)];exact next
  ·have aa:ys.getD i 0=0:=by simp[List.getD,List.getElem?_eq_none (show ys.length<=i by omega)]
   rw[show decide ((i:Int)<(ys.length:Int))=false from by rw[qbt];omega,cond_false,e1];simp only[qbr,e2,kc];have ex:((xs[i]:Nat):Int)=((xs.getD i 0:Nat):Int):=by rw[kcb (by omega)]
   rw[ex];simp only[u64]at H|-;rw[aa]at H;rw[show(AV.int .u64 0)=AV.int .u64 ((0:Nat):Int)from rfl,H];simp only[Option.map_some,qbr,kf0,kc,put];rw[show C.puts (.new j i) [AV.int .u64 ((z:Nat):Int)]=_ from kk1 b _ (by omega)];exact next
theorem kqf{h:AH}{s t:Sl}{xs ys:List Nat}(n:Nats h s xs)(m:Nats h t ys)(hx:xs.length<=1073741824)(F:ys.length<=xs.length)(H:num B ys<=num B xs) :
  ∃(s':Sl)(h':AH)(zs:List Nat),go (.fn kdk [s.v,t.v]) h=some (s'.v,h')/\Nats h' s' zs/\Grow h h'/\Own h s'/\num B zs=num B xs-num B ys/\zs.length=xs.length:=by
 rw[kbfn,n.len,kwd rfl (by omega)];simp only[qbr];have I:=ql h (.cells ((List.replicate xs.length 0).map u64) kf);have K:=qm h ((List.replicate xs.length 0).map u64) kf;obtain⟨h',zs,c,Q,U,b1,C,y,V⟩:=kwq n m F (by omega) (qbn h.blks.size) xs.length 0 (by omega) (c:=0) I K (by simp) (by simp) (by omega) (by simp[num]);have W:=num_lt (b:=B) (by decide) y;rw[C]at W
 have Z:c=0:=by
  rcases Nat.eq_zero_or_pos c with h0 | h0
  ·exact h0
  ·have:B^xs.length*1<=B^xs.length*c:=Nat.mul_le_mul_left _ h0;omega
 rw[Z,Nat.mul_zero,Nat.add_zero]at V;refine⟨_,h',zs,Q,⟨qo b1 (by simp[C]),y,by omega⟩,U,λr hr=>?_,by omega,C⟩;cases hr;exact⟨_,_,rfl,qbn _⟩
def subN(xs ys:List Nat):List Nat×Int:=if rt xs=true/\rt ys=true then(if num B xs<num B ys then([],2)else(digs B (num B xs-num B ys),0))else([],1)
theorem kvx{xs ys:List Nat}(C:∀x∈xs,x<18446744073709551616)(F:∀x∈ys,x<18446744073709551616)(ty:Trim ys)(h:num B ys<=num B xs):ys.length<=xs.length:=by
 rcases Nat.lt_or_ge xs.length ys.length with y | y
 ·have:=ksq B2 C F ty y;omega
 ·exact y
theorem k5a{xs ys:List Nat}(y:∀x∈xs,x<18446744073709551616)(h:xs.length<=64):told (num B xs-num B ys)=(digs B (num B xs-num B ys),0):=by have C:=num_lt (b:=B) (by decide) y;have F:B^xs.length<=B^64:=Nat.pow_le_pow_right (by decide) h;unfold told;rw[if_pos (by omega)]
theorem kkk{h:AH}{s t:Sl}{xs ys:List Nat}(n:Nats h s xs)(m:Nats h t ys):∃(s':Sl)(h':AH),go (.fn kew [s.v,t.v]) h=some (.tup [s'.v,.i (subN xs ys).2],h')/\Nats h' s' (subN xs ys).1/\Grow h h'/\Own h s':=by
 rw[k73];simp only[kcy];have r:=Rows.two n m;have g:=ql h (.cells [s.v,t.v] kr);generalize h.push (.cells [s.v,t.v] kr)=h0 at *
 rw[klg r];simp only[qbr,kcl,List.all_cons,List.all_nil,Bool.and_true];by_cases y:rt xs=true/\rt ys=true
 ·simp only[y.1,y.2,Bool.and_self,Bool.not_true,cond_false];have F:=rt_iff.1 y.1;have H:=rt_iff.1 y.2;rw[knk (n.grow g) (m.grow g) F.2 H.2];simp only[qbr,kc];by_cases C:num B xs<num B ys
  ·rw[show subN xs ys=([],2)from by simp[subN,y,C]];rw[show decide (cmp (num B xs) (num B ys)<0)=true from by rw[qbu];simp[cmp,C]];exact⟨⟨none,0,.is 0⟩,h0,rfl,qq _,g,qp h⟩
  ·rw[show subN xs ys=told (num B xs-num B ys)from by rw[k5a n.lt F.1];simp[subN,y,C]];rw[show decide (cmp (num B xs) (num B ys)<0)=false from by rw[qbt];unfold cmp;rw[if_neg C];split<;>omega];simp only[cond_false];obtain⟨s1,K,zs,Q,n1,U,V,W,_⟩:=kqf (n.grow g) (m.grow g) (by omega) (kvx n.lt m.lt H.2 (by omega)) (by omega);obtain⟨s2,I,n2,Z⟩:=kl5 n1;rw[W]at I n2;simp only[Q,I,qbr,asSl_v,kf0,kc];exact⟨s2,K,rfl,n2,g.trans U,(Z h0 V).of_le g⟩
 ·rw[show subN xs ys=([],1)from by simp only[subN,if_neg y]]
  have:(rt xs&&rt ys)=false:=by
   cases hx:rt xs<;>cases hy:rt ys<;>simp_all
  rw[this];exact⟨⟨none,0,.is 0⟩,h0,rfl,qq _,g,qp h⟩
theorem kp3{h:AH}{i:Nat}{a b:Sl}{xs ys:List Nat}{p q:Bool}(c:h.has i [.bool p,a.v,.bool q,b.v] ki)(n:Nats h a xs)(m:Nats h b ys):∃h',go (.fn kgx [(⟨some (.new i 0),2,.is 2⟩:Sl).v]) h=some (.bool (rtI p xs&&rtI q ys),h')/\Grow h h':=by
 have r:IRows h ⟨some (.new i 0),2,.is 2⟩ [(p,a,xs),(q,b,ys)]:=⟨qo c rfl,λr y=>by
  simp at y;rcases y with rfl | rfl
  ·exact n
  ·exact m,by simp⟩
 obtain⟨h',e,g⟩:=k1m r;exact⟨h',by rw[e];simp,g⟩
def kbw(a1:Bool)(x2:List Nat)(a3:Bool)(x4:List Nat):Bool×List Nat×Int:=cond (!((rtI a1 x2&&rtI a3 x4))) ((false,[],1)) (cond (a1==a3) (((((fromI a1 ((addN x2 x4).1)).1)),(fromI a1 ((addN x2 x4).1)).2,((addN x2 x4).2))) (cond (decide ((cmpN x2 x4)<0)) (((((fromI a3 ((subN x4 x2).1)).1)),(fromI a3 ((subN x4 x2).1)).2,((subN x4 x2).2))) (((((fromI a1 ((subN x2 x4).1)).1)),(fromI a1 ((subN x2 x4).1)).2,((subN x2 x4).2)))))
theorem ksn{h:AH}{a2:Sl}{x2:List Nat}{a4:Sl}{x4:List Nat}(n2:Nats h a2 x2)(n4:Nats h a4 x4)(a1 a3:Bool):Runs (go (.fn kfg [.agg [.bool a1,a2.v],.agg [.bool a3,a4.v]]) h) λv h'=>∃s1:Sl,v=.tup [.agg [.bool (kbw a1 x2 a3 x4).1,s1.v],.i (kbw a1 x2 a3 x4).2.2]/\Nats h' s1 ((kbw a1 x2 a3 x4).2.1)/\Grow h h'/\Own h s1:=by
 rw[k85];refine qx λH5 W K=>?_;refine qx λH6 b6 I=>?_;refine qx λH7 b7 H=>?_;refine qw (qbc ((I.trans H).has W) 0 rfl rfl) (qw (qbc ((I.trans H).has W) 1 rfl qck) (qw (qbc (H.has b6) 0 rfl rfl) (qw (qbc (H.has b6) 1 rfl qck) ?_)));refine qx λH8 b8 F=>?_;obtain⟨H9,e9,C⟩:=kp3 b8 (n2.grow (((K.trans I).trans H).trans F)) (n4.grow (((K.trans I).trans H).trans F));refine qw e9 (qw (seen rfl) ?_);refine qba (λaf=>?_) (λaf=>?_)
 ·refine qy ((F.trans C).has b7) rfl λcl ay az=>?_;have bq:=qr (C.has b8) (Nat.ne_of_gt (qbp (b7).lt (qbn _))) az;refine qw (qbc ay 0 rfl rfl) (qw (qbc ay 1 rfl qck) ?_);have z:kbw a1 x2 a3 x4=(false,[],1):=by unfold kbw;exact(condT af).trans rfl
  rw[z];exact qu ⟨(⟨none,0,.is 0⟩:Sl),rfl,(qq _),(((((K.trans I).trans H).trans F).trans C).updr (qbo ((K.trans I)).size (qbn _)) az),(qp _)⟩
 ·refine qw (qbc ((((I.trans H).trans F).trans C).has W) 0 rfl rfl) (qw (qbc (((H.trans F).trans C).has b6) 0 rfl rfl) ?_);refine qba (λah=>?_) (λah=>?_)
  ·refine qw (qbc ((((I.trans H).trans F).trans C).has W) 1 rfl qck) (qw (qbc (((H.trans F).trans C).has b6) 1 rfl qck) ?_);obtain⟨cm,br,aq,a0,y,bt⟩:=kkr (n2.grow ((((K.trans I).trans H).trans F).trans C)) (n4.grow ((((K.trans I).trans H).trans F).trans C));refine qw aq (qw rfl (qw (seen qck) (qw (seen qcl) (qw (qbc (((((I.trans H).trans F).trans C).trans y).has W) 0 rfl rfl) ?_))));obtain⟨bu,cn,bv,bw,ai,ba⟩:=kbx a0 a1;refine qw bv (qw rfl ?_);refine qz rfl ?_;refine qw (seenAt rfl rfl) (qw (seenAt rfl qck) ?_);refine qy ((((F.trans C).trans y).trans ai).has b7) rfl λbb aj Q=>?_;have bj:=(a0.grow ai).upda (qbh bt ((F.trans C).has b7).lt) Q;have ak:=bw.upda (qbh ba (((F.trans C).trans y).has b7).lt) Q;have ag:=qr (((C.trans y).trans ai).has b8) (Nat.ne_of_gt (qbp (b7).lt (qbn _))) Q;refine qw (qbc aj 0 rfl rfl) (qw (qbc aj 1 rfl qck) ?_);have z:kbw a1 x2 a3 x4=((((fromI a1 ((addN x2 x4).1)).1)),(fromI a1 ((addN x2 x4).1)).2,((addN x2 x4).2)):=by unfold kbw;exact(condF af).trans ((condT ah).trans rfl)
   rw[z];exact qu ⟨bu,rfl,ak,(((((((K.trans I).trans H).trans F).trans C).trans y).trans ai).updr (qbo ((K.trans I)).size (qbn _)) Q),(ba.of_le (((((K.trans I).trans H).trans F).trans C).trans y))⟩
  ·refine qw (qbc ((((I.trans H).trans F).trans C).has W) 1 rfl qck) (qw (qbc (((H.trans F).trans C).has b6) 1 rfl qck) ?_);obtain⟨br,aq,y⟩:=kco (n2.grow ((((K.trans I).trans H).trans F).trans C)) (n4.grow ((((K.trans I).trans H).trans F).trans C));refine qw aq (qw (seen qcl) ?_);refine qba (λar=>?_) (λar=>?_)
   ·refine qw (qbc ((((H.trans F).trans C).trans y).has b6) 0 rfl rfl) (qw (qbc ((((H.trans F).trans C).trans y).has b6) 1 rfl qck) (qw (qbc (((((I.trans H).trans F).trans C).trans y).has W) 0 rfl rfl) (qw (qbc (((((I.trans H).trans F).trans C).trans y).has W) 1 rfl qck) ?_)));refine qy (((((I.trans H).trans F).trans C).trans y).has W) rfl λbb aj Q=>?_;have au:=qr ((((H.trans F).trans C).trans y).has b6) (Nat.ne_of_gt (qbp (W).lt (qbn _))) Q;have aw:=qr (((F.trans C).trans y).has b7) (Nat.ne_of_gt (qbp (I.has W).lt (qbn _))) Q;have ag:=qr ((C.trans y).has b8) (Nat.ne_of_gt (qbp ((I.trans H).has W).lt (qbn _))) Q;refine qy au rfl λbx bc Z=>?_;have U:=qr aj (Nat.ne_of_lt (qbp (W).lt (qbn _))) Z;have aa:=qr aw (Nat.ne_of_gt (qbp (b6).lt (qbn _))) Z;have ax:=qr ag (Nat.ne_of_gt (qbp (H.has b6).lt (qbn _))) Z;refine qw (qbc U 1 rfl qck) (qw (qbc bc 1 rfl qck) ?_);obtain⟨cp,bz,b0,bd,V,b9⟩:=kkk (n4.grow (((((((K.trans I).trans H).trans F).trans C).trans y).updr (qbn _) Q).updr (qbo (K).size (qbn _)) Z)) (n2.grow (((((((K.trans I).trans H).trans F).trans C).trans y).updr (qbn _) Q).updr (qbo (K).size (qbn _)) Z));refine qw b0 (qw rfl (qw (seen qck) (qw (seen qcl) (qw (qbc (V.has U) 0 rfl rfl) ?_))));obtain⟨ca,cq,cb,cc,ac,be⟩:=kbx bd a3;refine qw cb (qw rfl ?_);refine qz rfl ?_;refine qw (seenAt rfl rfl) (qw (seenAt rfl qck) ?_);refine qy ((V.trans ac).has aa) rfl λcr bf ad=>?_;have bk:=(bd.grow ac).upda (qbh b9 (aa).lt) ad;have al:=cc.upda (qbh be (V.has aa).lt) ad;have bm:=qr ((V.trans ac).has U) (Nat.ne_of_lt (qbp (I.has W).lt (qbn _))) ad;have bn:=qr ((V.trans ac).has bc) (Nat.ne_of_lt (qbp (b6).lt (qbn _))) ad;have cd:=qr ((V.trans ac).has ax) (Nat.ne_of_gt (qbp (b7).lt (qbn _))) ad;refine qw (qbc bf 0 rfl rfl) (qw (qbc bf 1 rfl qck) ?_);have z:kbw a1 x2 a3 x4=((((fromI a3 ((subN x4 x2).1)).1)),(fromI a3 ((subN x4 x2).1)).2,((subN x4 x2).2)):=by unfold kbw;exact(condF af).trans ((condF ah).trans ((condT ar).trans rfl))
    rw[z];exact qu ⟨ca,rfl,al,((((((((((K.trans I).trans H).trans F).trans C).trans y).updr (qbn _) Q).updr (qbo (K).size (qbn _)) Z).trans V).trans ac).updr (qbo ((K.trans I)).size (qbn _)) ad),(be.of_le ((((((((K.trans I).trans H).trans F).trans C).trans y).updr (qbn _) Q).updr (qbo (K).size (qbn _)) Z).trans V))⟩
   ·refine qw (qbc (((((I.trans H).trans F).trans C).trans y).has W) 1 rfl qck) (qw (qbc ((((H.trans F).trans C).trans y).has b6) 1 rfl qck) ?_);obtain⟨ct,bb,ce,bg,ae,cf⟩:=kkk (n2.grow (((((K.trans I).trans H).trans F).trans C).trans y)) (n4.grow (((((K.trans I).trans H).trans F).trans C).trans y));refine qw ce (qw rfl (qw (seen qck) (qw (seen qcl) (qw (qbc ((((((I.trans H).trans F).trans C).trans y).trans ae).has W) 0 rfl rfl) ?_))));obtain⟨ch,bx,ci,cj,am,bh⟩:=kbx bg a1;refine qw ci (qw rfl ?_);refine qz rfl ?_;refine qw (seenAt rfl rfl) (qw (seenAt rfl qck) ?_);refine qy (((((F.trans C).trans y).trans ae).trans am).has b7) rfl λbz bi an=>?_;have bp:=(bg.grow am).upda (qbh cf (((F.trans C).trans y).has b7).lt) an;have ap:=cj.upda (qbh bh ((((F.trans C).trans y).trans ae).has b7).lt) an;have ck:=qr ((((C.trans y).trans ae).trans am).has b8) (Nat.ne_of_gt (qbp (b7).lt (qbn _))) an;refine qw (qbc bi 0 rfl rfl) (qw (qbc bi 1 rfl qck) ?_);have z:kbw a1 x2 a3 x4=((((fromI a1 ((subN x2 x4).1)).1)),(fromI a1 ((subN x2 x4).1)).2,((subN x2 x4).2)):=by unfold kbw;exact(condF af).trans ((condF ah).trans ((condF ar).trans rfl))
    rw[z];exact qu ⟨ch,rfl,ap,((((((((K.trans I).trans H).trans F).trans C).trans y).trans ae).trans am).updr (qbo ((K.trans I)).size (qbn _)) an),(bh.of_le ((((((K.trans I).trans H).trans F).trans C).trans y).trans ae))⟩
theorem rtI_rt{p:Bool}{xs:List Nat}(h:rtI p xs=true):rt xs=true:=by unfold rtI at h;revert h;cases rt xs<;>simp
def kba(a1:Bool)(x2:List Nat)(a3:Bool)(x4:List Nat):Bool×List Nat×Int:=cond (!((rtI a1 x2&&rtI a3 x4))) ((false,[],1)) (((((kbw a1 x2 ((negI a3 x4).1) ((negI a3 x4).2)).1)),(kbw a1 x2 ((negI a3 x4).1) ((negI a3 x4).2)).2.1,((kbw a1 x2 ((negI a3 x4).1) ((negI a3 x4).2)).2.2)))
theorem kn7{h:AH}{a2:Sl}{x2:List Nat}{a4:Sl}{x4:List Nat}(n2:Nats h a2 x2)(n4:Nats h a4 x4)(a1 a3:Bool):Runs (go (.fn kfk [.agg [.bool a1,a2.v],.agg [.bool a3,a4.v]]) h) λv h'=>∃s1:Sl,v=.tup [.agg [.bool (kba a1 x2 a3 x4).1,s1.v],.i (kba a1 x2 a3 x4).2.2]/\Nats h' s1 ((kba a1 x2 a3 x4).2.1)/\Grow h h'/\Own h s1:=by
 rw[kbfo];refine qx λH5 b5 K=>?_;refine qx λH6 b6 I=>?_;refine qx λH7 Z y=>?_;refine qw (qbc ((I.trans y).has b5) 0 rfl rfl) (qw (qbc ((I.trans y).has b5) 1 rfl qck) (qw (qbc (y.has b6) 0 rfl rfl) (qw (qbc (y.has b6) 1 rfl qck) ?_)));refine qx λH8 b8 C=>?_;obtain⟨H9,e9,F⟩:=kp3 b8 (n2.grow (((K.trans I).trans y).trans C)) (n4.grow (((K.trans I).trans y).trans C));refine qw e9 (qw (seen rfl) ?_);refine qba (λW=>?_) (λW=>?_)
 ·refine qy ((C.trans F).has Z) rfl λah aa ac=>?_;have ai:=qr (F.has b8) (Nat.ne_of_gt (qbp (Z).lt (qbn _))) ac;refine qw (qbc aa 0 rfl rfl) (qw (qbc aa 1 rfl qck) ?_);have z:kba a1 x2 a3 x4=(false,[],1):=by unfold kba;exact(condT W).trans rfl
  rw[z];exact qu ⟨(⟨none,0,.is 0⟩:Sl),rfl,(qq _),(((((K.trans I).trans y).trans C).trans F).updr (qbo ((K.trans I)).size (qbn _)) ac),(qp _)⟩
 ·refine qw (qbc ((((I.trans y).trans C).trans F).has b5) 0 rfl rfl) (qw (qbc ((((I.trans y).trans C).trans F).has b5) 1 rfl qck) (qw (qbc (((y.trans C).trans F).has b6) 0 rfl rfl) (qw (qbc (((y.trans C).trans F).has b6) 1 rfl qck) ?_)));obtain⟨aq,ah,aj,ad,H,ak⟩:=kbk7 (n4.grow ((((K.trans I).trans y).trans C).trans F)) a3;refine qw aj (qw rfl ?_);refine qz rfl ?_;refine qw (seenAt rfl rfl) (qw (seenAt rfl qck) ?_);refine qbb (H.same ((((I.trans y).trans C).trans F).has b5) 0 2) ?_;obtain⟨_,ar,al,am,rfl,an,Q,ae⟩:=ksn (n2.grow (((((K.trans I).trans y).trans C).trans F).trans H)) ad a1 ((negI a3 x4).1);refine qw al (qw rfl (qw rfl ?_));refine qz rfl ?_;refine qw (seenAt rfl rfl) (qw (seenAt rfl qck) (qw (seen qcl) ?_));refine qy ((((C.trans F).trans H).trans Q).has Z) rfl λau af U=>?_;have ag:=(ad.grow Q).upda (qbh ak ((C.trans F).has Z).lt) U;have V:=an.upda (qbh ae (((C.trans F).trans H).has Z).lt) U;have ap:=qr (((F.trans H).trans Q).has b8) (Nat.ne_of_gt (qbp (Z).lt (qbn _))) U;refine qw (qbc af 0 rfl rfl) (qw (qbc af 1 rfl qck) ?_);have z:kba a1 x2 a3 x4=((((kbw a1 x2 ((negI a3 x4).1) ((negI a3 x4).2)).1)),(kbw a1 x2 ((negI a3 x4).1) ((negI a3 x4).2)).2.1,((kbw a1 x2 ((negI a3 x4).1) ((negI a3 x4).2)).2.2)):=by unfold kba;exact(condF W).trans rfl
  rw[z];exact qu ⟨am,rfl,V,(((((((K.trans I).trans y).trans C).trans F).trans H).trans Q).updr (qbo ((K.trans I)).size (qbn _)) U),(ae.of_le (((((K.trans I).trans y).trans C).trans F).trans H))⟩
end Go.Ab
set_option maxRecDepth 10000
namespace Go.Ab
open IntKind (wrap)
open Go.Proofs Go.Num
theorem kb8(x n:Nat):ishr .u64 (x:Int) (n:Int)=((x/2^min n 64:Nat):Int):=by
 unfold ishr;rw[Int.toNat_natCast,show IntKind.bits .u64=64 from rfl];have:((2:Int)^min n 64)=((2^min n 64:Nat):Int):=by simp
 rw[this,Int.fdiv_eq_ediv_of_nonneg _ (Int.natCast_nonneg _)];exact(Int.natCast_ediv _ _).symm
theorem kk5{x:Nat}(y:x<18446744073709551616):iand .u64 (x:Int) 4294967295=((x%4294967296:Nat):Int):=by unfold iand;rw[show IntKind.bits .u64=64 from rfl,wrapU];have C:BitVec.ofInt 64 (x:Int)=BitVec.ofNat 64 x:=rfl;have F:BitVec.ofInt 64 4294967295=BitVec.ofNat 64 4294967295:=rfl;rw[C,F,BitVec.toNat_and,BitVec.toNat_ofNat,BitVec.toNat_ofNat];rw[Nat.mod_eq_of_lt (show x<2^64 from y),Nat.mod_eq_of_lt (show 4294967295<2^64 from by decide)];rw[show(4294967295:Nat)=2^32-1 from rfl,Nat.and_two_pow_sub_one_eq_mod];have:=Nat.mod_lt x (show 0<2^32 by decide);omega
def mul64(a1 a2:Int):Int×Int:=((wrap .u64 ((wrap .u64 ((wrap .u64 ((ishr .u64 a1 32)*(ishr .u64 a2 32)))+(ishr .u64 (wrap .u64 ((wrap .u64 ((ishr .u64 a1 32)*(iand .u64 a2 4294967295)))+(ishr .u64 (wrap .u64 ((iand .u64 a1 4294967295)*(iand .u64 a2 4294967295))) 32))) 32)))+(ishr .u64 (wrap .u64 ((iand .u64 (wrap .u64 ((wrap .u64 ((ishr .u64 a1 32)*(iand .u64 a2 4294967295)))+(ishr .u64 (wrap .u64 ((iand .u64 a1 4294967295)*(iand .u64 a2 4294967295))) 32))) 4294967295)+(wrap .u64 ((iand .u64 a1 4294967295)*(ishr .u64 a2 32))))) 32))),wrap .u64 (a1*a2))
theorem kou(a1 a2:Int){h:AH}:go (.fn kjo [.int .u64 a1,.int .u64 a2]) h=some (.tup [.int .u64 (mul64 a1 a2).1,.int .u64 (mul64 a1 a2).2],h):=k9i a1 a2 h
theorem kbde(x1 C y F:Nat):(x1*4294967296+C)*(y*4294967296+F)=x1*y*18446744073709551616+(x1*F+C*y)*4294967296+C*F:=by
 rw[Nat.add_mul,Nat.mul_add,Nat.mul_add]
 have H:x1*4294967296*(y*4294967296)=x1*y*18446744073709551616:=by rw[Nat.mul_mul_mul_comm]
 have I:x1*4294967296*F=x1*F*4294967296:=by rw[Nat.mul_right_comm]
 have e3:C*(y*4294967296)=C*y*4294967296:=by rw[Nat.mul_assoc]
 rw[H,I,e3];omega
theorem ksm{x y:Nat}(K:x<B)(Q:y<B):mul64 (x:Int) (y:Int)=(((x*y/B:Nat):Int),((x*y%B:Nat):Int)):=by
 have K:x<18446744073709551616:=K;have Q:y<18446744073709551616:=Q;unfold mul64;have s1:=kb8 x 32;have s2:=kb8 y 32;have a1:=kk5 K;have a2:=kk5 Q;have I:(2:Nat)^min 32 64=4294967296:=rfl;rw[I]at s1 s2;rw[show((32:Nat):Int)=32 from rfl]at s1 s2;rw[s1,s2,a1,a2];generalize aa:x/4294967296=x1;generalize ac:x%4294967296=C;generalize ad:y/4294967296=F;generalize ae:y%4294967296=H;have ex:x=x1*4294967296+C:=by omega
 have ey:y=F*4294967296+H:=by omega
 have W:x1<=4294967295:=by omega
 have Z:C<=4294967295:=by omega
 have l3:F<=4294967295:=by omega
 have l4:H<=4294967295:=by omega
 have b1:x1*F<=4294967295*4294967295:=Nat.mul_le_mul W l3;have b2:x1*H<=4294967295*4294967295:=Nat.mul_le_mul W l4;have b3:C*F<=4294967295*4294967295:=Nat.mul_le_mul Z l3;have b4:C*H<=4294967295*4294967295:=Nat.mul_le_mul Z l4;have key:=kbde x1 C F H;rw[<- ex,<- ey]at key;have w1:wrap .u64 (((C:Nat):Int)*((H:Nat):Int))=((C*H:Nat):Int):=by rw[wrapU,<- Int.natCast_mul];omega
 have w2:wrap .u64 (((x1:Nat):Int)*((H:Nat):Int))=((x1*H:Nat):Int):=by rw[wrapU,<- Int.natCast_mul];omega
 have w3:wrap .u64 (((C:Nat):Int)*((F:Nat):Int))=((C*F:Nat):Int):=by rw[wrapU,<- Int.natCast_mul];omega
 have w4:wrap .u64 (((x1:Nat):Int)*((F:Nat):Int))=((x1*F:Nat):Int):=by rw[wrapU,<- Int.natCast_mul];omega
 rw[w1,w2,w3,w4]
 have lo:wrap .u64 ((x:Int)*(y:Int))=((x*y%B:Nat):Int):=by rw[wrapU,<- Int.natCast_mul];rfl
 rw[lo];generalize C*H=p at *
 generalize x1*H=q at *
 generalize C*F=u at *
 generalize x1*F=v at *
 have s3:=kb8 p 32;rw[I]at s3;rw[show((32:Nat):Int)=32 from rfl]at s3;rw[s3];have w5:wrap .u64 (((q:Nat):Int)+((p/4294967296:Nat):Int))=((q+p/4294967296:Nat):Int):=by rw[wrapU];omega
 rw[w5];have ht:q+p/4294967296<18446744073709551616:=by omega
 have U:=kb8 (q+p/4294967296) 32;rw[I]at U;rw[show((32:Nat):Int)=32 from rfl]at U;rw[U,kk5 ht];generalize af:q+p/4294967296=t at *
 have w6:wrap .u64 (((t%4294967296:Nat):Int)+((u:Nat):Int))=((t%4294967296+u:Nat):Int):=by rw[wrapU];omega
 rw[w6];have V:=kb8 (t%4294967296+u) 32;rw[I]at V;rw[show((32:Nat):Int)=32 from rfl]at V;rw[V];have w7:wrap .u64 (((v:Nat):Int)+((t/4294967296:Nat):Int))=((v+t/4294967296:Nat):Int):=by rw[wrapU];omega
 rw[w7];have w8:wrap .u64 (((v+t/4294967296:Nat):Int)+(((t%4294967296+u)/4294967296:Nat):Int))=((v+t/4294967296+(t%4294967296+u)/4294967296:Nat):Int):=by rw[wrapU];omega
 rw[w8]
 have hi:v+t/4294967296+(t%4294967296+u)/4294967296=x*y/18446744073709551616:=by rw[key];omega
 rw[hi]
inductive kfj
 | fn (x1:List Nat) (x2:List Nat)
 | p3 (x1:List Nat) (x2:List Nat) (x3:List Nat) (a4:Int) (a5:Int)
 | p7 (x1:List Nat) (x2:List Nat) (a3:Int) (a4:Int) (a5:Int) (x6:List Nat) (a7:Int) (a8:Int) (x9:List Nat) (a10:Int) (a11:Int)
abbrev kdb:=List Nat
noncomputable def klj(x1 x2:List Nat):Option (kfj⊕kdb):=(mkI (wrap .i64 ((List.length x1:Int)+(List.length x2:Int))) (wrap .i64 ((List.length x1:Int)+(List.length x2:Int)))).bind λy=>some (.inl (.p3 x2 (List.replicate y 0) x1 (List.length x1:Int) 0))
noncomputable def kil(x1 x2 x3:List Nat)(a4 a5:Int):Option (kfj⊕kdb):=cond (decide (a5<a4)) ((atI x3 a5).bind λy=>some (.inl (.p7 x1 x2 a5 ((y:Int)) 0 x3 a4 a5 x1 (List.length x1:Int) 0))) (some (.inr (digs B (num B x2))))
noncomputable def khd(x1 x2:List Nat)(a3 a4 a5:Int)(x6:List Nat)(a7 a8:Int)(x9:List Nat)(a10 a11:Int):Option (kfj⊕kdb):=cond (decide (a11<a10)) ((atI x9 a11).bind λy=>(inI (List.length x2) (wrap .i64 (a3+a11))).bind λC=>(add64P ((mul64 a4 ((y:Int))).2) (((List.getD x2 C 0:Nat):Int)) 0).bind λp16=>(add64P (p16.1) a5 0).bind λp17=>(inI (List.length x2) (wrap .i64 (a3+a11))).bind λF=>(u64P (p17.1)).bind λH=>some (.inl (.p7 x1 (List.set x2 F H) a3 a4 (wrap .u64 ((wrap .u64 (((mul64 a4 ((y:Int))).1)+(p16.2)))+(p17.2))) x6 a7 a8 x9 a10 (wrap .i64 (a11+1))))) ((inI (List.length x2) (wrap .i64 (a3+(List.length x1:Int)))).bind λI=>(u64P a5).bind λK=>some (.inl (.p3 x1 (List.set x2 I K) x6 a7 (wrap .i64 (a8+1)))))
noncomputable def kk2:kfj->Option (kfj⊕kdb)
 | .fn x1 x2=>klj x1 x2
 | .p3 x1 x2 x3 a4 a5=>kil x1 x2 x3 a4 a5
 | .p7 x1 x2 a3 a4 a5 x6 a7 a8 x9 a10 a11=>khd x1 x2 a3 a4 a5 x6 a7 a8 x9 a10 a11
@[reducible] def ktv(h0:AH)(r:kdb)(v:AV)(h':AH):Prop:=∃s1:Sl,v=s1.v/\Nats h' s1 r/\Grow h0 h'/\Own h0 s1
def kix(r:kdb):kfj->Prop
 | .fn x1 x2=>∀{h:AH}{a1:Sl}{a2:Sl},Nats h a1 x1->Nats h a2 x2->Runs (go (.fn kc7 [a1.v,a2.v]) h) (ktv h r)
 | .p3 x1 x2 x3 a4 a5=>∀{h0 h:AH}{a1:Sl}{a2:Sl}{a3:Sl}{i2:Nat},Grow h0 h->Nats h a1 x1->Vec h a2 i2 x2->Nats h a3 x3->h0.blks.size<=i2->Av a1 i2 x1->Av a3 i2 x3->Runs (go (.pt kc7 ko5 [(1,a1.v),(5,a2.v),(20,a3.v),(21,.i a4),(22,.i a5)]) h) (ktv h0 r)
 | .p7 x1 x2 a3 a4 a5 x6 a7 a8 x9 a10 a11=>∀{h0 h:AH}{a1:Sl}{a2:Sl}{a6:Sl}{a9:Sl}{i2:Nat},Grow h0 h->Nats h a1 x1->Vec h a2 i2 x2->Nats h a6 x6->Nats h a9 x9->h0.blks.size<=i2->Av a1 i2 x1->Av a6 i2 x6->Av a9 i2 x9->Runs (go (.pt kc7 kpt [(1,a1.v),(5,a2.v),(6,.i a3),(7,.int .u64 a4),(8,.int .u64 a5),(20,a6.v),(21,.i a7),(22,.i a8),(27,a9.v),(28,.i a10),(29,.i a11)]) h) (ktv h0 r)
theorem kbeg{r:kdb}{o:kfj⊕kdb}{x1 x2:List Nat}(e:klj x1 x2=some o)(y:GoodS (kix r) r o):kix r (.fn x1 x2):=by intro h a1 a2 n1 n2;rw[k4x];unfold klj at e;rw[n1.len];rw[n2.len];obtain⟨I,F,e⟩:=qbs.1 e;refine Runs.mk F kda λs3 K H C=>?_;cases e;exact y C (n2.grow C) H (n1.grow C) (qbn _) (qbg n2 (qbn _)) (qbg n1 (qbn _))
theorem kbac{r:kdb}{o:kfj⊕kdb}{x1 x2 x3:List Nat}{a4 a5:Int}(e:kil x1 x2 x3 a4 a5=some o)(C:GoodS (kix r) r o):kix r (.p3 x1 x2 x3 a4 a5):=by
 intro h0 h a1 a2 a3 i2 U n1 I K H y F;rw[kbjl];unfold kil at e;rw[n1.len];rw[K.len];refine qba (λQ=>?_) (λQ=>?_)
 ·replace e:=(condT Q).symm.trans e;obtain⟨y7,V,e⟩:=qbs.1 e;obtain⟨r7,W,Z⟩:=K.atI V;refine qw W (qw (rdc Z qcl) ?_);cases e;exact C U n1 I K n1 H y F y
 ·replace e:=(condF Q).symm.trans e;obtain⟨s7,e7,n7,o7⟩:=kdo I.nats;refine qw e7 (qw (seen qck) ?_);cases e;cases C;exact qu ⟨s7,rfl,n7,U,((o7 _ (I.own H)).of_le (qk _))⟩
theorem kbk8{r:kdb}{o:kfj⊕kdb}{x1 x2:List Nat}{a3 a4 a5:Int}{x6:List Nat}{a7 a8:Int}{x9:List Nat}{a10 a11:Int}(e:khd x1 x2 a3 a4 a5 x6 a7 a8 x9 a10 a11=some o)(U:GoodS (kix r) r o):kix r (.p7 x1 x2 a3 a4 a5 x6 a7 a8 x9 a10 a11):=by
 intro h0 h a1 a2 a6 a9 i2 g0 n1 V n6 n9 H y C F;rw[kbd9];unfold khd at e;rw[n1.len];rw[V.nats.len];rw[n9.len];refine qba (λW=>?_) (λW=>?_)
 ·replace e:=(condT W).symm.trans e;obtain⟨ai,I,e⟩:=qbs.1 e;obtain⟨au,af,aj⟩:=n9.atI I;refine qw af (qw (rdc aj qcl) (qw (kou a4 ((ai:Int))) (qw rfl (qw (seen qcl) (qw (seen qcl) ?_)))));obtain⟨aw,ag,e⟩:=qbs.1 e;refine qw (V.idx rfl ag) (qw (V.rd rfl ag qcl) ?_);obtain⟨p16,ak,e⟩:=qbs.1 e;refine qw (ke2 ak) (qw rfl (qw (seen qcl) (qw (seen qcl) ?_)));obtain⟨p17,al,e⟩:=qbs.1 e;refine qw (ke2 al) (qw rfl (qw (seen qcl) (qw (seen qcl) ?_)));obtain⟨ax,ah,e⟩:=qbs.1 e;refine qw (V.idx rfl ah) ?_;obtain⟨ay,am,e⟩:=qbs.1 e;refine qbf V rfl ah am λaz an K=>?_;have Z:=n1.upda y K;have aa:=n6.upda C K;have ac:=n9.upda F K;cases e;exact U (g0.updr H K) Z an aa ac H y C F
 ·replace e:=(condF W).symm.trans e;obtain⟨af,I,e⟩:=qbs.1 e;refine qw (V.idx rfl I) ?_;obtain⟨a0,ap,e⟩:=qbs.1 e;refine qbf V rfl I ap λba aq Q=>?_;have ad:=n1.upda y Q;have ae:=n6.upda C Q;have ar:=n9.upda F Q;cases e;exact U (g0.updr H Q) ad aq ae H y C
theorem kbfb{s:kfj}{r:kdb}(C:Iter kk2 s r):kix r s:=qbe (λs o e y=>by
 cases s with
 | fn x1 x2=>exact @kbeg _ _ x1 x2 e y
 | p3 x1 x2 x3 a4 a5=>exact @kbac _ _ x1 x2 x3 a4 a5 e y
 | p7 x1 x2 a3 a4 a5 x6 a7 a8 x9 a10 a11=>exact @kbk8 _ _ x1 x2 a3 a4 a5 x6 a7 a8 x9 a10 a11 e y
 ) C
end Go.Ab
set_option maxRecDepth 10000
namespace Go.Ab
open Go.Proofs Go.Num
theorem kbgk{t o c:Nat}(y:o<18446744073709551616)(C:c<18446744073709551616)(h:(t+o+c)/18446744073709551616<18446744073709551616) :
  ((t%18446744073709551616+o+0)%18446744073709551616+c+0)%18446744073709551616=(t+o+c)%18446744073709551616/\
  IntKind.wrap .u64 (IntKind.wrap .u64 (((t/18446744073709551616:Nat):Int)+(((t%18446744073709551616+o+0)/18446744073709551616:Nat):Int))+((((t%18446744073709551616+o+0)%18446744073709551616+c+0)/18446744073709551616:Nat):Int))=(((t+o+c)/18446744073709551616:Nat):Int):=by
 rw[wrapU,wrapU];omega
def Empty(o:List Nat)(k:Nat):Prop:=∀j (h:j<o.length),k<=j->o[j]=0
theorem Empty.set{o:List Nat}{k j w:Nat}(z:Empty o k)(C:j<k):Empty (o.set j w) k:=λt y hk=>by rw[List.getElem_set_ne (by omega)];exact z t (by simpa using y) hk
theorem set_lt{b:Nat}{o:List Nat}{j w:Nat}(h:∀x∈o,x<b)(C:w<b):∀x∈o.set j w,x<b:=λx F=>by
 rcases List.mem_or_eq_of_mem_set F with y | y
 ·exact h x y
 ·rw[y];exact C
theorem k1f{xs ys:List Nat}{r:kdb}{i x T:Nat}(Q:x<B)(U:∀y∈ys,y<B)(hn:xs.length+ys.length<=8796093022208)(hi:i<xs.length)
  (K:∀o:List Nat,o.length=xs.length+ys.length->(∀y∈o,y<B)->Empty o (i+1+ys.length)->num B o=T+B^i*(x*num B ys)->Iter kk2 (.p3 ys o xs (xs.length:Int) ((i+1:Nat):Int)) r) :
  ∀(d k:Nat),k+d=ys.length->∀(o:List Nat)(c:Nat),o.length=xs.length+ys.length->(∀y∈o,y<B)->Empty o (i+ys.length)->c<B->Row B o i k c x ys T->
   Iter kk2 (.p7 ys o (i:Int) (x:Int) (c:Int) xs (xs.length:Int) (i:Int) ys (ys.length:Int) (k:Int)) r
 | 0,k,hk,o,c,lo,to,zo,F,row=>by
  have hk:k=ys.length:=by omega
  subst hk;have C:i+ys.length<o.length:=by omega
  refine .next ?_ (K (o.set (i+ys.length) c) (by simpa using lo) (set_lt to F) ?_ ?_)
  ·show khd _ _ _ _ _ _ _ _ _ _ _=_;unfold khd;rw[condF (by rw[qbt];omega),<- Int.natCast_add,kb0 (by omega),kx C,qbr,kbm F,qbr,ko (by omega)]
  ·rw[show i+1+ys.length=i+ys.length+1 from by omega];intro j h1 h2;rw[List.getElem_set_ne (by omega)];exact zo j (by simpa using h1) (by omega)
  ·exact row.stop C (zo _ C (qbn _))
 | d+1,k,hk,o,c,lo,to,zo,F,row=>by
  have H:k<ys.length:=by omega
  have C:i+k<o.length:=by omega
  have V:=U ys[k] (qb0 _);have W:=to o[i+k] (qb0 _);have I:=kzl Q V W F;obtain⟨c1,c2⟩:=kbgk W F I;have Z:=Nat.mod_lt (x*ys[k]+o[i+k]+c) (show 0<18446744073709551616 by omega);refine .next ?_ (k1f Q U hn hi K d (k+1) (by omega) (o.set (i+k) ((x*ys[k]+o[i+k]+c)%18446744073709551616)) ((x*ys[k]+o[i+k]+c)/18446744073709551616) (by simpa using lo) (set_lt to Z) (zo.set (by omega)) I (row.step H C (Nat.div_add_mod' _ _).symm))
  ·show khd _ _ _ _ _ _ _ _ _ _ _=_;unfold khd;rw[condT (by rw[qbu];omega),kb4 H,qbr,<- Int.natCast_add,kb0 (by omega),kx C,qbr,ksm Q V];dsimp only;rw[show List.getD o (i+k) 0=o[i+k]from kcb C];have a1:=kgu (x*ys[k]%B) o[i+k] (c:=0) (by omega);have a2:=kgu ((x*ys[k]%B+o[i+k]+0)%18446744073709551616) c (c:=0) (by omega);rw[show((0:Nat):Int)=0 from rfl]at a1 a2;rw[a1,qbr];dsimp only;rw[a2,qbr,qbr];dsimp only;rw[c1,c2,kbm Z,qbr,ko (by omega)]
theorem kyq{xs ys:List Nat}(H:∀x∈xs,x<B)(I:∀y∈ys,y<B)(K:xs.length+ys.length<=8796093022208) :
  ∀(d i:Nat),i+d=xs.length->∀(o:List Nat),o.length=xs.length+ys.length->(∀y∈o,y<B)->Empty o (i+ys.length)->num B o=num B (xs.take i)*num B ys->
   Iter kk2 (.p3 ys o xs (xs.length:Int) (i:Int)) (digs B (num B xs*num B ys))
 | 0,i,F,o,lo,to,zo,e=>by
  have F:i=xs.length:=by omega
  subst F;rw[List.take_length]at e;refine .done ?_;show kil _ _ _ _ _=_;unfold kil;rw[condF (by rw[qbt];omega),e]
 | d+1,i,F,o,lo,to,zo,e=>by
  have C:i<xs.length:=by omega
  refine .next (s':=.p7 ys o (i:Int) (xs[i]:Int) ((0:Nat):Int) xs (xs.length:Int) (i:Int) ys (ys.length:Int) ((0:Nat):Int)) ?_
   (k1f (T:=num B (xs.take i)*num B ys) (H _ (qb0 _)) I K C (λQ U t' V W=>?_) ys.length 0 (by omega) o 0 lo to zo (show 0<18446744073709551616 by omega) (Row.start e))
  ·show kil _ _ _ _ _=_;unfold kil;rw[condT (by rw[qbu];omega),kb4 C,qbr];rfl
  ·refine kyq H I K d (i+1) (by omega) Q U t' V ?_;rw[W,kbfe C rfl]
theorem k68{xs ys:List Nat}(F:∀x∈xs,x<B)(H:∀y∈ys,y<B)(C:xs.length+ys.length<=8796093022208):Iter kk2 (.fn xs ys) (digs B (num B xs*num B ys)):=by
 have z:∀k,Empty (List.replicate (xs.length+ys.length) 0) k:=λk j K _=>by simp
 refine .next (s':=.p3 ys (List.replicate (xs.length+ys.length) 0) xs (xs.length:Int) ((0:Nat):Int)) ?_ (kyq F H C xs.length 0 (by omega) _ (by simp) ?_ (z _) ?_)
 ·show klj _ _=_;unfold klj;rw[<- Int.natCast_add,kb0 (by omega),kdw C,qbr];rfl
 ·intro y I;rw[List.eq_of_mem_replicate I];exact show 0<18446744073709551616 by omega
 ·have:=kgk B [] (xs.length+ys.length)
  simpa[num]using this
theorem kst{h:AH}{s t:Sl}{xs ys:List Nat}(n:Nats h s xs)(m:Nats h t ys)(y:xs.length+ys.length<=8796093022208):∃(s':Sl)(h':AH),go (.fn kc7 [s.v,t.v]) h=some (s'.v,h')/\Nats h' s' (digs B (num B xs*num B ys))/\Grow h h'/\Own h s':=by obtain⟨_,h',e,s',rfl,C,g,o⟩:=kbfb (k68 n.lt m.lt y) n m;exact⟨s',h',e,C,g,o⟩
theorem kgd{n:Nat}(h:n<18446744073709551616):IntKind.wrap .u64 (n:Int)=(n:Int):=by rw[wrapU];omega
end Go.Ab
set_option maxRecDepth 10000
namespace Go.Ab
open IntKind (wrap)
open Go.Proofs Go.Num
inductive kgm
 | fn (x1:List Nat) (x2:List Nat) (a3:Int)
 | p2 (x1:List Nat) (x2:List Nat) (a3:Int) (a4:Int) (a5:Int)
abbrev ke8:=List Nat
noncomputable def kvu(x1 x2:List Nat)(a3:Int):Option (kgm⊕ke8):=some (.inl (.p2 x1 x2 a3 0 a3))
noncomputable def kfx(x1 x2:List Nat)(a3 a4 a5:Int):Option (kgm⊕ke8):=cond (decide (a5<(List.length x1:Int))) (cond (decide ((wrap .i64 (a5-a3))<(List.length x2:Int))) (cond (decide ((wrap .i64 (a5-a3))<(List.length x2:Int))) ((atI x2 (wrap .i64 (a5-a3))).bind λW=>(inI (List.length x1) a5).bind λC=>(add64P (((List.getD x1 C 0:Nat):Int)) ((W:Int)) a4).bind λy=>(inI (List.length x1) a5).bind λF=>(u64P (y.1)).bind λH=>some (.inl (.p2 (List.set x1 F H) x2 a3 (y.2) (wrap .i64 (a5+1))))) ((inI (List.length x1) a5).bind λZ=>(add64P (((List.getD x1 Z 0:Nat):Int)) 0 a4).bind λp10=>(inI (List.length x1) a5).bind λI=>(u64P (p10.1)).bind λK=>some (.inl (.p2 (List.set x1 I K) x2 a3 (p10.2) (wrap .i64 (a5+1)))))) (cond (decide (a4>0)) (cond (decide ((wrap .i64 (a5-a3))<(List.length x2:Int))) ((atI x2 (wrap .i64 (a5-a3))).bind λQ=>(inI (List.length x1) a5).bind λI=>(add64P (((List.getD x1 I 0:Nat):Int)) ((Q:Int)) a4).bind λp12=>(inI (List.length x1) a5).bind λU=>(u64P (p12.1)).bind λV=>some (.inl (.p2 (List.set x1 U V) x2 a3 (p12.2) (wrap .i64 (a5+1))))) ((inI (List.length x1) a5).bind λC=>(add64P (((List.getD x1 C 0:Nat):Int)) 0 a4).bind λy=>(inI (List.length x1) a5).bind λF=>(u64P (y.1)).bind λH=>some (.inl (.p2 (List.set x1 F H) x2 a3 (y.2) (wrap .i64 (a5+1)))))) (some (.inr x1)))) (some (.inr x1))
noncomputable def krb:kgm->Option (kgm⊕ke8)
 | .fn x1 x2 a3=>kvu x1 x2 a3
 | .p2 x1 x2 a3 a4 a5=>kfx x1 x2 a3 a4 a5
@[reducible] def kwo(h0:AH)(a:Sl)(i:Nat)(r:ke8)(v:AV)(h':AH):Prop:=v=.tup []/\Vec h' a i r/\Upd h0 h' i
def kmw(r:ke8):kgm->Prop
 | .fn x1 x2 a3=>∀{h:AH}{a1:Sl}{a2:Sl}{y:Nat},Vec h a1 y x1->Nats h a2 x2->Av a2 y x2->Runs (go (.fn kd0 [a1.v,a2.v,.i a3]) h) (kwo h a1 y r)
 | .p2 x1 x2 a3 a4 a5=>∀{h0 h:AH}{a1:Sl}{a2:Sl}{y:Nat},Upd h0 h y->Vec h a1 y x1->Nats h a2 x2->Av a2 y x2->Runs (go (.pt kd0 kh8 [(0,a1.v),(1,a2.v),(2,.i a3),(6,.int .u64 a4),(7,.i a5)]) h) (kwo h0 a1 y r)
theorem k5d{r:ke8}{o:kgm⊕ke8}{x1 x2:List Nat}{a3:Int}(e:kvu x1 x2 a3=some o)(C:GoodS (kmw r) r o):kmw r (.fn x1 x2 a3):=by intro h a1 a2 H F n2 y;rw[kbbf];unfold kvu at e;cases e;exact C ((qk _).toUpd _) F n2 y
theorem kbk0{r:ke8}{o:kgm⊕ke8}{x1 x2:List Nat}{a3 a4 a5:Int}(e:kfx x1 x2 a3 a4 a5=some o)(C:GoodS (kmw r) r o):kmw r (.p2 x1 x2 a3 a4 a5):=by
 intro h0 h a1 a2 i1 g0 F n2 y;rw[kbh2];unfold kfx at e;rw[F.nats.len];rw[n2.len];refine qba (λk6=>?_) (λk6=>?_)
 ·replace e:=(condT k6).symm.trans e;refine qba (λk7=>?_) (λk7=>?_)
  ·replace e:=(condT k7).symm.trans e;refine qba (λV=>?_) (λV=>?_)
   ·replace e:=(condT V).symm.trans e;obtain⟨y9,q9,e⟩:=qbs.1 e;obtain⟨r9,j9,l9⟩:=n2.atI q9;refine qw j9 (qw (rdc l9 qcl) ?_);obtain⟨W,H,e⟩:=qbs.1 e;refine qw (F.idx rfl H) (qw (F.rd rfl H qcl) ?_);obtain⟨ah,I,e⟩:=qbs.1 e;refine qw (ke2 I) (qw rfl (qw (seen qcl) (qw (seen qcl) ?_)));obtain⟨ai,K,e⟩:=qbs.1 e;refine qw (F.idx rfl K) ?_;obtain⟨aj,Z,e⟩:=qbs.1 e;refine qbf F rfl K Z λak aa U=>?_;have Q:=n2.upda y U;cases e;exact C (g0.trans U) aa Q y
   ·replace e:=(condF V).symm.trans e;obtain⟨j9,q9,e⟩:=qbs.1 e;refine qw (F.idx rfl q9) (qw (F.rd rfl q9 qcl) ?_);obtain⟨p10,H,e⟩:=qbs.1 e;refine qw (ke2 H) (qw rfl (qw (seen qcl) (qw (seen qcl) ?_)));obtain⟨al,I,e⟩:=qbs.1 e;refine qw (F.idx rfl I) ?_;obtain⟨au,am,e⟩:=qbs.1 e;refine qbf F rfl I am λaw an ae=>?_;have ac:=n2.upda y ae;cases e;exact C (g0.trans ae) an ac y
  ·replace e:=(condF k7).symm.trans e;refine qba (λV=>?_) (λV=>?_)
   ·replace e:=(condT V).symm.trans e;refine qba (λk9=>?_) (λk9=>?_)
    ·replace e:=(condT k9).symm.trans e;obtain⟨ax,H,e⟩:=qbs.1 e;obtain⟨ay,W,ap⟩:=n2.atI H;refine qw W (qw (rdc ap qcl) ?_);obtain⟨al,I,e⟩:=qbs.1 e;refine qw (F.idx rfl I) (qw (F.rd rfl I qcl) ?_);obtain⟨p12,K,e⟩:=qbs.1 e;refine qw (ke2 K) (qw rfl (qw (seen qcl) (qw (seen qcl) ?_)));obtain⟨az,af,e⟩:=qbs.1 e;refine qw (F.idx rfl af) ?_;obtain⟨a0,aq,e⟩:=qbs.1 e;refine qbf F rfl af aq λba ar ag=>?_;have ad:=n2.upda y ag;cases e;exact C (g0.trans ag) ar ad y
    ·replace e:=(condF k9).symm.trans e;obtain⟨W,H,e⟩:=qbs.1 e;refine qw (F.idx rfl H) (qw (F.rd rfl H qcl) ?_);obtain⟨ah,I,e⟩:=qbs.1 e;refine qw (ke2 I) (qw rfl (qw (seen qcl) (qw (seen qcl) ?_)));obtain⟨ai,K,e⟩:=qbs.1 e;refine qw (F.idx rfl K) ?_;obtain⟨aj,Z,e⟩:=qbs.1 e;refine qbf F rfl K Z λak aa U=>?_;have Q:=n2.upda y U;cases e;exact C (g0.trans U) aa Q y
   ·replace e:=(condF V).symm.trans e;cases e;cases C;exact qu ⟨rfl,F,g0⟩
 ·replace e:=(condF k6).symm.trans e;cases e;cases C;exact qu ⟨rfl,F,g0⟩
theorem kbim{s:kgm}{r:ke8}(C:Iter krb s r):kmw r s:=qbe (λs o e y=>by
 cases s with
 | fn x1 x2 a3=>exact @k5d _ _ x1 x2 a3 e y
 | p2 x1 x2 a3 a4 a5=>exact @kbk0 _ _ x1 x2 a3 a4 a5 e y
 ) C
end Go.Ab
set_option maxRecDepth 10000
namespace Go.Ab
open Go.Proofs Go.Num
theorem kee{xs:List Nat}{i:Nat}(h:i<xs.length):List.getD xs i 0=xs[i]:=kcb h
theorem kbgx{o xs:List Nat}{at' i c:Nat}(K:o.length<=4611686018427387904)(Q:xs.length<=4611686018427387904)(y:i<o.length)(U:at'<=i)(C:c<=1)(hs:i-at'<xs.length\/0<c) :
  krb (.p2 o xs (at':Int) (c:Int) (i:Int))=some (.inl (.p2 (o.set i ((xs.getD (i-at') 0+o[i]+c)%18446744073709551616)) xs (at':Int) (((xs.getD (i-at') 0+o[i]+c)/18446744073709551616:Nat):Int) ((i+1:Nat):Int))):=by
 show kfx _ _ _ _ _=_;unfold kfx;have H:IntKind.wrap .i64 ((i:Int)-(at':Int))=((i-at':Nat):Int):=by rw[wrap64 (by omega) (by omega)];omega
 have F:∀n:Nat,n%18446744073709551616<18446744073709551616:=λn=>Nat.mod_lt n (by omega);rw[condT (by rw[qbu];omega),H];by_cases hk:i-at'<xs.length
 ·have a1:=kgu o[i] xs[i-at'] C;rw[condT (by rw[qbu];omega),condT (by rw[qbu];omega),kb4 hk,qbr,kx y,qbr,kee y,a1,qbr,qbr];dsimp only;rw[kbm (F _),qbr,ko (by omega),kee hk,Nat.add_comm o[i]]
 ·have I:0<c:=by omega
  have a1:=kgu o[i] 0 C;rw[show((0:Nat):Int)=0 from rfl]at a1;rw[condF (by rw[qbt];omega),condT (by rw[qbu];omega),condF (by rw[qbt];omega),kx y,qbr,kee y,a1,qbr,qbr];dsimp only;rw[kbm (F _),qbr,ko (by omega),show xs.getD (i-at') 0=0 from by simp[List.getD,List.getElem?_eq_none (Nat.le_of_not_lt hk)]];rw[Nat.add_comm o[i]]
theorem k21{xs:List Nat}{at' T:Nat}(U:∀x∈xs,x<B)(V:xs.length<=4611686018427387904) :
  ∀(d i:Nat)(o:List Nat)(c:Nat),i+d=o.length->at'<=i->o.length<=4611686018427387904->(∀y∈o,y<B)->c<=1->num B o+c*B^i=T+B^at'*num B (xs.take (i-at'))->T+B^at'*num B xs<B^o.length->
   ∃r,Iter krb (.p2 o xs (at':Int) (c:Int) (i:Int)) r/\r.length=o.length/\(∀y∈r,y<B)/\num B r=T+B^at'*num B xs
 | 0,i,o,c,K,F,Q,to,W,inv,bound=>by
  have K:i=o.length:=by omega
  subst K
  have H:num B xs=num B (xs.take (o.length-at'))+B^(xs.take (o.length-at')).length*num B (xs.drop (o.length-at')):=by rw[<- kfh,List.take_append_drop]
  have C:c=0:=by
   rcases Nat.eq_zero_or_pos c with e | e
   ·exact e
   ·have:c=1:=by omega
    subst this;have:B^at'*num B (xs.take (o.length-at'))<=B^at'*num B xs:=Nat.mul_le_mul_left _ (by omega);omega
  subst C
  have Z:num B (xs.take (o.length-at'))=num B xs:=by
   by_cases hl:xs.length<=o.length-at'
   ·rw[List.take_of_length_le hl]
   ·rw[qcc,Nat.min_eq_left (by omega)]at H;rw[H];rcases Nat.eq_zero_or_pos (num B (xs.drop (o.length-at')))with e | e
    ·rw[e];omega
    ·exfalso
     have I:B^(o.length-at')<=num B xs:=by have:B^(o.length-at')*1<=B^(o.length-at')*num B (xs.drop (o.length-at')):=Nat.mul_le_mul_left _ e;omega
     have h2:B^at'*B^(o.length-at')<=B^at'*num B xs:=Nat.mul_le_mul_left _ I;rw[<- Nat.pow_add,show at'+(o.length-at')=o.length from by omega]at h2;omega
  refine⟨o,.done ?_,rfl,to,?_⟩
  ·show kfx _ _ _ _ _=_;unfold kfx;rw[condF (by rw[qbt];omega)]
  ·rw[<- Z];omega
 | d+1,i,o,c,K,F,Q,to,W,inv,bound=>by
  have I:i<o.length:=by omega
  by_cases hs:i-at'<xs.length\/0<c
  ·have hm:=Nat.mod_lt (xs.getD (i-at') 0+o[i]+c) (show 0<18446744073709551616 by omega)
   have hy:xs.getD (i-at') 0<18446744073709551616:=by
    by_cases hk:i-at'<xs.length
    ·rw[kee hk];exact U _ (qb0 _)
    ·rw[show xs.getD (i-at') 0=0 from by simp[List.getD,List.getElem?_eq_none (Nat.le_of_not_lt hk)]];omega
   have aa:o[i]<18446744073709551616:=to _ (qb0 _)
   obtain⟨r,it,r1,r2,r3⟩:=k21 (T:=T) (at':=at') U V d (i+1) (o.set i ((xs.getD (i-at') 0+o[i]+c)%18446744073709551616)) ((xs.getD (i-at') 0+o[i]+c)/18446744073709551616) (by simp;omega) (by omega) (by simpa using Q) (set_lt to hm) (by omega) (by have k1:=ki8 (b:=B) I ((xs.getD (i-at') 0+o[i]+c)%18446744073709551616);have k2:=kwi k1 (Nat.div_add_mod' (xs.getD (i-at') 0+o[i]+c) 18446744073709551616).symm inv;rw[Nat.pow_succ,k2,show i+1-at'=i-at'+1 from by omega,kmr,Nat.mul_add,<- Nat.mul_assoc,<- Nat.pow_add,show at'+(i-at')=i from by omega];omega) (by simpa using bound)
   exact⟨r,.next (kbgx Q V I F W hs) it,by simpa using r1,r2,r3⟩
  ·have C:c=0:=by omega
   subst C;rw[List.take_of_length_le (by omega)]at inv;refine⟨o,.done ?_,rfl,to,by omega⟩;show kfx _ _ _ _ _=_;unfold kfx;have e0:IntKind.wrap .i64 ((i:Int)-(at':Int))=((i-at':Nat):Int):=by rw[wrap64 (by omega) (by omega)];omega
   rw[condT (by rw[qbu];omega),e0,condF (by rw[qbt];omega),condF (by rw[qbt];omega)]
theorem kyt{h:AH}{s t:Sl}{i:Nat}{o xs:List Nat}(v:Vec h s i o)(m:Nats h t xs)(av:Av t i xs){at':Nat}(y:at'<=o.length)(C:o.length<=4611686018427387904)(F:xs.length<=4611686018427387904)(bound:num B o+B^at'*num B xs<B^o.length) :
  ∃(h':AH)(r:List Nat),go (.fn kd0 [s.v,t.v,.i (at':Int)]) h=some (.tup [],h')/\Vec h' s i r/\Upd h h' i/\r.length=o.length/\num B r=num B o+B^at'*num B xs:=by
 obtain⟨r,H,r1,r2,I⟩:=k21 (T:=num B o) (at':=at') m.lt F (o.length-at') at' o 0 (by omega) (qbn _) C v.lt (by omega) (by simp[num]) bound;obtain⟨_,h',e,rfl,v',u⟩:=kbim (.next (s:=.fn o xs (at':Int)) rfl H) v m av;exact⟨h',r,e,v',u,r1,I⟩
@[reducible] def ktz(p:Ref):AV:=.func (.func kk7) [] [.ptr (some p)]
theorem kqn(p:Ref)(x y:AV)(h:AH):callV Pg go (ktz p) [x,y] h=go (.fn kk7 [x,y,.ptr (some p)]) h:=by kernel_rfl
theorem Grow.same_cell{h h':AH}(g:Grow h h'){p:Ref}{v:AV}(c:h.cell p=some v):SameAt h h' p 1:=⟨λj y=>by
 have:j=0:=by omega
 subst this;rw[Ref.add_zero,c,g.cell_some c],λh=>by cases h⟩
theorem kbai{h:AH}{s d:Sl}{i:Nat}{xs ys:List Nat}(n:Nats h s xs)(v:Vec h d i ys)(H:xs.length<=ys.length):∃h',copyH s d 1 h=some h'/\Vec h' d i (xs++ys.drop xs.length)/\Upd h h' i:=by
 have I:d.ref=some (.new i 0):=by rw[v.is]
 have y:d.len=ys.length:=v.len;have C:=n.cells.gets;unfold copyH;rw[I];cases hs:s.ref with
 | none =>
  have:xs=[]:=by
   cases xs with
   | nil=>rfl
   | cons x xs =>obtain⟨r,e,_⟩:=n.cells.get 0 _ rfl;rw[hs]at e;cases e
  subst this;exact⟨h,rfl,by simpa using v,(qk h).toUpd i⟩
 | some r =>
  rw[hs,n.len]at C;simp only[AH.getsO]at C;dsimp only;rw[n.len,y,Nat.min_eq_left H,C,qbr];obtain⟨e,b⟩:=v.has;rw[b.puts (by simp;omega)]
  have K:(ys.map u64).take 0++xs.map u64++(ys.map u64).drop (0+(xs.map u64).length)=(xs++ys.drop xs.length).map u64:=by simp[List.map_drop]
  rw[K];refine⟨_,rfl,⟨?_,⟨e,qn b _ _⟩,?_,?_⟩,AH.upd_Upd h i _ e⟩
  ·have:(xs++ys.drop xs.length).length=ys.length:=by simp;omega
   rw[this];exact v.is
  ·intro z Q;rcases qb2.1 Q with F | F
   ·exact n.lt z F
   ·exact v.lt z (List.mem_of_mem_drop F)
  ·have:=v.short;simp;omega
theorem kqg{h:AH}{s:Sl}{xs:List Nat}{p:Ref}{k:Nat}(n:Nats h s xs)(c:h.cell p=some (.i (k:Int))):∃s',go (.fn kjj [s.v,.ptr (some p)]) h=some (s'.v,h)/\Nats h s' (digs B (num B (xs.take (min k xs.length)))):=by rw[k5l,c,qbr,kc,qbr,k26,n.len];obtain⟨s1,y,n1,_⟩:=n.cut (l:=0) (n:=min k xs.length) (by omega) (by omega);rw[show min (k:Int) (xs.length:Int)=((min k xs.length:Nat):Int)from by omega,show(0:Int)=((0:Nat):Int)from rfl,y,qbr];obtain⟨s2,C,n2,_⟩:=kdo n1;rw[C,qbr,qbr,asSl_v,qbr];exact⟨s2,rfl,by simpa using n2⟩
theorem kq9{h:AH}{s:Sl}{xs:List Nat}{p:Ref}{k:Nat}(n:Nats h s xs)(c:h.cell p=some (.i (k:Int))):∃s',go (.fn kjq [s.v,.ptr (some p)]) h=some (s'.v,h)/\Nats h s' (xs.drop (min k xs.length)):=by rw[k6z,c,qbr,kc,qbr,k26,n.len];obtain⟨s1,y,n1,_⟩:=n.cut (l:=min k xs.length) (n:=xs.length) (by omega) (by omega);rw[show min (k:Int) (xs.length:Int)=((min k xs.length:Nat):Int)from by omega,y,qbr];refine⟨s1,rfl,?_⟩;rwa[List.take_of_length_le (by simp)]at n1
end Go.Ab
set_option maxRecDepth 10000
namespace Go.Ab
open IntKind (wrap)
open Go.Proofs Go.Num
theorem B1:1<=B:=by decide
theorem k3w(b:Nat)(xs:List Nat)(n:Nat):num b xs=num b (xs.take (min n xs.length))+b^n*num b (xs.drop (min n xs.length)):=by
 have e:num b xs=num b (xs.take (min n xs.length)++xs.drop (min n xs.length)):=by rw[List.take_append_drop]
 rw[kfh,qcc]at e;by_cases h:n<=xs.length
 ·rw[e,show min (min n xs.length) xs.length=n from by omega]
 ·have:xs.drop (min n xs.length)=[]:=List.drop_of_length_le (by omega);rw[this]at e|-
  simpa[num]using e
theorem kql{a c:Nat}(h:a<=c):(digs B a).length<=(digs B c).length:=by rw[kbg B2];exact qbq h ((kbg B2 c _).1 (qbn _))
theorem kl6{xs:List Nat}(h:∀x∈xs,x<B):(digs B (num B xs)).length<=xs.length:=by rw[kbg B2];exact num_lt B1 h
theorem k8z(P F y bl C:Nat):(F+P*y)*(bl+P*C)=F*bl+P*((F+y)*(bl+C)-F*bl-y*C)+P*P*(y*C):=by
 have e:(F+y)*(bl+C)-F*bl-y*C=F*C+y*bl:=by rw[Nat.add_mul,Nat.mul_add,Nat.mul_add];omega
 rw[e,Nat.add_mul,Nat.mul_add,Nat.mul_add,Nat.mul_add];have H:F*(P*C)=P*(F*C):=Nat.mul_left_comm _ _ _;have I:P*y*bl=P*(y*bl):=Nat.mul_assoc _ _ _;have e3:P*y*(P*C)=P*P*(y*C):=Nat.mul_mul_mul_comm _ _ _ _;rw[H,I,e3];omega
set_option maxHeartbeats 2000000 in
theorem koy:∀(N:Nat){h:AH}{s t:Sl}{xs ys:List Nat}{p:Ref},xs.length+ys.length<N->N<=268435456->Nats h s xs->Nats h t ys->h.cell p=some (ktz p)->
  Runs (go (.fn kk7 [s.v,t.v,.ptr (some p)]) h) λv h'=>∃s':Sl,v=s'.v/\Nats h' s' (digs B (num B xs*num B ys))/\Grow h h'/\Own h s'
 | 0,_,_,_,_,_,_,hN,_,_,_,_=>by omega
 | N+1,h,s,t,xs,ys,p,hN,hM,ns,nt,c=>by
  rw[kbgc,ns.len,nt.len];refine qba (λk1=>?_) (λk1=>?_)
  ·obtain⟨s4,h4,e4,n4,g4,o4⟩:=kst ns nt (by omega);refine qw e4 (qw (seen qck) ?_);exact qu ⟨s4,rfl,n4,g4,o4⟩
  refine qba (λk2=>?_) (λk2=>?_)
  ·obtain⟨s4,h4,e4,n4,g4,o4⟩:=kst ns nt (by omega);refine qw e4 (qw (seen qck) ?_);exact qu ⟨s4,rfl,n4,g4,o4⟩
  rw[qbt]at k1 k2;obtain⟨n,hn⟩:∃n,n=(max xs.length ys.length+1)/2:=⟨_,rfl⟩
  have hw:wrap .i64 (Int.tdiv (wrap .i64 ((imax (xs.length:Int) (ys.length:Int))+1)) 2)=(n:Int):=by rw[ky7,show max (xs.length:Int) (ys.length:Int)=((max xs.length ys.length:Nat):Int)from by omega,ko (by omega)];show wrap .i64 (((max xs.length ys.length+1)/2:Nat):Int)=_;rw[<- hn,kb0 (by omega)]
  rw[hw];have dj:(xs.take (min n xs.length)).length=min n xs.length:=by simp
  have dk:(ys.take (min n ys.length)).length=min n ys.length:=by simp
  have bz:∀x∈xs.take (min n xs.length),x<B:=λx hx=>ns.lt x (List.mem_of_mem_take hx);have b0:∀x∈ys.take (min n ys.length),x<B:=λx hx=>nt.lt x (List.mem_of_mem_take hx);have b5:∀x∈xs.drop (min n xs.length),x<B:=λx hx=>ns.lt x (List.mem_of_mem_drop hx);have b6:∀x∈ys.drop (min n ys.length),x<B:=λx hx=>nt.lt x (List.mem_of_mem_drop hx);have dl:(xs.drop (min n xs.length)).length=xs.length-min n xs.length:=by simp
  have dm:(ys.drop (min n ys.length)).length=ys.length-min n ys.length:=by simp
  have da:=kl6 bz;have db:=kl6 b0;have dn:=kl6 b5;have dp:=kl6 b6;have ea:=k3w B xs n;have eb:=k3w B ys n;generalize aw:num B (xs.take (min n xs.length))=al at *
  generalize ax:num B (xs.drop (min n xs.length))=ah at *
  generalize ay:num B (ys.take (min n ys.length))=bl at *
  generalize az:num B (ys.drop (min n ys.length))=bh at *
  refine qx λH8 b8 g8=>?_;refine qy b8 rfl λH9 b9 u9=>?_;have gA:=g8.updr (qbn _) u9;have U:=gA.cell_some c;have k9:H9.cell (.new h.blks.size 0)=some (.i (n:Int)):=b9.cell 0;have V:=ns.grow gA;have W:=nt.grow gA;refine qw U (qw U ?_);obtain⟨dq,b7,a0⟩:=kqg V k9;obtain⟨dr,ca,ba⟩:=kqg W k9;rw[aw]at a0;rw[ay]at ba;refine qw b7 (qw (seen qck) ?_);refine qbb ((qk _).same_cell U) ?_;refine qbb ((qk _).same_cell U) ?_;refine qw ca (qw (seen qck) ?_);refine qbb ((qk _).same_cell U) ?_;refine qbb ((qk _).same_cell U) ?_;obtain⟨_,dt,cb,du,rfl,af,y,dv⟩:=koy N (by omega) (by omega) a0 ba U;rw[kg B2,kg B2]at af;refine qw ((kqn p _ _ _).trans cb) (qw (seen qck) ?_);refine qbb (y.same_cell U) ?_;have Z:=y.cell_some U;have ag:=y.cell_some k9;obtain⟨dw,cc,cd⟩:=kq9 (V.grow y) ag;obtain⟨dx,ce,cf⟩:=kq9 (W.grow y) ag;refine qw cc (qw (seen qck) ?_);refine qbb ((qk _).same_cell Z) ?_;refine qw ce (qw (seen qck) ?_);refine qbb ((qk _).same_cell Z) ?_;obtain⟨_,dy,ch,dz,rfl,ai,aa,d0⟩:=koy N (by omega) (by omega) cd cf Z;rw[ax,az]at ai;refine qw ((kqn p _ _ _).trans ch) (qw (seen qck) ?_);have H:=aa.cell_some Z;have aj:=aa.cell_some ag;have gB:=y.trans aa;refine qw H ?_;obtain⟨d1,ci,bb⟩:=kqg (V.grow gB) aj;obtain⟨d2,cj,ck⟩:=kq9 (V.grow gB) aj;rw[aw]at bb;refine qw ci (qw (seen qck) ?_);refine qbb ((qk _).same_cell H) ?_;refine qw cj (qw (seen qck) ?_);refine qbb ((qk _).same_cell H) ?_;obtain⟨d3,d4,zs,cl,cm,C,d5,bc,d6⟩:=kt1 bb ck (by omega) (by omega);rw[kg B2,ax]at bc;refine qw cl (qw (seen qck) ?_);refine qbb (C.same_cell H) ?_;have I:=C.cell_some H;have ak:=C.cell_some aj;obtain⟨d7,cn,bd,_⟩:=kdo cm;rw[bc]at bd;refine qw cn (qw (seen qck) ?_);refine qbb ((qk _).same_cell I) ?_;obtain⟨d8,cp,be⟩:=kqg (W.grow (gB.trans C)) ak;obtain⟨d9,cq,cr⟩:=kq9 (W.grow (gB.trans C)) ak;rw[ay]at be;refine qw cp (qw (seen qck) ?_);refine qbb ((qk _).same_cell I) ?_;refine qw cq (qw (seen qck) ?_);refine qbb ((qk _).same_cell I) ?_;obtain⟨ec,ed,ws,ct,cu,F,ee,bf,ef⟩:=kt1 be cr (by omega) (by omega);rw[kg B2,az]at bf;refine qw ct (qw (seen qck) ?_);refine qbb (F.same_cell I) ?_;have bg:=F.cell_some I;have eg:=F.cell_some ak;obtain⟨eh,cv,bi,_⟩:=kdo cu;rw[bf]at bi;refine qw cv (qw (seen qck) ?_);refine qbb ((qk _).same_cell bg) ?_;have q1:=k3f B2 al ah;have q2:=k3f B2 bl bh;obtain⟨_,ei,cw,ej,rfl,bj,bk,ek⟩:=koy N (by omega) (by omega) (bd.grow F) bi bg;rw[kg B2,kg B2]at bj;refine qw ((kqn p _ _ _).trans cw) (qw (seen qck) ?_)
  have mm:al*bl+ah*bh<=(al+ah)*(bl+bh):=by rw[Nat.add_mul,Nat.mul_add,Nat.mul_add];omega
  have gC:=aa.trans (C.trans (F.trans bk))
  have lm:(digs B ((al+ah)*(bl+bh))).length<=2*n+2:=by rw[kbg B2];have h1:=(kbg B2 (al+ah) (n+1)).1 (by omega);have h2:=(kbg B2 (bl+bh) (n+1)).1 (by omega);rw[show 2*n+2=(n+1)+(n+1)from by omega,Nat.pow_add];exact Nat.mul_lt_mul_of_lt_of_lt h1 h2
  obtain⟨el,em,us,cx,cy,am,en,bm,eo⟩:=kqf bj (af.grow gC) (by omega) (kql (by omega)) (by rw[kg B2,kg B2];omega);rw[kg B2,kg B2]at bm;refine qw cx (qw (seen qck) ?_);obtain⟨ep,cz,bn,_⟩:=kdo cy;rw[bm]at bn;refine qw cz (qw (seen qck) ?_);have gD:=(C.trans (F.trans bk)).trans am;have er:=kql (a:=(al+ah)*(bl+bh)-al*bl) (c:=(al+ah)*(bl+bh)) (by omega);obtain⟨et,an,rs,c0,c1,ap,eu,bp,ev⟩:=kqf bn (ai.grow gD) (by omega) (kql (by omega)) (by rw[kg B2,kg B2];omega);rw[kg B2,kg B2]at bp;refine qw c0 (qw (seen qck) ?_);obtain⟨ew,c2,aq,_⟩:=kdo c1;rw[bp]at aq;refine qw c2 (qw (seen qck) ?_);have gE:Grow H9 an:=(y.trans gC).trans (am.trans ap);have bq:=af.grow ((gC.trans am).trans ap);have ad:=ai.grow (gD.trans ap);have br:=gE.has b9
  rw[show wrap .i64 ((wrap .i64 ((xs.length:Int)+(ys.length:Int)))+1)=((xs.length+ys.length+1:Nat):Int)from by rw[<- Int.natCast_add,kb0 (by omega),ko (by omega)]]
  refine Runs.mk (kdw (by omega)) kda λex ey c3 K=>?_;have total:=k8z (B^n) al ah bl bh;rw[<- ea,<- eb]at total;generalize hm:(al+ah)*(bl+bh)-al*bl-ah*bh=m at *
  have lt:num B xs*num B ys<B^(xs.length+ys.length):=by rw[Nat.pow_add];exact Nat.mul_lt_mul_of_lt_of_lt (num_lt B1 ns.lt) (num_lt B1 nt.lt)
  have ez:num B xs*num B ys<B^(xs.length+ys.length+1):=qbp lt (Nat.pow_le_pow_right B1 (by omega))
  have lp:(digs B (al*bl)).length<=xs.length+ys.length:=by rw[kbg B2];omega
  obtain⟨e0,c4,c5,ac⟩:=kbai (bq.grow K) c3 (by simp;omega);refine qw c4 ?_;have c6:=br.lt;have ne:h.blks.size≠an.blks.size:=Nat.ne_of_lt c6;have bt:=qr (K.has br) ne ac;refine qw (qbd bt rfl qcl) ?_;have ae:=qbg aq (qbn _);have Q:=qbg ad (qbn _)
  have w0:num B (digs B (al*bl)++(List.replicate (xs.length+ys.length+1) 0).drop (digs B (al*bl)).length)=al*bl:=by rw[List.drop_replicate,kgk,kg B2]
  have bu:(digs B (al*bl)++(List.replicate (xs.length+ys.length+1) 0).drop (digs B (al*bl)).length).length=xs.length+ys.length+1:=by simp;omega
  generalize digs B (al*bl)++(List.replicate (xs.length+ys.length+1) 0).drop (digs B (al*bl)).length=o0 at *
  have e1:=kql (a:=m) (c:=(al+ah)*(bl+bh)) (by omega);obtain⟨e2,o1,c7,c8,ar,dc,au⟩:=kyt c5 ((aq.grow K).upda ae ac) ae (at':=n) (by omega) (by omega) (by omega) (by rw[w0,kg B2,bu];omega);refine qw c7 (qw rfl ?_);have dd:=qr bt ne ar;refine qw (qbd dd rfl qcl) ?_;rw[show wrap .i64 (2*(n:Int))=((2*n:Nat):Int)from by rw[wrap64 (by omega) (by omega)];omega];have pp:B^(2*n)=B^n*B^n:=by rw[<- Nat.pow_add];congr 1;omega
  have lq:(digs B (ah*bh)).length<=xs.length+ys.length:=by rw[kbg B2];have:1*(ah*bh)<=B^n*B^n*(ah*bh):=Nat.mul_le_mul_right _ (Nat.mul_pos (Nat.pow_pos B1) (Nat.pow_pos B1));omega
  rw[w0,kg B2]at au;obtain⟨e3,o2,de,bv,df,e5,bw⟩:=kyt c8 (((ad.grow K).upda Q ac).upda Q ar) Q (at':=2*n) (by omega) (by omega) (by omega) (by rw[au,kg B2,dc,bu,pp];omega);rw[kg B2,au,pp,<- total]at bw;refine qw de (qw rfl ?_);obtain⟨dg,dh,bx,di⟩:=kdo bv.nats;rw[bw]at bx;refine qw dh (qw (seen qck) ?_);have gF:Grow h an:=gA.trans gE;refine qu ⟨dg,rfl,bx,(((gF.trans K).updr gF.size ac).updr gF.size ar).updr gF.size df,di _ (bv.own gF.size)⟩
end Go.Ab
set_option maxRecDepth 10000
namespace Go.Ab
open Go.Proofs Go.Num
theorem kba4{h:AH}{s t:Sl}{xs ys:List Nat}(n:Nats h s xs)(m:Nats h t ys)(F:xs.length+ys.length<268435456):∃(s':Sl)(h':AH),go (.fn kny [s.v,t.v]) h=some (s'.v,h')/\Nats h' s' (digs B (num B xs*num B ys))/\Grow h h'/\Own h s':=by
 have key:Runs (go (.fn kny [s.v,t.v]) h) λv h'=>∃s':Sl,v=s'.v/\Nats h' s' (digs B (num B xs*num B ys))/\Grow h h'/\Own h s':=by rw[kbd0];refine qx λH3 b3 H=>?_;refine qy b3 rfl λI b4 K=>?_;have y:=H.updr (qbn _) K;have C:I.cell (.new h.blks.size 0)=some (ktz (.new h.blks.size 0)):=b4.cell 0;refine qw C ?_;obtain⟨_,H6,Q,U,rfl,V,W,Z⟩:=koy 268435456 F (qbn _) (n.grow y) (m.grow y) C;refine qw ((kqn _ _ _ _).trans Q) (qw (seen qck) ?_);exact qu ⟨U,rfl,V,y.trans W,Z.of_le y⟩
 obtain⟨_,h',e,s',rfl,k⟩:=key;exact⟨s',h',e,k⟩
def mulN(xs ys:List Nat):List Nat×Int:=if rt xs=true/\rt ys=true then told (num B xs*num B ys)else([],1)
theorem kd7{h:AH}{s t:Sl}{xs ys:List Nat}(n:Nats h s xs)(m:Nats h t ys):∃(s':Sl)(h':AH),go (.fn kc3 [s.v,t.v]) h=some (.tup [s'.v,.i (mulN xs ys).2],h')/\Nats h' s' (mulN xs ys).1/\Grow h h'/\Own h s':=by
 rw[k4o];simp only[kcy];have r:=Rows.two n m;have g:=ql h (.cells [s.v,t.v] kr);generalize h.push (.cells [s.v,t.v] kr)=h0 at *
 rw[klg r];simp only[qbr,kcl,List.all_cons,List.all_nil,Bool.and_true];cases y:rt xs with
 | false=>exact⟨⟨none,0,.is 0⟩,h0,by simp[mulN,y],by simpa[mulN,y]using qq h0,g,qp h⟩
 | true =>
  cases C:rt ys with
  | false=>exact⟨⟨none,0,.is 0⟩,h0,by simp[mulN,y,C],by simpa[mulN,y,C]using qq h0,g,qp h⟩
  | true =>simp only[Bool.and_self,Bool.not_true,cond_false];have V:=(rt_iff.1 y).1;have W:=(rt_iff.1 C).1;rw[show mulN xs ys=told (num B xs*num B ys)from by simp[mulN,y,C]];obtain⟨s1,H,I,n1,K,Q⟩:=kba4 (n.grow g) (m.grow g) (by omega);obtain⟨s2,F,n2,U⟩:=kl5 n1;rw[kg B2]at F n2;refine⟨s2,H,?_,n2,g.trans K,U _ (Q.of_le g)⟩;simp only[I,F,qbr,asSl_v,kf0,kc]
def kv(a1:Bool)(x2:List Nat)(a3:Bool)(x4:List Nat):Bool×List Nat×Int:=cond (!((rtI a1 x2&&rtI a3 x4))) ((false,[],1)) (((((fromI (!(a1==a3)) ((mulN x2 x4).1)).1)),(fromI (!(a1==a3)) ((mulN x2 x4).1)).2,((mulN x2 x4).2)))
theorem kmq{h:AH}{a2:Sl}{x2:List Nat}{a4:Sl}{x4:List Nat}(n2:Nats h a2 x2)(n4:Nats h a4 x4)(a1 a3:Bool):Runs (go (.fn kg5 [.agg [.bool a1,a2.v],.agg [.bool a3,a4.v]]) h) λv h'=>∃s1:Sl,v=.tup [.agg [.bool (kv a1 x2 a3 x4).1,s1.v],.i (kv a1 x2 a3 x4).2.2]/\Nats h' s1 ((kv a1 x2 a3 x4).2.1)/\Grow h h'/\Own h s1:=by
 rw[kbc2];refine qx λH5 b5 K=>?_;refine qx λH6 b6 I=>?_;refine qx λH7 Z y=>?_;refine qw (qbc ((I.trans y).has b5) 0 rfl rfl) (qw (qbc ((I.trans y).has b5) 1 rfl qck) (qw (qbc (y.has b6) 0 rfl rfl) (qw (qbc (y.has b6) 1 rfl qck) ?_)));refine qx λH8 b8 C=>?_;obtain⟨H9,e9,F⟩:=kp3 b8 (n2.grow (((K.trans I).trans y).trans C)) (n4.grow (((K.trans I).trans y).trans C));refine qw e9 (qw (seen rfl) ?_);refine qba (λW=>?_) (λW=>?_)
 ·refine qy ((C.trans F).has Z) rfl λah aa ac=>?_;have ai:=qr (F.has b8) (Nat.ne_of_gt (qbp (Z).lt (qbn _))) ac;refine qw (qbc aa 0 rfl rfl) (qw (qbc aa 1 rfl qck) ?_);have z:kv a1 x2 a3 x4=(false,[],1):=by unfold kv;exact(condT W).trans rfl
  rw[z];exact qu ⟨(⟨none,0,.is 0⟩:Sl),rfl,(qq _),(((((K.trans I).trans y).trans C).trans F).updr (qbo ((K.trans I)).size (qbn _)) ac),(qp _)⟩
 ·refine qw (qbc ((((I.trans y).trans C).trans F).has b5) 1 rfl qck) (qw (qbc (((y.trans C).trans F).has b6) 1 rfl qck) ?_);obtain⟨aq,ah,aj,ad,H,ak⟩:=kd7 (n2.grow ((((K.trans I).trans y).trans C).trans F)) (n4.grow ((((K.trans I).trans y).trans C).trans F));refine qw aj (qw rfl (qw (seen qck) (qw (seen qcl) (qw (qbc (((((I.trans y).trans C).trans F).trans H).has b5) 0 rfl rfl) (qw (qbc ((((y.trans C).trans F).trans H).has b6) 0 rfl rfl) ?_)))));obtain⟨al,ar,am,an,Q,ae⟩:=kbx ad (!(a1==a3));refine qw am (qw rfl ?_);refine qz rfl ?_;refine qw (seenAt rfl rfl) (qw (seenAt rfl qck) ?_);refine qy ((((C.trans F).trans H).trans Q).has Z) rfl λau af U=>?_;have ag:=(ad.grow Q).upda (qbh ak ((C.trans F).has Z).lt) U;have V:=an.upda (qbh ae (((C.trans F).trans H).has Z).lt) U;have ap:=qr (((F.trans H).trans Q).has b8) (Nat.ne_of_gt (qbp (Z).lt (qbn _))) U;refine qw (qbc af 0 rfl rfl) (qw (qbc af 1 rfl qck) ?_);have z:kv a1 x2 a3 x4=((((fromI (!(a1==a3)) ((mulN x2 x4).1)).1)),(fromI (!(a1==a3)) ((mulN x2 x4).1)).2,((mulN x2 x4).2)):=by unfold kv;exact(condF W).trans rfl
  rw[z];exact qu ⟨al,rfl,V,(((((((K.trans I).trans y).trans C).trans F).trans H).trans Q).updr (qbo ((K.trans I)).size (qbn _)) U),(ae.of_le (((((K.trans I).trans y).trans C).trans F).trans H))⟩
end Go.Ab
set_option maxRecDepth 10000
namespace Go.Ab
open IntKind (wrap)
open Go.Proofs Go.Num
def Bl(x n:Nat):Prop:=x<2^n/\(n=0\/2^(n-1)<=x)
def bl(i:Nat):Nat:=if i=0 then 0 else Nat.log2 i+1
theorem k7f:∀i:Nat,i<256->(lit1[i]?).map (·.toNat)=some (bl i):=by decide +kernel
theorem bl_Bl(i:Nat):Bl i (bl i):=by
 unfold bl Bl;by_cases h:i=0
 ·subst h;simp
 ·rw[if_neg h];refine⟨Nat.lt_log2_self,.inr ?_⟩
  simpa using Nat.log2_self_le h
theorem kbfq{i:Nat}(h:i<256):∃b:UInt8,lit1[i]?=some b/\Bl i b.toNat:=by have e:=k7f i h;rw[Option.map_eq_some_iff]at e;obtain⟨b,y,C⟩:=e;exact⟨b,y,by rw[C];exact bl_Bl i⟩
theorem Bl.up{x k n:Nat}(b:Bl (x/2^k) n)(h:0<x/2^k):Bl x (k+n):=by
 obtain⟨y,C⟩:=b;have p:0<2^k:=Nat.pow_pos (by decide);refine⟨?_,.inr ?_⟩
 ·rw[Nat.pow_add,Nat.mul_comm];exact(Nat.div_lt_iff_lt_mul p).1 y
 ·rcases C with rfl | C
  ·rw[Nat.pow_zero]at y;omega
  ·by_cases F:n=0
   ·subst F;rw[Nat.pow_zero]at y;omega
   ·rw[show k+n-1=k+(n-1)from by omega,Nat.pow_add,Nat.mul_comm];exact(Nat.le_div_iff_mul_le p).1 C
theorem Bl.le{x n:Nat}(b:Bl x n){m:Nat}(h:x<2^m):n<=m:=by
 rcases b.2 with C | C
 ·omega
 ·rcases Nat.lt_or_ge m n with y | y
  ·have:2^m<=2^(n-1):=Nat.pow_le_pow_right (by decide) (by omega);omega
  ·exact y
theorem wrap8{n:Nat}(h:n<256):wrap .u8 (n:Int)=(n:Int):=by simp[IntKind.wrap,IntKind.bits,IntKind.signed];omega
theorem kgl{x:Nat}(y:x<256){P:AV->AH->Prop}{h:AH}{K:Int->Int}(H:∀n:Nat,Bl x n->n<=8->P (.i (K (n:Int))) h) :
  Runs (cond (decide (0<=(wrap .u8 (x:Int)))) ((lit1[Int.toNat (wrap .u8 (x:Int))]?).bind λb=>some (.i (K (wrap .i64 (b.toNat:Int))),h)) none) P:=by
 rw[wrap8 y,Int.toNat_natCast];obtain⟨b,F,C⟩:=kbfq y;refine qz (by rw[qbu];omega) ?_;refine qw F ?_;have:=C.le (m:=8) y;rw[kb0 (by omega)];exact qu (H _ C this)
theorem k2s{x:Nat}(hx:x<18446744073709551616){h:AH}:∃n:Nat,go (.fn kfr [.int .u64 (x:Int)]) h=some (.i (n:Int),h)/\Bl x n:=by
 have key:Runs (go (.fn kfr [.int .u64 (x:Int)]) h) λv h'=>∃n:Nat,v=.i (n:Int)/\h'=h/\Bl x n:=by
  rw[kbju];have V:ishr .u64 (x:Int) 32=((x/2^32:Nat):Int):=kb8 x 32;have W:ishr .u64 (x:Int) 16=((x/2^16:Nat):Int):=kb8 x 16;have s8:ishr .u64 (x:Int) 8=((x/2^8:Nat):Int):=kb8 x 8;have F:ishr .u64 ((x/2^32:Nat):Int) 16=((x/2^32/2^16:Nat):Int):=kb8 _ 16;have Q:ishr .u64 ((x/2^32:Nat):Int) 8=((x/2^32/2^8:Nat):Int):=kb8 _ 8;have U:ishr .u64 ((x/2^16:Nat):Int) 8=((x/2^16/2^8:Nat):Int):=kb8 _ 8;have C:ishr .u64 ((x/2^32/2^16:Nat):Int) 8=((x/2^32/2^16/2^8:Nat):Int):=kb8 _ 8;rw[V,F,C,Q,W,U,s8];refine qba (λZ=>?_) (λZ=>?_)
  ·rw[qbu]at Z;refine qba (λH=>?_) (λH=>?_)
   ·rw[qbu]at H;refine qba (λy=>?_) (λy=>?_)
    ·rw[qbu]at y;refine kgl (K:=λn=>wrap .i64 ((wrap .i64 ((wrap .i64 (32+16))+8))+n)) (by omega) λn b I=>⟨32+(16+(8+n)),?_,rfl,((b.up (by omega)).up (by omega)).up (by omega)⟩;rw[show(wrap .i64 ((wrap .i64 (32+16))+8))=56 from by decide,wrap64 (by omega) (by omega)];congr 1;omega
    ·rw[qbt]at y;refine kgl (K:=λn=>wrap .i64 ((wrap .i64 (32+16))+n)) (by omega) λn b I=>⟨32+(16+n),?_,rfl,(b.up (by omega)).up (by omega)⟩;rw[show(wrap .i64 (32+16))=48 from by decide,wrap64 (by omega) (by omega)];congr 1;omega
   ·rw[qbt]at H;refine qba (λy=>?_) (λy=>?_)
    ·rw[qbu]at y;refine kgl (K:=λn=>wrap .i64 ((wrap .i64 (32+8))+n)) (by omega) λn b I=>⟨32+(8+n),?_,rfl,(b.up (by omega)).up (by omega)⟩;rw[show(wrap .i64 (32+8))=40 from by decide,wrap64 (by omega) (by omega)];congr 1;omega
    ·rw[qbt]at y;refine kgl (K:=λn=>wrap .i64 (32+n)) (by omega) λn b I=>⟨32+n,?_,rfl,b.up (by omega)⟩;rw[wrap64 (by omega) (by omega)];congr 1
  ·rw[qbt]at Z;refine qba (λH=>?_) (λH=>?_)
   ·rw[qbu]at H;refine qba (λy=>?_) (λy=>?_)
    ·rw[qbu]at y;refine kgl (K:=λn=>wrap .i64 ((wrap .i64 ((wrap .i64 (0+16))+8))+n)) (by omega) λn b I=>⟨16+(8+n),?_,rfl,(b.up (by omega)).up (by omega)⟩;rw[show(wrap .i64 ((wrap .i64 (0+16))+8))=24 from by decide,wrap64 (by omega) (by omega)];congr 1;omega
    ·rw[qbt]at y;refine kgl (K:=λn=>wrap .i64 ((wrap .i64 (0+16))+n)) (by omega) λn b I=>⟨16+n,?_,rfl,b.up (by omega)⟩;rw[show(wrap .i64 (0+16))=16 from by decide,wrap64 (by omega) (by omega)];congr 1
   ·rw[qbt]at H;refine qba (λy=>?_) (λy=>?_)
    ·rw[qbu]at y;refine kgl (K:=λn=>wrap .i64 ((wrap .i64 (0+8))+n)) (by omega) λn b I=>⟨8+n,?_,rfl,b.up (by omega)⟩;rw[show(wrap .i64 (0+8))=8 from by decide,wrap64 (by omega) (by omega)];congr 1
    ·rw[qbt]at y;refine kgl (K:=λn=>wrap .i64 (0+n)) (by omega) λn b I=>⟨n,?_,rfl,b⟩;rw[wrap64 (by omega) (by omega)];congr 1;omega
 obtain⟨_,_,e,n,rfl,rfl,b⟩:=key;exact⟨n,e,b⟩
end Go.Ab
set_option maxRecDepth 10000
namespace Go.Ab
open Go.Proofs Go.Num
theorem Bl.uniq{x n m:Nat}(a:Bl x n)(b:Bl x m):n=m:=Nat.le_antisymm (a.le b.1) (b.le a.1)
theorem k1y(a:Int){h:AH}(y:0<=a/\a<18446744073709551616):go (.fn kna [.int .u64 a]) h=some (.i ((64-bl a.toNat:Nat):Int),h):=by obtain⟨x,rfl⟩:∃x:Nat,a=(x:Int):=⟨a.toNat,by omega⟩;obtain⟨l,e,b⟩:=k2s (x:=x) (by omega) (h:=h);have C:=b.le (m:=64) (show x<2^64 by omega);have:=b.uniq (bl_Bl x);subst this;rw[k89,e,qbr,qbr,kc,qbr,Int.toNat_natCast,wrap64 (by omega) (by omega)];rw[show(64:Int)-(bl x:Int)=((64-bl x:Nat):Int)from by omega]
theorem kxo{x:Nat}(H:x<18446744073709551616)(h0:0<x):64-bl x<=63/\9223372036854775808<=x*2^(64-bl x)/\x*2^(64-bl x)<18446744073709551616:=by
 have b:=bl_Bl x;generalize bl x=l at b;have I:=b.le (m:=64) (show x<2^64 by omega)
 have F:1<=l:=by
  rcases Nat.eq_zero_or_pos l with e | e
  ·subst e;have:=b.1;rw[Nat.pow_zero]at this;omega
  ·exact e
 refine⟨by omega,?_,?_⟩
 ·rcases b.2 with C | C
  ·omega
  ·have y:2^(l-1)*2^(64-l)<=x*2^(64-l):=Nat.mul_le_mul_right _ C;rw[<- Nat.pow_add,show l-1+(64-l)=63 from by omega]at y;exact y
 ·have y:x*2^(64-l)<2^l*2^(64-l):=Nat.mul_lt_mul_of_pos_right b.1 (Nat.pow_pos (by decide));rw[<- Nat.pow_add,show l+(64-l)=64 from by omega]at y;exact y
theorem ki7(x n:Nat)(y:n<=64):ishl .u64 (x:Int) (n:Int)=((x*2^n%18446744073709551616:Nat):Int):=by
 unfold ishl;rw[Int.toNat_natCast,show IntKind.bits .u64=64 from rfl,Nat.min_eq_left y,wrapU];have:(x:Int)*(2:Int)^n=((x*2^n:Nat):Int):=by simp
 rw[this];rfl
theorem koc{a c s:Nat}(h:a*2^s<18446744073709551616)(C:c<2^s)(hs:s<=64):ior .u64 ((a*2^s:Nat):Int) (c:Int)=((a*2^s+c:Nat):Int):=by
 have p:0<2^s:=Nat.pow_pos (by decide);have y:c<18446744073709551616:=show c<2^64 from qbp C (Nat.pow_le_pow_right (by decide) hs)
 have F:a*2^s+c<18446744073709551616:=by
  have e:2^(64-s)*2^s=18446744073709551616:=by rw[<- Nat.pow_add,show 64-s+s=64 from by omega]
  have H:a<2^(64-s):=Nat.lt_of_mul_lt_mul_right (a:=2^s) (by rw[e];exact h);have I:(a+1)*2^s<=2^(64-s)*2^s:=Nat.mul_le_mul_right _ H;rw[e,Nat.add_mul,Nat.one_mul]at I;omega
 unfold ior;rw[show IntKind.bits .u64=64 from rfl,wrapU];have K:BitVec.ofInt 64 ((a*2^s:Nat):Int)=BitVec.ofNat 64 (a*2^s):=rfl;have Q:BitVec.ofInt 64 (c:Int)=BitVec.ofNat 64 c:=rfl;have e3:=Nat.shiftLeft_add_eq_or_of_lt C a;rw[Nat.shiftLeft_eq]at e3;rw[K,Q,BitVec.toNat_or,BitVec.toNat_ofNat,BitVec.toNat_ofNat,Nat.mod_eq_of_lt (show a*2^s<2^64 from h),Nat.mod_eq_of_lt (show c<2^64 from y),<- e3];omega
end Go.Ab
set_option maxRecDepth 10000
namespace Go.Ab
open IntKind (wrap)
open Go.Proofs Go.Num
inductive kcp
 | fn (a1:Int) (a2:Int) (a3:Int)
 | p3 (a1:Int) (a2:Int) (a3:Int)
 | p17 (a1:Int) (a2:Int) (a3:Int) (a4:Int) (a5:Int) (a6:Int) (a7:Int) (a8:Int) (a9:Int)
 | p24 (a1:Int) (a2:Int) (a3:Int) (a4:Int) (a5:Int) (a6:Int) (a7:Int) (a8:Int) (a9:Int)
abbrev kb2:=Int×Int
noncomputable def km9(a1 a2 a3:Int):Option (kcp⊕kb2):=cond (decide (a3=0)) (none) (some (.inl (.p3 a1 a2 a3)))
noncomputable def ki2(a1 a2 a3:Int):Option (kcp⊕kb2):=cond (decide (a3<=a1)) (none) (cond (decide (a1=0)) (cond (decide (a3=0)) (none) (cond (decide (a3=0)) (none) (some (.inr (wrap .u64 (Int.tdiv a2 a3),Int.tmod a2 a3))))) ((need (0<=a3/\a3<18446744073709551616)).bind λy=>cond (decide ((wrap .u64 (((64-bl (Int.toNat a3):Nat):Int)))<0)) (none) (cond (decide ((wrap .u64 (((64-bl (Int.toNat a3):Nat):Int)))<0)) (none) (cond (decide ((wrap .u64 (64-(wrap .u64 (((64-bl (Int.toNat a3):Nat):Int)))))<0)) (none) (cond (decide ((wrap .u64 (((64-bl (Int.toNat a3):Nat):Int)))<0)) (none) (cond (decide ((ishr .u64 (ishl .u64 a3 (wrap .u64 (((64-bl (Int.toNat a3):Nat):Int)))) 32)=0)) (none) (some (.inl (.p17 (ishl .u64 a3 (wrap .u64 (((64-bl (Int.toNat a3):Nat):Int)))) (wrap .u64 (((64-bl (Int.toNat a3):Nat):Int))) (ishr .u64 (ishl .u64 a3 (wrap .u64 (((64-bl (Int.toNat a3):Nat):Int)))) 32) (iand .u64 (ishl .u64 a3 (wrap .u64 (((64-bl (Int.toNat a3):Nat):Int)))) 4294967295) (ior .u64 (ishl .u64 a1 (wrap .u64 (((64-bl (Int.toNat a3):Nat):Int)))) (ishr .u64 a2 (wrap .u64 (64-(wrap .u64 (((64-bl (Int.toNat a3):Nat):Int))))))) (ishr .u64 (ishl .u64 a2 (wrap .u64 (((64-bl (Int.toNat a3):Nat):Int)))) 32) (iand .u64 (ishl .u64 a2 (wrap .u64 (((64-bl (Int.toNat a3):Nat):Int)))) 4294967295) (wrap .u64 (Int.tdiv (ior .u64 (ishl .u64 a1 (wrap .u64 (((64-bl (Int.toNat a3):Nat):Int)))) (ishr .u64 a2 (wrap .u64 (64-(wrap .u64 (((64-bl (Int.toNat a3):Nat):Int))))))) (ishr .u64 (ishl .u64 a3 (wrap .u64 (((64-bl (Int.toNat a3):Nat):Int)))) 32))) (wrap .u64 ((ior .u64 (ishl .u64 a1 (wrap .u64 (((64-bl (Int.toNat a3):Nat):Int)))) (ishr .u64 a2 (wrap .u64 (64-(wrap .u64 (((64-bl (Int.toNat a3):Nat):Int)))))))-(wrap .u64 ((wrap .u64 (Int.tdiv (ior .u64 (ishl .u64 a1 (wrap .u64 (((64-bl (Int.toNat a3):Nat):Int)))) (ishr .u64 a2 (wrap .u64 (64-(wrap .u64 (((64-bl (Int.toNat a3):Nat):Int))))))) (ishr .u64 (ishl .u64 a3 (wrap .u64 (((64-bl (Int.toNat a3):Nat):Int)))) 32)))*(ishr .u64 (ishl .u64 a3 (wrap .u64 (((64-bl (Int.toNat a3):Nat):Int)))) 32))))))))))))))
noncomputable def kfw(a1 a2 a3 a4 a5 a6 a7 a8 a9:Int):Option (kcp⊕kb2):=cond (decide (a8>=4294967296)) (cond (decide ((wrap .u64 (a9+a3))>=4294967296)) (cond (decide (a3=0)) (none) (some (.inl (.p24 a1 a2 a3 a4 a7 (wrap .u64 (a8-1)) (wrap .u64 ((wrap .u64 ((wrap .u64 ((wrap .u64 (a5*4294967296))+a6))-(wrap .u64 ((wrap .u64 (a8-1))*a1))))-(wrap .u64 ((wrap .u64 (Int.tdiv (wrap .u64 ((wrap .u64 ((wrap .u64 (a5*4294967296))+a6))-(wrap .u64 ((wrap .u64 (a8-1))*a1)))) a3))*a3)))) (wrap .u64 ((wrap .u64 ((wrap .u64 (a5*4294967296))+a6))-(wrap .u64 ((wrap .u64 (a8-1))*a1)))) (wrap .u64 (Int.tdiv (wrap .u64 ((wrap .u64 ((wrap .u64 (a5*4294967296))+a6))-(wrap .u64 ((wrap .u64 (a8-1))*a1)))) a3)))))) (some (.inl (.p17 a1 a2 a3 a4 a5 a6 a7 (wrap .u64 (a8-1)) (wrap .u64 (a9+a3)))))) (cond (decide ((wrap .u64 (a8*a4))>(wrap .u64 ((wrap .u64 (4294967296*a9))+a6)))) (cond (decide ((wrap .u64 (a9+a3))>=4294967296)) (cond (decide (a3=0)) (none) (some (.inl (.p24 a1 a2 a3 a4 a7 (wrap .u64 (a8-1)) (wrap .u64 ((wrap .u64 ((wrap .u64 ((wrap .u64 (a5*4294967296))+a6))-(wrap .u64 ((wrap .u64 (a8-1))*a1))))-(wrap .u64 ((wrap .u64 (Int.tdiv (wrap .u64 ((wrap .u64 ((wrap .u64 (a5*4294967296))+a6))-(wrap .u64 ((wrap .u64 (a8-1))*a1)))) a3))*a3)))) (wrap .u64 ((wrap .u64 ((wrap .u64 (a5*4294967296))+a6))-(wrap .u64 ((wrap .u64 (a8-1))*a1)))) (wrap .u64 (Int.tdiv (wrap .u64 ((wrap .u64 ((wrap .u64 (a5*4294967296))+a6))-(wrap .u64 ((wrap .u64 (a8-1))*a1)))) a3)))))) (some (.inl (.p17 a1 a2 a3 a4 a5 a6 a7 (wrap .u64 (a8-1)) (wrap .u64 (a9+a3)))))) (cond (decide (a3=0)) (none) (some (.inl (.p24 a1 a2 a3 a4 a7 a8 (wrap .u64 ((wrap .u64 ((wrap .u64 ((wrap .u64 (a5*4294967296))+a6))-(wrap .u64 (a8*a1))))-(wrap .u64 ((wrap .u64 (Int.tdiv (wrap .u64 ((wrap .u64 ((wrap .u64 (a5*4294967296))+a6))-(wrap .u64 (a8*a1)))) a3))*a3)))) (wrap .u64 ((wrap .u64 ((wrap .u64 (a5*4294967296))+a6))-(wrap .u64 (a8*a1)))) (wrap .u64 (Int.tdiv (wrap .u64 ((wrap .u64 ((wrap .u64 (a5*4294967296))+a6))-(wrap .u64 (a8*a1)))) a3)))))))
noncomputable def kge(a1 a2 a3 a4 a5 a6 a7 a8 a9:Int):Option (kcp⊕kb2):=cond (decide (a9>=4294967296)) (cond (decide ((wrap .u64 (a7+a3))>=4294967296)) (cond (decide (a2<0)) (none) (some (.inr (wrap .u64 ((wrap .u64 (a6*4294967296))+(wrap .u64 (a9-1))),ishr .u64 (wrap .u64 ((wrap .u64 ((wrap .u64 (a8*4294967296))+a5))-(wrap .u64 ((wrap .u64 (a9-1))*a1)))) a2)))) (some (.inl (.p24 a1 a2 a3 a4 a5 a6 (wrap .u64 (a7+a3)) a8 (wrap .u64 (a9-1)))))) (cond (decide ((wrap .u64 (a9*a4))>(wrap .u64 ((wrap .u64 (4294967296*a7))+a5)))) (cond (decide ((wrap .u64 (a7+a3))>=4294967296)) (cond (decide (a2<0)) (none) (some (.inr (wrap .u64 ((wrap .u64 (a6*4294967296))+(wrap .u64 (a9-1))),ishr .u64 (wrap .u64 ((wrap .u64 ((wrap .u64 (a8*4294967296))+a5))-(wrap .u64 ((wrap .u64 (a9-1))*a1)))) a2)))) (some (.inl (.p24 a1 a2 a3 a4 a5 a6 (wrap .u64 (a7+a3)) a8 (wrap .u64 (a9-1)))))) (cond (decide (a2<0)) (none) (some (.inr (wrap .u64 ((wrap .u64 (a6*4294967296))+a9),ishr .u64 (wrap .u64 ((wrap .u64 ((wrap .u64 (a8*4294967296))+a5))-(wrap .u64 (a9*a1)))) a2)))))
noncomputable def kfb:kcp->Option (kcp⊕kb2)
 | .fn a1 a2 a3=>km9 a1 a2 a3
 | .p3 a1 a2 a3=>ki2 a1 a2 a3
 | .p17 a1 a2 a3 a4 a5 a6 a7 a8 a9=>kfw a1 a2 a3 a4 a5 a6 a7 a8 a9
 | .p24 a1 a2 a3 a4 a5 a6 a7 a8 a9=>kge a1 a2 a3 a4 a5 a6 a7 a8 a9
@[reducible] def kn0(h0:AH)(r:kb2)(v:AV)(h':AH):Prop:=v=.tup [.int .u64 r.1,.int .u64 r.2]/\Grow h0 h'
def kf1(r:kb2):kcp->Prop
 | .fn a1 a2 a3=>∀{h:AH},Runs (go (.fn kb1 [.int .u64 a1,.int .u64 a2,.int .u64 a3]) h) (kn0 h r)
 | .p3 a1 a2 a3=>∀{h0 h:AH},Grow h0 h->Runs (go (.pt kb1 kuj [(0,.int .u64 a1),(1,.int .u64 a2),(2,.int .u64 a3)]) h) (kn0 h0 r)
 | .p17 a1 a2 a3 a4 a5 a6 a7 a8 a9=>∀{h0 h:AH},Grow h0 h->Runs (go (.pt kb1 kmg [(2,.int .u64 a1),(8,.int .u64 a2),(9,.int .u64 a3),(10,.int .u64 a4),(11,.int .u64 a5),(13,.int .u64 a6),(14,.int .u64 a7),(15,.int .u64 a8),(16,.int .u64 a9)]) h) (kn0 h0 r)
 | .p24 a1 a2 a3 a4 a5 a6 a7 a8 a9=>∀{h0 h:AH},Grow h0 h->Runs (go (.pt kb1 kh4 [(2,.int .u64 a1),(8,.int .u64 a2),(9,.int .u64 a3),(10,.int .u64 a4),(14,.int .u64 a5),(15,.int .u64 a6),(16,.int .u64 a7),(17,.int .u64 a8),(18,.int .u64 a9)]) h) (kn0 h0 r)
theorem k8s{r:kb2}{o:kcp⊕kb2}{a1 a2 a3:Int}(e:km9 a1 a2 a3=some o)(y:GoodS (kf1 r) r o):kf1 r (.fn a1 a2 a3):=by
 intro h;rw[kbc9];unfold km9 at e;refine qba (λC=>?_) (λC=>?_)
 ·replace e:=(condT C).symm.trans e;cases e
 ·replace e:=(condF C).symm.trans e;cases e;exact y (qk _)
theorem k4t{r:kb2}{o:kcp⊕kb2}{a1 a2 a3:Int}(e:ki2 a1 a2 a3=some o)(y:GoodS (kf1 r) r o):kf1 r (.p3 a1 a2 a3):=by
 intro h0 h Z;rw[k9n];unfold ki2 at e;refine qba (λK=>?_) (λK=>?_)
 ·replace e:=(condT K).symm.trans e;cases e
 ·replace e:=(condF K).symm.trans e;refine qba (λQ=>?_) (λQ=>?_)
  ·replace e:=(condT Q).symm.trans e;refine qba (λU=>?_) (λU=>?_)
   ·replace e:=(condT U).symm.trans e;cases e
   ·replace e:=(condF U).symm.trans e;refine qba (λC=>?_) (λC=>?_)
    ·replace e:=(condT C).symm.trans e;cases e
    ·replace e:=(condF C).symm.trans e;cases e;cases y;exact qu ⟨rfl,Z⟩
  ·replace e:=(condF Q).symm.trans e;obtain⟨I,aa,e⟩:=qbs.1 e;refine qw (k1y a3  I.down) (qw (seen qcl) ?_);refine qba (λC=>?_) (λC=>?_)
   ·replace e:=(condT C).symm.trans e;cases e
   ·replace e:=(condF C).symm.trans e;refine qba (λV=>?_) (λV=>?_)
    ·replace e:=(condT V).symm.trans e;cases e
    ·replace e:=(condF V).symm.trans e;refine qba (λW=>?_) (λW=>?_)
     ·replace e:=(condT W).symm.trans e;cases e
     ·replace e:=(condF W).symm.trans e;refine qba (λF=>?_) (λF=>?_)
      ·replace e:=(condT F).symm.trans e;cases e
      ·replace e:=(condF F).symm.trans e;refine qba (λH=>?_) (λH=>?_)
       ·replace e:=(condT H).symm.trans e;cases e
       ·replace e:=(condF H).symm.trans e;cases e;exact y Z
theorem kbbr{r:kb2}{o:kcp⊕kb2}{a1 a2 a3 a4 a5 a6 a7 a8 a9:Int}(e:kfw a1 a2 a3 a4 a5 a6 a7 a8 a9=some o)(C:GoodS (kf1 r) r o):kf1 r (.p17 a1 a2 a3 a4 a5 a6 a7 a8 a9):=by
 intro h0 h K;rw[kbb8];unfold kfw at e;refine qba (λH=>?_) (λH=>?_)
 ·replace e:=(condT H).symm.trans e;refine qba (λF=>?_) (λF=>?_)
  ·replace e:=(condT F).symm.trans e;refine qba (λy=>?_) (λy=>?_)
   ·replace e:=(condT y).symm.trans e;cases e
   ·replace e:=(condF y).symm.trans e;cases e;exact C K
  ·replace e:=(condF F).symm.trans e;cases e;exact C K
 ·replace e:=(condF H).symm.trans e;refine qba (λF=>?_) (λF=>?_)
  ·replace e:=(condT F).symm.trans e;refine qba (λy=>?_) (λy=>?_)
   ·replace e:=(condT y).symm.trans e;refine qba (λI=>?_) (λI=>?_)
    ·replace e:=(condT I).symm.trans e;cases e
    ·replace e:=(condF I).symm.trans e;cases e;exact C K
   ·replace e:=(condF y).symm.trans e;cases e;exact C K
  ·replace e:=(condF F).symm.trans e;refine qba (λy=>?_) (λy=>?_)
   ·replace e:=(condT y).symm.trans e;cases e
   ·replace e:=(condF y).symm.trans e;cases e;exact C K
theorem k7s{r:kb2}{o:kcp⊕kb2}{a1 a2 a3 a4 a5 a6 a7 a8 a9:Int}(e:kge a1 a2 a3 a4 a5 a6 a7 a8 a9=some o)(C:GoodS (kf1 r) r o):kf1 r (.p24 a1 a2 a3 a4 a5 a6 a7 a8 a9):=by
 intro h0 h K;rw[kbi0];unfold kge at e;refine qba (λH=>?_) (λH=>?_)
 ·replace e:=(condT H).symm.trans e;refine qba (λF=>?_) (λF=>?_)
  ·replace e:=(condT F).symm.trans e;refine qba (λy=>?_) (λy=>?_)
   ·replace e:=(condT y).symm.trans e;cases e
   ·replace e:=(condF y).symm.trans e;cases e;cases C;exact qu ⟨rfl,K⟩
  ·replace e:=(condF F).symm.trans e;cases e;exact C K
 ·replace e:=(condF H).symm.trans e;refine qba (λF=>?_) (λF=>?_)
  ·replace e:=(condT F).symm.trans e;refine qba (λy=>?_) (λy=>?_)
   ·replace e:=(condT y).symm.trans e;refine qba (λI=>?_) (λI=>?_)
    ·replace e:=(condT I).symm.trans e;cases e
    ·replace e:=(condF I).symm.trans e;cases e;cases C;exact qu ⟨rfl,K⟩
   ·replace e:=(condF y).symm.trans e;cases e;exact C K
  ·replace e:=(condF F).symm.trans e;refine qba (λy=>?_) (λy=>?_)
   ·replace e:=(condT y).symm.trans e;cases e
   ·replace e:=(condF y).symm.trans e;cases e;cases C;exact qu ⟨rfl,K⟩
theorem kbew{s:kcp}{r:kb2}(C:Iter kfb s r):kf1 r s:=qbe (λs o e y=>by
 cases s with
 | fn a1 a2 a3=>exact @k8s _ _ a1 a2 a3 e y
 | p3 a1 a2 a3=>exact @k4t _ _ a1 a2 a3 e y
 | p17 a1 a2 a3 a4 a5 a6 a7 a8 a9=>exact @kbbr _ _ a1 a2 a3 a4 a5 a6 a7 a8 a9 e y
 | p24 a1 a2 a3 a4 a5 a6 a7 a8 a9=>exact @k7s _ _ a1 a2 a3 a4 a5 a6 a7 a8 a9 e y
 ) C
theorem kt5(a c:Nat):Int.tdiv (a:Int) (c:Int)=((a/c:Nat):Int):=rfl
theorem k94(a c:Nat):Int.tmod (a:Int) (c:Int)=((a%c:Nat):Int):=rfl
def st24(a1 a2 a3 a4 a5 a6 a7 q:Int):kcp :=
 .p24 a1 a2 a3 a4 a7 q (wrap .u64 ((wrap .u64 ((wrap .u64 ((wrap .u64 (a5*4294967296))+a6))-(wrap .u64 (q*a1))))-(wrap .u64 ((wrap .u64 (Int.tdiv (wrap .u64 ((wrap .u64 ((wrap .u64 (a5*4294967296))+a6))-(wrap .u64 (q*a1)))) a3))*a3)))) (wrap .u64 ((wrap .u64 ((wrap .u64 (a5*4294967296))+a6))-(wrap .u64 (q*a1)))) (wrap .u64 (Int.tdiv (wrap .u64 ((wrap .u64 ((wrap .u64 (a5*4294967296))+a6))-(wrap .u64 (q*a1)))) a3))
theorem un_eq{y C q v:Nat}(hq:q=(y*4294967296+C)/v)(F:0<v)(hv:v<18446744073709551616):wrap .u64 ((wrap .u64 ((wrap .u64 ((y:Int)*4294967296))+(C:Int)))-(wrap .u64 ((q:Int)*(v:Int))))=(((y*4294967296+C)%v:Nat):Int):=by
 have H:=Nat.div_add_mod (y*4294967296+C) v;have I:=Nat.mod_lt (y*4294967296+C) F;rw[<- hq,Nat.mul_comm]at H;rw[wrapU,wrapU,wrapU,wrapU,<- Int.natCast_mul];generalize q*v=t at *
 generalize (y*4294967296+C)%v=m at *
 omega
theorem kbll{s v C I y F K q:Nat}(hq:q=(y*4294967296+F)/v)(H:0<v)(hv:v<18446744073709551616)(Q:0<C) :
  st24 v s C I y F K q=.p24 v s C I K q (((y*4294967296+F)%v%C:Nat):Int) (((y*4294967296+F)%v:Nat):Int) (((y*4294967296+F)%v/C:Nat):Int):=by
 unfold st24;rw[un_eq hq H hv,kt5];have V:=Nat.mod_lt (y*4294967296+F) H;generalize (y*4294967296+F)%v=m at *
 have W:=Nat.div_le_self m C;rw[kgd (n:=m/C) (by omega),<- Int.natCast_mul];have U:=Nat.div_add_mod m C;rw[Nat.mul_comm]at U;have Z:=Nat.mod_lt m Q;rw[wrapU,wrapU]
 have e:((m:Int)-((m/C*C:Nat):Int)%18446744073709551616)%18446744073709551616=((m%C:Nat):Int):=by
  generalize m/C*C=t at *
  generalize m%C=z at *
  omega
 rw[e]
theorem div17{s v C F y H Z:Nat}{res:kb2}(hv:v=C*4294967296+F)(h1:0<C)(aa:C<4294967296)(h0:F<4294967296)(U:y<v)(V:H<4294967296)
  (K:Iter kfb (st24 v s C F y H Z (((y*4294967296+H)/v:Nat):Int)) res) :
  ∀(q r:Nat),q*C+r=y->(y*4294967296+H)/v<=q->r<4294967296->q<8589934592->Iter kfb (.p17 v s C F y H Z q r) res
 | q,r,e,W,hr,hq=>by
  have ac:v<18446744073709551616:=by omega
  have I:(4294967296<=q\/4294967296*r+H<q*F)->∃o,Iter kfb o res/\
    cond (decide ((wrap .u64 ((r:Int)+(C:Int)))>=4294967296)) (cond (decide ((C:Int)=0)) none (some (Sum.inl (β:=kb2) (st24 v s C F y H Z (wrap .u64 ((q:Int)-1)))))) (some (.inl (.p17 v s C F y H Z (wrap .u64 ((q:Int)-1)) (wrap .u64 ((r:Int)+(C:Int))))))=some (.inl o):=by
   intro t;obtain⟨Q,k2⟩:=kn_hi hv U V rfl e W t;obtain⟨p,rfl⟩:∃p,q=p+1:=⟨q-1,by omega⟩;rw[Nat.add_sub_cancel]at Q
   have e':p*C+(r+C)=y:=by rw[Nat.add_mul,Nat.one_mul]at e;omega
   have w1:wrap .u64 (((p+1:Nat):Int)-1)=(p:Int):=by rw[wrapU];omega
   have w2:wrap .u64 ((r:Int)+(C:Int))=((r+C:Nat):Int):=by rw[wrapU];omega
   rw[w1,w2];by_cases ho:4294967296<=r+C
   ·have:=kn_lo hv U rfl e' Q (kn_out hv h0 U e' ho);rw[this]at K;refine⟨_,K,?_⟩;rw[condT (by rw[qbu];omega),condF (by rw[qbt];omega)]
   ·refine⟨_,div17 hv h1 aa h0 U V K p (r+C) e' Q (by omega) (by omega),?_⟩;rw[condF (by rw[qbt];omega)]
  by_cases c1:4294967296<=q
  ·obtain⟨o,Q,k2⟩:=I (.inl c1);refine .next ?_ Q;show kfw _ _ _ _ _ _ _ _ _=_;unfold kfw;rw[condT (by rw[qbu];omega)];exact k2
  ·have m1:q*F<=4294967295*4294967295:=Nat.mul_le_mul (by omega) (by omega)
   have w3:wrap .u64 ((q:Int)*(F:Int))=((q*F:Nat):Int):=by rw[<- Int.natCast_mul];exact kgd (by omega)
   have w4:wrap .u64 ((wrap .u64 (4294967296*(r:Int)))+(H:Int))=((4294967296*r+H:Nat):Int):=by rw[wrapU,wrapU];omega
   by_cases c2:4294967296*r+H<q*F
   ·obtain⟨o,Q,k2⟩:=I (.inr c2);refine .next ?_ Q;show kfw _ _ _ _ _ _ _ _ _=_;unfold kfw;rw[condF (by rw[qbt];omega),w3,w4,condT (by rw[qbu];omega)];exact k2
   ·have:=kn_lo hv U rfl e W (by omega);rw[this]at K;refine .next ?_ K;show kfw _ _ _ _ _ _ _ _ _=_;unfold kfw;rw[condF (by rw[qbt];omega),w3,w4,condF (by rw[qbt];omega),condF (by rw[qbt];omega)];rfl
termination_by q=>q
def fin24(a1 a2 a5 a6 a8 q:Int):Option (kcp⊕kb2):=cond (decide (a2<0)) none (some (.inr (wrap .u64 ((wrap .u64 (a6*4294967296))+q),ishr .u64 (wrap .u64 ((wrap .u64 ((wrap .u64 (a8*4294967296))+a5))-(wrap .u64 (q*a1)))) a2)))
theorem div24{s v C I y F q1:Nat}{res:kb2}(hv:v=C*4294967296+I)(h1:0<C)(aa:C<4294967296)(h0:I<4294967296)(V:y<v)(W:F<4294967296)
  (K:fin24 v s F q1 y (((y*4294967296+F)/v:Nat):Int)=some (.inr res)) :
  ∀(q r:Nat),q*C+r=y->(y*4294967296+F)/v<=q->r<4294967296->q<8589934592->Iter kfb (.p24 v s C I F q1 r y q) res
 | q,r,e,Z,hr,hq=>by
  have ac:v<18446744073709551616:=by omega
  have Q:(4294967296<=q\/4294967296*r+F<q*I)->∃o,(o=Sum.inr res\/∃st,o=.inl st/\Iter kfb st res)/\
    cond (decide ((wrap .u64 ((r:Int)+(C:Int)))>=4294967296)) (fin24 v s F q1 y (wrap .u64 ((q:Int)-1))) (some (.inl (.p24 v s C I F q1 (wrap .u64 ((r:Int)+(C:Int))) y (wrap .u64 ((q:Int)-1)))))=some o:=by
   intro t;obtain⟨U,k2⟩:=kn_hi hv V W rfl e Z t;obtain⟨p,rfl⟩:∃p,q=p+1:=⟨q-1,by omega⟩;rw[Nat.add_sub_cancel]at U
   have e':p*C+(r+C)=y:=by rw[Nat.add_mul,Nat.one_mul]at e;omega
   have w1:wrap .u64 (((p+1:Nat):Int)-1)=(p:Int):=by rw[wrapU];omega
   have w2:wrap .u64 ((r:Int)+(C:Int))=((r+C:Nat):Int):=by rw[wrapU];omega
   rw[w1,w2];by_cases ho:4294967296<=r+C
   ·have:=kn_lo hv V rfl e' U (kn_out hv h0 V e' ho);rw[this]at K;refine⟨.inr res,.inl rfl,?_⟩;rw[condT (by rw[qbu];omega)];exact K
   ·refine⟨_,.inr ⟨_,rfl,div24 hv h1 aa h0 V W K p (r+C) e' U (by omega) (by omega)⟩,?_⟩;rw[condF (by rw[qbt];omega)]
  have H:∀{st:kcp}{o:kcp⊕kb2},(o=Sum.inr res\/∃st,o=.inl st/\Iter kfb st res)->kfb st=some o->Iter kfb st res:=by
   intro st o h e;rcases h with rfl | ⟨ad,rfl,it⟩
   ·exact .done e
   ·exact .next e it
  by_cases c1:4294967296<=q
  ·obtain⟨o,U,k2⟩:=Q (.inl c1);refine H U ?_;show kge _ _ _ _ _ _ _ _ _=_;unfold kge;rw[condT (by rw[qbu];omega)];exact k2
  ·have m1:q*I<=4294967295*4294967295:=Nat.mul_le_mul (by omega) (by omega)
   have w3:wrap .u64 ((q:Int)*(I:Int))=((q*I:Nat):Int):=by rw[<- Int.natCast_mul];exact kgd (by omega)
   have w4:wrap .u64 ((wrap .u64 (4294967296*(r:Int)))+(F:Int))=((4294967296*r+F:Nat):Int):=by rw[wrapU,wrapU];omega
   by_cases c2:4294967296*r+F<q*I
   ·obtain⟨o,U,k2⟩:=Q (.inr c2);refine H U ?_;show kge _ _ _ _ _ _ _ _ _=_;unfold kge;rw[condF (by rw[qbt];omega),w3,w4,condT (by rw[qbu];omega)];exact k2
   ·have:=kn_lo hv V rfl e Z (by omega);rw[this]at K;refine .done ?_;show kge _ _ _ _ _ _ _ _ _=_;unfold kge;rw[condF (by rw[qbt];omega),w3,w4,condF (by rw[qbt];omega)];exact K
termination_by q=>q
theorem k35{C lo y s:Nat}(W:y*2^s<18446744073709551616)(F:lo<18446744073709551616)(H:C<y)(hs:s<=63) :
  C*2^s+lo/2^(64-s)<y*2^s/\(C*2^s+lo/2^(64-s))*18446744073709551616+lo*2^s%18446744073709551616=(C*18446744073709551616+lo)*2^s/\lo/2^(64-s)<2^s/\C*2^s<18446744073709551616:=by
 have p:0<2^s:=Nat.pow_pos (by decide);have e:2^(64-s)*2^s=18446744073709551616:=by rw[<- Nat.pow_add,show 64-s+s=64 from by omega]
 have I:lo/2^(64-s)<2^s:=by rw[Nat.div_lt_iff_lt_mul (Nat.pow_pos (by decide)),Nat.mul_comm,e];exact F
 have K:(C+1)*2^s<=y*2^s:=Nat.mul_le_mul_right _ H;rw[Nat.add_mul,Nat.one_mul]at K;refine⟨by omega,?_,I,by omega⟩
 have Q:lo*2^s/18446744073709551616=lo/2^(64-s):=by rw[<- e,Nat.mul_div_mul_right _ _ p]
 have U:=Nat.div_add_mod (lo*2^s) 18446744073709551616;rw[Q]at U;have V:C*18446744073709551616*2^s=C*2^s*18446744073709551616:=Nat.mul_right_comm _ _ _;rw[Nat.add_mul,Nat.add_mul,V];omega
theorem kbej{y C:Nat}(h:y*4294967296+C<18446744073709551616):wrap .u64 ((wrap .u64 ((y:Int)*4294967296))+(C:Int))=((y*4294967296+C:Nat):Int):=by rw[wrapU,wrapU];omega
theorem k86{Q lo y:Nat}(hy:y<18446744073709551616)(ag:lo<18446744073709551616)(aa:Q<y) :
  Iter kfb (.fn Q lo y) ((((Q*18446744073709551616+lo)/y:Nat):Int),(((Q*18446744073709551616+lo)%y:Nat):Int)):=by
 refine .next (s':=.p3 Q lo y) ?_ ?_
 ·show km9 _ _ _=_;unfold km9;rw[condF (by rw[qbt];omega)]
 by_cases h0:Q=0
 ·subst h0;refine .done ?_;show ki2 _ _ _=_;unfold ki2;have hd:=Nat.div_le_self lo y;rw[condF (by rw[qbt];omega),condT (by rfl),condF (by rw[qbt];omega),condF (by rw[qbt];omega),kt5,k94,kgd (by omega),Nat.zero_mul,Nat.zero_add]
 obtain⟨hs,ak,ac⟩:=kxo hy (by omega);have I:64-bl y<=64:=by omega
 obtain⟨p1,p2,p3,p4⟩:=k35 ac ag aa hs;have ws:wrap .u64 ((64-bl (Int.toNat (y:Int)):Nat):Int)=((64-bl y:Nat):Int):=by rw[Int.toNat_natCast];exact kgd (by omega)
 have wt:wrap .u64 (64-((64-bl y:Nat):Int))=((64-(64-bl y):Nat):Int):=by rw[wrapU];omega
 generalize al:64-bl y=s at *
 have ey:ishl .u64 (y:Int) (s:Int)=((y*2^s:Nat):Int):=by rw[ki7 _ _ I,Nat.mod_eq_of_lt ac]
 have eh:ishl .u64 (Q:Int) (s:Int)=((Q*2^s:Nat):Int):=by rw[ki7 _ _ I,Nat.mod_eq_of_lt p4]
 have el:ishl .u64 (lo:Int) (s:Int)=((lo*2^s%18446744073709551616:Nat):Int):=ki7 _ _ I;have er:ishr .u64 (lo:Int) ((64-s:Nat):Int)=((lo/2^(64-s):Nat):Int):=by rw[kb8,Nat.min_eq_left (by omega)]
 have eo:=koc p4 p3 I;generalize ai:Q*2^s+lo/2^(64-s)=C at *
 have aj:=Nat.mod_lt (lo*2^s) (show 0<18446744073709551616 by omega);generalize hl:lo*2^s%18446744073709551616=F at *
 generalize hv:y*2^s=v at *
 have ad:∀x:Nat,ishr .u64 (x:Int) 32=((x/4294967296:Nat):Int):=λx=>kb8 x 32;have ah:C*18446744073709551616+F=(C*4294967296+F/4294967296)*4294967296+F%4294967296:=by omega
 have U:v=v/4294967296*4294967296+v%4294967296:=by omega
 have V:0<v:=by omega
 have H:0<v/4294967296:=by omega
 have K:v/4294967296<4294967296:=by omega
 have ae:v%4294967296<4294967296:=by omega
 have af:F/4294967296<4294967296:=by omega
 have Z:F%4294967296<4294967296:=by omega
 have first:C/(v/4294967296)<8589934592:=by rw[Nat.div_lt_iff_lt_mul H];omega
 have hm:=Nat.mod_lt (C*4294967296+F/4294967296) V
 have W:(C*4294967296+F/4294967296)%v/(v/4294967296)<8589934592:=by rw[Nat.div_lt_iff_lt_mul H];omega
 have td:=kbax (w:=C*4294967296+F/4294967296) V Z;rw[<- ah,p2]at td;have p:=Nat.pow_pos (a:=2) (n:=s) (by decide);rw[<- hv,Nat.mul_div_mul_right _ _ p,Nat.mul_mod_mul_right,hv]at td;refine .next (s':=.p17 v s (v/4294967296:Nat) (v%4294967296:Nat) C (F/4294967296:Nat) (F%4294967296:Nat) (C/(v/4294967296):Nat) (C%(v/4294967296):Nat)) ?_ ?_
 ·show ki2 _ _ _=_;unfold ki2
  rw[condF (by rw[qbt];omega),condF (by rw[qbt];omega),ky (by omega),qbr,ws,wt,ey,eh,el,er,eo,ad,ad,kk5 (show v<_ by omega),kk5 (show F<_ by omega),
   condF (by rw[qbt];omega),condF (by rw[qbt];omega),condF (by rw[qbt];omega),condF (by rw[qbt];omega),condF (by rw[qbt];omega),kt5]
  have d1:=Nat.div_add_mod C (v/4294967296);have d2:=Nat.div_le_self C (v/4294967296);rw[Nat.mul_comm]at d1;rw[kgd (n:=C/(v/4294967296)) (by omega),<- Int.natCast_mul];generalize C/(v/4294967296)*(v/4294967296)=z at *
  generalize C%(v/4294967296)=z2 at *
  rw[kgd (n:=z) (by omega),show(C:Int)-(z:Int)=(z2:Int)from by omega,kgd (by omega)]
 ·refine div17 U H K ae p1 af ?_ _ _ (by rw[Nat.mul_comm];exact Nat.div_add_mod _ _) (kx7 H U p1 af rfl (by omega)) (Nat.lt_trans (Nat.mod_lt _ H) K) first
  rw[kbll rfl V (by omega) H];refine div24 U H K ae hm Z ?_ _ _ (by rw[Nat.mul_comm];exact Nat.div_add_mod _ _) (kx7 H U hm Z rfl (by omega)) (Nat.lt_trans (Nat.mod_lt _ H) K) W;unfold fin24;rw[condF (by rw[qbt];omega),un_eq rfl V (by omega),<- td.2,kb8,Nat.min_eq_left I,Nat.mul_div_cancel _ p]
  have hq:(Q*18446744073709551616+lo)/y<18446744073709551616:=by rw[Nat.div_lt_iff_lt_mul (by omega)];have:(Q+1)*18446744073709551616<=y*18446744073709551616:=Nat.mul_le_mul_right _ aa;omega
  have w:wrap .u64 ((wrap .u64 ((((C*4294967296+F/4294967296)/v:Nat):Int)*4294967296))+((((C*4294967296+F/4294967296)%v*4294967296+F%4294967296)/v:Nat):Int))=(((Q*18446744073709551616+lo)/y:Nat):Int):=by rw[td.1]at hq|-;exact kbej hq
  rw[w]
theorem kbay{C lo y:Nat}(I:y<18446744073709551616)(F:lo<18446744073709551616)(H:C<y){h:AH}:∃h',go (.fn kb1 [.int .u64 (C:Int),.int .u64 (lo:Int),.int .u64 (y:Int)]) h=some (.tup [.int .u64 (((C*18446744073709551616+lo)/y:Nat):Int),.int .u64 (((C*18446744073709551616+lo)%y:Nat):Int)],h')/\Grow h h':=by obtain⟨_,h',e,rfl,g⟩:=kbew (k86 I F H) (h:=h);exact⟨h',e,g⟩
end Go.Ab
set_option maxRecDepth 10000
namespace Go.Ab
open Go.Proofs Go.Num
def div64P(h l d:Int):Option (Int×Int):=if 0<=l/\l<18446744073709551616/\0<=h/\h<d/\d<18446744073709551616 then some ((h*18446744073709551616+l)/d,(h*18446744073709551616+l)%d)else none
theorem kyb{C lo y:Nat}(I:y<18446744073709551616)(F:lo<18446744073709551616)(H:C<y):div64P (C:Int) (lo:Int) (y:Int)=some ((((C*18446744073709551616+lo)/y:Nat):Int),(((C*18446744073709551616+lo)%y:Nat):Int)):=by unfold div64P;rw[if_pos (by omega)];rfl
theorem kwf{a b c:Int}{p:Int×Int}{h:AH}(q:div64P a b c=some p):∃h',go (.fn kb1 [.int .u64 a,.int .u64 b,.int .u64 c]) h=some (.tup [.int .u64 p.1,.int .u64 p.2],h')/\Grow h h':=by
 unfold div64P at q;split at q
 ·rename_i C;cases q;obtain⟨F,rfl⟩:∃x:Nat,a=(x:Int):=⟨a.toNat,by omega⟩;obtain⟨lo,rfl⟩:∃x:Nat,b=(x:Int):=⟨b.toNat,by omega⟩;obtain⟨y,rfl⟩:∃x:Nat,c=(x:Int):=⟨c.toNat,by omega⟩;exact kbay (by omega) (by omega) (by omega)
 ·cases q
end Go.Ab
set_option maxRecDepth 10000
namespace Go.Ab
open IntKind (wrap)
open Go.Proofs Go.Num
inductive kg2
 | fn (x1:List Nat) (a2:Int)
 | p4 (x1:List Nat) (a2:Int) (x3:List Nat) (a4:Int) (a5:Int)
abbrev ke1:=List Nat×Int
noncomputable def kmf(x1:List Nat)(a2:Int):Option (kg2⊕ke1):=(mkI (List.length x1:Int) (List.length x1:Int)).bind λy=>some (.inl (.p4 x1 a2 (List.replicate y 0) 0 (wrap .i64 ((List.length x1:Int)-1))))
noncomputable def kih(x1:List Nat)(a2:Int)(x3:List Nat)(a4 a5:Int):Option (kg2⊕ke1):=cond (decide (a5>=0)) ((atI x1 a5).bind λF=>(div64P a4 ((F:Int)) a2).bind λC=>(inI (List.length x3) a5).bind λH=>(u64P (C.1)).bind λy=>some (.inl (.p4 x1 a2 (List.set x3 H y) (C.2) (wrap .i64 (a5-1))))) (some (.inr (digs B (num B x3),a4)))
noncomputable def ks0:kg2->Option (kg2⊕ke1)
 | .fn x1 a2=>kmf x1 a2
 | .p4 x1 a2 x3 a4 a5=>kih x1 a2 x3 a4 a5
@[reducible] def kyc(h0:AH)(r:ke1)(v:AV)(h':AH):Prop:=∃s1:Sl,v=.tup [s1.v,.int .u64 r.2]/\Nats h' s1 r.1/\Grow h0 h'/\Own h0 s1
def kmc(r:ke1):kg2->Prop
 | .fn x1 a2=>∀{h:AH}{a1:Sl},Nats h a1 x1->Runs (go (.fn kgh [a1.v,.int .u64 a2]) h) (kyc h r)
 | .p4 x1 a2 x3 a4 a5=>∀{h0 h:AH}{a1:Sl}{a3:Sl}{i3:Nat},Grow h0 h->Nats h a1 x1->Vec h a3 i3 x3->h0.blks.size<=i3->Av a1 i3 x1->Runs (go (.pt kgh kqv [(0,a1.v),(1,.int .u64 a2),(6,a3.v),(7,.int .u64 a4),(8,.i a5)]) h) (kyc h0 r)
theorem kbf7{r:ke1}{o:kg2⊕ke1}{x1:List Nat}{a2:Int}(e:kmf x1 a2=some o)(y:GoodS (kmc r) r o):kmc r (.fn x1 a2):=by intro h a1 n1;rw[k39];unfold kmf at e;rw[n1.len];obtain⟨I,F,e⟩:=qbs.1 e;refine Runs.mk F kda λs3 K H C=>?_;cases e;exact y C (n1.grow C) H (qbn _) (qbg n1 (qbn _))
theorem kbc1{r:ke1}{o:kg2⊕ke1}{x1:List Nat}{a2:Int}{x3:List Nat}{a4 a5:Int}(e:kih x1 a2 x3 a4 a5=some o)(C:GoodS (kmc r) r o):kmc r (.p4 x1 a2 x3 a4 a5):=by
 intro h0 h a1 a3 i3 Z n1 I F y;rw[kbhd];unfold kih at e;rw[n1.len];rw[I.nats.len];refine qba (λU=>?_) (λU=>?_)
 ·replace e:=(condT U).symm.trans e;obtain⟨y7,q7,e⟩:=qbs.1 e;obtain⟨r7,j7,l7⟩:=n1.atI q7;refine qw j7 (qw (rdc l7 qcl) ?_);obtain⟨p8,q8,e⟩:=qbs.1 e;obtain⟨H8,e8,Q⟩:=kwf q8;refine qw e8 (qw rfl (qw (seen qcl) (qw (seen qcl) ?_)));obtain⟨j9,q9,e⟩:=qbs.1 e;refine qw ((I.grow Q).idx rfl q9) ?_;obtain⟨aa,V,e⟩:=qbs.1 e;refine qbf (I.grow Q) rfl q9 V λac W K=>?_;have H:=(n1.grow Q).upda y K;cases e;exact C ((Z.trans Q).updr F K) H W F y
 ·replace e:=(condF U).symm.trans e;obtain⟨s7,e7,n7,o7⟩:=kdo I.nats;refine qw e7 (qw (seen qck) ?_);cases e;cases C;exact qu ⟨s7,rfl,n7,Z,((o7 _ (I.own F)).of_le (qk _))⟩
theorem k4m{s:kg2}{r:ke1}(C:Iter ks0 s r):kmc r s:=qbe (λs o e y=>by
 cases s with
 | fn x1 a2=>exact @kbf7 _ _ x1 a2 e y
 | p4 x1 a2 x3 a4 a5=>exact @kbc1 _ _ x1 a2 x3 a4 a5 e y
 ) C
inductive kgw
 | fn (x1:List Nat) (a2:Int)
 | p3 (a1:Int) (x2:List Nat) (x3:List Nat) (a4:Int) (a5:Int)
abbrev kes:=List Nat
noncomputable def klp(x1:List Nat)(a2:Int):Option (kgw⊕kes):=(mkI (wrap .i64 ((List.length x1:Int)+1)) (wrap .i64 ((List.length x1:Int)+1))).bind λy=>some (.inl (.p3 a2 (List.replicate y 0) x1 (List.length x1:Int) 0))
noncomputable def kf6(a1:Int)(x2 x3:List Nat)(a4 a5:Int):Option (kgw⊕kes):=cond (decide (a5<a4)) ((atI x3 a5).bind λI=>(inI (List.length x2) a5).bind λK=>cond (decide (a1<0)) (none) ((inI (List.length x2) a5).bind λy=>(u64P (ior .u64 (((List.getD x2 K 0:Nat):Int)) (ishl .u64 ((I:Int)) a1))).bind λC=>cond (decide (a1>0)) (cond (decide ((wrap .u64 (64-a1))<0)) (none) ((inI (List.length x2) (wrap .i64 (a5+1))).bind λF=>(u64P (ishr .u64 ((I:Int)) (wrap .u64 (64-a1)))).bind λH=>some (.inl (.p3 a1 (List.set (List.set x2 y C) F H) x3 a4 (wrap .i64 (a5+1)))))) (some (.inl (.p3 a1 (List.set x2 y C) x3 a4 (wrap .i64 (a5+1))))))) (some (.inr x2))
noncomputable def kkg:kgw->Option (kgw⊕kes)
 | .fn x1 a2=>klp x1 a2
 | .p3 a1 x2 x3 a4 a5=>kf6 a1 x2 x3 a4 a5
@[reducible] def kvd(h0:AH)(r:kes)(v:AV)(h':AH):Prop:=∃s1:Sl,∃y:Nat,v=s1.v/\Vec h' s1 y r/\Grow h0 h'/\h0.blks.size<=y
def kks(r:kes):kgw->Prop
 | .fn x1 a2=>∀{h:AH}{a1:Sl},Nats h a1 x1->Runs (go (.fn kem [a1.v,.int .u64 a2]) h) (kvd h r)
 | .p3 a1 x2 x3 a4 a5=>∀{h0 h:AH}{a2:Sl}{a3:Sl}{i2:Nat},Grow h0 h->Vec h a2 i2 x2->Nats h a3 x3->h0.blks.size<=i2->Av a3 i2 x3->Runs (go (.pt kem klr [(1,.int .u64 a1),(5,a2.v),(12,a3.v),(13,.i a4),(14,.i a5)]) h) (kvd h0 r)
theorem kbgm{r:kes}{o:kgw⊕kes}{x1:List Nat}{a2:Int}(e:klp x1 a2=some o)(y:GoodS (kks r) r o):kks r (.fn x1 a2):=by intro h a1 n1;rw[kbki];unfold klp at e;rw[n1.len];obtain⟨I,F,e⟩:=qbs.1 e;refine Runs.mk F kda λs3 K H C=>?_;cases e;exact y C H (n1.grow C) (qbn _) (qbg n1 (qbn _))
theorem k8b{r:kes}{o:kgw⊕kes}{a1:Int}{x2 x3:List Nat}{a4 a5:Int}(e:kf6 a1 x2 x3 a4 a5=some o)(F:GoodS (kks r) r o):kks r (.p3 a1 x2 x3 a4 a5):=by
 intro h0 h a2 a3 i2 g0 W n3 C y;rw[kbb2];unfold kf6 at e;rw[W.nats.len];rw[n3.len];refine qba (λk6=>?_) (λk6=>?_)
 ·replace e:=(condT k6).symm.trans e;obtain⟨y7,q7,e⟩:=qbs.1 e;obtain⟨r7,j7,l7⟩:=n3.atI q7;refine qw j7 (qw (rdc l7 qcl) ?_);obtain⟨j8,q8,e⟩:=qbs.1 e;refine qw (W.idx rfl q8) (qw (W.rd rfl q8 qcl) ?_);refine qba (λk9=>?_) (λk9=>?_)
  ·replace e:=(condT k9).symm.trans e;cases e
  ·replace e:=(condF k9).symm.trans e;obtain⟨ag,Z,e⟩:=qbs.1 e;refine qw (W.idx rfl Z) ?_;obtain⟨ah,ad,e⟩:=qbs.1 e;refine qbf W rfl Z ad λai I K=>?_;have H:=n3.upda y K;refine qba (λQ=>?_) (λQ=>?_)
   ·replace e:=(condT Q).symm.trans e;refine qba (λU=>?_) (λU=>?_)
    ·replace e:=(condT U).symm.trans e;cases e
    ·replace e:=(condF U).symm.trans e;obtain⟨aj,aa,e⟩:=qbs.1 e;refine qw (I.idx (by simp only[qb4]) aa) ?_;obtain⟨ak,ae,e⟩:=qbs.1 e;refine qbf I (by simp only[qb4]) aa ae λal af ac=>?_;have V:=H.upda y ac;cases e;exact F ((g0.updr C K).updr C ac) af V C y
   ·replace e:=(condF Q).symm.trans e;cases e;exact F (g0.updr C K) I H C y
 ·replace e:=(condF k6).symm.trans e;cases e;cases F;exact qu ⟨a2,i2,rfl,W,g0,C⟩
theorem kwe{s:kgw}{r:kes}(C:Iter kkg s r):kks r s:=qbe (λs o e y=>by
 cases s with
 | fn x1 a2=>exact @kbgm _ _ x1 a2 e y
 | p3 a1 x2 x3 a4 a5=>exact @k8b _ _ a1 x2 x3 a4 a5 e y
 ) C
theorem kxa{h:AH}{a1:Sl}{x1:List Nat}{a2:Int}(n1:Nats h a1 x1){r:kes}(q:runP kkg (.fn x1 a2)=some r):Runs (go (.fn kem [a1.v,.int .u64 a2]) h) (kvd h r):=kwe (kd5 q) n1
inductive kfz
 | fn (a1:Int) (a2:Int) (a3:Int) (a4:Int) (a5:Int)
 | p4 (a1:Int) (a2:Int) (a3:Int) (a4:Int) (a5:Int)
abbrev ket:=Int
noncomputable def khz(a1 a2 a3 a4 a5:Int):Option (kfz⊕ket):=cond (decide (a1>=a4)) (some (.inr 18446744073709551615)) ((div64P a1 a2 a4).bind λp7=>some (.inl (.p4 a3 a4 a5 (p7.1) (p7.2))))
noncomputable def kgi(a1 a2 a3 a4 a5:Int):Option (kfz⊕ket):=cond (decide (((mul64 a4 a3).1)<a5)) (some (.inr a4)) (cond (decide (((mul64 a4 a3).1)=a5)) (cond (decide (((mul64 a4 a3).2)<=a1)) (some (.inr a4)) (cond (decide ((wrap .u64 (a5+a2))<a5)) (some (.inr (wrap .u64 (a4-1)))) (some (.inl (.p4 a1 a2 a3 (wrap .u64 (a4-1)) (wrap .u64 (a5+a2))))))) (cond (decide ((wrap .u64 (a5+a2))<a5)) (some (.inr (wrap .u64 (a4-1)))) (some (.inl (.p4 a1 a2 a3 (wrap .u64 (a4-1)) (wrap .u64 (a5+a2)))))))
noncomputable def kjc:kfz->Option (kfz⊕ket)
 | .fn a1 a2 a3 a4 a5=>khz a1 a2 a3 a4 a5
 | .p4 a1 a2 a3 a4 a5=>kgi a1 a2 a3 a4 a5
@[reducible] def kvn(h0:AH)(r:ket)(v:AV)(h':AH):Prop:=v=.int .u64 r/\Grow h0 h'
def km8(r:ket):kfz->Prop
 | .fn a1 a2 a3 a4 a5=>∀{h:AH},Runs (go (.fn kgf [.int .u64 a1,.int .u64 a2,.int .u64 a3,.int .u64 a4,.int .u64 a5]) h) (kvn h r)
 | .p4 a1 a2 a3 a4 a5=>∀{h0 h:AH},Grow h0 h->Runs (go (.pt kgf kmh [(2,.int .u64 a1),(3,.int .u64 a2),(4,.int .u64 a3),(11,.int .u64 a4),(12,.int .u64 a5)]) h) (kvn h0 r)
theorem k5c{r:ket}{o:kfz⊕ket}{a1 a2 a3 a4 a5:Int}(e:khz a1 a2 a3 a4 a5=some o)(y:GoodS (km8 r) r o):km8 r (.fn a1 a2 a3 a4 a5):=by
 intro h;rw[kbat];unfold khz at e;refine qba (λC=>?_) (λC=>?_)
 ·replace e:=(condT C).symm.trans e;cases e;cases y;exact qu ⟨rfl,(qk _)⟩
 ·replace e:=(condF C).symm.trans e;obtain⟨p7,F,e⟩:=qbs.1 e;obtain⟨K,H,I⟩:=kwf F;refine qw H (qw rfl (qw (seen qcl) (qw (seen qcl) ?_)));cases e;exact y I
theorem kbag{r:ket}{o:kfz⊕ket}{a1 a2 a3 a4 a5:Int}(e:kgi a1 a2 a3 a4 a5=some o)(y:GoodS (km8 r) r o):km8 r (.p4 a1 a2 a3 a4 a5):=by
 intro h0 h H;rw[k8o];unfold kgi at e;refine qw (kou a4 a3) (qw rfl (qw (seen qcl) (qw (seen qcl) ?_)));refine qba (λI=>?_) (λI=>?_)
 ·replace e:=(condT I).symm.trans e;cases e;cases y;exact qu ⟨rfl,H⟩
 ·replace e:=(condF I).symm.trans e;refine qba (λK=>?_) (λK=>?_)
  ·replace e:=(condT K).symm.trans e;refine qba (λC=>?_) (λC=>?_)
   ·replace e:=(condT C).symm.trans e;cases e;cases y;exact qu ⟨rfl,H⟩
   ·replace e:=(condF C).symm.trans e;refine qba (λF=>?_) (λF=>?_)
    ·replace e:=(condT F).symm.trans e;cases e;cases y;exact qu ⟨rfl,H⟩
    ·replace e:=(condF F).symm.trans e;cases e;exact y H
  ·replace e:=(condF K).symm.trans e;refine qba (λC=>?_) (λC=>?_)
   ·replace e:=(condT C).symm.trans e;cases e;cases y;exact qu ⟨rfl,H⟩
   ·replace e:=(condF C).symm.trans e;cases e;exact y H
theorem kbjj{s:kfz}{r:ket}(C:Iter kjc s r):km8 r s:=qbe (λs o e y=>by
 cases s with
 | fn a1 a2 a3 a4 a5=>exact @k5c _ _ a1 a2 a3 a4 a5 e y
 | p4 a1 a2 a3 a4 a5=>exact @kbag _ _ a1 a2 a3 a4 a5 e y
 ) C
theorem k5z{h:AH}  {a1 a2 a3 a4 a5:Int}  {r:ket}(q:runP kjc (.fn a1 a2 a3 a4 a5)=some r):Runs (go (.fn kgf [.int .u64 a1,.int .u64 a2,.int .u64 a3,.int .u64 a4,.int .u64 a5]) h) (kvn h r):=kbjj (kd5 q)
end Go.Ab
set_option maxRecDepth 10000
namespace Go.Ab
open Go.Proofs Go.Num
def padD(b:Nat):Nat->Nat->List Nat
 | 0,_=>[]
 | k+1,n=>n%b::padD b k (n/b)
theorem kvb(b:Nat):∀k n,(padD b k n).length=k
 | 0,_=>rfl
 | k+1,n=>by simp[padD,kvb b k]
theorem kzk{b:Nat}(C:0<b):∀k n,∀x∈padD b k n,x<b
 | 0,_=>by simp[padD]
 | k+1,n=>by
  intro x y;rcases qb3.1 y with rfl | y
  ·exact Nat.mod_lt _ C
  ·exact kzk C k _ x y
theorem k2r{b:Nat}(y:0<b):∀(k n:Nat),n<b^k->num b (padD b k n)=n
 | 0,n,h=>by
  rw[Nat.pow_zero]at h;have:n=0:=by omega
  subst this;rfl
 | k+1,n,h=>by rw[padD,num,k2r y k (n/b) (by rw[Nat.div_lt_iff_lt_mul y,<- Nat.pow_succ];exact h)];exact Nat.mod_add_div n b
theorem ky3{b:Nat}(y:0<b):∀{zs:List Nat},(∀x∈zs,x<b)->padD b zs.length (num b zs)=zs
 | [],_=>rfl
 | z::zs,h=>by have C:=h z (by simp);rw[qbz,padD,num,Nat.add_mul_mod_self_left,Nat.mod_eq_of_lt C,Nat.add_mul_div_left _ _ y,Nat.div_eq_of_lt C,Nat.zero_add,ky3 y λx F=>h x (by simp[F])]
theorem Sl.v_inj{s t:Sl}(e:s.v=t.v):s=t:=by
 cases s;cases t;simp only[Sl.v,AV.slice.injEq]at e;simp only[Sl.mk.injEq];exact e
theorem kwp{h:AH}{s:Sl}{xs:List Nat}(n:Nats h s xs){i:Nat}(b:InB s i):∀(k:Nat),k<=xs.length->∃s',go (.pt kbs klc [(0,s.v),(3,.i (k:Int))]) h=some (s'.v,h)/\InB s' i
 | 0,hk=>by
  rw[kox];obtain⟨s',y,_,_⟩:=n.cut (l:=0) (n:=0) (qbn _) hk;have b':=b.cut y;simp at y;simp only[Int.natCast_zero,gt_iff_lt,Int.lt_irrefl,decide_false,cond_false,y,qbr];exact⟨s',rfl,b'⟩
 | k+1,hk=>by
  rw[kox];obtain⟨r,y,C⟩:=n.at (i:=k) (by omega);have hs:=n.short;rw[kop (by omega)];rw[show(decide (((k+1:Nat):Int)>0))=true from by rw[qbu];omega];simp only[cond_true,y,C,qbr,kc];by_cases F:xs[k]=0
  ·rw[F,show(decide (((0:Nat):Int)=0))=true from rfl,cond_true];exact kwp n b k (by omega)
  ·obtain⟨s',e3,_,_⟩:=n.cut (l:=0) (n:=k+1) (by omega) hk;rw[show(decide (((xs[k]:Nat):Int)=0))=false from by rw[qbt];omega];simp only[cond_false];rw[show cutSl s 0 ((k+1:Nat):Int) 1=some s' from e3];exact⟨s',rfl,b.cut e3⟩
theorem knf{h:AH}{s:Sl}{i:Nat}{xs:List Nat}(v:Vec h s i xs):∃s',go (.fn kbs [s.v]) h=some (s'.v,h)/\Nats h s' (digs B (num B xs))/\InB s' i:=by obtain⟨s',e,n,_⟩:=kdo v.nats;obtain⟨s2,y,b⟩:=kwp v.nats v.inB xs.length (qbn _);rw[ks9,v.len,y]at e;have:s2=s':=Sl.v_inj (Prod.mk.inj (Option.some.inj e)).1;subst this;exact⟨s2,by rw[ks9,v.len,y],n,b⟩
theorem B0:0<B:=by decide
theorem kpf{a:Int}{x:Nat}{h:AH}(q:u64P a=some x):∃(s':Sl)(h':AH),go (.fn kff [.int .u64 a]) h=some (s'.v,h')/\Nats h' s' (digs B x)/\Grow h h'/\Own h s':=by obtain⟨rfl,y⟩:=kuh q;exact k0b y
theorem kbdc{h:AH}{s t:Sl}{xs ys:List Nat}(n:Nats h s xs)(m:Nats h t ys)(c:xs.length<=1073741824/\ys.length<=xs.length/\num B ys<=num B xs) :
  ∃(s':Sl)(h':AH),go (.fn kdk [s.v,t.v]) h=some (s'.v,h')/\Nats h' s' (padD B xs.length (num B xs-num B ys))/\Grow h h'/\Own h s':=by
 obtain⟨s',h',zs,e,y,g,o,v,l⟩:=kqf n m c.1 c.2.1 c.2.2;refine⟨s',h',e,?_,g,o⟩;rw[<- v,<- l,ky3 B0 y.lt];exact y
end Go.Ab
set_option maxRecDepth 10000
namespace Go.Ab
open IntKind (wrap)
open Go.Proofs Go.Num
inductive kdx
 | fn (x1:List Nat) (x2:List Nat)
 | p6 (a1:Int) (x2:List Nat) (x3:List Nat) (a4:Int) (x5:List Nat) (a6:Int)
 | p10 (a1:Int) (x2:List Nat) (x3:List Nat) (a4:Int) (x5:List Nat) (a6:Int) (a7:Int) (x8:Nat×Nat)
 | p18 (a1:Int) (x2:List Nat) (x3:List Nat) (x4:List Nat) (a5:Int) (a6:Int)
abbrev kck:=List Nat×List Nat
noncomputable def kmn(x1 x2:List Nat):Option (kdx⊕kck):=(atI x2 (wrap .i64 ((List.length x2:Int)-1))).bind λy=>(need (0<=((y:Int))/\((y:Int))<18446744073709551616)).bind λF=>(runP kkg (.fn x1 (wrap .u64 (((64-bl (Int.toNat ((y:Int))):Nat):Int))))).bind λC=>(runP kkg (.fn x2 (wrap .u64 (((64-bl (Int.toNat ((y:Int))):Nat):Int))))).bind λp6=>(mkI (wrap .i64 ((List.length C:Int)-(List.length (digs B (num B p6)):Int))) (wrap .i64 ((List.length C:Int)-(List.length (digs B (num B p6)):Int)))).bind λH=>some (.inl (.p6 (wrap .u64 (((64-bl (Int.toNat ((y:Int))):Nat):Int))) C (digs B (num B p6)) (List.length (digs B (num B p6)):Int) (List.replicate H 0) (wrap .i64 ((List.length (List.replicate H 0):Int)-1))))
noncomputable def kii(a1:Int)(x2 x3:List Nat)(a4:Int)(x5:List Nat)(a6:Int):Option (kdx⊕kck):=cond (decide (a6>=0)) ((inI (List.length x2) (wrap .i64 (a6+a4))).bind λK=>(inI (List.length x2) (wrap .i64 ((wrap .i64 (a6+a4))-1))).bind λQ=>(inI (List.length x2) (wrap .i64 ((wrap .i64 (a6+a4))-2))).bind λC=>(atI x3 (wrap .i64 (a4-1))).bind λF=>(atI x3 (wrap .i64 (a4-2))).bind λH=>(runP kjc (.fn (((List.getD x2 K 0:Nat):Int)) (((List.getD x2 Q 0:Nat):Int)) (((List.getD x2 C 0:Nat):Int)) ((F:Int)) ((H:Int)))).bind λI=>(cutP (List.length x2) a6 (wrap .i64 ((wrap .i64 (a6+a4))+1))).bind λy=>some (.inl (.p10 a1 x2 x3 a4 x5 a6 I (y.1,y.2)))) ((mkI (List.length (digs B (num B x2)):Int) (List.length (digs B (num B x2)):Int)).bind λU=>some (.inl (.p18 a1 x5 (digs B (num B x2)) (List.replicate U 0) (List.length (digs B (num B x2)):Int) 0)))
noncomputable def khw(a1:Int)(x2 x3:List Nat)(a4:Int)(x5:List Nat)(a6 a7:Int)(x8:Nat×Nat):Option (kdx⊕kck):=(u64P a7).bind λp9=>(need (List.length x3+List.length (digs B p9)<=8796093022208)).bind λy=>(need (List.length (List.take x8.2 (List.drop x8.1 x2))<=8796093022208)).bind λC=>(need (Trim (digs B (num B (List.take x8.2 (List.drop x8.1 x2)))))).bind λF=>(need (Trim (digs B (num B x3*num B (digs B p9))))).bind λH=>cond (decide ((cmp (num B (digs B (num B (List.take x8.2 (List.drop x8.1 x2))))) (num B (digs B (num B x3*num B (digs B p9)))))>=0)) ((need (List.length (List.take x8.2 (List.drop x8.1 x2))<=1073741824/\List.length (digs B (num B x3*num B (digs B p9)))<=List.length (List.take x8.2 (List.drop x8.1 x2))/\num B (digs B (num B x3*num B (digs B p9)))<=num B (List.take x8.2 (List.drop x8.1 x2)))).bind λI=>(setW x2 x8.1 x8.2 (padD B (List.length (List.take x8.2 (List.drop x8.1 x2))) (num B (List.take x8.2 (List.drop x8.1 x2))-num B (digs B (num B x3*num B (digs B p9)))))).bind λK=>(inI (List.length x5) a6).bind λQ=>(u64P a7).bind λU=>some (.inl (.p6 a1 K x3 a4 (List.set x5 Q U) (wrap .i64 (a6-1))))) (some (.inl (.p10 a1 x2 x3 a4 x5 a6 (wrap .u64 (a7-1)) (x8.1,x8.2))))
noncomputable def ken(a1:Int)(x2 x3 x4:List Nat)(a5 a6:Int):Option (kdx⊕kck):=cond (decide (a6<a5)) ((atI x3 a6).bind λQ=>cond (decide (a1<0)) (none) ((inI (List.length x4) a6).bind λy=>(u64P (ishr .u64 ((Q:Int)) a1)).bind λC=>cond (decide (a1>0)) (cond (decide ((wrap .i64 (a6+1))<(List.length x3:Int))) ((inI (List.length x4) a6).bind λF=>(atI x3 (wrap .i64 (a6+1))).bind λH=>cond (decide ((wrap .u64 (64-a1))<0)) (none) ((inI (List.length x4) a6).bind λI=>(u64P (ior .u64 (((List.getD (List.set x4 y C) F 0:Nat):Int)) (ishl .u64 ((H:Int)) (wrap .u64 (64-a1))))).bind λK=>some (.inl (.p18 a1 x2 x3 (List.set (List.set x4 y C) I K) a5 (wrap .i64 (a6+1)))))) (some (.inl (.p18 a1 x2 x3 (List.set x4 y C) a5 (wrap .i64 (a6+1)))))) (some (.inl (.p18 a1 x2 x3 (List.set x4 y C) a5 (wrap .i64 (a6+1))))))) (some (.inr (digs B (num B x2),digs B (num B x4))))
noncomputable def ki4:kdx->Option (kdx⊕kck)
 | .fn x1 x2=>kmn x1 x2
 | .p6 a1 x2 x3 a4 x5 a6=>kii a1 x2 x3 a4 x5 a6
 | .p10 a1 x2 x3 a4 x5 a6 a7 x8=>khw a1 x2 x3 a4 x5 a6 a7 x8
 | .p18 a1 x2 x3 x4 a5 a6=>ken a1 x2 x3 x4 a5 a6
@[reducible] def knw(h0:AH)(r:kck)(v:AV)(h':AH):Prop:=∃s1:Sl,∃s2:Sl,v=.tup [s1.v,s2.v]/\Nats h' s1 r.1/\Nats h' s2 r.2/\Grow h0 h'/\Own h0 s1/\Own h0 s2
def kgc(r:kck):kdx->Prop
 | .fn x1 x2=>∀{h:AH}{a1:Sl}{a2:Sl},Nats h a1 x1->Nats h a2 x2->Runs (go (.fn kcg [a1.v,a2.v]) h) (knw h r)
 | .p6 a1 x2 x3 a4 x5 a6=>∀{h0 h:AH}{a2:Sl}{a3:Sl}{a5:Sl}{i2:Nat}{y:Nat},Grow h0 h->Vec h a2 i2 x2->Nats h a3 x3->Vec h a5 y x5->h0.blks.size<=i2->h0.blks.size<=y->Av a3 i2 x3->Av a3 y x3->i2≠y->Runs (go (.pt kcg ko0 [(6,.int .u64 a1),(7,a2.v),(8,a3.v),(9,.i a4),(10,a5.v),(11,.i a6)]) h) (knw h0 r)
 | .p10 a1 x2 x3 a4 x5 a6 a7 x8=>∀{h0 h:AH}{a2:Sl}{a3:Sl}{a5:Sl}{a8:Sl}{i2:Nat}{y:Nat},Grow h0 h->Vec h a2 i2 x2->Nats h a3 x3->Vec h a5 y x5->h0.blks.size<=i2->h0.blks.size<=y->Win a8 i2 x8.1 x8.2->x8.1+x8.2<=List.length x2->Av a3 i2 x3->Av a3 y x3->i2≠y->Runs (go (.pt kcg kpp [(6,.int .u64 a1),(7,a2.v),(8,a3.v),(9,.i a4),(10,a5.v),(11,.i a6),(12,.int .u64 a7),(13,a8.v)]) h) (knw h0 r)
 | .p18 a1 x2 x3 x4 a5 a6=>∀{h0 h:AH}{a2:Sl}{a3:Sl}{a4:Sl}{i2:Nat}{i4:Nat},Grow h0 h->Vec h a2 i2 x2->Nats h a3 x3->Vec h a4 i4 x4->h0.blks.size<=i2->h0.blks.size<=i4->Av a3 i2 x3->Av a3 i4 x3->i2≠i4->Runs (go (.pt kcg kje [(6,.int .u64 a1),(10,a2.v),(15,a3.v),(16,a4.v),(112,.i a5),(113,.i a6)]) h) (knw h0 r)
theorem k7o{r:kck}{o:kdx⊕kck}{x1 x2:List Nat}(e:kmn x1 x2=some o)(y:GoodS (kgc r) r o):kgc r (.fn x1 x2):=by intro h a1 a2 n1 n2;rw[k48];unfold kmn at e;rw[n2.len];obtain⟨y3,q3,e⟩:=qbs.1 e;obtain⟨r3,j3,l3⟩:=n2.atI q3;refine qw j3 (qw (rdc l3 qcl) ?_);obtain⟨C,Q,e⟩:=qbs.1 e;refine qw (k1y ((y3:Int))  C.down) (qw (seen qcl) ?_);obtain⟨p5,q5,e⟩:=qbs.1 e;obtain⟨_,H5,e5,s5,j5,rfl,F,I,o5⟩:=kxa n1 q5;refine qw e5 (qw (seen qck) ?_);rw[F.nats.len];obtain⟨p6,q6,e⟩:=qbs.1 e;obtain⟨_,H6,e6,s6,j6,rfl,U,H,o6⟩:=kxa (n2.grow I) q6;refine qw e6 (qw (seen qck) ?_);obtain⟨s7,e7,V,W⟩:=knf U;refine qw e7 (qw (seen qck) ?_);rw[V.len];obtain⟨m8,q8,e⟩:=qbs.1 e;refine Runs.mk q8 kda λs8 H8 Z K=>?_;rw[Z.nats.len];cases e;exact y ((I.trans H).trans K) (F.grow (H.trans K)) (V.grow K) Z o5 (qbo ((I.trans H)).size (qbn _)) (Av.of_in W (Nat.ne_of_gt (qbp (F).inn o6))) (Av.of_in W (Nat.ne_of_lt (qbp (U).inn (qbn _)))) (Nat.ne_of_lt (qbp ((F.grow H)).inn (qbn _)))
theorem kbaj{r:kck}{o:kdx⊕kck}{a1:Int}{x2 x3:List Nat}{a4:Int}{x5:List Nat}{a6:Int}(e:kii a1 x2 x3 a4 x5 a6=some o)(H:GoodS (kgc r) r o):kgc r (.p6 a1 x2 x3 a4 x5 a6):=by
 intro h0 h a2 a3 a5 i2 i5 g0 y W v5 aa Q I K C;rw[kbbh];unfold kii at e;rw[y.nats.len];rw[W.len];refine qba (λk7=>?_) (λk7=>?_)
 ·replace e:=(condT k7).symm.trans e;obtain⟨j8,q8,e⟩:=qbs.1 e;refine qw (y.idx rfl q8) (qw (y.rd rfl q8 qcl) ?_);obtain⟨j9,Z,e⟩:=qbs.1 e;refine qw (y.idx rfl Z) (qw (y.rd rfl Z qcl) ?_);obtain⟨am,U,e⟩:=qbs.1 e;refine qw (y.idx rfl U) (qw (y.rd rfl U qcl) ?_);obtain⟨an,ac,e⟩:=qbs.1 e;obtain⟨ap,ad,ae⟩:=W.atI ac;refine qw ad (qw (rdc ae qcl) ?_);obtain⟨aq,af,e⟩:=qbs.1 e;obtain⟨ar,ag,ah⟩:=W.atI af;refine qw ag (qw (rdc ah qcl) ?_);obtain⟨au,ai,e⟩:=qbs.1 e;obtain⟨_,aw,aj,rfl,F⟩:=k5z ai;refine qw aj (qw (seen qcl) ?_);obtain⟨ax,V,e⟩:=qbs.1 e;obtain⟨ay,ak,al⟩:=(y.grow F).cutW rfl V;refine qw ak ?_;cases e;exact H (g0.trans F) (y.grow F) (W.grow F) (v5.grow F) aa Q al (koj V).2.2.2 I K C
 ·replace e:=(condF k7).symm.trans e;obtain⟨s8,e8,n8,i8⟩:=knf y;refine qw e8 (qw (seen qck) ?_);rw[n8.len];obtain⟨m9,Z,e⟩:=qbs.1 e;refine Runs.mk Z kda λs9 H9 v9 g9=>?_;cases e;exact H (g0.trans g9) (v5.grow g9) (n8.grow g9) v9 Q (qbo (g0).size (qbn _)) (Av.of_in i8 C) (Av.of_in i8 (Nat.ne_of_lt (qbp (y).inn (qbn _)))) (Nat.ne_of_lt (qbp (v5).inn (qbn _)))
theorem kbhq{r:kck}{o:kdx⊕kck}{a1:Int}{x2 x3:List Nat}{a4:Int}{x5:List Nat}{a6 a7:Int}{x8:Nat×Nat}(e:khw a1 x2 x3 a4 x5 a6 a7 x8=some o)(ah:GoodS (kgc r) r o):kgc r (.p10 a1 x2 x3 a4 x5 a6 a7 x8):=by
 intro h0 h a2 a3 a5 a8 i2 i5 g0 Z n3 v5 ai aj w8 ak U V F;rw[kbcn];unfold khw at e;rw[v5.nats.len];obtain⟨p9,q9,e⟩:=qbs.1 e;obtain⟨s9,H9,e9,n9,H,o9⟩:=kpf q9;refine qw e9 (qw (seen qck) ?_);obtain⟨al,bk,e⟩:=qbs.1 e;obtain⟨b7,b8,bm,am,y,az⟩:=kst (n3.grow H) n9  al.down;refine qw bm (qw (seen qck) ?_);obtain⟨an,bn,e⟩:=qbs.1 e;obtain⟨b9,ca,bp,a0,C,aa⟩:=kkf (w8.nats (Z.grow (H.trans y)) ak)  an.down;refine qw bp (qw (seen qck) ?_);obtain⟨cb,bq,ba,bb⟩:=kdo a0;refine qw bq (qw (seen qck) ?_);obtain⟨ap,br,e⟩:=qbs.1 e;obtain⟨aq,bt,e⟩:=qbs.1 e;refine qw (knk ba (am.grow C)  ap.down aq.down) (qw (seen qcl) ?_);refine qba (λar=>?_) (λar=>?_)
 ·replace e:=(condT ar).symm.trans e;obtain⟨au,bu,e⟩:=qbs.1 e;obtain⟨cc,cd,bv,bc,I,bd⟩:=kbdc (w8.nats (Z.grow ((H.trans y).trans C)) ak) (am.grow C)  au.down;refine qw bv (qw (seen qck) ?_);obtain⟨ce,be,e⟩:=qbs.1 e;have b6:=ky4 be;obtain⟨cf,bw,bx,K⟩:=(Z.grow (((H.trans y).trans C).trans I)).copyW w8 bc be;refine qw bw ?_;have aw:=(n3.grow (((H.trans y).trans C).trans I)).upda U K;have ax:=(n9.grow ((y.trans C).trans I)).upda (qbh o9 (Z).inn) K;have ac:=(am.grow (C.trans I)).upda (qbh az ((Z.grow H)).inn) K;have ad:=(a0.grow I).upda (qbh aa ((Z.grow (H.trans y))).inn) K;have ae:=(ba.grow I).upda (qbh (bb _ aa) ((Z.grow (H.trans y))).inn) K;have af:=bc.upda (qbh bd ((Z.grow ((H.trans y).trans C))).inn) K;have W:=(v5.grow (((H.trans y).trans C).trans I)).updr (Ne.symm F) K;obtain⟨ch,bf,e⟩:=qbs.1 e;refine qw (W.idx rfl bf) ?_;obtain⟨ci,bz,e⟩:=qbs.1 e;refine qbf W rfl bf bz λcj b0 Q=>?_;have ay:=aw.upda V Q;have b5:=ax.upda (qbh o9 (v5).inn) Q;have bg:=ac.upda (qbh az ((v5.grow H)).inn) Q;have bh:=ad.upda (qbh aa ((v5.grow (H.trans y))).inn) Q;have bi:=ae.upda (qbh (bb _ aa) ((v5.grow (H.trans y))).inn) Q;have bj:=af.upda (qbh bd ((v5.grow ((H.trans y).trans C))).inn) Q;have ag:=bx.updr F Q;cases e;exact ah ((((((g0.trans H).trans y).trans C).trans I).updr ai K).updr aj Q) ag ay b0 ai aj U V F
 ·replace e:=(condF ar).symm.trans e;cases e;exact ah (((g0.trans H).trans y).trans C) (Z.grow ((H.trans y).trans C)) (n3.grow ((H.trans y).trans C)) (v5.grow ((H.trans y).trans C)) ai aj w8 ak U V F
theorem kbff{r:kck}{o:kdx⊕kck}{a1:Int}{x2 x3 x4:List Nat}{a5 a6:Int}(e:ken a1 x2 x3 x4 a5 a6=some o)(Q:GoodS (kgc r) r o):kgc r (.p18 a1 x2 x3 x4 a5 a6):=by
 intro h0 h a2 a3 a4 i2 i4 g0 v2 n3 v4 W H I y C;rw[kbf1];unfold ken at e;rw[n3.len];rw[v4.nats.len];refine qba (λk7=>?_) (λk7=>?_)
 ·replace e:=(condT k7).symm.trans e;obtain⟨y8,q8,e⟩:=qbs.1 e;obtain⟨r8,j8,l8⟩:=n3.atI q8;refine qw j8 (qw (rdc l8 qcl) ?_);refine qba (λk9=>?_) (λk9=>?_)
  ·replace e:=(condT k9).symm.trans e;cases e
  ·replace e:=(condF k9).symm.trans e;obtain⟨aq,ag,e⟩:=qbs.1 e;refine qw (v4.idx rfl ag) ?_;obtain⟨ar,aj,e⟩:=qbs.1 e;refine qbf v4 rfl ag aj λau U V=>?_;have F:=n3.upda y V;have K:=v2.updr C V;refine qba (λZ=>?_) (λZ=>?_)
   ·replace e:=(condT Z).symm.trans e;refine qba (λaa=>?_) (λaa=>?_)
    ·replace e:=(condT aa).symm.trans e;obtain⟨aw,ah,e⟩:=qbs.1 e;refine qw (U.idx (by simp only[qb4]) ah) (qw (U.rd (by simp only[qb4]) ah qcl) ?_);obtain⟨ax,ak,e⟩:=qbs.1 e;obtain⟨ay,al,am⟩:=F.atI ak;refine qw al (qw (rdc am qcl) ?_);refine qba (λac=>?_) (λac=>?_)
     ·replace e:=(condT ac).symm.trans e;cases e
     ·replace e:=(condF ac).symm.trans e;obtain⟨az,ai,e⟩:=qbs.1 e;refine qw (U.idx (by simp only[qb4]) ai) ?_;obtain⟨a0,an,e⟩:=qbs.1 e;refine qbf U (by simp only[qb4]) ai an λba ap ad=>?_;have ae:=F.upda y ad;have af:=K.updr C ad;cases e;exact Q ((g0.updr H V).updr H ad) af ae ap W H I y C
    ·replace e:=(condF aa).symm.trans e;cases e;exact Q (g0.updr H V) K F U W H I y C
   ·replace e:=(condF Z).symm.trans e;cases e;exact Q (g0.updr H V) K F U W H I y C
 ·replace e:=(condF k7).symm.trans e;obtain⟨s8,e8,n8,i8⟩:=knf v2;refine qw e8 (qw (seen qck) ?_);obtain⟨s9,e9,n9,i9⟩:=knf v4;refine qw e9 (qw (seen qck) ?_);cases e;cases Q;exact qu ⟨s8,s9,rfl,n8,n9,g0,((i8.own W).of_le (qk _)),((i9.own H).of_le (qk _))⟩
theorem kbh1{s:kdx}{r:kck}(C:Iter ki4 s r):kgc r s:=qbe (λs o e y=>by
 cases s with
 | fn x1 x2=>exact @k7o _ _ x1 x2 e y
 | p6 a1 x2 x3 a4 x5 a6=>exact @kbaj _ _ a1 x2 x3 a4 x5 a6 e y
 | p10 a1 x2 x3 a4 x5 a6 a7 x8=>exact @kbhq _ _ a1 x2 x3 a4 x5 a6 a7 x8 e y
 | p18 a1 x2 x3 x4 a5 a6=>exact @kbff _ _ a1 x2 x3 x4 a5 a6 e y
 ) C
end Go.Ab
