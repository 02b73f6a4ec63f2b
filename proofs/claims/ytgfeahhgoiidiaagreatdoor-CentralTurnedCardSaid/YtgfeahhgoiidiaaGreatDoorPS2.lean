/- squeezed -/
import Derived.Test.YtgfeahhgoiidiaaGreatDoorU1
import Derived.Test.YtgfeahhgoiidiaaGreatDoorPAbsS
set_option linter.unusedVariables false
set_option linter.unusedSimpArgs false
set_option linter.unusedSectionVars false

set_option maxRecDepth 10000
namespace Go.Ab
open Go.Proofs Go.Num
@[reducible] def B:Nat:=18446744073709551616
theorem B2:2≤B:=by decide
def rt(xs:List Nat):Bool:=decide (xs.length≤64)&&(decide (xs.length=0)||!decide (xs.getD (xs.length-1) 0=0))
theorem kcm{xs:List Nat}{i:Nat}(h:i<xs.length):xs.getD i 0=xs[i]:=by simp[List.getD,h]
theorem rt_iff{xs:List Nat}:rt xs=true↔xs.length≤64∧Trim xs:=by
 unfold rt Trim;simp only[Bool.and_eq_true,decide_eq_true_eq,Bool.or_eq_true,Bool.not_eq_true',decide_eq_false_iff_not,List.length_eq_zero_iff];refine and_congr_right fun _=>?_;constructor
 ·rintro (h | h) hne
  ·exact absurd h hne
  ·rwa[List.getLast_eq_getElem,← kcm]
 ·intro h;by_cases he:xs=[]
  ·exact .inl he
  ·right
   have:=h he;rwa[List.getLast_eq_getElem,← kcm]at this
theorem Nats.last{h:AH}{s:Sl}{xs:List Nat}(n:Nats h s xs)(hx:xs.length≠0):∃r,idx s.ref s.len (IntKind.wrap .i64 ((s.len:Int)-1)) 1=some r∧h.cell r=some (.int .u64 ((xs.getD (xs.length-1) 0:Nat):Int)):=by
 obtain⟨k,hk⟩:∃k,xs.length=k+1:=⟨xs.length-1,by omega⟩;have hs:=n.short;obtain⟨r,e1,e2⟩:=n.at (i:=k) (by omega);rw[n.len,hk]at e1⊢;rw[kqb (by omega)];refine⟨r,e1,?_⟩;rw[e2,show k+1-1=k from rfl,kcm (by omega)]
theorem kfp{h:AH}{s:Sl}{xs:List Nat}(n:Nats h s xs):go (.fn F.kd5 [s.v]) h=some (.bool (rt xs),h):=by
 rw[k04];have hl:=n.len;refine kkj (fun h1=>?_) (fun h1=>?_)
 ·have h1:xs.length≤64:=by rw[decide_eq_true_eq]at h1;omega
  refine kkj (fun h2=>?_) (fun h2=>?_)
  ·have h2:xs.length=0:=by rw[decide_eq_true_eq]at h2;omega
   simp[rt,h2]
  ·have h2:xs.length≠0:=by rw[decide_eq_false_iff_not]at h2;omega
   obtain⟨r,e1,e2⟩:=n.last h2;simp[e1,e2,rt,h1];cases xs
   ·simp at h2
   ·simp
 ·have h1:¬xs.length≤64:=by rw[decide_eq_false_iff_not]at h1;omega
  simp[rt,h1]
theorem kty{h:AH}{s:Sl}{xs:List Nat}(n:Nats h s xs):∀(k:Nat),k≤xs.length→(∀i,k≤i→(hi:i<xs.length)→xs[i]=0)→
  ∃s',go (.pt F.kbr Td.kkk [(0,s.v),(3,.int .i64 (k:Int))]) h=some (s'.v,h)∧Nats h s' (digs B (num B xs))∧∀h0,Own h0 s→Own h0 s'
 | 0,hk,hz=>by
  rw[kk7];obtain⟨s',e1,e2,e3⟩:=n.cut (l:=0) (n:=0) (Nat.le_refl _) hk;have:=kv6 B2 n.lt hz hk (.inl rfl);simp at e1;simp only[Int.natCast_zero,gt_iff_lt,Int.lt_irrefl,decide_false,cond_false,e1,Option.bind_some];refine⟨s',rfl,?_,e3⟩;rw[← this]
  simpa using e2
 | k+1,hk,hz=>by
  rw[kk7];obtain⟨r,e1,e2⟩:=n.at (i:=k) (by omega);have hs:=n.short;rw[kqb (by omega)];rw[show(decide (((k+1:Nat):Int)>0))=true from by rw[decide_eq_true_eq];omega];simp only[cond_true,e1,e2,Option.bind_some,kb];by_cases hx:xs[k]=0
  ·rw[hx,show(decide (((0:Nat):Int)=0))=true from rfl,cond_true];refine kty n k (by omega) fun i hi hil=>?_;rcases Nat.lt_or_ge k i with h1 | h1
   ·exact hz i (by omega) hil
   ·have:i=k:=by omega
    subst this;exact hx
  ·obtain⟨s',e3,e4,e5⟩:=n.cut (l:=0) (n:=k+1) (by omega) hk;have ht:=kv6 B2 n.lt hz hk (.inr ⟨by omega,by simpa using hx⟩);rw[show(decide (((xs[k]:Nat):Int)=0))=false from by rw[decide_eq_false_iff_not];omega];simp only[cond_false];rw[show cutSl s 0 ((k+1:Nat):Int) 1=some s' from e3];refine⟨s',rfl,?_,e5⟩;rw[← ht]
   simpa using e4
theorem kc9{h:AH}{s:Sl}{xs:List Nat}(n:Nats h s xs):∃s',go (.fn F.kbr [s.v]) h=some (s'.v,h)∧Nats h s' (digs B (num B xs))∧∀h0,Own h0 s→Own h0 s':=by
 rw[kpl,n.len];exact kty n xs.length (Nat.le_refl _) fun i h1 h2=>by omega
end Go.Ab

/- squeezed -/
set_option maxRecDepth 10000
namespace Go.Ab
open Go.Proofs Go.Num
theorem k09{n:Nat}(h:n≤8796093022208):growOk Pg n T.kj 1=true:=by
 unfold growOk;rw[k88,ken];have h1:n*8≤ki:=by simp only[ki];omega
 have h2:n≤ki:=by simp only[ki];omega
 simp[h1,h2]
theorem ki9{h:AH}{s:Sl}{xs:List Nat}(n:Nats h s xs)(hl:xs.length≤8796093022208):∃s' h',go (.fn F.kgo [s.v]) h=some (s'.v,h')∧Nats h' s' xs∧Grow h h'∧Own h s':=by
 rw[kbav];cases hr:s.ref with
 | none =>
  have:xs=[]:=by
   cases xs with
   | nil=>rfl
   | cons x xs =>
    obtain⟨r,e1,_⟩:=n.cells.get 0 (u64 x) rfl;rw[hr]at e1;cases e1
  subst this;exact⟨_,_,rfl,Nats.nil h,Grow.refl h,Own.nil h⟩
 | some r =>
  simp only[Option.isNone_some,cond_false,kcq];have n1:=n.grow (Grow.push h (.cells [] T.kj));have c1:=n1.cells;rw[← k3d]at c1;rw[kuz c1,n.len];simp only[Option.bind_some];have own:∀(m:Nat)(c:Cap),Own h ⟨some (.new h.blks.size 0),m,c⟩:=fun m c r hr=>by cases hr;exact⟨_,_,rfl,Nat.le_refl _⟩
  cases xs with
  | nil =>
   obtain⟨s',e1,e2,e3⟩:=k2o (P:=Pg) (elem:=T.kj) (m:=1) (by omega) (Cells.of_has (n:=1) (m:=0) (AH.has_push h [] T.kj) rfl);simp only[List.map_nil,List.length_nil,e1,Option.bind_some,asSl_v];exact⟨s',_,rfl,⟨e2,by simp,by simp⟩,Grow.push _ _,e3 h (own 0 (.is 0))⟩
  | cons x xs =>
   rw[kfx (c:=0) rfl (by simp) (k09 (by simpa using hl)) (Cells.of_has (n:=1) (m:=0) (AH.has_push h [] T.kj) rfl)];simp only[Option.bind_some,asSl_v];refine⟨_,_,rfl,⟨⟨rfl,by simp,fun i v hv=>⟨_,rfl,by rw[Ref.add_new,Nat.zero_add,AH.cell_push];exact hv⟩⟩,n.lt,n.short⟩,(Grow.push _ _).trans (Grow.push _ _),fun r hr=>?_⟩;cases hr;exact⟨_,_,rfl,by simp⟩
def fromI(neg:Bool)(xs:List Nat):Bool×List Nat:=if rt xs=true∧xs≠[]then(neg,xs)else(false,[])
@[reducible] def nilI:List AV:=[.bool false,(⟨none,0,.is 0⟩:Sl).v]
theorem kcx{h:AH}{s:Sl}{xs:List Nat}(n:Nats h s xs)(neg:Bool):∃(s':Sl)(h':AH),go (.fn F.kb5 [.bool neg,s.v]) h=some (.agg [.bool (fromI neg xs).1,s'.v],h')∧Nats h' s' (fromI neg xs).2∧Grow h h'∧Own h s':=by
 rw[k7h];simp only[kcq];have b0:=AH.has_push h nilI T.kg;have g0:=Grow.push h (.cells nilI T.kg);have n0:=n.grow g0;rw[kfp n0];simp only[Option.bind_some,kca,Ref.add_new,Nat.zero_add];generalize h.push (.cells nilI T.kg)=h0 at *
 cases hrt:rt xs with
 | false =>
  rw[show fromI neg xs=(false,[])from by simp[fromI,hrt]];refine⟨⟨none,0,.is 0⟩,h0.upd h.blks.size nilI T.kg,?_,Nats.nil _,g0.upd (Nat.le_refl _) _ _,Own.nil h⟩;simp[b0.puts_all,AH.cell_upd b0]
 | true =>
  by_cases hx:xs=[]
  ·rw[show fromI neg xs=(false,[])from by simp[fromI,hx]];have:s.len=0:=by rw[n.len,hx];rfl
   refine⟨⟨none,0,.is 0⟩,h0.upd h.blks.size nilI T.kg,?_,Nats.nil _,g0.upd (Nat.le_refl _) _ _,Own.nil h⟩;simp[b0.puts_all,AH.cell_upd b0,this]
  ·rw[show fromI neg xs=(neg,xs)from by simp[fromI,hx,hrt]];have:s.len≠0:=by rw[n.len];simpa using hx
   have h64:=(rt_iff.1 hrt).1;obtain⟨s',h',e1,e2,e3,e4⟩:=ki9 n0 (by omega);have b1:=e3.has b0;refine⟨s',h'.upd h.blks.size [.bool neg,s'.v] T.kg,?_,?_,(g0.trans e3).upd (Nat.le_refl _) _ _,fun r hr=>?_⟩
   ·simp[e1,b1.puts_all,AH.cell_upd b1,this]
   ·exact e2.upd e4 b0.lt _ _
   ·exact e4.of_le g0 r hr
theorem krs{h:AH}{x:Nat}(hx:x<B):∃(s':Sl)(h':AH),go (.fn F.keb [.int .u64 (x:Int)]) h=some (s'.v,h')∧Nats h' s' (digs B x)∧Grow h h'∧Own h s':=by
 rw[k0v];simp only[kcq];have n0:Nats (h.push (.cells [u64 x] T.kj)) ⟨some (.new h.blks.size 0),1,.is 1⟩ [x]:=⟨Cells.of_has (AH.has_push h [u64 x] T.kj) rfl,by simpa using hx,by simp⟩;obtain⟨s',e1,e2,e3⟩:=kc9 n0;rw[e1];simp only[Option.bind_some,asSl_v];refine⟨s',_,rfl,by simpa[num]using e2,Grow.push _ _,e3 h fun r hr=>by cases hr;exact⟨_,_,rfl,Nat.le_refl _⟩⟩
def ofI(n:Int):Bool×List Nat:=fromI (decide (n<0)) (digs B n.natAbs)
theorem kzq{h:AH}{n:Int}(h1:-9223372036854775808≤n)(h2:n≤9223372036854775807):∃(s':Sl)(h':AH),go (.fn F.kgc [.int .i64 n]) h=some (.agg [.bool (ofI n).1,s'.v],h')∧Nats h' s' (ofI n).2∧Grow h h'∧Own h s':=by
 rw[kxn];simp only[kcq];have b0:=AH.has_push h nilI T.kg;have g0:=Grow.push h (.cells nilI T.kg);generalize h.push (.cells nilI T.kg)=h0 at *
 have key:∀(neg:Bool)(x:Nat),x<B→fromI neg (digs B x)=ofI n→∃(s':Sl)(h':AH),
   ((go (.fn F.keb [.int .u64 (x:Int)]) h0).bind fun q3 =>
    ((some q3.1).bind AV.asSl).bind fun l4 =>
    (go (.fn F.kb5 [.bool neg,l4.v]) q3.2).bind fun q5 =>
    (AV.asAgg q5.1).bind fun cs6 =>
    cond (Nat.beq cs6.length 2) (
    ((cs6[0]?).bind AV.asBool).bind fun b7 =>
    ((cs6[1]?).bind AV.asSl).bind fun l8 =>
    (q5.2.puts (.new h.blks.size 0) [.bool b7,l8.v]).bind fun h9 =>
    ((h9.cell ((Ref.new h.blks.size 0).add 0)).bind AV.asBool).bind fun b10 =>
    ((h9.cell ((Ref.new h.blks.size 0).add 1)).bind AV.asSl).bind fun l11 =>
    some (AV.agg [.bool b10,l11.v],h9)) none)=some (AV.agg [.bool (ofI n).1,s'.v],h')∧Nats h' s' (ofI n).2∧Grow h h'∧Own h s':=by
  intro neg x hx he;obtain⟨s1,hh1,e1,n1,g1,o1⟩:=krs (h:=h0) hx;obtain⟨s2,hh2,e2,n2,g2,o2⟩:=kcx n1 neg;rw[he]at e2 n2;have b2:=(g1.trans g2).has b0;refine⟨s2,hh2.upd h.blks.size [.bool (ofI n).1,s2.v] T.kg,?_,n2.upd o2 (g1.has b0).lt _ _,(g0.trans (g1.trans g2)).upd (Nat.le_refl _) _ _,o2.of_le (g0.trans g1)⟩;simp[e1,e2,b2.puts_all,AH.cell_upd b2]
 by_cases hn:n<0
 ·rw[show decide (n<0)=true from decide_eq_true hn,cond_true]
  have hx:IntKind.wrap .u64 (0-IntKind.wrap .u64 n)=((n.natAbs:Nat):Int):=by
   rw[wrapU,wrapU];omega
  rw[hx];exact key true n.natAbs (by show _<18446744073709551616;omega) (by simp[ofI,hn])
 ·rw[show decide (n<0)=false from decide_eq_false hn,cond_false]
  have hx:IntKind.wrap .u64 n=((n.natAbs:Nat):Int):=by
   rw[wrapU];omega
  rw[hx];exact key false n.natAbs (by show _<18446744073709551616;omega) (by simp[ofI,hn])
end Go.Ab

/- squeezed -/
set_option maxRecDepth 10000
namespace Go.Ab
open Go.Proofs Go.Num
def rtI(neg:Bool)(xs:List Nat):Bool:=rt xs&&(!neg||decide (xs≠[]))
theorem kim{h:AH}{s:Sl}{xs:List Nat}(n:Nats h s xs)(neg:Bool):∃h',go (.fn F.ke7 [.agg [.bool neg,s.v]]) h=some (.bool (rtI neg xs),h')∧Grow h h':=by
 rw[k9a];simp only[kcq];have b0:=AH.has_push h [.bool neg,s.v] T.kg;have g0:=Grow.push h (.cells [.bool neg,s.v] T.kg);have n0:=n.grow g0;have hl:=n.len;generalize h.push (.cells [.bool neg,s.v] T.kg)=h0 at *
 refine⟨h0,?_,g0⟩;simp[b0.cell,kfp n0,rtI];cases rt xs<;>cases neg<;>simp[hl];cases xs<;>simp
end Go.Ab

/- squeezed -/
set_option maxRecDepth 10000
namespace Go.Ab
open Go.Proofs Go.Num
structure Rows(h:AH)(s:Sl)(rows:List (Sl×List Nat)):Prop where
 cells:Cells h s 1 (rows.map fun p=>p.1.v)
 each:∀p∈rows,Nats h p.1 p.2
 short:rows.length≤9223372036854775807
theorem Rows.len{h:AH}{s:Sl}{rows:List (Sl×List Nat)}(n:Rows h s rows):s.len=rows.length:=by
 have:=n.cells.len
 simpa using this
theorem Rows.at{h:AH}{s:Sl}{rows:List (Sl×List Nat)}(n:Rows h s rows){i:Nat}(hi:i<rows.length):∃r,idx s.ref s.len (i:Int) 1=some r∧h.cell r=some (rows[i].1).v:=by
 obtain⟨r,e1,e2⟩:=n.cells.get i (rows[i].1).v (by simp[hi]);refine⟨r.add i,?_,e2⟩;rw[e1,kcw _ _ _ _ (by omega) (by rw[n.len];omega)];simp
theorem Rows.two{h:AH}{a b:Sl}{xs ys:List Nat}(n:Nats h a xs)(m:Nats h b ys):Rows (h.push (.cells [a.v,b.v] T.kci)) ⟨some (.new h.blks.size 0),2,.is 2⟩ [(a,xs),(b,ys)]:=by
 refine⟨Cells.of_has (AH.has_push _ _ _) rfl,fun p hp=>?_,by simp⟩;have g:=Grow.push h (.cells [a.v,b.v] T.kci);simp at hp;rcases hp with rfl | rfl
 ·exact n.grow g
 ·exact m.grow g
end Go.Ab

/- squeezed -/
set_option maxRecDepth 10000
namespace Go.Ab
open Go.Proofs Go.Num
theorem kvy{b:Nat}(hb:1≤b){xs:List Nat}(hx:∀x∈xs,x<b){k:Nat}(hk:k≤xs.length):num b (xs.take k)<b^k:=by
 have:=num_lt (b:=b) hb (xs:=xs.take k) fun x h=>hx x (List.mem_of_mem_take h);rwa[List.length_take,Nat.min_eq_left hk]at this
theorem kzw{b:Nat}(hb:1≤b){xs ys:List Nat}(hx:∀x∈xs,x<b)(hy:∀x∈ys,x<b){k:Nat}(h1:k<xs.length)(h2:k<ys.length) :
  cmp (num b (xs.take (k+1))) (num b (ys.take (k+1)))=if xs[k]<ys[k]then -1 else if xs[k]=ys[k]then cmp (num b (xs.take k)) (num b (ys.take k))else 1:=by
 rw[kc3 b h1,kc3 b h2];exact k9e (kvy hb hx (by omega)) (kvy hb hy (by omega))
theorem k7y{b:Nat}(hb:2≤b){xs ys:List Nat}(hx:∀x∈xs,x<b)(hy:∀x∈ys,x<b)(tx:Trim xs)(ty:Trim ys)(h:xs.length≠ys.length):cmp (num b xs) (num b ys)=if xs.length<ys.length then -1 else 1:=by
 rcases Nat.lt_or_ge xs.length ys.length with h1 | h1
 ·have:=knw hb hx hy ty h1;simp[cmp,this,h1]
 ·have:=knw hb hy hx tx (by omega);rw[if_neg (by omega)];unfold cmp;rw[if_neg (by omega),if_neg (by omega)]
theorem ktj{h:AH}{s t:Sl}{xs ys:List Nat}(n:Nats h s xs)(m:Nats h t ys)(hl:xs.length=ys.length):∀(k:Nat),k≤xs.length→
  go (.pt F.kd7 Td.kng [(0,s.v),(1,t.v),(5,.int .i64 ((k:Int)-1))]) h=some (.int .i64 (cmp (num B (xs.take k)) (num B (ys.take k))),h)
 | 0,hk=>by
  rw[kun];rfl
 | k+1,hk=>by
  have hs:=n.short;obtain⟨r,e1,e2⟩:=n.at (i:=k) (by omega);obtain⟨q,e3,e4⟩:=m.at (i:=k) (by omega);rw[kun,show(((k+1:Nat):Int)-1)=(k:Int)from by omega,show decide ((k:Int)≥0)=true from by rw[decide_eq_true_eq];omega];simp only[cond_true,e1,e3,e2,e4,Option.bind_some,kb];rw[kzw (by decide) n.lt m.lt (by omega) (by omega),wrap64 (n:=(k:Int)-1) (by omega) (by omega),ktj n m hl k (by omega)];by_cases h1:xs[k]=ys[k]'(by omega)
  ·rw[show decide (((xs[k]:Nat):Int)=((ys[k]'(by omega):Nat):Int))=true from by rw[decide_eq_true_eq];omega];simp[h1]
  ·rw[show decide (((xs[k]:Nat):Int)=((ys[k]'(by omega):Nat):Int))=false from by rw[decide_eq_false_iff_not];omega];by_cases h2:xs[k]<ys[k]'(by omega)
   ·rw[show decide (((xs[k]:Nat):Int)<((ys[k]'(by omega):Nat):Int))=true from by rw[decide_eq_true_eq];omega];simp[h2]
   ·rw[show decide (((xs[k]:Nat):Int)<((ys[k]'(by omega):Nat):Int))=false from by rw[decide_eq_false_iff_not];omega];simp[h1,h2]
theorem kl9{h:AH}{s t:Sl}{xs ys:List Nat}(n:Nats h s xs)(m:Nats h t ys)(tx:Trim xs)(ty:Trim ys):go (.fn F.kd7 [s.v,t.v]) h=some (.int .i64 (cmp (num B xs) (num B ys)),h):=by
 have hs:=n.short;have ht:=m.short;rw[kyt,n.len,m.len];by_cases hl:xs.length=ys.length
 ·rw[show decide ((xs.length:Int)=(ys.length:Int))=true from by rw[decide_eq_true_eq];omega];simp only[Bool.not_true,cond_false];rw[wrap64 (by omega) (by omega),ktj n m hl xs.length (Nat.le_refl _),List.take_length,hl,List.take_length]
 ·rw[show decide ((xs.length:Int)=(ys.length:Int))=false from by rw[decide_eq_false_iff_not];omega,k7y B2 n.lt m.lt tx ty hl];by_cases h1:xs.length<ys.length
  ·rw[show decide ((xs.length:Int)<(ys.length:Int))=true from by rw[decide_eq_true_eq];omega];simp[h1]
  ·rw[show decide ((xs.length:Int)<(ys.length:Int))=false from by rw[decide_eq_false_iff_not];omega];simp[h1]
@[reducible] def D:Nat:=65536
end Go.Ab

/- squeezed -/
set_option maxRecDepth 10000
namespace Go.Ab
open Go.Proofs Go.Num
theorem Rows.grow{h h':AH}(g:Grow h h'){s:Sl}{rows:List (Sl×List Nat)}(n:Rows h s rows):Rows h' s rows:=⟨n.cells.grow g,fun p hp=>(n.each p hp).grow g,n.short⟩
theorem k76{h:AH}{s:Sl}{xs:List Nat}(n:Nats h s xs):go (.fn F.kdl [s.v]) h=some (.bool (!rt xs),h):=by
 rw[k3a,kfp n];rfl
theorem kq8{h:AH}{s:Sl}{rows:List (Sl×List Nat)}(n:Rows h s rows):∀(k i:Nat),i+k=rows.length→
  ∃j:Int,go (.pt F.kih Td.klm [(0,s.v),(1,.func (.func F.kdl) [] []),(7,.int .i64 (rows.length:Int)),(8,.int .i64 (i:Int))]) h=some (.int .i64 j,h)∧
   (j≥0↔(rows.drop i).all (fun p=>rt p.2)=false)
 | 0,i,hi=>by
  rw[krz,show decide ((i:Int)<(rows.length:Int))=false from by rw[decide_eq_false_iff_not];omega,List.drop_of_length_le (by omega)];exact⟨-1,rfl,by simp⟩
 | k+1,i,hi=>by
  have hs:=n.short;obtain⟨r,e1,e2⟩:=n.at (i:=i) (by omega);have hp:=n.each rows[i] (List.getElem_mem _);rw[krz,show decide ((i:Int)<(rows.length:Int))=true from by rw[decide_eq_true_eq];omega,cond_true,e1];simp only[Option.bind_some,e2,asSl_v,k76 hp,kca];rw[List.drop_eq_getElem_cons (by omega),List.all_cons,kq (by omega)];cases hr:rt (rows[i].2)with
  | false=>exact⟨(i:Int),rfl,by simp⟩
  | true =>
   obtain⟨j,e3,e4⟩:=kq8 n k (i+1) (by omega);exact⟨j,e3,by simpa using e4⟩
theorem kiy{h:AH}{s:Sl}{rows:List (Sl×List Nat)}(n:Rows h s rows):go (.fn F.ke4 [s.v]) h=some (.bool (rows.all fun p=>rt p.2),h):=by
 obtain⟨j,e1,e2⟩:=kq8 n rows.length 0 (by omega);rw[k6w,ky9,k6z,n.len];rw[show(0:Int)=((0:Nat):Int)from rfl,e1];simp only[Option.bind_some,kb,kca];rw[List.drop_zero]at e2;cases ha:rows.all fun p=>rt p.2 with
 | false=>rw[ha]at e2;simp at e2;simp;omega
 | true=>rw[ha]at e2;simp at e2;simp;omega
def cmpN(xs ys:List Nat):Int:=if rt xs=true∧rt ys=true then cmp (num B xs) (num B ys)else 0
theorem km9{h:AH}{s t:Sl}{xs ys:List Nat}(n:Nats h s xs)(m:Nats h t ys):∃h',go (.fn F.kg7 [s.v,t.v]) h=some (.int .i64 (cmpN xs ys),h')∧Grow h h':=by
 rw[k2c];simp only[kcq];have r:=Rows.two n m;have g:=Grow.push h (.cells [s.v,t.v] T.kci);generalize h.push (.cells [s.v,t.v] T.kci)=h0 at *
 refine⟨h0,?_,g⟩;rw[kiy r];simp only[Option.bind_some,kca,List.all_cons,List.all_nil,Bool.and_true];cases hx:rt xs with
 | false=>simp[cmpN,hx]
 | true =>
  cases hy:rt ys with
  | false=>simp[cmpN,hy]
  | true =>
   simp only[Bool.and_self,Bool.not_true,cond_false];rw[kl9 (n.grow g) (m.grow g) (rt_iff.1 hx).2 (rt_iff.1 hy).2];simp[cmpN,hx,hy]
structure IRows(h:AH)(s:Sl)(rows:List (Bool×Sl×List Nat)):Prop where
 cells:Cells h s 2 (rows.flatMap fun p=>[.bool p.1,p.2.1.v])
 each:∀p∈rows,Nats h p.2.1 p.2.2
 short:rows.length≤9223372036854775807
theorem IRows.grow{h h':AH}(g:Grow h h'){s:Sl}{rows:List (Bool×Sl×List Nat)}(n:IRows h s rows):IRows h' s rows:=⟨n.cells.grow g,fun p hp=>(n.each p hp).grow g,n.short⟩
theorem ktb:∀(rows:List (Bool×Sl×List Nat))(i:Nat)(hi:i<rows.length),
  (rows.flatMap fun p=>[AV.bool p.1,p.2.1.v])[i*2]?=some (AV.bool rows[i].1)∧(rows.flatMap fun p=>[AV.bool p.1,p.2.1.v])[i*2+1]?=some rows[i].2.1.v
 | [],i,hi=>by simp at hi
 | p::rows,0,hi=>by simp
 | p::rows,i+1,hi=>by
  have:=ktb rows i (by simpa using hi);rw[show(i+1)*2=i*2+2 from by omega]
  simpa using this
theorem IRows.len{h:AH}{s:Sl}{rows:List (Bool×Sl×List Nat)}(n:IRows h s rows):s.len=rows.length:=by
 have:=n.cells.len
 have hl:(rows.flatMap fun p=>[AV.bool p.1,p.2.1.v]).length=rows.length*2:=by
  generalize rows=l
  induction l with
  | nil=>rfl
  | cons a l ih=>rw[List.flatMap_cons,List.length_append,ih];simp;omega
 omega
theorem IRows.at{h:AH}{s:Sl}{rows:List (Bool×Sl×List Nat)}(n:IRows h s rows){i:Nat}(hi:i<rows.length):∃r,idx s.ref s.len (i:Int) 2=some r∧h.cell (r.add 0)=some (.bool rows[i].1)∧h.cell (r.add 1)=some rows[i].2.1.v:=by
 obtain⟨p1,p2⟩:=ktb rows i hi;obtain⟨r,e1,e2⟩:=n.cells.get _ _ p1;obtain⟨r',e3,e4⟩:=n.cells.get _ _ p2;rw[e1]at e3;cases e3;refine⟨r.add (i*2),?_,by simpa using e2,by rw[Ref.add_add];exact e4⟩;rw[e1,kcw _ _ _ _ (by omega) (by rw[n.len];omega)];simp
theorem kxv{h:AH}{s:Sl}{xs:List Nat}(n:Nats h s xs)(neg:Bool):∃h',go (.fn F.kdo [.agg [.bool neg,s.v]]) h=some (.bool (!rtI neg xs),h')∧Grow h h':=by
 rw[k6y];simp only[kcq];have b0:=AH.has_push h [.bool neg,s.v] T.kg;have g0:=Grow.push h (.cells [.bool neg,s.v] T.kg);generalize h.push (.cells [.bool neg,s.v] T.kg)=h0 at *
 obtain⟨h1,e1,g1⟩:=kim (n.grow g0) neg;exact⟨h1,by simp[b0.cell,e1],g0.trans g1⟩
theorem kr2{s:Sl}{rows:List (Bool×Sl×List Nat)}:∀(k i:Nat),i+k=rows.length→∀{h:AH},IRows h s rows→
  ∃(j:Int)(h':AH),go (.pt F.kh2 Td.kk9 [(0,s.v),(1,.func (.func F.kdo) [] []),(7,.int .i64 (rows.length:Int)),(8,.int .i64 (i:Int))]) h=some (.int .i64 j,h')∧
   (j≥0↔(rows.drop i).all (fun p=>rtI p.1 p.2.2)=false)∧Grow h h'
 | 0,i,hi,h,n=>by
  rw[krq,show decide ((i:Int)<(rows.length:Int))=false from by rw[decide_eq_false_iff_not];omega,List.drop_of_length_le (by omega)];exact⟨-1,h,rfl,by simp,Grow.refl h⟩
 | k+1,i,hi,h,n=>by
  have hs:=n.short;obtain⟨r,e1,e2,e3⟩:=n.at (i:=i) (by omega);have hp:=n.each rows[i] (List.getElem_mem _);obtain⟨h1,e4,g1⟩:=kxv hp rows[i].1;rw[krq,show decide ((i:Int)<(rows.length:Int))=true from by rw[decide_eq_true_eq];omega,cond_true,e1];simp only[Option.bind_some,e2,e3,asSl_v,kca,e4];rw[List.drop_eq_getElem_cons (by omega),List.all_cons,kq (by omega)];cases hr:rtI rows[i].1 (rows[i].2.2)with
  | false=>exact⟨(i:Int),h1,rfl,by simp,g1⟩
  | true =>
   obtain⟨j,h2,e5,e6,g2⟩:=kr2 k (i+1) (by omega) (n.grow g1);exact⟨j,h2,e5,by simpa using e6,g1.trans g2⟩
theorem kvu{h:AH}{s:Sl}{rows:List (Bool×Sl×List Nat)}(n:IRows h s rows):∃h',go (.fn F.kfd [s.v]) h=some (.bool (rows.all fun p=>rtI p.1 p.2.2),h')∧Grow h h':=by
 obtain⟨j,h',e1,e2,g⟩:=kr2 rows.length 0 (by omega) n;refine⟨h',?_,g⟩;rw[kbaa,k4n,kzm,n.len];rw[show(0:Int)=((0:Nat):Int)from rfl,e1];simp only[Option.bind_some,kb,kca];rw[List.drop_zero]at e2;cases ha:rows.all fun p=>rtI p.1 p.2.2 with
 | false=>rw[ha]at e2;simp at e2;simp;omega
 | true=>rw[ha]at e2;simp at e2;simp;omega
theorem IRows.two{h:AH}{a b:Sl}{xs ys:List Nat}(n:Nats h a xs)(m:Nats h b ys)(p q:Bool):IRows (h.push (.cells [.bool p,a.v,.bool q,b.v] T.kg)) ⟨some (.new h.blks.size 0),2,.is 2⟩ [(p,a,xs),(q,b,ys)]:=by
 refine⟨Cells.of_has (AH.has_push _ _ _) rfl,fun r hr=>?_,by simp⟩;have g:=Grow.push h (.cells [.bool p,a.v,.bool q,b.v] T.kg);simp at hr;rcases hr with rfl | rfl
 ·exact n.grow g
 ·exact m.grow g
def cmpI(p:Bool)(xs:List Nat)(q:Bool)(ys:List Nat):Int :=
 if rtI p xs=true∧rtI q ys=true then(if p=q then(if p=true then cmpN ys xs else cmpN xs ys)else if p=true then -1 else 1)else 0
theorem kbb2{h:AH}{s t:Sl}{xs ys:List Nat}(n:Nats h s xs)(m:Nats h t ys)(p q:Bool):∃h',go (.fn F.knv [.agg [.bool p,s.v],.agg [.bool q,t.v]]) h=some (.int .i64 (cmpI p xs q ys),h')∧Grow h h':=by
 rw[kbap];simp only[kcq];have b0:=AH.has_push h [.bool p,s.v] T.kg;have g0:=Grow.push h (.cells [.bool p,s.v] T.kg);generalize h.push (.cells [.bool p,s.v] T.kg)=h0 at *
 have c1:=AH.has_push h0 [.bool q,t.v] T.kg;have g1:=Grow.push h0 (.cells [.bool q,t.v] T.kg);generalize h0.push (.cells [.bool q,t.v] T.kg)=h1 at *
 have b1:=g1.has b0;simp only[Ref.add_new,Nat.zero_add,b1.cell,c1.cell,List.getElem?_cons_zero,List.getElem?_cons_succ,Option.bind_some,kca,asSl_v];have n1:=n.grow (g0.trans g1);have m1:=m.grow (g0.trans g1);have r2:=IRows.two n1 m1 p q;have g2:=Grow.push h1 (.cells [.bool p,s.v,.bool q,t.v] T.kg);generalize h1.push (.cells [.bool p,s.v,.bool q,t.v] T.kg)=h2 at *
 obtain⟨h3,e3,g3⟩:=kvu r2;have g23:=g2.trans g3;have b3:=g23.has b1;have c3:=g23.has c1;have n3:=n1.grow g23;have m3:=m1.grow g23;have gg:=(g0.trans g1).trans g23;obtain⟨h4,e4,g4⟩:=km9 n3 m3;obtain⟨h5,e5,g5⟩:=km9 m3 n3;rw[e3];simp only[Option.bind_some,kca,List.all_cons,List.all_nil,Bool.and_true,b3.cell,c3.cell,List.getElem?_cons_zero,List.getElem?_cons_succ,asSl_v,e4,e5,kb];cases hx:rtI p xs with
 | false=>exact⟨h3,by simp[cmpI,hx],gg⟩
 | true =>
  cases hy:rtI q ys with
  | false=>exact⟨h3,by simp[cmpI,hy],gg⟩
  | true =>
   cases p<;>cases q
   ·exact⟨h4,by simp[cmpI,hx,hy],gg.trans g4⟩
   ·exact⟨h3,by simp[cmpI,hx,hy],gg⟩
   ·exact⟨h3,by simp[cmpI,hx,hy],gg⟩
   ·exact⟨h5,by simp[cmpI,hx,hy],gg.trans g5⟩
def negI(neg:Bool)(xs:List Nat):Bool×List Nat:=if rtI neg xs=true then fromI (!neg) xs else(false,[])
theorem k8d{h:AH}{s:Sl}{xs:List Nat}(n:Nats h s xs)(neg:Bool):∃(s':Sl)(h':AH),go (.fn F.kpk [.agg [.bool neg,s.v]]) h=some (.agg [.bool (negI neg xs).1,s'.v],h')∧Nats h' s' (negI neg xs).2∧Grow h h'∧Own h s':=by
 rw[kxh];simp only[kcq];have b0:=AH.has_push h [.bool neg,s.v] T.kg;have g0:=Grow.push h (.cells [.bool neg,s.v] T.kg);generalize h.push (.cells [.bool neg,s.v] T.kg)=h0 at *
 have c1:=AH.has_push h0 nilI T.kg;have g1:=Grow.push h0 (.cells nilI T.kg);generalize h0.push (.cells nilI T.kg)=h1 at *
 have b1:=g1.has b0;have n1:=n.grow (g0.trans g1);obtain⟨h2,e2,g2⟩:=kim n1 neg;have c2:=g2.has c1;have b2:=g2.has b1;have g02:=(g0.trans g1).trans g2;obtain⟨s3,h3,e3,n3,g3,o3⟩:=kcx (n1.grow g2) (!neg);have c3:=g3.has c2;simp only[Ref.add_new,Nat.zero_add,b1.cell,b2.cell,List.getElem?_cons_zero,List.getElem?_cons_succ,Option.bind_some,kca,asSl_v,e2];cases hr:rtI neg xs with
 | false =>
  rw[show negI neg xs=(false,[])from by simp[negI,hr]];refine⟨⟨none,0,.is 0⟩,h2.upd h0.blks.size nilI T.kg,?_,Nats.nil _,g02.upd g0.size _ _,Own.nil h⟩;simp[c2.puts_all,AH.cell_upd c2]
 | true =>
  rw[show negI neg xs=fromI (!neg) xs from by simp[negI,hr]];refine⟨s3,h3.upd h0.blks.size [.bool (fromI (!neg) xs).1,s3.v] T.kg,?_,n3.upd o3 c2.lt _ _,(g02.trans g3).upd g0.size _ _,o3.of_le g02⟩;simp[e3,c3.puts_all,AH.cell_upd c3]
end Go.Ab

/- squeezed -/
set_option maxRecDepth 10000
namespace Go.Ab
open Go.Proofs Go.Num
theorem kjd(b:Nat)(ys:List Nat)(k:Nat):num b (ys.take (k+1))=num b (ys.take k)+b^k*ys.getD k 0:=by
 by_cases h:k<ys.length
 ·rw[kc3 b h,kcm h]
 ·rw[List.take_of_length_le (by omega),List.take_of_length_le (by omega)];simp[List.getD,List.getElem?_eq_none (show ys.length≤k by omega)]
theorem kz7(zs:List Nat){i:Nat}(v:Nat)(h:i<zs.length):(zs.set i v).take (i+1)=zs.take i++[v]:=by
 apply List.ext_getElem?;intro j;rw[List.getElem?_take];by_cases hi:j<i
 ·rw[if_pos (by omega),List.getElem?_set_ne (by omega),List.getElem?_append_left (by simp;omega),List.getElem?_take,if_pos hi]
 ·by_cases hi2:j=i
  ·subst hi2;rw[if_pos (by omega),List.getElem?_set_self h,List.getElem?_append_right (by simp;omega)];simp[Nat.min_eq_left (show j≤zs.length by omega)]
  ·rw[if_neg (by omega),List.getElem?_eq_none (by simp;omega)]
theorem kou(b:Nat)(zs:List Nat){i:Nat}(v:Nat)(h:i<zs.length):num b ((zs.set i v).take (i+1))=num b (zs.take i)+b^i*v:=by
 rw[kz7 zs v h,kel];simp[num,Nat.min_eq_left (Nat.le_of_lt h)]
theorem kjo{h:AH}{j i:Nat}{zs:List Nat}(b:h.has j (zs.map u64) T.kj)(v:Nat)(hi:i<zs.length):h.puts (.new j i) [u64 v]=some (h.upd j ((zs.set i v).map u64) T.kj):=by
 simp only[AH.puts];rw[b.put (by simpa using hi)];simp[List.map_set]
theorem ksg{x y c:Nat}(hx:x<B)(hy:y<B)(hc:c≤1):prim "math/bits.Add64" [u64 x,u64 y,u64 c]=some (.tup [u64 ((x+y+c)%B),u64 ((x+y+c)/B)]):=by
 show cond (decide (0≤(x:Int)∧0≤(y:Int)∧0≤(c:Int)∧(c:Int)≤1)) (some (AV.tup [.int .u64 (((x:Int)+y+c)%18446744073709551616),.int .u64 (((x:Int)+y+c)/18446744073709551616)])) none=_;rw[show decide (0≤(x:Int)∧0≤(y:Int)∧0≤(c:Int)∧(c:Int)≤1)=true from by rw[decide_eq_true_eq];omega];rfl
theorem kkw{xs:List Nat}(h:∀x∈xs,x<18446744073709551616)(i:Nat):xs.getD i 0<B:=by
 show _<18446744073709551616;by_cases hi:i<xs.length
 ·rw[kcm hi];exact h _ (List.getElem_mem _)
 ·simp[List.getD,List.getElem?_eq_none (show xs.length≤i by omega)]
theorem kq9{h:AH}{s t:Sl}{xs ys:List Nat}(n:Nats h s xs)(m:Nats h t ys)(hl:ys.length≤xs.length)(hs:xs.length<4611686018427387904){j:Nat}(hj:h.blks.size≤j) :
  ∀(k i:Nat),i+k=xs.length→∀{hi:AH}{zs:List Nat}{c:Nat},Grow h hi→hi.has j (zs.map u64) T.kj→zs.length=xs.length+1→(∀z∈zs,z<18446744073709551616)→c≤1→
   num B (zs.take i)+B^i*c=num B (xs.take i)+num B (ys.take i)→
   ∃(h':AH)(zs':List Nat),go (.pt F.kc1 Td.kfy [(0,s.v),(1,t.v),(5,Sl.v ⟨some (.new j 0),xs.length+1,.is (xs.length+1)⟩),(6,u64 c),(21,.int .i64 (xs.length:Int)),(22,.int .i64 (i:Int))]) hi =
    some (Sl.v ⟨some (.new j 0),xs.length+1,.is (xs.length+1)⟩,h')∧Grow h h'∧h'.has j (zs'.map u64) T.kj∧zs'.length=xs.length+1∧(∀z∈zs',z<18446744073709551616)∧num B zs'=num B xs+num B ys
 | 0,i,hik,hi,zs,c,g,b,hz,hlt,hc,inv=>by
  rw[ktv,show decide ((i:Int)<(xs.length:Int))=false from by rw[decide_eq_false_iff_not];omega,cond_false,n.len];rw[kcw _ _ _ _ (by omega) (by show(xs.length:Int)<((xs.length+1:Nat):Int);omega)];simp only[Option.bind_some,Int.toNat_natCast,Nat.mul_one,Ref.add_new,Nat.zero_add];rw[kjo b c (by omega)];refine⟨_,zs.set xs.length c,rfl,g.upd hj _ _,AH.has_upd b _ _,by simpa using hz,fun z hzm=>?_,?_⟩
  ·rcases List.mem_or_eq_of_mem_set hzm with h1 | rfl
   ·exact hlt z h1
   ·omega
  ·have e:=kou B zs c (i:=xs.length) (by omega);rw[List.take_of_length_le (by simp;omega)]at e;have:i=xs.length:=by omega
   subst this;rw[e,inv,List.take_length,List.take_of_length_le hl]
 | k+1,i,hik,hi,zs,c,g,b,hz,hlt,hc,inv=>by
  have n':=n.grow g;have m':=m.grow g;obtain⟨r,e1,e2⟩:=n'.at (i:=i) (by omega);have hx:xs.getD i 0<B:=kkw n.lt i;have hy:ys.getD i 0<B:=kkw m.lt i
  have next:∃(h':AH)(zs':List Nat),go (.pt F.kc1 Td.kfy [(0,s.v),(1,t.v),(5,Sl.v ⟨some (.new j 0),xs.length+1,.is (xs.length+1)⟩),(6,u64 ((xs.getD i 0+ys.getD i 0+c)/B)),(21,.int .i64 (xs.length:Int)),(22,.int .i64 ((i+1:Nat):Int))]) (hi.upd j ((zs.set i ((xs.getD i 0+ys.getD i 0+c)%B)).map u64) T.kj) =
    some (Sl.v ⟨some (.new j 0),xs.length+1,.is (xs.length+1)⟩,h')∧Grow h h'∧h'.has j (zs'.map u64) T.kj∧zs'.length=xs.length+1∧(∀z∈zs',z<18446744073709551616)∧num B zs'=num B xs+num B ys:=by
   refine kq9 n m hl hs hj k (i+1) (by omega) (g.upd hj _ _) (AH.has_upd b _ _) (by simpa using hz) (fun z hzm=>?_) ?_ ?_
   ·rcases List.mem_or_eq_of_mem_set hzm with h1 | rfl
    ·exact hlt z h1
    ·exact Nat.mod_lt _ (by decide)
   ·have h1:xs.getD i 0<18446744073709551616:=hx;have h2:ys.getD i 0<18446744073709551616:=hy;show(xs.getD i 0+ys.getD i 0+c)/18446744073709551616≤1;omega
   ·rw[kou B zs _ (by omega),kjd B xs i,kjd B ys i];have e:=Nat.mod_add_div (xs.getD i 0+ys.getD i 0+c) B;generalize hq:(xs.getD i 0+ys.getD i 0+c)%B=q at *
    generalize hw:(xs.getD i 0+ys.getD i 0+c)/B=w at *
    rw[Nat.pow_succ,Nat.mul_assoc,Nat.add_assoc,← Nat.mul_add,e,Nat.mul_add,Nat.mul_add];omega
  rw[ktv,show decide ((i:Int)<(xs.length:Int))=true from by rw[decide_eq_true_eq];omega,cond_true,m.len,kq (by omega)]
  have put:idx (some (.new j 0)) (xs.length+1) (i:Int) 1=some (.new j i):=by
   rw[kcw _ _ _ _ (by omega) (by omega)];simp
  by_cases hi2:i<ys.length
  ·obtain⟨q,e3,e4⟩:=m'.at (i:=i) hi2;rw[show decide ((i:Int)<(ys.length:Int))=true from by rw[decide_eq_true_eq];omega,cond_true];rw[← m.len,e3,e1];simp only[Option.bind_some,e2,e4,kb];have ex:((xs[i]:Nat):Int)=((xs.getD i 0:Nat):Int):=by rw[kcm (by omega)]
   have ey:((ys[i]:Nat):Int)=((ys.getD i 0:Nat):Int):=by rw[kcm hi2]
   rw[ex,ey];have pa:=ksg hx hy hc;simp only[u64]at pa⊢;rw[pa];simp only[Option.map_some,Option.bind_some,keo,kb,put];rw[show hi.puts (.new j i) [AV.int .u64 (((xs.getD i 0+ys.getD i 0+c)%B:Nat):Int)]=_ from kjo b _ (by omega)];exact next
  ·have hy0:ys.getD i 0=0:=by simp[List.getD,List.getElem?_eq_none (show ys.length≤i by omega)]
   rw[show decide ((i:Int)<(ys.length:Int))=false from by rw[decide_eq_false_iff_not];omega,cond_false,e1];simp only[Option.bind_some,e2,kb];have ex:((xs[i]:Nat):Int)=((xs.getD i 0:Nat):Int):=by rw[kcm (by omega)]
   rw[ex];have pa:=ksg hx hy hc;simp only[u64]at pa⊢;rw[hy0]at pa;rw[show(AV.int .u64 0)=AV.int .u64 ((0:Nat):Int)from rfl,pa];simp only[Option.map_some,Option.bind_some,keo,kb,put];rw[hy0]at next;rw[show hi.puts (.new j i) [AV.int .u64 (((xs.getD i 0+0+c)%B:Nat):Int)]=_ from kjo b _ (by omega)];exact next
theorem kue{h:AH}{l:Int}{n:Nat}(hl:l=(n:Int))(hn:n≤8796093022207):kb1 l l T.kj (Pg.bytesOf T.kj) [.int .u64 0] h=some (⟨some (.new h.blks.size 0),n,.is n⟩,h.push (.cells ((List.replicate n 0).map u64) T.kj)):=by
 rw[ken,kq0 hl hl (by omega) (by omega),ksl];simp;rfl
theorem kpj{h:AH}{s t:Sl}{xs ys:List Nat}(n:Nats h s xs)(m:Nats h t ys)(hx:xs.length≤1073741824)(hy:ys.length≤1073741824) :
  ∃(s':Sl)(h':AH)(zs:List Nat),go (.fn F.kc1 [s.v,t.v]) h=some (s'.v,h')∧Nats h' s' zs∧Grow h h'∧Own h s'∧num B zs=num B xs+num B ys∧zs.length=max xs.length ys.length+1:=by
 have key:∀{s t:Sl}{xs ys:List Nat},Nats h s xs→Nats h t ys→xs.length≤1073741824→ys.length≤xs.length→∃(s':Sl)(h':AH)(zs:List Nat),
   ((kb1 (IntKind.wrap .i64 ((s.len:Int)+1)) (IntKind.wrap .i64 ((s.len:Int)+1)) T.kj (Pg.bytesOf T.kj) [.int .u64 0] h).bind fun q4 =>
   go (.pt F.kc1 Td.kfy [(0,s.v),(1,t.v),(5,q4.1.v),(6,.int .u64 0),(21,.int .i64 (s.len:Int)),(22,.int .i64 0)]) q4.2)=some (s'.v,h')∧Nats h' s' zs∧Grow h h'∧Own h s'∧num B zs=num B xs+num B ys∧zs.length=xs.length+1:=by
  intro s t xs ys n m hx hle;rw[n.len,kq (by omega),kue rfl (by omega)];simp only[Option.bind_some];have g0:=Grow.push h (.cells ((List.replicate (xs.length+1) 0).map u64) T.kj);have b0:=AH.has_push h ((List.replicate (xs.length+1) 0).map u64) T.kj;obtain⟨h',zs,e1,g1,b1,l1,lt1,v1⟩:=kq9 n m hle (by omega) (Nat.le_refl h.blks.size) xs.length 0 (by omega) (c:=0) g0 b0 (by simp) (by simp) (by omega) (by simp[num]);refine⟨_,h',zs,e1,⟨Cells.of_has b1 (by simp[l1]),lt1,by omega⟩,g1,fun r hr=>?_,v1,l1⟩;cases hr;exact⟨_,_,rfl,Nat.le_refl _⟩
 rw[k6a];by_cases hlt:xs.length<ys.length
 ·rw[show decide ((s.len:Int)<(t.len:Int))=true from by rw[decide_eq_true_eq,n.len,m.len];omega,cond_true];obtain⟨s',h',zs,e1,e2,e3,e4,e5,e6⟩:=key m n hy (by omega);exact⟨s',h',zs,e1,e2,e3,e4,by rw[e5];omega,by rw[e6];omega⟩
 ·rw[show decide ((s.len:Int)<(t.len:Int))=false from by rw[decide_eq_false_iff_not,n.len,m.len];omega,cond_false];obtain⟨s',h',zs,e1,e2,e3,e4,e5,e6⟩:=key n m hx (by omega);exact⟨s',h',zs,e1,e2,e3,e4,e5,by rw[e6];omega⟩
def told(n:Nat):List Nat×Int:=if n<B^64 then(digs B n,0)else([],4)
theorem koo{h:AH}{s:Sl}{xs:List Nat}(n:Nats h s xs):∃s':Sl,go (.fn F.kjr [s.v]) h=some (.tup [s'.v,.int .i64 (told (num B xs)).2],h)∧Nats h s' (told (num B xs)).1∧∀h0,Own h0 s→Own h0 s':=by
 obtain⟨s',e1,n1,o1⟩:=kc9 n;rw[k75,e1];simp only[Option.bind_some,asSl_v];unfold told;by_cases hn:num B xs<B^64
 ·have:=(kbv B2 (num B xs) 64).2 hn;rw[if_pos hn,show decide ((s'.len:Int)>64)=false from by rw[decide_eq_false_iff_not,n1.len];omega];exact⟨s',rfl,n1,o1⟩
 ·have:¬(digs B (num B xs)).length≤64:=fun h=>hn ((kbv B2 _ _).1 h);rw[if_neg hn,show decide ((s'.len:Int)>64)=true from by rw[decide_eq_true_eq,n1.len];omega];exact⟨⟨none,0,.is 0⟩,rfl,Nats.nil h,fun h0 _=>Own.nil h0⟩
def addN(xs ys:List Nat):List Nat×Int:=if rt xs=true∧rt ys=true then told (num B xs+num B ys)else([],1)
theorem kv4{h:AH}{s t:Sl}{xs ys:List Nat}(n:Nats h s xs)(m:Nats h t ys):∃(s':Sl)(h':AH),go (.fn F.klf [s.v,t.v]) h=some (.tup [s'.v,.int .i64 (addN xs ys).2],h')∧Nats h' s' (addN xs ys).1∧Grow h h'∧Own h s':=by
 rw[k94];simp only[kcq];have r:=Rows.two n m;have g:=Grow.push h (.cells [s.v,t.v] T.kci);generalize h.push (.cells [s.v,t.v] T.kci)=h0 at *
 rw[kiy r];simp only[Option.bind_some,kca,List.all_cons,List.all_nil,Bool.and_true];by_cases hb:rt xs=true∧rt ys=true
 ·rw[show addN xs ys=told (num B xs+num B ys)from by simp[addN,hb]];simp only[hb.1,hb.2,Bool.and_self,Bool.not_true,cond_false];have lx:=(rt_iff.1 hb.1).1;have ly:=(rt_iff.1 hb.2).1;obtain⟨s1,h1,zs,e1,n1,g1,o1,v1,_⟩:=kpj (n.grow g) (m.grow g) (by omega) (by omega);obtain⟨s2,e2,n2,o2⟩:=koo n1;rw[v1]at e2 n2;simp only[e1,e2,Option.bind_some,asSl_v,keo,kb];exact⟨s2,h1,rfl,n2,g.trans g1,(o2 h0 o1).of_le g⟩
 ·rw[show addN xs ys=([],1)from by simp only[addN,if_neg hb]]
  have:(rt xs&&rt ys)=false:=by
   cases hx:rt xs<;>cases hy:rt ys<;>simp_all
  rw[this];exact⟨⟨none,0,.is 0⟩,h0,rfl,Nats.nil _,g,Own.nil h⟩
end Go.Ab

/- squeezed -/
set_option maxRecDepth 10000
namespace Go.Ab
open Go.Proofs Go.Num
theorem k4m(x y c:Int):prim "math/bits.Sub64" [.int .u64 x,.int .u64 y,.int .u64 c]=cond (decide (0≤x∧0≤y∧y<18446744073709551616∧0≤c∧c≤1)) (some (AV.tup [.int .u64 ((x-y-c)%18446744073709551616),.int .u64 (cond (decide (x<y+c)) 1 0)])) none:=by
 unfold prim;have s1:("math/bits.Sub64" == "math/bits.Add64")=false:=by decide +kernel
 rw[s1];rfl
theorem k8k{x y c:Nat}(hx:x<B)(hy:y<B)(hc:c≤1):∃z w:Nat,prim "math/bits.Sub64" [u64 x,u64 y,u64 c]=some (.tup [u64 z,u64 w])∧z<B∧w≤1∧z+y+c=x+B*w:=by
 have hx:x<18446744073709551616:=hx;have hy:y<18446744073709551616:=hy;have e:prim "math/bits.Sub64" [u64 x,u64 y,u64 c]=cond (decide (0≤(x:Int)∧0≤(y:Int)∧(y:Int)<18446744073709551616∧0≤(c:Int)∧(c:Int)≤1)) (some (AV.tup [.int .u64 (((x:Int)-y-c)%18446744073709551616),.int .u64 (cond (decide ((x:Int)<y+c)) 1 0)])) none:=k4m _ _ _;rw[e,show decide (0≤(x:Int)∧0≤(y:Int)∧(y:Int)<18446744073709551616∧0≤(c:Int)∧(c:Int)≤1)=true from by rw[decide_eq_true_eq];omega,cond_true];obtain⟨z,hz⟩:∃z:Nat,((x:Int)-y-c)%18446744073709551616=(z:Int):=⟨_,(Int.toNat_of_nonneg (Int.emod_nonneg _ (by decide))).symm⟩;rw[hz];by_cases h:x<y+c
 ·rw[show decide ((x:Int)<y+c)=true from by rw[decide_eq_true_eq];omega];have k1:z<18446744073709551616:=by omega
  have k2:z+y+c=x+18446744073709551616*1:=by omega
  exact⟨z,1,rfl,k1,by omega,k2⟩
 ·rw[show decide ((x:Int)<y+c)=false from by rw[decide_eq_false_iff_not];omega];have k1:z<18446744073709551616:=by omega
  have k2:z+y+c=x+18446744073709551616*0:=by omega
  exact⟨z,0,rfl,k1,by omega,k2⟩
theorem k7n{b p c x y z w zs ys xs:Nat}(inv:zs+ys=xs+p*c)(heq:z+y+c=x+b*w):zs+p*z+(ys+p*y)=xs+p*x+p*b*w:=by
 have:=congrArg (fun q=>p*q) heq;simp only[Nat.mul_add]at this;rw[Nat.mul_assoc];omega
theorem kuq{h:AH}{s t:Sl}{xs ys:List Nat}(n:Nats h s xs)(m:Nats h t ys)(hl:ys.length≤xs.length)(hs:xs.length<4611686018427387904){j:Nat}(hj:h.blks.size≤j) :
  ∀(k i:Nat),i+k=xs.length→∀{hi:AH}{zs:List Nat}{c:Nat},Grow h hi→hi.has j (zs.map u64) T.kj→zs.length=xs.length→(∀z∈zs,z<18446744073709551616)→c≤1→
   num B (zs.take i)+num B (ys.take i)=num B (xs.take i)+B^i*c→
   ∃(h':AH)(zs':List Nat)(c':Nat),go (.pt F.kc5 Td.khl [(0,s.v),(1,t.v),(5,Sl.v ⟨some (.new j 0),xs.length,.is xs.length⟩),(6,u64 c),(13,.int .i64 (xs.length:Int)),(14,.int .i64 (i:Int))]) hi =
    some (Sl.v ⟨some (.new j 0),xs.length,.is xs.length⟩,h')∧Grow h h'∧h'.has j (zs'.map u64) T.kj∧zs'.length=xs.length∧(∀z∈zs',z<18446744073709551616)∧num B zs'+num B ys=num B xs+B^xs.length*c'
 | 0,i,hik,hi,zs,c,g,b,hz,hlt,hc,inv=>by
  rw[ks9,show decide ((i:Int)<(xs.length:Int))=false from by rw[decide_eq_false_iff_not];omega,cond_false];have:i=xs.length:=by omega
  subst this;rw[List.take_of_length_le (by omega),List.take_of_length_le hl,List.take_length]at inv;exact⟨hi,zs,c,rfl,g,b,hz,hlt,inv⟩
 | k+1,i,hik,hi,zs,c,g,b,hz,hlt,hc,inv=>by
  have n':=n.grow g;have m':=m.grow g;obtain⟨r,e1,e2⟩:=n'.at (i:=i) (by omega);have hx:xs.getD i 0<B:=kkw n.lt i;have hy:ys.getD i 0<B:=kkw m.lt i;obtain⟨z,w,pa,hzB,hw,heq⟩:=k8k hx hy hc
  have next:∃(h':AH)(zs':List Nat)(c':Nat),go (.pt F.kc5 Td.khl [(0,s.v),(1,t.v),(5,Sl.v ⟨some (.new j 0),xs.length,.is xs.length⟩),(6,u64 w),(13,.int .i64 (xs.length:Int)),(14,.int .i64 ((i+1:Nat):Int))]) (hi.upd j ((zs.set i z).map u64) T.kj) =
    some (Sl.v ⟨some (.new j 0),xs.length,.is xs.length⟩,h')∧Grow h h'∧h'.has j (zs'.map u64) T.kj∧zs'.length=xs.length∧(∀z∈zs',z<18446744073709551616)∧num B zs'+num B ys=num B xs+B^xs.length*c':=by
   refine kuq n m hl hs hj k (i+1) (by omega) (g.upd hj _ _) (AH.has_upd b _ _) (by simpa using hz) (fun y hym=>?_) hw ?_
   ·rcases List.mem_or_eq_of_mem_set hym with h1 | rfl
    ·exact hlt y h1
    ·exact hzB
   ·rw[kou B zs _ (by omega),kjd B xs i,kjd B ys i,Nat.pow_succ];exact k7n inv heq
  rw[ks9,show decide ((i:Int)<(xs.length:Int))=true from by rw[decide_eq_true_eq];omega,cond_true,m.len,kq (by omega)];generalize prim "math/bits.Sub64" = f at pa⊢
  have put:idx (some (.new j 0)) xs.length (i:Int) 1=some (.new j i):=by
   rw[kcw _ _ _ _ (by omega) (by omega)];simp
  by_cases hi2:i<ys.length
  ·obtain⟨q,e3,e4⟩:=m'.at (i:=i) hi2;rw[show decide ((i:Int)<(ys.length:Int))=true from by rw[decide_eq_true_eq];omega,cond_true];rw[← m.len,e3,e1];rw[Option.bind_some,e4,Option.bind_some,kb,Option.bind_some,Option.bind_some,e2,Option.bind_some,kb,Option.bind_some];have ex:((xs[i]:Nat):Int)=((xs.getD i 0:Nat):Int):=by rw[kcm (by omega)]
   have ey:((ys[i]:Nat):Int)=((ys.getD i 0:Nat):Int):=by rw[kcm hi2]
   rw[ex,ey];simp only[u64]at pa⊢;rw[pa];simp only[Option.map_some,Option.bind_some,keo,kb,put];rw[show hi.puts (.new j i) [AV.int .u64 ((z:Nat):Int)]=_ from kjo b _ (by omega)];exact next
  ·have hy0:ys.getD i 0=0:=by simp[List.getD,List.getElem?_eq_none (show ys.length≤i by omega)]
   rw[show decide ((i:Int)<(ys.length:Int))=false from by rw[decide_eq_false_iff_not];omega,cond_false,e1];simp only[Option.bind_some,e2,kb];have ex:((xs[i]:Nat):Int)=((xs.getD i 0:Nat):Int):=by rw[kcm (by omega)]
   rw[ex];simp only[u64]at pa⊢;rw[hy0]at pa;rw[show(AV.int .u64 0)=AV.int .u64 ((0:Nat):Int)from rfl,pa];simp only[Option.map_some,Option.bind_some,keo,kb,put];rw[show hi.puts (.new j i) [AV.int .u64 ((z:Nat):Int)]=_ from kjo b _ (by omega)];exact next
theorem kmv{h:AH}{s t:Sl}{xs ys:List Nat}(n:Nats h s xs)(m:Nats h t ys)(hx:xs.length≤1073741824)(hl:ys.length≤xs.length)(hle:num B ys≤num B xs) :
  ∃(s':Sl)(h':AH)(zs:List Nat),go (.fn F.kc5 [s.v,t.v]) h=some (s'.v,h')∧Nats h' s' zs∧Grow h h'∧Own h s'∧num B zs=num B xs-num B ys∧zs.length=xs.length:=by
 rw[k1y,n.len,kue rfl (by omega)];simp only[Option.bind_some];have g0:=Grow.push h (.cells ((List.replicate xs.length 0).map u64) T.kj);have b0:=AH.has_push h ((List.replicate xs.length 0).map u64) T.kj;obtain⟨h',zs,c,e1,g1,b1,l1,lt1,v1⟩:=kuq n m hl (by omega) (Nat.le_refl h.blks.size) xs.length 0 (by omega) (c:=0) g0 b0 (by simp) (by simp) (by omega) (by simp[num]);have hb:=num_lt (b:=B) (by decide) lt1;rw[l1]at hb
 have c0:c=0:=by
  rcases Nat.eq_zero_or_pos c with h0 | h0
  ·exact h0
  ·have:B^xs.length*1≤B^xs.length*c:=Nat.mul_le_mul_left _ h0;omega
 rw[c0,Nat.mul_zero,Nat.add_zero]at v1;refine⟨_,h',zs,e1,⟨Cells.of_has b1 (by simp[l1]),lt1,by omega⟩,g1,fun r hr=>?_,by omega,l1⟩;cases hr;exact⟨_,_,rfl,Nat.le_refl _⟩
def subN(xs ys:List Nat):List Nat×Int:=if rt xs=true∧rt ys=true then(if num B xs<num B ys then([],2)else(digs B (num B xs-num B ys),0))else([],1)
theorem kv2{xs ys:List Nat}(hx:∀x∈xs,x<18446744073709551616)(hy:∀x∈ys,x<18446744073709551616)(ty:Trim ys)(h:num B ys≤num B xs):ys.length≤xs.length:=by
 rcases Nat.lt_or_ge xs.length ys.length with h1 | h1
 ·have:=knw B2 hx hy ty h1;omega
 ·exact h1
theorem k3i{xs ys:List Nat}(hx:∀x∈xs,x<18446744073709551616)(h:xs.length≤64):told (num B xs-num B ys)=(digs B (num B xs-num B ys),0):=by
 have h1:=num_lt (b:=B) (by decide) hx;have h2:B^xs.length≤B^64:=Nat.pow_le_pow_right (by decide) h;unfold told;rw[if_pos (by omega)]
theorem koj{h:AH}{s t:Sl}{xs ys:List Nat}(n:Nats h s xs)(m:Nats h t ys):∃(s':Sl)(h':AH),go (.fn F.kil [s.v,t.v]) h=some (.tup [s'.v,.int .i64 (subN xs ys).2],h')∧Nats h' s' (subN xs ys).1∧Grow h h'∧Own h s':=by
 rw[k0e];simp only[kcq];have r:=Rows.two n m;have g:=Grow.push h (.cells [s.v,t.v] T.kci);generalize h.push (.cells [s.v,t.v] T.kci)=h0 at *
 rw[kiy r];simp only[Option.bind_some,kca,List.all_cons,List.all_nil,Bool.and_true];by_cases hb:rt xs=true∧rt ys=true
 ·simp only[hb.1,hb.2,Bool.and_self,Bool.not_true,cond_false];have lx:=rt_iff.1 hb.1;have ly:=rt_iff.1 hb.2;rw[kl9 (n.grow g) (m.grow g) lx.2 ly.2];simp only[Option.bind_some,kb];by_cases hc:num B xs<num B ys
  ·rw[show subN xs ys=([],2)from by simp[subN,hb,hc]];rw[show decide (cmp (num B xs) (num B ys)<0)=true from by rw[decide_eq_true_eq];simp[cmp,hc]];exact⟨⟨none,0,.is 0⟩,h0,rfl,Nats.nil _,g,Own.nil h⟩
  ·rw[show subN xs ys=told (num B xs-num B ys)from by rw[k3i n.lt lx.1];simp[subN,hb,hc]];rw[show decide (cmp (num B xs) (num B ys)<0)=false from by rw[decide_eq_false_iff_not];unfold cmp;rw[if_neg hc];split<;>omega];simp only[cond_false];obtain⟨s1,h1,zs,e1,n1,g1,o1,v1,_⟩:=kmv (n.grow g) (m.grow g) (by omega) (kv2 n.lt m.lt ly.2 (by omega)) (by omega);obtain⟨s2,e2,n2,o2⟩:=koo n1;rw[v1]at e2 n2;simp only[e1,e2,Option.bind_some,asSl_v,keo,kb];exact⟨s2,h1,rfl,n2,g.trans g1,(o2 h0 o1).of_le g⟩
 ·rw[show subN xs ys=([],1)from by simp only[subN,if_neg hb]]
  have:(rt xs&&rt ys)=false:=by
   cases hx:rt xs<;>cases hy:rt ys<;>simp_all
  rw[this];exact⟨⟨none,0,.is 0⟩,h0,rfl,Nats.nil _,g,Own.nil h⟩
end Go.Ab

/- squeezed -/
set_option maxRecDepth 10000
namespace Go.Ab
open Go.Proofs Go.Num
end Go.Ab

/- squeezed -/
set_option maxRecDepth 10000
namespace Go.Ab
open Go.Proofs Go.Num
end Go.Ab

/- squeezed -/
set_option maxRecDepth 10000
namespace Go.Ab
open Go.Proofs Go.Num
end Go.Ab

/- squeezed -/
set_option maxRecDepth 10000
namespace Go.Ab
open Go.Proofs Go.Num
end Go.Ab

/- squeezed -/
set_option maxRecDepth 10000
namespace Go.Ab
open Go.Proofs Go.Num
theorem kls{h:AH}{i:Nat}{a b:Sl}{xs ys:List Nat}{p q:Bool}(c:h.has i [.bool p,a.v,.bool q,b.v] T.kg)(n:Nats h a xs)(m:Nats h b ys):∃h',go (.fn F.kfd [(⟨some (.new i 0),2,.is 2⟩:Sl).v]) h=some (.bool (rtI p xs&&rtI q ys),h')∧Grow h h':=by
 have r:IRows h ⟨some (.new i 0),2,.is 2⟩ [(p,a,xs),(q,b,ys)]:=⟨Cells.of_has c rfl,fun r hr=>by
  simp at hr;rcases hr with rfl | rfl
  ·exact n
  ·exact m,by simp⟩
 obtain⟨h',e,g⟩:=kvu r;exact⟨h',by rw[e];simp,g⟩
end Go.Ab

/- squeezed -/
set_option maxRecDepth 10000
namespace Go.Ab
open Go.Proofs Go.Num
def kz(a1:Bool)(x2:List Nat)(a3:Bool)(x4:List Nat):Bool×List Nat×Int :=
 cond (!((rtI a1 x2&&rtI a3 x4))) ((false,[],1)) (cond (a1==a3) (((((fromI a1 ((addN x2 x4).1)).1)),(fromI a1 ((addN x2 x4).1)).2,((addN x2 x4).2))) (cond (decide ((cmpN x2 x4)<0)) (((((fromI a3 ((subN x4 x2).1)).1)),(fromI a3 ((subN x4 x2).1)).2,((subN x4 x2).2))) (((((fromI a1 ((subN x2 x4).1)).1)),(fromI a1 ((subN x2 x4).1)).2,((subN x2 x4).2)))))
theorem ksx{h:AH}{a2:Sl}{x2:List Nat}{a4:Sl}{x4:List Nat}(n2:Nats h a2 x2)(n4:Nats h a4 x4)(a1 a3:Bool):Runs (go (.fn F.kgk [.agg [.bool a1,a2.v],.agg [.bool a3,a4.v]]) h) fun v h'=>∃s1:Sl,v=.tup [.agg [.bool (kz a1 x2 a3 x4).1,s1.v],.int .i64 (kz a1 x2 a3 x4).2.2]∧Nats h' s1 ((kz a1 x2 a3 x4).2.1)∧Grow h h'∧Own h s1:=by
 rw[k9l];refine Runs.new fun H5 b5 g5=>?_;refine Runs.new fun H6 b6 g6=>?_;refine Runs.new fun H7 b7 g7=>?_;refine Runs.step (AH.has.rd ((g6.trans g7).has b5) 0 rfl rfl) ?_;refine Runs.step (AH.has.rd ((g6.trans g7).has b5) 1 rfl (asSl_v _)) ?_;refine Runs.step (AH.has.rd (g7.has b6) 0 rfl rfl) ?_;refine Runs.step (AH.has.rd (g7.has b6) 1 rfl (asSl_v _)) ?_;refine Runs.new fun H8 b8 g8=>?_;obtain⟨H9,e9,g9⟩:=kls b8 (n2.grow (((g5.trans g6).trans g7).trans g8)) (n4.grow (((g5.trans g6).trans g7).trans g8));refine Runs.step e9 ?_;refine Runs.step (seen rfl) ?_;refine Runs.cond (fun k10=>?_) (fun k10=>?_)
 ·refine Runs.puts ((g8.trans g9).has b7) rfl fun H11 b11 u11=>?_;have b8_11:=AH.has.updr (g9.has b8) (Nat.ne_of_gt (Nat.lt_of_lt_of_le (b7).lt (Nat.le_refl _))) u11;refine Runs.step (AH.has.rd b11 0 rfl rfl) ?_;refine Runs.step (AH.has.rd b11 1 rfl (asSl_v _)) ?_;have z:kz a1 x2 a3 x4=(false,[],1):=by unfold kz;exact(condT k10).trans rfl
  rw[z];exact Runs.ret ⟨(⟨none,0,.is 0⟩:Sl),rfl,(Nats.nil _),(((((g5.trans g6).trans g7).trans g8).trans g9).updr (Nat.le_trans ((g5.trans g6)).size (Nat.le_refl _)) u11),(Own.nil _)⟩
 ·refine Runs.step (AH.has.rd ((((g6.trans g7).trans g8).trans g9).has b5) 0 rfl rfl) ?_;refine Runs.step (AH.has.rd (((g7.trans g8).trans g9).has b6) 0 rfl rfl) ?_;refine Runs.cond (fun k11=>?_) (fun k11=>?_)
  ·refine Runs.step (AH.has.rd ((((g6.trans g7).trans g8).trans g9).has b5) 1 rfl (asSl_v _)) ?_;refine Runs.step (AH.has.rd (((g7.trans g8).trans g9).has b6) 1 rfl (asSl_v _)) ?_;obtain⟨s12,H12,e12,n12,g12,o12⟩:=kv4 (n2.grow ((((g5.trans g6).trans g7).trans g8).trans g9)) (n4.grow ((((g5.trans g6).trans g7).trans g8).trans g9));refine Runs.step e12 ?_;refine Runs.step rfl ?_;refine Runs.step (seen (asSl_v _)) ?_;refine Runs.step (seen (kb _ _)) ?_;refine Runs.step (AH.has.rd (((((g6.trans g7).trans g8).trans g9).trans g12).has b5) 0 rfl rfl) ?_;obtain⟨s13,H13,e13,n13,g13,o13⟩:=kcx n12 a1;refine Runs.step e13 ?_;refine Runs.step rfl ?_;refine Runs.ifT rfl ?_;refine Runs.step (seenAt rfl rfl) ?_;refine Runs.step (seenAt rfl (asSl_v _)) ?_;refine Runs.puts ((((g8.trans g9).trans g12).trans g13).has b7) rfl fun H14 b14 u14=>?_;have n12_14:=(n12.grow g13).upda (Av.of_own o12 ((g8.trans g9).has b7).lt) u14;have n13_14:=n13.upda (Av.of_own o13 (((g8.trans g9).trans g12).has b7).lt) u14;have b8_14:=AH.has.updr (((g9.trans g12).trans g13).has b8) (Nat.ne_of_gt (Nat.lt_of_lt_of_le (b7).lt (Nat.le_refl _))) u14;refine Runs.step (AH.has.rd b14 0 rfl rfl) ?_;refine Runs.step (AH.has.rd b14 1 rfl (asSl_v _)) ?_;have z:kz a1 x2 a3 x4=((((fromI a1 ((addN x2 x4).1)).1)),(fromI a1 ((addN x2 x4).1)).2,((addN x2 x4).2)):=by unfold kz;exact(condF k10).trans ((condT k11).trans rfl)
   rw[z];exact Runs.ret ⟨s13,rfl,n13_14,(((((((g5.trans g6).trans g7).trans g8).trans g9).trans g12).trans g13).updr (Nat.le_trans ((g5.trans g6)).size (Nat.le_refl _)) u14),(o13.of_le (((((g5.trans g6).trans g7).trans g8).trans g9).trans g12))⟩
  ·refine Runs.step (AH.has.rd ((((g6.trans g7).trans g8).trans g9).has b5) 1 rfl (asSl_v _)) ?_;refine Runs.step (AH.has.rd (((g7.trans g8).trans g9).has b6) 1 rfl (asSl_v _)) ?_;obtain⟨H12,e12,g12⟩:=km9 (n2.grow ((((g5.trans g6).trans g7).trans g8).trans g9)) (n4.grow ((((g5.trans g6).trans g7).trans g8).trans g9));refine Runs.step e12 ?_;refine Runs.step (seen (kb _ _)) ?_;refine Runs.cond (fun k13=>?_) (fun k13=>?_)
   ·refine Runs.step (AH.has.rd ((((g7.trans g8).trans g9).trans g12).has b6) 0 rfl rfl) ?_;refine Runs.step (AH.has.rd ((((g7.trans g8).trans g9).trans g12).has b6) 1 rfl (asSl_v _)) ?_;refine Runs.step (AH.has.rd (((((g6.trans g7).trans g8).trans g9).trans g12).has b5) 0 rfl rfl) ?_;refine Runs.step (AH.has.rd (((((g6.trans g7).trans g8).trans g9).trans g12).has b5) 1 rfl (asSl_v _)) ?_;refine Runs.puts (((((g6.trans g7).trans g8).trans g9).trans g12).has b5) rfl fun H14 b14 u14=>?_;have b6_14:=AH.has.updr ((((g7.trans g8).trans g9).trans g12).has b6) (Nat.ne_of_gt (Nat.lt_of_lt_of_le (b5).lt (Nat.le_refl _))) u14;have b7_14:=AH.has.updr (((g8.trans g9).trans g12).has b7) (Nat.ne_of_gt (Nat.lt_of_lt_of_le (g6.has b5).lt (Nat.le_refl _))) u14;have b8_14:=AH.has.updr ((g9.trans g12).has b8) (Nat.ne_of_gt (Nat.lt_of_lt_of_le ((g6.trans g7).has b5).lt (Nat.le_refl _))) u14;refine Runs.puts b6_14 rfl fun H15 b15 u15=>?_;have b14_15:=AH.has.updr b14 (Nat.ne_of_lt (Nat.lt_of_lt_of_le (b5).lt (Nat.le_refl _))) u15;have b7_15:=AH.has.updr b7_14 (Nat.ne_of_gt (Nat.lt_of_lt_of_le (b6).lt (Nat.le_refl _))) u15;have b8_15:=AH.has.updr b8_14 (Nat.ne_of_gt (Nat.lt_of_lt_of_le (g7.has b6).lt (Nat.le_refl _))) u15;refine Runs.step (AH.has.rd b14_15 1 rfl (asSl_v _)) ?_;refine Runs.step (AH.has.rd b15 1 rfl (asSl_v _)) ?_;obtain⟨s16,H16,e16,n16,g16,o16⟩:=koj (n4.grow (((((((g5.trans g6).trans g7).trans g8).trans g9).trans g12).updr (Nat.le_refl _) u14).updr (Nat.le_trans (g5).size (Nat.le_refl _)) u15)) (n2.grow (((((((g5.trans g6).trans g7).trans g8).trans g9).trans g12).updr (Nat.le_refl _) u14).updr (Nat.le_trans (g5).size (Nat.le_refl _)) u15));refine Runs.step e16 ?_;refine Runs.step rfl ?_;refine Runs.step (seen (asSl_v _)) ?_;refine Runs.step (seen (kb _ _)) ?_;refine Runs.step (AH.has.rd (g16.has b14_15) 0 rfl rfl) ?_;obtain⟨s17,H17,e17,n17,g17,o17⟩:=kcx n16 a3;refine Runs.step e17 ?_;refine Runs.step rfl ?_;refine Runs.ifT rfl ?_;refine Runs.step (seenAt rfl rfl) ?_;refine Runs.step (seenAt rfl (asSl_v _)) ?_;refine Runs.puts ((g16.trans g17).has b7_15) rfl fun H18 b18 u18=>?_;have n16_18:=(n16.grow g17).upda (Av.of_own o16 (b7_15).lt) u18;have n17_18:=n17.upda (Av.of_own o17 (g16.has b7_15).lt) u18;have b14_18:=AH.has.updr ((g16.trans g17).has b14_15) (Nat.ne_of_lt (Nat.lt_of_lt_of_le (g6.has b5).lt (Nat.le_refl _))) u18;have b15_18:=AH.has.updr ((g16.trans g17).has b15) (Nat.ne_of_lt (Nat.lt_of_lt_of_le (b6).lt (Nat.le_refl _))) u18;have b8_18:=AH.has.updr ((g16.trans g17).has b8_15) (Nat.ne_of_gt (Nat.lt_of_lt_of_le (b7).lt (Nat.le_refl _))) u18;refine Runs.step (AH.has.rd b18 0 rfl rfl) ?_;refine Runs.step (AH.has.rd b18 1 rfl (asSl_v _)) ?_;have z:kz a1 x2 a3 x4=((((fromI a3 ((subN x4 x2).1)).1)),(fromI a3 ((subN x4 x2).1)).2,((subN x4 x2).2)):=by unfold kz;exact(condF k10).trans ((condF k11).trans ((condT k13).trans rfl))
    rw[z];exact Runs.ret ⟨s17,rfl,n17_18,((((((((((g5.trans g6).trans g7).trans g8).trans g9).trans g12).updr (Nat.le_refl _) u14).updr (Nat.le_trans (g5).size (Nat.le_refl _)) u15).trans g16).trans g17).updr (Nat.le_trans ((g5.trans g6)).size (Nat.le_refl _)) u18),(o17.of_le ((((((((g5.trans g6).trans g7).trans g8).trans g9).trans g12).updr (Nat.le_refl _) u14).updr (Nat.le_trans (g5).size (Nat.le_refl _)) u15).trans g16))⟩
   ·refine Runs.step (AH.has.rd (((((g6.trans g7).trans g8).trans g9).trans g12).has b5) 1 rfl (asSl_v _)) ?_;refine Runs.step (AH.has.rd ((((g7.trans g8).trans g9).trans g12).has b6) 1 rfl (asSl_v _)) ?_;obtain⟨s14,H14,e14,n14,g14,o14⟩:=koj (n2.grow (((((g5.trans g6).trans g7).trans g8).trans g9).trans g12)) (n4.grow (((((g5.trans g6).trans g7).trans g8).trans g9).trans g12));refine Runs.step e14 ?_;refine Runs.step rfl ?_;refine Runs.step (seen (asSl_v _)) ?_;refine Runs.step (seen (kb _ _)) ?_;refine Runs.step (AH.has.rd ((((((g6.trans g7).trans g8).trans g9).trans g12).trans g14).has b5) 0 rfl rfl) ?_;obtain⟨s15,H15,e15,n15,g15,o15⟩:=kcx n14 a1;refine Runs.step e15 ?_;refine Runs.step rfl ?_;refine Runs.ifT rfl ?_;refine Runs.step (seenAt rfl rfl) ?_;refine Runs.step (seenAt rfl (asSl_v _)) ?_;refine Runs.puts (((((g8.trans g9).trans g12).trans g14).trans g15).has b7) rfl fun H16 b16 u16=>?_;have n14_16:=(n14.grow g15).upda (Av.of_own o14 (((g8.trans g9).trans g12).has b7).lt) u16;have n15_16:=n15.upda (Av.of_own o15 ((((g8.trans g9).trans g12).trans g14).has b7).lt) u16;have b8_16:=AH.has.updr ((((g9.trans g12).trans g14).trans g15).has b8) (Nat.ne_of_gt (Nat.lt_of_lt_of_le (b7).lt (Nat.le_refl _))) u16;refine Runs.step (AH.has.rd b16 0 rfl rfl) ?_;refine Runs.step (AH.has.rd b16 1 rfl (asSl_v _)) ?_;have z:kz a1 x2 a3 x4=((((fromI a1 ((subN x2 x4).1)).1)),(fromI a1 ((subN x2 x4).1)).2,((subN x2 x4).2)):=by unfold kz;exact(condF k10).trans ((condF k11).trans ((condF k13).trans rfl))
    rw[z];exact Runs.ret ⟨s15,rfl,n15_16,((((((((g5.trans g6).trans g7).trans g8).trans g9).trans g12).trans g14).trans g15).updr (Nat.le_trans ((g5.trans g6)).size (Nat.le_refl _)) u16),(o15.of_le ((((((g5.trans g6).trans g7).trans g8).trans g9).trans g12).trans g14))⟩
theorem rtI_rt{p:Bool}{xs:List Nat}(h:rtI p xs=true):rt xs=true:=by
 unfold rtI at h;revert h;cases rt xs<;>simp
def kbj(a1:Bool)(x2:List Nat)(a3:Bool)(x4:List Nat):Bool×List Nat×Int :=
 cond (!((rtI a1 x2&&rtI a3 x4))) ((false,[],1)) (((((kz a1 x2 ((negI a3 x4).1) ((negI a3 x4).2)).1)),(kz a1 x2 ((negI a3 x4).1) ((negI a3 x4).2)).2.1,((kz a1 x2 ((negI a3 x4).1) ((negI a3 x4).2)).2.2)))
theorem k91{h:AH}{a2:Sl}{x2:List Nat}{a4:Sl}{x4:List Nat}(n2:Nats h a2 x2)(n4:Nats h a4 x4)(a1 a3:Bool):Runs (go (.fn F.khk [.agg [.bool a1,a2.v],.agg [.bool a3,a4.v]]) h) fun v h'=>∃s1:Sl,v=.tup [.agg [.bool (kbj a1 x2 a3 x4).1,s1.v],.int .i64 (kbj a1 x2 a3 x4).2.2]∧Nats h' s1 ((kbj a1 x2 a3 x4).2.1)∧Grow h h'∧Own h s1:=by
 rw[kba6];refine Runs.new fun H5 b5 g5=>?_;refine Runs.new fun H6 b6 g6=>?_;refine Runs.new fun H7 b7 g7=>?_;refine Runs.step (AH.has.rd ((g6.trans g7).has b5) 0 rfl rfl) ?_;refine Runs.step (AH.has.rd ((g6.trans g7).has b5) 1 rfl (asSl_v _)) ?_;refine Runs.step (AH.has.rd (g7.has b6) 0 rfl rfl) ?_;refine Runs.step (AH.has.rd (g7.has b6) 1 rfl (asSl_v _)) ?_;refine Runs.new fun H8 b8 g8=>?_;obtain⟨H9,e9,g9⟩:=kls b8 (n2.grow (((g5.trans g6).trans g7).trans g8)) (n4.grow (((g5.trans g6).trans g7).trans g8));refine Runs.step e9 ?_;refine Runs.step (seen rfl) ?_;refine Runs.cond (fun k10=>?_) (fun k10=>?_)
 ·refine Runs.puts ((g8.trans g9).has b7) rfl fun H11 b11 u11=>?_;have b8_11:=AH.has.updr (g9.has b8) (Nat.ne_of_gt (Nat.lt_of_lt_of_le (b7).lt (Nat.le_refl _))) u11;refine Runs.step (AH.has.rd b11 0 rfl rfl) ?_;refine Runs.step (AH.has.rd b11 1 rfl (asSl_v _)) ?_;have z:kbj a1 x2 a3 x4=(false,[],1):=by unfold kbj;exact(condT k10).trans rfl
  rw[z];exact Runs.ret ⟨(⟨none,0,.is 0⟩:Sl),rfl,(Nats.nil _),(((((g5.trans g6).trans g7).trans g8).trans g9).updr (Nat.le_trans ((g5.trans g6)).size (Nat.le_refl _)) u11),(Own.nil _)⟩
 ·refine Runs.step (AH.has.rd ((((g6.trans g7).trans g8).trans g9).has b5) 0 rfl rfl) ?_;refine Runs.step (AH.has.rd ((((g6.trans g7).trans g8).trans g9).has b5) 1 rfl (asSl_v _)) ?_;refine Runs.step (AH.has.rd (((g7.trans g8).trans g9).has b6) 0 rfl rfl) ?_;refine Runs.step (AH.has.rd (((g7.trans g8).trans g9).has b6) 1 rfl (asSl_v _)) ?_;obtain⟨s11,H11,e11,n11,g11,o11⟩:=k8d (n4.grow ((((g5.trans g6).trans g7).trans g8).trans g9)) a3;refine Runs.step e11 ?_;refine Runs.step rfl ?_;refine Runs.ifT rfl ?_;refine Runs.step (seenAt rfl rfl) ?_;refine Runs.step (seenAt rfl (asSl_v _)) ?_;refine Runs.when (g11.same ((((g6.trans g7).trans g8).trans g9).has b5) 0 2) ?_;obtain⟨_,H12,e12,s12,rfl,n12,g12,o12⟩:=ksx (n2.grow (((((g5.trans g6).trans g7).trans g8).trans g9).trans g11)) n11 a1 ((negI a3 x4).1);refine Runs.step e12 ?_;refine Runs.step rfl ?_;refine Runs.step rfl ?_;refine Runs.ifT rfl ?_;refine Runs.step (seenAt rfl rfl) ?_;refine Runs.step (seenAt rfl (asSl_v _)) ?_;refine Runs.step (seen (kb _ _)) ?_;refine Runs.puts ((((g8.trans g9).trans g11).trans g12).has b7) rfl fun H13 b13 u13=>?_;have n11_13:=(n11.grow g12).upda (Av.of_own o11 ((g8.trans g9).has b7).lt) u13;have n12_13:=n12.upda (Av.of_own o12 (((g8.trans g9).trans g11).has b7).lt) u13;have b8_13:=AH.has.updr (((g9.trans g11).trans g12).has b8) (Nat.ne_of_gt (Nat.lt_of_lt_of_le (b7).lt (Nat.le_refl _))) u13;refine Runs.step (AH.has.rd b13 0 rfl rfl) ?_;refine Runs.step (AH.has.rd b13 1 rfl (asSl_v _)) ?_;have z:kbj a1 x2 a3 x4=((((kz a1 x2 ((negI a3 x4).1) ((negI a3 x4).2)).1)),(kz a1 x2 ((negI a3 x4).1) ((negI a3 x4).2)).2.1,((kz a1 x2 ((negI a3 x4).1) ((negI a3 x4).2)).2.2)):=by unfold kbj;exact(condF k10).trans rfl
  rw[z];exact Runs.ret ⟨s12,rfl,n12_13,(((((((g5.trans g6).trans g7).trans g8).trans g9).trans g11).trans g12).updr (Nat.le_trans ((g5.trans g6)).size (Nat.le_refl _)) u13),(o12.of_le (((((g5.trans g6).trans g7).trans g8).trans g9).trans g11))⟩
end Go.Ab

/- squeezed -/
set_option maxRecDepth 10000
namespace Go.Ab
open Go.Proofs Go.Num
theorem kcg(x n:Nat):ishr .u64 (x:Int) (n:Int)=((x/2^min n 64:Nat):Int):=by
 unfold ishr;rw[Int.toNat_natCast,show IntKind.bits .u64=64 from rfl];have:((2:Int)^min n 64)=((2^min n 64:Nat):Int):=by simp
 rw[this,Int.fdiv_eq_ediv_of_nonneg _ (Int.natCast_nonneg _)];exact(Int.natCast_ediv _ _).symm
theorem ki2{x:Nat}(hx:x<18446744073709551616):iand .u64 (x:Int) 4294967295=((x%4294967296:Nat):Int):=by
 unfold iand;rw[show IntKind.bits .u64=64 from rfl,wrapU];have e1:BitVec.ofInt 64 (x:Int)=BitVec.ofNat 64 x:=rfl;have e2:BitVec.ofInt 64 4294967295=BitVec.ofNat 64 4294967295:=rfl;rw[e1,e2,BitVec.toNat_and,BitVec.toNat_ofNat,BitVec.toNat_ofNat];rw[Nat.mod_eq_of_lt (show x<2^64 from hx),Nat.mod_eq_of_lt (show 4294967295<2^64 from by decide)];rw[show(4294967295:Nat)=2^32-1 from rfl,Nat.and_two_pow_sub_one_eq_mod];have:=Nat.mod_lt x (show 0<2^32 by decide);omega
def mul64(a1 a2:Int):Int×Int:=((IntKind.wrap .u64 ((IntKind.wrap .u64 ((IntKind.wrap .u64 ((ishr .u64 a1 32)*(ishr .u64 a2 32)))+(ishr .u64 (IntKind.wrap .u64 ((IntKind.wrap .u64 ((ishr .u64 a1 32)*(iand .u64 a2 4294967295)))+(ishr .u64 (IntKind.wrap .u64 ((iand .u64 a1 4294967295)*(iand .u64 a2 4294967295))) 32))) 32)))+(ishr .u64 (IntKind.wrap .u64 ((iand .u64 (IntKind.wrap .u64 ((IntKind.wrap .u64 ((ishr .u64 a1 32)*(iand .u64 a2 4294967295)))+(ishr .u64 (IntKind.wrap .u64 ((iand .u64 a1 4294967295)*(iand .u64 a2 4294967295))) 32))) 4294967295)+(IntKind.wrap .u64 ((iand .u64 a1 4294967295)*(ishr .u64 a2 32))))) 32))),IntKind.wrap .u64 (a1*a2))
theorem ksf(a1 a2:Int){h:AH}:go (.fn F.knf [.int .u64 a1,.int .u64 a2]) h=some (.tup [.int .u64 (mul64 a1 a2).1,.int .u64 (mul64 a1 a2).2],h):=k7b a1 a2 h
theorem k4p(x1 x0 y1 y0:Nat):(x1*4294967296+x0)*(y1*4294967296+y0)=x1*y1*18446744073709551616+(x1*y0+x0*y1)*4294967296+x0*y0:=by
 rw[Nat.add_mul,Nat.mul_add,Nat.mul_add]
 have e1:x1*4294967296*(y1*4294967296)=x1*y1*18446744073709551616:=by
  rw[Nat.mul_mul_mul_comm]
 have e2:x1*4294967296*y0=x1*y0*4294967296:=by rw[Nat.mul_right_comm]
 have e3:x0*(y1*4294967296)=x0*y1*4294967296:=by rw[Nat.mul_assoc]
 rw[e1,e2,e3];omega
theorem kus{x y:Nat}(hx:x<B)(hy:y<B):mul64 (x:Int) (y:Int)=(((x*y/B:Nat):Int),((x*y%B:Nat):Int)):=by
 have hx:x<18446744073709551616:=hx;have hy:y<18446744073709551616:=hy;unfold mul64;have s1:=kcg x 32;have s2:=kcg y 32;have a1:=ki2 hx;have a2:=ki2 hy;have p32:(2:Nat)^min 32 64=4294967296:=rfl;rw[p32]at s1 s2;rw[show((32:Nat):Int)=32 from rfl]at s1 s2;rw[s1,s2,a1,a2];generalize hx1:x/4294967296=x1;generalize hx0:x%4294967296=x0;generalize hy1:y/4294967296=y1;generalize hy0:y%4294967296=y0;have ex:x=x1*4294967296+x0:=by omega
 have ey:y=y1*4294967296+y0:=by omega
 have l1:x1≤4294967295:=by omega
 have l2:x0≤4294967295:=by omega
 have l3:y1≤4294967295:=by omega
 have l4:y0≤4294967295:=by omega
 have b1:x1*y1≤4294967295*4294967295:=Nat.mul_le_mul l1 l3;have b2:x1*y0≤4294967295*4294967295:=Nat.mul_le_mul l1 l4;have b3:x0*y1≤4294967295*4294967295:=Nat.mul_le_mul l2 l3;have b4:x0*y0≤4294967295*4294967295:=Nat.mul_le_mul l2 l4;have key:=k4p x1 x0 y1 y0;rw[← ex,← ey]at key;have w1:IntKind.wrap .u64 (((x0:Nat):Int)*((y0:Nat):Int))=((x0*y0:Nat):Int):=by rw[wrapU,← Int.natCast_mul];omega
 have w2:IntKind.wrap .u64 (((x1:Nat):Int)*((y0:Nat):Int))=((x1*y0:Nat):Int):=by rw[wrapU,← Int.natCast_mul];omega
 have w3:IntKind.wrap .u64 (((x0:Nat):Int)*((y1:Nat):Int))=((x0*y1:Nat):Int):=by rw[wrapU,← Int.natCast_mul];omega
 have w4:IntKind.wrap .u64 (((x1:Nat):Int)*((y1:Nat):Int))=((x1*y1:Nat):Int):=by rw[wrapU,← Int.natCast_mul];omega
 rw[w1,w2,w3,w4]
 have lo:IntKind.wrap .u64 ((x:Int)*(y:Int))=((x*y%B:Nat):Int):=by
  rw[wrapU,← Int.natCast_mul];rfl
 rw[lo];generalize x0*y0=p at *
 generalize x1*y0=q at *
 generalize x0*y1=u at *
 generalize x1*y1=v at *
 have s3:=kcg p 32;rw[p32]at s3;rw[show((32:Nat):Int)=32 from rfl]at s3;rw[s3];have w5:IntKind.wrap .u64 (((q:Nat):Int)+((p/4294967296:Nat):Int))=((q+p/4294967296:Nat):Int):=by rw[wrapU];omega
 rw[w5];have ht:q+p/4294967296<18446744073709551616:=by omega
 have s4:=kcg (q+p/4294967296) 32;rw[p32]at s4;rw[show((32:Nat):Int)=32 from rfl]at s4;rw[s4,ki2 ht];generalize ht':q+p/4294967296=t at *
 have w6:IntKind.wrap .u64 (((t%4294967296:Nat):Int)+((u:Nat):Int))=((t%4294967296+u:Nat):Int):=by rw[wrapU];omega
 rw[w6];have s5:=kcg (t%4294967296+u) 32;rw[p32]at s5;rw[show((32:Nat):Int)=32 from rfl]at s5;rw[s5];have w7:IntKind.wrap .u64 (((v:Nat):Int)+((t/4294967296:Nat):Int))=((v+t/4294967296:Nat):Int):=by rw[wrapU];omega
 rw[w7];have w8:IntKind.wrap .u64 (((v+t/4294967296:Nat):Int)+(((t%4294967296+u)/4294967296:Nat):Int))=((v+t/4294967296+(t%4294967296+u)/4294967296:Nat):Int):=by rw[wrapU];omega
 rw[w8]
 have hi:v+t/4294967296+(t%4294967296+u)/4294967296=x*y/18446744073709551616:=by
  rw[key];omega
 rw[hi]
end Go.Ab

/- squeezed -/
set_option maxRecDepth 10000
namespace Go.Ab
open Go.Proofs Go.Num
inductive kdv
 | fn (x1:List Nat) (x2:List Nat)
 | p3 (x1:List Nat) (x2:List Nat) (x3:List Nat) (a4:Int) (a5:Int)
 | p7 (x1:List Nat) (x2:List Nat) (a3:Int) (a4:Int) (a5:Int) (x6:List Nat) (a7:Int) (a8:Int) (x9:List Nat) (a10:Int) (a11:Int)
abbrev kcv:=List Nat
noncomputable def kj8(x1 x2:List Nat):Option (kdv⊕kcv) :=
 (mkI (IntKind.wrap .i64 ((List.length x1:Int)+(List.length x2:Int))) (IntKind.wrap .i64 ((List.length x1:Int)+(List.length x2:Int)))).bind fun m3=>some (.inl (.p3 x2 (List.replicate m3 0) x1 (List.length x1:Int) 0))
noncomputable def kgf(x1 x2 x3:List Nat)(a4 a5:Int):Option (kdv⊕kcv) :=
 cond (decide (a5<a4)) ((atI x3 a5).bind fun y7=>some (.inl (.p7 x1 x2 a5 ((y7:Int)) 0 x3 a4 a5 x1 (List.length x1:Int) 0))) (some (.inr (digs B (num B x2))))
noncomputable def kf3(x1 x2:List Nat)(a3 a4 a5:Int)(x6:List Nat)(a7 a8:Int)(x9:List Nat)(a10 a11:Int):Option (kdv⊕kcv) :=
 cond (decide (a11<a10)) ((atI x9 a11).bind fun y13=>(inI (List.length x2) (IntKind.wrap .i64 (a3+a11))).bind fun j15=>(add64P ((mul64 a4 ((y13:Int))).2) (((List.getD x2 j15 0:Nat):Int)) 0).bind fun p16=>(add64P (p16.1) a5 0).bind fun p17=>(inI (List.length x2) (IntKind.wrap .i64 (a3+a11))).bind fun j18=>(u64P (p17.1)).bind fun w19=>some (.inl (.p7 x1 (List.set x2 j18 w19) a3 a4 (IntKind.wrap .u64 ((IntKind.wrap .u64 (((mul64 a4 ((y13:Int))).1)+(p16.2)))+(p17.2))) x6 a7 a8 x9 a10 (IntKind.wrap .i64 (a11+1))))) ((inI (List.length x2) (IntKind.wrap .i64 (a3+(List.length x1:Int)))).bind fun j13=>(u64P a5).bind fun w14=>some (.inl (.p3 x1 (List.set x2 j13 w14) x6 a7 (IntKind.wrap .i64 (a8+1)))))
noncomputable def kkh:kdv→Option (kdv⊕kcv)
 | .fn x1 x2=>kj8 x1 x2
 | .p3 x1 x2 x3 a4 a5=>kgf x1 x2 x3 a4 a5
 | .p7 x1 x2 a3 a4 a5 x6 a7 a8 x9 a10 a11=>kf3 x1 x2 a3 a4 a5 x6 a7 a8 x9 a10 a11
@[reducible] def kpf(h0:AH)(r:kcv)(v:AV)(h':AH):Prop:=∃s1:Sl,v=s1.v∧Nats h' s1 r∧Grow h0 h'∧Own h0 s1
def kgx(r:kcv):kdv→Prop
 | .fn x1 x2=>∀{h:AH}{a1:Sl}{a2:Sl},Nats h a1 x1→Nats h a2 x2→Runs (go (.fn F.kcs [a1.v,a2.v]) h) (kpf h r)
 | .p3 x1 x2 x3 a4 a5=>∀{h0 h:AH}{a1:Sl}{a2:Sl}{a3:Sl}{i2:Nat},Grow h0 h→Nats h a1 x1→Vec h a2 i2 x2→Nats h a3 x3→h0.blks.size≤i2→Av a1 i2 x1→Av a3 i2 x3→Runs (go (.pt F.kcs Td.knc [(1,a1.v),(5,a2.v),(20,a3.v),(21,.int .i64 a4),(22,.int .i64 a5)]) h) (kpf h0 r)
 | .p7 x1 x2 a3 a4 a5 x6 a7 a8 x9 a10 a11=>∀{h0 h:AH}{a1:Sl}{a2:Sl}{a6:Sl}{a9:Sl}{i2:Nat},Grow h0 h→Nats h a1 x1→Vec h a2 i2 x2→Nats h a6 x6→Nats h a9 x9→h0.blks.size≤i2→Av a1 i2 x1→Av a6 i2 x6→Av a9 i2 x9→Runs (go (.pt F.kcs Td.kmz [(1,a1.v),(5,a2.v),(6,.int .i64 a3),(7,.int .u64 a4),(8,.int .u64 a5),(20,a6.v),(21,.int .i64 a7),(22,.int .i64 a8),(27,a9.v),(28,.int .i64 a10),(29,.int .i64 a11)]) h) (kpf h0 r)
theorem k2x{r:kcv}{o:kdv⊕kcv}{x1 x2:List Nat}(e:kj8 x1 x2=some o)(good:GoodS (kgx r) r o):kgx r (.fn x1 x2):=by
 intro h a1 a2 n1 n2;rw[kbbr];unfold kj8 at e;rw[n1.len];rw[n2.len];obtain⟨m3,q3,e⟩:=Option.bind_eq_some_iff.1 e;refine Runs.mk q3 ken fun s3 H3 v3 g3=>?_;cases e;exact good g3 (n2.grow g3) v3 (n1.grow g3) (Nat.le_refl _) (Av.of_base n2 (Nat.le_refl _)) (Av.of_base n1 (Nat.le_refl _))
theorem k8w{r:kcv}{o:kdv⊕kcv}{x1 x2 x3:List Nat}{a4 a5:Int}(e:kgf x1 x2 x3 a4 a5=some o)(good:GoodS (kgx r) r o):kgx r (.p3 x1 x2 x3 a4 a5):=by
 intro h0 h a1 a2 a3 i2 g0 n1 v2 n3 hi2 av1_2 av3_2;rw[k8g];unfold kgf at e;rw[n1.len];rw[n3.len];refine Runs.cond (fun k6=>?_) (fun k6=>?_)
 ·replace e:=(condT k6).symm.trans e;obtain⟨y7,q7,e⟩:=Option.bind_eq_some_iff.1 e;obtain⟨r7,j7,l7⟩:=n3.atI q7;refine Runs.step j7 ?_;refine Runs.step (rdc l7 (kb _ _)) ?_;cases e;exact good g0 n1 v2 n3 n1 hi2 av1_2 av3_2 av1_2
 ·replace e:=(condF k6).symm.trans e;obtain⟨s7,e7,n7,o7⟩:=kc9 v2.nats;refine Runs.step e7 ?_;refine Runs.step (seen (asSl_v _)) ?_;cases e;cases good;exact Runs.ret ⟨s7,rfl,n7,g0,((o7 _ (v2.own hi2)).of_le (Grow.refl _))⟩
theorem ky6{r:kcv}{o:kdv⊕kcv}{x1 x2:List Nat}{a3 a4 a5:Int}{x6:List Nat}{a7 a8:Int}{x9:List Nat}{a10 a11:Int}(e:kf3 x1 x2 a3 a4 a5 x6 a7 a8 x9 a10 a11=some o)(good:GoodS (kgx r) r o):kgx r (.p7 x1 x2 a3 a4 a5 x6 a7 a8 x9 a10 a11):=by
 intro h0 h a1 a2 a6 a9 i2 g0 n1 v2 n6 n9 hi2 av1_2 av6_2 av9_2;rw[k3u];unfold kf3 at e;rw[n1.len];rw[v2.nats.len];rw[n9.len];refine Runs.cond (fun k12=>?_) (fun k12=>?_)
 ·replace e:=(condT k12).symm.trans e;obtain⟨y13,q13,e⟩:=Option.bind_eq_some_iff.1 e;obtain⟨r13,j13,l13⟩:=n9.atI q13;refine Runs.step j13 ?_;refine Runs.step (rdc l13 (kb _ _)) ?_;refine Runs.step (ksf a4 ((y13:Int))) ?_;refine Runs.step rfl ?_;refine Runs.step (seen (kb _ _)) ?_;refine Runs.step (seen (kb _ _)) ?_;obtain⟨j15,q15,e⟩:=Option.bind_eq_some_iff.1 e;refine Runs.step (v2.idx rfl q15) ?_;refine Runs.step (v2.rd rfl q15 (kb _ _)) ?_;obtain⟨p16,q16,e⟩:=Option.bind_eq_some_iff.1 e;refine Runs.step (kh9 q16) ?_;refine Runs.step rfl ?_;refine Runs.step (seen (kb _ _)) ?_;refine Runs.step (seen (kb _ _)) ?_;obtain⟨p17,q17,e⟩:=Option.bind_eq_some_iff.1 e;refine Runs.step (kh9 q17) ?_;refine Runs.step rfl ?_;refine Runs.step (seen (kb _ _)) ?_;refine Runs.step (seen (kb _ _)) ?_;obtain⟨j18,q18,e⟩:=Option.bind_eq_some_iff.1 e;refine Runs.step (v2.idx rfl q18) ?_;obtain⟨w19,z19,e⟩:=Option.bind_eq_some_iff.1 e;refine Runs.vput v2 rfl q18 z19 fun H19 v19 u19=>?_;have n1_19:=n1.upda av1_2 u19;have n6_19:=n6.upda av6_2 u19;have n9_19:=n9.upda av9_2 u19;cases e;exact good (g0.updr hi2 u19) n1_19 v19 n6_19 n9_19 hi2 av1_2 av6_2 av9_2
 ·replace e:=(condF k12).symm.trans e;obtain⟨j13,q13,e⟩:=Option.bind_eq_some_iff.1 e;refine Runs.step (v2.idx rfl q13) ?_;obtain⟨w14,z14,e⟩:=Option.bind_eq_some_iff.1 e;refine Runs.vput v2 rfl q13 z14 fun H14 v14 u14=>?_;have n1_14:=n1.upda av1_2 u14;have n6_14:=n6.upda av6_2 u14;have n9_14:=n9.upda av9_2 u14;cases e;exact good (g0.updr hi2 u14) n1_14 v14 n6_14 hi2 av1_2 av6_2
theorem k3h{s:kdv}{r:kcv}(it:Iter kkh s r):kgx r s:=Iter.ind (fun s o e good=>by
 cases s with
 | fn x1 x2=>exact @k2x _ _ x1 x2 e good
 | p3 x1 x2 x3 a4 a5=>exact @k8w _ _ x1 x2 x3 a4 a5 e good
 | p7 x1 x2 a3 a4 a5 x6 a7 a8 x9 a10 a11=>exact @ky6 _ _ x1 x2 a3 a4 a5 x6 a7 a8 x9 a10 a11 e good
 ) it
end Go.Ab

/- squeezed -/
set_option maxRecDepth 10000
namespace Go.Ab
open Go.Proofs Go.Num
theorem k1t{t o c:Nat}(ho:o<18446744073709551616)(hc:c<18446744073709551616)(h:(t+o+c)/18446744073709551616<18446744073709551616) :
  ((t%18446744073709551616+o+0)%18446744073709551616+c+0)%18446744073709551616=(t+o+c)%18446744073709551616∧
  IntKind.wrap .u64 (IntKind.wrap .u64 (((t/18446744073709551616:Nat):Int)+(((t%18446744073709551616+o+0)/18446744073709551616:Nat):Int))+((((t%18446744073709551616+o+0)%18446744073709551616+c+0)/18446744073709551616:Nat):Int))=(((t+o+c)/18446744073709551616:Nat):Int):=by
 rw[wrapU,wrapU];omega
def Empty(o:List Nat)(k:Nat):Prop:=∀j (h:j<o.length),k≤j→o[j]=0
theorem Empty.set{o:List Nat}{k j w:Nat}(z:Empty o k)(hj:j<k):Empty (o.set j w) k:=fun t ht hk=>by
 rw[List.getElem_set_ne (by omega)];exact z t (by simpa using ht) hk
theorem Empty.succ{o:List Nat}{k:Nat}(z:Empty o k):Empty o (k+1):=fun t ht hk=>z t ht (by omega)
theorem set_lt{b:Nat}{o:List Nat}{j w:Nat}(h:∀x∈o,x<b)(hw:w<b):∀x∈o.set j w,x<b:=fun x hx=>by
 rcases List.mem_or_eq_of_mem_set hx with h1 | h1
 ·exact h x h1
 ·rw[h1];exact hw
theorem kvz{xs ys:List Nat}{r:kcv}{i x T:Nat}(hx:x<B)(ly:∀y∈ys,y<B)(hn:xs.length+ys.length≤8796093022208)(hi:i<xs.length)
  (K:∀o:List Nat,o.length=xs.length+ys.length→(∀y∈o,y<B)→Empty o (i+1+ys.length)→num B o=T+B^i*(x*num B ys)→Iter kkh (.p3 ys o xs (xs.length:Int) ((i+1:Nat):Int)) r) :
  ∀(d k:Nat),k+d=ys.length→∀(o:List Nat)(c:Nat),o.length=xs.length+ys.length→(∀y∈o,y<B)→Empty o (i+ys.length)→c<B→Row B o i k c x ys T→
   Iter kkh (.p7 ys o (i:Int) (x:Int) (c:Int) xs (xs.length:Int) (i:Int) ys (ys.length:Int) (k:Int)) r
 | 0,k,hk,o,c,lo,to,zo,hc,row=>by
  have hk:k=ys.length:=by omega
  subst hk;have hj:i+ys.length<o.length:=by omega
  refine .next ?_ (K (o.set (i+ys.length) c) (by simpa using lo) (set_lt to hc) ?_ ?_)
  ·show kf3 _ _ _ _ _ _ _ _ _ _ _=_;unfold kf3;rw[condF (by rw[decide_eq_false_iff_not];omega),← Int.natCast_add,khq (by omega),kbd hj,Option.bind_some,kbt hc,Option.bind_some,kq (by omega)]
  ·rw[show i+1+ys.length=i+ys.length+1 from by omega];intro j h1 h2;rw[List.getElem_set_ne (by omega)];exact zo j (by simpa using h1) (by omega)
  ·exact row.stop hj (zo _ hj (Nat.le_refl _))
 | d+1,k,hk,o,c,lo,to,zo,hc,row=>by
  have hk':k<ys.length:=by omega
  have hj:i+k<o.length:=by omega
  have hy:=ly ys[k] (List.getElem_mem _);have ho:=to o[i+k] (List.getElem_mem _);have hc':=k81 hx hy ho hc;obtain⟨c1,c2⟩:=k1t ho hc hc';have hl:=Nat.mod_lt (x*ys[k]+o[i+k]+c) (show 0<18446744073709551616 by omega);refine .next ?_ (kvz hx ly hn hi K d (k+1) (by omega) (o.set (i+k) ((x*ys[k]+o[i+k]+c)%18446744073709551616)) ((x*ys[k]+o[i+k]+c)/18446744073709551616) (by simpa using lo) (set_lt to hl) (zo.set (by omega)) hc' (row.step hk' hj (Nat.div_add_mod' _ _).symm))
  ·show kf3 _ _ _ _ _ _ _ _ _ _ _=_;unfold kf3;rw[condT (by rw[decide_eq_true_eq];omega),kco hk',Option.bind_some,← Int.natCast_add,khq (by omega),kbd hj,Option.bind_some,kus hx hy];dsimp only;rw[show List.getD o (i+k) 0=o[i+k]from kcm hj];have a1:=knh (x*ys[k]%B) o[i+k] (c:=0) (by omega);have a2:=knh ((x*ys[k]%B+o[i+k]+0)%18446744073709551616) c (c:=0) (by omega);rw[show((0:Nat):Int)=0 from rfl]at a1 a2;rw[a1,Option.bind_some];dsimp only;rw[a2,Option.bind_some,Option.bind_some];dsimp only;rw[c1,c2,kbt hl,Option.bind_some,kq (by omega)]
theorem ktk{xs ys:List Nat}(lx:∀x∈xs,x<B)(ly:∀y∈ys,y<B)(hn:xs.length+ys.length≤8796093022208) :
  ∀(d i:Nat),i+d=xs.length→∀(o:List Nat),o.length=xs.length+ys.length→(∀y∈o,y<B)→Empty o (i+ys.length)→num B o=num B (xs.take i)*num B ys→
   Iter kkh (.p3 ys o xs (xs.length:Int) (i:Int)) (digs B (num B xs*num B ys))
 | 0,i,hi,o,lo,to,zo,e=>by
  have hi:i=xs.length:=by omega
  subst hi;rw[List.take_length]at e;refine .done ?_;show kgf _ _ _ _ _=_;unfold kgf;rw[condF (by rw[decide_eq_false_iff_not];omega),e]
 | d+1,i,hi,o,lo,to,zo,e=>by
  have hi':i<xs.length:=by omega
  refine .next (s':=.p7 ys o (i:Int) (xs[i]:Int) ((0:Nat):Int) xs (xs.length:Int) (i:Int) ys (ys.length:Int) ((0:Nat):Int)) ?_
   (kvz (T:=num B (xs.take i)*num B ys) (lx _ (List.getElem_mem _)) ly hn hi' (fun o' l' t' z' e'=>?_) ys.length 0 (by omega) o 0 lo to zo (show 0<18446744073709551616 by omega) (Row.start e))
  ·show kgf _ _ _ _ _=_;unfold kgf;rw[condT (by rw[decide_eq_true_eq];omega),kco hi',Option.bind_some];rfl
  ·refine ktk lx ly hn d (i+1) (by omega) o' l' t' z' ?_;rw[e',k7t hi' rfl]
theorem k8b{xs ys:List Nat}(lx:∀x∈xs,x<B)(ly:∀y∈ys,y<B)(hn:xs.length+ys.length≤8796093022208):Iter kkh (.fn xs ys) (digs B (num B xs*num B ys)):=by
 have z:∀k,Empty (List.replicate (xs.length+ys.length) 0) k:=fun k j hj _=>by simp
 refine .next (s':=.p3 ys (List.replicate (xs.length+ys.length) 0) xs (xs.length:Int) ((0:Nat):Int)) ?_ (ktk lx ly hn xs.length 0 (by omega) _ (by simp) ?_ (z _) ?_)
 ·show kj8 _ _=_;unfold kj8;rw[← Int.natCast_add,khq (by omega),kg0 hn,Option.bind_some];rfl
 ·intro y hy;rw[List.eq_of_mem_replicate hy];exact show 0<18446744073709551616 by omega
 ·have:=kmi B [] (xs.length+ys.length)
  simpa[num]using this
theorem kn0{h:AH}{s t:Sl}{xs ys:List Nat}(n:Nats h s xs)(m:Nats h t ys)(hn:xs.length+ys.length≤8796093022208):∃(s':Sl)(h':AH),go (.fn F.kcs [s.v,t.v]) h=some (s'.v,h')∧Nats h' s' (digs B (num B xs*num B ys))∧Grow h h'∧Own h s':=by
 obtain⟨_,h',e,s',rfl,n',g,o⟩:=k3h (k8b n.lt m.lt hn) n m;exact⟨s',h',e,n',g,o⟩
end Go.Ab

/- squeezed -/
set_option maxRecDepth 10000
namespace Go.Ab
open Go.Proofs Go.Num
end Go.Ab

/- squeezed -/
set_option maxRecDepth 10000
namespace Go.Ab
open Go.Proofs Go.Num
theorem kes{n:Nat}(h:n<18446744073709551616):IntKind.wrap .u64 (n:Int)=(n:Int):=by
 rw[wrapU];omega
end Go.Ab

/- squeezed -/
set_option maxRecDepth 10000
namespace Go.Ab
open Go.Proofs Go.Num
inductive kfs
 | fn (x1:List Nat) (x2:List Nat) (a3:Int)
 | p2 (x1:List Nat) (x2:List Nat) (a3:Int) (a4:Int) (a5:Int)
abbrev kd6:=List Nat
noncomputable def knx(x1 x2:List Nat)(a3:Int):Option (kfs⊕kd6) :=
 some (.inl (.p2 x1 x2 a3 0 a3))
noncomputable def kem(x1 x2:List Nat)(a3 a4 a5:Int):Option (kfs⊕kd6) :=
 cond (decide (a5<(List.length x1:Int))) (cond (decide ((IntKind.wrap .i64 (a5-a3))<(List.length x2:Int))) (cond (decide ((IntKind.wrap .i64 (a5-a3))<(List.length x2:Int))) ((atI x2 (IntKind.wrap .i64 (a5-a3))).bind fun y9=>(inI (List.length x1) a5).bind fun j10=>(add64P (((List.getD x1 j10 0:Nat):Int)) ((y9:Int)) a4).bind fun p11=>(inI (List.length x1) a5).bind fun j12=>(u64P (p11.1)).bind fun w13=>some (.inl (.p2 (List.set x1 j12 w13) x2 a3 (p11.2) (IntKind.wrap .i64 (a5+1))))) ((inI (List.length x1) a5).bind fun j9=>(add64P (((List.getD x1 j9 0:Nat):Int)) 0 a4).bind fun p10=>(inI (List.length x1) a5).bind fun j11=>(u64P (p10.1)).bind fun w12=>some (.inl (.p2 (List.set x1 j11 w12) x2 a3 (p10.2) (IntKind.wrap .i64 (a5+1)))))) (cond (decide (a4>0)) (cond (decide ((IntKind.wrap .i64 (a5-a3))<(List.length x2:Int))) ((atI x2 (IntKind.wrap .i64 (a5-a3))).bind fun y10=>(inI (List.length x1) a5).bind fun j11=>(add64P (((List.getD x1 j11 0:Nat):Int)) ((y10:Int)) a4).bind fun p12=>(inI (List.length x1) a5).bind fun j13=>(u64P (p12.1)).bind fun w14=>some (.inl (.p2 (List.set x1 j13 w14) x2 a3 (p12.2) (IntKind.wrap .i64 (a5+1))))) ((inI (List.length x1) a5).bind fun j10=>(add64P (((List.getD x1 j10 0:Nat):Int)) 0 a4).bind fun p11=>(inI (List.length x1) a5).bind fun j12=>(u64P (p11.1)).bind fun w13=>some (.inl (.p2 (List.set x1 j12 w13) x2 a3 (p11.2) (IntKind.wrap .i64 (a5+1)))))) (some (.inr x1)))) (some (.inr x1))
noncomputable def kor:kfs→Option (kfs⊕kd6)
 | .fn x1 x2 a3=>knx x1 x2 a3
 | .p2 x1 x2 a3 a4 a5=>kem x1 x2 a3 a4 a5
@[reducible] def ktt(h0:AH)(a:Sl)(i:Nat)(r:kd6)(v:AV)(h':AH):Prop:=v=.tup []∧Vec h' a i r∧Upd h0 h' i
def kix(r:kd6):kfs→Prop
 | .fn x1 x2 a3=>∀{h:AH}{a1:Sl}{a2:Sl}{i1:Nat},Vec h a1 i1 x1→Nats h a2 x2→Av a2 i1 x2→Runs (go (.fn F.kdk [a1.v,a2.v,.int .i64 a3]) h) (ktt h a1 i1 r)
 | .p2 x1 x2 a3 a4 a5=>∀{h0 h:AH}{a1:Sl}{a2:Sl}{i1:Nat},Upd h0 h i1→Vec h a1 i1 x1→Nats h a2 x2→Av a2 i1 x2→Runs (go (.pt F.kdk Td.kgw [(0,a1.v),(1,a2.v),(2,.int .i64 a3),(6,.int .u64 a4),(7,.int .i64 a5)]) h) (ktt h0 a1 i1 r)
theorem k6q{r:kd6}{o:kfs⊕kd6}{x1 x2:List Nat}{a3:Int}(e:knx x1 x2 a3=some o)(good:GoodS (kix r) r o):kix r (.fn x1 x2 a3):=by
 intro h a1 a2 i1 v1 n2 av2_1;rw[k49];unfold knx at e;cases e;exact good ((Grow.refl _).toUpd _) v1 n2 av2_1
theorem k7d{r:kd6}{o:kfs⊕kd6}{x1 x2:List Nat}{a3 a4 a5:Int}(e:kem x1 x2 a3 a4 a5=some o)(good:GoodS (kix r) r o):kix r (.p2 x1 x2 a3 a4 a5):=by
 intro h0 h a1 a2 i1 g0 v1 n2 av2_1;rw[kbbm];unfold kem at e;rw[v1.nats.len];rw[n2.len];refine Runs.cond (fun k6=>?_) (fun k6=>?_)
 ·replace e:=(condT k6).symm.trans e;refine Runs.cond (fun k7=>?_) (fun k7=>?_)
  ·replace e:=(condT k7).symm.trans e;refine Runs.cond (fun k8=>?_) (fun k8=>?_)
   ·replace e:=(condT k8).symm.trans e;obtain⟨y9,q9,e⟩:=Option.bind_eq_some_iff.1 e;obtain⟨r9,j9,l9⟩:=n2.atI q9;refine Runs.step j9 ?_;refine Runs.step (rdc l9 (kb _ _)) ?_;obtain⟨j10,q10,e⟩:=Option.bind_eq_some_iff.1 e;refine Runs.step (v1.idx rfl q10) ?_;refine Runs.step (v1.rd rfl q10 (kb _ _)) ?_;obtain⟨p11,q11,e⟩:=Option.bind_eq_some_iff.1 e;refine Runs.step (kh9 q11) ?_;refine Runs.step rfl ?_;refine Runs.step (seen (kb _ _)) ?_;refine Runs.step (seen (kb _ _)) ?_;obtain⟨j12,q12,e⟩:=Option.bind_eq_some_iff.1 e;refine Runs.step (v1.idx rfl q12) ?_;obtain⟨w13,z13,e⟩:=Option.bind_eq_some_iff.1 e;refine Runs.vput v1 rfl q12 z13 fun H13 v13 u13=>?_;have n2_13:=n2.upda av2_1 u13;cases e;exact good (g0.trans u13) v13 n2_13 av2_1
   ·replace e:=(condF k8).symm.trans e;obtain⟨j9,q9,e⟩:=Option.bind_eq_some_iff.1 e;refine Runs.step (v1.idx rfl q9) ?_;refine Runs.step (v1.rd rfl q9 (kb _ _)) ?_;obtain⟨p10,q10,e⟩:=Option.bind_eq_some_iff.1 e;refine Runs.step (kh9 q10) ?_;refine Runs.step rfl ?_;refine Runs.step (seen (kb _ _)) ?_;refine Runs.step (seen (kb _ _)) ?_;obtain⟨j11,q11,e⟩:=Option.bind_eq_some_iff.1 e;refine Runs.step (v1.idx rfl q11) ?_;obtain⟨w12,z12,e⟩:=Option.bind_eq_some_iff.1 e;refine Runs.vput v1 rfl q11 z12 fun H12 v12 u12=>?_;have n2_12:=n2.upda av2_1 u12;cases e;exact good (g0.trans u12) v12 n2_12 av2_1
  ·replace e:=(condF k7).symm.trans e;refine Runs.cond (fun k8=>?_) (fun k8=>?_)
   ·replace e:=(condT k8).symm.trans e;refine Runs.cond (fun k9=>?_) (fun k9=>?_)
    ·replace e:=(condT k9).symm.trans e;obtain⟨y10,q10,e⟩:=Option.bind_eq_some_iff.1 e;obtain⟨r10,j10,l10⟩:=n2.atI q10;refine Runs.step j10 ?_;refine Runs.step (rdc l10 (kb _ _)) ?_;obtain⟨j11,q11,e⟩:=Option.bind_eq_some_iff.1 e;refine Runs.step (v1.idx rfl q11) ?_;refine Runs.step (v1.rd rfl q11 (kb _ _)) ?_;obtain⟨p12,q12,e⟩:=Option.bind_eq_some_iff.1 e;refine Runs.step (kh9 q12) ?_;refine Runs.step rfl ?_;refine Runs.step (seen (kb _ _)) ?_;refine Runs.step (seen (kb _ _)) ?_;obtain⟨j13,q13,e⟩:=Option.bind_eq_some_iff.1 e;refine Runs.step (v1.idx rfl q13) ?_;obtain⟨w14,z14,e⟩:=Option.bind_eq_some_iff.1 e;refine Runs.vput v1 rfl q13 z14 fun H14 v14 u14=>?_;have n2_14:=n2.upda av2_1 u14;cases e;exact good (g0.trans u14) v14 n2_14 av2_1
    ·replace e:=(condF k9).symm.trans e;obtain⟨j10,q10,e⟩:=Option.bind_eq_some_iff.1 e;refine Runs.step (v1.idx rfl q10) ?_;refine Runs.step (v1.rd rfl q10 (kb _ _)) ?_;obtain⟨p11,q11,e⟩:=Option.bind_eq_some_iff.1 e;refine Runs.step (kh9 q11) ?_;refine Runs.step rfl ?_;refine Runs.step (seen (kb _ _)) ?_;refine Runs.step (seen (kb _ _)) ?_;obtain⟨j12,q12,e⟩:=Option.bind_eq_some_iff.1 e;refine Runs.step (v1.idx rfl q12) ?_;obtain⟨w13,z13,e⟩:=Option.bind_eq_some_iff.1 e;refine Runs.vput v1 rfl q12 z13 fun H13 v13 u13=>?_;have n2_13:=n2.upda av2_1 u13;cases e;exact good (g0.trans u13) v13 n2_13 av2_1
   ·replace e:=(condF k8).symm.trans e;cases e;cases good;exact Runs.ret ⟨rfl,v1,g0⟩
 ·replace e:=(condF k6).symm.trans e;cases e;cases good;exact Runs.ret ⟨rfl,v1,g0⟩
theorem k3y{s:kfs}{r:kd6}(it:Iter kor s r):kix r s:=Iter.ind (fun s o e good=>by
 cases s with
 | fn x1 x2 a3=>exact @k6q _ _ x1 x2 a3 e good
 | p2 x1 x2 a3 a4 a5=>exact @k7d _ _ x1 x2 a3 a4 a5 e good
 ) it
end Go.Ab

/- squeezed -/
set_option maxRecDepth 10000
namespace Go.Ab
open Go.Proofs Go.Num
theorem kdt{xs:List Nat}{i:Nat}(h:i<xs.length):List.getD xs i 0=xs[i]:=kcm h
theorem kbbx{o xs:List Nat}{at' i c:Nat}(ho:o.length≤4611686018427387904)(hx:xs.length≤4611686018427387904)(h1:i<o.length)(h2:at'≤i)(hc:c≤1)(hs:i-at'<xs.length∨0<c) :
  kor (.p2 o xs (at':Int) (c:Int) (i:Int))=some (.inl (.p2 (o.set i ((xs.getD (i-at') 0+o[i]+c)%18446744073709551616)) xs (at':Int) (((xs.getD (i-at') 0+o[i]+c)/18446744073709551616:Nat):Int) ((i+1:Nat):Int))):=by
 show kem _ _ _ _ _=_;unfold kem;have e0:IntKind.wrap .i64 ((i:Int)-(at':Int))=((i-at':Nat):Int):=by rw[wrap64 (by omega) (by omega)];omega
 have hm:∀n:Nat,n%18446744073709551616<18446744073709551616:=fun n=>Nat.mod_lt n (by omega);rw[condT (by rw[decide_eq_true_eq];omega),e0];by_cases hk:i-at'<xs.length
 ·have a1:=knh o[i] xs[i-at'] hc;rw[condT (by rw[decide_eq_true_eq];omega),condT (by rw[decide_eq_true_eq];omega),kco hk,Option.bind_some,kbd h1,Option.bind_some,kdt h1,a1,Option.bind_some,Option.bind_some];dsimp only;rw[kbt (hm _),Option.bind_some,kq (by omega),kdt hk,Nat.add_comm o[i]]
 ·have hc':0<c:=by omega
  have a1:=knh o[i] 0 hc;rw[show((0:Nat):Int)=0 from rfl]at a1;rw[condF (by rw[decide_eq_false_iff_not];omega),condT (by rw[decide_eq_true_eq];omega),condF (by rw[decide_eq_false_iff_not];omega),kbd h1,Option.bind_some,kdt h1,a1,Option.bind_some,Option.bind_some];dsimp only;rw[kbt (hm _),Option.bind_some,kq (by omega),show xs.getD (i-at') 0=0 from by simp[List.getD,List.getElem?_eq_none (Nat.le_of_not_lt hk)]];rw[Nat.add_comm o[i]]
theorem kwf{xs:List Nat}{at' T:Nat}(lx:∀x∈xs,x<B)(hx:xs.length≤4611686018427387904) :
  ∀(d i:Nat)(o:List Nat)(c:Nat),i+d=o.length→at'≤i→o.length≤4611686018427387904→(∀y∈o,y<B)→c≤1→num B o+c*B^i=T+B^at'*num B (xs.take (i-at'))→T+B^at'*num B xs<B^o.length→
   ∃r,Iter kor (.p2 o xs (at':Int) (c:Int) (i:Int)) r∧r.length=o.length∧(∀y∈r,y<B)∧num B r=T+B^at'*num B xs
 | 0,i,o,c,hi,hat,ho,to,hc,inv,bound=>by
  have hi:i=o.length:=by omega
  subst hi
  have hxs:num B xs=num B (xs.take (o.length-at'))+B^(xs.take (o.length-at')).length*num B (xs.drop (o.length-at')):=by
   rw[← kel,List.take_append_drop]
  have hc0:c=0:=by
   rcases Nat.eq_zero_or_pos c with e | e
   ·exact e
   ·have:c=1:=by omega
    subst this;have:B^at'*num B (xs.take (o.length-at'))≤B^at'*num B xs:=Nat.mul_le_mul_left _ (by omega);omega
  subst hc0
  have hd:num B (xs.take (o.length-at'))=num B xs:=by
   by_cases hl:xs.length≤o.length-at'
   ·rw[List.take_of_length_le hl]
   ·rw[List.length_take,Nat.min_eq_left (by omega)]at hxs;rw[hxs];rcases Nat.eq_zero_or_pos (num B (xs.drop (o.length-at')))with e | e
    ·rw[e];omega
    ·exfalso
     have h1:B^(o.length-at')≤num B xs:=by
      have:B^(o.length-at')*1≤B^(o.length-at')*num B (xs.drop (o.length-at')):=Nat.mul_le_mul_left _ e;omega
     have h2:B^at'*B^(o.length-at')≤B^at'*num B xs:=Nat.mul_le_mul_left _ h1;rw[← Nat.pow_add,show at'+(o.length-at')=o.length from by omega]at h2;omega
  refine⟨o,.done ?_,rfl,to,?_⟩
  ·show kem _ _ _ _ _=_;unfold kem;rw[condF (by rw[decide_eq_false_iff_not];omega)]
  ·rw[← hd];omega
 | d+1,i,o,c,hi,hat,ho,to,hc,inv,bound=>by
  have h1:i<o.length:=by omega
  by_cases hs:i-at'<xs.length∨0<c
  ·have hm:=Nat.mod_lt (xs.getD (i-at') 0+o[i]+c) (show 0<18446744073709551616 by omega)
   have hy:xs.getD (i-at') 0<18446744073709551616:=by
    by_cases hk:i-at'<xs.length
    ·rw[kdt hk];exact lx _ (List.getElem_mem _)
    ·rw[show xs.getD (i-at') 0=0 from by simp[List.getD,List.getElem?_eq_none (Nat.le_of_not_lt hk)]];omega
   have hoi:o[i]<18446744073709551616:=to _ (List.getElem_mem _)
   obtain⟨r,it,r1,r2,r3⟩:=kwf (T:=T) (at':=at') lx hx d (i+1) (o.set i ((xs.getD (i-at') 0+o[i]+c)%18446744073709551616)) ((xs.getD (i-at') 0+o[i]+c)/18446744073709551616) (by simp;omega) (by omega) (by simpa using ho) (set_lt to hm) (by omega) (by
    have k1:=khe (b:=B) h1 ((xs.getD (i-at') 0+o[i]+c)%18446744073709551616);have k2:=kr8 k1 (Nat.div_add_mod' (xs.getD (i-at') 0+o[i]+c) 18446744073709551616).symm inv;rw[Nat.pow_succ,k2,show i+1-at'=i-at'+1 from by omega,kjd,Nat.mul_add,← Nat.mul_assoc,← Nat.pow_add,show at'+(i-at')=i from by omega];omega) (by simpa using bound)
   exact⟨r,.next (kbbx ho hx h1 hat hc hs) it,by simpa using r1,r2,r3⟩
  ·have hc0:c=0:=by omega
   subst hc0;rw[List.take_of_length_le (by omega)]at inv;refine⟨o,.done ?_,rfl,to,by omega⟩;show kem _ _ _ _ _=_;unfold kem;have e0:IntKind.wrap .i64 ((i:Int)-(at':Int))=((i-at':Nat):Int):=by rw[wrap64 (by omega) (by omega)];omega
   rw[condT (by rw[decide_eq_true_eq];omega),e0,condF (by rw[decide_eq_false_iff_not];omega),condF (by rw[decide_eq_false_iff_not];omega)]
theorem krp{h:AH}{s t:Sl}{i:Nat}{o xs:List Nat}(v:Vec h s i o)(m:Nats h t xs)(av:Av t i xs){at':Nat}(hat:at'≤o.length)(ho:o.length≤4611686018427387904)(hx:xs.length≤4611686018427387904)(bound:num B o+B^at'*num B xs<B^o.length) :
  ∃(h':AH)(r:List Nat),go (.fn F.kdk [s.v,t.v,.int .i64 (at':Int)]) h=some (.tup [],h')∧Vec h' s i r∧Upd h h' i∧r.length=o.length∧num B r=num B o+B^at'*num B xs:=by
 obtain⟨r,it,r1,r2,r3⟩:=kwf (T:=num B o) (at':=at') m.lt hx (o.length-at') at' o 0 (by omega) (Nat.le_refl _) ho v.lt (by omega) (by simp[num]) bound;obtain⟨_,h',e,rfl,v',u⟩:=k3y (.next (s:=.fn o xs (at':Int)) rfl it) v m av;exact⟨h',r,e,v',u,r1,r3⟩
end Go.Ab

/- squeezed -/
set_option maxRecDepth 10000
namespace Go.Ab
open Go.Proofs Go.Num
@[reducible] def knm(p:Ref):AV:=.func (.func F.kj2) [] [.ptr (some p)]
theorem kll(p:Ref)(x y:AV)(h:AH):callV Pg go (knm p) [x,y] h=go (.fn F.kj2 [x,y,.ptr (some p)]) h:=by kernel_rfl
theorem Grow.same_cell{h h':AH}(g:Grow h h'){p:Ref}{v:AV}(c:h.cell p=some v):SameAt h h' p 1:=⟨fun j hj=>by
 have:j=0:=by omega
 subst this;rw[Ref.add_zero,c,g.cell_some c],fun h=>by cases h⟩
theorem k08{h:AH}{s d:Sl}{i:Nat}{xs ys:List Nat}(n:Nats h s xs)(v:Vec h d i ys)(hl:xs.length≤ys.length):∃h',copyH s d 1 h=some h'∧Vec h' d i (xs++ys.drop xs.length)∧Upd h h' i:=by
 have hd:d.ref=some (.new i 0):=by rw[v.is]
 have hdl:d.len=ys.length:=v.len;have hg:=n.cells.gets;unfold copyH;rw[hd];cases hs:s.ref with
 | none =>
  have:xs=[]:=by
   cases xs with
   | nil=>rfl
   | cons x xs =>
    obtain⟨r,e,_⟩:=n.cells.get 0 _ rfl;rw[hs]at e;cases e
  subst this;exact⟨h,rfl,by simpa using v,(Grow.refl h).toUpd i⟩
 | some r =>
  rw[hs,n.len]at hg;simp only[AH.getsO]at hg;dsimp only;rw[n.len,hdl,Nat.min_eq_left hl,hg,Option.bind_some];obtain⟨e,b⟩:=v.has;rw[b.puts (by simp;omega)]
  have e1:(ys.map u64).take 0++xs.map u64++(ys.map u64).drop (0+(xs.map u64).length)=(xs++ys.drop xs.length).map u64:=by
   simp[List.map_drop]
  rw[e1];refine⟨_,rfl,⟨?_,⟨e,AH.has_upd b _ _⟩,?_,?_⟩,AH.upd_Upd h i _ e⟩
  ·have:(xs++ys.drop xs.length).length=ys.length:=by simp;omega
   rw[this];exact v.is
  ·intro z hz;rcases List.mem_append.1 hz with h1 | h1
   ·exact n.lt z h1
   ·exact v.lt z (List.mem_of_mem_drop h1)
  ·have:=v.short;simp;omega
theorem km7{h:AH}{s:Sl}{xs:List Nat}{p:Ref}{k:Nat}(n:Nats h s xs)(c:h.cell p=some (.int .i64 (k:Int))):∃s',go (.fn F.khi [s.v,.ptr (some p)]) h=some (s'.v,h)∧Nats h s' (digs B (num B (xs.take (min k xs.length)))):=by
 rw[k68,c,Option.bind_some,kb,Option.bind_some,klq,n.len];obtain⟨s1,e1,n1,_⟩:=n.cut (l:=0) (n:=min k xs.length) (by omega) (by omega);rw[show min (k:Int) (xs.length:Int)=((min k xs.length:Nat):Int)from by omega,show(0:Int)=((0:Nat):Int)from rfl,e1,Option.bind_some];obtain⟨s2,e2,n2,_⟩:=kc9 n1;rw[e2,Option.bind_some,Option.bind_some,asSl_v,Option.bind_some];exact⟨s2,rfl,by simpa using n2⟩
theorem klp{h:AH}{s:Sl}{xs:List Nat}{p:Ref}{k:Nat}(n:Nats h s xs)(c:h.cell p=some (.int .i64 (k:Int))):∃s',go (.fn F.kia [s.v,.ptr (some p)]) h=some (s'.v,h)∧Nats h s' (xs.drop (min k xs.length)):=by
 rw[kxl,c,Option.bind_some,kb,Option.bind_some,klq,n.len];obtain⟨s1,e1,n1,_⟩:=n.cut (l:=min k xs.length) (n:=xs.length) (by omega) (by omega);rw[show min (k:Int) (xs.length:Int)=((min k xs.length:Nat):Int)from by omega,e1,Option.bind_some];refine⟨s1,rfl,?_⟩;rwa[List.take_of_length_le (by simp)]at n1
end Go.Ab

/- squeezed -/
set_option maxRecDepth 10000
namespace Go.Ab
open Go.Proofs Go.Num
theorem B1:1≤B:=by decide
theorem ksy(b:Nat)(xs:List Nat)(n:Nat):num b xs=num b (xs.take (min n xs.length))+b^n*num b (xs.drop (min n xs.length)):=by
 have e:num b xs=num b (xs.take (min n xs.length)++xs.drop (min n xs.length)):=by rw[List.take_append_drop]
 rw[kel,List.length_take]at e;by_cases h:n≤xs.length
 ·rw[e,show min (min n xs.length) xs.length=n from by omega]
 ·have:xs.drop (min n xs.length)=[]:=List.drop_of_length_le (by omega);rw[this]at e⊢
  simpa[num]using e
theorem klx{a c:Nat}(h:a≤c):(digs B a).length≤(digs B c).length:=by
 rw[kbv B2];exact Nat.lt_of_le_of_lt h ((kbv B2 c _).1 (Nat.le_refl _))
theorem kiv{xs:List Nat}(h:∀x∈xs,x<B):(digs B (num B xs)).length≤xs.length:=by
 rw[kbv B2];exact num_lt B1 h
theorem kyw(P al ah bl bh:Nat):(al+P*ah)*(bl+P*bh)=al*bl+P*((al+ah)*(bl+bh)-al*bl-ah*bh)+P*P*(ah*bh):=by
 have e:(al+ah)*(bl+bh)-al*bl-ah*bh=al*bh+ah*bl:=by
  rw[Nat.add_mul,Nat.mul_add,Nat.mul_add];omega
 rw[e,Nat.add_mul,Nat.mul_add,Nat.mul_add,Nat.mul_add];have e1:al*(P*bh)=P*(al*bh):=Nat.mul_left_comm _ _ _;have e2:P*ah*bl=P*(ah*bl):=Nat.mul_assoc _ _ _;have e3:P*ah*(P*bh)=P*P*(ah*bh):=Nat.mul_mul_mul_comm _ _ _ _;rw[e1,e2,e3];omega
set_option maxHeartbeats 2000000 in
theorem kl1:∀(N:Nat){h:AH}{s t:Sl}{xs ys:List Nat}{p:Ref},xs.length+ys.length<N→N≤268435456→Nats h s xs→Nats h t ys→h.cell p=some (knm p)→
  Runs (go (.fn F.kj2 [s.v,t.v,.ptr (some p)]) h) fun v h'=>∃s':Sl,v=s'.v∧Nats h' s' (digs B (num B xs*num B ys))∧Grow h h'∧Own h s'
 | 0,_,_,_,_,_,_,hN,_,_,_,_=>by omega
 | N+1,h,s,t,xs,ys,p,hN,hM,ns,nt,c=>by
  rw[k4k,ns.len,nt.len];refine Runs.cond (fun k1=>?_) (fun k1=>?_)
  ·obtain⟨s4,h4,e4,n4,g4,o4⟩:=kn0 ns nt (by omega);refine Runs.step e4 ?_;refine Runs.step (seen (asSl_v _)) ?_;exact Runs.ret ⟨s4,rfl,n4,g4,o4⟩
  refine Runs.cond (fun k2=>?_) (fun k2=>?_)
  ·obtain⟨s4,h4,e4,n4,g4,o4⟩:=kn0 ns nt (by omega);refine Runs.step e4 ?_;refine Runs.step (seen (asSl_v _)) ?_;exact Runs.ret ⟨s4,rfl,n4,g4,o4⟩
  rw[decide_eq_false_iff_not]at k1 k2;obtain⟨n,hn⟩:∃n,n=(max xs.length ys.length+1)/2:=⟨_,rfl⟩
  have hw:IntKind.wrap .i64 (Int.tdiv (IntKind.wrap .i64 ((imax (xs.length:Int) (ys.length:Int))+1)) 2)=(n:Int):=by
   rw[kln,show max (xs.length:Int) (ys.length:Int)=((max xs.length ys.length:Nat):Int)from by omega,kq (by omega)];show IntKind.wrap .i64 (((max xs.length ys.length+1)/2:Nat):Int)=_;rw[← hn,khq (by omega)]
  rw[hw];have lax:(xs.take (min n xs.length)).length=min n xs.length:=by simp
  have lbx:(ys.take (min n ys.length)).length=min n ys.length:=by simp
  have tax:∀x∈xs.take (min n xs.length),x<B:=fun x hx=>ns.lt x (List.mem_of_mem_take hx);have tbx:∀x∈ys.take (min n ys.length),x<B:=fun x hx=>nt.lt x (List.mem_of_mem_take hx);have tah:∀x∈xs.drop (min n xs.length),x<B:=fun x hx=>ns.lt x (List.mem_of_mem_drop hx);have tbh:∀x∈ys.drop (min n ys.length),x<B:=fun x hx=>nt.lt x (List.mem_of_mem_drop hx);have lah:(xs.drop (min n xs.length)).length=xs.length-min n xs.length:=by simp
  have lbh:(ys.drop (min n ys.length)).length=ys.length-min n ys.length:=by simp
  have da:=kiv tax;have db:=kiv tbx;have dah:=kiv tah;have dbh:=kiv tbh;have ea:=ksy B xs n;have eb:=ksy B ys n;generalize hal:num B (xs.take (min n xs.length))=al at *
  generalize hah:num B (xs.drop (min n xs.length))=ah at *
  generalize hbl:num B (ys.take (min n ys.length))=bl at *
  generalize hbh:num B (ys.drop (min n ys.length))=bh at *
  refine Runs.new fun H8 b8 g8=>?_;refine Runs.puts b8 rfl fun H9 b9 u9=>?_;have gA:=g8.updr (Nat.le_refl _) u9;have c9:=gA.cell_some c;have k9:H9.cell (.new h.blks.size 0)=some (.int .i64 (n:Int)):=b9.cell 0;have ns9:=ns.grow gA;have nt9:=nt.grow gA;refine Runs.step c9 ?_;refine Runs.step c9 ?_;obtain⟨s12,e12,n12⟩:=km7 ns9 k9;obtain⟨s14,e14,n14⟩:=km7 nt9 k9;rw[hal]at n12;rw[hbl]at n14;refine Runs.step e12 ?_;refine Runs.step (seen (asSl_v _)) ?_;refine Runs.when ((Grow.refl _).same_cell c9) ?_;refine Runs.when ((Grow.refl _).same_cell c9) ?_;refine Runs.step e14 ?_;refine Runs.step (seen (asSl_v _)) ?_;refine Runs.when ((Grow.refl _).same_cell c9) ?_;refine Runs.when ((Grow.refl _).same_cell c9) ?_;obtain⟨_,H16,e16,s16,rfl,n16,g16,o16⟩:=kl1 N (by omega) (by omega) n12 n14 c9;rw[ks B2,ks B2]at n16;refine Runs.step ((kll p _ _ _).trans e16) ?_;refine Runs.step (seen (asSl_v _)) ?_;refine Runs.when (g16.same_cell c9) ?_;have c16:=g16.cell_some c9;have k16:=g16.cell_some k9;obtain⟨s18,e18,n18⟩:=klp (ns9.grow g16) k16;obtain⟨s20,e20,n20⟩:=klp (nt9.grow g16) k16;refine Runs.step e18 ?_;refine Runs.step (seen (asSl_v _)) ?_;refine Runs.when ((Grow.refl _).same_cell c16) ?_;refine Runs.step e20 ?_;refine Runs.step (seen (asSl_v _)) ?_;refine Runs.when ((Grow.refl _).same_cell c16) ?_;obtain⟨_,H22,e22,s22,rfl,n22,g22,o22⟩:=kl1 N (by omega) (by omega) n18 n20 c16;rw[hah,hbh]at n22;refine Runs.step ((kll p _ _ _).trans e22) ?_;refine Runs.step (seen (asSl_v _)) ?_;have c22:=g22.cell_some c16;have k22:=g22.cell_some k16;have gB:=g16.trans g22;refine Runs.step c22 ?_;obtain⟨s25,e25,n25⟩:=km7 (ns9.grow gB) k22;obtain⟨s27,e27,n27⟩:=klp (ns9.grow gB) k22;rw[hal]at n25;refine Runs.step e25 ?_;refine Runs.step (seen (asSl_v _)) ?_;refine Runs.when ((Grow.refl _).same_cell c22) ?_;refine Runs.step e27 ?_;refine Runs.step (seen (asSl_v _)) ?_;refine Runs.when ((Grow.refl _).same_cell c22) ?_;obtain⟨s29,H29,zs,e29,n29,g29,o29,v29,l29⟩:=kpj n25 n27 (by omega) (by omega);rw[ks B2,hah]at v29;refine Runs.step e29 ?_;refine Runs.step (seen (asSl_v _)) ?_;refine Runs.when (g29.same_cell c22) ?_;have c29:=g29.cell_some c22;have k29:=g29.cell_some k22;obtain⟨s31,e31,n31,_⟩:=kc9 n29;rw[v29]at n31;refine Runs.step e31 ?_;refine Runs.step (seen (asSl_v _)) ?_;refine Runs.when ((Grow.refl _).same_cell c29) ?_;obtain⟨s33,e33,n33⟩:=km7 (nt9.grow (gB.trans g29)) k29;obtain⟨s35,e35,n35⟩:=klp (nt9.grow (gB.trans g29)) k29;rw[hbl]at n33;refine Runs.step e33 ?_;refine Runs.step (seen (asSl_v _)) ?_;refine Runs.when ((Grow.refl _).same_cell c29) ?_;refine Runs.step e35 ?_;refine Runs.step (seen (asSl_v _)) ?_;refine Runs.when ((Grow.refl _).same_cell c29) ?_;obtain⟨s37,H37,ws,e37,n37,g37,o37,v37,l37⟩:=kpj n33 n35 (by omega) (by omega);rw[ks B2,hbh]at v37;refine Runs.step e37 ?_;refine Runs.step (seen (asSl_v _)) ?_;refine Runs.when (g37.same_cell c29) ?_;have c37:=g37.cell_some c29;have k37:=g37.cell_some k29;obtain⟨s39,e39,n39,_⟩:=kc9 n37;rw[v37]at n39;refine Runs.step e39 ?_;refine Runs.step (seen (asSl_v _)) ?_;refine Runs.when ((Grow.refl _).same_cell c37) ?_;have q1:=kse B2 al ah;have q2:=kse B2 bl bh;obtain⟨_,H41,e41,s41,rfl,n41,g41,o41⟩:=kl1 N (by omega) (by omega) (n31.grow g37) n39 c37;rw[ks B2,ks B2]at n41;refine Runs.step ((kll p _ _ _).trans e41) ?_;refine Runs.step (seen (asSl_v _)) ?_
  have mm:al*bl+ah*bh≤(al+ah)*(bl+bh):=by
   rw[Nat.add_mul,Nat.mul_add,Nat.mul_add];omega
  have gC:=g22.trans (g29.trans (g37.trans g41))
  have lm:(digs B ((al+ah)*(bl+bh))).length≤2*n+2:=by
   rw[kbv B2];have h1:=(kbv B2 (al+ah) (n+1)).1 (by omega);have h2:=(kbv B2 (bl+bh) (n+1)).1 (by omega);rw[show 2*n+2=(n+1)+(n+1)from by omega,Nat.pow_add];exact Nat.mul_lt_mul_of_lt_of_lt h1 h2
  obtain⟨s43,H43,us,e43,n43,g43,o43,v43,l43⟩:=kmv n41 (n16.grow gC) (by omega) (klx (by omega)) (by rw[ks B2,ks B2];omega);rw[ks B2,ks B2]at v43;refine Runs.step e43 ?_;refine Runs.step (seen (asSl_v _)) ?_;obtain⟨s45,e45,n45,_⟩:=kc9 n43;rw[v43]at n45;refine Runs.step e45 ?_;refine Runs.step (seen (asSl_v _)) ?_;have gD:=(g29.trans (g37.trans g41)).trans g43;have l45:=klx (a:=(al+ah)*(bl+bh)-al*bl) (c:=(al+ah)*(bl+bh)) (by omega);obtain⟨s47,H47,rs,e47,n47,g47,o47,v47,l47⟩:=kmv n45 (n22.grow gD) (by omega) (klx (by omega)) (by rw[ks B2,ks B2];omega);rw[ks B2,ks B2]at v47;refine Runs.step e47 ?_;refine Runs.step (seen (asSl_v _)) ?_;obtain⟨s49,e49,n49,_⟩:=kc9 n47;rw[v47]at n49;refine Runs.step e49 ?_;refine Runs.step (seen (asSl_v _)) ?_;have gE:Grow H9 H47:=(g16.trans gC).trans (g43.trans g47);have n16':=n16.grow ((gC.trans g43).trans g47);have n22':=n22.grow (gD.trans g47);have b47:=gE.has b9
  rw[show IntKind.wrap .i64 ((IntKind.wrap .i64 ((xs.length:Int)+(ys.length:Int)))+1)=((xs.length+ys.length+1:Nat):Int)from by
   rw[← Int.natCast_add,khq (by omega),kq (by omega)]]
  refine Runs.mk (kg0 (by omega)) ken fun s51 H51 v51 g51=>?_;have total:=kyw (B^n) al ah bl bh;rw[← ea,← eb]at total;generalize hm:(al+ah)*(bl+bh)-al*bl-ah*bh=m at *
  have lt:num B xs*num B ys<B^(xs.length+ys.length):=by
   rw[Nat.pow_add];exact Nat.mul_lt_mul_of_lt_of_lt (num_lt B1 ns.lt) (num_lt B1 nt.lt)
  have lt1:num B xs*num B ys<B^(xs.length+ys.length+1):=Nat.lt_of_lt_of_le lt (Nat.pow_le_pow_right B1 (by omega))
  have lp:(digs B (al*bl)).length≤xs.length+ys.length:=by
   rw[kbv B2];omega
  obtain⟨H52,e52,v52,u52⟩:=k08 (n16'.grow g51) v51 (by simp;omega);refine Runs.step e52 ?_;have i47:=b47.lt;have ne:h.blks.size≠H47.blks.size:=Nat.ne_of_lt i47;have b52:=AH.has.updr (g51.has b47) ne u52;refine Runs.step (AH.has.rd0 b52 rfl (kb _ _)) ?_;have av49:=Av.of_base n49 (Nat.le_refl _);have av22:=Av.of_base n22' (Nat.le_refl _)
  have w0:num B (digs B (al*bl)++(List.replicate (xs.length+ys.length+1) 0).drop (digs B (al*bl)).length)=al*bl:=by
   rw[List.drop_replicate,kmi,ks B2]
  have lw0:(digs B (al*bl)++(List.replicate (xs.length+ys.length+1) 0).drop (digs B (al*bl)).length).length=xs.length+ys.length+1:=by
   simp;omega
  generalize digs B (al*bl)++(List.replicate (xs.length+ys.length+1) 0).drop (digs B (al*bl)).length=o0 at *
  have lmm:=klx (a:=m) (c:=(al+ah)*(bl+bh)) (by omega);obtain⟨H54,o1,e54,v54,u54,l54,w54⟩:=krp v52 ((n49.grow g51).upda av49 u52) av49 (at':=n) (by omega) (by omega) (by omega) (by rw[w0,ks B2,lw0];omega);refine Runs.step e54 ?_;refine Runs.step rfl ?_;have b54:=AH.has.updr b52 ne u54;refine Runs.step (AH.has.rd0 b54 rfl (kb _ _)) ?_;rw[show IntKind.wrap .i64 (2*(n:Int))=((2*n:Nat):Int)from by rw[wrap64 (by omega) (by omega)];omega];have pp:B^(2*n)=B^n*B^n:=by rw[← Nat.pow_add];congr 1;omega
  have lq:(digs B (ah*bh)).length≤xs.length+ys.length:=by
   rw[kbv B2];have:1*(ah*bh)≤B^n*B^n*(ah*bh):=Nat.mul_le_mul_right _ (Nat.mul_pos (Nat.pow_pos B1) (Nat.pow_pos B1));omega
  rw[w0,ks B2]at w54;obtain⟨H56,o2,e56,v56,u56,l56,w56⟩:=krp v54 (((n22'.grow g51).upda av22 u52).upda av22 u54) av22 (at':=2*n) (by omega) (by omega) (by omega) (by rw[w54,ks B2,l54,lw0,pp];omega);rw[ks B2,w54,pp,← total]at w56;refine Runs.step e56 ?_;refine Runs.step rfl ?_;obtain⟨s57,e57,n57,o57⟩:=kc9 v56.nats;rw[w56]at n57;refine Runs.step e57 ?_;refine Runs.step (seen (asSl_v _)) ?_;have gF:Grow h H47:=gA.trans gE;refine Runs.ret ⟨s57,rfl,n57,(((gF.trans g51).updr gF.size u52).updr gF.size u54).updr gF.size u56,o57 _ (v56.own gF.size)⟩
end Go.Ab

/- squeezed -/
set_option maxRecDepth 10000
namespace Go.Ab
open Go.Proofs Go.Num
theorem kz0{h:AH}{s t:Sl}{xs ys:List Nat}(n:Nats h s xs)(m:Nats h t ys)(hl:xs.length+ys.length<268435456):∃(s':Sl)(h':AH),go (.fn F.kmr [s.v,t.v]) h=some (s'.v,h')∧Nats h' s' (digs B (num B xs*num B ys))∧Grow h h'∧Own h s':=by
 have key:Runs (go (.fn F.kmr [s.v,t.v]) h) fun v h'=>∃s':Sl,v=s'.v∧Nats h' s' (digs B (num B xs*num B ys))∧Grow h h'∧Own h s':=by
  rw[k9i];refine Runs.new fun H3 b3 g3=>?_;refine Runs.puts b3 rfl fun H4 b4 u4=>?_;have gA:=g3.updr (Nat.le_refl _) u4;have c4:H4.cell (.new h.blks.size 0)=some (knm (.new h.blks.size 0)):=b4.cell 0;refine Runs.step c4 ?_;obtain⟨_,H6,e6,s6,rfl,n6,g6,o6⟩:=kl1 268435456 hl (Nat.le_refl _) (n.grow gA) (m.grow gA) c4;refine Runs.step ((kll _ _ _ _).trans e6) ?_;refine Runs.step (seen (asSl_v _)) ?_;exact Runs.ret ⟨s6,rfl,n6,gA.trans g6,o6.of_le gA⟩
 obtain⟨_,h',e,s',rfl,k⟩:=key;exact⟨s',h',e,k⟩
def mulN(xs ys:List Nat):List Nat×Int:=if rt xs=true∧rt ys=true then told (num B xs*num B ys)else([],1)
theorem ko2{h:AH}{s t:Sl}{xs ys:List Nat}(n:Nats h s xs)(m:Nats h t ys):∃(s':Sl)(h':AH),go (.fn F.ki0 [s.v,t.v]) h=some (.tup [s'.v,.int .i64 (mulN xs ys).2],h')∧Nats h' s' (mulN xs ys).1∧Grow h h'∧Own h s':=by
 rw[k2z];simp only[kcq];have r:=Rows.two n m;have g:=Grow.push h (.cells [s.v,t.v] T.kci);generalize h.push (.cells [s.v,t.v] T.kci)=h0 at *
 rw[kiy r];simp only[Option.bind_some,kca,List.all_cons,List.all_nil,Bool.and_true];cases hx:rt xs with
 | false=>exact⟨⟨none,0,.is 0⟩,h0,by simp[mulN,hx],by simpa[mulN,hx]using Nats.nil h0,g,Own.nil h⟩
 | true =>
  cases hy:rt ys with
  | false=>exact⟨⟨none,0,.is 0⟩,h0,by simp[mulN,hx,hy],by simpa[mulN,hx,hy]using Nats.nil h0,g,Own.nil h⟩
  | true =>
   simp only[Bool.and_self,Bool.not_true,cond_false];have lx:=(rt_iff.1 hx).1;have ly:=(rt_iff.1 hy).1;rw[show mulN xs ys=told (num B xs*num B ys)from by simp[mulN,hx,hy]];obtain⟨s1,h1,e1,n1,g1,o1⟩:=kz0 (n.grow g) (m.grow g) (by omega);obtain⟨s2,e2,n2,o2⟩:=koo n1;rw[ks B2]at e2 n2;refine⟨s2,h1,?_,n2,g.trans g1,o2 _ (o1.of_le g)⟩;simp only[e1,e2,Option.bind_some,asSl_v,keo,kb]
end Go.Ab

/- squeezed -/
set_option maxRecDepth 10000
namespace Go.Ab
open Go.Proofs Go.Num
def kbn(a1:Bool)(x2:List Nat)(a3:Bool)(x4:List Nat):Bool×List Nat×Int :=
 cond (!((rtI a1 x2&&rtI a3 x4))) ((false,[],1)) (((((fromI (!(a1==a3)) ((mulN x2 x4).1)).1)),(fromI (!(a1==a3)) ((mulN x2 x4).1)).2,((mulN x2 x4).2)))
theorem kpw{h:AH}{a2:Sl}{x2:List Nat}{a4:Sl}{x4:List Nat}(n2:Nats h a2 x2)(n4:Nats h a4 x4)(a1 a3:Bool):Runs (go (.fn F.kki [.agg [.bool a1,a2.v],.agg [.bool a3,a4.v]]) h) fun v h'=>∃s1:Sl,v=.tup [.agg [.bool (kbn a1 x2 a3 x4).1,s1.v],.int .i64 (kbn a1 x2 a3 x4).2.2]∧Nats h' s1 ((kbn a1 x2 a3 x4).2.1)∧Grow h h'∧Own h s1:=by
 rw[k1d];refine Runs.new fun H5 b5 g5=>?_;refine Runs.new fun H6 b6 g6=>?_;refine Runs.new fun H7 b7 g7=>?_;refine Runs.step (AH.has.rd ((g6.trans g7).has b5) 0 rfl rfl) ?_;refine Runs.step (AH.has.rd ((g6.trans g7).has b5) 1 rfl (asSl_v _)) ?_;refine Runs.step (AH.has.rd (g7.has b6) 0 rfl rfl) ?_;refine Runs.step (AH.has.rd (g7.has b6) 1 rfl (asSl_v _)) ?_;refine Runs.new fun H8 b8 g8=>?_;obtain⟨H9,e9,g9⟩:=kls b8 (n2.grow (((g5.trans g6).trans g7).trans g8)) (n4.grow (((g5.trans g6).trans g7).trans g8));refine Runs.step e9 ?_;refine Runs.step (seen rfl) ?_;refine Runs.cond (fun k10=>?_) (fun k10=>?_)
 ·refine Runs.puts ((g8.trans g9).has b7) rfl fun H11 b11 u11=>?_;have b8_11:=AH.has.updr (g9.has b8) (Nat.ne_of_gt (Nat.lt_of_lt_of_le (b7).lt (Nat.le_refl _))) u11;refine Runs.step (AH.has.rd b11 0 rfl rfl) ?_;refine Runs.step (AH.has.rd b11 1 rfl (asSl_v _)) ?_;have z:kbn a1 x2 a3 x4=(false,[],1):=by unfold kbn;exact(condT k10).trans rfl
  rw[z];exact Runs.ret ⟨(⟨none,0,.is 0⟩:Sl),rfl,(Nats.nil _),(((((g5.trans g6).trans g7).trans g8).trans g9).updr (Nat.le_trans ((g5.trans g6)).size (Nat.le_refl _)) u11),(Own.nil _)⟩
 ·refine Runs.step (AH.has.rd ((((g6.trans g7).trans g8).trans g9).has b5) 1 rfl (asSl_v _)) ?_;refine Runs.step (AH.has.rd (((g7.trans g8).trans g9).has b6) 1 rfl (asSl_v _)) ?_;obtain⟨s11,H11,e11,n11,g11,o11⟩:=ko2 (n2.grow ((((g5.trans g6).trans g7).trans g8).trans g9)) (n4.grow ((((g5.trans g6).trans g7).trans g8).trans g9));refine Runs.step e11 ?_;refine Runs.step rfl ?_;refine Runs.step (seen (asSl_v _)) ?_;refine Runs.step (seen (kb _ _)) ?_;refine Runs.step (AH.has.rd (((((g6.trans g7).trans g8).trans g9).trans g11).has b5) 0 rfl rfl) ?_;refine Runs.step (AH.has.rd ((((g7.trans g8).trans g9).trans g11).has b6) 0 rfl rfl) ?_;obtain⟨s12,H12,e12,n12,g12,o12⟩:=kcx n11 (!(a1==a3));refine Runs.step e12 ?_;refine Runs.step rfl ?_;refine Runs.ifT rfl ?_;refine Runs.step (seenAt rfl rfl) ?_;refine Runs.step (seenAt rfl (asSl_v _)) ?_;refine Runs.puts ((((g8.trans g9).trans g11).trans g12).has b7) rfl fun H13 b13 u13=>?_;have n11_13:=(n11.grow g12).upda (Av.of_own o11 ((g8.trans g9).has b7).lt) u13;have n12_13:=n12.upda (Av.of_own o12 (((g8.trans g9).trans g11).has b7).lt) u13;have b8_13:=AH.has.updr (((g9.trans g11).trans g12).has b8) (Nat.ne_of_gt (Nat.lt_of_lt_of_le (b7).lt (Nat.le_refl _))) u13;refine Runs.step (AH.has.rd b13 0 rfl rfl) ?_;refine Runs.step (AH.has.rd b13 1 rfl (asSl_v _)) ?_;have z:kbn a1 x2 a3 x4=((((fromI (!(a1==a3)) ((mulN x2 x4).1)).1)),(fromI (!(a1==a3)) ((mulN x2 x4).1)).2,((mulN x2 x4).2)):=by unfold kbn;exact(condF k10).trans rfl
  rw[z];exact Runs.ret ⟨s12,rfl,n12_13,(((((((g5.trans g6).trans g7).trans g8).trans g9).trans g11).trans g12).updr (Nat.le_trans ((g5.trans g6)).size (Nat.le_refl _)) u13),(o12.of_le (((((g5.trans g6).trans g7).trans g8).trans g9).trans g11))⟩
end Go.Ab

/- squeezed -/
set_option maxRecDepth 10000
namespace Go.Ab
open Go.Proofs Go.Num
def Bl(x n:Nat):Prop:=x<2^n∧(n=0∨2^(n-1)≤x)
def bl(i:Nat):Nat:=if i=0 then 0 else Nat.log2 i+1
theorem kbbu:∀i:Nat,i<256→(lit1[i]?).map (·.toNat)=some (bl i):=by decide +kernel
theorem bl_Bl(i:Nat):Bl i (bl i):=by
 unfold bl Bl;by_cases h:i=0
 ·subst h;simp
 ·rw[if_neg h];refine⟨Nat.lt_log2_self,.inr ?_⟩
  simpa using Nat.log2_self_le h
theorem kbbk{i:Nat}(h:i<256):∃b:UInt8,lit1[i]?=some b∧Bl i b.toNat:=by
 have e:=kbbu i h;rw[Option.map_eq_some_iff]at e;obtain⟨b,e1,e2⟩:=e;exact⟨b,e1,by rw[e2];exact bl_Bl i⟩
theorem Bl.up{x k n:Nat}(b:Bl (x/2^k) n)(h:0<x/2^k):Bl x (k+n):=by
 obtain⟨h1,h2⟩:=b;have p:0<2^k:=Nat.pow_pos (by decide);refine⟨?_,.inr ?_⟩
 ·rw[Nat.pow_add,Nat.mul_comm];exact(Nat.div_lt_iff_lt_mul p).1 h1
 ·rcases h2 with rfl | h2
  ·rw[Nat.pow_zero]at h1;omega
  ·by_cases hn:n=0
   ·subst hn;rw[Nat.pow_zero]at h1;omega
   ·rw[show k+n-1=k+(n-1)from by omega,Nat.pow_add,Nat.mul_comm];exact(Nat.le_div_iff_mul_le p).1 h2
theorem Bl.le{x n:Nat}(b:Bl x n){m:Nat}(h:x<2^m):n≤m:=by
 rcases b.2 with h1 | h1
 ·omega
 ·rcases Nat.lt_or_ge m n with h2 | h2
  ·have:2^m≤2^(n-1):=Nat.pow_le_pow_right (by decide) (by omega);omega
  ·exact h2
theorem wrap8{n:Nat}(h:n<256):IntKind.wrap .u8 (n:Int)=(n:Int):=by
 simp[IntKind.wrap,IntKind.bits,IntKind.signed];omega
theorem kfh{x:Nat}(hx:x<256){P:AV→AH→Prop}{h:AH}{K:Int→Int}(H:∀n:Nat,Bl x n→n≤8→P (.int .i64 (K (n:Int))) h) :
  Runs (cond (decide (0≤(IntKind.wrap .u8 (x:Int)))) ((lit1[Int.toNat (IntKind.wrap .u8 (x:Int))]?).bind fun b=>some (.int .i64 (K (IntKind.wrap .i64 (b.toNat:Int))),h)) none) P:=by
 rw[wrap8 hx,Int.toNat_natCast];obtain⟨b,e1,e2⟩:=kbbk hx;refine Runs.ifT (by rw[decide_eq_true_eq];omega) ?_;refine Runs.step e1 ?_;have:=e2.le (m:=8) hx;rw[khq (by omega)];exact Runs.ret (H _ e2 this)
theorem k90{x:Nat}(hx:x<18446744073709551616){h:AH}:∃n:Nat,go (.fn F.kk1 [.int .u64 (x:Int)]) h=some (.int .i64 (n:Int),h)∧Bl x n:=by
 have key:Runs (go (.fn F.kk1 [.int .u64 (x:Int)]) h) fun v h'=>∃n:Nat,v=.int .i64 (n:Int)∧h'=h∧Bl x n:=by
  rw[k4t];have s32:ishr .u64 (x:Int) 32=((x/2^32:Nat):Int):=kcg x 32;have s16:ishr .u64 (x:Int) 16=((x/2^16:Nat):Int):=kcg x 16;have s8:ishr .u64 (x:Int) 8=((x/2^8:Nat):Int):=kcg x 8;have s3216:ishr .u64 ((x/2^32:Nat):Int) 16=((x/2^32/2^16:Nat):Int):=kcg _ 16;have s328:ishr .u64 ((x/2^32:Nat):Int) 8=((x/2^32/2^8:Nat):Int):=kcg _ 8;have s168:ishr .u64 ((x/2^16:Nat):Int) 8=((x/2^16/2^8:Nat):Int):=kcg _ 8;have s32168:ishr .u64 ((x/2^32/2^16:Nat):Int) 8=((x/2^32/2^16/2^8:Nat):Int):=kcg _ 8;rw[s32,s3216,s32168,s328,s16,s168,s8];refine Runs.cond (fun k1=>?_) (fun k1=>?_)
  ·rw[decide_eq_true_eq]at k1;refine Runs.cond (fun k2=>?_) (fun k2=>?_)
   ·rw[decide_eq_true_eq]at k2;refine Runs.cond (fun k3=>?_) (fun k3=>?_)
    ·rw[decide_eq_true_eq]at k3;refine kfh (K:=fun n=>IntKind.wrap .i64 ((IntKind.wrap .i64 ((IntKind.wrap .i64 (32+16))+8))+n)) (by omega) fun n b hn=>⟨32+(16+(8+n)),?_,rfl,((b.up (by omega)).up (by omega)).up (by omega)⟩;rw[show(IntKind.wrap .i64 ((IntKind.wrap .i64 (32+16))+8))=56 from by decide,wrap64 (by omega) (by omega)];congr 1;omega
    ·rw[decide_eq_false_iff_not]at k3;refine kfh (K:=fun n=>IntKind.wrap .i64 ((IntKind.wrap .i64 (32+16))+n)) (by omega) fun n b hn=>⟨32+(16+n),?_,rfl,(b.up (by omega)).up (by omega)⟩;rw[show(IntKind.wrap .i64 (32+16))=48 from by decide,wrap64 (by omega) (by omega)];congr 1;omega
   ·rw[decide_eq_false_iff_not]at k2;refine Runs.cond (fun k3=>?_) (fun k3=>?_)
    ·rw[decide_eq_true_eq]at k3;refine kfh (K:=fun n=>IntKind.wrap .i64 ((IntKind.wrap .i64 (32+8))+n)) (by omega) fun n b hn=>⟨32+(8+n),?_,rfl,(b.up (by omega)).up (by omega)⟩;rw[show(IntKind.wrap .i64 (32+8))=40 from by decide,wrap64 (by omega) (by omega)];congr 1;omega
    ·rw[decide_eq_false_iff_not]at k3;refine kfh (K:=fun n=>IntKind.wrap .i64 (32+n)) (by omega) fun n b hn=>⟨32+n,?_,rfl,b.up (by omega)⟩;rw[wrap64 (by omega) (by omega)];congr 1
  ·rw[decide_eq_false_iff_not]at k1;refine Runs.cond (fun k2=>?_) (fun k2=>?_)
   ·rw[decide_eq_true_eq]at k2;refine Runs.cond (fun k3=>?_) (fun k3=>?_)
    ·rw[decide_eq_true_eq]at k3;refine kfh (K:=fun n=>IntKind.wrap .i64 ((IntKind.wrap .i64 ((IntKind.wrap .i64 (0+16))+8))+n)) (by omega) fun n b hn=>⟨16+(8+n),?_,rfl,(b.up (by omega)).up (by omega)⟩;rw[show(IntKind.wrap .i64 ((IntKind.wrap .i64 (0+16))+8))=24 from by decide,wrap64 (by omega) (by omega)];congr 1;omega
    ·rw[decide_eq_false_iff_not]at k3;refine kfh (K:=fun n=>IntKind.wrap .i64 ((IntKind.wrap .i64 (0+16))+n)) (by omega) fun n b hn=>⟨16+n,?_,rfl,b.up (by omega)⟩;rw[show(IntKind.wrap .i64 (0+16))=16 from by decide,wrap64 (by omega) (by omega)];congr 1
   ·rw[decide_eq_false_iff_not]at k2;refine Runs.cond (fun k3=>?_) (fun k3=>?_)
    ·rw[decide_eq_true_eq]at k3;refine kfh (K:=fun n=>IntKind.wrap .i64 ((IntKind.wrap .i64 (0+8))+n)) (by omega) fun n b hn=>⟨8+n,?_,rfl,b.up (by omega)⟩;rw[show(IntKind.wrap .i64 (0+8))=8 from by decide,wrap64 (by omega) (by omega)];congr 1
    ·rw[decide_eq_false_iff_not]at k3;refine kfh (K:=fun n=>IntKind.wrap .i64 (0+n)) (by omega) fun n b hn=>⟨n,?_,rfl,b⟩;rw[wrap64 (by omega) (by omega)];congr 1;omega
 obtain⟨_,_,e,n,rfl,rfl,b⟩:=key;exact⟨n,e,b⟩
end Go.Ab

/- squeezed -/
set_option maxRecDepth 10000
namespace Go.Ab
open Go.Proofs Go.Num
theorem Bl.uniq{x n m:Nat}(a:Bl x n)(b:Bl x m):n=m:=Nat.le_antisymm (a.le b.1) (b.le a.1)
theorem kw0(a:Int){h:AH}(ha:0≤a∧a<18446744073709551616):go (.fn F.kl7 [.int .u64 a]) h=some (.int .i64 ((64-bl a.toNat:Nat):Int),h):=by
 obtain⟨x,rfl⟩:∃x:Nat,a=(x:Int):=⟨a.toNat,by omega⟩;obtain⟨l,e,b⟩:=k90 (x:=x) (by omega) (h:=h);have hl:=b.le (m:=64) (show x<2^64 by omega);have:=b.uniq (bl_Bl x);subst this;rw[kyy,e,Option.bind_some,Option.bind_some,kb,Option.bind_some,Int.toNat_natCast,wrap64 (by omega) (by omega)];rw[show(64:Int)-(bl x:Int)=((64-bl x:Nat):Int)from by omega]
theorem kv8{x:Nat}(hx:x<18446744073709551616)(h0:0<x):64-bl x≤63∧9223372036854775808≤x*2^(64-bl x)∧x*2^(64-bl x)<18446744073709551616:=by
 have b:=bl_Bl x;generalize bl x=l at b;have hl:=b.le (m:=64) (show x<2^64 by omega)
 have hl1:1≤l:=by
  rcases Nat.eq_zero_or_pos l with e | e
  ·subst e;have:=b.1;rw[Nat.pow_zero]at this;omega
  ·exact e
 refine⟨by omega,?_,?_⟩
 ·rcases b.2 with h1 | h1
  ·omega
  ·have h2:2^(l-1)*2^(64-l)≤x*2^(64-l):=Nat.mul_le_mul_right _ h1;rw[← Nat.pow_add,show l-1+(64-l)=63 from by omega]at h2;exact h2
 ·have h2:x*2^(64-l)<2^l*2^(64-l):=Nat.mul_lt_mul_of_pos_right b.1 (Nat.pow_pos (by decide));rw[← Nat.pow_add,show l+(64-l)=64 from by omega]at h2;exact h2
theorem kji(x n:Nat)(hn:n≤64):ishl .u64 (x:Int) (n:Int)=((x*2^n%18446744073709551616:Nat):Int):=by
 unfold ishl;rw[Int.toNat_natCast,show IntKind.bits .u64=64 from rfl,Nat.min_eq_left hn,wrapU];have:(x:Int)*(2:Int)^n=((x*2^n:Nat):Int):=by simp
 rw[this];rfl
theorem kn1{a c s:Nat}(h:a*2^s<18446744073709551616)(hc:c<2^s)(hs:s≤64):ior .u64 ((a*2^s:Nat):Int) (c:Int)=((a*2^s+c:Nat):Int):=by
 have p:0<2^s:=Nat.pow_pos (by decide);have hc':c<18446744073709551616:=show c<2^64 from Nat.lt_of_lt_of_le hc (Nat.pow_le_pow_right (by decide) hs)
 have hsum:a*2^s+c<18446744073709551616:=by
  have e:2^(64-s)*2^s=18446744073709551616:=by rw[← Nat.pow_add,show 64-s+s=64 from by omega]
  have h1:a<2^(64-s):=Nat.lt_of_mul_lt_mul_right (a:=2^s) (by rw[e];exact h);have h2:(a+1)*2^s≤2^(64-s)*2^s:=Nat.mul_le_mul_right _ h1;rw[e,Nat.add_mul,Nat.one_mul]at h2;omega
 unfold ior;rw[show IntKind.bits .u64=64 from rfl,wrapU];have e1:BitVec.ofInt 64 ((a*2^s:Nat):Int)=BitVec.ofNat 64 (a*2^s):=rfl;have e2:BitVec.ofInt 64 (c:Int)=BitVec.ofNat 64 c:=rfl;have e3:=Nat.shiftLeft_add_eq_or_of_lt hc a;rw[Nat.shiftLeft_eq]at e3;rw[e1,e2,BitVec.toNat_or,BitVec.toNat_ofNat,BitVec.toNat_ofNat,Nat.mod_eq_of_lt (show a*2^s<2^64 from h),Nat.mod_eq_of_lt (show c<2^64 from hc'),← e3];omega
end Go.Ab

/- squeezed -/
set_option maxRecDepth 10000
namespace Go.Ab
open Go.Proofs Go.Num
inductive kcj
 | fn (a1:Int) (a2:Int) (a3:Int)
 | p3 (a1:Int) (a2:Int) (a3:Int)
 | p17 (a1:Int) (a2:Int) (a3:Int) (a4:Int) (a5:Int) (a6:Int) (a7:Int) (a8:Int) (a9:Int)
 | p24 (a1:Int) (a2:Int) (a3:Int) (a4:Int) (a5:Int) (a6:Int) (a7:Int) (a8:Int) (a9:Int)
abbrev kbz:=Int×Int
noncomputable def kja(a1 a2 a3:Int):Option (kcj⊕kbz) :=
 cond (decide (a3=0)) (none) (some (.inl (.p3 a1 a2 a3)))
noncomputable def kf2(a1 a2 a3:Int):Option (kcj⊕kbz) :=
 cond (decide (a3≤a1)) (none) (cond (decide (a1=0)) (cond (decide (a3=0)) (none) (cond (decide (a3=0)) (none) (some (.inr (IntKind.wrap .u64 (Int.tdiv a2 a3),Int.tmod a2 a3))))) ((need (0≤a3∧a3<18446744073709551616)).bind fun c6_0=>cond (decide ((IntKind.wrap .u64 (((64-bl (Int.toNat a3):Nat):Int)))<0)) (none) (cond (decide ((IntKind.wrap .u64 (((64-bl (Int.toNat a3):Nat):Int)))<0)) (none) (cond (decide ((IntKind.wrap .u64 (64-(IntKind.wrap .u64 (((64-bl (Int.toNat a3):Nat):Int)))))<0)) (none) (cond (decide ((IntKind.wrap .u64 (((64-bl (Int.toNat a3):Nat):Int)))<0)) (none) (cond (decide ((ishr .u64 (ishl .u64 a3 (IntKind.wrap .u64 (((64-bl (Int.toNat a3):Nat):Int)))) 32)=0)) (none) (some (.inl (.p17 (ishl .u64 a3 (IntKind.wrap .u64 (((64-bl (Int.toNat a3):Nat):Int)))) (IntKind.wrap .u64 (((64-bl (Int.toNat a3):Nat):Int))) (ishr .u64 (ishl .u64 a3 (IntKind.wrap .u64 (((64-bl (Int.toNat a3):Nat):Int)))) 32) (iand .u64 (ishl .u64 a3 (IntKind.wrap .u64 (((64-bl (Int.toNat a3):Nat):Int)))) 4294967295) (ior .u64 (ishl .u64 a1 (IntKind.wrap .u64 (((64-bl (Int.toNat a3):Nat):Int)))) (ishr .u64 a2 (IntKind.wrap .u64 (64-(IntKind.wrap .u64 (((64-bl (Int.toNat a3):Nat):Int))))))) (ishr .u64 (ishl .u64 a2 (IntKind.wrap .u64 (((64-bl (Int.toNat a3):Nat):Int)))) 32) (iand .u64 (ishl .u64 a2 (IntKind.wrap .u64 (((64-bl (Int.toNat a3):Nat):Int)))) 4294967295) (IntKind.wrap .u64 (Int.tdiv (ior .u64 (ishl .u64 a1 (IntKind.wrap .u64 (((64-bl (Int.toNat a3):Nat):Int)))) (ishr .u64 a2 (IntKind.wrap .u64 (64-(IntKind.wrap .u64 (((64-bl (Int.toNat a3):Nat):Int))))))) (ishr .u64 (ishl .u64 a3 (IntKind.wrap .u64 (((64-bl (Int.toNat a3):Nat):Int)))) 32))) (IntKind.wrap .u64 ((ior .u64 (ishl .u64 a1 (IntKind.wrap .u64 (((64-bl (Int.toNat a3):Nat):Int)))) (ishr .u64 a2 (IntKind.wrap .u64 (64-(IntKind.wrap .u64 (((64-bl (Int.toNat a3):Nat):Int)))))))-(IntKind.wrap .u64 ((IntKind.wrap .u64 (Int.tdiv (ior .u64 (ishl .u64 a1 (IntKind.wrap .u64 (((64-bl (Int.toNat a3):Nat):Int)))) (ishr .u64 a2 (IntKind.wrap .u64 (64-(IntKind.wrap .u64 (((64-bl (Int.toNat a3):Nat):Int))))))) (ishr .u64 (ishl .u64 a3 (IntKind.wrap .u64 (((64-bl (Int.toNat a3):Nat):Int)))) 32)))*(ishr .u64 (ishl .u64 a3 (IntKind.wrap .u64 (((64-bl (Int.toNat a3):Nat):Int)))) 32))))))))))))))
noncomputable def kez(a1 a2 a3 a4 a5 a6 a7 a8 a9:Int):Option (kcj⊕kbz) :=
 cond (decide (a8≥4294967296)) (cond (decide ((IntKind.wrap .u64 (a9+a3))≥4294967296)) (cond (decide (a3=0)) (none) (some (.inl (.p24 a1 a2 a3 a4 a7 (IntKind.wrap .u64 (a8-1)) (IntKind.wrap .u64 ((IntKind.wrap .u64 ((IntKind.wrap .u64 ((IntKind.wrap .u64 (a5*4294967296))+a6))-(IntKind.wrap .u64 ((IntKind.wrap .u64 (a8-1))*a1))))-(IntKind.wrap .u64 ((IntKind.wrap .u64 (Int.tdiv (IntKind.wrap .u64 ((IntKind.wrap .u64 ((IntKind.wrap .u64 (a5*4294967296))+a6))-(IntKind.wrap .u64 ((IntKind.wrap .u64 (a8-1))*a1)))) a3))*a3)))) (IntKind.wrap .u64 ((IntKind.wrap .u64 ((IntKind.wrap .u64 (a5*4294967296))+a6))-(IntKind.wrap .u64 ((IntKind.wrap .u64 (a8-1))*a1)))) (IntKind.wrap .u64 (Int.tdiv (IntKind.wrap .u64 ((IntKind.wrap .u64 ((IntKind.wrap .u64 (a5*4294967296))+a6))-(IntKind.wrap .u64 ((IntKind.wrap .u64 (a8-1))*a1)))) a3)))))) (some (.inl (.p17 a1 a2 a3 a4 a5 a6 a7 (IntKind.wrap .u64 (a8-1)) (IntKind.wrap .u64 (a9+a3)))))) (cond (decide ((IntKind.wrap .u64 (a8*a4))>(IntKind.wrap .u64 ((IntKind.wrap .u64 (4294967296*a9))+a6)))) (cond (decide ((IntKind.wrap .u64 (a9+a3))≥4294967296)) (cond (decide (a3=0)) (none) (some (.inl (.p24 a1 a2 a3 a4 a7 (IntKind.wrap .u64 (a8-1)) (IntKind.wrap .u64 ((IntKind.wrap .u64 ((IntKind.wrap .u64 ((IntKind.wrap .u64 (a5*4294967296))+a6))-(IntKind.wrap .u64 ((IntKind.wrap .u64 (a8-1))*a1))))-(IntKind.wrap .u64 ((IntKind.wrap .u64 (Int.tdiv (IntKind.wrap .u64 ((IntKind.wrap .u64 ((IntKind.wrap .u64 (a5*4294967296))+a6))-(IntKind.wrap .u64 ((IntKind.wrap .u64 (a8-1))*a1)))) a3))*a3)))) (IntKind.wrap .u64 ((IntKind.wrap .u64 ((IntKind.wrap .u64 (a5*4294967296))+a6))-(IntKind.wrap .u64 ((IntKind.wrap .u64 (a8-1))*a1)))) (IntKind.wrap .u64 (Int.tdiv (IntKind.wrap .u64 ((IntKind.wrap .u64 ((IntKind.wrap .u64 (a5*4294967296))+a6))-(IntKind.wrap .u64 ((IntKind.wrap .u64 (a8-1))*a1)))) a3)))))) (some (.inl (.p17 a1 a2 a3 a4 a5 a6 a7 (IntKind.wrap .u64 (a8-1)) (IntKind.wrap .u64 (a9+a3)))))) (cond (decide (a3=0)) (none) (some (.inl (.p24 a1 a2 a3 a4 a7 a8 (IntKind.wrap .u64 ((IntKind.wrap .u64 ((IntKind.wrap .u64 ((IntKind.wrap .u64 (a5*4294967296))+a6))-(IntKind.wrap .u64 (a8*a1))))-(IntKind.wrap .u64 ((IntKind.wrap .u64 (Int.tdiv (IntKind.wrap .u64 ((IntKind.wrap .u64 ((IntKind.wrap .u64 (a5*4294967296))+a6))-(IntKind.wrap .u64 (a8*a1)))) a3))*a3)))) (IntKind.wrap .u64 ((IntKind.wrap .u64 ((IntKind.wrap .u64 (a5*4294967296))+a6))-(IntKind.wrap .u64 (a8*a1)))) (IntKind.wrap .u64 (Int.tdiv (IntKind.wrap .u64 ((IntKind.wrap .u64 ((IntKind.wrap .u64 (a5*4294967296))+a6))-(IntKind.wrap .u64 (a8*a1)))) a3)))))))
noncomputable def keq(a1 a2 a3 a4 a5 a6 a7 a8 a9:Int):Option (kcj⊕kbz) :=
 cond (decide (a9≥4294967296)) (cond (decide ((IntKind.wrap .u64 (a7+a3))≥4294967296)) (cond (decide (a2<0)) (none) (some (.inr (IntKind.wrap .u64 ((IntKind.wrap .u64 (a6*4294967296))+(IntKind.wrap .u64 (a9-1))),ishr .u64 (IntKind.wrap .u64 ((IntKind.wrap .u64 ((IntKind.wrap .u64 (a8*4294967296))+a5))-(IntKind.wrap .u64 ((IntKind.wrap .u64 (a9-1))*a1)))) a2)))) (some (.inl (.p24 a1 a2 a3 a4 a5 a6 (IntKind.wrap .u64 (a7+a3)) a8 (IntKind.wrap .u64 (a9-1)))))) (cond (decide ((IntKind.wrap .u64 (a9*a4))>(IntKind.wrap .u64 ((IntKind.wrap .u64 (4294967296*a7))+a5)))) (cond (decide ((IntKind.wrap .u64 (a7+a3))≥4294967296)) (cond (decide (a2<0)) (none) (some (.inr (IntKind.wrap .u64 ((IntKind.wrap .u64 (a6*4294967296))+(IntKind.wrap .u64 (a9-1))),ishr .u64 (IntKind.wrap .u64 ((IntKind.wrap .u64 ((IntKind.wrap .u64 (a8*4294967296))+a5))-(IntKind.wrap .u64 ((IntKind.wrap .u64 (a9-1))*a1)))) a2)))) (some (.inl (.p24 a1 a2 a3 a4 a5 a6 (IntKind.wrap .u64 (a7+a3)) a8 (IntKind.wrap .u64 (a9-1)))))) (cond (decide (a2<0)) (none) (some (.inr (IntKind.wrap .u64 ((IntKind.wrap .u64 (a6*4294967296))+a9),ishr .u64 (IntKind.wrap .u64 ((IntKind.wrap .u64 ((IntKind.wrap .u64 (a8*4294967296))+a5))-(IntKind.wrap .u64 (a9*a1)))) a2)))))
noncomputable def kdw:kcj→Option (kcj⊕kbz)
 | .fn a1 a2 a3=>kja a1 a2 a3
 | .p3 a1 a2 a3=>kf2 a1 a2 a3
 | .p17 a1 a2 a3 a4 a5 a6 a7 a8 a9=>kez a1 a2 a3 a4 a5 a6 a7 a8 a9
 | .p24 a1 a2 a3 a4 a5 a6 a7 a8 a9=>keq a1 a2 a3 a4 a5 a6 a7 a8 a9
@[reducible] def kli(h0:AH)(r:kbz)(v:AV)(h':AH):Prop:=v=.tup [.int .u64 r.1,.int .u64 r.2]∧Grow h0 h'
def keu(r:kbz):kcj→Prop
 | .fn a1 a2 a3=>∀{h:AH},Runs (go (.fn F.kbx [.int .u64 a1,.int .u64 a2,.int .u64 a3]) h) (kli h r)
 | .p3 a1 a2 a3=>∀{h0 h:AH},Grow h0 h→Runs (go (.pt F.kbx Td.kpy [(0,.int .u64 a1),(1,.int .u64 a2),(2,.int .u64 a3)]) h) (kli h0 r)
 | .p17 a1 a2 a3 a4 a5 a6 a7 a8 a9=>∀{h0 h:AH},Grow h0 h→Runs (go (.pt F.kbx Td.kkd [(2,.int .u64 a1),(8,.int .u64 a2),(9,.int .u64 a3),(10,.int .u64 a4),(11,.int .u64 a5),(13,.int .u64 a6),(14,.int .u64 a7),(15,.int .u64 a8),(16,.int .u64 a9)]) h) (kli h0 r)
 | .p24 a1 a2 a3 a4 a5 a6 a7 a8 a9=>∀{h0 h:AH},Grow h0 h→Runs (go (.pt F.kbx Td.kg1 [(2,.int .u64 a1),(8,.int .u64 a2),(9,.int .u64 a3),(10,.int .u64 a4),(14,.int .u64 a5),(15,.int .u64 a6),(16,.int .u64 a7),(17,.int .u64 a8),(18,.int .u64 a9)]) h) (kli h0 r)
theorem kbat{r:kbz}{o:kcj⊕kbz}{a1 a2 a3:Int}(e:kja a1 a2 a3=some o)(good:GoodS (keu r) r o):keu r (.fn a1 a2 a3):=by
 intro h;rw[k6k];unfold kja at e;refine Runs.cond (fun k4=>?_) (fun k4=>?_)
 ·replace e:=(condT k4).symm.trans e;cases e
 ·replace e:=(condF k4).symm.trans e;cases e;exact good (Grow.refl _)
theorem k20{r:kbz}{o:kcj⊕kbz}{a1 a2 a3:Int}(e:kf2 a1 a2 a3=some o)(good:GoodS (keu r) r o):keu r (.p3 a1 a2 a3):=by
 intro h0 h g0;rw[kzb];unfold kf2 at e;refine Runs.cond (fun k4=>?_) (fun k4=>?_)
 ·replace e:=(condT k4).symm.trans e;cases e
 ·replace e:=(condF k4).symm.trans e;refine Runs.cond (fun k5=>?_) (fun k5=>?_)
  ·replace e:=(condT k5).symm.trans e;refine Runs.cond (fun k6=>?_) (fun k6=>?_)
   ·replace e:=(condT k6).symm.trans e;cases e
   ·replace e:=(condF k6).symm.trans e;refine Runs.cond (fun k7=>?_) (fun k7=>?_)
    ·replace e:=(condT k7).symm.trans e;cases e
    ·replace e:=(condF k7).symm.trans e;cases e;cases good;exact Runs.ret ⟨rfl,g0⟩
  ·replace e:=(condF k5).symm.trans e;obtain⟨c6_0,q6_0,e⟩:=Option.bind_eq_some_iff.1 e;refine Runs.step (kw0 a3  c6_0.down) ?_;refine Runs.step (seen (kb _ _)) ?_;refine Runs.cond (fun k7=>?_) (fun k7=>?_)
   ·replace e:=(condT k7).symm.trans e;cases e
   ·replace e:=(condF k7).symm.trans e;refine Runs.cond (fun k8=>?_) (fun k8=>?_)
    ·replace e:=(condT k8).symm.trans e;cases e
    ·replace e:=(condF k8).symm.trans e;refine Runs.cond (fun k9=>?_) (fun k9=>?_)
     ·replace e:=(condT k9).symm.trans e;cases e
     ·replace e:=(condF k9).symm.trans e;refine Runs.cond (fun k10=>?_) (fun k10=>?_)
      ·replace e:=(condT k10).symm.trans e;cases e
      ·replace e:=(condF k10).symm.trans e;refine Runs.cond (fun k11=>?_) (fun k11=>?_)
       ·replace e:=(condT k11).symm.trans e;cases e
       ·replace e:=(condF k11).symm.trans e;cases e;exact good g0
theorem kzh{r:kbz}{o:kcj⊕kbz}{a1 a2 a3 a4 a5 a6 a7 a8 a9:Int}(e:kez a1 a2 a3 a4 a5 a6 a7 a8 a9=some o)(good:GoodS (keu r) r o):keu r (.p17 a1 a2 a3 a4 a5 a6 a7 a8 a9):=by
 intro h0 h g0;rw[k3e];unfold kez at e;refine Runs.cond (fun k10=>?_) (fun k10=>?_)
 ·replace e:=(condT k10).symm.trans e;refine Runs.cond (fun k11=>?_) (fun k11=>?_)
  ·replace e:=(condT k11).symm.trans e;refine Runs.cond (fun k12=>?_) (fun k12=>?_)
   ·replace e:=(condT k12).symm.trans e;cases e
   ·replace e:=(condF k12).symm.trans e;cases e;exact good g0
  ·replace e:=(condF k11).symm.trans e;cases e;exact good g0
 ·replace e:=(condF k10).symm.trans e;refine Runs.cond (fun k11=>?_) (fun k11=>?_)
  ·replace e:=(condT k11).symm.trans e;refine Runs.cond (fun k12=>?_) (fun k12=>?_)
   ·replace e:=(condT k12).symm.trans e;refine Runs.cond (fun k13=>?_) (fun k13=>?_)
    ·replace e:=(condT k13).symm.trans e;cases e
    ·replace e:=(condF k13).symm.trans e;cases e;exact good g0
   ·replace e:=(condF k12).symm.trans e;cases e;exact good g0
  ·replace e:=(condF k11).symm.trans e;refine Runs.cond (fun k12=>?_) (fun k12=>?_)
   ·replace e:=(condT k12).symm.trans e;cases e
   ·replace e:=(condF k12).symm.trans e;cases e;exact good g0
theorem k1l{r:kbz}{o:kcj⊕kbz}{a1 a2 a3 a4 a5 a6 a7 a8 a9:Int}(e:keq a1 a2 a3 a4 a5 a6 a7 a8 a9=some o)(good:GoodS (keu r) r o):keu r (.p24 a1 a2 a3 a4 a5 a6 a7 a8 a9):=by
 intro h0 h g0;rw[k3k];unfold keq at e;refine Runs.cond (fun k10=>?_) (fun k10=>?_)
 ·replace e:=(condT k10).symm.trans e;refine Runs.cond (fun k11=>?_) (fun k11=>?_)
  ·replace e:=(condT k11).symm.trans e;refine Runs.cond (fun k12=>?_) (fun k12=>?_)
   ·replace e:=(condT k12).symm.trans e;cases e
   ·replace e:=(condF k12).symm.trans e;cases e;cases good;exact Runs.ret ⟨rfl,g0⟩
  ·replace e:=(condF k11).symm.trans e;cases e;exact good g0
 ·replace e:=(condF k10).symm.trans e;refine Runs.cond (fun k11=>?_) (fun k11=>?_)
  ·replace e:=(condT k11).symm.trans e;refine Runs.cond (fun k12=>?_) (fun k12=>?_)
   ·replace e:=(condT k12).symm.trans e;refine Runs.cond (fun k13=>?_) (fun k13=>?_)
    ·replace e:=(condT k13).symm.trans e;cases e
    ·replace e:=(condF k13).symm.trans e;cases e;cases good;exact Runs.ret ⟨rfl,g0⟩
   ·replace e:=(condF k12).symm.trans e;cases e;exact good g0
  ·replace e:=(condF k11).symm.trans e;refine Runs.cond (fun k12=>?_) (fun k12=>?_)
   ·replace e:=(condT k12).symm.trans e;cases e
   ·replace e:=(condF k12).symm.trans e;cases e;cases good;exact Runs.ret ⟨rfl,g0⟩
theorem k6l{s:kcj}{r:kbz}(it:Iter kdw s r):keu r s:=Iter.ind (fun s o e good=>by
 cases s with
 | fn a1 a2 a3=>exact @kbat _ _ a1 a2 a3 e good
 | p3 a1 a2 a3=>exact @k20 _ _ a1 a2 a3 e good
 | p17 a1 a2 a3 a4 a5 a6 a7 a8 a9=>exact @kzh _ _ a1 a2 a3 a4 a5 a6 a7 a8 a9 e good
 | p24 a1 a2 a3 a4 a5 a6 a7 a8 a9=>exact @k1l _ _ a1 a2 a3 a4 a5 a6 a7 a8 a9 e good
 ) it
end Go.Ab

/- squeezed -/
set_option maxRecDepth 10000
namespace Go.Ab
open Go.Proofs Go.Num
theorem kqn(a c:Nat):Int.tdiv (a:Int) (c:Int)=((a/c:Nat):Int):=rfl
theorem kbbq(a c:Nat):Int.tmod (a:Int) (c:Int)=((a%c:Nat):Int):=rfl
def st24(a1 a2 a3 a4 a5 a6 a7 q:Int):kcj :=
 .p24 a1 a2 a3 a4 a7 q (IntKind.wrap .u64 ((IntKind.wrap .u64 ((IntKind.wrap .u64 ((IntKind.wrap .u64 (a5*4294967296))+a6))-(IntKind.wrap .u64 (q*a1))))-(IntKind.wrap .u64 ((IntKind.wrap .u64 (Int.tdiv (IntKind.wrap .u64 ((IntKind.wrap .u64 ((IntKind.wrap .u64 (a5*4294967296))+a6))-(IntKind.wrap .u64 (q*a1)))) a3))*a3)))) (IntKind.wrap .u64 ((IntKind.wrap .u64 ((IntKind.wrap .u64 (a5*4294967296))+a6))-(IntKind.wrap .u64 (q*a1)))) (IntKind.wrap .u64 (Int.tdiv (IntKind.wrap .u64 ((IntKind.wrap .u64 ((IntKind.wrap .u64 (a5*4294967296))+a6))-(IntKind.wrap .u64 (q*a1)))) a3))
theorem un_eq{u32 u1 q v:Nat}(hq:q=(u32*4294967296+u1)/v)(hv0:0<v)(hv:v<18446744073709551616):IntKind.wrap .u64 ((IntKind.wrap .u64 ((IntKind.wrap .u64 ((u32:Int)*4294967296))+(u1:Int)))-(IntKind.wrap .u64 ((q:Int)*(v:Int))))=(((u32*4294967296+u1)%v:Nat):Int):=by
 have h1:=Nat.div_add_mod (u32*4294967296+u1) v;have h2:=Nat.mod_lt (u32*4294967296+u1) hv0;rw[← hq,Nat.mul_comm]at h1;rw[wrapU,wrapU,wrapU,wrapU,← Int.natCast_mul];generalize q*v=t at *
 generalize (u32*4294967296+u1)%v=m at *
 omega
theorem k59{s v v1 v0 u32 u1 u0 q:Nat}(hq:q=(u32*4294967296+u1)/v)(hv0:0<v)(hv:v<18446744073709551616)(h1:0<v1) :
  st24 v s v1 v0 u32 u1 u0 q=.p24 v s v1 v0 u0 q (((u32*4294967296+u1)%v%v1:Nat):Int) (((u32*4294967296+u1)%v:Nat):Int) (((u32*4294967296+u1)%v/v1:Nat):Int):=by
 unfold st24;rw[un_eq hq hv0 hv,kqn];have h2:=Nat.mod_lt (u32*4294967296+u1) hv0;generalize (u32*4294967296+u1)%v=m at *
 have h3:=Nat.div_le_self m v1;rw[kes (n:=m/v1) (by omega),← Int.natCast_mul];have h4:=Nat.div_add_mod m v1;rw[Nat.mul_comm]at h4;have h5:=Nat.mod_lt m h1;rw[wrapU,wrapU]
 have e:((m:Int)-((m/v1*v1:Nat):Int)%18446744073709551616)%18446744073709551616=((m%v1:Nat):Int):=by
  generalize m/v1*v1=t at *
  generalize m%v1=z at *
  omega
 rw[e]
theorem div17{s v v1 v0 u32 u1 u0:Nat}{res:kbz}(hv:v=v1*4294967296+v0)(h1:0<v1)(h1':v1<4294967296)(h0:v0<4294967296)(hu:u32<v)(hu1:u1<4294967296)
  (K:Iter kdw (st24 v s v1 v0 u32 u1 u0 (((u32*4294967296+u1)/v:Nat):Int)) res) :
  ∀(q r:Nat),q*v1+r=u32→(u32*4294967296+u1)/v≤q→r<4294967296→q<8589934592→Iter kdw (.p17 v s v1 v0 u32 u1 u0 q r) res
 | q,r,e,hge,hr,hq=>by
  have hv':v<18446744073709551616:=by omega
  have less:(4294967296≤q∨4294967296*r+u1<q*v0)→∃o,Iter kdw o res∧
    cond (decide ((IntKind.wrap .u64 ((r:Int)+(v1:Int)))≥4294967296)) (cond (decide ((v1:Int)=0)) none (some (Sum.inl (β:=kbz) (st24 v s v1 v0 u32 u1 u0 (IntKind.wrap .u64 ((q:Int)-1)))))) (some (.inl (.p17 v s v1 v0 u32 u1 u0 (IntKind.wrap .u64 ((q:Int)-1)) (IntKind.wrap .u64 ((r:Int)+(v1:Int))))))=some (.inl o):=by
   intro t;obtain⟨k1,k2⟩:=kn_hi hv hu hu1 rfl e hge t;obtain⟨p,rfl⟩:∃p,q=p+1:=⟨q-1,by omega⟩;rw[Nat.add_sub_cancel]at k1
   have e':p*v1+(r+v1)=u32:=by
    rw[Nat.add_mul,Nat.one_mul]at e;omega
   have w1:IntKind.wrap .u64 (((p+1:Nat):Int)-1)=(p:Int):=by rw[wrapU];omega
   have w2:IntKind.wrap .u64 ((r:Int)+(v1:Int))=((r+v1:Nat):Int):=by rw[wrapU];omega
   rw[w1,w2];by_cases ho:4294967296≤r+v1
   ·have:=kn_lo hv hu rfl e' k1 (kn_out hv h0 hu e' ho);rw[this]at K;refine⟨_,K,?_⟩;rw[condT (by rw[decide_eq_true_eq];omega),condF (by rw[decide_eq_false_iff_not];omega)]
   ·refine⟨_,div17 hv h1 h1' h0 hu hu1 K p (r+v1) e' k1 (by omega) (by omega),?_⟩;rw[condF (by rw[decide_eq_false_iff_not];omega)]
  by_cases c1:4294967296≤q
  ·obtain⟨o,k1,k2⟩:=less (.inl c1);refine .next ?_ k1;show kez _ _ _ _ _ _ _ _ _=_;unfold kez;rw[condT (by rw[decide_eq_true_eq];omega)];exact k2
  ·have m1:q*v0≤4294967295*4294967295:=Nat.mul_le_mul (by omega) (by omega)
   have w3:IntKind.wrap .u64 ((q:Int)*(v0:Int))=((q*v0:Nat):Int):=by
    rw[← Int.natCast_mul];exact kes (by omega)
   have w4:IntKind.wrap .u64 ((IntKind.wrap .u64 (4294967296*(r:Int)))+(u1:Int))=((4294967296*r+u1:Nat):Int):=by
    rw[wrapU,wrapU];omega
   by_cases c2:4294967296*r+u1<q*v0
   ·obtain⟨o,k1,k2⟩:=less (.inr c2);refine .next ?_ k1;show kez _ _ _ _ _ _ _ _ _=_;unfold kez;rw[condF (by rw[decide_eq_false_iff_not];omega),w3,w4,condT (by rw[decide_eq_true_eq];omega)];exact k2
   ·have:=kn_lo hv hu rfl e hge (by omega);rw[this]at K;refine .next ?_ K;show kez _ _ _ _ _ _ _ _ _=_;unfold kez;rw[condF (by rw[decide_eq_false_iff_not];omega),w3,w4,condF (by rw[decide_eq_false_iff_not];omega),condF (by rw[decide_eq_false_iff_not];omega)];rfl
termination_by q=>q
def fin24(a1 a2 a5 a6 a8 q:Int):Option (kcj⊕kbz) :=
 cond (decide (a2<0)) none (some (.inr (IntKind.wrap .u64 ((IntKind.wrap .u64 (a6*4294967296))+q),ishr .u64 (IntKind.wrap .u64 ((IntKind.wrap .u64 ((IntKind.wrap .u64 (a8*4294967296))+a5))-(IntKind.wrap .u64 (q*a1)))) a2)))
theorem div24{s v v1 v0 u32 u1 q1:Nat}{res:kbz}(hv:v=v1*4294967296+v0)(h1:0<v1)(h1':v1<4294967296)(h0:v0<4294967296)(hu:u32<v)(hu1:u1<4294967296)
  (K:fin24 v s u1 q1 u32 (((u32*4294967296+u1)/v:Nat):Int)=some (.inr res)) :
  ∀(q r:Nat),q*v1+r=u32→(u32*4294967296+u1)/v≤q→r<4294967296→q<8589934592→Iter kdw (.p24 v s v1 v0 u1 q1 r u32 q) res
 | q,r,e,hge,hr,hq=>by
  have hv':v<18446744073709551616:=by omega
  have less:(4294967296≤q∨4294967296*r+u1<q*v0)→∃o,(o=Sum.inr res∨∃st,o=.inl st∧Iter kdw st res)∧
    cond (decide ((IntKind.wrap .u64 ((r:Int)+(v1:Int)))≥4294967296)) (fin24 v s u1 q1 u32 (IntKind.wrap .u64 ((q:Int)-1))) (some (.inl (.p24 v s v1 v0 u1 q1 (IntKind.wrap .u64 ((r:Int)+(v1:Int))) u32 (IntKind.wrap .u64 ((q:Int)-1)))))=some o:=by
   intro t;obtain⟨k1,k2⟩:=kn_hi hv hu hu1 rfl e hge t;obtain⟨p,rfl⟩:∃p,q=p+1:=⟨q-1,by omega⟩;rw[Nat.add_sub_cancel]at k1
   have e':p*v1+(r+v1)=u32:=by
    rw[Nat.add_mul,Nat.one_mul]at e;omega
   have w1:IntKind.wrap .u64 (((p+1:Nat):Int)-1)=(p:Int):=by rw[wrapU];omega
   have w2:IntKind.wrap .u64 ((r:Int)+(v1:Int))=((r+v1:Nat):Int):=by rw[wrapU];omega
   rw[w1,w2];by_cases ho:4294967296≤r+v1
   ·have:=kn_lo hv hu rfl e' k1 (kn_out hv h0 hu e' ho);rw[this]at K;refine⟨.inr res,.inl rfl,?_⟩;rw[condT (by rw[decide_eq_true_eq];omega)];exact K
   ·refine⟨_,.inr ⟨_,rfl,div24 hv h1 h1' h0 hu hu1 K p (r+v1) e' k1 (by omega) (by omega)⟩,?_⟩;rw[condF (by rw[decide_eq_false_iff_not];omega)]
  have go_on:∀{st:kcj}{o:kcj⊕kbz},(o=Sum.inr res∨∃st,o=.inl st∧Iter kdw st res)→kdw st=some o→Iter kdw st res:=by
   intro st o h e;rcases h with rfl | ⟨st',rfl,it⟩
   ·exact .done e
   ·exact .next e it
  by_cases c1:4294967296≤q
  ·obtain⟨o,k1,k2⟩:=less (.inl c1);refine go_on k1 ?_;show keq _ _ _ _ _ _ _ _ _=_;unfold keq;rw[condT (by rw[decide_eq_true_eq];omega)];exact k2
  ·have m1:q*v0≤4294967295*4294967295:=Nat.mul_le_mul (by omega) (by omega)
   have w3:IntKind.wrap .u64 ((q:Int)*(v0:Int))=((q*v0:Nat):Int):=by
    rw[← Int.natCast_mul];exact kes (by omega)
   have w4:IntKind.wrap .u64 ((IntKind.wrap .u64 (4294967296*(r:Int)))+(u1:Int))=((4294967296*r+u1:Nat):Int):=by
    rw[wrapU,wrapU];omega
   by_cases c2:4294967296*r+u1<q*v0
   ·obtain⟨o,k1,k2⟩:=less (.inr c2);refine go_on k1 ?_;show keq _ _ _ _ _ _ _ _ _=_;unfold keq;rw[condF (by rw[decide_eq_false_iff_not];omega),w3,w4,condT (by rw[decide_eq_true_eq];omega)];exact k2
   ·have:=kn_lo hv hu rfl e hge (by omega);rw[this]at K;refine .done ?_;show keq _ _ _ _ _ _ _ _ _=_;unfold keq;rw[condF (by rw[decide_eq_false_iff_not];omega),w3,w4,condF (by rw[decide_eq_false_iff_not];omega)];exact K
termination_by q=>q
end Go.Ab

/- squeezed -/
set_option maxRecDepth 10000
namespace Go.Ab
open Go.Proofs Go.Num
theorem k5t{hi lo y s:Nat}(hy:y*2^s<18446744073709551616)(hlo:lo<18446744073709551616)(hhi:hi<y)(hs:s≤63) :
  hi*2^s+lo/2^(64-s)<y*2^s∧(hi*2^s+lo/2^(64-s))*18446744073709551616+lo*2^s%18446744073709551616=(hi*18446744073709551616+lo)*2^s∧lo/2^(64-s)<2^s∧hi*2^s<18446744073709551616:=by
 have p:0<2^s:=Nat.pow_pos (by decide);have e:2^(64-s)*2^s=18446744073709551616:=by rw[← Nat.pow_add,show 64-s+s=64 from by omega]
 have k1:lo/2^(64-s)<2^s:=by
  rw[Nat.div_lt_iff_lt_mul (Nat.pow_pos (by decide)),Nat.mul_comm,e];exact hlo
 have k2:(hi+1)*2^s≤y*2^s:=Nat.mul_le_mul_right _ hhi;rw[Nat.add_mul,Nat.one_mul]at k2;refine⟨by omega,?_,k1,by omega⟩
 have k3:lo*2^s/18446744073709551616=lo/2^(64-s):=by
  rw[← e,Nat.mul_div_mul_right _ _ p]
 have k4:=Nat.div_add_mod (lo*2^s) 18446744073709551616;rw[k3]at k4;have k5:hi*18446744073709551616*2^s=hi*2^s*18446744073709551616:=Nat.mul_right_comm _ _ _;rw[Nat.add_mul,Nat.add_mul,k5];omega
theorem k26{z1 z2:Nat}(h:z1*4294967296+z2<18446744073709551616):IntKind.wrap .u64 ((IntKind.wrap .u64 ((z1:Int)*4294967296))+(z2:Int))=((z1*4294967296+z2:Nat):Int):=by
 rw[wrapU,wrapU];omega
theorem k72{hi lo y:Nat}(hy:y<18446744073709551616)(hlo:lo<18446744073709551616)(hhi:hi<y) :
  Iter kdw (.fn hi lo y) ((((hi*18446744073709551616+lo)/y:Nat):Int),(((hi*18446744073709551616+lo)%y:Nat):Int)):=by
 refine .next (s':=.p3 hi lo y) ?_ ?_
 ·show kja _ _ _=_;unfold kja;rw[condF (by rw[decide_eq_false_iff_not];omega)]
 by_cases h0:hi=0
 ·subst h0;refine .done ?_;show kf2 _ _ _=_;unfold kf2;have hd:=Nat.div_le_self lo y;rw[condF (by rw[decide_eq_false_iff_not];omega),condT (by rfl),condF (by rw[decide_eq_false_iff_not];omega),condF (by rw[decide_eq_false_iff_not];omega),kqn,kbbq,kes (by omega),Nat.zero_mul,Nat.zero_add]
 obtain⟨hs,hb1,hb2⟩:=kv8 hy (by omega);have hs64:64-bl y≤64:=by omega
 obtain⟨p1,p2,p3,p4⟩:=k5t hb2 hlo hhi hs;have ws:IntKind.wrap .u64 ((64-bl (Int.toNat (y:Int)):Nat):Int)=((64-bl y:Nat):Int):=by rw[Int.toNat_natCast];exact kes (by omega)
 have wt:IntKind.wrap .u64 (64-((64-bl y:Nat):Int))=((64-(64-bl y):Nat):Int):=by rw[wrapU];omega
 generalize hsd:64-bl y=s at *
 have ey:ishl .u64 (y:Int) (s:Int)=((y*2^s:Nat):Int):=by rw[kji _ _ hs64,Nat.mod_eq_of_lt hb2]
 have eh:ishl .u64 (hi:Int) (s:Int)=((hi*2^s:Nat):Int):=by rw[kji _ _ hs64,Nat.mod_eq_of_lt p4]
 have el:ishl .u64 (lo:Int) (s:Int)=((lo*2^s%18446744073709551616:Nat):Int):=kji _ _ hs64;have er:ishr .u64 (lo:Int) ((64-s:Nat):Int)=((lo/2^(64-s):Nat):Int):=by rw[kcg,Nat.min_eq_left (by omega)]
 have eo:=kn1 p4 p3 hs64;generalize hu32:hi*2^s+lo/2^(64-s)=u32 at *
 have hl10:=Nat.mod_lt (lo*2^s) (show 0<18446744073709551616 by omega);generalize hl:lo*2^s%18446744073709551616=l10 at *
 generalize hv:y*2^s=v at *
 have e32:∀x:Nat,ishr .u64 (x:Int) 32=((x/4294967296:Nat):Int):=fun x=>kcg x 32;have tot:u32*18446744073709551616+l10=(u32*4294967296+l10/4294967296)*4294967296+l10%4294967296:=by omega
 have hvv:v=v/4294967296*4294967296+v%4294967296:=by omega
 have hv0:0<v:=by omega
 have hv1:0<v/4294967296:=by omega
 have hv1':v/4294967296<4294967296:=by omega
 have hm0:v%4294967296<4294967296:=by omega
 have hu1:l10/4294967296<4294967296:=by omega
 have hu0:l10%4294967296<4294967296:=by omega
 have first:u32/(v/4294967296)<8589934592:=by
  rw[Nat.div_lt_iff_lt_mul hv1];omega
 have hm:=Nat.mod_lt (u32*4294967296+l10/4294967296) hv0
 have first2:(u32*4294967296+l10/4294967296)%v/(v/4294967296)<8589934592:=by
  rw[Nat.div_lt_iff_lt_mul hv1];omega
 have td:=kbb3 (w:=u32*4294967296+l10/4294967296) hv0 hu0;rw[← tot,p2]at td;have p:=Nat.pow_pos (a:=2) (n:=s) (by decide);rw[← hv,Nat.mul_div_mul_right _ _ p,Nat.mul_mod_mul_right,hv]at td;refine .next (s':=.p17 v s (v/4294967296:Nat) (v%4294967296:Nat) u32 (l10/4294967296:Nat) (l10%4294967296:Nat) (u32/(v/4294967296):Nat) (u32%(v/4294967296):Nat)) ?_ ?_
 ·show kf2 _ _ _=_;unfold kf2
  rw[condF (by rw[decide_eq_false_iff_not];omega),condF (by rw[decide_eq_false_iff_not];omega),kbq (by omega),Option.bind_some,ws,wt,ey,eh,el,er,eo,e32,e32,ki2 (show v<_ by omega),ki2 (show l10<_ by omega),
   condF (by rw[decide_eq_false_iff_not];omega),condF (by rw[decide_eq_false_iff_not];omega),condF (by rw[decide_eq_false_iff_not];omega),condF (by rw[decide_eq_false_iff_not];omega),condF (by rw[decide_eq_false_iff_not];omega),kqn]
  have d1:=Nat.div_add_mod u32 (v/4294967296);have d2:=Nat.div_le_self u32 (v/4294967296);rw[Nat.mul_comm]at d1;rw[kes (n:=u32/(v/4294967296)) (by omega),← Int.natCast_mul];generalize u32/(v/4294967296)*(v/4294967296)=z at *
  generalize u32%(v/4294967296)=z2 at *
  rw[kes (n:=z) (by omega),show(u32:Int)-(z:Int)=(z2:Int)from by omega,kes (by omega)]
 ·refine div17 hvv hv1 hv1' hm0 p1 hu1 ?_ _ _ (by rw[Nat.mul_comm];exact Nat.div_add_mod _ _) (kul hv1 hvv p1 hu1 rfl (by omega)) (Nat.lt_trans (Nat.mod_lt _ hv1) hv1') first
  rw[k59 rfl hv0 (by omega) hv1];refine div24 hvv hv1 hv1' hm0 hm hu0 ?_ _ _ (by rw[Nat.mul_comm];exact Nat.div_add_mod _ _) (kul hv1 hvv hm hu0 rfl (by omega)) (Nat.lt_trans (Nat.mod_lt _ hv1) hv1') first2;unfold fin24;rw[condF (by rw[decide_eq_false_iff_not];omega),un_eq rfl hv0 (by omega),← td.2,kcg,Nat.min_eq_left hs64,Nat.mul_div_cancel _ p]
  have hq:(hi*18446744073709551616+lo)/y<18446744073709551616:=by
   rw[Nat.div_lt_iff_lt_mul (by omega)];have:(hi+1)*18446744073709551616≤y*18446744073709551616:=Nat.mul_le_mul_right _ hhi;omega
  have w:IntKind.wrap .u64 ((IntKind.wrap .u64 ((((u32*4294967296+l10/4294967296)/v:Nat):Int)*4294967296))+((((u32*4294967296+l10/4294967296)%v*4294967296+l10%4294967296)/v:Nat):Int))=(((hi*18446744073709551616+lo)/y:Nat):Int):=by
   rw[td.1]at hq⊢;exact k26 hq
  rw[w]
theorem k9t{hi lo y:Nat}(hy:y<18446744073709551616)(hlo:lo<18446744073709551616)(hhi:hi<y){h:AH}:∃h',go (.fn F.kbx [.int .u64 (hi:Int),.int .u64 (lo:Int),.int .u64 (y:Int)]) h=some (.tup [.int .u64 (((hi*18446744073709551616+lo)/y:Nat):Int),.int .u64 (((hi*18446744073709551616+lo)%y:Nat):Int)],h')∧Grow h h':=by
 obtain⟨_,h',e,rfl,g⟩:=k6l (k72 hy hlo hhi) (h:=h);exact⟨h',e,g⟩
end Go.Ab

/- squeezed -/
set_option maxRecDepth 10000
namespace Go.Ab
open Go.Proofs Go.Num
def div64P(h l d:Int):Option (Int×Int):=if 0≤l∧l<18446744073709551616∧0≤h∧h<d∧d<18446744073709551616 then some ((h*18446744073709551616+l)/d,(h*18446744073709551616+l)%d)else none
theorem kvr{hi lo y:Nat}(hy:y<18446744073709551616)(hlo:lo<18446744073709551616)(hhi:hi<y):div64P (hi:Int) (lo:Int) (y:Int)=some ((((hi*18446744073709551616+lo)/y:Nat):Int),(((hi*18446744073709551616+lo)%y:Nat):Int)):=by
 unfold div64P;rw[if_pos (by omega)];rfl
theorem ksb{a b c:Int}{p:Int×Int}{h:AH}(q:div64P a b c=some p):∃h',go (.fn F.kbx [.int .u64 a,.int .u64 b,.int .u64 c]) h=some (.tup [.int .u64 p.1,.int .u64 p.2],h')∧Grow h h':=by
 unfold div64P at q;split at q
 ·rename_i hc;cases q;obtain⟨hi,rfl⟩:∃x:Nat,a=(x:Int):=⟨a.toNat,by omega⟩;obtain⟨lo,rfl⟩:∃x:Nat,b=(x:Int):=⟨b.toNat,by omega⟩;obtain⟨y,rfl⟩:∃x:Nat,c=(x:Int):=⟨c.toNat,by omega⟩;exact k9t (by omega) (by omega) (by omega)
 ·cases q
end Go.Ab
