/- squeezed -/
import Derived.Test.YtnoegamaadakpaaGreatDoorU1
import Derived.Test.YtnoegamaadakpaaGreatDoorPAbsS
set_option linter.unusedVariables false
set_option linter.unusedSimpArgs false
set_option linter.unusedSectionVars false

set_option maxRecDepth 10000
namespace Go.Ab
open Go.Proofs Go.Num
@[reducible] def B:Nat:=18446744073709551616
theorem B2:2≤B:=by decide
def rt(xs:List Nat):Bool:=decide (xs.length≤64)&&(decide (xs.length=0)||!decide (xs.getD (xs.length-1) 0=0))
theorem kbi{xs:List Nat}{i:Nat}(h:i<xs.length):xs.getD i 0=xs[i]:=by simp[List.getD,h]
theorem rt_iff{xs:List Nat}:rt xs=true↔xs.length≤64∧Trim xs:=by
 unfold rt Trim;simp only[Bool.and_eq_true,decide_eq_true_eq,Bool.or_eq_true,Bool.not_eq_true',decide_eq_false_iff_not,List.length_eq_zero_iff];refine and_congr_right fun _=>?_;constructor
 ·rintro (h | h) hne
  ·exact absurd h hne
  ·rwa[List.getLast_eq_getElem,← kbi]
 ·intro h;by_cases he:xs=[]
  ·exact .inl he
  ·right
   have:=h he;rwa[List.getLast_eq_getElem,← kbi]at this
theorem Nats.last{h:AH}{s:Sl}{xs:List Nat}(n:Nats h s xs)(hx:xs.length≠0):∃r,idx s.ref s.len (IntKind.wrap .i64 ((s.len:Int)-1)) 1=some r∧h.cell r=some (.int .u64 ((xs.getD (xs.length-1) 0:Nat):Int)):=by
 obtain⟨k,hk⟩:∃k,xs.length=k+1:=⟨xs.length-1,by omega⟩;have hs:=n.short;obtain⟨r,e1,e2⟩:=n.at (i:=k) (by omega);rw[n.len,hk]at e1⊢;rw[kl9 (by omega)];refine⟨r,e1,?_⟩;rw[e2,show k+1-1=k from rfl,kbi (by omega)]
theorem kck{h:AH}{s:Sl}{xs:List Nat}(n:Nats h s xs):go (.fn F.kcc [s.v]) h=some (.bool (rt xs),h):=by
 rw[k8e];have hl:=n.len;refine kb9 (fun h1=>?_) (fun h1=>?_)
 ·have h1:xs.length≤64:=by rw[decide_eq_true_eq]at h1;omega
  refine kb9 (fun h2=>?_) (fun h2=>?_)
  ·have h2:xs.length=0:=by rw[decide_eq_true_eq]at h2;omega
   simp[rt,h2]
  ·have h2:xs.length≠0:=by rw[decide_eq_false_iff_not]at h2;omega
   obtain⟨r,e1,e2⟩:=n.last h2;simp[e1,e2,rt,h1];cases xs
   ·simp at h2
   ·simp
 ·have h1:¬xs.length≤64:=by rw[decide_eq_false_iff_not]at h1;omega
  simp[rt,h1]
theorem ko8{h:AH}{s:Sl}{xs:List Nat}(n:Nats h s xs):go (.fn F.ki0 [s.v]) h=some (.bool (rt xs),h):=by
 rw[kbbs];have hl:=n.len;refine kb9 (fun h1=>?_) (fun h1=>?_)
 ·have h1:xs.length≤64:=by rw[decide_eq_true_eq]at h1;omega
  refine kb9 (fun h2=>?_) (fun h2=>?_)
  ·have h2:xs.length=0:=by rw[decide_eq_true_eq]at h2;omega
   simp[rt,h2]
  ·have h2:xs.length≠0:=by rw[decide_eq_false_iff_not]at h2;omega
   obtain⟨r,e1,e2⟩:=n.last h2;simp[e1,e2,rt,h1];cases xs
   ·simp at h2
   ·simp
 ·have h1:¬xs.length≤64:=by rw[decide_eq_false_iff_not]at h1;omega
  simp[rt,h1]
theorem kya{h:AH}{s:Sl}{xs:List Nat}(n:Nats h s xs):∀(k:Nat),k≤xs.length→(∀i,k≤i→(hi:i<xs.length)→xs[i]=0)→
  ∃s',go (.pt F.kbk Td.klx [(0,s.v),(3,.int .i64 (k:Int))]) h=some (s'.v,h)∧Nats h s' (digs B (num B xs))∧∀h0,Own h0 s→Own h0 s'
 | 0,hk,hz=>by
  rw[knj];obtain⟨s',e1,e2,e3⟩:=n.cut (l:=0) (n:=0) (Nat.le_refl _) hk;have:=kj5 B2 n.lt hz hk (.inl rfl);simp at e1;simp only[Int.natCast_zero,gt_iff_lt,Int.lt_irrefl,decide_false,cond_false,e1,Option.bind_some];refine⟨s',rfl,?_,e3⟩;rw[← this]
  simpa using e2
 | k+1,hk,hz=>by
  rw[knj];obtain⟨r,e1,e2⟩:=n.at (i:=k) (by omega);have hs:=n.short;rw[kl9 (by omega)];rw[show(decide (((k+1:Nat):Int)>0))=true from by rw[decide_eq_true_eq];omega];simp only[cond_true,e1,e2,Option.bind_some,kc];by_cases hx:xs[k]=0
  ·rw[hx,show(decide (((0:Nat):Int)=0))=true from rfl,cond_true];refine kya n k (by omega) fun i hi hil=>?_;rcases Nat.lt_or_ge k i with h1 | h1
   ·exact hz i (by omega) hil
   ·have:i=k:=by omega
    subst this;exact hx
  ·obtain⟨s',e3,e4,e5⟩:=n.cut (l:=0) (n:=k+1) (by omega) hk;have ht:=kj5 B2 n.lt hz hk (.inr ⟨by omega,by simpa using hx⟩);rw[show(decide (((xs[k]:Nat):Int)=0))=false from by rw[decide_eq_false_iff_not];omega];simp only[cond_false];rw[show cutSl s 0 ((k+1:Nat):Int) 1=some s' from e3];refine⟨s',rfl,?_,e5⟩;rw[← ht]
   simpa using e4
theorem kdw{h:AH}{s:Sl}{xs:List Nat}(n:Nats h s xs):∃s',go (.fn F.kbk [s.v]) h=some (s'.v,h)∧Nats h s' (digs B (num B xs))∧∀h0,Own h0 s→Own h0 s':=by
 rw[ksy,n.len];exact kya n xs.length (Nat.le_refl _) fun i h1 h2=>by omega
end Go.Ab

/- squeezed -/
set_option maxRecDepth 10000
namespace Go.Ab
open Go.Proofs Go.Num
theorem ks9{n:Nat}(h:n≤8796093022208):growOk Pg n T.kf 1=true:=by
 unfold growOk;rw[kbav,kc2];have h1:n*8≤kx:=by simp only[kx];omega
 have h2:n≤kx:=by simp only[kx];omega
 simp[h1,h2]
theorem kjn{h:AH}{s:Sl}{xs:List Nat}(n:Nats h s xs)(hl:xs.length≤8796093022208):∃s' h',go (.fn F.kgo [s.v]) h=some (s'.v,h')∧Nats h' s' xs∧Grow h h'∧Own h s':=by
 rw[kbf4];cases hr:s.ref with
 | none =>
  have:xs=[]:=by
   cases xs with
   | nil=>rfl
   | cons x xs =>
    obtain⟨r,e1,_⟩:=n.cells.get 0 (u64 x) rfl;rw[hr]at e1;cases e1
  subst this;exact⟨_,_,rfl,Nats.nil h,Grow.refl h,Own.nil h⟩
 | some r =>
  simp only[Option.isNone_some,cond_false,kca];have n1:=n.grow (Grow.push h (.cells [] T.kf));have c1:=n1.cells;rw[← kja]at c1;rw[kkp c1,n.len];simp only[Option.bind_some];have own:∀(m:Nat)(c:Cap),Own h ⟨some (.new h.blks.size 0),m,c⟩:=fun m c r hr=>by cases hr;exact⟨_,_,rfl,Nat.le_refl _⟩
  cases xs with
  | nil =>
   obtain⟨s',e1,e2,e3⟩:=kz0 (P:=Pg) (elem:=T.kf) (m:=1) (by omega) (Cells.of_has (n:=1) (m:=0) (AH.has_push h [] T.kf) rfl);simp only[List.map_nil,List.length_nil,e1,Option.bind_some,asSl_v];exact⟨s',_,rfl,⟨e2,by simp,by simp⟩,Grow.push _ _,e3 h (own 0 (.is 0))⟩
  | cons x xs =>
   rw[kjt (c:=0) rfl (by simp) (ks9 (by simpa using hl)) (Cells.of_has (n:=1) (m:=0) (AH.has_push h [] T.kf) rfl)];simp only[Option.bind_some,asSl_v];refine⟨_,_,rfl,⟨⟨rfl,by simp,fun i v hv=>⟨_,rfl,by rw[Ref.add_new,Nat.zero_add,AH.cell_push];exact hv⟩⟩,n.lt,n.short⟩,(Grow.push _ _).trans (Grow.push _ _),fun r hr=>?_⟩;cases hr;exact⟨_,_,rfl,by simp⟩
def fromI(neg:Bool)(xs:List Nat):Bool×List Nat:=if rt xs=true∧xs≠[]then(neg,xs)else(false,[])
@[reducible] def nilI:List AV:=[.bool false,(⟨none,0,.is 0⟩:Sl).v]
theorem kb1{h:AH}{s:Sl}{xs:List Nat}(n:Nats h s xs)(neg:Bool):∃(s':Sl)(h':AH),go (.fn F.kbl [.bool neg,s.v]) h=some (.agg [.bool (fromI neg xs).1,s'.v],h')∧Nats h' s' (fromI neg xs).2∧Grow h h'∧Own h s':=by
 rw[k7u];simp only[kca];have b0:=AH.has_push h nilI T.kn;have g0:=Grow.push h (.cells nilI T.kn);have n0:=n.grow g0;rw[kck n0];simp only[Option.bind_some,kdg,Ref.add_new,Nat.zero_add];generalize h.push (.cells nilI T.kn)=h0 at *
 cases hrt:rt xs with
 | false =>
  rw[show fromI neg xs=(false,[])from by simp[fromI,hrt]];refine⟨⟨none,0,.is 0⟩,h0.upd h.blks.size nilI T.kn,?_,Nats.nil _,g0.upd (Nat.le_refl _) _ _,Own.nil h⟩;simp[b0.puts_all,AH.cell_upd b0]
 | true =>
  by_cases hx:xs=[]
  ·rw[show fromI neg xs=(false,[])from by simp[fromI,hx]];have:s.len=0:=by rw[n.len,hx];rfl
   refine⟨⟨none,0,.is 0⟩,h0.upd h.blks.size nilI T.kn,?_,Nats.nil _,g0.upd (Nat.le_refl _) _ _,Own.nil h⟩;simp[b0.puts_all,AH.cell_upd b0,this]
  ·rw[show fromI neg xs=(neg,xs)from by simp[fromI,hx,hrt]];have:s.len≠0:=by rw[n.len];simpa using hx
   have h64:=(rt_iff.1 hrt).1;obtain⟨s',h',e1,e2,e3,e4⟩:=kjn n0 (by omega);have b1:=e3.has b0;refine⟨s',h'.upd h.blks.size [.bool neg,s'.v] T.kn,?_,?_,(g0.trans e3).upd (Nat.le_refl _) _ _,fun r hr=>?_⟩
   ·simp[e1,b1.puts_all,AH.cell_upd b1,this]
   ·exact e2.upd e4 b0.lt _ _
   ·exact e4.of_le g0 r hr
theorem k1h{h:AH}{x:Nat}(hx:x<B):∃(s':Sl)(h':AH),go (.fn F.kf5 [.int .u64 (x:Int)]) h=some (s'.v,h')∧Nats h' s' (digs B x)∧Grow h h'∧Own h s':=by
 rw[kbcj];simp only[kca];have n0:Nats (h.push (.cells [u64 x] T.kf)) ⟨some (.new h.blks.size 0),1,.is 1⟩ [x]:=⟨Cells.of_has (AH.has_push h [u64 x] T.kf) rfl,by simpa using hx,by simp⟩;obtain⟨s',e1,e2,e3⟩:=kdw n0;rw[e1];simp only[Option.bind_some,asSl_v];refine⟨s',_,rfl,by simpa[num]using e2,Grow.push _ _,e3 h fun r hr=>by cases hr;exact⟨_,_,rfl,Nat.le_refl _⟩⟩
def ofI(n:Int):Bool×List Nat:=fromI (decide (n<0)) (digs B n.natAbs)
theorem k8p{h:AH}{n:Int}(h1:-9223372036854775808≤n)(h2:n≤9223372036854775807):∃(s':Sl)(h':AH),go (.fn F.kn3 [.int .i64 n]) h=some (.agg [.bool (ofI n).1,s'.v],h')∧Nats h' s' (ofI n).2∧Grow h h'∧Own h s':=by
 rw[k24];simp only[kca];have b0:=AH.has_push h nilI T.kn;have g0:=Grow.push h (.cells nilI T.kn);generalize h.push (.cells nilI T.kn)=h0 at *
 have key:∀(neg:Bool)(x:Nat),x<B→fromI neg (digs B x)=ofI n→∃(s':Sl)(h':AH),
   ((go (.fn F.kf5 [.int .u64 (x:Int)]) h0).bind fun q3 =>
    ((some q3.1).bind AV.asSl).bind fun l4 =>
    (go (.fn F.kbl [.bool neg,l4.v]) q3.2).bind fun q5 =>
    (AV.asAgg q5.1).bind fun cs6 =>
    cond (Nat.beq cs6.length 2) (
    ((cs6[0]?).bind AV.asBool).bind fun b7 =>
    ((cs6[1]?).bind AV.asSl).bind fun l8 =>
    (q5.2.puts (.new h.blks.size 0) [.bool b7,l8.v]).bind fun h9 =>
    ((h9.cell ((Ref.new h.blks.size 0).add 0)).bind AV.asBool).bind fun b10 =>
    ((h9.cell ((Ref.new h.blks.size 0).add 1)).bind AV.asSl).bind fun l11 =>
    some (AV.agg [.bool b10,l11.v],h9)) none)=some (AV.agg [.bool (ofI n).1,s'.v],h')∧Nats h' s' (ofI n).2∧Grow h h'∧Own h s':=by
  intro neg x hx he;obtain⟨s1,hh1,e1,n1,g1,o1⟩:=k1h (h:=h0) hx;obtain⟨s2,hh2,e2,n2,g2,o2⟩:=kb1 n1 neg;rw[he]at e2 n2;have b2:=(g1.trans g2).has b0;refine⟨s2,hh2.upd h.blks.size [.bool (ofI n).1,s2.v] T.kn,?_,n2.upd o2 (g1.has b0).lt _ _,(g0.trans (g1.trans g2)).upd (Nat.le_refl _) _ _,o2.of_le (g0.trans g1)⟩;simp[e1,e2,b2.puts_all,AH.cell_upd b2]
 by_cases hn:n<0
 ·rw[show decide (n<0)=true from decide_eq_true hn,cond_true]
  have hx:IntKind.wrap .u64 (0-IntKind.wrap .u64 n)=((n.natAbs:Nat):Int):=by
   rw[wrapU,wrapU];omega
  rw[hx];exact key true n.natAbs (by show _<18446744073709551616;omega) (by simp[ofI,hn])
 ·rw[show decide (n<0)=false from decide_eq_false hn,cond_false]
  have hx:IntKind.wrap .u64 n=((n.natAbs:Nat):Int):=by
   rw[wrapU];omega
  rw[hx];exact key false n.natAbs (by show _<18446744073709551616;omega) (by simp[ofI,hn])
end Go.Ab

/- squeezed -/
set_option maxRecDepth 10000
namespace Go.Ab
open Go.Proofs Go.Num
def rtI(neg:Bool)(xs:List Nat):Bool:=rt xs&&(!neg||decide (xs≠[]))
theorem kwn{h:AH}{s:Sl}{xs:List Nat}(n:Nats h s xs)(neg:Bool):∃h',go (.fn F.koj [.agg [.bool neg,s.v]]) h=some (.bool (rtI neg xs),h')∧Grow h h':=by
 rw[k58];simp only[kca];have b0:=AH.has_push h [.bool neg,s.v] T.kn;have g0:=Grow.push h (.cells [.bool neg,s.v] T.kn);have n0:=n.grow g0;have hl:=n.len;generalize h.push (.cells [.bool neg,s.v] T.kn)=h0 at *
 refine⟨h0,?_,g0⟩;simp[b0.cell,kck n0,rtI];cases rt xs<;>cases neg<;>simp[hl];cases xs<;>simp
theorem k0o{h:AH}{s t:Sl}{xs:List Nat}(n:Nats h s xs)(m:Nats h t xs):∀(k i:Nat),i+k=xs.length→
  go (.pt F.khu Td.koh [(0,s.v),(1,t.v),(5,.int .i64 (i:Int))]) h=some (.bool true,h)
 | 0,i,hi=>by
  rw[k1p,n.len,show decide ((i:Int)<(xs.length:Int))=false from by rw[decide_eq_false_iff_not];omega];rfl
 | k+1,i,hi=>by
  have hs:=n.short;obtain⟨r,e1,e2⟩:=n.at (i:=i) (by omega);obtain⟨q,e3,e4⟩:=m.at (i:=i) (by omega);rw[k1p,show decide ((i:Int)<(s.len:Int))=true from by rw[decide_eq_true_eq,n.len];omega,cond_true,e1,e3];simp only[Option.bind_some,e2,e4,kc,decide_true,Bool.not_true,cond_false];rw[ki (by omega)];exact k0o n m k (i+1) (by omega)
theorem kbfl{h:AH}{s t:Sl}{xs:List Nat}(n:Nats h s xs)(m:Nats h t xs):go (.fn F.khu [s.v,t.v]) h=some (.bool true,h):=by
 rw[k5v,n.len,m.len];simp only[decide_true,Bool.not_true,cond_false];exact k0o n m xs.length 0 (by omega)
end Go.Ab

/- squeezed -/
set_option maxRecDepth 10000
namespace Go.Ab
open Go.Proofs Go.Num
structure Rows(h:AH)(s:Sl)(rows:List (Sl×List Nat)):Prop where
 cells:Cells h s 1 (rows.map fun p=>p.1.v)
 each:∀p∈rows,Nats h p.1 p.2
 short:rows.length≤9223372036854775807
theorem Rows.len{h:AH}{s:Sl}{rows:List (Sl×List Nat)}(n:Rows h s rows):s.len=rows.length:=by
 have:=n.cells.len
 simpa using this
theorem Rows.at{h:AH}{s:Sl}{rows:List (Sl×List Nat)}(n:Rows h s rows){i:Nat}(hi:i<rows.length):∃r,idx s.ref s.len (i:Int) 1=some r∧h.cell r=some (rows[i].1).v:=by
 obtain⟨r,e1,e2⟩:=n.cells.get i (rows[i].1).v (by simp[hi]);refine⟨r.add i,?_,e2⟩;rw[e1,kem _ _ _ _ (by omega) (by rw[n.len];omega)];simp
theorem Rows.two{h:AH}{a b:Sl}{xs ys:List Nat}(n:Nats h a xs)(m:Nats h b ys):Rows (h.push (.cells [a.v,b.v] T.ko)) ⟨some (.new h.blks.size 0),2,.is 2⟩ [(a,xs),(b,ys)]:=by
 refine⟨Cells.of_has (AH.has_push _ _ _) rfl,fun p hp=>?_,by simp⟩;have g:=Grow.push h (.cells [a.v,b.v] T.ko);simp at hp;rcases hp with rfl | rfl
 ·exact n.grow g
 ·exact m.grow g
theorem kbfh{h:AH}{cs:List AV}(a:ArgT Pg h T.ko cs):∃(s:Sl)(xs:List Nat),cs=[s.v]∧Nats h s xs:=by
 rcases a.slice k0v with rfl | ⟨ad,len,cap,rfl,h1,h2,h3⟩
 ·exact⟨⟨none,0,.is 0⟩,[],rfl,Nats.nil h⟩
 ·rw[kja]at h3
  have key:∀i,i<len→∃x:Nat,h.cell (.old (ad.add i))=some (u64 x)∧x<18446744073709551616:=by
   intro i hi;obtain⟨es,e1,e2⟩:=h3 i hi;obtain⟨x,rfl,hw⟩:=e2.int kui;rw[Nat.mul_one]at e1
   have hx:0≤x∧x<18446744073709551616:=by
    have:0≤x∧x≤18446744073709551615:=by simpa[Lit.wf,IntKind.has,IntKind.min,IntKind.max,IntKind.bits,IntKind.signed]using hw
    omega
   refine⟨x.toNat,?_,by omega⟩;show _=some (AV.int .u64 ((x.toNat:Nat):Int));rw[show((x.toNat:Nat):Int)=x from by omega];simp only[AH.gets,Option.bind_eq_some_iff,Option.map_eq_some_iff]at e1;obtain⟨v,e3,l,e4,e5⟩:=e1;simp only[List.cons.injEq]at e5;rw[e3,e5.1]
  have mk:∀n,n≤len→∃xs:List Nat,xs.length=n∧∀(i:Nat)(hi:i<xs.length),h.cell (.old (ad.add i))=some (u64 xs[i])∧xs[i]<18446744073709551616:=by
   intro n
   induction n with
   | zero=>exact fun _=>⟨[],rfl,fun i hi=>by simp at hi⟩
   | succ n ih =>
    intro hn;obtain⟨xs,hl,hx⟩:=ih (by omega);obtain⟨x,k1,k2⟩:=key n (by omega);refine⟨xs++[x],by simp[hl],fun i hi=>?_⟩;simp only[List.length_append,List.length_singleton]at hi;by_cases hin:i<xs.length
    ·rw[List.getElem_append_left hin];exact hx i hin
    ·have:i=n:=by omega
     subst this;rw[List.getElem_append_right (by omega)];simp only[hl,Nat.sub_self,List.getElem_singleton];exact⟨k1,k2⟩
  obtain⟨xs,hl,hx⟩:=mk len (Nat.le_refl _);refine⟨⟨some (.old ad),len,.is cap⟩,xs,rfl,⟨⟨h1,by simp[hl],fun i v hv=>?_⟩,fun x hx'=>?_,?_⟩⟩
  ·rw[List.getElem?_map,Option.map_eq_some_iff]at hv;obtain⟨x,e1,rfl⟩:=hv;obtain⟨hi,rfl⟩:=List.getElem?_eq_some_iff.1 e1;exact⟨_,rfl,(hx i hi).1⟩
  ·obtain⟨i,hi,rfl⟩:=List.getElem_of_mem hx';exact(hx i hi).2
  ·have:maxLen=9223372036854775807:=by decide
   omega
end Go.Ab

/- squeezed -/
set_option maxRecDepth 10000
namespace Go.Ab
open Go.Proofs Go.Num
theorem kz5{b:Nat}(hb:1≤b){xs:List Nat}(hx:∀x∈xs,x<b){k:Nat}(hk:k≤xs.length):num b (xs.take k)<b^k:=by
 have:=num_lt (b:=b) hb (xs:=xs.take k) fun x h=>hx x (List.mem_of_mem_take h);rwa[List.length_take,Nat.min_eq_left hk]at this
theorem kxm{b:Nat}(hb:1≤b){xs ys:List Nat}(hx:∀x∈xs,x<b)(hy:∀x∈ys,x<b){k:Nat}(h1:k<xs.length)(h2:k<ys.length) :
  cmp (num b (xs.take (k+1))) (num b (ys.take (k+1)))=if xs[k]<ys[k]then -1 else if xs[k]=ys[k]then cmp (num b (xs.take k)) (num b (ys.take k))else 1:=by
 rw[kct b h1,kct b h2];exact k8j (kz5 hb hx (by omega)) (kz5 hb hy (by omega))
theorem kx8{b:Nat}(hb:2≤b){xs ys:List Nat}(hx:∀x∈xs,x<b)(hy:∀x∈ys,x<b)(tx:Trim xs)(ty:Trim ys)(h:xs.length≠ys.length):cmp (num b xs) (num b ys)=if xs.length<ys.length then -1 else 1:=by
 rcases Nat.lt_or_ge xs.length ys.length with h1 | h1
 ·have:=ksp hb hx hy ty h1;simp[cmp,this,h1]
 ·have:=ksp hb hy hx tx (by omega);rw[if_neg (by omega)];unfold cmp;rw[if_neg (by omega),if_neg (by omega)]
theorem kzb{h:AH}{s t:Sl}{xs ys:List Nat}(n:Nats h s xs)(m:Nats h t ys)(hl:xs.length=ys.length):∀(k:Nat),k≤xs.length→
  go (.pt F.kes Td.kqd [(0,s.v),(1,t.v),(5,.int .i64 ((k:Int)-1))]) h=some (.int .i64 (cmp (num B (xs.take k)) (num B (ys.take k))),h)
 | 0,hk=>by
  rw[k0s];rfl
 | k+1,hk=>by
  have hs:=n.short;obtain⟨r,e1,e2⟩:=n.at (i:=k) (by omega);obtain⟨q,e3,e4⟩:=m.at (i:=k) (by omega);rw[k0s,show(((k+1:Nat):Int)-1)=(k:Int)from by omega,show decide ((k:Int)≥0)=true from by rw[decide_eq_true_eq];omega];simp only[cond_true,e1,e3,e2,e4,Option.bind_some,kc];rw[kxm (by decide) n.lt m.lt (by omega) (by omega),wrap64 (n:=(k:Int)-1) (by omega) (by omega),kzb n m hl k (by omega)];by_cases h1:xs[k]=ys[k]'(by omega)
  ·rw[show decide (((xs[k]:Nat):Int)=((ys[k]'(by omega):Nat):Int))=true from by rw[decide_eq_true_eq];omega];simp[h1]
  ·rw[show decide (((xs[k]:Nat):Int)=((ys[k]'(by omega):Nat):Int))=false from by rw[decide_eq_false_iff_not];omega];by_cases h2:xs[k]<ys[k]'(by omega)
   ·rw[show decide (((xs[k]:Nat):Int)<((ys[k]'(by omega):Nat):Int))=true from by rw[decide_eq_true_eq];omega];simp[h2]
   ·rw[show decide (((xs[k]:Nat):Int)<((ys[k]'(by omega):Nat):Int))=false from by rw[decide_eq_false_iff_not];omega];simp[h1,h2]
theorem knu{h:AH}{s t:Sl}{xs ys:List Nat}(n:Nats h s xs)(m:Nats h t ys)(tx:Trim xs)(ty:Trim ys):go (.fn F.kes [s.v,t.v]) h=some (.int .i64 (cmp (num B xs) (num B ys)),h):=by
 have hs:=n.short;have ht:=m.short;rw[k3o,n.len,m.len];by_cases hl:xs.length=ys.length
 ·rw[show decide ((xs.length:Int)=(ys.length:Int))=true from by rw[decide_eq_true_eq];omega];simp only[Bool.not_true,cond_false];rw[wrap64 (by omega) (by omega),kzb n m hl xs.length (Nat.le_refl _),List.take_length,hl,List.take_length]
 ·rw[show decide ((xs.length:Int)=(ys.length:Int))=false from by rw[decide_eq_false_iff_not];omega,kx8 B2 n.lt m.lt tx ty hl];by_cases h1:xs.length<ys.length
  ·rw[show decide ((xs.length:Int)<(ys.length:Int))=true from by rw[decide_eq_true_eq];omega];simp[h1]
  ·rw[show decide ((xs.length:Int)<(ys.length:Int))=false from by rw[decide_eq_false_iff_not];omega];simp[h1]
@[reducible] def D:Nat:=65536
theorem D2:2≤D:=by decide
theorem kzy{h:AH}{s t:Sl}{xs ys:List Nat}(n:Nats h s xs)(m:Nats h t ys)(hx:∀x∈xs,x<D)(hy:∀x∈ys,x<D)(hl:xs.length=ys.length):∀(k:Nat),k≤xs.length→
  go (.pt F.kif Td.kp0 [(0,s.v),(1,t.v),(5,.int .i64 ((k:Int)-1))]) h=some (.int .i64 (cmp (num D (xs.take k)) (num D (ys.take k))),h)
 | 0,hk=>by
  rw[k1o];rfl
 | k+1,hk=>by
  have hs:=n.short;obtain⟨r,e1,e2⟩:=n.at (i:=k) (by omega);obtain⟨q,e3,e4⟩:=m.at (i:=k) (by omega);rw[k1o,show(((k+1:Nat):Int)-1)=(k:Int)from by omega,show decide ((k:Int)≥0)=true from by rw[decide_eq_true_eq];omega];simp only[cond_true,e1,e3,e2,e4,Option.bind_some,kc];rw[kxm (by decide) hx hy (by omega) (by omega),wrap64 (n:=(k:Int)-1) (by omega) (by omega),kzy n m hx hy hl k (by omega)];by_cases h2:xs[k]<ys[k]'(by omega)
  ·rw[show decide (((xs[k]:Nat):Int)<((ys[k]'(by omega):Nat):Int))=true from by rw[decide_eq_true_eq];omega];simp[h2]
  ·rw[show decide (((xs[k]:Nat):Int)<((ys[k]'(by omega):Nat):Int))=false from by rw[decide_eq_false_iff_not];omega];by_cases h1:xs[k]=ys[k]'(by omega)
   ·rw[show decide (((xs[k]:Nat):Int)>((ys[k]'(by omega):Nat):Int))=false from by rw[decide_eq_false_iff_not];omega];simp[h1]
   ·rw[show decide (((xs[k]:Nat):Int)>((ys[k]'(by omega):Nat):Int))=true from by rw[decide_eq_true_eq];omega];simp[h1,h2]
theorem kbd5{h:AH}{s t:Sl}{xs ys:List Nat}(n:Nats h s xs)(m:Nats h t ys)(hx:∀x∈xs,x<D)(hy:∀x∈ys,x<D)(tx:Trim xs)(ty:Trim ys):go (.fn F.kif [s.v,t.v]) h=some (.int .i64 (cmp (num D xs) (num D ys)),h):=by
 have hs:=n.short;have ht:=m.short;rw[k7f,n.len,m.len];by_cases hl:xs.length=ys.length
 ·rw[show decide ((xs.length:Int)=(ys.length:Int))=true from by rw[decide_eq_true_eq];omega];simp only[Bool.not_true,cond_false];rw[wrap64 (by omega) (by omega),kzy n m hx hy hl xs.length (Nat.le_refl _),List.take_length,hl,List.take_length]
 ·rw[show decide ((xs.length:Int)=(ys.length:Int))=false from by rw[decide_eq_false_iff_not];omega,kx8 D2 hx hy tx ty hl];by_cases h1:xs.length<ys.length
  ·rw[show decide ((xs.length:Int)<(ys.length:Int))=true from by rw[decide_eq_true_eq];omega];simp[h1]
  ·rw[show decide ((xs.length:Int)<(ys.length:Int))=false from by rw[decide_eq_false_iff_not];omega];simp[h1]
theorem kxy{h:AH}{s:Sl}{xs:List Nat}(n:Nats h s xs)(hx:∀x∈xs,x<D):∀(k:Nat),k≤xs.length→(∀i,k≤i→(hi:i<xs.length)→xs[i]=0)→
  ∃s',go (.pt F.kc8 Td.knb [(0,s.v),(3,.int .i64 (k:Int))]) h=some (s'.v,h)∧Nats h s' (digs D (num D xs))∧∀h0,Own h0 s→Own h0 s'
 | 0,hk,hz=>by
  rw[kwv];obtain⟨s',e1,e2,e3⟩:=n.cut (l:=0) (n:=0) (Nat.le_refl _) hk;have:=kj5 D2 hx hz hk (.inl rfl);simp at e1;simp only[Int.natCast_zero,gt_iff_lt,Int.lt_irrefl,decide_false,cond_false,e1,Option.bind_some];refine⟨s',rfl,?_,e3⟩;rw[← this]
  simpa using e2
 | k+1,hk,hz=>by
  rw[kwv];obtain⟨r,e1,e2⟩:=n.at (i:=k) (by omega);have hs:=n.short;rw[kl9 (by omega)];rw[show(decide (((k+1:Nat):Int)>0))=true from by rw[decide_eq_true_eq];omega];simp only[cond_true,e1,e2,Option.bind_some,kc];by_cases hx0:xs[k]=0
  ·rw[hx0,show(decide (((0:Nat):Int)=0))=true from rfl,cond_true];refine kxy n hx k (by omega) fun i hi hil=>?_;rcases Nat.lt_or_ge k i with h1 | h1
   ·exact hz i (by omega) hil
   ·have:i=k:=by omega
    subst this;exact hx0
  ·obtain⟨s',e3,e4,e5⟩:=n.cut (l:=0) (n:=k+1) (by omega) hk;have ht:=kj5 D2 hx hz hk (.inr ⟨by omega,by simpa using hx0⟩);rw[show(decide (((xs[k]:Nat):Int)=0))=false from by rw[decide_eq_false_iff_not];omega];simp only[cond_false];rw[show cutSl s 0 ((k+1:Nat):Int) 1=some s' from e3];refine⟨s',rfl,?_,e5⟩;rw[← ht]
   simpa using e4
theorem kjr{h:AH}{s:Sl}{xs:List Nat}(n:Nats h s xs)(hx:∀x∈xs,x<D):∃s',go (.fn F.kc8 [s.v]) h=some (s'.v,h)∧Nats h s' (digs D (num D xs))∧∀h0,Own h0 s→Own h0 s':=by
 rw[k2l,n.len];exact kxy n hx xs.length (Nat.le_refl _) fun i h1 h2=>by omega
theorem Mine.push_u64{h0 h:AH}{s:Sl}{ds:List Nat}(M:Mine h0 h s T.kf 1 (ds.map u64))(x:Nat)(hl:ds.length<8796093022208) :
  ∃s' h',kv Pg s [u64 x] 1 T.kf 1 h=some (s'.v,h')∧Mine h0 h' s' T.kf 1 ((ds++[x]).map u64):=by
 have:s.len=ds.length:=by simpa using M.cells.len
 obtain⟨s',h',e1,e2,e3,e4⟩:=M.append (n:=1) (cs:=[u64 x]) (by omega) rfl (ks9 (by rw[this];omega));exact⟨s',h',e1,by simpa using e3⟩
theorem kw2{h0:AH}{s:Sl}(i:Nat):∀(k j:Nat),j+k=4→∀{h:AH}{d:Sl}{ds:List Nat}{x:Nat},Mine h0 h d T.kf 1 (ds.map u64)→ds.length<1099511627776+j→x<B→
  ∃d' h',go (.pt F.kcr Td.kqe [(0,s.v),(3,d.v),(4,.int .i64 (i:Int)),(5,.int .u64 (x:Int)),(6,.int .i64 (j:Int))]) h =
   go (.pt F.kcr Td.kk5 [(0,s.v),(3,Sl.v d'),(4,.int .i64 (IntKind.wrap .i64 ((i:Int)+1)))]) h'∧Mine h0 h' d' T.kf 1 ((ds++(dig4 x).take k).map u64)
 | 0,j,hj,h,d,ds,x,M,hl,hx=>by
  rw[kxw,show decide ((j:Int)<4)=false from by rw[decide_eq_false_iff_not];omega];exact⟨d,h,rfl,by simpa using M⟩
 | k+1,j,hj,h,d,ds,x,M,hl,hx=>by
  rw[kxw,show decide ((j:Int)<4)=true from by rw[decide_eq_true_eq];omega,cond_true];simp only[kca];have w1:Int.tmod (x:Int) 65536=((x%65536:Nat):Int):=by rw[Int.tmod_eq_emod_of_nonneg (by omega)];omega
  have w2:IntKind.wrap .u64 (Int.tdiv (x:Int) 65536)=((x/65536:Nat):Int):=by
   rw[Int.tdiv_eq_ediv_of_nonneg (by omega),wrapU];have:x<18446744073709551616:=hx;omega
  have c:Cells (h.push (.cells [u64 (x%65536)] T.kf)) ⟨some (.new h.blks.size 0),1,.is 1⟩ (Pg.cellsOf T.kf) [u64 (x%65536)]:=by
   rw[kja];exact Cells.of_has (AH.has_push h [u64 (x%65536)] T.kf) rfl
  rw[w1,w2,kkp c];simp only[Option.bind_some];obtain⟨s',h',e1,e2⟩:=(M.grow' (Grow.push h (.cells [u64 (x%65536)] T.kf))).push_u64 (x%65536) (by omega);rw[e1];simp only[Option.bind_some,asSl_v];rw[ki (by omega)];obtain⟨d',h2,e3,e4⟩:=kw2 i k (j+1) (by omega) (x:=x/65536) e2 (by simp;omega) (by have:x<18446744073709551616:=hx;show _<18446744073709551616;omega);refine⟨d',h2,e3,?_⟩
  have:(dig4 x).take (k+1)=x%65536::(dig4 (x/65536)).take k:=by
   match k,hj with
   | 0,_=>rfl
   | 1,_=>rfl
   | 2,_=>rfl
   | 3,_=>rfl
   | k+4,hj=>omega
  rw[this]
  simpa using e4
theorem kwl{h0:AH}{s:Sl}{xs:List Nat}(n:Nats h0 s xs)(hx:xs.length≤1073741824):∀(k i:Nat),i+k=xs.length→∀{h:AH}{d:Sl},Mine h0 h d T.kf 1 (((xs.take i).flatMap dig4).map u64)→
  ∃(d':Sl)(h':AH),go (.pt F.kcr Td.kk5 [(0,s.v),(3,d.v),(4,.int .i64 (i:Int))]) h=some (d'.v,h')∧Nats h' d' (digs D (num B xs))∧Grow h0 h'∧Own h0 d'
 | 0,i,hi,h,d,M=>by
  rw[k06,n.len,show decide ((i:Int)<(xs.length:Int))=false from by rw[decide_eq_false_iff_not];omega,cond_false];rw[List.take_of_length_le (by omega)]at M
  have hlen:∀(l:List Nat),(l.flatMap dig4).length=l.length*4:=by
   intro l
   induction l with
   | nil=>rfl
   | cons a l ih=>rw[List.flatMap_cons,List.length_append,ih];simp[dig4];omega
  have hlt:∀x∈xs.flatMap dig4,x<D:=by
   intro x hxm;obtain⟨y,_,hy⟩:=List.mem_flatMap.1 hxm;simp[dig4]at hy;show x<65536;omega
  have N:Nats h d (xs.flatMap dig4):=⟨M.cells,fun x hxm=>by have:x<65536:=hlt x hxm;omega,by rw[hlen];omega⟩;obtain⟨s',e1,e2,e3⟩:=kjr N hlt;rw[e1];simp only[Option.bind_some,asSl_v];refine⟨s',h,rfl,?_,M.grow,e3 h0 M.own_of⟩;rwa[kbef (c:=B) (k:=4) (by decide) fun x hxm=>k3y (n.lt x hxm)]at e2
 | k+1,i,hi,h,d,M=>by
  have n':=n.grow M.grow;obtain⟨r,e1,e2⟩:=n'.at (i:=i) (by omega);rw[k06,show decide ((i:Int)<(s.len:Int))=true from by rw[decide_eq_true_eq,n.len];omega,cond_true,e1];simp only[Option.bind_some,e2,kc]
  have hlen:((xs.take i).flatMap dig4).length=(xs.take i).length*4:=by
   generalize xs.take i=l
   induction l with
   | nil=>rfl
   | cons a l ih=>rw[List.flatMap_cons,List.length_append,ih];simp[dig4];omega
  obtain⟨d',h',e3,e4⟩:=kw2 (s:=s) i 4 0 (by omega) (x:=xs[i]'(by omega)) M (by rw[hlen,List.length_take];omega) (n.lt _ (List.getElem_mem _));rw[show(0:Int)=((0:Nat):Int)from rfl,e3,ki (by omega)];refine kwl n hx k (i+1) (by omega) ?_;rw[List.take_succ_eq_append_getElem (by omega),List.flatMap_append]
  simpa[dig4]using e4
theorem knx{h:AH}{s:Sl}{xs:List Nat}(n:Nats h s xs)(hx:xs.length≤1073741824):∃(d':Sl)(h':AH),go (.fn F.kcr [s.v]) h=some (d'.v,h')∧Nats h' d' (digs D (num B xs))∧Grow h h'∧Own h d':=by
 rw[k7w];exact kwl n hx xs.length 0 (by omega) (Mine.nil h T.kf 1)
end Go.Ab

/- squeezed -/
set_option maxRecDepth 10000
namespace Go.Ab
open Go.Proofs Go.Num
theorem Rows.grow{h h':AH}(g:Grow h h'){s:Sl}{rows:List (Sl×List Nat)}(n:Rows h s rows):Rows h' s rows:=⟨n.cells.grow g,fun p hp=>(n.each p hp).grow g,n.short⟩
theorem kbaf{h:AH}{s:Sl}{xs:List Nat}(n:Nats h s xs):go (.fn F.kek [s.v]) h=some (.bool (!rt xs),h):=by
 rw[k5k,kck n];rfl
theorem kz6{h:AH}{s:Sl}{rows:List (Sl×List Nat)}(n:Rows h s rows):∀(k i:Nat),i+k=rows.length→
  ∃j:Int,go (.pt F.kb4 Td.keh [(0,s.v),(1,.func (.func F.kek) [] []),(7,.int .i64 (rows.length:Int)),(8,.int .i64 (i:Int))]) h=some (.int .i64 j,h)∧
   (j≥0↔(rows.drop i).all (fun p=>rt p.2)=false)
 | 0,i,hi=>by
  rw[kyw,show decide ((i:Int)<(rows.length:Int))=false from by rw[decide_eq_false_iff_not];omega,List.drop_of_length_le (by omega)];exact⟨-1,rfl,by simp⟩
 | k+1,i,hi=>by
  have hs:=n.short;obtain⟨r,e1,e2⟩:=n.at (i:=i) (by omega);have hp:=n.each rows[i] (List.getElem_mem _);rw[kyw,show decide ((i:Int)<(rows.length:Int))=true from by rw[decide_eq_true_eq];omega,cond_true,e1];simp only[Option.bind_some,e2,asSl_v,kbaf hp,kdg];rw[List.drop_eq_getElem_cons (by omega),List.all_cons,ki (by omega)];cases hr:rt (rows[i].2)with
  | false=>exact⟨(i:Int),rfl,by simp⟩
  | true =>
   obtain⟨j,e3,e4⟩:=kz6 n k (i+1) (by omega);exact⟨j,e3,by simpa using e4⟩
theorem kmf{h:AH}{s:Sl}{rows:List (Sl×List Nat)}(n:Rows h s rows):go (.fn F.kgj [s.v]) h=some (.bool (rows.all fun p=>rt p.2),h):=by
 obtain⟨j,e1,e2⟩:=kz6 n rows.length 0 (by omega);rw[k6l,kbbp,kbay,n.len];rw[show(0:Int)=((0:Nat):Int)from rfl,e1];simp only[Option.bind_some,kc,kdg];rw[List.drop_zero]at e2;cases ha:rows.all fun p=>rt p.2 with
 | false=>rw[ha]at e2;simp at e2;simp;omega
 | true=>rw[ha]at e2;simp at e2;simp;omega
def cmpN(xs ys:List Nat):Int:=if rt xs=true∧rt ys=true then cmp (num B xs) (num B ys)else 0
theorem kej{h:AH}{s t:Sl}{xs ys:List Nat}(n:Nats h s xs)(m:Nats h t ys):∃h',go (.fn F.kc5 [s.v,t.v]) h=some (.int .i64 (cmpN xs ys),h')∧Grow h h':=by
 rw[kbhc];simp only[kca];have r:=Rows.two n m;have g:=Grow.push h (.cells [s.v,t.v] T.ko);generalize h.push (.cells [s.v,t.v] T.ko)=h0 at *
 refine⟨h0,?_,g⟩;rw[kmf r];simp only[Option.bind_some,kdg,List.all_cons,List.all_nil,Bool.and_true];cases hx:rt xs with
 | false=>simp[cmpN,hx]
 | true =>
  cases hy:rt ys with
  | false=>simp[cmpN,hy]
  | true =>
   simp only[Bool.and_self,Bool.not_true,cond_false];rw[knu (n.grow g) (m.grow g) (rt_iff.1 hx).2 (rt_iff.1 hy).2];simp[cmpN,hx,hy]
structure IRows(h:AH)(s:Sl)(rows:List (Bool×Sl×List Nat)):Prop where
 cells:Cells h s 2 (rows.flatMap fun p=>[.bool p.1,p.2.1.v])
 each:∀p∈rows,Nats h p.2.1 p.2.2
 short:rows.length≤9223372036854775807
theorem IRows.grow{h h':AH}(g:Grow h h'){s:Sl}{rows:List (Bool×Sl×List Nat)}(n:IRows h s rows):IRows h' s rows:=⟨n.cells.grow g,fun p hp=>(n.each p hp).grow g,n.short⟩
theorem kxu:∀(rows:List (Bool×Sl×List Nat))(i:Nat)(hi:i<rows.length),
  (rows.flatMap fun p=>[AV.bool p.1,p.2.1.v])[i*2]?=some (AV.bool rows[i].1)∧(rows.flatMap fun p=>[AV.bool p.1,p.2.1.v])[i*2+1]?=some rows[i].2.1.v
 | [],i,hi=>by simp at hi
 | p::rows,0,hi=>by simp
 | p::rows,i+1,hi=>by
  have:=kxu rows i (by simpa using hi);rw[show(i+1)*2=i*2+2 from by omega]
  simpa using this
theorem IRows.len{h:AH}{s:Sl}{rows:List (Bool×Sl×List Nat)}(n:IRows h s rows):s.len=rows.length:=by
 have:=n.cells.len
 have hl:(rows.flatMap fun p=>[AV.bool p.1,p.2.1.v]).length=rows.length*2:=by
  generalize rows=l
  induction l with
  | nil=>rfl
  | cons a l ih=>rw[List.flatMap_cons,List.length_append,ih];simp;omega
 omega
theorem IRows.at{h:AH}{s:Sl}{rows:List (Bool×Sl×List Nat)}(n:IRows h s rows){i:Nat}(hi:i<rows.length):∃r,idx s.ref s.len (i:Int) 2=some r∧h.cell (r.add 0)=some (.bool rows[i].1)∧h.cell (r.add 1)=some rows[i].2.1.v:=by
 obtain⟨p1,p2⟩:=kxu rows i hi;obtain⟨r,e1,e2⟩:=n.cells.get _ _ p1;obtain⟨r',e3,e4⟩:=n.cells.get _ _ p2;rw[e1]at e3;cases e3;refine⟨r.add (i*2),?_,by simpa using e2,by rw[Ref.add_add];exact e4⟩;rw[e1,kem _ _ _ _ (by omega) (by rw[n.len];omega)];simp
theorem kbgp{h:AH}{s:Sl}{xs:List Nat}(n:Nats h s xs)(neg:Bool):∃h',go (.fn F.kee [.agg [.bool neg,s.v]]) h=some (.bool (!rtI neg xs),h')∧Grow h h':=by
 rw[k2w];simp only[kca];have b0:=AH.has_push h [.bool neg,s.v] T.kn;have g0:=Grow.push h (.cells [.bool neg,s.v] T.kn);generalize h.push (.cells [.bool neg,s.v] T.kn)=h0 at *
 obtain⟨h1,e1,g1⟩:=kwn (n.grow g0) neg;exact⟨h1,by simp[b0.cell,e1],g0.trans g1⟩
theorem kux{s:Sl}{rows:List (Bool×Sl×List Nat)}:∀(k i:Nat),i+k=rows.length→∀{h:AH},IRows h s rows→
  ∃(j:Int)(h':AH),go (.pt F.kiu Td.kqq [(0,s.v),(1,.func (.func F.kee) [] []),(7,.int .i64 (rows.length:Int)),(8,.int .i64 (i:Int))]) h=some (.int .i64 j,h')∧
   (j≥0↔(rows.drop i).all (fun p=>rtI p.1 p.2.2)=false)∧Grow h h'
 | 0,i,hi,h,n=>by
  rw[k1u,show decide ((i:Int)<(rows.length:Int))=false from by rw[decide_eq_false_iff_not];omega,List.drop_of_length_le (by omega)];exact⟨-1,h,rfl,by simp,Grow.refl h⟩
 | k+1,i,hi,h,n=>by
  have hs:=n.short;obtain⟨r,e1,e2,e3⟩:=n.at (i:=i) (by omega);have hp:=n.each rows[i] (List.getElem_mem _);obtain⟨h1,e4,g1⟩:=kbgp hp rows[i].1;rw[k1u,show decide ((i:Int)<(rows.length:Int))=true from by rw[decide_eq_true_eq];omega,cond_true,e1];simp only[Option.bind_some,e2,e3,asSl_v,kdg,e4];rw[List.drop_eq_getElem_cons (by omega),List.all_cons,ki (by omega)];cases hr:rtI rows[i].1 (rows[i].2.2)with
  | false=>exact⟨(i:Int),h1,rfl,by simp,g1⟩
  | true =>
   obtain⟨j,h2,e5,e6,g2⟩:=kux k (i+1) (by omega) (n.grow g1);exact⟨j,h2,e5,by simpa using e6,g1.trans g2⟩
theorem kbbr{h:AH}{s:Sl}{rows:List (Bool×Sl×List Nat)}(n:IRows h s rows):∃h',go (.fn F.kib [s.v]) h=some (.bool (rows.all fun p=>rtI p.1 p.2.2),h')∧Grow h h':=by
 obtain⟨j,h',e1,e2,g⟩:=kux rows.length 0 (by omega) n;refine⟨h',?_,g⟩;rw[kbbc,k9k,k8k,n.len];rw[show(0:Int)=((0:Nat):Int)from rfl,e1];simp only[Option.bind_some,kc,kdg];rw[List.drop_zero]at e2;cases ha:rows.all fun p=>rtI p.1 p.2.2 with
 | false=>rw[ha]at e2;simp at e2;simp;omega
 | true=>rw[ha]at e2;simp at e2;simp;omega
theorem IRows.two{h:AH}{a b:Sl}{xs ys:List Nat}(n:Nats h a xs)(m:Nats h b ys)(p q:Bool):IRows (h.push (.cells [.bool p,a.v,.bool q,b.v] T.kn)) ⟨some (.new h.blks.size 0),2,.is 2⟩ [(p,a,xs),(q,b,ys)]:=by
 refine⟨Cells.of_has (AH.has_push _ _ _) rfl,fun r hr=>?_,by simp⟩;have g:=Grow.push h (.cells [.bool p,a.v,.bool q,b.v] T.kn);simp at hr;rcases hr with rfl | rfl
 ·exact n.grow g
 ·exact m.grow g
def negI(neg:Bool)(xs:List Nat):Bool×List Nat:=if rtI neg xs=true then fromI (!neg) xs else(false,[])
theorem kbad{h:AH}{s:Sl}{xs:List Nat}(n:Nats h s xs)(neg:Bool):∃(s':Sl)(h':AH),go (.fn F.kt4 [.agg [.bool neg,s.v]]) h=some (.agg [.bool (negI neg xs).1,s'.v],h')∧Nats h' s' (negI neg xs).2∧Grow h h'∧Own h s':=by
 rw[k4j];simp only[kca];have b0:=AH.has_push h [.bool neg,s.v] T.kn;have g0:=Grow.push h (.cells [.bool neg,s.v] T.kn);generalize h.push (.cells [.bool neg,s.v] T.kn)=h0 at *
 have c1:=AH.has_push h0 nilI T.kn;have g1:=Grow.push h0 (.cells nilI T.kn);generalize h0.push (.cells nilI T.kn)=h1 at *
 have b1:=g1.has b0;have n1:=n.grow (g0.trans g1);obtain⟨h2,e2,g2⟩:=kwn n1 neg;have c2:=g2.has c1;have b2:=g2.has b1;have g02:=(g0.trans g1).trans g2;obtain⟨s3,h3,e3,n3,g3,o3⟩:=kb1 (n1.grow g2) (!neg);have c3:=g3.has c2;simp only[Ref.add_new,Nat.zero_add,b1.cell,b2.cell,List.getElem?_cons_zero,List.getElem?_cons_succ,Option.bind_some,kdg,asSl_v,e2];cases hr:rtI neg xs with
 | false =>
  rw[show negI neg xs=(false,[])from by simp[negI,hr]];refine⟨⟨none,0,.is 0⟩,h2.upd h0.blks.size nilI T.kn,?_,Nats.nil _,g02.upd g0.size _ _,Own.nil h⟩;simp[c2.puts_all,AH.cell_upd c2]
 | true =>
  rw[show negI neg xs=fromI (!neg) xs from by simp[negI,hr]];refine⟨s3,h3.upd h0.blks.size [.bool (fromI (!neg) xs).1,s3.v] T.kn,?_,n3.upd o3 c2.lt _ _,(g02.trans g3).upd g0.size _ _,o3.of_le g02⟩;simp[e3,c3.puts_all,AH.cell_upd c3]
end Go.Ab

/- squeezed -/
set_option maxRecDepth 10000
namespace Go.Ab
open Go.Proofs Go.Num
theorem kfh(b:Nat)(ys:List Nat)(k:Nat):num b (ys.take (k+1))=num b (ys.take k)+b^k*ys.getD k 0:=by
 by_cases h:k<ys.length
 ·rw[kct b h,kbi h]
 ·rw[List.take_of_length_le (by omega),List.take_of_length_le (by omega)];simp[List.getD,List.getElem?_eq_none (show ys.length≤k by omega)]
theorem k5t(zs:List Nat){i:Nat}(v:Nat)(h:i<zs.length):(zs.set i v).take (i+1)=zs.take i++[v]:=by
 apply List.ext_getElem?;intro j;rw[List.getElem?_take];by_cases hi:j<i
 ·rw[if_pos (by omega),List.getElem?_set_ne (by omega),List.getElem?_append_left (by simp;omega),List.getElem?_take,if_pos hi]
 ·by_cases hi2:j=i
  ·subst hi2;rw[if_pos (by omega),List.getElem?_set_self h,List.getElem?_append_right (by simp;omega)];simp[Nat.min_eq_left (show j≤zs.length by omega)]
  ·rw[if_neg (by omega),List.getElem?_eq_none (by simp;omega)]
theorem ks1(b:Nat)(zs:List Nat){i:Nat}(v:Nat)(h:i<zs.length):num b ((zs.set i v).take (i+1))=num b (zs.take i)+b^i*v:=by
 rw[k5t zs v h,kcl];simp[num,Nat.min_eq_left (Nat.le_of_lt h)]
theorem kmb{h:AH}{j i:Nat}{zs:List Nat}(b:h.has j (zs.map u64) T.kf)(v:Nat)(hi:i<zs.length):h.puts (.new j i) [u64 v]=some (h.upd j ((zs.set i v).map u64) T.kf):=by
 simp only[AH.puts];rw[b.put (by simpa using hi)];simp[List.map_set]
theorem kv1{x y c:Nat}(hx:x<B)(hy:y<B)(hc:c≤1):prim "math/bits.Add64" [u64 x,u64 y,u64 c]=some (.tup [u64 ((x+y+c)%B),u64 ((x+y+c)/B)]):=by
 show cond (decide (0≤(x:Int)∧0≤(y:Int)∧0≤(c:Int)∧(c:Int)≤1)) (some (AV.tup [.int .u64 (((x:Int)+y+c)%18446744073709551616),.int .u64 (((x:Int)+y+c)/18446744073709551616)])) none=_;rw[show decide (0≤(x:Int)∧0≤(y:Int)∧0≤(c:Int)∧(c:Int)≤1)=true from by rw[decide_eq_true_eq];omega];rfl
theorem kn4{xs:List Nat}(h:∀x∈xs,x<18446744073709551616)(i:Nat):xs.getD i 0<B:=by
 show _<18446744073709551616;by_cases hi:i<xs.length
 ·rw[kbi hi];exact h _ (List.getElem_mem _)
 ·simp[List.getD,List.getElem?_eq_none (show xs.length≤i by omega)]
theorem ku4{h:AH}{s t:Sl}{xs ys:List Nat}(n:Nats h s xs)(m:Nats h t ys)(hl:ys.length≤xs.length)(hs:xs.length<4611686018427387904){j:Nat}(hj:h.blks.size≤j) :
  ∀(k i:Nat),i+k=xs.length→∀{hi:AH}{zs:List Nat}{c:Nat},Grow h hi→hi.has j (zs.map u64) T.kf→zs.length=xs.length+1→(∀z∈zs,z<18446744073709551616)→c≤1→
   num B (zs.take i)+B^i*c=num B (xs.take i)+num B (ys.take i)→
   ∃(h':AH)(zs':List Nat),go (.pt F.kdf Td.kga [(0,s.v),(1,t.v),(5,Sl.v ⟨some (.new j 0),xs.length+1,.is (xs.length+1)⟩),(6,u64 c),(21,.int .i64 (xs.length:Int)),(22,.int .i64 (i:Int))]) hi =
    some (Sl.v ⟨some (.new j 0),xs.length+1,.is (xs.length+1)⟩,h')∧Grow h h'∧h'.has j (zs'.map u64) T.kf∧zs'.length=xs.length+1∧(∀z∈zs',z<18446744073709551616)∧num B zs'=num B xs+num B ys
 | 0,i,hik,hi,zs,c,g,b,hz,hlt,hc,inv=>by
  rw[kxl,show decide ((i:Int)<(xs.length:Int))=false from by rw[decide_eq_false_iff_not];omega,cond_false,n.len];rw[kem _ _ _ _ (by omega) (by show(xs.length:Int)<((xs.length+1:Nat):Int);omega)];simp only[Option.bind_some,Int.toNat_natCast,Nat.mul_one,Ref.add_new,Nat.zero_add];rw[kmb b c (by omega)];refine⟨_,zs.set xs.length c,rfl,g.upd hj _ _,AH.has_upd b _ _,by simpa using hz,fun z hzm=>?_,?_⟩
  ·rcases List.mem_or_eq_of_mem_set hzm with h1 | rfl
   ·exact hlt z h1
   ·omega
  ·have e:=ks1 B zs c (i:=xs.length) (by omega);rw[List.take_of_length_le (by simp;omega)]at e;have:i=xs.length:=by omega
   subst this;rw[e,inv,List.take_length,List.take_of_length_le hl]
 | k+1,i,hik,hi,zs,c,g,b,hz,hlt,hc,inv=>by
  have n':=n.grow g;have m':=m.grow g;obtain⟨r,e1,e2⟩:=n'.at (i:=i) (by omega);have hx:xs.getD i 0<B:=kn4 n.lt i;have hy:ys.getD i 0<B:=kn4 m.lt i
  have next:∃(h':AH)(zs':List Nat),go (.pt F.kdf Td.kga [(0,s.v),(1,t.v),(5,Sl.v ⟨some (.new j 0),xs.length+1,.is (xs.length+1)⟩),(6,u64 ((xs.getD i 0+ys.getD i 0+c)/B)),(21,.int .i64 (xs.length:Int)),(22,.int .i64 ((i+1:Nat):Int))]) (hi.upd j ((zs.set i ((xs.getD i 0+ys.getD i 0+c)%B)).map u64) T.kf) =
    some (Sl.v ⟨some (.new j 0),xs.length+1,.is (xs.length+1)⟩,h')∧Grow h h'∧h'.has j (zs'.map u64) T.kf∧zs'.length=xs.length+1∧(∀z∈zs',z<18446744073709551616)∧num B zs'=num B xs+num B ys:=by
   refine ku4 n m hl hs hj k (i+1) (by omega) (g.upd hj _ _) (AH.has_upd b _ _) (by simpa using hz) (fun z hzm=>?_) ?_ ?_
   ·rcases List.mem_or_eq_of_mem_set hzm with h1 | rfl
    ·exact hlt z h1
    ·exact Nat.mod_lt _ (by decide)
   ·have h1:xs.getD i 0<18446744073709551616:=hx;have h2:ys.getD i 0<18446744073709551616:=hy;show(xs.getD i 0+ys.getD i 0+c)/18446744073709551616≤1;omega
   ·rw[ks1 B zs _ (by omega),kfh B xs i,kfh B ys i];have e:=Nat.mod_add_div (xs.getD i 0+ys.getD i 0+c) B;generalize hq:(xs.getD i 0+ys.getD i 0+c)%B=q at *
    generalize hw:(xs.getD i 0+ys.getD i 0+c)/B=w at *
    rw[Nat.pow_succ,Nat.mul_assoc,Nat.add_assoc,← Nat.mul_add,e,Nat.mul_add,Nat.mul_add];omega
  rw[kxl,show decide ((i:Int)<(xs.length:Int))=true from by rw[decide_eq_true_eq];omega,cond_true,m.len,ki (by omega)]
  have put:idx (some (.new j 0)) (xs.length+1) (i:Int) 1=some (.new j i):=by
   rw[kem _ _ _ _ (by omega) (by omega)];simp
  by_cases hi2:i<ys.length
  ·obtain⟨q,e3,e4⟩:=m'.at (i:=i) hi2;rw[show decide ((i:Int)<(ys.length:Int))=true from by rw[decide_eq_true_eq];omega,cond_true];rw[← m.len,e3,e1];simp only[Option.bind_some,e2,e4,kc];have ex:((xs[i]:Nat):Int)=((xs.getD i 0:Nat):Int):=by rw[kbi (by omega)]
   have ey:((ys[i]:Nat):Int)=((ys.getD i 0:Nat):Int):=by rw[kbi hi2]
   rw[ex,ey];have pa:=kv1 hx hy hc;simp only[u64]at pa⊢;rw[pa];simp only[Option.map_some,Option.bind_some,kfu,kc,put];rw[show hi.puts (.new j i) [AV.int .u64 (((xs.getD i 0+ys.getD i 0+c)%B:Nat):Int)]=_ from kmb b _ (by omega)];exact next
  ·have hy0:ys.getD i 0=0:=by simp[List.getD,List.getElem?_eq_none (show ys.length≤i by omega)]
   rw[show decide ((i:Int)<(ys.length:Int))=false from by rw[decide_eq_false_iff_not];omega,cond_false,e1];simp only[Option.bind_some,e2,kc];have ex:((xs[i]:Nat):Int)=((xs.getD i 0:Nat):Int):=by rw[kbi (by omega)]
   rw[ex];have pa:=kv1 hx hy hc;simp only[u64]at pa⊢;rw[hy0]at pa;rw[show(AV.int .u64 0)=AV.int .u64 ((0:Nat):Int)from rfl,pa];simp only[Option.map_some,Option.bind_some,kfu,kc,put];rw[hy0]at next;rw[show hi.puts (.new j i) [AV.int .u64 (((xs.getD i 0+0+c)%B:Nat):Int)]=_ from kmb b _ (by omega)];exact next
theorem k1f{h:AH}{l:Int}{n:Nat}(hl:l=(n:Int))(hn:n≤8796093022207):kbm l l T.kf (Pg.bytesOf T.kf) [.int .u64 0] h=some (⟨some (.new h.blks.size 0),n,.is n⟩,h.push (.cells ((List.replicate n 0).map u64) T.kf)):=by
 rw[kc2,kvk hl hl (by omega) (by omega),k0k];simp;rfl
theorem krj{h:AH}{s t:Sl}{xs ys:List Nat}(n:Nats h s xs)(m:Nats h t ys)(hx:xs.length≤1073741824)(hy:ys.length≤1073741824) :
  ∃(s':Sl)(h':AH)(zs:List Nat),go (.fn F.kdf [s.v,t.v]) h=some (s'.v,h')∧Nats h' s' zs∧Grow h h'∧Own h s'∧num B zs=num B xs+num B ys∧zs.length=max xs.length ys.length+1:=by
 have key:∀{s t:Sl}{xs ys:List Nat},Nats h s xs→Nats h t ys→xs.length≤1073741824→ys.length≤xs.length→∃(s':Sl)(h':AH)(zs:List Nat),
   ((kbm (IntKind.wrap .i64 ((s.len:Int)+1)) (IntKind.wrap .i64 ((s.len:Int)+1)) T.kf (Pg.bytesOf T.kf) [.int .u64 0] h).bind fun q4 =>
   go (.pt F.kdf Td.kga [(0,s.v),(1,t.v),(5,q4.1.v),(6,.int .u64 0),(21,.int .i64 (s.len:Int)),(22,.int .i64 0)]) q4.2)=some (s'.v,h')∧Nats h' s' zs∧Grow h h'∧Own h s'∧num B zs=num B xs+num B ys∧zs.length=xs.length+1:=by
  intro s t xs ys n m hx hle;rw[n.len,ki (by omega),k1f rfl (by omega)];simp only[Option.bind_some];have g0:=Grow.push h (.cells ((List.replicate (xs.length+1) 0).map u64) T.kf);have b0:=AH.has_push h ((List.replicate (xs.length+1) 0).map u64) T.kf;obtain⟨h',zs,e1,g1,b1,l1,lt1,v1⟩:=ku4 n m hle (by omega) (Nat.le_refl h.blks.size) xs.length 0 (by omega) (c:=0) g0 b0 (by simp) (by simp) (by omega) (by simp[num]);refine⟨_,h',zs,e1,⟨Cells.of_has b1 (by simp[l1]),lt1,by omega⟩,g1,fun r hr=>?_,v1,l1⟩;cases hr;exact⟨_,_,rfl,Nat.le_refl _⟩
 rw[kbdp];by_cases hlt:xs.length<ys.length
 ·rw[show decide ((s.len:Int)<(t.len:Int))=true from by rw[decide_eq_true_eq,n.len,m.len];omega,cond_true];obtain⟨s',h',zs,e1,e2,e3,e4,e5,e6⟩:=key m n hy (by omega);exact⟨s',h',zs,e1,e2,e3,e4,by rw[e5];omega,by rw[e6];omega⟩
 ·rw[show decide ((s.len:Int)<(t.len:Int))=false from by rw[decide_eq_false_iff_not,n.len,m.len];omega,cond_false];obtain⟨s',h',zs,e1,e2,e3,e4,e5,e6⟩:=key n m hx (by omega);exact⟨s',h',zs,e1,e2,e3,e4,e5,by rw[e6];omega⟩
def told(n:Nat):List Nat×Int:=if n<B^64 then(digs B n,0)else([],4)
theorem kr2{h:AH}{s:Sl}{xs:List Nat}(n:Nats h s xs):∃s':Sl,go (.fn F.kl0 [s.v]) h=some (.tup [s'.v,.int .i64 (told (num B xs)).2],h)∧Nats h s' (told (num B xs)).1∧∀h0,Own h0 s→Own h0 s':=by
 obtain⟨s',e1,n1,o1⟩:=kdw n;rw[kbc3,e1];simp only[Option.bind_some,asSl_v];unfold told;by_cases hn:num B xs<B^64
 ·have:=(kba B2 (num B xs) 64).2 hn;rw[if_pos hn,show decide ((s'.len:Int)>64)=false from by rw[decide_eq_false_iff_not,n1.len];omega];exact⟨s',rfl,n1,o1⟩
 ·have:¬(digs B (num B xs)).length≤64:=fun h=>hn ((kba B2 _ _).1 h);rw[if_neg hn,show decide ((s'.len:Int)>64)=true from by rw[decide_eq_true_eq,n1.len];omega];exact⟨⟨none,0,.is 0⟩,rfl,Nats.nil h,fun h0 _=>Own.nil h0⟩
def addN(xs ys:List Nat):List Nat×Int:=if rt xs=true∧rt ys=true then told (num B xs+num B ys)else([],1)
theorem kn9{h:AH}{s t:Sl}{xs ys:List Nat}(n:Nats h s xs)(m:Nats h t ys):∃(s':Sl)(h':AH),go (.fn F.kj2 [s.v,t.v]) h=some (.tup [s'.v,.int .i64 (addN xs ys).2],h')∧Nats h' s' (addN xs ys).1∧Grow h h'∧Own h s':=by
 rw[k4c];simp only[kca];have r:=Rows.two n m;have g:=Grow.push h (.cells [s.v,t.v] T.ko);generalize h.push (.cells [s.v,t.v] T.ko)=h0 at *
 rw[kmf r];simp only[Option.bind_some,kdg,List.all_cons,List.all_nil,Bool.and_true];by_cases hb:rt xs=true∧rt ys=true
 ·rw[show addN xs ys=told (num B xs+num B ys)from by simp[addN,hb]];simp only[hb.1,hb.2,Bool.and_self,Bool.not_true,cond_false];have lx:=(rt_iff.1 hb.1).1;have ly:=(rt_iff.1 hb.2).1;obtain⟨s1,h1,zs,e1,n1,g1,o1,v1,_⟩:=krj (n.grow g) (m.grow g) (by omega) (by omega);obtain⟨s2,e2,n2,o2⟩:=kr2 n1;rw[v1]at e2 n2;simp only[e1,e2,Option.bind_some,asSl_v,kfu,kc];exact⟨s2,h1,rfl,n2,g.trans g1,(o2 h0 o1).of_le g⟩
 ·rw[show addN xs ys=([],1)from by simp only[addN,if_neg hb]]
  have:(rt xs&&rt ys)=false:=by
   cases hx:rt xs<;>cases hy:rt ys<;>simp_all
  rw[this];exact⟨⟨none,0,.is 0⟩,h0,rfl,Nats.nil _,g,Own.nil h⟩
end Go.Ab

/- squeezed -/
set_option maxRecDepth 10000
namespace Go.Ab
open Go.Proofs Go.Num
theorem kbgo(x y c:Int):prim "math/bits.Sub64" [.int .u64 x,.int .u64 y,.int .u64 c]=cond (decide (0≤x∧0≤y∧y<18446744073709551616∧0≤c∧c≤1)) (some (AV.tup [.int .u64 ((x-y-c)%18446744073709551616),.int .u64 (cond (decide (x<y+c)) 1 0)])) none:=by
 unfold prim;have s1:("math/bits.Sub64" == "math/bits.Add64")=false:=by decide +kernel
 rw[s1];rfl
theorem k7e{x y c:Nat}(hx:x<B)(hy:y<B)(hc:c≤1):∃z w:Nat,prim "math/bits.Sub64" [u64 x,u64 y,u64 c]=some (.tup [u64 z,u64 w])∧z<B∧w≤1∧z+y+c=x+B*w:=by
 have hx:x<18446744073709551616:=hx;have hy:y<18446744073709551616:=hy;have e:prim "math/bits.Sub64" [u64 x,u64 y,u64 c]=cond (decide (0≤(x:Int)∧0≤(y:Int)∧(y:Int)<18446744073709551616∧0≤(c:Int)∧(c:Int)≤1)) (some (AV.tup [.int .u64 (((x:Int)-y-c)%18446744073709551616),.int .u64 (cond (decide ((x:Int)<y+c)) 1 0)])) none:=kbgo _ _ _;rw[e,show decide (0≤(x:Int)∧0≤(y:Int)∧(y:Int)<18446744073709551616∧0≤(c:Int)∧(c:Int)≤1)=true from by rw[decide_eq_true_eq];omega,cond_true];obtain⟨z,hz⟩:∃z:Nat,((x:Int)-y-c)%18446744073709551616=(z:Int):=⟨_,(Int.toNat_of_nonneg (Int.emod_nonneg _ (by decide))).symm⟩;rw[hz];by_cases h:x<y+c
 ·rw[show decide ((x:Int)<y+c)=true from by rw[decide_eq_true_eq];omega];have k1:z<18446744073709551616:=by omega
  have k2:z+y+c=x+18446744073709551616*1:=by omega
  exact⟨z,1,rfl,k1,by omega,k2⟩
 ·rw[show decide ((x:Int)<y+c)=false from by rw[decide_eq_false_iff_not];omega];have k1:z<18446744073709551616:=by omega
  have k2:z+y+c=x+18446744073709551616*0:=by omega
  exact⟨z,0,rfl,k1,by omega,k2⟩
theorem kxi{b p c x y z w zs ys xs:Nat}(inv:zs+ys=xs+p*c)(heq:z+y+c=x+b*w):zs+p*z+(ys+p*y)=xs+p*x+p*b*w:=by
 have:=congrArg (fun q=>p*q) heq;simp only[Nat.mul_add]at this;rw[Nat.mul_assoc];omega
theorem kuw{h:AH}{s t:Sl}{xs ys:List Nat}(n:Nats h s xs)(m:Nats h t ys)(hl:ys.length≤xs.length)(hs:xs.length<4611686018427387904){j:Nat}(hj:h.blks.size≤j) :
  ∀(k i:Nat),i+k=xs.length→∀{hi:AH}{zs:List Nat}{c:Nat},Grow h hi→hi.has j (zs.map u64) T.kf→zs.length=xs.length→(∀z∈zs,z<18446744073709551616)→c≤1→
   num B (zs.take i)+num B (ys.take i)=num B (xs.take i)+B^i*c→
   ∃(h':AH)(zs':List Nat)(c':Nat),go (.pt F.kdb Td.kjh [(0,s.v),(1,t.v),(5,Sl.v ⟨some (.new j 0),xs.length,.is xs.length⟩),(6,u64 c),(13,.int .i64 (xs.length:Int)),(14,.int .i64 (i:Int))]) hi =
    some (Sl.v ⟨some (.new j 0),xs.length,.is xs.length⟩,h')∧Grow h h'∧h'.has j (zs'.map u64) T.kf∧zs'.length=xs.length∧(∀z∈zs',z<18446744073709551616)∧num B zs'+num B ys=num B xs+B^xs.length*c'
 | 0,i,hik,hi,zs,c,g,b,hz,hlt,hc,inv=>by
  rw[kvn,show decide ((i:Int)<(xs.length:Int))=false from by rw[decide_eq_false_iff_not];omega,cond_false];have:i=xs.length:=by omega
  subst this;rw[List.take_of_length_le (by omega),List.take_of_length_le hl,List.take_length]at inv;exact⟨hi,zs,c,rfl,g,b,hz,hlt,inv⟩
 | k+1,i,hik,hi,zs,c,g,b,hz,hlt,hc,inv=>by
  have n':=n.grow g;have m':=m.grow g;obtain⟨r,e1,e2⟩:=n'.at (i:=i) (by omega);have hx:xs.getD i 0<B:=kn4 n.lt i;have hy:ys.getD i 0<B:=kn4 m.lt i;obtain⟨z,w,pa,hzB,hw,heq⟩:=k7e hx hy hc
  have next:∃(h':AH)(zs':List Nat)(c':Nat),go (.pt F.kdb Td.kjh [(0,s.v),(1,t.v),(5,Sl.v ⟨some (.new j 0),xs.length,.is xs.length⟩),(6,u64 w),(13,.int .i64 (xs.length:Int)),(14,.int .i64 ((i+1:Nat):Int))]) (hi.upd j ((zs.set i z).map u64) T.kf) =
    some (Sl.v ⟨some (.new j 0),xs.length,.is xs.length⟩,h')∧Grow h h'∧h'.has j (zs'.map u64) T.kf∧zs'.length=xs.length∧(∀z∈zs',z<18446744073709551616)∧num B zs'+num B ys=num B xs+B^xs.length*c':=by
   refine kuw n m hl hs hj k (i+1) (by omega) (g.upd hj _ _) (AH.has_upd b _ _) (by simpa using hz) (fun y hym=>?_) hw ?_
   ·rcases List.mem_or_eq_of_mem_set hym with h1 | rfl
    ·exact hlt y h1
    ·exact hzB
   ·rw[ks1 B zs _ (by omega),kfh B xs i,kfh B ys i,Nat.pow_succ];exact kxi inv heq
  rw[kvn,show decide ((i:Int)<(xs.length:Int))=true from by rw[decide_eq_true_eq];omega,cond_true,m.len,ki (by omega)];generalize prim "math/bits.Sub64" = f at pa⊢
  have put:idx (some (.new j 0)) xs.length (i:Int) 1=some (.new j i):=by
   rw[kem _ _ _ _ (by omega) (by omega)];simp
  by_cases hi2:i<ys.length
  ·obtain⟨q,e3,e4⟩:=m'.at (i:=i) hi2;rw[show decide ((i:Int)<(ys.length:Int))=true from by rw[decide_eq_true_eq];omega,cond_true];rw[← m.len,e3,e1];rw[Option.bind_some,e4,Option.bind_some,kc,Option.bind_some,Option.bind_some,e2,Option.bind_some,kc,Option.bind_some];have ex:((xs[i]:Nat):Int)=((xs.getD i 0:Nat):Int):=by rw[kbi (by omega)]
   have ey:((ys[i]:Nat):Int)=((ys.getD i 0:Nat):Int):=by rw[kbi hi2]
   rw[ex,ey];simp only[u64]at pa⊢;rw[pa];simp only[Option.map_some,Option.bind_some,kfu,kc,put];rw[show hi.puts (.new j i) [AV.int .u64 ((z:Nat):Int)]=_ from kmb b _ (by omega)];exact next
  ·have hy0:ys.getD i 0=0:=by simp[List.getD,List.getElem?_eq_none (show ys.length≤i by omega)]
   rw[show decide ((i:Int)<(ys.length:Int))=false from by rw[decide_eq_false_iff_not];omega,cond_false,e1];simp only[Option.bind_some,e2,kc];have ex:((xs[i]:Nat):Int)=((xs.getD i 0:Nat):Int):=by rw[kbi (by omega)]
   rw[ex];simp only[u64]at pa⊢;rw[hy0]at pa;rw[show(AV.int .u64 0)=AV.int .u64 ((0:Nat):Int)from rfl,pa];simp only[Option.map_some,Option.bind_some,kfu,kc,put];rw[show hi.puts (.new j i) [AV.int .u64 ((z:Nat):Int)]=_ from kmb b _ (by omega)];exact next
theorem ko5{h:AH}{s t:Sl}{xs ys:List Nat}(n:Nats h s xs)(m:Nats h t ys)(hx:xs.length≤1073741824)(hl:ys.length≤xs.length)(hle:num B ys≤num B xs) :
  ∃(s':Sl)(h':AH)(zs:List Nat),go (.fn F.kdb [s.v,t.v]) h=some (s'.v,h')∧Nats h' s' zs∧Grow h h'∧Own h s'∧num B zs=num B xs-num B ys∧zs.length=xs.length:=by
 rw[kbdz,n.len,k1f rfl (by omega)];simp only[Option.bind_some];have g0:=Grow.push h (.cells ((List.replicate xs.length 0).map u64) T.kf);have b0:=AH.has_push h ((List.replicate xs.length 0).map u64) T.kf;obtain⟨h',zs,c,e1,g1,b1,l1,lt1,v1⟩:=kuw n m hl (by omega) (Nat.le_refl h.blks.size) xs.length 0 (by omega) (c:=0) g0 b0 (by simp) (by simp) (by omega) (by simp[num]);have hb:=num_lt (b:=B) (by decide) lt1;rw[l1]at hb
 have c0:c=0:=by
  rcases Nat.eq_zero_or_pos c with h0 | h0
  ·exact h0
  ·have:B^xs.length*1≤B^xs.length*c:=Nat.mul_le_mul_left _ h0;omega
 rw[c0,Nat.mul_zero,Nat.add_zero]at v1;refine⟨_,h',zs,e1,⟨Cells.of_has b1 (by simp[l1]),lt1,by omega⟩,g1,fun r hr=>?_,by omega,l1⟩;cases hr;exact⟨_,_,rfl,Nat.le_refl _⟩
def subN(xs ys:List Nat):List Nat×Int:=if rt xs=true∧rt ys=true then(if num B xs<num B ys then([],2)else(digs B (num B xs-num B ys),0))else([],1)
theorem kzz{xs ys:List Nat}(hx:∀x∈xs,x<18446744073709551616)(hy:∀x∈ys,x<18446744073709551616)(ty:Trim ys)(h:num B ys≤num B xs):ys.length≤xs.length:=by
 rcases Nat.lt_or_ge xs.length ys.length with h1 | h1
 ·have:=ksp B2 hx hy ty h1;omega
 ·exact h1
theorem k4k{xs ys:List Nat}(hx:∀x∈xs,x<18446744073709551616)(h:xs.length≤64):told (num B xs-num B ys)=(digs B (num B xs-num B ys),0):=by
 have h1:=num_lt (b:=B) (by decide) hx;have h2:B^xs.length≤B^64:=Nat.pow_le_pow_right (by decide) h;unfold told;rw[if_pos (by omega)]
theorem klk{h:AH}{s t:Sl}{xs ys:List Nat}(n:Nats h s xs)(m:Nats h t ys):∃(s':Sl)(h':AH),go (.fn F.khj [s.v,t.v]) h=some (.tup [s'.v,.int .i64 (subN xs ys).2],h')∧Nats h' s' (subN xs ys).1∧Grow h h'∧Own h s':=by
 rw[k85];simp only[kca];have r:=Rows.two n m;have g:=Grow.push h (.cells [s.v,t.v] T.ko);generalize h.push (.cells [s.v,t.v] T.ko)=h0 at *
 rw[kmf r];simp only[Option.bind_some,kdg,List.all_cons,List.all_nil,Bool.and_true];by_cases hb:rt xs=true∧rt ys=true
 ·simp only[hb.1,hb.2,Bool.and_self,Bool.not_true,cond_false];have lx:=rt_iff.1 hb.1;have ly:=rt_iff.1 hb.2;rw[knu (n.grow g) (m.grow g) lx.2 ly.2];simp only[Option.bind_some,kc];by_cases hc:num B xs<num B ys
  ·rw[show subN xs ys=([],2)from by simp[subN,hb,hc]];rw[show decide (cmp (num B xs) (num B ys)<0)=true from by rw[decide_eq_true_eq];simp[cmp,hc]];exact⟨⟨none,0,.is 0⟩,h0,rfl,Nats.nil _,g,Own.nil h⟩
  ·rw[show subN xs ys=told (num B xs-num B ys)from by rw[k4k n.lt lx.1];simp[subN,hb,hc]];rw[show decide (cmp (num B xs) (num B ys)<0)=false from by rw[decide_eq_false_iff_not];unfold cmp;rw[if_neg hc];split<;>omega];simp only[cond_false];obtain⟨s1,h1,zs,e1,n1,g1,o1,v1,_⟩:=ko5 (n.grow g) (m.grow g) (by omega) (kzz n.lt m.lt ly.2 (by omega)) (by omega);obtain⟨s2,e2,n2,o2⟩:=kr2 n1;rw[v1]at e2 n2;simp only[e1,e2,Option.bind_some,asSl_v,kfu,kc];exact⟨s2,h1,rfl,n2,g.trans g1,(o2 h0 o1).of_le g⟩
 ·rw[show subN xs ys=([],1)from by simp only[subN,if_neg hb]]
  have:(rt xs&&rt ys)=false:=by
   cases hx:rt xs<;>cases hy:rt ys<;>simp_all
  rw[this];exact⟨⟨none,0,.is 0⟩,h0,rfl,Nats.nil _,g,Own.nil h⟩
end Go.Ab

/- squeezed -/
set_option maxRecDepth 10000
namespace Go.Ab
open Go.Proofs Go.Num
theorem ktz{n:Nat}(h:n<18446744073709551616):IntKind.wrap .u64 (n:Int)=(n:Int):=by
 rw[wrapU,Int.emod_eq_of_lt (by omega) (by omega)]
theorem kq3{h:AH}{s:Sl}{xs:List Nat}(n:Nats h s xs)(i:Nat):go (.fn F.kg4 [s.v,.int .i64 (i:Int)]) h=some (u64 (xs.getD i 0),h):=by
 rw[k3s,n.len];by_cases hi:i<xs.length
 ·obtain⟨r,e1,e2⟩:=n.at (i:=i) hi;rw[n.len]at e1;rw[show decide ((i:Int)<(xs.length:Int))=true from by rw[decide_eq_true_eq];omega,cond_true,e1,Option.bind_some,e2,Option.bind_some,kc,Option.bind_some,kbi hi]
 ·rw[show decide ((i:Int)<(xs.length:Int))=false from by rw[decide_eq_false_iff_not];omega,cond_false];simp[List.getD,List.getElem?_eq_none (show xs.length≤i by omega)]
theorem Mine.append_one{h0 h:AH}{d:Sl}{ds:List Nat}(M:Mine h0 h d T.kf 1 (ds.map u64))(x:Nat)(hl:ds.length<8796093022208){R:Type}(k:Sl→AH→Option R) :
  ∃(d':Sl)(h':AH),((kbf Pg T.kf (Sl.v ⟨some (.new h.blks.size 0),1,.is 1⟩) (h.push (.cells [u64 x] T.kf))).bind fun p=>(kv Pg d p.1 p.2 T.kf 1 (h.push (.cells [u64 x] T.kf))).bind fun q=>(AV.asSl q.1).bind fun l=>k l q.2)=k d' h'∧Mine h0 h' d' T.kf 1 ((ds++[x]).map u64):=by
 have c:Cells (h.push (.cells [u64 x] T.kf)) ⟨some (.new h.blks.size 0),1,.is 1⟩ (Pg.cellsOf T.kf) [u64 x]:=by
  rw[kja];exact Cells.of_has (AH.has_push h [u64 x] T.kf) rfl
 obtain⟨d',h',e1,e2⟩:=(M.grow' (Grow.push h (.cells [u64 x] T.kf))).push_u64 x hl;refine⟨d',h',?_,e2⟩;rw[kkp c,Option.bind_some,e1,Option.bind_some,asSl_v,Option.bind_some]
theorem kqn{xs:List Nat}(h:∀x∈xs,x<D)(i:Nat):xs.getD i 0<D:=by
 show _<65536;by_cases hi:i<xs.length
 ·rw[kbi hi];exact h _ (List.getElem_mem _)
 ·simp[List.getD,List.getElem?_eq_none (show xs.length≤i by omega)]
theorem k94{b p c x y q w zs ys xs:Nat}(inv:zs+p*c=xs+ys)(heq:q+b*w=x+y+c):zs+p*q+p*b*w=xs+p*x+(ys+p*y):=by
 have:=congrArg (fun q=>p*q) heq;simp only[Nat.mul_add]at this;rw[Nat.mul_assoc];omega
theorem k0j{h:AH}{s t:Sl}{xs ys:List Nat}(n:Nats h s xs)(m:Nats h t ys)(hx:∀x∈xs,x<D)(hy:∀x∈ys,x<D)(lx:xs.length≤1073741824)(ly:ys.length≤1073741824) :
  ∀(k i:Nat),i+k=max xs.length ys.length→∀{hi:AH}{d:Sl}{ds:List Nat}{c:Nat},Mine h hi d T.kf 1 (ds.map u64)→ds.length=i→(∀z∈ds,z<D)→c≤1→num D ds+D^i*c=num D (xs.take i)+num D (ys.take i)→
   ∃(s':Sl)(h':AH),go (.pt F.kf1 Td.ki4 [(0,s.v),(1,t.v),(5,d.v),(6,u64 c),(7,.int .i64 (i:Int))]) hi=some (s'.v,h')∧Nats h' s' (digs D (num D xs+num D ys))∧Grow h h'∧Own h s'
 | 0,i,hik,hi,d,ds,c,M,hl,hd,hc,inv=>by
  have i1:xs.length≤i:=by omega
  have i2:ys.length≤i:=by omega
  rw[ku9,n.len,m.len,show decide ((i:Int)<(xs.length:Int))=false from by rw[decide_eq_false_iff_not];omega,cond_false,show decide ((i:Int)<(ys.length:Int))=false from by rw[decide_eq_false_iff_not];omega,cond_false];simp only[kca];obtain⟨d',h',e1,M'⟩:=M.append_one c (by omega) (fun l hh=>(go (.fn F.kc8 [l.v]) hh).bind fun q26=>((some q26.1).bind AV.asSl).bind fun l27=>some (l27.v,q26.2))
  have hd':∀z∈ds++[c],z<D:=fun z hz=>by
   rcases List.mem_append.1 hz with h1 | h1
   ·exact hd z h1
   ·simp at h1;subst h1;show _<65536;omega
  have N:Nats h' d' (ds++[c]):=⟨M'.cells,fun z hz=>by have:z<65536:=hd' z hz;omega,by simp;omega⟩;obtain⟨s',e2,n2,o2⟩:=kjr N hd'
  have v:num D (ds++[c])=num D xs+num D ys:=by
   rw[kcl,hl];simp only[num,Nat.mul_zero,Nat.add_zero];rw[inv,List.take_of_length_le i1,List.take_of_length_le i2]
  rw[v]at n2;refine⟨s',h',?_,n2,M'.grow,o2 h M'.own_of⟩;refine Eq.trans e1 ?_;simp only[e2,Option.bind_some,asSl_v]
 | k+1,i,hik,hi,d,ds,c,M,hl,hd,hc,inv=>by
  have n':=n.grow M.grow;have m':=m.grow M.grow;have x1:xs.getD i 0<65536:=kqn hx i;have y1:ys.getD i 0<65536:=kqn hy i
  have hsum:IntKind.wrap .u64 (IntKind.wrap .u64 (((xs.getD i 0:Nat):Int)+((ys.getD i 0:Nat):Int))+(c:Int))=((xs.getD i 0+ys.getD i 0+c:Nat):Int):=by
   rw[← Int.natCast_add,ktz (by omega),← Int.natCast_add,ktz (by omega)]
  have hmod:Int.tmod ((xs.getD i 0+ys.getD i 0+c:Nat):Int) 65536=(((xs.getD i 0+ys.getD i 0+c)%65536:Nat):Int):=by
   rw[Int.tmod_eq_emod_of_nonneg (by omega)];omega
  have hdiv:IntKind.wrap .u64 (Int.tdiv ((xs.getD i 0+ys.getD i 0+c:Nat):Int) 65536)=(((xs.getD i 0+ys.getD i 0+c)/65536:Nat):Int):=by
   rw[Int.tdiv_eq_ediv_of_nonneg (by omega),← ktz (n:=(xs.getD i 0+ys.getD i 0+c)/65536) (by omega)];congr 1
  obtain⟨d',h',e1,M'⟩:=M.append_one ((xs.getD i 0+ys.getD i 0+c)%65536) (by omega) (fun l hh=>go (.pt F.kf1 Td.ki4 [(0,s.v),(1,t.v),(5,l.v),(6,u64 ((xs.getD i 0+ys.getD i 0+c)/65536)),(7,.int .i64 ((i+1:Nat):Int))]) hh)
  obtain⟨s',h2,e2,r⟩:=k0j n m hx hy lx ly k (i+1) (by omega) M' (by simp[hl]) (fun z hz=>by
   rcases List.mem_append.1 hz with h1 | h1
   ·exact hd z h1
   ·simp at h1;subst h1;exact Nat.mod_lt _ (by decide)) (c:=(xs.getD i 0+ys.getD i 0+c)/65536) (by omega) (by
   rw[kcl,hl,kfh D xs i,kfh D ys i,Nat.pow_succ];simp only[num,Nat.mul_zero,Nat.add_zero];exact k94 inv (Nat.mod_add_div _ _))
  refine⟨s',h2,?_,r⟩;rw[ku9,n.len,m.len];have dx:=kq3 n' i;have dy:=kq3 m' i;by_cases h1:i<xs.length
  ·rw[show decide ((i:Int)<(xs.length:Int))=true from by rw[decide_eq_true_eq];omega,cond_true,dx,Option.bind_some,Option.bind_some,kc,Option.bind_some,dy,Option.bind_some,Option.bind_some,kc,Option.bind_some,hsum,hmod,hdiv,ki (by omega),kca];exact e1.trans e2
  ·rw[show decide ((i:Int)<(xs.length:Int))=false from by rw[decide_eq_false_iff_not];omega,cond_false,show decide ((i:Int)<(ys.length:Int))=true from by rw[decide_eq_true_eq];omega,cond_true,dx,Option.bind_some,Option.bind_some,kc,Option.bind_some,dy,Option.bind_some,Option.bind_some,kc,Option.bind_some,hsum,hmod,hdiv,ki (by omega),kca];exact e1.trans e2
theorem k62{h:AH}{s t:Sl}{xs ys:List Nat}(n:Nats h s xs)(m:Nats h t ys)(hx:∀x∈xs,x<D)(hy:∀x∈ys,x<D)(lx:xs.length≤1073741824)(ly:ys.length≤1073741824) :
  ∃(s':Sl)(h':AH),go (.fn F.kf1 [s.v,t.v]) h=some (s'.v,h')∧Nats h' s' (digs D (num D xs+num D ys))∧Grow h h'∧Own h s':=by
 rw[kbd4];exact k0j n m hx hy lx ly (max xs.length ys.length) 0 (by omega) (ds:=[]) (c:=0) (Mine.nil h T.kf 1) rfl (by simp) (by omega) (by simp[num])
end Go.Ab

/- squeezed -/
set_option maxRecDepth 10000
namespace Go.Ab
open Go.Proofs Go.Num
theorem kbfg{x y c:Nat}(hx:x<65536)(hy:y<65536)(hc:c≤1):∃z w:Nat,z<65536∧w≤1∧z+y+c=x+65536*w∧
  Int.tmod (IntKind.wrap .u64 ((IntKind.wrap .u64 ((IntKind.wrap .u64 (65536+(x:Int)))-(y:Int)))-(c:Int))) 65536=(z:Int)∧
  IntKind.wrap .u64 (1-(IntKind.wrap .u64 (Int.tdiv (IntKind.wrap .u64 ((IntKind.wrap .u64 ((IntKind.wrap .u64 (65536+(x:Int)))-(y:Int)))-(c:Int))) 65536)))=(w:Int):=by
 have e:IntKind.wrap .u64 ((IntKind.wrap .u64 ((IntKind.wrap .u64 (65536+(x:Int)))-(y:Int)))-(c:Int))=65536+(x:Int)-y-c:=by
  rw[wrapU,wrapU,wrapU];omega
 rw[e];have p:0≤65536+(x:Int)-y-c:=by omega
 rw[Int.tmod_eq_emod_of_nonneg p,Int.tdiv_eq_ediv_of_nonneg p];by_cases h:x<y+c
 ·exact⟨(65536+(x:Int)-y-c).toNat,1,by omega,by omega,by omega,by omega,by rw[wrapU,wrapU];omega⟩
 ·exact⟨((x:Int)-y-c).toNat,0,by omega,by omega,by omega,by omega,by rw[wrapU,wrapU];omega⟩
theorem kvm{h:AH}{s t:Sl}{xs ys:List Nat}(n:Nats h s xs)(m:Nats h t ys)(hx:∀x∈xs,x<D)(hy:∀x∈ys,x<D)(lx:xs.length≤1073741824)(lyx:ys.length≤xs.length)(hle:num D ys≤num D xs) :
  ∀(k i:Nat),i+k=xs.length→∀{hi:AH}{d:Sl}{ds:List Nat}{c:Nat},Mine h hi d T.kf 1 (ds.map u64)→ds.length=i→(∀z∈ds,z<D)→c≤1→num D ds+num D (ys.take i)=num D (xs.take i)+D^i*c→
   ∃(s':Sl)(h':AH),go (.pt F.kgm Td.kme [(0,s.v),(1,t.v),(5,d.v),(6,u64 c),(7,.int .i64 (i:Int))]) hi=some (s'.v,h')∧Nats h' s' (digs D (num D xs-num D ys))∧Grow h h'∧Own h s'
 | 0,i,hik,hi,d,ds,c,M,hl,hd,hc,inv=>by
  have i1:i=xs.length:=by omega
  rw[kx7,n.len,show decide ((i:Int)<(xs.length:Int))=false from by rw[decide_eq_false_iff_not];omega,cond_false];have N:Nats hi d ds:=⟨M.cells,fun z hz=>by have:z<65536:=hd z hz;omega,by omega⟩;obtain⟨s',e2,n2,o2⟩:=kjr N hd
  have v:num D ds=num D xs-num D ys:=by
   rw[List.take_of_length_le (by omega),List.take_of_length_le (by omega)]at inv;have b:=num_lt (b:=D) (by decide) hd;rw[hl]at b
   have c0:c=0:=by
    rcases Nat.eq_zero_or_pos c with h0 | h0
    ·exact h0
    ·have:D^i*1≤D^i*c:=Nat.mul_le_mul_left _ h0;omega
   rw[c0,Nat.mul_zero]at inv;omega
  rw[v]at n2;refine⟨s',hi,?_,n2,M.grow,o2 h M.own_of⟩;rw[e2,Option.bind_some,Option.bind_some,asSl_v,Option.bind_some]
 | k+1,i,hik,hi,d,ds,c,M,hl,hd,hc,inv=>by
  have n':=n.grow M.grow;have m':=m.grow M.grow;obtain⟨r,e1,e2⟩:=n'.at (i:=i) (by omega);have x1:xs.getD i 0<65536:=kqn hx i;have y1:ys.getD i 0<65536:=kqn hy i;obtain⟨z,w,hz,hw,heq,q1,q2⟩:=kbfg x1 y1 hc;obtain⟨d',h',a1,M'⟩:=M.append_one z (by omega) (fun l hh=>go (.pt F.kgm Td.kme [(0,s.v),(1,t.v),(5,l.v),(6,u64 w),(7,.int .i64 ((i+1:Nat):Int))]) hh)
  obtain⟨s',h2,a2,r2⟩:=kvm n m hx hy lx lyx hle k (i+1) (by omega) M' (by simp[hl]) (fun y hym=>by
   rcases List.mem_append.1 hym with h1 | h1
   ·exact hd y h1
   ·simp at h1;subst h1;exact hz) hw (by
   rw[kcl,hl,kfh D xs i,kfh D ys i,Nat.pow_succ];simp only[num,Nat.mul_zero,Nat.add_zero];exact kxi inv heq)
  refine⟨s',h2,?_,r2⟩;have ex:((xs[i]:Nat):Int)=((xs.getD i 0:Nat):Int):=by rw[kbi (by omega)]
  rw[kx7,n.len,show decide ((i:Int)<(xs.length:Int))=true from by rw[decide_eq_true_eq];omega,cond_true,← n.len,e1,Option.bind_some,e2,Option.bind_some,kc,Option.bind_some,
   kq3 m' i,Option.bind_some,Option.bind_some,kc,Option.bind_some,krc (show SameAt hi hi r 1 from⟨fun _ _=>rfl,fun h=>by cases h⟩),ex,q1,q2,ki (by omega),kca]
  exact a1.trans a2
theorem k3v{h:AH}{s t:Sl}{xs ys:List Nat}(n:Nats h s xs)(m:Nats h t ys)(hx:∀x∈xs,x<D)(hy:∀x∈ys,x<D)(lx:xs.length≤1073741824)(lyx:ys.length≤xs.length)(hle:num D ys≤num D xs) :
  ∃(s':Sl)(h':AH),go (.fn F.kgm [s.v,t.v]) h=some (s'.v,h')∧Nats h' s' (digs D (num D xs-num D ys))∧Grow h h'∧Own h s':=by
 rw[k7d];exact kvm n m hx hy lx lyx hle xs.length 0 (by omega) (ds:=[]) (c:=0) (Mine.nil h T.kf 1) rfl (by simp) (by omega) (by simp[num])
end Go.Ab

/- squeezed -/
set_option maxRecDepth 10000
namespace Go.Ab
open Go.Proofs Go.Num
theorem kxn{xs:List Nat}(h:Trim xs):∀(k:Nat),Trim (xs.drop k)
 | 0=>by simpa using h
 | k+1=>by
  cases xs with
  | nil=>simp[Trim]
  | cons x xs=>exact kxn h.tail k
theorem k5i(b:Nat)(xs:List Nat)(k:Nat):num b xs=num b (xs.take k)+b^(xs.take k).length*num b (xs.drop k):=by
 rw[← kcl,List.take_append_drop]
theorem kbaa{ds:List Nat}(hd:∀z∈ds,z<D)(ht:Trim ds)(hne:ds≠[]):digs B (num D ds)=num D (ds.take 4)::digs B (num D (ds.drop 4)):=by
 have hn:num D ds≠0:=fun e=>hne (kod (by decide) ht e);have lt:=num_lt (b:=D) (by decide) (xs:=ds.take 4) fun x h=>hd x (List.mem_of_mem_take h);have le:D^(ds.take 4).length≤D^4:=Nat.pow_le_pow_right (by decide) (by rw[List.length_take];omega);have hB:D^4=B:=by decide
 have ltB:num D (ds.take 4)<B:=by omega
 rw[ker B2 hn,k5i D ds 4];by_cases h4:4≤ds.length
 ·rw[List.length_take,Nat.min_eq_left h4,hB,Nat.add_mul_mod_self_left,Nat.mod_eq_of_lt ltB,Nat.add_mul_div_left _ _ (by decide),Nat.div_eq_of_lt ltB,Nat.zero_add]
 ·rw[List.drop_of_length_le (by omega)];simp only[num,Nat.mul_zero,Nat.add_zero];rw[Nat.mod_eq_of_lt ltB,Nat.div_eq_of_lt ltB]
theorem num_at(b:Nat)(ds:List Nat)(i k:Nat):num b ((ds.drop i).drop k)=ds.getD (i+k) 0+b*num b ((ds.drop i).drop (k+1)):=by
 rw[List.drop_drop,List.drop_drop,show i+(k+1)=i+k+1 from by omega];by_cases h:i+k<ds.length
 ·rw[List.drop_eq_getElem_cons h,num,kbi h]
 ·rw[List.drop_of_length_le (by omega),List.drop_of_length_le (by omega)];simp[num,List.getD,List.getElem?_eq_none (show ds.length≤i+k by omega)]
theorem k9x(b:Nat)(ds:List Nat)(i k:Nat)(hk:k<4):num b (((ds.drop i).take 4).drop k)=ds.getD (i+k) 0+b*num b (((ds.drop i).take 4).drop (k+1)):=by
 have e:=num_at b ((ds.drop i).take 4) 0 k;rw[List.drop_zero,Nat.zero_add]at e;rw[e];congr 1;simp only[List.getD,List.getElem?_take,List.getElem?_drop,if_pos hk]
theorem kv9{h0:AH}{s:Sl}{ds:List Nat}(n:Nats h0 s ds)(hd:∀z∈ds,z<D){i:Nat}(hi:i≤1073741824):∀(k:Nat),k≤4→∀{h:AH}{o:Sl}{os:List Nat},Mine h0 h o T.kf 1 (os.map u64)→os.length≤1073741824→
  ∃(o':Sl)(h':AH),go (.pt F.kce Td.kks [(0,s.v),(4,o.v),(5,.int .i64 (i:Int)),(6,u64 (num D (((ds.drop i).take 4).drop k))),(7,.int .i64 ((k:Int)-1))]) h =
   go (.pt F.kce Td.kji [(0,s.v),(4,o'.v),(5,.int .i64 ((i+4:Nat):Int))]) h'∧Mine h0 h' o' T.kf 1 ((os++[num D ((ds.drop i).take 4)]).map u64)
 | 0,hk,h,o,os,M,hl=>by
  rw[kxk,show decide (((0:Nat):Int)-1≥0)=false from rfl,cond_false,List.drop_zero,kca,wrap64 (n:=(i:Int)+4) (by omega) (by omega),show(i:Int)+4=((i+4:Nat):Int)from by omega];exact M.append_one (num D ((ds.drop i).take 4)) (by omega) (fun l hh=>go (.pt F.kce Td.kji [(0,s.v),(4,l.v),(5,.int .i64 ((i+4:Nat):Int))]) hh)
 | k+1,hk,h,o,os,M,hl=>by
  have n':=n.grow M.grow;have IH:=kv9 n hd hi k (by omega) M hl;have e:=k9x D ds i k (by omega)
  have lt:num D (((ds.drop i).take 4).drop k)<18446744073709551616:=by
   have h1:=num_lt (b:=D) (by decide) (xs:=((ds.drop i).take 4).drop k) fun x hx=>hd x (List.mem_of_mem_drop (List.mem_of_mem_take (List.mem_of_mem_drop hx)));have h2:D^(((ds.drop i).take 4).drop k).length≤D^4:=Nat.pow_le_pow_right (by decide) (by simp;omega);have h3:D^4=18446744073709551616:=by decide
   omega
  have e':ds.getD (i+k) 0+65536*num D (((ds.drop i).take 4).drop (k+1))=num D (((ds.drop i).take 4).drop k):=e.symm;generalize hy:num D (((ds.drop i).take 4).drop (k+1))=y at *
  generalize hz:num D (((ds.drop i).take 4).drop k)=z at *
  rw[kxk,n.len,show((k+1:Nat):Int)-1=(k:Int)from by omega,show decide ((k:Int)≥0)=true from by rw[decide_eq_true_eq];omega,cond_true,wrap64 (n:=(i:Int)+(k:Int)) (by omega) (by omega),wrap64 (n:=(k:Int)-1) (by omega) (by omega),show(i:Int)+(k:Int)=((i+k:Nat):Int)from by omega];have w1:IntKind.wrap .u64 ((y:Int)*65536)=((65536*y:Nat):Int):=by rw[wrapU];omega
  rw[w1];by_cases hik:i+k<ds.length
  ·obtain⟨r,e1,e2⟩:=n'.at (i:=i+k) hik;rw[n.len]at e1;have ex:((ds[i+k]:Nat):Int)=((ds.getD (i+k) 0:Nat):Int):=by rw[kbi hik]
   have w2:IntKind.wrap .u64 (((65536*y:Nat):Int)+((ds.getD (i+k) 0:Nat):Int))=(z:Int):=by rw[wrapU];omega
   rw[show decide (((i+k:Nat):Int)<(ds.length:Int))=true from by rw[decide_eq_true_eq];omega,cond_true,e1,Option.bind_some,e2,Option.bind_some,kc,Option.bind_some,ex,w2];exact IH
  ·have e0:ds.getD (i+k) 0=0:=by simp[List.getD,List.getElem?_eq_none (show ds.length≤i+k by omega)]
   rw[e0,Nat.zero_add]at e';rw[show decide (((i+k:Nat):Int)<(ds.length:Int))=false from by rw[decide_eq_false_iff_not];omega,cond_false,e'];exact IH
theorem ku6{h0:AH}{s:Sl}{ds:List Nat}(n:Nats h0 s ds)(hd:∀z∈ds,z<D)(ht:Trim ds)(hl:ds.length≤536870912):∀(f i:Nat),ds.length≤i+4*f→i≤ds.length+4→∀{h:AH}{o:Sl}{os:List Nat},Mine h0 h o T.kf 1 (os.map u64)→os.length≤i→(∀z∈os,z<18446744073709551616)→os++digs B (num D (ds.drop i))=digs B (num D ds)→
  ∃(o':Sl)(h':AH),go (.pt F.kce Td.kji [(0,s.v),(4,o.v),(5,.int .i64 (i:Int))]) h=some (.tup [o'.v,.bool (decide ((digs B (num D ds)).length≤64))],h')∧Nats h' o' (digs B (num D ds))∧Grow h0 h'∧Own h0 o'
 | f,i,hf,hi4,h,o,os,M,hos,hlt,inv=>by
  by_cases hi:i<ds.length
  ·match f,hf with
   | 0,hf=>omega
   | f+1,hf =>
    rw[k1l,n.len,show decide ((i:Int)<(ds.length:Int))=true from by rw[decide_eq_true_eq];omega,cond_true];obtain⟨o',h',e1,M'⟩:=kv9 n hd (i:=i) (by omega) 4 (by omega) M (by omega);have hz:num D (((ds.drop i).take 4).drop 4)=0:=by rw[List.drop_of_length_le (by rw[List.length_take];omega)];rfl
    rw[hz]at e1
    have hne:ds.drop i≠[]:=by
     intro e;have:=congrArg List.length e;simp at this;omega
    have d4:=kbaa (fun z hz=>hd z (List.mem_of_mem_drop hz)) (kxn ht i) hne;rw[List.drop_drop]at d4
    obtain⟨o2,h2,e2,r2⟩:=ku6 n hd ht hl f (i+4) (by omega) (by omega) M' (by simp;omega) (fun z hz=>by
     rcases List.mem_append.1 hz with h1 | h1
     ·exact hlt z h1
     ·have:=kbj B2 (num D (ds.drop i));rw[d4]at this;simp at h1;subst h1;exact this _ (by simp)) (by rw[← inv,d4];simp)
    exact⟨o2,h2,e1.trans e2,r2⟩
  ·rw[k1l,n.len,show decide ((i:Int)<(ds.length:Int))=false from by rw[decide_eq_false_iff_not];omega,cond_false];rw[List.drop_of_length_le (by omega),show num D ([]:List Nat)=0 from rfl,kbv,List.append_nil]at inv
   have N:Nats h o (digs B (num D ds)):=by
    rw[← inv];exact⟨M.cells,hlt,by omega⟩
   refine⟨o,h,?_,N,M.grow,M.own_of⟩;rw[N.len,show decide (((digs B (num D ds)).length:Int)≤64)=decide ((digs B (num D ds)).length≤64)from by rw[decide_eq_decide];omega]
theorem kug{h:AH}{s:Sl}{ds:List Nat}(n:Nats h s ds)(hd:∀z∈ds,z<D)(ht:Trim ds)(hl:ds.length≤536870912):∃(o':Sl)(h':AH),go (.fn F.kce [s.v]) h=some (.tup [o'.v,.bool (decide ((digs B (num D ds)).length≤64))],h')∧Nats h' o' (digs B (num D ds))∧Grow h h'∧Own h o':=by
 rw[kbc1];exact ku6 n hd ht hl ds.length 0 (by omega) (by omega) (os:=[]) (Mine.nil h T.kf 1) (by simp) (by simp) (by simp)
theorem kbg1{h:AH}{s:Sl}{ds:List Nat}(n:Nats h s ds)(hd:∀z∈ds,z<D)(ht:Trim ds)(hl:ds.length≤536870912):∃(o':Sl)(h':AH),go (.fn F.ktg [s.v]) h=some (.tup [o'.v,.int .i64 (told (num D ds)).2],h')∧Nats h' o' (told (num D ds)).1∧Grow h h'∧Own h o':=by
 rw[kbha];obtain⟨o',h',e1,n1,g1,o1⟩:=kug n hd ht hl;rw[e1];simp only[Option.bind_some,kfu,asSl_v,kdg];unfold told;by_cases hn:num D ds<B^64
 ·have:=(kba B2 (num D ds) 64).2 hn;rw[if_pos hn,show decide ((digs B (num D ds)).length≤64)=true from decide_eq_true this];exact⟨o',h',rfl,n1,g1,o1⟩
 ·have:¬(digs B (num D ds)).length≤64:=fun h=>hn ((kba B2 _ _).1 h);rw[if_neg hn,show decide ((digs B (num D ds)).length≤64)=false from decide_eq_false this];exact⟨⟨none,0,.is 0⟩,h',rfl,Nats.nil _,g1,Own.nil h⟩
end Go.Ab

/- squeezed -/
set_option maxRecDepth 10000
namespace Go.Ab
open Go.Proofs Go.Num
theorem kqo{xs:List Nat}(hx:∀x∈xs,x<18446744073709551616)(hl:xs.length≤64):(digs D (num B xs)).length≤256:=by
 rw[kba D2];have h1:=num_lt (b:=B) (by decide) hx;have h2:B^xs.length≤B^64:=Nat.pow_le_pow_right (by decide) hl;have h3:B^64=D^256:=by decide +kernel
 omega
theorem k5z{h:AH}{s t:Sl}{xs ys:List Nat}(n:Nats h s xs)(m:Nats h t ys):∃(s':Sl)(h':AH),go (.fn F.krv [s.v,t.v]) h=some (.tup [s'.v,.int .i64 (addN xs ys).2],h')∧Nats h' s' (addN xs ys).1∧Grow h h'∧Own h s':=by
 rw[kbds,ko8 n,Option.bind_some,Option.bind_some,kdg,Option.bind_some,ko8 m,Option.bind_some,Option.bind_some,kdg,Option.bind_some];cases hx:rt xs with
 | false=>exact⟨⟨none,0,.is 0⟩,h,by simp[addN,hx],by simpa[addN,hx]using Nats.nil h,Grow.refl h,Own.nil h⟩
 | true =>
  cases hy:rt ys with
  | false=>exact⟨⟨none,0,.is 0⟩,h,by simp[addN,hy],by simpa[addN,hy]using Nats.nil h,Grow.refl h,Own.nil h⟩
  | true =>
   simp only[Bool.not_true,cond_false];rw[show addN xs ys=told (num B xs+num B ys)from by simp[addN,hx,hy]];have lx:=(rt_iff.1 hx).1;have ly:=(rt_iff.1 hy).1;obtain⟨d1,h1,e1,n1,g1,o1⟩:=knx n (by omega);obtain⟨d2,h2,e2,n2,g2,o2⟩:=knx (m.grow g1) (by omega);have k1:=kqo n.lt lx;have k2:=kqo m.lt ly;obtain⟨d3,h3,e3,n3,g3,o3⟩:=k62 (n1.grow g2) n2 (kbj D2 _) (kbj D2 _) (by omega) (by omega);rw[kg D2,kg D2]at n3
   have k3:(digs D (num B xs+num B ys)).length≤536870912:=by
    have:=kso D2 (num B xs) (num B ys);omega
   obtain⟨d4,h4,e4,n4,g4,o4⟩:=kbg1 n3 (kbj D2 _) (kdi D2 _) k3;rw[kg D2]at e4 n4;refine⟨d4,h4,?_,n4,g1.trans (g2.trans (g3.trans g4)),o4.of_le (g1.trans (g2.trans g3))⟩;simp only[e1,e2,e3,e4,Option.bind_some,asSl_v,kfu,kc]
end Go.Ab

/- squeezed -/
set_option maxRecDepth 10000
namespace Go.Ab
open Go.Proofs Go.Num
theorem kpz{h:AH}{i:Nat}{a b:Sl}{xs ys:List Nat}{p q:Bool}(c:h.has i [.bool p,a.v,.bool q,b.v] T.kn)(n:Nats h a xs)(m:Nats h b ys):∃h',go (.fn F.kib [(⟨some (.new i 0),2,.is 2⟩:Sl).v]) h=some (.bool (rtI p xs&&rtI q ys),h')∧Grow h h':=by
 have r:IRows h ⟨some (.new i 0),2,.is 2⟩ [(p,a,xs),(q,b,ys)]:=⟨Cells.of_has c rfl,fun r hr=>by
  simp at hr;rcases hr with rfl | rfl
  ·exact n
  ·exact m,by simp⟩
 obtain⟨h',e,g⟩:=kbbr r;exact⟨h',by rw[e];simp,g⟩
end Go.Ab

/- squeezed -/
set_option maxRecDepth 10000
namespace Go.Ab
open Go.Proofs Go.Num
def kbu(a1:Bool)(x2:List Nat)(a3:Bool)(x4:List Nat):Bool×List Nat×Int :=
 cond (!((rtI a1 x2&&rtI a3 x4))) ((false,[],1)) (cond (a1==a3) (((((fromI a1 ((addN x2 x4).1)).1)),(fromI a1 ((addN x2 x4).1)).2,((addN x2 x4).2))) (cond (decide ((cmpN x2 x4)<0)) (((((fromI a3 ((subN x4 x2).1)).1)),(fromI a3 ((subN x4 x2).1)).2,((subN x4 x2).2))) (((((fromI a1 ((subN x2 x4).1)).1)),(fromI a1 ((subN x2 x4).1)).2,((subN x2 x4).2)))))
theorem k46{h:AH}{a2:Sl}{x2:List Nat}{a4:Sl}{x4:List Nat}(n2:Nats h a2 x2)(n4:Nats h a4 x4)(a1 a3:Bool):Runs (go (.fn F.ksf [.agg [.bool a1,a2.v],.agg [.bool a3,a4.v]]) h) fun v h'=>∃s1:Sl,v=.tup [.agg [.bool (kbu a1 x2 a3 x4).1,s1.v],.int .i64 (kbu a1 x2 a3 x4).2.2]∧Nats h' s1 ((kbu a1 x2 a3 x4).2.1)∧Grow h h'∧Own h s1:=by
 rw[k6b];refine Runs.new fun H5 b5 g5=>?_;refine Runs.new fun H6 b6 g6=>?_;refine Runs.new fun H7 b7 g7=>?_;refine Runs.step (AH.has.rd ((g6.trans g7).has b5) 0 rfl rfl) ?_;refine Runs.step (AH.has.rd ((g6.trans g7).has b5) 1 rfl (asSl_v _)) ?_;refine Runs.step (AH.has.rd (g7.has b6) 0 rfl rfl) ?_;refine Runs.step (AH.has.rd (g7.has b6) 1 rfl (asSl_v _)) ?_;refine Runs.new fun H8 b8 g8=>?_;obtain⟨H9,e9,g9⟩:=kpz b8 (n2.grow (((g5.trans g6).trans g7).trans g8)) (n4.grow (((g5.trans g6).trans g7).trans g8));refine Runs.step e9 ?_;refine Runs.step (seen rfl) ?_;refine Runs.cond (fun k10=>?_) (fun k10=>?_)
 ·refine Runs.puts ((g8.trans g9).has b7) rfl fun H11 b11 u11=>?_;have b8_11:=AH.has.updr (g9.has b8) (Nat.ne_of_gt (Nat.lt_of_lt_of_le (b7).lt (Nat.le_refl _))) u11;refine Runs.step (AH.has.rd b11 0 rfl rfl) ?_;refine Runs.step (AH.has.rd b11 1 rfl (asSl_v _)) ?_;have z:kbu a1 x2 a3 x4=(false,[],1):=by unfold kbu;exact(condT k10).trans rfl
  rw[z];exact Runs.ret ⟨(⟨none,0,.is 0⟩:Sl),rfl,(Nats.nil _),(((((g5.trans g6).trans g7).trans g8).trans g9).updr (Nat.le_trans ((g5.trans g6)).size (Nat.le_refl _)) u11),(Own.nil _)⟩
 ·refine Runs.step (AH.has.rd ((((g6.trans g7).trans g8).trans g9).has b5) 0 rfl rfl) ?_;refine Runs.step (AH.has.rd (((g7.trans g8).trans g9).has b6) 0 rfl rfl) ?_;refine Runs.cond (fun k11=>?_) (fun k11=>?_)
  ·refine Runs.step (AH.has.rd ((((g6.trans g7).trans g8).trans g9).has b5) 1 rfl (asSl_v _)) ?_;refine Runs.step (AH.has.rd (((g7.trans g8).trans g9).has b6) 1 rfl (asSl_v _)) ?_;obtain⟨s12,H12,e12,n12,g12,o12⟩:=kn9 (n2.grow ((((g5.trans g6).trans g7).trans g8).trans g9)) (n4.grow ((((g5.trans g6).trans g7).trans g8).trans g9));refine Runs.step e12 ?_;refine Runs.step rfl ?_;refine Runs.step (seen (asSl_v _)) ?_;refine Runs.step (seen (kc _ _)) ?_;refine Runs.step (AH.has.rd (((((g6.trans g7).trans g8).trans g9).trans g12).has b5) 0 rfl rfl) ?_;obtain⟨s13,H13,e13,n13,g13,o13⟩:=kb1 n12 a1;refine Runs.step e13 ?_;refine Runs.step rfl ?_;refine Runs.ifT rfl ?_;refine Runs.step (seenAt rfl rfl) ?_;refine Runs.step (seenAt rfl (asSl_v _)) ?_;refine Runs.puts ((((g8.trans g9).trans g12).trans g13).has b7) rfl fun H14 b14 u14=>?_;have n12_14:=(n12.grow g13).upda (Av.of_own o12 ((g8.trans g9).has b7).lt) u14;have n13_14:=n13.upda (Av.of_own o13 (((g8.trans g9).trans g12).has b7).lt) u14;have b8_14:=AH.has.updr (((g9.trans g12).trans g13).has b8) (Nat.ne_of_gt (Nat.lt_of_lt_of_le (b7).lt (Nat.le_refl _))) u14;refine Runs.step (AH.has.rd b14 0 rfl rfl) ?_;refine Runs.step (AH.has.rd b14 1 rfl (asSl_v _)) ?_;have z:kbu a1 x2 a3 x4=((((fromI a1 ((addN x2 x4).1)).1)),(fromI a1 ((addN x2 x4).1)).2,((addN x2 x4).2)):=by unfold kbu;exact(condF k10).trans ((condT k11).trans rfl)
   rw[z];exact Runs.ret ⟨s13,rfl,n13_14,(((((((g5.trans g6).trans g7).trans g8).trans g9).trans g12).trans g13).updr (Nat.le_trans ((g5.trans g6)).size (Nat.le_refl _)) u14),(o13.of_le (((((g5.trans g6).trans g7).trans g8).trans g9).trans g12))⟩
  ·refine Runs.step (AH.has.rd ((((g6.trans g7).trans g8).trans g9).has b5) 1 rfl (asSl_v _)) ?_;refine Runs.step (AH.has.rd (((g7.trans g8).trans g9).has b6) 1 rfl (asSl_v _)) ?_;obtain⟨H12,e12,g12⟩:=kej (n2.grow ((((g5.trans g6).trans g7).trans g8).trans g9)) (n4.grow ((((g5.trans g6).trans g7).trans g8).trans g9));refine Runs.step e12 ?_;refine Runs.step (seen (kc _ _)) ?_;refine Runs.cond (fun k13=>?_) (fun k13=>?_)
   ·refine Runs.step (AH.has.rd ((((g7.trans g8).trans g9).trans g12).has b6) 0 rfl rfl) ?_;refine Runs.step (AH.has.rd ((((g7.trans g8).trans g9).trans g12).has b6) 1 rfl (asSl_v _)) ?_;refine Runs.step (AH.has.rd (((((g6.trans g7).trans g8).trans g9).trans g12).has b5) 0 rfl rfl) ?_;refine Runs.step (AH.has.rd (((((g6.trans g7).trans g8).trans g9).trans g12).has b5) 1 rfl (asSl_v _)) ?_;refine Runs.puts (((((g6.trans g7).trans g8).trans g9).trans g12).has b5) rfl fun H14 b14 u14=>?_;have b6_14:=AH.has.updr ((((g7.trans g8).trans g9).trans g12).has b6) (Nat.ne_of_gt (Nat.lt_of_lt_of_le (b5).lt (Nat.le_refl _))) u14;have b7_14:=AH.has.updr (((g8.trans g9).trans g12).has b7) (Nat.ne_of_gt (Nat.lt_of_lt_of_le (g6.has b5).lt (Nat.le_refl _))) u14;have b8_14:=AH.has.updr ((g9.trans g12).has b8) (Nat.ne_of_gt (Nat.lt_of_lt_of_le ((g6.trans g7).has b5).lt (Nat.le_refl _))) u14;refine Runs.puts b6_14 rfl fun H15 b15 u15=>?_;have b14_15:=AH.has.updr b14 (Nat.ne_of_lt (Nat.lt_of_lt_of_le (b5).lt (Nat.le_refl _))) u15;have b7_15:=AH.has.updr b7_14 (Nat.ne_of_gt (Nat.lt_of_lt_of_le (b6).lt (Nat.le_refl _))) u15;have b8_15:=AH.has.updr b8_14 (Nat.ne_of_gt (Nat.lt_of_lt_of_le (g7.has b6).lt (Nat.le_refl _))) u15;refine Runs.step (AH.has.rd b14_15 1 rfl (asSl_v _)) ?_;refine Runs.step (AH.has.rd b15 1 rfl (asSl_v _)) ?_;obtain⟨s16,H16,e16,n16,g16,o16⟩:=klk (n4.grow (((((((g5.trans g6).trans g7).trans g8).trans g9).trans g12).updr (Nat.le_refl _) u14).updr (Nat.le_trans (g5).size (Nat.le_refl _)) u15)) (n2.grow (((((((g5.trans g6).trans g7).trans g8).trans g9).trans g12).updr (Nat.le_refl _) u14).updr (Nat.le_trans (g5).size (Nat.le_refl _)) u15));refine Runs.step e16 ?_;refine Runs.step rfl ?_;refine Runs.step (seen (asSl_v _)) ?_;refine Runs.step (seen (kc _ _)) ?_;refine Runs.step (AH.has.rd (g16.has b14_15) 0 rfl rfl) ?_;obtain⟨s17,H17,e17,n17,g17,o17⟩:=kb1 n16 a3;refine Runs.step e17 ?_;refine Runs.step rfl ?_;refine Runs.ifT rfl ?_;refine Runs.step (seenAt rfl rfl) ?_;refine Runs.step (seenAt rfl (asSl_v _)) ?_;refine Runs.puts ((g16.trans g17).has b7_15) rfl fun H18 b18 u18=>?_;have n16_18:=(n16.grow g17).upda (Av.of_own o16 (b7_15).lt) u18;have n17_18:=n17.upda (Av.of_own o17 (g16.has b7_15).lt) u18;have b14_18:=AH.has.updr ((g16.trans g17).has b14_15) (Nat.ne_of_lt (Nat.lt_of_lt_of_le (g6.has b5).lt (Nat.le_refl _))) u18;have b15_18:=AH.has.updr ((g16.trans g17).has b15) (Nat.ne_of_lt (Nat.lt_of_lt_of_le (b6).lt (Nat.le_refl _))) u18;have b8_18:=AH.has.updr ((g16.trans g17).has b8_15) (Nat.ne_of_gt (Nat.lt_of_lt_of_le (b7).lt (Nat.le_refl _))) u18;refine Runs.step (AH.has.rd b18 0 rfl rfl) ?_;refine Runs.step (AH.has.rd b18 1 rfl (asSl_v _)) ?_;have z:kbu a1 x2 a3 x4=((((fromI a3 ((subN x4 x2).1)).1)),(fromI a3 ((subN x4 x2).1)).2,((subN x4 x2).2)):=by unfold kbu;exact(condF k10).trans ((condF k11).trans ((condT k13).trans rfl))
    rw[z];exact Runs.ret ⟨s17,rfl,n17_18,((((((((((g5.trans g6).trans g7).trans g8).trans g9).trans g12).updr (Nat.le_refl _) u14).updr (Nat.le_trans (g5).size (Nat.le_refl _)) u15).trans g16).trans g17).updr (Nat.le_trans ((g5.trans g6)).size (Nat.le_refl _)) u18),(o17.of_le ((((((((g5.trans g6).trans g7).trans g8).trans g9).trans g12).updr (Nat.le_refl _) u14).updr (Nat.le_trans (g5).size (Nat.le_refl _)) u15).trans g16))⟩
   ·refine Runs.step (AH.has.rd (((((g6.trans g7).trans g8).trans g9).trans g12).has b5) 1 rfl (asSl_v _)) ?_;refine Runs.step (AH.has.rd ((((g7.trans g8).trans g9).trans g12).has b6) 1 rfl (asSl_v _)) ?_;obtain⟨s14,H14,e14,n14,g14,o14⟩:=klk (n2.grow (((((g5.trans g6).trans g7).trans g8).trans g9).trans g12)) (n4.grow (((((g5.trans g6).trans g7).trans g8).trans g9).trans g12));refine Runs.step e14 ?_;refine Runs.step rfl ?_;refine Runs.step (seen (asSl_v _)) ?_;refine Runs.step (seen (kc _ _)) ?_;refine Runs.step (AH.has.rd ((((((g6.trans g7).trans g8).trans g9).trans g12).trans g14).has b5) 0 rfl rfl) ?_;obtain⟨s15,H15,e15,n15,g15,o15⟩:=kb1 n14 a1;refine Runs.step e15 ?_;refine Runs.step rfl ?_;refine Runs.ifT rfl ?_;refine Runs.step (seenAt rfl rfl) ?_;refine Runs.step (seenAt rfl (asSl_v _)) ?_;refine Runs.puts (((((g8.trans g9).trans g12).trans g14).trans g15).has b7) rfl fun H16 b16 u16=>?_;have n14_16:=(n14.grow g15).upda (Av.of_own o14 (((g8.trans g9).trans g12).has b7).lt) u16;have n15_16:=n15.upda (Av.of_own o15 ((((g8.trans g9).trans g12).trans g14).has b7).lt) u16;have b8_16:=AH.has.updr ((((g9.trans g12).trans g14).trans g15).has b8) (Nat.ne_of_gt (Nat.lt_of_lt_of_le (b7).lt (Nat.le_refl _))) u16;refine Runs.step (AH.has.rd b16 0 rfl rfl) ?_;refine Runs.step (AH.has.rd b16 1 rfl (asSl_v _)) ?_;have z:kbu a1 x2 a3 x4=((((fromI a1 ((subN x2 x4).1)).1)),(fromI a1 ((subN x2 x4).1)).2,((subN x2 x4).2)):=by unfold kbu;exact(condF k10).trans ((condF k11).trans ((condF k13).trans rfl))
    rw[z];exact Runs.ret ⟨s15,rfl,n15_16,((((((((g5.trans g6).trans g7).trans g8).trans g9).trans g12).trans g14).trans g15).updr (Nat.le_trans ((g5.trans g6)).size (Nat.le_refl _)) u16),(o15.of_le ((((((g5.trans g6).trans g7).trans g8).trans g9).trans g12).trans g14))⟩
theorem rtI_rt{p:Bool}{xs:List Nat}(h:rtI p xs=true):rt xs=true:=by
 unfold rtI at h;revert h;cases rt xs<;>simp
def ky(a1:Bool)(x2:List Nat)(a3:Bool)(x4:List Nat):Bool×List Nat×Int :=
 cond (!((rtI a1 x2&&rtI a3 x4))) ((false,[],1)) (((((kbu a1 x2 ((negI a3 x4).1) ((negI a3 x4).2)).1)),(kbu a1 x2 ((negI a3 x4).1) ((negI a3 x4).2)).2.1,((kbu a1 x2 ((negI a3 x4).1) ((negI a3 x4).2)).2.2)))
theorem kw5{h:AH}{a2:Sl}{x2:List Nat}{a4:Sl}{x4:List Nat}(n2:Nats h a2 x2)(n4:Nats h a4 x4)(a1 a3:Bool):Runs (go (.fn F.kna [.agg [.bool a1,a2.v],.agg [.bool a3,a4.v]]) h) fun v h'=>∃s1:Sl,v=.tup [.agg [.bool (ky a1 x2 a3 x4).1,s1.v],.int .i64 (ky a1 x2 a3 x4).2.2]∧Nats h' s1 ((ky a1 x2 a3 x4).2.1)∧Grow h h'∧Own h s1:=by
 rw[kbas];refine Runs.new fun H5 b5 g5=>?_;refine Runs.new fun H6 b6 g6=>?_;refine Runs.new fun H7 b7 g7=>?_;refine Runs.step (AH.has.rd ((g6.trans g7).has b5) 0 rfl rfl) ?_;refine Runs.step (AH.has.rd ((g6.trans g7).has b5) 1 rfl (asSl_v _)) ?_;refine Runs.step (AH.has.rd (g7.has b6) 0 rfl rfl) ?_;refine Runs.step (AH.has.rd (g7.has b6) 1 rfl (asSl_v _)) ?_;refine Runs.new fun H8 b8 g8=>?_;obtain⟨H9,e9,g9⟩:=kpz b8 (n2.grow (((g5.trans g6).trans g7).trans g8)) (n4.grow (((g5.trans g6).trans g7).trans g8));refine Runs.step e9 ?_;refine Runs.step (seen rfl) ?_;refine Runs.cond (fun k10=>?_) (fun k10=>?_)
 ·refine Runs.puts ((g8.trans g9).has b7) rfl fun H11 b11 u11=>?_;have b8_11:=AH.has.updr (g9.has b8) (Nat.ne_of_gt (Nat.lt_of_lt_of_le (b7).lt (Nat.le_refl _))) u11;refine Runs.step (AH.has.rd b11 0 rfl rfl) ?_;refine Runs.step (AH.has.rd b11 1 rfl (asSl_v _)) ?_;have z:ky a1 x2 a3 x4=(false,[],1):=by unfold ky;exact(condT k10).trans rfl
  rw[z];exact Runs.ret ⟨(⟨none,0,.is 0⟩:Sl),rfl,(Nats.nil _),(((((g5.trans g6).trans g7).trans g8).trans g9).updr (Nat.le_trans ((g5.trans g6)).size (Nat.le_refl _)) u11),(Own.nil _)⟩
 ·refine Runs.step (AH.has.rd ((((g6.trans g7).trans g8).trans g9).has b5) 0 rfl rfl) ?_;refine Runs.step (AH.has.rd ((((g6.trans g7).trans g8).trans g9).has b5) 1 rfl (asSl_v _)) ?_;refine Runs.step (AH.has.rd (((g7.trans g8).trans g9).has b6) 0 rfl rfl) ?_;refine Runs.step (AH.has.rd (((g7.trans g8).trans g9).has b6) 1 rfl (asSl_v _)) ?_;obtain⟨s11,H11,e11,n11,g11,o11⟩:=kbad (n4.grow ((((g5.trans g6).trans g7).trans g8).trans g9)) a3;refine Runs.step e11 ?_;refine Runs.step rfl ?_;refine Runs.ifT rfl ?_;refine Runs.step (seenAt rfl rfl) ?_;refine Runs.step (seenAt rfl (asSl_v _)) ?_;refine Runs.when (g11.same ((((g6.trans g7).trans g8).trans g9).has b5) 0 2) ?_;obtain⟨_,H12,e12,s12,rfl,n12,g12,o12⟩:=k46 (n2.grow (((((g5.trans g6).trans g7).trans g8).trans g9).trans g11)) n11 a1 ((negI a3 x4).1);refine Runs.step e12 ?_;refine Runs.step rfl ?_;refine Runs.step rfl ?_;refine Runs.ifT rfl ?_;refine Runs.step (seenAt rfl rfl) ?_;refine Runs.step (seenAt rfl (asSl_v _)) ?_;refine Runs.step (seen (kc _ _)) ?_;refine Runs.puts ((((g8.trans g9).trans g11).trans g12).has b7) rfl fun H13 b13 u13=>?_;have n11_13:=(n11.grow g12).upda (Av.of_own o11 ((g8.trans g9).has b7).lt) u13;have n12_13:=n12.upda (Av.of_own o12 (((g8.trans g9).trans g11).has b7).lt) u13;have b8_13:=AH.has.updr (((g9.trans g11).trans g12).has b8) (Nat.ne_of_gt (Nat.lt_of_lt_of_le (b7).lt (Nat.le_refl _))) u13;refine Runs.step (AH.has.rd b13 0 rfl rfl) ?_;refine Runs.step (AH.has.rd b13 1 rfl (asSl_v _)) ?_;have z:ky a1 x2 a3 x4=((((kbu a1 x2 ((negI a3 x4).1) ((negI a3 x4).2)).1)),(kbu a1 x2 ((negI a3 x4).1) ((negI a3 x4).2)).2.1,((kbu a1 x2 ((negI a3 x4).1) ((negI a3 x4).2)).2.2)):=by unfold ky;exact(condF k10).trans rfl
  rw[z];exact Runs.ret ⟨s12,rfl,n12_13,(((((((g5.trans g6).trans g7).trans g8).trans g9).trans g11).trans g12).updr (Nat.le_trans ((g5.trans g6)).size (Nat.le_refl _)) u13),(o12.of_le (((((g5.trans g6).trans g7).trans g8).trans g9).trans g11))⟩
end Go.Ab

/- squeezed -/
set_option maxRecDepth 10000
namespace Go.Ab
open Go.Proofs Go.Num
theorem kbz(x n:Nat):ishr .u64 (x:Int) (n:Int)=((x/2^min n 64:Nat):Int):=by
 unfold ishr;rw[Int.toNat_natCast,show IntKind.bits .u64=64 from rfl];have:((2:Int)^min n 64)=((2^min n 64:Nat):Int):=by simp
 rw[this,Int.fdiv_eq_ediv_of_nonneg _ (Int.natCast_nonneg _)];exact(Int.natCast_ediv _ _).symm
theorem kmg{x:Nat}(hx:x<18446744073709551616):iand .u64 (x:Int) 4294967295=((x%4294967296:Nat):Int):=by
 unfold iand;rw[show IntKind.bits .u64=64 from rfl,wrapU];have e1:BitVec.ofInt 64 (x:Int)=BitVec.ofNat 64 x:=rfl;have e2:BitVec.ofInt 64 4294967295=BitVec.ofNat 64 4294967295:=rfl;rw[e1,e2,BitVec.toNat_and,BitVec.toNat_ofNat,BitVec.toNat_ofNat];rw[Nat.mod_eq_of_lt (show x<2^64 from hx),Nat.mod_eq_of_lt (show 4294967295<2^64 from by decide)];rw[show(4294967295:Nat)=2^32-1 from rfl,Nat.and_two_pow_sub_one_eq_mod];have:=Nat.mod_lt x (show 0<2^32 by decide);omega
def mul64(a1 a2:Int):Int×Int:=((IntKind.wrap .u64 ((IntKind.wrap .u64 ((IntKind.wrap .u64 ((ishr .u64 a1 32)*(ishr .u64 a2 32)))+(ishr .u64 (IntKind.wrap .u64 ((IntKind.wrap .u64 ((ishr .u64 a1 32)*(iand .u64 a2 4294967295)))+(ishr .u64 (IntKind.wrap .u64 ((iand .u64 a1 4294967295)*(iand .u64 a2 4294967295))) 32))) 32)))+(ishr .u64 (IntKind.wrap .u64 ((iand .u64 (IntKind.wrap .u64 ((IntKind.wrap .u64 ((ishr .u64 a1 32)*(iand .u64 a2 4294967295)))+(ishr .u64 (IntKind.wrap .u64 ((iand .u64 a1 4294967295)*(iand .u64 a2 4294967295))) 32))) 4294967295)+(IntKind.wrap .u64 ((iand .u64 a1 4294967295)*(ishr .u64 a2 32))))) 32))),IntKind.wrap .u64 (a1*a2))
theorem ktd(a1 a2:Int){h:AH}:go (.fn F.kj8 [.int .u64 a1,.int .u64 a2]) h=some (.tup [.int .u64 (mul64 a1 a2).1,.int .u64 (mul64 a1 a2).2],h):=k4a a1 a2 h
theorem k9p(x1 x0 y1 y0:Nat):(x1*4294967296+x0)*(y1*4294967296+y0)=x1*y1*18446744073709551616+(x1*y0+x0*y1)*4294967296+x0*y0:=by
 rw[Nat.add_mul,Nat.mul_add,Nat.mul_add]
 have e1:x1*4294967296*(y1*4294967296)=x1*y1*18446744073709551616:=by
  rw[Nat.mul_mul_mul_comm]
 have e2:x1*4294967296*y0=x1*y0*4294967296:=by rw[Nat.mul_right_comm]
 have e3:x0*(y1*4294967296)=x0*y1*4294967296:=by rw[Nat.mul_assoc]
 rw[e1,e2,e3];omega
theorem ksw{x y:Nat}(hx:x<B)(hy:y<B):mul64 (x:Int) (y:Int)=(((x*y/B:Nat):Int),((x*y%B:Nat):Int)):=by
 have hx:x<18446744073709551616:=hx;have hy:y<18446744073709551616:=hy;unfold mul64;have s1:=kbz x 32;have s2:=kbz y 32;have a1:=kmg hx;have a2:=kmg hy;have p32:(2:Nat)^min 32 64=4294967296:=rfl;rw[p32]at s1 s2;rw[show((32:Nat):Int)=32 from rfl]at s1 s2;rw[s1,s2,a1,a2];generalize hx1:x/4294967296=x1;generalize hx0:x%4294967296=x0;generalize hy1:y/4294967296=y1;generalize hy0:y%4294967296=y0;have ex:x=x1*4294967296+x0:=by omega
 have ey:y=y1*4294967296+y0:=by omega
 have l1:x1≤4294967295:=by omega
 have l2:x0≤4294967295:=by omega
 have l3:y1≤4294967295:=by omega
 have l4:y0≤4294967295:=by omega
 have b1:x1*y1≤4294967295*4294967295:=Nat.mul_le_mul l1 l3;have b2:x1*y0≤4294967295*4294967295:=Nat.mul_le_mul l1 l4;have b3:x0*y1≤4294967295*4294967295:=Nat.mul_le_mul l2 l3;have b4:x0*y0≤4294967295*4294967295:=Nat.mul_le_mul l2 l4;have key:=k9p x1 x0 y1 y0;rw[← ex,← ey]at key;have w1:IntKind.wrap .u64 (((x0:Nat):Int)*((y0:Nat):Int))=((x0*y0:Nat):Int):=by rw[wrapU,← Int.natCast_mul];omega
 have w2:IntKind.wrap .u64 (((x1:Nat):Int)*((y0:Nat):Int))=((x1*y0:Nat):Int):=by rw[wrapU,← Int.natCast_mul];omega
 have w3:IntKind.wrap .u64 (((x0:Nat):Int)*((y1:Nat):Int))=((x0*y1:Nat):Int):=by rw[wrapU,← Int.natCast_mul];omega
 have w4:IntKind.wrap .u64 (((x1:Nat):Int)*((y1:Nat):Int))=((x1*y1:Nat):Int):=by rw[wrapU,← Int.natCast_mul];omega
 rw[w1,w2,w3,w4]
 have lo:IntKind.wrap .u64 ((x:Int)*(y:Int))=((x*y%B:Nat):Int):=by
  rw[wrapU,← Int.natCast_mul];rfl
 rw[lo];generalize x0*y0=p at *
 generalize x1*y0=q at *
 generalize x0*y1=u at *
 generalize x1*y1=v at *
 have s3:=kbz p 32;rw[p32]at s3;rw[show((32:Nat):Int)=32 from rfl]at s3;rw[s3];have w5:IntKind.wrap .u64 (((q:Nat):Int)+((p/4294967296:Nat):Int))=((q+p/4294967296:Nat):Int):=by rw[wrapU];omega
 rw[w5];have ht:q+p/4294967296<18446744073709551616:=by omega
 have s4:=kbz (q+p/4294967296) 32;rw[p32]at s4;rw[show((32:Nat):Int)=32 from rfl]at s4;rw[s4,kmg ht];generalize ht':q+p/4294967296=t at *
 have w6:IntKind.wrap .u64 (((t%4294967296:Nat):Int)+((u:Nat):Int))=((t%4294967296+u:Nat):Int):=by rw[wrapU];omega
 rw[w6];have s5:=kbz (t%4294967296+u) 32;rw[p32]at s5;rw[show((32:Nat):Int)=32 from rfl]at s5;rw[s5];have w7:IntKind.wrap .u64 (((v:Nat):Int)+((t/4294967296:Nat):Int))=((v+t/4294967296:Nat):Int):=by rw[wrapU];omega
 rw[w7];have w8:IntKind.wrap .u64 (((v+t/4294967296:Nat):Int)+(((t%4294967296+u)/4294967296:Nat):Int))=((v+t/4294967296+(t%4294967296+u)/4294967296:Nat):Int):=by rw[wrapU];omega
 rw[w8]
 have hi:v+t/4294967296+(t%4294967296+u)/4294967296=x*y/18446744073709551616:=by
  rw[key];omega
 rw[hi]
end Go.Ab

/- squeezed -/
set_option maxRecDepth 10000
namespace Go.Ab
open Go.Proofs Go.Num
inductive kfd
 | fn (x1:List Nat) (x2:List Nat)
 | p3 (x1:List Nat) (x2:List Nat) (x3:List Nat) (a4:Int) (a5:Int)
 | p7 (x1:List Nat) (x2:List Nat) (a3:Int) (a4:Int) (a5:Int) (x6:List Nat) (a7:Int) (a8:Int) (x9:List Nat) (a10:Int) (a11:Int)
abbrev kcw:=List Nat
noncomputable def kkb(x1 x2:List Nat):Option (kfd⊕kcw) :=
 (mkI (IntKind.wrap .i64 ((List.length x1:Int)+(List.length x2:Int))) (IntKind.wrap .i64 ((List.length x1:Int)+(List.length x2:Int)))).bind fun m3=>some (.inl (.p3 x2 (List.replicate m3 0) x1 (List.length x1:Int) 0))
noncomputable def khn(x1 x2 x3:List Nat)(a4 a5:Int):Option (kfd⊕kcw) :=
 cond (decide (a5<a4)) ((atI x3 a5).bind fun y7=>some (.inl (.p7 x1 x2 a5 ((y7:Int)) 0 x3 a4 a5 x1 (List.length x1:Int) 0))) (some (.inr (digs B (num B x2))))
noncomputable def kim(x1 x2:List Nat)(a3 a4 a5:Int)(x6:List Nat)(a7 a8:Int)(x9:List Nat)(a10 a11:Int):Option (kfd⊕kcw) :=
 cond (decide (a11<a10)) ((atI x9 a11).bind fun y13=>(inI (List.length x2) (IntKind.wrap .i64 (a3+a11))).bind fun j15=>(add64P ((mul64 a4 ((y13:Int))).2) (((List.getD x2 j15 0:Nat):Int)) 0).bind fun p16=>(add64P (p16.1) a5 0).bind fun p17=>(inI (List.length x2) (IntKind.wrap .i64 (a3+a11))).bind fun j18=>(u64P (p17.1)).bind fun w19=>some (.inl (.p7 x1 (List.set x2 j18 w19) a3 a4 (IntKind.wrap .u64 ((IntKind.wrap .u64 (((mul64 a4 ((y13:Int))).1)+(p16.2)))+(p17.2))) x6 a7 a8 x9 a10 (IntKind.wrap .i64 (a11+1))))) ((inI (List.length x2) (IntKind.wrap .i64 (a3+(List.length x1:Int)))).bind fun j13=>(u64P a5).bind fun w14=>some (.inl (.p3 x1 (List.set x2 j13 w14) x6 a7 (IntKind.wrap .i64 (a8+1)))))
noncomputable def kmm:kfd→Option (kfd⊕kcw)
 | .fn x1 x2=>kkb x1 x2
 | .p3 x1 x2 x3 a4 a5=>khn x1 x2 x3 a4 a5
 | .p7 x1 x2 a3 a4 a5 x6 a7 a8 x9 a10 a11=>kim x1 x2 a3 a4 a5 x6 a7 a8 x9 a10 a11
@[reducible] def ktu(h0:AH)(r:kcw)(v:AV)(h':AH):Prop:=∃s1:Sl,v=s1.v∧Nats h' s1 r∧Grow h0 h'∧Own h0 s1
def khe(r:kcw):kfd→Prop
 | .fn x1 x2=>∀{h:AH}{a1:Sl}{a2:Sl},Nats h a1 x1→Nats h a2 x2→Runs (go (.fn F.kcx [a1.v,a2.v]) h) (ktu h r)
 | .p3 x1 x2 x3 a4 a5=>∀{h0 h:AH}{a1:Sl}{a2:Sl}{a3:Sl}{i2:Nat},Grow h0 h→Nats h a1 x1→Vec h a2 i2 x2→Nats h a3 x3→h0.blks.size≤i2→Av a1 i2 x1→Av a3 i2 x3→Runs (go (.pt F.kcx Td.kob [(1,a1.v),(5,a2.v),(20,a3.v),(21,.int .i64 a4),(22,.int .i64 a5)]) h) (ktu h0 r)
 | .p7 x1 x2 a3 a4 a5 x6 a7 a8 x9 a10 a11=>∀{h0 h:AH}{a1:Sl}{a2:Sl}{a6:Sl}{a9:Sl}{i2:Nat},Grow h0 h→Nats h a1 x1→Vec h a2 i2 x2→Nats h a6 x6→Nats h a9 x9→h0.blks.size≤i2→Av a1 i2 x1→Av a6 i2 x6→Av a9 i2 x9→Runs (go (.pt F.kcx Td.kpt [(1,a1.v),(5,a2.v),(6,.int .i64 a3),(7,.int .u64 a4),(8,.int .u64 a5),(20,a6.v),(21,.int .i64 a7),(22,.int .i64 a8),(27,a9.v),(28,.int .i64 a10),(29,.int .i64 a11)]) h) (ktu h0 r)
theorem kbgt{r:kcw}{o:kfd⊕kcw}{x1 x2:List Nat}(e:kkb x1 x2=some o)(good:GoodS (khe r) r o):khe r (.fn x1 x2):=by
 intro h a1 a2 n1 n2;rw[k3d];unfold kkb at e;rw[n1.len];rw[n2.len];obtain⟨m3,q3,e⟩:=Option.bind_eq_some_iff.1 e;refine Runs.mk q3 kc2 fun s3 H3 v3 g3=>?_;cases e;exact good g3 (n2.grow g3) v3 (n1.grow g3) (Nat.le_refl _) (Av.of_base n2 (Nat.le_refl _)) (Av.of_base n1 (Nat.le_refl _))
theorem k8q{r:kcw}{o:kfd⊕kcw}{x1 x2 x3:List Nat}{a4 a5:Int}(e:khn x1 x2 x3 a4 a5=some o)(good:GoodS (khe r) r o):khe r (.p3 x1 x2 x3 a4 a5):=by
 intro h0 h a1 a2 a3 i2 g0 n1 v2 n3 hi2 av1_2 av3_2;rw[kbfq];unfold khn at e;rw[n1.len];rw[n3.len];refine Runs.cond (fun k6=>?_) (fun k6=>?_)
 ·replace e:=(condT k6).symm.trans e;obtain⟨y7,q7,e⟩:=Option.bind_eq_some_iff.1 e;obtain⟨r7,j7,l7⟩:=n3.atI q7;refine Runs.step j7 ?_;refine Runs.step (rdc l7 (kc _ _)) ?_;cases e;exact good g0 n1 v2 n3 n1 hi2 av1_2 av3_2 av1_2
 ·replace e:=(condF k6).symm.trans e;obtain⟨s7,e7,n7,o7⟩:=kdw v2.nats;refine Runs.step e7 ?_;refine Runs.step (seen (asSl_v _)) ?_;cases e;cases good;exact Runs.ret ⟨s7,rfl,n7,g0,((o7 _ (v2.own hi2)).of_le (Grow.refl _))⟩
theorem k3u{r:kcw}{o:kfd⊕kcw}{x1 x2:List Nat}{a3 a4 a5:Int}{x6:List Nat}{a7 a8:Int}{x9:List Nat}{a10 a11:Int}(e:kim x1 x2 a3 a4 a5 x6 a7 a8 x9 a10 a11=some o)(good:GoodS (khe r) r o):khe r (.p7 x1 x2 a3 a4 a5 x6 a7 a8 x9 a10 a11):=by
 intro h0 h a1 a2 a6 a9 i2 g0 n1 v2 n6 n9 hi2 av1_2 av6_2 av9_2;rw[k5m];unfold kim at e;rw[n1.len];rw[v2.nats.len];rw[n9.len];refine Runs.cond (fun k12=>?_) (fun k12=>?_)
 ·replace e:=(condT k12).symm.trans e;obtain⟨y13,q13,e⟩:=Option.bind_eq_some_iff.1 e;obtain⟨r13,j13,l13⟩:=n9.atI q13;refine Runs.step j13 ?_;refine Runs.step (rdc l13 (kc _ _)) ?_;refine Runs.step (ktd a4 ((y13:Int))) ?_;refine Runs.step rfl ?_;refine Runs.step (seen (kc _ _)) ?_;refine Runs.step (seen (kc _ _)) ?_;obtain⟨j15,q15,e⟩:=Option.bind_eq_some_iff.1 e;refine Runs.step (v2.idx rfl q15) ?_;refine Runs.step (v2.rd rfl q15 (kc _ _)) ?_;obtain⟨p16,q16,e⟩:=Option.bind_eq_some_iff.1 e;refine Runs.step (ke6 q16) ?_;refine Runs.step rfl ?_;refine Runs.step (seen (kc _ _)) ?_;refine Runs.step (seen (kc _ _)) ?_;obtain⟨p17,q17,e⟩:=Option.bind_eq_some_iff.1 e;refine Runs.step (ke6 q17) ?_;refine Runs.step rfl ?_;refine Runs.step (seen (kc _ _)) ?_;refine Runs.step (seen (kc _ _)) ?_;obtain⟨j18,q18,e⟩:=Option.bind_eq_some_iff.1 e;refine Runs.step (v2.idx rfl q18) ?_;obtain⟨w19,z19,e⟩:=Option.bind_eq_some_iff.1 e;refine Runs.vput v2 rfl q18 z19 fun H19 v19 u19=>?_;have n1_19:=n1.upda av1_2 u19;have n6_19:=n6.upda av6_2 u19;have n9_19:=n9.upda av9_2 u19;cases e;exact good (g0.updr hi2 u19) n1_19 v19 n6_19 n9_19 hi2 av1_2 av6_2 av9_2
 ·replace e:=(condF k12).symm.trans e;obtain⟨j13,q13,e⟩:=Option.bind_eq_some_iff.1 e;refine Runs.step (v2.idx rfl q13) ?_;obtain⟨w14,z14,e⟩:=Option.bind_eq_some_iff.1 e;refine Runs.vput v2 rfl q13 z14 fun H14 v14 u14=>?_;have n1_14:=n1.upda av1_2 u14;have n6_14:=n6.upda av6_2 u14;have n9_14:=n9.upda av9_2 u14;cases e;exact good (g0.updr hi2 u14) n1_14 v14 n6_14 hi2 av1_2 av6_2
theorem kbgx{s:kfd}{r:kcw}(it:Iter kmm s r):khe r s:=Iter.ind (fun s o e good=>by
 cases s with
 | fn x1 x2=>exact @kbgt _ _ x1 x2 e good
 | p3 x1 x2 x3 a4 a5=>exact @k8q _ _ x1 x2 x3 a4 a5 e good
 | p7 x1 x2 a3 a4 a5 x6 a7 a8 x9 a10 a11=>exact @k3u _ _ x1 x2 a3 a4 a5 x6 a7 a8 x9 a10 a11 e good
 ) it
end Go.Ab

/- squeezed -/
set_option maxRecDepth 10000
namespace Go.Ab
open Go.Proofs Go.Num
theorem k6a{t o c:Nat}(ho:o<18446744073709551616)(hc:c<18446744073709551616)(h:(t+o+c)/18446744073709551616<18446744073709551616) :
  ((t%18446744073709551616+o+0)%18446744073709551616+c+0)%18446744073709551616=(t+o+c)%18446744073709551616∧
  IntKind.wrap .u64 (IntKind.wrap .u64 (((t/18446744073709551616:Nat):Int)+(((t%18446744073709551616+o+0)/18446744073709551616:Nat):Int))+((((t%18446744073709551616+o+0)%18446744073709551616+c+0)/18446744073709551616:Nat):Int))=(((t+o+c)/18446744073709551616:Nat):Int):=by
 rw[wrapU,wrapU];omega
def Empty(o:List Nat)(k:Nat):Prop:=∀j (h:j<o.length),k≤j→o[j]=0
theorem Empty.set{o:List Nat}{k j w:Nat}(z:Empty o k)(hj:j<k):Empty (o.set j w) k:=fun t ht hk=>by
 rw[List.getElem_set_ne (by omega)];exact z t (by simpa using ht) hk
theorem Empty.succ{o:List Nat}{k:Nat}(z:Empty o k):Empty o (k+1):=fun t ht hk=>z t ht (by omega)
theorem set_lt{b:Nat}{o:List Nat}{j w:Nat}(h:∀x∈o,x<b)(hw:w<b):∀x∈o.set j w,x<b:=fun x hx=>by
 rcases List.mem_or_eq_of_mem_set hx with h1 | h1
 ·exact h x h1
 ·rw[h1];exact hw
theorem kvb{xs ys:List Nat}{r:kcw}{i x T:Nat}(hx:x<B)(ly:∀y∈ys,y<B)(hn:xs.length+ys.length≤8796093022208)(hi:i<xs.length)
  (K:∀o:List Nat,o.length=xs.length+ys.length→(∀y∈o,y<B)→Empty o (i+1+ys.length)→num B o=T+B^i*(x*num B ys)→Iter kmm (.p3 ys o xs (xs.length:Int) ((i+1:Nat):Int)) r) :
  ∀(d k:Nat),k+d=ys.length→∀(o:List Nat)(c:Nat),o.length=xs.length+ys.length→(∀y∈o,y<B)→Empty o (i+ys.length)→c<B→Row B o i k c x ys T→
   Iter kmm (.p7 ys o (i:Int) (x:Int) (c:Int) xs (xs.length:Int) (i:Int) ys (ys.length:Int) (k:Int)) r
 | 0,k,hk,o,c,lo,to,zo,hc,row=>by
  have hk:k=ys.length:=by omega
  subst hk;have hj:i+ys.length<o.length:=by omega
  refine .next ?_ (K (o.set (i+ys.length) c) (by simpa using lo) (set_lt to hc) ?_ ?_)
  ·show kim _ _ _ _ _ _ _ _ _ _ _=_;unfold kim;rw[condF (by rw[decide_eq_false_iff_not];omega),← Int.natCast_add,kbh (by omega),kw hj,Option.bind_some,kbb hc,Option.bind_some,ki (by omega)]
  ·rw[show i+1+ys.length=i+ys.length+1 from by omega];intro j h1 h2;rw[List.getElem_set_ne (by omega)];exact zo j (by simpa using h1) (by omega)
  ·exact row.stop hj (zo _ hj (Nat.le_refl _))
 | d+1,k,hk,o,c,lo,to,zo,hc,row=>by
  have hk':k<ys.length:=by omega
  have hj:i+k<o.length:=by omega
  have hy:=ly ys[k] (List.getElem_mem _);have ho:=to o[i+k] (List.getElem_mem _);have hc':=kr1 hx hy ho hc;obtain⟨c1,c2⟩:=k6a ho hc hc';have hl:=Nat.mod_lt (x*ys[k]+o[i+k]+c) (show 0<18446744073709551616 by omega);refine .next ?_ (kvb hx ly hn hi K d (k+1) (by omega) (o.set (i+k) ((x*ys[k]+o[i+k]+c)%18446744073709551616)) ((x*ys[k]+o[i+k]+c)/18446744073709551616) (by simpa using lo) (set_lt to hl) (zo.set (by omega)) hc' (row.step hk' hj (Nat.div_add_mod' _ _).symm))
  ·show kim _ _ _ _ _ _ _ _ _ _ _=_;unfold kim;rw[condT (by rw[decide_eq_true_eq];omega),kbn hk',Option.bind_some,← Int.natCast_add,kbh (by omega),kw hj,Option.bind_some,ksw hx hy];dsimp only;rw[show List.getD o (i+k) 0=o[i+k]from kbi hj];have a1:=kgw (x*ys[k]%B) o[i+k] (c:=0) (by omega);have a2:=kgw ((x*ys[k]%B+o[i+k]+0)%18446744073709551616) c (c:=0) (by omega);rw[show((0:Nat):Int)=0 from rfl]at a1 a2;rw[a1,Option.bind_some];dsimp only;rw[a2,Option.bind_some,Option.bind_some];dsimp only;rw[c1,c2,kbb hl,Option.bind_some,ki (by omega)]
theorem kyn{xs ys:List Nat}(lx:∀x∈xs,x<B)(ly:∀y∈ys,y<B)(hn:xs.length+ys.length≤8796093022208) :
  ∀(d i:Nat),i+d=xs.length→∀(o:List Nat),o.length=xs.length+ys.length→(∀y∈o,y<B)→Empty o (i+ys.length)→num B o=num B (xs.take i)*num B ys→
   Iter kmm (.p3 ys o xs (xs.length:Int) (i:Int)) (digs B (num B xs*num B ys))
 | 0,i,hi,o,lo,to,zo,e=>by
  have hi:i=xs.length:=by omega
  subst hi;rw[List.take_length]at e;refine .done ?_;show khn _ _ _ _ _=_;unfold khn;rw[condF (by rw[decide_eq_false_iff_not];omega),e]
 | d+1,i,hi,o,lo,to,zo,e=>by
  have hi':i<xs.length:=by omega
  refine .next (s':=.p7 ys o (i:Int) (xs[i]:Int) ((0:Nat):Int) xs (xs.length:Int) (i:Int) ys (ys.length:Int) ((0:Nat):Int)) ?_
   (kvb (T:=num B (xs.take i)*num B ys) (lx _ (List.getElem_mem _)) ly hn hi' (fun o' l' t' z' e'=>?_) ys.length 0 (by omega) o 0 lo to zo (show 0<18446744073709551616 by omega) (Row.start e))
  ·show khn _ _ _ _ _=_;unfold khn;rw[condT (by rw[decide_eq_true_eq];omega),kbn hi',Option.bind_some];rfl
  ·refine kyn lx ly hn d (i+1) (by omega) o' l' t' z' ?_;rw[e',kvi hi' rfl]
theorem kbhl{xs ys:List Nat}(lx:∀x∈xs,x<B)(ly:∀y∈ys,y<B)(hn:xs.length+ys.length≤8796093022208):Iter kmm (.fn xs ys) (digs B (num B xs*num B ys)):=by
 have z:∀k,Empty (List.replicate (xs.length+ys.length) 0) k:=fun k j hj _=>by simp
 refine .next (s':=.p3 ys (List.replicate (xs.length+ys.length) 0) xs (xs.length:Int) ((0:Nat):Int)) ?_ (kyn lx ly hn xs.length 0 (by omega) _ (by simp) ?_ (z _) ?_)
 ·show kkb _ _=_;unfold kkb;rw[← Int.natCast_add,kbh (by omega),kdm hn,Option.bind_some];rfl
 ·intro y hy;rw[List.eq_of_mem_replicate hy];exact show 0<18446744073709551616 by omega
 ·have:=kf8 B [] (xs.length+ys.length)
  simpa[num]using this
theorem ksj{h:AH}{s t:Sl}{xs ys:List Nat}(n:Nats h s xs)(m:Nats h t ys)(hn:xs.length+ys.length≤8796093022208):∃(s':Sl)(h':AH),go (.fn F.kcx [s.v,t.v]) h=some (s'.v,h')∧Nats h' s' (digs B (num B xs*num B ys))∧Grow h h'∧Own h s':=by
 obtain⟨_,h',e,s',rfl,n',g,o⟩:=kbgx (kbhl n.lt m.lt hn) n m;exact⟨s',h',e,n',g,o⟩
end Go.Ab

/- squeezed -/
set_option maxRecDepth 10000
namespace Go.Ab
open Go.Proofs Go.Num
inductive ke5
 | fn (x1:List Nat) (x2:List Nat)
 | p3 (x1:List Nat) (x2:List Nat) (x3:List Nat) (a4:Int)
 | p7 (x1:List Nat) (x2:List Nat) (x3:List Nat) (a4:Int) (a5:Int) (a6:Int)
abbrev kc3:=List Nat
noncomputable def kmq(x1 x2:List Nat):Option (ke5⊕kc3) :=
 (mkI (IntKind.wrap .i64 ((List.length x1:Int)+(List.length x2:Int))) (IntKind.wrap .i64 ((List.length x1:Int)+(List.length x2:Int)))).bind fun m3=>some (.inl (.p3 x1 x2 (List.replicate m3 0) 0))
noncomputable def khm(x1 x2 x3:List Nat)(a4:Int):Option (ke5⊕kc3) :=
 cond (decide (a4<(List.length x1:Int))) (some (.inl (.p7 x1 x2 x3 a4 0 0))) ((need (∀x∈x3,x<D)).bind fun c6_0=>some (.inr (digs D (num D x3))))
noncomputable def kh9(x1 x2 x3:List Nat)(a4 a5 a6:Int):Option (ke5⊕kc3) :=
 cond (decide (a6<(List.length x2:Int))) ((inI (List.length x3) (IntKind.wrap .i64 (a4+a6))).bind fun j8=>(atI x1 a4).bind fun y9=>(atI x2 a6).bind fun y10=>(inI (List.length x3) (IntKind.wrap .i64 (a4+a6))).bind fun j11=>(u64P (Int.tmod (IntKind.wrap .u64 ((IntKind.wrap .u64 ((((List.getD x3 j8 0:Nat):Int))+(IntKind.wrap .u64 (((y9:Int))*((y10:Int))))))+a5)) 65536)).bind fun w12=>some (.inl (.p7 x1 x2 (List.set x3 j11 w12) a4 (IntKind.wrap .u64 (Int.tdiv (IntKind.wrap .u64 ((IntKind.wrap .u64 ((((List.getD x3 j8 0:Nat):Int))+(IntKind.wrap .u64 (((y9:Int))*((y10:Int))))))+a5)) 65536)) (IntKind.wrap .i64 (a6+1))))) ((inI (List.length x3) (IntKind.wrap .i64 (a4+(List.length x2:Int)))).bind fun j8=>(u64P a5).bind fun w9=>some (.inl (.p3 x1 x2 (List.set x3 j8 w9) (IntKind.wrap .i64 (a4+1)))))
noncomputable def kkf:ke5→Option (ke5⊕kc3)
 | .fn x1 x2=>kmq x1 x2
 | .p3 x1 x2 x3 a4=>khm x1 x2 x3 a4
 | .p7 x1 x2 x3 a4 a5 a6=>kh9 x1 x2 x3 a4 a5 a6
@[reducible] def ksd(h0:AH)(r:kc3)(v:AV)(h':AH):Prop:=∃s1:Sl,v=s1.v∧Nats h' s1 r∧Grow h0 h'∧Own h0 s1
def kh6(r:kc3):ke5→Prop
 | .fn x1 x2=>∀{h:AH}{a1:Sl}{a2:Sl},Nats h a1 x1→Nats h a2 x2→Runs (go (.fn F.kc6 [a1.v,a2.v]) h) (ksd h r)
 | .p3 x1 x2 x3 a4=>∀{h0 h:AH}{a1:Sl}{a2:Sl}{a3:Sl}{i3:Nat},Grow h0 h→Nats h a1 x1→Nats h a2 x2→Vec h a3 i3 x3→h0.blks.size≤i3→Av a1 i3 x1→Av a2 i3 x2→Runs (go (.pt F.kc6 Td.knw [(0,a1.v),(1,a2.v),(5,a3.v),(6,.int .i64 a4)]) h) (ksd h0 r)
 | .p7 x1 x2 x3 a4 a5 a6=>∀{h0 h:AH}{a1:Sl}{a2:Sl}{a3:Sl}{i3:Nat},Grow h0 h→Nats h a1 x1→Nats h a2 x2→Vec h a3 i3 x3→h0.blks.size≤i3→Av a1 i3 x1→Av a2 i3 x2→Runs (go (.pt F.kc6 Td.km9 [(0,a1.v),(1,a2.v),(5,a3.v),(6,.int .i64 a4),(7,.int .u64 a5),(8,.int .i64 a6)]) h) (ksd h0 r)
theorem kbej{r:kc3}{o:ke5⊕kc3}{x1 x2:List Nat}(e:kmq x1 x2=some o)(good:GoodS (kh6 r) r o):kh6 r (.fn x1 x2):=by
 intro h a1 a2 n1 n2;rw[k4u];unfold kmq at e;rw[n1.len];rw[n2.len];obtain⟨m3,q3,e⟩:=Option.bind_eq_some_iff.1 e;refine Runs.mk q3 kc2 fun s3 H3 v3 g3=>?_;cases e;exact good g3 (n1.grow g3) (n2.grow g3) v3 (Nat.le_refl _) (Av.of_base n1 (Nat.le_refl _)) (Av.of_base n2 (Nat.le_refl _))
theorem kbfb{r:kc3}{o:ke5⊕kc3}{x1 x2 x3:List Nat}{a4:Int}(e:khm x1 x2 x3 a4=some o)(good:GoodS (kh6 r) r o):kh6 r (.p3 x1 x2 x3 a4):=by
 intro h0 h a1 a2 a3 i3 g0 n1 n2 v3 hi3 av1_3 av2_3;rw[kba8];unfold khm at e;rw[n1.len];refine Runs.cond (fun k5=>?_) (fun k5=>?_)
 ·replace e:=(condT k5).symm.trans e;cases e;exact good g0 n1 n2 v3 hi3 av1_3 av2_3
 ·replace e:=(condF k5).symm.trans e;obtain⟨c6_0,q6_0,e⟩:=Option.bind_eq_some_iff.1 e;obtain⟨s6,e6,n6,o6⟩:=kjr v3.nats  c6_0.down;refine Runs.step e6 ?_;refine Runs.step (seen (asSl_v _)) ?_;cases e;cases good;exact Runs.ret ⟨s6,rfl,n6,g0,((o6 _ (v3.own hi3)).of_le (Grow.refl _))⟩
theorem k7o{r:kc3}{o:ke5⊕kc3}{x1 x2 x3:List Nat}{a4 a5 a6:Int}(e:kh9 x1 x2 x3 a4 a5 a6=some o)(good:GoodS (kh6 r) r o):kh6 r (.p7 x1 x2 x3 a4 a5 a6):=by
 intro h0 h a1 a2 a3 i3 g0 n1 n2 v3 hi3 av1_3 av2_3;rw[k17];unfold kh9 at e;rw[n1.len];rw[n2.len];rw[v3.nats.len];refine Runs.cond (fun k7=>?_) (fun k7=>?_)
 ·replace e:=(condT k7).symm.trans e;obtain⟨j8,q8,e⟩:=Option.bind_eq_some_iff.1 e;refine Runs.step (v3.idx rfl q8) ?_;refine Runs.step (v3.rd rfl q8 (kc _ _)) ?_;obtain⟨y9,q9,e⟩:=Option.bind_eq_some_iff.1 e;obtain⟨r9,j9,l9⟩:=n1.atI q9;refine Runs.step j9 ?_;refine Runs.step (rdc l9 (kc _ _)) ?_;obtain⟨y10,q10,e⟩:=Option.bind_eq_some_iff.1 e;obtain⟨r10,j10,l10⟩:=n2.atI q10;refine Runs.step j10 ?_;refine Runs.step (rdc l10 (kc _ _)) ?_;obtain⟨j11,q11,e⟩:=Option.bind_eq_some_iff.1 e;refine Runs.step (v3.idx rfl q11) ?_;obtain⟨w12,z12,e⟩:=Option.bind_eq_some_iff.1 e;refine Runs.vput v3 rfl q11 z12 fun H12 v12 u12=>?_;have n1_12:=n1.upda av1_3 u12;have n2_12:=n2.upda av2_3 u12;cases e;exact good (g0.updr hi3 u12) n1_12 n2_12 v12 hi3 av1_3 av2_3
 ·replace e:=(condF k7).symm.trans e;obtain⟨j8,q8,e⟩:=Option.bind_eq_some_iff.1 e;refine Runs.step (v3.idx rfl q8) ?_;obtain⟨w9,z9,e⟩:=Option.bind_eq_some_iff.1 e;refine Runs.vput v3 rfl q8 z9 fun H9 v9 u9=>?_;have n1_9:=n1.upda av1_3 u9;have n2_9:=n2.upda av2_3 u9;cases e;exact good (g0.updr hi3 u9) n1_9 n2_9 v9 hi3 av1_3 av2_3
theorem kbdg{s:ke5}{r:kc3}(it:Iter kkf s r):kh6 r s:=Iter.ind (fun s o e good=>by
 cases s with
 | fn x1 x2=>exact @kbej _ _ x1 x2 e good
 | p3 x1 x2 x3 a4=>exact @kbfb _ _ x1 x2 x3 a4 e good
 | p7 x1 x2 x3 a4 a5 a6=>exact @k7o _ _ x1 x2 x3 a4 a5 a6 e good
 ) it
end Go.Ab

/- squeezed -/
set_option maxRecDepth 10000
namespace Go.Ab
open Go.Proofs Go.Num
theorem tmodD(n:Nat):Int.tmod (n:Int) 65536=((n%65536:Nat):Int):=rfl
theorem tdivD(n:Nat):Int.tdiv (n:Int) 65536=((n/65536:Nat):Int):=rfl
theorem kch{n:Nat}(h:n<18446744073709551616):IntKind.wrap .u64 (n:Int)=(n:Int):=by
 rw[wrapU];omega
theorem kvu{xs ys:List Nat}{r:kc3}{i T:Nat}(lx:∀x∈xs,x<D)(ly:∀y∈ys,y<D)(hn:xs.length+ys.length≤8796093022208)(hi:i<xs.length)
  (K:∀o:List Nat,o.length=xs.length+ys.length→(∀y∈o,y<D)→Empty o (i+1+ys.length)→num D o=T+D^i*(xs[i]*num D ys)→Iter kkf (.p3 xs ys o ((i+1:Nat):Int)) r) :
  ∀(d k:Nat),k+d=ys.length→∀(o:List Nat)(c:Nat),o.length=xs.length+ys.length→(∀y∈o,y<D)→Empty o (i+ys.length)→c<D→Row D o i k c xs[i] ys T→
   Iter kkf (.p7 xs ys o (i:Int) (c:Int) (k:Int)) r
 | 0,k,hk,o,c,lo,to,zo,hc,row=>by
  have hk:k=ys.length:=by omega
  subst hk;have hj:i+ys.length<o.length:=by omega
  have hc':c<65536:=hc;refine .next ?_ (K (o.set (i+ys.length) c) (by simpa using lo) (set_lt to hc) ?_ ?_)
  ·show kh9 _ _ _ _ _ _=_;unfold kh9;rw[condF (by rw[decide_eq_false_iff_not];omega),← Int.natCast_add,kbh (by omega),kw hj,Option.bind_some,kbb (by omega),Option.bind_some,ki (by omega)]
  ·rw[show i+1+ys.length=i+ys.length+1 from by omega];intro j h1 h2;rw[List.getElem_set_ne (by omega)];exact zo j (by simpa using h1) (by omega)
  ·exact row.stop hj (zo _ hj (Nat.le_refl _))
 | d+1,k,hk,o,c,lo,to,zo,hc,row=>by
  have hk':k<ys.length:=by omega
  have hj:i+k<o.length:=by omega
  have hx:=lx xs[i] (List.getElem_mem _);have hy:=ly ys[k] (List.getElem_mem _);have ho:=to o[i+k] (List.getElem_mem _);have hc':=kr1 hx hy ho hc;have hl:=Nat.mod_lt (xs[i]*ys[k]+o[i+k]+c) (show 0<65536 by omega);refine .next ?_ (kvu lx ly hn hi K d (k+1) (by omega) (o.set (i+k) ((xs[i]*ys[k]+o[i+k]+c)%65536)) ((xs[i]*ys[k]+o[i+k]+c)/65536) (by simpa using lo) (set_lt to hl) (zo.set (by omega)) hc' (row.step hk' hj (Nat.div_add_mod' _ _).symm))
  ·show kh9 _ _ _ _ _ _=_;unfold kh9;have hp:xs[i]*ys[k]≤65535*65535:=Nat.mul_le_mul (by have:xs[i]<65536:=hx;omega) (by have:ys[k]<65536:=hy;omega);have ho':o[i+k]<65536:=ho;have hc'':c<65536:=hc
   have e1:IntKind.wrap .u64 (IntKind.wrap .u64 (((List.getD o (i+k) 0:Nat):Int)+IntKind.wrap .u64 ((xs[i]:Int)*(ys[k]:Int)))+(c:Int))=((xs[i]*ys[k]+o[i+k]+c:Nat):Int):=by
    rw[show List.getD o (i+k) 0=o[i+k]from kbi hj,← Int.natCast_mul];generalize xs[i]*ys[k]=t at *
    generalize o[i+k]=w at *
    rw[kch (n:=t) (by omega),← Int.natCast_add,kch (by omega),← Int.natCast_add,kch (by omega)];omega
   rw[condT (by rw[decide_eq_true_eq];omega),← Int.natCast_add,kbh (by omega),kw hj,Option.bind_some,kbn hi,Option.bind_some,kbn hk',Option.bind_some,Option.bind_some,e1,tmodD,tdivD,kbb (by omega),Option.bind_some,ki (by omega),kch];have:(xs[i]*ys[k]+o[i+k]+c)/65536<65536:=hc';omega
theorem kzq{xs ys:List Nat}(lx:∀x∈xs,x<D)(ly:∀y∈ys,y<D)(hn:xs.length+ys.length≤8796093022208) :
  ∀(d i:Nat),i+d=xs.length→∀(o:List Nat),o.length=xs.length+ys.length→(∀y∈o,y<D)→Empty o (i+ys.length)→num D o=num D (xs.take i)*num D ys→
   Iter kkf (.p3 xs ys o (i:Int)) (digs D (num D xs*num D ys))
 | 0,i,hi,o,lo,to,zo,e=>by
  have hi:i=xs.length:=by omega
  subst hi;rw[List.take_length]at e;refine .done ?_;show khm _ _ _ _=_;unfold khm;rw[condF (by rw[decide_eq_false_iff_not];omega),kj to,Option.bind_some,e]
 | d+1,i,hi,o,lo,to,zo,e=>by
  have hi':i<xs.length:=by omega
  refine .next (s':=.p7 xs ys o (i:Int) ((0:Nat):Int) ((0:Nat):Int)) ?_
   (kvu (T:=num D (xs.take i)*num D ys) lx ly hn hi' (fun o' l' t' z' e'=>?_) ys.length 0 (by omega) o 0 lo to zo (show 0<65536 by omega) (Row.start e))
  ·show khm _ _ _ _=_;unfold khm;rw[condT (by rw[decide_eq_true_eq];omega)];rfl
  ·refine kzq lx ly hn d (i+1) (by omega) o' l' t' z' ?_;rw[e',kvi hi' rfl]
theorem k9l{xs ys:List Nat}(lx:∀x∈xs,x<D)(ly:∀y∈ys,y<D)(hn:xs.length+ys.length≤8796093022208):Iter kkf (.fn xs ys) (digs D (num D xs*num D ys)):=by
 have z:∀k,Empty (List.replicate (xs.length+ys.length) 0) k:=fun k j hj _=>by simp
 refine .next (s':=.p3 xs ys (List.replicate (xs.length+ys.length) 0) ((0:Nat):Int)) ?_ (kzq lx ly hn xs.length 0 (by omega) _ (by simp) ?_ (z _) ?_)
 ·show kmq _ _=_;unfold kmq;rw[← Int.natCast_add,kbh (by omega),kdm hn,Option.bind_some];rfl
 ·intro y hy;rw[List.eq_of_mem_replicate hy];exact show 0<65536 by omega
 ·have:=kf8 D [] (xs.length+ys.length)
  simpa[num]using this
theorem k0m{h:AH}{s t:Sl}{xs ys:List Nat}(n:Nats h s xs)(m:Nats h t ys)(lx:∀x∈xs,x<D)(ly:∀y∈ys,y<D)(hn:xs.length+ys.length≤8796093022208):∃(s':Sl)(h':AH),go (.fn F.kc6 [s.v,t.v]) h=some (s'.v,h')∧Nats h' s' (digs D (num D xs*num D ys))∧Grow h h'∧Own h s':=by
 obtain⟨_,h',e,s',rfl,n',g,o⟩:=kbdg (k9l lx ly hn) n m;exact⟨s',h',e,n',g,o⟩
end Go.Ab

/- squeezed -/
set_option maxRecDepth 10000
namespace Go.Ab
open Go.Proofs Go.Num
inductive kgp
 | fn (x1:List Nat) (x2:List Nat) (a3:Int)
 | p2 (x1:List Nat) (x2:List Nat) (a3:Int) (a4:Int) (a5:Int)
abbrev kez:=List Nat
noncomputable def kq0(x1 x2:List Nat)(a3:Int):Option (kgp⊕kez) :=
 some (.inl (.p2 x1 x2 a3 0 a3))
noncomputable def kfw(x1 x2:List Nat)(a3 a4 a5:Int):Option (kgp⊕kez) :=
 cond (decide (a5<(List.length x1:Int))) (cond (decide ((IntKind.wrap .i64 (a5-a3))<(List.length x2:Int))) (cond (decide ((IntKind.wrap .i64 (a5-a3))<(List.length x2:Int))) ((atI x2 (IntKind.wrap .i64 (a5-a3))).bind fun y9=>(inI (List.length x1) a5).bind fun j10=>(add64P (((List.getD x1 j10 0:Nat):Int)) ((y9:Int)) a4).bind fun p11=>(inI (List.length x1) a5).bind fun j12=>(u64P (p11.1)).bind fun w13=>some (.inl (.p2 (List.set x1 j12 w13) x2 a3 (p11.2) (IntKind.wrap .i64 (a5+1))))) ((inI (List.length x1) a5).bind fun j9=>(add64P (((List.getD x1 j9 0:Nat):Int)) 0 a4).bind fun p10=>(inI (List.length x1) a5).bind fun j11=>(u64P (p10.1)).bind fun w12=>some (.inl (.p2 (List.set x1 j11 w12) x2 a3 (p10.2) (IntKind.wrap .i64 (a5+1)))))) (cond (decide (a4>0)) (cond (decide ((IntKind.wrap .i64 (a5-a3))<(List.length x2:Int))) ((atI x2 (IntKind.wrap .i64 (a5-a3))).bind fun y10=>(inI (List.length x1) a5).bind fun j11=>(add64P (((List.getD x1 j11 0:Nat):Int)) ((y10:Int)) a4).bind fun p12=>(inI (List.length x1) a5).bind fun j13=>(u64P (p12.1)).bind fun w14=>some (.inl (.p2 (List.set x1 j13 w14) x2 a3 (p12.2) (IntKind.wrap .i64 (a5+1))))) ((inI (List.length x1) a5).bind fun j10=>(add64P (((List.getD x1 j10 0:Nat):Int)) 0 a4).bind fun p11=>(inI (List.length x1) a5).bind fun j12=>(u64P (p11.1)).bind fun w13=>some (.inl (.p2 (List.set x1 j12 w13) x2 a3 (p11.2) (IntKind.wrap .i64 (a5+1)))))) (some (.inr x1)))) (some (.inr x1))
noncomputable def ksn:kgp→Option (kgp⊕kez)
 | .fn x1 x2 a3=>kq0 x1 x2 a3
 | .p2 x1 x2 a3 a4 a5=>kfw x1 x2 a3 a4 a5
@[reducible] def ku0(h0:AH)(a:Sl)(i:Nat)(r:kez)(v:AV)(h':AH):Prop:=v=.tup []∧Vec h' a i r∧Upd h0 h' i
def kk6(r:kez):kgp→Prop
 | .fn x1 x2 a3=>∀{h:AH}{a1:Sl}{a2:Sl}{i1:Nat},Vec h a1 i1 x1→Nats h a2 x2→Av a2 i1 x2→Runs (go (.fn F.kdp [a1.v,a2.v,.int .i64 a3]) h) (ku0 h a1 i1 r)
 | .p2 x1 x2 a3 a4 a5=>∀{h0 h:AH}{a1:Sl}{a2:Sl}{i1:Nat},Upd h0 h i1→Vec h a1 i1 x1→Nats h a2 x2→Av a2 i1 x2→Runs (go (.pt F.kdp Td.kia [(0,a1.v),(1,a2.v),(2,.int .i64 a3),(6,.int .u64 a4),(7,.int .i64 a5)]) h) (ku0 h0 a1 i1 r)
theorem k49{r:kez}{o:kgp⊕kez}{x1 x2:List Nat}{a3:Int}(e:kq0 x1 x2 a3=some o)(good:GoodS (kk6 r) r o):kk6 r (.fn x1 x2 a3):=by
 intro h a1 a2 i1 v1 n2 av2_1;rw[k6k];unfold kq0 at e;cases e;exact good ((Grow.refl _).toUpd _) v1 n2 av2_1
theorem kbbm{r:kez}{o:kgp⊕kez}{x1 x2:List Nat}{a3 a4 a5:Int}(e:kfw x1 x2 a3 a4 a5=some o)(good:GoodS (kk6 r) r o):kk6 r (.p2 x1 x2 a3 a4 a5):=by
 intro h0 h a1 a2 i1 g0 v1 n2 av2_1;rw[k3h];unfold kfw at e;rw[v1.nats.len];rw[n2.len];refine Runs.cond (fun k6=>?_) (fun k6=>?_)
 ·replace e:=(condT k6).symm.trans e;refine Runs.cond (fun k7=>?_) (fun k7=>?_)
  ·replace e:=(condT k7).symm.trans e;refine Runs.cond (fun k8=>?_) (fun k8=>?_)
   ·replace e:=(condT k8).symm.trans e;obtain⟨y9,q9,e⟩:=Option.bind_eq_some_iff.1 e;obtain⟨r9,j9,l9⟩:=n2.atI q9;refine Runs.step j9 ?_;refine Runs.step (rdc l9 (kc _ _)) ?_;obtain⟨j10,q10,e⟩:=Option.bind_eq_some_iff.1 e;refine Runs.step (v1.idx rfl q10) ?_;refine Runs.step (v1.rd rfl q10 (kc _ _)) ?_;obtain⟨p11,q11,e⟩:=Option.bind_eq_some_iff.1 e;refine Runs.step (ke6 q11) ?_;refine Runs.step rfl ?_;refine Runs.step (seen (kc _ _)) ?_;refine Runs.step (seen (kc _ _)) ?_;obtain⟨j12,q12,e⟩:=Option.bind_eq_some_iff.1 e;refine Runs.step (v1.idx rfl q12) ?_;obtain⟨w13,z13,e⟩:=Option.bind_eq_some_iff.1 e;refine Runs.vput v1 rfl q12 z13 fun H13 v13 u13=>?_;have n2_13:=n2.upda av2_1 u13;cases e;exact good (g0.trans u13) v13 n2_13 av2_1
   ·replace e:=(condF k8).symm.trans e;obtain⟨j9,q9,e⟩:=Option.bind_eq_some_iff.1 e;refine Runs.step (v1.idx rfl q9) ?_;refine Runs.step (v1.rd rfl q9 (kc _ _)) ?_;obtain⟨p10,q10,e⟩:=Option.bind_eq_some_iff.1 e;refine Runs.step (ke6 q10) ?_;refine Runs.step rfl ?_;refine Runs.step (seen (kc _ _)) ?_;refine Runs.step (seen (kc _ _)) ?_;obtain⟨j11,q11,e⟩:=Option.bind_eq_some_iff.1 e;refine Runs.step (v1.idx rfl q11) ?_;obtain⟨w12,z12,e⟩:=Option.bind_eq_some_iff.1 e;refine Runs.vput v1 rfl q11 z12 fun H12 v12 u12=>?_;have n2_12:=n2.upda av2_1 u12;cases e;exact good (g0.trans u12) v12 n2_12 av2_1
  ·replace e:=(condF k7).symm.trans e;refine Runs.cond (fun k8=>?_) (fun k8=>?_)
   ·replace e:=(condT k8).symm.trans e;refine Runs.cond (fun k9=>?_) (fun k9=>?_)
    ·replace e:=(condT k9).symm.trans e;obtain⟨y10,q10,e⟩:=Option.bind_eq_some_iff.1 e;obtain⟨r10,j10,l10⟩:=n2.atI q10;refine Runs.step j10 ?_;refine Runs.step (rdc l10 (kc _ _)) ?_;obtain⟨j11,q11,e⟩:=Option.bind_eq_some_iff.1 e;refine Runs.step (v1.idx rfl q11) ?_;refine Runs.step (v1.rd rfl q11 (kc _ _)) ?_;obtain⟨p12,q12,e⟩:=Option.bind_eq_some_iff.1 e;refine Runs.step (ke6 q12) ?_;refine Runs.step rfl ?_;refine Runs.step (seen (kc _ _)) ?_;refine Runs.step (seen (kc _ _)) ?_;obtain⟨j13,q13,e⟩:=Option.bind_eq_some_iff.1 e;refine Runs.step (v1.idx rfl q13) ?_;obtain⟨w14,z14,e⟩:=Option.bind_eq_some_iff.1 e;refine Runs.vput v1 rfl q13 z14 fun H14 v14 u14=>?_;have n2_14:=n2.upda av2_1 u14;cases e;exact good (g0.trans u14) v14 n2_14 av2_1
    ·replace e:=(condF k9).symm.trans e;obtain⟨j10,q10,e⟩:=Option.bind_eq_some_iff.1 e;refine Runs.step (v1.idx rfl q10) ?_;refine Runs.step (v1.rd rfl q10 (kc _ _)) ?_;obtain⟨p11,q11,e⟩:=Option.bind_eq_some_iff.1 e;refine Runs.step (ke6 q11) ?_;refine Runs.step rfl ?_;refine Runs.step (seen (kc _ _)) ?_;refine Runs.step (seen (kc _ _)) ?_;obtain⟨j12,q12,e⟩:=Option.bind_eq_some_iff.1 e;refine Runs.step (v1.idx rfl q12) ?_;obtain⟨w13,z13,e⟩:=Option.bind_eq_some_iff.1 e;refine Runs.vput v1 rfl q12 z13 fun H13 v13 u13=>?_;have n2_13:=n2.upda av2_1 u13;cases e;exact good (g0.trans u13) v13 n2_13 av2_1
   ·replace e:=(condF k8).symm.trans e;cases e;cases good;exact Runs.ret ⟨rfl,v1,g0⟩
 ·replace e:=(condF k6).symm.trans e;cases e;cases good;exact Runs.ret ⟨rfl,v1,g0⟩
theorem kbc9{s:kgp}{r:kez}(it:Iter ksn s r):kk6 r s:=Iter.ind (fun s o e good=>by
 cases s with
 | fn x1 x2 a3=>exact @k49 _ _ x1 x2 a3 e good
 | p2 x1 x2 a3 a4 a5=>exact @kbbm _ _ x1 x2 a3 a4 a5 e good
 ) it
end Go.Ab

/- squeezed -/
set_option maxRecDepth 10000
namespace Go.Ab
open Go.Proofs Go.Num
theorem ked{xs:List Nat}{i:Nat}(h:i<xs.length):List.getD xs i 0=xs[i]:=kbi h
theorem k3n{o xs:List Nat}{at' i c:Nat}(ho:o.length≤4611686018427387904)(hx:xs.length≤4611686018427387904)(h1:i<o.length)(h2:at'≤i)(hc:c≤1)(hs:i-at'<xs.length∨0<c) :
  ksn (.p2 o xs (at':Int) (c:Int) (i:Int))=some (.inl (.p2 (o.set i ((xs.getD (i-at') 0+o[i]+c)%18446744073709551616)) xs (at':Int) (((xs.getD (i-at') 0+o[i]+c)/18446744073709551616:Nat):Int) ((i+1:Nat):Int))):=by
 show kfw _ _ _ _ _=_;unfold kfw;have e0:IntKind.wrap .i64 ((i:Int)-(at':Int))=((i-at':Nat):Int):=by rw[wrap64 (by omega) (by omega)];omega
 have hm:∀n:Nat,n%18446744073709551616<18446744073709551616:=fun n=>Nat.mod_lt n (by omega);rw[condT (by rw[decide_eq_true_eq];omega),e0];by_cases hk:i-at'<xs.length
 ·have a1:=kgw o[i] xs[i-at'] hc;rw[condT (by rw[decide_eq_true_eq];omega),condT (by rw[decide_eq_true_eq];omega),kbn hk,Option.bind_some,kw h1,Option.bind_some,ked h1,a1,Option.bind_some,Option.bind_some];dsimp only;rw[kbb (hm _),Option.bind_some,ki (by omega),ked hk,Nat.add_comm o[i]]
 ·have hc':0<c:=by omega
  have a1:=kgw o[i] 0 hc;rw[show((0:Nat):Int)=0 from rfl]at a1;rw[condF (by rw[decide_eq_false_iff_not];omega),condT (by rw[decide_eq_true_eq];omega),condF (by rw[decide_eq_false_iff_not];omega),kw h1,Option.bind_some,ked h1,a1,Option.bind_some,Option.bind_some];dsimp only;rw[kbb (hm _),Option.bind_some,ki (by omega),show xs.getD (i-at') 0=0 from by simp[List.getD,List.getElem?_eq_none (Nat.le_of_not_lt hk)]];rw[Nat.add_comm o[i]]
theorem kxq{xs:List Nat}{at' T:Nat}(lx:∀x∈xs,x<B)(hx:xs.length≤4611686018427387904) :
  ∀(d i:Nat)(o:List Nat)(c:Nat),i+d=o.length→at'≤i→o.length≤4611686018427387904→(∀y∈o,y<B)→c≤1→num B o+c*B^i=T+B^at'*num B (xs.take (i-at'))→T+B^at'*num B xs<B^o.length→
   ∃r,Iter ksn (.p2 o xs (at':Int) (c:Int) (i:Int)) r∧r.length=o.length∧(∀y∈r,y<B)∧num B r=T+B^at'*num B xs
 | 0,i,o,c,hi,hat,ho,to,hc,inv,bound=>by
  have hi:i=o.length:=by omega
  subst hi
  have hxs:num B xs=num B (xs.take (o.length-at'))+B^(xs.take (o.length-at')).length*num B (xs.drop (o.length-at')):=by
   rw[← kcl,List.take_append_drop]
  have hc0:c=0:=by
   rcases Nat.eq_zero_or_pos c with e | e
   ·exact e
   ·have:c=1:=by omega
    subst this;have:B^at'*num B (xs.take (o.length-at'))≤B^at'*num B xs:=Nat.mul_le_mul_left _ (by omega);omega
  subst hc0
  have hd:num B (xs.take (o.length-at'))=num B xs:=by
   by_cases hl:xs.length≤o.length-at'
   ·rw[List.take_of_length_le hl]
   ·rw[List.length_take,Nat.min_eq_left (by omega)]at hxs;rw[hxs];rcases Nat.eq_zero_or_pos (num B (xs.drop (o.length-at')))with e | e
    ·rw[e];omega
    ·exfalso
     have h1:B^(o.length-at')≤num B xs:=by
      have:B^(o.length-at')*1≤B^(o.length-at')*num B (xs.drop (o.length-at')):=Nat.mul_le_mul_left _ e;omega
     have h2:B^at'*B^(o.length-at')≤B^at'*num B xs:=Nat.mul_le_mul_left _ h1;rw[← Nat.pow_add,show at'+(o.length-at')=o.length from by omega]at h2;omega
  refine⟨o,.done ?_,rfl,to,?_⟩
  ·show kfw _ _ _ _ _=_;unfold kfw;rw[condF (by rw[decide_eq_false_iff_not];omega)]
  ·rw[← hd];omega
 | d+1,i,o,c,hi,hat,ho,to,hc,inv,bound=>by
  have h1:i<o.length:=by omega
  by_cases hs:i-at'<xs.length∨0<c
  ·have hm:=Nat.mod_lt (xs.getD (i-at') 0+o[i]+c) (show 0<18446744073709551616 by omega)
   have hy:xs.getD (i-at') 0<18446744073709551616:=by
    by_cases hk:i-at'<xs.length
    ·rw[ked hk];exact lx _ (List.getElem_mem _)
    ·rw[show xs.getD (i-at') 0=0 from by simp[List.getD,List.getElem?_eq_none (Nat.le_of_not_lt hk)]];omega
   have hoi:o[i]<18446744073709551616:=to _ (List.getElem_mem _)
   obtain⟨r,it,r1,r2,r3⟩:=kxq (T:=T) (at':=at') lx hx d (i+1) (o.set i ((xs.getD (i-at') 0+o[i]+c)%18446744073709551616)) ((xs.getD (i-at') 0+o[i]+c)/18446744073709551616) (by simp;omega) (by omega) (by simpa using ho) (set_lt to hm) (by omega) (by
    have k1:=kj0 (b:=B) h1 ((xs.getD (i-at') 0+o[i]+c)%18446744073709551616);have k2:=k0l k1 (Nat.div_add_mod' (xs.getD (i-at') 0+o[i]+c) 18446744073709551616).symm inv;rw[Nat.pow_succ,k2,show i+1-at'=i-at'+1 from by omega,kfh,Nat.mul_add,← Nat.mul_assoc,← Nat.pow_add,show at'+(i-at')=i from by omega];omega) (by simpa using bound)
   exact⟨r,.next (k3n ho hx h1 hat hc hs) it,by simpa using r1,r2,r3⟩
  ·have hc0:c=0:=by omega
   subst hc0;rw[List.take_of_length_le (by omega)]at inv;refine⟨o,.done ?_,rfl,to,by omega⟩;show kfw _ _ _ _ _=_;unfold kfw;have e0:IntKind.wrap .i64 ((i:Int)-(at':Int))=((i-at':Nat):Int):=by rw[wrap64 (by omega) (by omega)];omega
   rw[condT (by rw[decide_eq_true_eq];omega),e0,condF (by rw[decide_eq_false_iff_not];omega),condF (by rw[decide_eq_false_iff_not];omega)]
theorem kze{h:AH}{s t:Sl}{i:Nat}{o xs:List Nat}(v:Vec h s i o)(m:Nats h t xs)(av:Av t i xs){at':Nat}(hat:at'≤o.length)(ho:o.length≤4611686018427387904)(hx:xs.length≤4611686018427387904)(bound:num B o+B^at'*num B xs<B^o.length) :
  ∃(h':AH)(r:List Nat),go (.fn F.kdp [s.v,t.v,.int .i64 (at':Int)]) h=some (.tup [],h')∧Vec h' s i r∧Upd h h' i∧r.length=o.length∧num B r=num B o+B^at'*num B xs:=by
 obtain⟨r,it,r1,r2,r3⟩:=kxq (T:=num B o) (at':=at') m.lt hx (o.length-at') at' o 0 (by omega) (Nat.le_refl _) ho v.lt (by omega) (by simp[num]) bound;obtain⟨_,h',e,rfl,v',u⟩:=kbc9 (.next (s:=.fn o xs (at':Int)) rfl it) v m av;exact⟨h',r,e,v',u,r1,r3⟩
end Go.Ab

/- squeezed -/
set_option maxRecDepth 10000
namespace Go.Ab
open Go.Proofs Go.Num
@[reducible] def ksg(p:Ref):AV:=.func (.func F.kkv) [] [.ptr (some p)]
theorem kpf(p:Ref)(x y:AV)(h:AH):callV Pg go (ksg p) [x,y] h=go (.fn F.kkv [x,y,.ptr (some p)]) h:=by kernel_rfl
theorem Grow.same_cell{h h':AH}(g:Grow h h'){p:Ref}{v:AV}(c:h.cell p=some v):SameAt h h' p 1:=⟨fun j hj=>by
 have:j=0:=by omega
 subst this;rw[Ref.add_zero,c,g.cell_some c],fun h=>by cases h⟩
theorem k41{h:AH}{s d:Sl}{i:Nat}{xs ys:List Nat}(n:Nats h s xs)(v:Vec h d i ys)(hl:xs.length≤ys.length):∃h',copyH s d 1 h=some h'∧Vec h' d i (xs++ys.drop xs.length)∧Upd h h' i:=by
 have hd:d.ref=some (.new i 0):=by rw[v.is]
 have hdl:d.len=ys.length:=v.len;have hg:=n.cells.gets;unfold copyH;rw[hd];cases hs:s.ref with
 | none =>
  have:xs=[]:=by
   cases xs with
   | nil=>rfl
   | cons x xs =>
    obtain⟨r,e,_⟩:=n.cells.get 0 _ rfl;rw[hs]at e;cases e
  subst this;exact⟨h,rfl,by simpa using v,(Grow.refl h).toUpd i⟩
 | some r =>
  rw[hs,n.len]at hg;simp only[AH.getsO]at hg;dsimp only;rw[n.len,hdl,Nat.min_eq_left hl,hg,Option.bind_some];obtain⟨e,b⟩:=v.has;rw[b.puts (by simp;omega)]
  have e1:(ys.map u64).take 0++xs.map u64++(ys.map u64).drop (0+(xs.map u64).length)=(xs++ys.drop xs.length).map u64:=by
   simp[List.map_drop]
  rw[e1];refine⟨_,rfl,⟨?_,⟨e,AH.has_upd b _ _⟩,?_,?_⟩,AH.upd_Upd h i _ e⟩
  ·have:(xs++ys.drop xs.length).length=ys.length:=by simp;omega
   rw[this];exact v.is
  ·intro z hz;rcases List.mem_append.1 hz with h1 | h1
   ·exact n.lt z h1
   ·exact v.lt z (List.mem_of_mem_drop h1)
  ·have:=v.short;simp;omega
theorem kpu{h:AH}{s:Sl}{xs:List Nat}{p:Ref}{k:Nat}(n:Nats h s xs)(c:h.cell p=some (.int .i64 (k:Int))):∃s',go (.fn F.kiq [s.v,.ptr (some p)]) h=some (s'.v,h)∧Nats h s' (digs B (num B (xs.take (min k xs.length)))):=by
 rw[kbi7,c,Option.bind_some,kc,Option.bind_some,k0u,n.len];obtain⟨s1,e1,n1,_⟩:=n.cut (l:=0) (n:=min k xs.length) (by omega) (by omega);rw[show min (k:Int) (xs.length:Int)=((min k xs.length:Nat):Int)from by omega,show(0:Int)=((0:Nat):Int)from rfl,e1,Option.bind_some];obtain⟨s2,e2,n2,_⟩:=kdw n1;rw[e2,Option.bind_some,Option.bind_some,asSl_v,Option.bind_some];exact⟨s2,rfl,by simpa using n2⟩
theorem kql{h:AH}{s:Sl}{xs:List Nat}{p:Ref}{k:Nat}(n:Nats h s xs)(c:h.cell p=some (.int .i64 (k:Int))):∃s',go (.fn F.kj3 [s.v,.ptr (some p)]) h=some (s'.v,h)∧Nats h s' (xs.drop (min k xs.length)):=by
 rw[k6w,c,Option.bind_some,kc,Option.bind_some,k0u,n.len];obtain⟨s1,e1,n1,_⟩:=n.cut (l:=min k xs.length) (n:=xs.length) (by omega) (by omega);rw[show min (k:Int) (xs.length:Int)=((min k xs.length:Nat):Int)from by omega,e1,Option.bind_some];refine⟨s1,rfl,?_⟩;rwa[List.take_of_length_le (by simp)]at n1
end Go.Ab

/- squeezed -/
set_option maxRecDepth 10000
namespace Go.Ab
open Go.Proofs Go.Num
theorem B1:1≤B:=by decide
theorem k05(b:Nat)(xs:List Nat)(n:Nat):num b xs=num b (xs.take (min n xs.length))+b^n*num b (xs.drop (min n xs.length)):=by
 have e:num b xs=num b (xs.take (min n xs.length)++xs.drop (min n xs.length)):=by rw[List.take_append_drop]
 rw[kcl,List.length_take]at e;by_cases h:n≤xs.length
 ·rw[e,show min (min n xs.length) xs.length=n from by omega]
 ·have:xs.drop (min n xs.length)=[]:=List.drop_of_length_le (by omega);rw[this]at e⊢
  simpa[num]using e
theorem km5{a c:Nat}(h:a≤c):(digs B a).length≤(digs B c).length:=by
 rw[kba B2];exact Nat.lt_of_le_of_lt h ((kba B2 c _).1 (Nat.le_refl _))
theorem kln{xs:List Nat}(h:∀x∈xs,x<B):(digs B (num B xs)).length≤xs.length:=by
 rw[kba B2];exact num_lt B1 h
theorem k6j(P al ah bl bh:Nat):(al+P*ah)*(bl+P*bh)=al*bl+P*((al+ah)*(bl+bh)-al*bl-ah*bh)+P*P*(ah*bh):=by
 have e:(al+ah)*(bl+bh)-al*bl-ah*bh=al*bh+ah*bl:=by
  rw[Nat.add_mul,Nat.mul_add,Nat.mul_add];omega
 rw[e,Nat.add_mul,Nat.mul_add,Nat.mul_add,Nat.mul_add];have e1:al*(P*bh)=P*(al*bh):=Nat.mul_left_comm _ _ _;have e2:P*ah*bl=P*(ah*bl):=Nat.mul_assoc _ _ _;have e3:P*ah*(P*bh)=P*P*(ah*bh):=Nat.mul_mul_mul_comm _ _ _ _;rw[e1,e2,e3];omega
set_option maxHeartbeats 2000000 in
theorem kog:∀(N:Nat){h:AH}{s t:Sl}{xs ys:List Nat}{p:Ref},xs.length+ys.length<N→N≤268435456→Nats h s xs→Nats h t ys→h.cell p=some (ksg p)→
  Runs (go (.fn F.kkv [s.v,t.v,.ptr (some p)]) h) fun v h'=>∃s':Sl,v=s'.v∧Nats h' s' (digs B (num B xs*num B ys))∧Grow h h'∧Own h s'
 | 0,_,_,_,_,_,_,hN,_,_,_,_=>by omega
 | N+1,h,s,t,xs,ys,p,hN,hM,ns,nt,c=>by
  rw[k4o,ns.len,nt.len];refine Runs.cond (fun k1=>?_) (fun k1=>?_)
  ·obtain⟨s4,h4,e4,n4,g4,o4⟩:=ksj ns nt (by omega);refine Runs.step e4 ?_;refine Runs.step (seen (asSl_v _)) ?_;exact Runs.ret ⟨s4,rfl,n4,g4,o4⟩
  refine Runs.cond (fun k2=>?_) (fun k2=>?_)
  ·obtain⟨s4,h4,e4,n4,g4,o4⟩:=ksj ns nt (by omega);refine Runs.step e4 ?_;refine Runs.step (seen (asSl_v _)) ?_;exact Runs.ret ⟨s4,rfl,n4,g4,o4⟩
  rw[decide_eq_false_iff_not]at k1 k2;obtain⟨n,hn⟩:∃n,n=(max xs.length ys.length+1)/2:=⟨_,rfl⟩
  have hw:IntKind.wrap .i64 (Int.tdiv (IntKind.wrap .i64 ((imax (xs.length:Int) (ys.length:Int))+1)) 2)=(n:Int):=by
   rw[kbgb,show max (xs.length:Int) (ys.length:Int)=((max xs.length ys.length:Nat):Int)from by omega,ki (by omega)];show IntKind.wrap .i64 (((max xs.length ys.length+1)/2:Nat):Int)=_;rw[← hn,kbh (by omega)]
  rw[hw];have lax:(xs.take (min n xs.length)).length=min n xs.length:=by simp
  have lbx:(ys.take (min n ys.length)).length=min n ys.length:=by simp
  have tax:∀x∈xs.take (min n xs.length),x<B:=fun x hx=>ns.lt x (List.mem_of_mem_take hx);have tbx:∀x∈ys.take (min n ys.length),x<B:=fun x hx=>nt.lt x (List.mem_of_mem_take hx);have tah:∀x∈xs.drop (min n xs.length),x<B:=fun x hx=>ns.lt x (List.mem_of_mem_drop hx);have tbh:∀x∈ys.drop (min n ys.length),x<B:=fun x hx=>nt.lt x (List.mem_of_mem_drop hx);have lah:(xs.drop (min n xs.length)).length=xs.length-min n xs.length:=by simp
  have lbh:(ys.drop (min n ys.length)).length=ys.length-min n ys.length:=by simp
  have da:=kln tax;have db:=kln tbx;have dah:=kln tah;have dbh:=kln tbh;have ea:=k05 B xs n;have eb:=k05 B ys n;generalize hal:num B (xs.take (min n xs.length))=al at *
  generalize hah:num B (xs.drop (min n xs.length))=ah at *
  generalize hbl:num B (ys.take (min n ys.length))=bl at *
  generalize hbh:num B (ys.drop (min n ys.length))=bh at *
  refine Runs.new fun H8 b8 g8=>?_;refine Runs.puts b8 rfl fun H9 b9 u9=>?_;have gA:=g8.updr (Nat.le_refl _) u9;have c9:=gA.cell_some c;have k9:H9.cell (.new h.blks.size 0)=some (.int .i64 (n:Int)):=b9.cell 0;have ns9:=ns.grow gA;have nt9:=nt.grow gA;refine Runs.step c9 ?_;refine Runs.step c9 ?_;obtain⟨s12,e12,n12⟩:=kpu ns9 k9;obtain⟨s14,e14,n14⟩:=kpu nt9 k9;rw[hal]at n12;rw[hbl]at n14;refine Runs.step e12 ?_;refine Runs.step (seen (asSl_v _)) ?_;refine Runs.when ((Grow.refl _).same_cell c9) ?_;refine Runs.when ((Grow.refl _).same_cell c9) ?_;refine Runs.step e14 ?_;refine Runs.step (seen (asSl_v _)) ?_;refine Runs.when ((Grow.refl _).same_cell c9) ?_;refine Runs.when ((Grow.refl _).same_cell c9) ?_;obtain⟨_,H16,e16,s16,rfl,n16,g16,o16⟩:=kog N (by omega) (by omega) n12 n14 c9;rw[kg B2,kg B2]at n16;refine Runs.step ((kpf p _ _ _).trans e16) ?_;refine Runs.step (seen (asSl_v _)) ?_;refine Runs.when (g16.same_cell c9) ?_;have c16:=g16.cell_some c9;have k16:=g16.cell_some k9;obtain⟨s18,e18,n18⟩:=kql (ns9.grow g16) k16;obtain⟨s20,e20,n20⟩:=kql (nt9.grow g16) k16;refine Runs.step e18 ?_;refine Runs.step (seen (asSl_v _)) ?_;refine Runs.when ((Grow.refl _).same_cell c16) ?_;refine Runs.step e20 ?_;refine Runs.step (seen (asSl_v _)) ?_;refine Runs.when ((Grow.refl _).same_cell c16) ?_;obtain⟨_,H22,e22,s22,rfl,n22,g22,o22⟩:=kog N (by omega) (by omega) n18 n20 c16;rw[hah,hbh]at n22;refine Runs.step ((kpf p _ _ _).trans e22) ?_;refine Runs.step (seen (asSl_v _)) ?_;have c22:=g22.cell_some c16;have k22:=g22.cell_some k16;have gB:=g16.trans g22;refine Runs.step c22 ?_;obtain⟨s25,e25,n25⟩:=kpu (ns9.grow gB) k22;obtain⟨s27,e27,n27⟩:=kql (ns9.grow gB) k22;rw[hal]at n25;refine Runs.step e25 ?_;refine Runs.step (seen (asSl_v _)) ?_;refine Runs.when ((Grow.refl _).same_cell c22) ?_;refine Runs.step e27 ?_;refine Runs.step (seen (asSl_v _)) ?_;refine Runs.when ((Grow.refl _).same_cell c22) ?_;obtain⟨s29,H29,zs,e29,n29,g29,o29,v29,l29⟩:=krj n25 n27 (by omega) (by omega);rw[kg B2,hah]at v29;refine Runs.step e29 ?_;refine Runs.step (seen (asSl_v _)) ?_;refine Runs.when (g29.same_cell c22) ?_;have c29:=g29.cell_some c22;have k29:=g29.cell_some k22;obtain⟨s31,e31,n31,_⟩:=kdw n29;rw[v29]at n31;refine Runs.step e31 ?_;refine Runs.step (seen (asSl_v _)) ?_;refine Runs.when ((Grow.refl _).same_cell c29) ?_;obtain⟨s33,e33,n33⟩:=kpu (nt9.grow (gB.trans g29)) k29;obtain⟨s35,e35,n35⟩:=kql (nt9.grow (gB.trans g29)) k29;rw[hbl]at n33;refine Runs.step e33 ?_;refine Runs.step (seen (asSl_v _)) ?_;refine Runs.when ((Grow.refl _).same_cell c29) ?_;refine Runs.step e35 ?_;refine Runs.step (seen (asSl_v _)) ?_;refine Runs.when ((Grow.refl _).same_cell c29) ?_;obtain⟨s37,H37,ws,e37,n37,g37,o37,v37,l37⟩:=krj n33 n35 (by omega) (by omega);rw[kg B2,hbh]at v37;refine Runs.step e37 ?_;refine Runs.step (seen (asSl_v _)) ?_;refine Runs.when (g37.same_cell c29) ?_;have c37:=g37.cell_some c29;have k37:=g37.cell_some k29;obtain⟨s39,e39,n39,_⟩:=kdw n37;rw[v37]at n39;refine Runs.step e39 ?_;refine Runs.step (seen (asSl_v _)) ?_;refine Runs.when ((Grow.refl _).same_cell c37) ?_;have q1:=kso B2 al ah;have q2:=kso B2 bl bh;obtain⟨_,H41,e41,s41,rfl,n41,g41,o41⟩:=kog N (by omega) (by omega) (n31.grow g37) n39 c37;rw[kg B2,kg B2]at n41;refine Runs.step ((kpf p _ _ _).trans e41) ?_;refine Runs.step (seen (asSl_v _)) ?_
  have mm:al*bl+ah*bh≤(al+ah)*(bl+bh):=by
   rw[Nat.add_mul,Nat.mul_add,Nat.mul_add];omega
  have gC:=g22.trans (g29.trans (g37.trans g41))
  have lm:(digs B ((al+ah)*(bl+bh))).length≤2*n+2:=by
   rw[kba B2];have h1:=(kba B2 (al+ah) (n+1)).1 (by omega);have h2:=(kba B2 (bl+bh) (n+1)).1 (by omega);rw[show 2*n+2=(n+1)+(n+1)from by omega,Nat.pow_add];exact Nat.mul_lt_mul_of_lt_of_lt h1 h2
  obtain⟨s43,H43,us,e43,n43,g43,o43,v43,l43⟩:=ko5 n41 (n16.grow gC) (by omega) (km5 (by omega)) (by rw[kg B2,kg B2];omega);rw[kg B2,kg B2]at v43;refine Runs.step e43 ?_;refine Runs.step (seen (asSl_v _)) ?_;obtain⟨s45,e45,n45,_⟩:=kdw n43;rw[v43]at n45;refine Runs.step e45 ?_;refine Runs.step (seen (asSl_v _)) ?_;have gD:=(g29.trans (g37.trans g41)).trans g43;have l45:=km5 (a:=(al+ah)*(bl+bh)-al*bl) (c:=(al+ah)*(bl+bh)) (by omega);obtain⟨s47,H47,rs,e47,n47,g47,o47,v47,l47⟩:=ko5 n45 (n22.grow gD) (by omega) (km5 (by omega)) (by rw[kg B2,kg B2];omega);rw[kg B2,kg B2]at v47;refine Runs.step e47 ?_;refine Runs.step (seen (asSl_v _)) ?_;obtain⟨s49,e49,n49,_⟩:=kdw n47;rw[v47]at n49;refine Runs.step e49 ?_;refine Runs.step (seen (asSl_v _)) ?_;have gE:Grow H9 H47:=(g16.trans gC).trans (g43.trans g47);have n16':=n16.grow ((gC.trans g43).trans g47);have n22':=n22.grow (gD.trans g47);have b47:=gE.has b9
  rw[show IntKind.wrap .i64 ((IntKind.wrap .i64 ((xs.length:Int)+(ys.length:Int)))+1)=((xs.length+ys.length+1:Nat):Int)from by
   rw[← Int.natCast_add,kbh (by omega),ki (by omega)]]
  refine Runs.mk (kdm (by omega)) kc2 fun s51 H51 v51 g51=>?_;have total:=k6j (B^n) al ah bl bh;rw[← ea,← eb]at total;generalize hm:(al+ah)*(bl+bh)-al*bl-ah*bh=m at *
  have lt:num B xs*num B ys<B^(xs.length+ys.length):=by
   rw[Nat.pow_add];exact Nat.mul_lt_mul_of_lt_of_lt (num_lt B1 ns.lt) (num_lt B1 nt.lt)
  have lt1:num B xs*num B ys<B^(xs.length+ys.length+1):=Nat.lt_of_lt_of_le lt (Nat.pow_le_pow_right B1 (by omega))
  have lp:(digs B (al*bl)).length≤xs.length+ys.length:=by
   rw[kba B2];omega
  obtain⟨H52,e52,v52,u52⟩:=k41 (n16'.grow g51) v51 (by simp;omega);refine Runs.step e52 ?_;have i47:=b47.lt;have ne:h.blks.size≠H47.blks.size:=Nat.ne_of_lt i47;have b52:=AH.has.updr (g51.has b47) ne u52;refine Runs.step (AH.has.rd0 b52 rfl (kc _ _)) ?_;have av49:=Av.of_base n49 (Nat.le_refl _);have av22:=Av.of_base n22' (Nat.le_refl _)
  have w0:num B (digs B (al*bl)++(List.replicate (xs.length+ys.length+1) 0).drop (digs B (al*bl)).length)=al*bl:=by
   rw[List.drop_replicate,kf8,kg B2]
  have lw0:(digs B (al*bl)++(List.replicate (xs.length+ys.length+1) 0).drop (digs B (al*bl)).length).length=xs.length+ys.length+1:=by
   simp;omega
  generalize digs B (al*bl)++(List.replicate (xs.length+ys.length+1) 0).drop (digs B (al*bl)).length=o0 at *
  have lmm:=km5 (a:=m) (c:=(al+ah)*(bl+bh)) (by omega);obtain⟨H54,o1,e54,v54,u54,l54,w54⟩:=kze v52 ((n49.grow g51).upda av49 u52) av49 (at':=n) (by omega) (by omega) (by omega) (by rw[w0,kg B2,lw0];omega);refine Runs.step e54 ?_;refine Runs.step rfl ?_;have b54:=AH.has.updr b52 ne u54;refine Runs.step (AH.has.rd0 b54 rfl (kc _ _)) ?_;rw[show IntKind.wrap .i64 (2*(n:Int))=((2*n:Nat):Int)from by rw[wrap64 (by omega) (by omega)];omega];have pp:B^(2*n)=B^n*B^n:=by rw[← Nat.pow_add];congr 1;omega
  have lq:(digs B (ah*bh)).length≤xs.length+ys.length:=by
   rw[kba B2];have:1*(ah*bh)≤B^n*B^n*(ah*bh):=Nat.mul_le_mul_right _ (Nat.mul_pos (Nat.pow_pos B1) (Nat.pow_pos B1));omega
  rw[w0,kg B2]at w54;obtain⟨H56,o2,e56,v56,u56,l56,w56⟩:=kze v54 (((n22'.grow g51).upda av22 u52).upda av22 u54) av22 (at':=2*n) (by omega) (by omega) (by omega) (by rw[w54,kg B2,l54,lw0,pp];omega);rw[kg B2,w54,pp,← total]at w56;refine Runs.step e56 ?_;refine Runs.step rfl ?_;obtain⟨s57,e57,n57,o57⟩:=kdw v56.nats;rw[w56]at n57;refine Runs.step e57 ?_;refine Runs.step (seen (asSl_v _)) ?_;have gF:Grow h H47:=gA.trans gE;refine Runs.ret ⟨s57,rfl,n57,(((gF.trans g51).updr gF.size u52).updr gF.size u54).updr gF.size u56,o57 _ (v56.own gF.size)⟩
end Go.Ab

/- squeezed -/
set_option maxRecDepth 10000
namespace Go.Ab
open Go.Proofs Go.Num
theorem kbbh{h:AH}{s t:Sl}{xs ys:List Nat}(n:Nats h s xs)(m:Nats h t ys)(hl:xs.length+ys.length<268435456):∃(s':Sl)(h':AH),go (.fn F.ko1 [s.v,t.v]) h=some (s'.v,h')∧Nats h' s' (digs B (num B xs*num B ys))∧Grow h h'∧Own h s':=by
 have key:Runs (go (.fn F.ko1 [s.v,t.v]) h) fun v h'=>∃s':Sl,v=s'.v∧Nats h' s' (digs B (num B xs*num B ys))∧Grow h h'∧Own h s':=by
  rw[kbag];refine Runs.new fun H3 b3 g3=>?_;refine Runs.puts b3 rfl fun H4 b4 u4=>?_;have gA:=g3.updr (Nat.le_refl _) u4;have c4:H4.cell (.new h.blks.size 0)=some (ksg (.new h.blks.size 0)):=b4.cell 0;refine Runs.step c4 ?_;obtain⟨_,H6,e6,s6,rfl,n6,g6,o6⟩:=kog 268435456 hl (Nat.le_refl _) (n.grow gA) (m.grow gA) c4;refine Runs.step ((kpf _ _ _ _).trans e6) ?_;refine Runs.step (seen (asSl_v _)) ?_;exact Runs.ret ⟨s6,rfl,n6,gA.trans g6,o6.of_le gA⟩
 obtain⟨_,h',e,s',rfl,k⟩:=key;exact⟨s',h',e,k⟩
def mulN(xs ys:List Nat):List Nat×Int:=if rt xs=true∧rt ys=true then told (num B xs*num B ys)else([],1)
theorem ke2{h:AH}{s t:Sl}{xs ys:List Nat}(n:Nats h s xs)(m:Nats h t ys):∃(s':Sl)(h':AH),go (.fn F.kdq [s.v,t.v]) h=some (.tup [s'.v,.int .i64 (mulN xs ys).2],h')∧Nats h' s' (mulN xs ys).1∧Grow h h'∧Own h s':=by
 rw[k3f];simp only[kca];have r:=Rows.two n m;have g:=Grow.push h (.cells [s.v,t.v] T.ko);generalize h.push (.cells [s.v,t.v] T.ko)=h0 at *
 rw[kmf r];simp only[Option.bind_some,kdg,List.all_cons,List.all_nil,Bool.and_true];cases hx:rt xs with
 | false=>exact⟨⟨none,0,.is 0⟩,h0,by simp[mulN,hx],by simpa[mulN,hx]using Nats.nil h0,g,Own.nil h⟩
 | true =>
  cases hy:rt ys with
  | false=>exact⟨⟨none,0,.is 0⟩,h0,by simp[mulN,hx,hy],by simpa[mulN,hx,hy]using Nats.nil h0,g,Own.nil h⟩
  | true =>
   simp only[Bool.and_self,Bool.not_true,cond_false];have lx:=(rt_iff.1 hx).1;have ly:=(rt_iff.1 hy).1;rw[show mulN xs ys=told (num B xs*num B ys)from by simp[mulN,hx,hy]];obtain⟨s1,h1,e1,n1,g1,o1⟩:=kbbh (n.grow g) (m.grow g) (by omega);obtain⟨s2,e2,n2,o2⟩:=kr2 n1;rw[kg B2]at e2 n2;refine⟨s2,h1,?_,n2,g.trans g1,o2 _ (o1.of_le g)⟩;simp only[e1,e2,Option.bind_some,asSl_v,kfu,kc]
end Go.Ab

/- squeezed -/
set_option maxRecDepth 10000
namespace Go.Ab
open Go.Proofs Go.Num
def kbc(a1:Bool)(x2:List Nat)(a3:Bool)(x4:List Nat):Bool×List Nat×Int :=
 cond (!((rtI a1 x2&&rtI a3 x4))) ((false,[],1)) (((((fromI (!(a1==a3)) ((mulN x2 x4).1)).1)),(fromI (!(a1==a3)) ((mulN x2 x4).1)).2,((mulN x2 x4).2)))
theorem k1s{h:AH}{a2:Sl}{x2:List Nat}{a4:Sl}{x4:List Nat}(n2:Nats h a2 x2)(n4:Nats h a4 x4)(a1 a3:Bool):Runs (go (.fn F.kni [.agg [.bool a1,a2.v],.agg [.bool a3,a4.v]]) h) fun v h'=>∃s1:Sl,v=.tup [.agg [.bool (kbc a1 x2 a3 x4).1,s1.v],.int .i64 (kbc a1 x2 a3 x4).2.2]∧Nats h' s1 ((kbc a1 x2 a3 x4).2.1)∧Grow h h'∧Own h s1:=by
 rw[k9n];refine Runs.new fun H5 b5 g5=>?_;refine Runs.new fun H6 b6 g6=>?_;refine Runs.new fun H7 b7 g7=>?_;refine Runs.step (AH.has.rd ((g6.trans g7).has b5) 0 rfl rfl) ?_;refine Runs.step (AH.has.rd ((g6.trans g7).has b5) 1 rfl (asSl_v _)) ?_;refine Runs.step (AH.has.rd (g7.has b6) 0 rfl rfl) ?_;refine Runs.step (AH.has.rd (g7.has b6) 1 rfl (asSl_v _)) ?_;refine Runs.new fun H8 b8 g8=>?_;obtain⟨H9,e9,g9⟩:=kpz b8 (n2.grow (((g5.trans g6).trans g7).trans g8)) (n4.grow (((g5.trans g6).trans g7).trans g8));refine Runs.step e9 ?_;refine Runs.step (seen rfl) ?_;refine Runs.cond (fun k10=>?_) (fun k10=>?_)
 ·refine Runs.puts ((g8.trans g9).has b7) rfl fun H11 b11 u11=>?_;have b8_11:=AH.has.updr (g9.has b8) (Nat.ne_of_gt (Nat.lt_of_lt_of_le (b7).lt (Nat.le_refl _))) u11;refine Runs.step (AH.has.rd b11 0 rfl rfl) ?_;refine Runs.step (AH.has.rd b11 1 rfl (asSl_v _)) ?_;have z:kbc a1 x2 a3 x4=(false,[],1):=by unfold kbc;exact(condT k10).trans rfl
  rw[z];exact Runs.ret ⟨(⟨none,0,.is 0⟩:Sl),rfl,(Nats.nil _),(((((g5.trans g6).trans g7).trans g8).trans g9).updr (Nat.le_trans ((g5.trans g6)).size (Nat.le_refl _)) u11),(Own.nil _)⟩
 ·refine Runs.step (AH.has.rd ((((g6.trans g7).trans g8).trans g9).has b5) 1 rfl (asSl_v _)) ?_;refine Runs.step (AH.has.rd (((g7.trans g8).trans g9).has b6) 1 rfl (asSl_v _)) ?_;obtain⟨s11,H11,e11,n11,g11,o11⟩:=ke2 (n2.grow ((((g5.trans g6).trans g7).trans g8).trans g9)) (n4.grow ((((g5.trans g6).trans g7).trans g8).trans g9));refine Runs.step e11 ?_;refine Runs.step rfl ?_;refine Runs.step (seen (asSl_v _)) ?_;refine Runs.step (seen (kc _ _)) ?_;refine Runs.step (AH.has.rd (((((g6.trans g7).trans g8).trans g9).trans g11).has b5) 0 rfl rfl) ?_;refine Runs.step (AH.has.rd ((((g7.trans g8).trans g9).trans g11).has b6) 0 rfl rfl) ?_;obtain⟨s12,H12,e12,n12,g12,o12⟩:=kb1 n11 (!(a1==a3));refine Runs.step e12 ?_;refine Runs.step rfl ?_;refine Runs.ifT rfl ?_;refine Runs.step (seenAt rfl rfl) ?_;refine Runs.step (seenAt rfl (asSl_v _)) ?_;refine Runs.puts ((((g8.trans g9).trans g11).trans g12).has b7) rfl fun H13 b13 u13=>?_;have n11_13:=(n11.grow g12).upda (Av.of_own o11 ((g8.trans g9).has b7).lt) u13;have n12_13:=n12.upda (Av.of_own o12 (((g8.trans g9).trans g11).has b7).lt) u13;have b8_13:=AH.has.updr (((g9.trans g11).trans g12).has b8) (Nat.ne_of_gt (Nat.lt_of_lt_of_le (b7).lt (Nat.le_refl _))) u13;refine Runs.step (AH.has.rd b13 0 rfl rfl) ?_;refine Runs.step (AH.has.rd b13 1 rfl (asSl_v _)) ?_;have z:kbc a1 x2 a3 x4=((((fromI (!(a1==a3)) ((mulN x2 x4).1)).1)),(fromI (!(a1==a3)) ((mulN x2 x4).1)).2,((mulN x2 x4).2)):=by unfold kbc;exact(condF k10).trans rfl
  rw[z];exact Runs.ret ⟨s12,rfl,n12_13,(((((((g5.trans g6).trans g7).trans g8).trans g9).trans g11).trans g12).updr (Nat.le_trans ((g5.trans g6)).size (Nat.le_refl _)) u13),(o12.of_le (((((g5.trans g6).trans g7).trans g8).trans g9).trans g11))⟩
end Go.Ab
