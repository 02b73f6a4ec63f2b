/- squeezed -/
import Derived.Test.YtgfeahhgoiidiaaGreatDoorPR3
import Derived.Test.YtgfeahhgoiidiaaGreatDoorU1
set_option linter.unusedVariables false
set_option linter.unusedSimpArgs false
set_option linter.unusedSectionVars false

namespace Go.Ab
variable{P:Program}
structure Md(T:Fp)(h h':AH):Prop where
 old:h'.old=h.old
 size:h.blks.size≤h'.blks.size
 blk:∀j,j<h.blks.size→¬T j→h'.blks[j]?=h.blks[j]?
theorem Md.refl(T:Fp)(h:AH):Md T h h:=⟨rfl,Nat.le_refl _,fun _ _ _=>rfl⟩
theorem Grow.md{h h':AH}(g:Grow h h')(T:Fp):Md T h h':=⟨g.old,g.size,fun j hj _=>g.blk j hj⟩
theorem Upd.md{h h':AH}{i:Nat}(u:Upd h h' i){T:Fp}(t:T i):Md T h h':=⟨u.old,u.size,fun j hj n=>u.blk j (fun e=>n (e▸t)) hj⟩
theorem UpdO.md{h h':AH}{T:Fp}:∀{i:Option Nat},UpdO h h' i→(∀k,i=some k→T k)→Md T h h'
 | none,u,_=>Grow.md u T
 | some k,u,t=>Upd.md u (t k rfl)
theorem Md.grow{h h':AH}{T:Fp}(m:Md T h h')(n:∀j,j<h.blks.size→¬T j):Grow h h':=⟨m.old,m.size,fun j hj=>m.blk j hj (n j hj)⟩
theorem Md.mono{h h':AH}{S T:Fp}(m:Md S h h')(f:∀j,j<h.blks.size→S j→T j):Md T h h':=⟨m.old,m.size,fun j hj n=>m.blk j hj fun s=>n (f j hj s)⟩
theorem Md.next{h h1 h2:AH}{S T:Fp}(a:Md S h h1)(b:Md T h1 h2)(f:∀j,j<h.blks.size→T j→S j):Md S h h2 :=
 ⟨b.old.trans a.old,Nat.le_trans a.size b.size,fun j hj n=>(b.blk j (Nat.lt_of_lt_of_le hj a.size) fun t=>n (f j hj t)).trans (a.blk j hj n)⟩
theorem Md.trans{h h1 h2:AH}{T:Fp}(a:Md T h h1)(b:Md T h1 h2):Md T h h2:=a.next b fun _ _ t=>t
theorem Md.thenG{h h1 h2:AH}{T:Fp}(a:Md T h h1)(b:Grow h1 h2):Md T h h2:=a.next (b.md Fp.no) fun _ _ t=>t.elim
def Dis(S T:Fp):Prop:=∀j,S j→T j→False
theorem Dis.symm{S T:Fp}(d:Dis S T):Dis T S:=fun j a b=>d j b a
theorem Dis.no{S:Fp}:Dis S Fp.no:=fun _ _ b=>b
theorem Dis.mono{S T S' T':Fp}(d:Dis S T)(f:∀j,S' j→S j)(g:∀j,T' j→T j):Dis S' T':=fun j a b=>d j (f j a) (g j b)
theorem Md.has{h h':AH}{T:Fp}(m:Md T h h'){i:Nat}{cs:List AV}{e:TypeId}(b:h.has i cs e)(n:¬T i):h'.has i cs e:=(m.blk i b.lt n).trans b
theorem Md.get{h h':AH}{T:Fp}(m:Md T h h'){i:Nat}{b:ABlk}(e:h.blks[i]?=some b)(n:¬T i):h'.blks[i]?=some b :=
 (m.blk i (Array.getElem?_eq_some_iff.1 e).1 n).trans e
theorem Md.cell{h h':AH}{T:Fp}(m:Md T h h'){r:Ref}{v:AV}(hc:h.cell r=some v)(n:∀j o,r=.new j o→¬T j):h'.cell r=some v:=by
 have hi:=AH.cell_inn hc;cases r with
 | old a=>simpa only[AH.cell,m.old]using hc
 | new j o=>simpa only[AH.cell,m.blk j hi (n j o rfl)]using hc
theorem Own.md{h h1:AH}{T:Fp}(m:Md T h h1){s:Sl}(o:Own h1 s):Own h s:=fun q hq=>by
 obtain⟨j,k,e,l⟩:=o q hq;exact⟨j,k,e,Nat.le_trans m.size l⟩
def mixA(h h':AH)(k:Nat):AH:=⟨h'.old,((List.range h.blks.size).map fun i=>(if i<k then h'.blks[i]? else h.blks[i]?).getD .dead).toArray⟩
theorem ket(h h':AH)(k:Nat):(mixA h h' k).blks.size=h.blks.size:=by simp[mixA]
theorem khu{h h':AH}{k i:Nat}(hs:h.blks.size≤h'.blks.size)(hi:i<h.blks.size):(mixA h h' k).blks[i]?=if i<k then h'.blks[i]? else h.blks[i]?:=by
 have hi':i<h'.blks.size:=Nat.lt_of_lt_of_le hi hs;simp only[mixA,List.getElem?_toArray,List.getElem?_map,List.getElem?_range hi,Option.map_some];split
 ·rw[Array.getElem?_eq_getElem hi'];rfl
 ·rw[Array.getElem?_eq_getElem hi];rfl
theorem Ef.md{α:Type}(E:Ef α){h h':AH}{S T:Fp}{cs:List AV}{a:α}(m:Md T h h')(d:Dis S T)(e:E.has h S cs a):E.has h' S cs a:=by
 have key:∀k,k≤h.blks.size→E.has (mixA h h' k) S cs a:=by
  intro k
  induction k with
  | zero =>
   intro _;refine E.grow ⟨m.old,by rw[ket];exact Nat.le_refl _,fun i hi=>?_⟩ e;rw[khu m.size hi,if_neg (by omega)]
  | succ k ih =>
   intro hk;have e':=ih (by omega);by_cases hS:S k
   ·have hT:¬T k:=fun t=>d k hS t;refine E.grow (show Grow (mixA h h' k) (mixA h h' (k+1))from⟨rfl,by rw[ket,ket];exact Nat.le_refl _,fun i hi=>?_⟩) e';rw[ket]at hi;rw[khu m.size hi,khu m.size hi];by_cases h1:i=k
    ·subst h1;rw[if_pos (by omega),if_neg (by omega),m.blk i hi hT]
    ·by_cases h2:i<k
     ·rw[if_pos (by omega),if_pos h2]
     ·rw[if_neg (by omega),if_neg h2]
   ·refine E.upd hS (show Upd (mixA h h' k) (mixA h h' (k+1)) k from⟨rfl,by rw[ket,ket];exact Nat.le_refl _,fun i hne hi=>?_⟩) e';rw[ket]at hi;rw[khu m.size hi,khu m.size hi];by_cases h2:i<k
    ·rw[if_pos (by omega),if_pos h2]
    ·rw[if_neg (by omega),if_neg h2]
 refine E.grow (show Grow (mixA h h' h.blks.size) h' from⟨rfl,by rw[ket];exact m.size,fun i hi=>?_⟩) (key _ (Nat.le_refl _));rw[ket]at hi;rw[khu m.size hi,if_pos hi]
theorem Cells.md{h h':AH}{s:Sl}{n:Nat}{flat:List AV}(c:Cells h s n flat){T:Fp}(m:Md T h h')(no:∀j o,s.ref=some (.new j o)→¬T j):Cells h' s n flat :=
 ⟨c.fit,c.len,fun k v hv=>by
  obtain⟨r,e1,e2⟩:=c.get k v hv;refine⟨r,e1,m.cell e2 fun j o he=>?_⟩;cases r with
  | old a=>cases he
  | new j' p =>
   simp only[Ref.add_new,Ref.new.injEq]at he;obtain⟨rfl,_⟩:=he;exact no _ p e1⟩
section
variable{α:Type}{E:Ef α}
theorem Sq.md{h h':AH}{S T:Fp}{s:Sl}{xs:List α}(n:Sq E h S s xs)(m:Md T h h')(d:Dis S T):Sq E h' S s xs:=by
 obtain⟨s',e,n'⟩:=Ef.md (Ef.seq E) m d (show(Ef.seq E).has h S [s.v] xs from⟨s,rfl,n⟩);cases Sl.vs_inj e;exact n'
theorem Nats.mdE{h h':AH}{S T:Fp}{s:Sl}{xs:List Nat}(n:Nats h s xs)(a:∀j,¬Av s j xs→S j)(m:Md T h h')(d:Dis S T):Nats h' s xs:=by
 obtain⟨s',e,n',_⟩:=Ef.md Ef.nats m d (show Ef.nats.has h S [s.v] xs from⟨s,rfl,n,a⟩);cases Sl.vs_inj e;exact n'
theorem GF.md{elem:TypeId}{h h':AH}{S T:Fp}{s:Sl}(m:Md T h h')(d:Dis S T):∀{j:Option Nat}{xs:List α},GF E elem h S s j xs→(∀k,j=some k→¬T k)→GF E elem h' S s j xs
 | .none,_,v,_=>v
 | .some k,_,⟨l,a,r,ln,rows,e,b,c,r2⟩,ne=>⟨l,a,r,ln,rows,e,m.has b (ne k rfl),c,r2.imp fun _ _=>E.md m d⟩
end
end Go.Ab

/- squeezed -/
namespace Go.Ab
def kvGet{A:Type}:List (Int×A)→Int→Option A
 | [],_=>none
 | (k,v)::t,n=>if n=k then some v else kvGet t n
def kvPut{A:Type}:List (Int×A)→Int→A→List (Int×A)
 | [],n,v=>[(n,v)]
 | (k,w)::t,n,v=>if n=k then(k,v)::t else(k,w)::kvPut t n v
def kvDel{A:Type}:List (Int×A)→Int→List (Int×A)
 | [],_=>[]
 | (k,w)::t,n=>if n=k then t else(k,w)::kvDel t n
theorem k0l{A:Type}(l:List (Int×A))(n m:Int)(v:A):kvGet (kvPut l n v) m=if m=n then some v else kvGet l m:=by
 induction l with
 | nil=>simp[kvPut,kvGet]
 | cons p t ih =>
  obtain⟨k,w⟩:=p;simp only[kvPut];by_cases h:n=k
  ·subst h;rw[if_pos rfl];simp only[kvGet];by_cases h2:m=n
   ·rw[if_pos h2,if_pos h2]
   ·rw[if_neg h2,if_neg h2,if_neg h2]
  ·rw[if_neg h];simp only[kvGet,ih];by_cases h2:m=k
   ·rw[if_pos h2,if_pos h2,if_neg (by omega)]
   ·rw[if_neg h2,if_neg h2]
theorem kst{A:Type}{l:List (Int×A)}{n:Int}(v:A)(h:kvGet l n=none):kvPut l n v=l++[(n,v)]:=by
 induction l with
 | nil=>rfl
 | cons p t ih =>
  obtain⟨k,w⟩:=p;simp only[kvGet]at h;by_cases e:n=k
  ·rw[if_pos e]at h;cases h
  ·rw[if_neg e]at h;simp only[kvPut,if_neg e,ih h,List.cons_append]
theorem kwl{A:Type}{l:List (Int×A)}{n:Int}{w:A}(v:A)(h:kvGet l n=some w):(kvPut l n v).length=l.length:=by
 induction l with
 | nil=>cases h
 | cons p t ih =>
  obtain⟨k,u⟩:=p;simp only[kvGet]at h;by_cases e:n=k
  ·simp only[kvPut,if_pos e,List.length_cons]
  ·rw[if_neg e]at h;simp only[kvPut,if_neg e,List.length_cons,ih h]
def Kv(es:List AEnt)(l:List (Int×AV)):Prop:=es.map (fun e=>(e.key,e.val))=l.map fun p=>(AV.int .i64 p.1,p.2)
theorem Kv.nil:Kv [] []:=rfl
theorem Kv.len{es:List AEnt}{l:List (Int×AV)}(k:Kv es l):es.length=l.length:=by
 have:=congrArg List.length k
 simpa using this
theorem koz{n:Int}:∀{es:List AEnt}{l:List (Int×AV)}(j:Nat),Kv es l→
  (findA .i64 n es j=some none∧kvGet l n=none∧(∀v b,Kv (es++[⟨.int .i64 n,v,b⟩]) (kvPut l n v))∧kvDel l n=l)∨
  ∃t v,findA .i64 n es j=some (some (j+t,v))∧t<es.length∧kvGet l n=some v∧(∀w,Kv (es.modify t fun e=>⟨.int .i64 n,w,e.born⟩) (kvPut l n w))∧Kv (es.eraseIdx t) (kvDel l n)
 | [],l,j,k=>by
  cases l with
  | nil=>exact .inl ⟨rfl,rfl,fun v b=>rfl,rfl⟩
  | cons p t=>simp[Kv]at k
 | e::es,l,j,k=>by
  cases l with
  | nil=>simp[Kv]at k
  | cons p t =>
   obtain⟨m,w⟩:=p;simp only[Kv,List.map_cons,List.cons.injEq,Prod.mk.injEq]at k;obtain⟨⟨k1,k2⟩,k3⟩:=k;have ih:=koz (n:=n) (j+1) (show Kv es t from k3);simp only[findA,k1,decide_true,cond_true,kvGet,kvPut,kvDel];by_cases h:n=m
   ·subst h
    right
    refine⟨0,e.val,by simp,by simp,by rw[if_pos rfl,k2],fun u=>?_,?_⟩
    ·simp only[if_true];simp only[Kv,List.modify_zero_cons,List.map_cons];rw[show es.map _=t.map _ from k3]
    ·simp only[if_true];exact k3
   ·rw[decide_eq_false h,cond_false];simp only[if_neg h];rcases ih with⟨a,b,c,d⟩ | ⟨x,v,a,b,c,d,f⟩
    ·left
     refine⟨a,b,fun v bb=>?_,by rw[d]⟩;have:=c v bb;simp only[Kv,List.map_append,List.cons_append,List.map_cons]at this⊢;rw[this,k1,k2]
    ·right
     refine⟨x+1,v,by rw[a];congr 3;omega,by simp;omega,c,fun u=>?_,?_⟩
     ·have:=d u;simp only[Kv,List.modify_succ_cons,List.map_cons]at this⊢;rw[this,k1,k2]
     ·simp only[Kv,List.eraseIdx_cons_succ,List.map_cons]at f⊢;rw[f,k1,k2]
def MapIs(h:AH)(i:Nat)(l:List (Int×AV)):Prop:=∃es ck,h.blks[i]?=some (.map es ck)∧Kv es l
theorem MapIs.lt{h:AH}{i:Nat}{l:List (Int×AV)}(m:MapIs h i l):i<h.blks.size:=by
 obtain⟨es,ck,e,_⟩:=m;exact(Array.getElem?_eq_some_iff.1 e).1
theorem MapIs.md{h h':AH}{i:Nat}{l:List (Int×AV)}{T:Fp}(m:MapIs h i l)(d:Md T h h')(n:¬T i):MapIs h' i l:=by
 obtain⟨es,ck,e,k⟩:=m;exact⟨es,ck,d.get e n,k⟩
theorem MapIs.grow{h h':AH}{i:Nat}{l:List (Int×AV)}(m:MapIs h i l)(g:Grow h h'):MapIs h' i l:=m.md (g.md Fp.no) Fp.not_no
theorem AH.setBlk_Upd{h:AH}{i:Nat}(b:ABlk):Upd h (h.setBlk i b) i:=⟨rfl,by rw[AH.setBlk_size];exact Nat.le_refl _,fun j hj _=>AH.setBlk_ne hj⟩
section
variable{h:AH}{i:Nat}{l:List (Int×AV)}
theorem MapIs.at(m:MapIs h i l):∃es ck,h.mapAt i=some (es,ck)∧Kv es l:=by
 obtain⟨es,ck,e,k⟩:=m;exact⟨es,ck,by simp only[AH.mapAt,e],k⟩
theorem MapIs.get(m:MapIs h i l)(n:Int):mapGet h (some i) .i64 n=some (kvGet l n):=by
 obtain⟨es,ck,e,k⟩:=m.at;simp only[mapGet,e,Option.bind_some];rcases koz (n:=n) 0 k with⟨a,b,_⟩ | ⟨t,v,a,_,b,_⟩
 ·rw[a,b];rfl
 ·rw[a,b];rfl
theorem MapIs.put(m:MapIs h i l)(n:Int)(v:AV):∃h',mapPut h i .i64 n v=some h'∧MapIs h' i (kvPut l n v)∧Upd h h' i:=by
 have hl:=m.lt;obtain⟨es,ck,e,k⟩:=m.at;simp only[mapPut,e,Option.bind_some];rcases koz (n:=n) 0 k with⟨a,b,c,_⟩ | ⟨t,w,a,_,b,c,_⟩
 ·rw[a];exact⟨_,rfl,⟨_,_,AH.setBlk_get hl,c v ck⟩,AH.setBlk_Upd _⟩
 ·rw[a,Nat.zero_add];exact⟨_,rfl,⟨_,_,AH.setBlk_get hl,c v⟩,AH.setBlk_Upd _⟩
theorem MapIs.size(m:MapIs h i l):mapLen h (some i)=some l.length:=by
 obtain⟨es,ck,e,k⟩:=m.at;simp only[mapLen,e,Option.map_some,k.len]
theorem MapIs.clear(m:MapIs h i l):∃h',kjb h (some i)=some h'∧MapIs h' i []∧Upd h h' i:=by
 have hl:=m.lt;obtain⟨es,ck,e,k⟩:=m.at;simp only[kjb,e,Option.map_some];exact⟨_,rfl,⟨_,_,AH.setBlk_get hl,Kv.nil⟩,AH.setBlk_Upd _⟩
end
section
variable{P:AV→AH→Prop}
theorem Runs.call{x:Option (AV×AH)}{Q:AV→AH→Prop}{K:AV×AH→Option (AV×AH)}(r:Runs x Q)(H:∀v h',Q v h'→Runs (K (v,h')) P):Runs (x.bind K) P:=by
 obtain⟨v,h',e,q⟩:=r;subst e;exact H v h' q
theorem Runs.newMap{h:AH}{K:Nat→AH→Option (AV×AH)}(H:∀h',MapIs h' h.blks.size []→Grow h h'→Runs (K h.blks.size h') P):Runs (Go.Ab.newM h (.map [] 0) K) P :=
 Runs.newM fun h' e g=>H h' ⟨[],0,e,Kv.nil⟩ g
theorem kkx{n:Nat}{G:Int→AH→Option (AV×AH)}{p:Nat→Bool}{h0:AH}
  (step:∀(i:Nat)(h:AH)(P:AV→AH→Prop),i<n→Grow h0 h→(∀h',Grow h0 h'→p i=true→P (.int .i64 (i:Int)) h')→(∀h',Grow h0 h'→p i=false→Runs (G ((i+1:Nat):Int) h') P)→Runs (G (i:Int) h) P)
  (done:∀(h:AH),Grow h0 h→G (n:Int) h=some (.int .i64 (-1),h)):∀(k i:Nat),i+k=n→∀{h:AH},Grow h0 h→(∀j,j<i→p j=false)→
  Runs (G (i:Int) h) fun v h'=>Grow h0 h'∧((v=.int .i64 (-1)∧∀j,j<n→p j=false)∨∃j,j<n∧v=.int .i64 (j:Int)∧p j=true∧∀t,t<j→p t=false):=by
 intro k
 induction k with
 | zero =>
  intro i hi h g hp;have:i=n:=by omega
  subst this;rw[done h g];exact Runs.ret ⟨g,.inl ⟨rfl,hp⟩⟩
 | succ k ih =>
  intro i hi h g hp;refine step i h _ (by omega) g (fun h' g' e=>⟨g',.inr ⟨i,by omega,rfl,e,hp⟩⟩) fun h' g' e=>ih (i+1) (by omega) g' fun j hj=>?_;rcases Nat.lt_or_ge j i with h1 | h1
  ·exact hp j h1
  ·have:j=i:=by omega
   subst this;exact e
theorem Runs.contains{α:Type}{xs:List α}{p:α→Bool}{x:Option (AV×AH)}{h0:AH}(R:Runs x fun v h'=>Grow h0 h'∧((v=.int .i64 (-1)∧∀j,j<xs.length→(xs[j]?).any p=false)∨∃j,j<xs.length∧v=.int .i64 (j:Int)∧(xs[j]?).any p=true∧∀t,t<j→(xs[t]?).any p=false)) :
  Runs (x.bind fun q=>((some q.1).bind (AV.asInt .i64)).bind fun n=>some (.bool (decide (n≥0)),q.2)) fun v h'=>v=.bool (xs.any p)∧Grow h0 h':=by
 refine R.call fun v h' ⟨g,d⟩=>?_;rcases d with⟨rfl,a⟩ | ⟨j,hj,rfl,a,_⟩
 ·refine Runs.step (seen (kb _ _)) (Runs.ret ⟨?_,g⟩)
  have:xs.any p=false:=by
   rw[List.any_eq_false];intro y hy;obtain⟨t,ht,rfl⟩:=List.getElem_of_mem hy;have:=a t ht;rw[List.getElem?_eq_getElem ht]at this
   simpa using this
  rw[this];exact congrArg AV.bool (decide_eq_false (by omega))
 ·refine Runs.step (seen (kb _ _)) (Runs.ret ⟨?_,g⟩)
  have:xs.any p=true:=by
   rw[List.any_eq_true];rw[List.getElem?_eq_getElem hj]at a;exact⟨xs[j],List.getElem_mem hj,by simpa using a⟩
  rw[this];exact congrArg AV.bool (decide_eq_true (by omega))
end
end Go.Ab

/- squeezed -/
namespace Go.Ab
abbrev EI:Ef Int:=Ef.int .i64
section
variable{h:AH}{S:Fp}{s:Sl}
theorem Sq.int{k:IntKind}{xs:List Int}(n:Sq (Ef.int k) h S s xs){i:Nat}(hi:i<xs.length):∃r:Ref,idx s.ref s.len (i:Int) 1=some r∧(h.cell r).bind (AV.asInt k)=some xs[i]:=by
 obtain⟨r,cs,e1,e2,l⟩:=n.at (kee hi);have e2:cs=[.int k xs[i]]:=e2;subst e2;rw[n.len];exact⟨r,e1,l.rd0 (Grow.refl _) rfl (kb _ _)⟩
theorem Sq.sl{α:Type}{E:Ef α}{xs:List (List α)}(n:Sq (Ef.seq E) h S s xs){i:Nat}(hi:i<xs.length):∃(r:Ref)(s':Sl),idx s.ref s.len (i:Int) 1=some r∧(h.cell r).bind AV.asSl=some s'∧(h.cell (r.add 0)).bind AV.asSl=some s'∧Sq E h S s' xs[i]:=by
 obtain⟨r,cs,e1,⟨s',rfl,n'⟩,l⟩:=n.at (kee hi);rw[n.len];exact⟨r,s',e1,l.rd0 (Grow.refl _) rfl (asSl_v _),l.rd (Grow.refl _) 0 rfl (asSl_v _),n'⟩
theorem Sq.nats{xs:List (List Nat)}(n:Sq Ef.nats h S s xs){i:Nat}(hi:i<xs.length):∃(r:Ref)(s':Sl),idx s.ref s.len (i:Int) 1=some r∧(h.cell r).bind AV.asSl=some s'∧Nats h s' xs[i]∧∀j,¬Av s' j xs[i]→S j:=by
 obtain⟨r,cs,e1,⟨s',rfl,n',a⟩,l⟩:=n.at (kee hi);rw[n.len];exact⟨r,s',e1,l.rd0 (Grow.refl _) rfl (asSl_v _),n',a⟩
end
theorem k8t{P:Program}{h:AH}{t e:TypeId}{cs:List AV}{k:IntKind}(S:Fp)(hu:P.underlying t=some (.slice e))(he:P.underlying e=some (.int k))(hc:P.cellsOf e=1)(a:ArgT P h t cs):∃(s:Sl)(xs:List Int),cs=[s.v]∧Sq (Ef.int k) h S s xs :=
 Sq.of_arg (E:=Ef.int k) hu hc (fun es t=>by
  obtain⟨y,rfl,w⟩:=t.int he;exact⟨y,rfl⟩) a
structure Nd where
 leaf:Bool
 weight:Int
 party:Int
 feature:Int
 cut:Int
 left:Int
 right:Int
 deriving DecidableEq
def Nd.cells(x:Nd):List AV:=[.bool x.leaf,.int .i64 x.weight,.int .i64 x.party,.int .i64 x.feature,.int .i64 x.cut,.int .i64 x.left,.int .i64 x.right]
@[reducible] def Ef.nd:Ef Nd where
 w:=7
 pos:=by decide
 has _ _ cs x:=cs=x.cells
 len e:=by rw[e];rfl
 grow _ e:=e
 mono _ e:=e
 upd _ _ e:=e
 bound e:=e
theorem Sq.nd{h:AH}{S:Fp}{s:Sl}{xs:List Nd}(n:Sq Ef.nd h S s xs){i:Nat}(hi:i<xs.length):∃r:Ref,idx s.ref s.len (i:Int) 7=some r∧(h.cell (r.add 0)).bind AV.asBool=some xs[i].leaf∧(h.cell (r.add 1)).bind (AV.asInt .i64)=some xs[i].weight∧
  (h.cell (r.add 2)).bind (AV.asInt .i64)=some xs[i].party∧(h.cell (r.add 3)).bind (AV.asInt .i64)=some xs[i].feature∧(h.cell (r.add 4)).bind (AV.asInt .i64)=some xs[i].cut∧(h.cell (r.add 5)).bind (AV.asInt .i64)=some xs[i].left∧(h.cell (r.add 6)).bind (AV.asInt .i64)=some xs[i].right:=by
 obtain⟨r,cs,e1,e2,l⟩:=n.at (kee hi);have e2:cs=xs[i].cells:=e2;subst e2;rw[n.len];have g:=Grow.refl h;exact⟨r,e1,l.rd g 0 rfl rfl,l.rd g 1 rfl (kb _ _),l.rd g 2 rfl (kb _ _),l.rd g 3 rfl (kb _ _),l.rd g 4 rfl (kb _ _),l.rd g 5 rfl (kb _ _),l.rd g 6 rfl (kb _ _)⟩
theorem kyc{α:Type}{xs:List α}{i:Nat}(hi:i<xs.length)(p:α→Bool):(xs.drop i).all p=(p xs[i]&&(xs.drop (i+1)).all p):=by
 rw[List.drop_eq_getElem_cons hi,List.all_cons]
theorem kyo{α:Type}{xs:List α}{i:Nat}(hi:xs.length≤i)(p:α→Bool):(xs.drop i).all p=true:=by
 rw[List.drop_of_length_le hi];rfl
theorem kbbw{n i:Nat}(hi:i<n)(p:Nat→Bool):((List.range n).drop i).all p=(p i&&((List.range n).drop (i+1)).all p):=by
 rw[kyc (by simpa using hi),List.getElem_range]
end Go.Ab

/- squeezed -/
namespace Go.Ab
variable{P:Program}{α:Type}{E:Ef α}{elem:TypeId}
def GQ{α:Type}(E:Ef α)(elem:TypeId)(h:AH)(S:Fp)(s:Sl)(k:Nat)(xs:List α):Prop :=
 ¬S k∧s.ref=some (.new k 0)∧s.len=xs.length∧∃(rows sp:List (List AV))(e:TypeId),h.has k (rows++sp).flatten e∧(∀r∈sp,r.length=E.w)∧(s.cap=.is (rows.length+sp.length)∨s.cap=.opn E.w∧e=elem)∧All2 (E.has h S) rows xs∧rows.length+sp.length≤9223372036854775807
variable{h h':AH}{S T:Fp}{s:Sl}{k:Nat}{xs:List α}
theorem GQ.lit{i n:Nat}{rows:List (List AV)}{e:TypeId}(b:h.has i rows.flatten e)(c:All2 (E.has h S) rows xs)(a:¬S i)(hn:xs.length=n)(hs:n≤9223372036854775807:=by decide):GQ E elem h S ⟨some (.new i 0),n,.is n⟩ i xs :=
 ⟨a,rfl,hn.symm,rows,[],e,by simpa using b,by simp,.inl (by simp[All2.length c,hn]),c,by simp[All2.length c];omega⟩
theorem GQ.grow(v:GQ E elem h S s k xs)(g:Grow h h'):GQ E elem h' S s k xs:=by
 obtain⟨a,r,ln,rows,sp,e,b,w,c,r2,l⟩:=v;exact⟨a,r,ln,rows,sp,e,g.has b,w,c,r2.imp fun _ _=>E.grow g,l⟩
theorem GQ.lt(v:GQ E elem h S s k xs):k<h.blks.size:=by
 obtain⟨a,r,ln,rows,sp,e,b,w,c,r2,l⟩:=v;exact b.lt
theorem GQ.not(v:GQ E elem h S s k xs):¬S k:=v.1
theorem GQ.mono(v:GQ E elem h S s k xs)(m:∀j,S j→T j)(no:¬T k):GQ E elem h T s k xs:=by
 obtain⟨a,r,ln,rows,sp,e,b,w,c,r2,l⟩:=v;exact⟨no,r,ln,rows,sp,e,b,w,c,r2.imp fun _ _=>E.mono m,l⟩
theorem GQ.bound(v:GQ E elem h S s k xs):GQ E elem h (fun j=>S j∧j<h.blks.size) s k xs:=by
 obtain⟨a,r,ln,rows,sp,e,b,w,c,r2,l⟩:=v;exact⟨fun x=>a x.1,r,ln,rows,sp,e,b,w,c,r2.imp fun _ _=>E.bound,l⟩
theorem GQ.upd{i:Nat}(v:GQ E elem h S s k xs)(u:Upd h h' i)(no:¬S i)(ne:k≠i):GQ E elem h' S s k xs:=by
 obtain⟨a,r,ln,rows,sp,e,b,w,c,r2,l⟩:=v;exact⟨a,r,ln,rows,sp,e,b.updr ne u,w,c,r2.imp fun _ _=>E.upd no u,l⟩
theorem GQ.md(v:GQ E elem h S s k xs)(m:Md T h h')(d:Dis S T)(ne:¬T k):GQ E elem h' S s k xs:=by
 obtain⟨a,r,ln,rows,sp,e,b,w,c,r2,l⟩:=v;exact⟨a,r,ln,rows,sp,e,m.has b ne,w,c,r2.imp fun _ _=>E.md m d,l⟩
theorem GQ.cells{rows sp:List (List AV)}{e:TypeId}(r:s.ref=some (.new k 0))(ln:s.len=xs.length)(b:h.has k (rows++sp).flatten e)(c:s.cap=.is (rows.length+sp.length)∨s.cap=.opn E.w∧e=elem)(r2:All2 (E.has h S) rows xs):Cells h s E.w rows.flatten:=by
 have hl:s.len*E.w=rows.flatten.length:=by rw[kcp (Ef.rows r2),All2.length r2,ln]
 refine⟨?_,hl,fun i v hv=>⟨_,r,?_⟩⟩
 ·unfold Sl.fit;rcases c with c | c
  ·rw[c,ln,← All2.length r2];exact Nat.le_add_right _ _
  ·rw[c.1]
 ·rw[Ref.add_new,Nat.zero_add,b.cell,List.flatten_append,List.getElem?_append_left (List.getElem?_eq_some_iff.1 hv).1];exact hv
theorem GQ.sq(v:GQ E elem h S s k xs):Sq E h (Fp.or (fun j=>j=k) S) s xs:=by
 obtain⟨a,r,ln,rows,sp,e,b,w,c,r2,l⟩:=v;refine⟨⟨rows,GQ.cells r ln b c r2,r2.imp fun _ _=>E.mono fun j x=>.inr x⟩,ln,?_,.inr fun j o ho=>?_⟩
 ·have:=All2.length r2;omega
 ·rw[r]at ho;cases ho;exact .inl rfl
theorem kqp{w:Nat}:∀{rs:List (List AV)}(n:Nat),(∀r∈rs,r.length=w)→rs.flatten.take (n*w)=(rs.take n).flatten∧rs.flatten.drop (n*w)=(rs.drop n).flatten
 | [],n,_=>by simp
 | r::rs,0,hh=>by simp
 | r::rs,n+1,hh=>by
  have h1:=kqp (rs:=rs) n fun q hq=>hh q (by simp[hq]);have h2:=hh r (by simp);rw[Nat.succ_mul,List.flatten_cons,List.take_succ_cons,List.drop_succ_cons,List.flatten_cons,← h1.1,← h1.2];constructor
  ·rw[List.take_append,h2,List.take_of_length_le (by omega),Nat.add_sub_cancel]
  ·rw[List.drop_append,h2,List.drop_eq_nil_of_le (by omega),Nat.add_sub_cancel,List.nil_append]
theorem kq4{w:Nat}{rs:List (List AV)}{j:Nat}{cs:List AV}(hr:∀r∈rs,r.length=w)(hj:j<rs.length)(hw:cs.length=w):rs.flatten.take (j*w)++cs++rs.flatten.drop (j*w+cs.length)=(rs.set j cs).flatten:=by
 have h3:j*w+cs.length=(j+1)*w:=by rw[hw,Nat.succ_mul]
 rw[h3,(kqp j hr).1,(kqp (j+1) hr).2,List.set_eq_take_append_cons_drop,if_pos hj];simp
theorem GQ.rowsW{rows sp:List (List AV)}(r2:All2 (E.has h S) rows xs)(w:∀r∈sp,r.length=E.w):∀r∈rows++sp,r.length=E.w:=fun r hr=>(List.mem_append.1 hr).elim (Ef.rows r2 r) (w r)
theorem GQ.at(v:GQ E elem h S s k xs){i:Nat}(hi:i<xs.length):∃(r:Ref)(cs:List AV),idx s.ref s.len (i:Int) E.w=some r∧E.has h S cs xs[i]∧Lies h r cs:=by
 obtain⟨a,r,ln,rows,sp,e,b,w,c,r2,l⟩:=v;obtain⟨cs,hc,hh⟩:=r2.get (List.getElem?_eq_getElem hi);have hrl:=All2.length r2;refine⟨.new k (i*E.w),cs,?_,hh,⟨fun j x hj=>?_⟩⟩
 ·rw[r,kcw _ _ _ _ (by omega) (by omega)];simp
 ·rw[Ref.add_new,b.cell];exact kj4 (GQ.rowsW r2 w) (by rw[List.getElem?_append_left (by omega)];exact hc) hj
theorem GQ.set(v:GQ E elem h S s k xs){cs:List AV}{x:α}(c:E.has h T cs x)(no:¬T k){j:Nat}(hj:j<xs.length) :
  ∃r h',idx s.ref s.len (j:Int) E.w=some r∧h.puts r cs=some h'∧GQ E elem h' (Fp.or S T) s k (xs.set j x)∧Upd h h' k:=by
 obtain⟨a,r,ln,rows,sp,e,b,w,cp,r2,l⟩:=v;have hrl:=All2.length r2;have hr:=GQ.rowsW r2 w;have hw:=E.len c
 have hle:j*E.w+cs.length≤(rows++sp).flatten.length:=by
  rw[kcp hr,hw,← Nat.succ_mul,List.length_append];exact Nat.mul_le_mul_right _ (by omega)
 have key:=kq4 (j:=j) hr (by rw[List.length_append];omega) hw;have hset:(rows++sp).set j cs=rows.set j cs++sp:=List.set_append_left _ _ (by omega);rw[hset]at key;refine⟨.new k (j*E.w),h.upd k (rows.set j cs++sp).flatten e,?_,?_,⟨fun x=>x.elim a no,r,by simpa using ln,rows.set j cs,sp,e,AH.has_upd b _ _,w,by simpa using cp,?_,by simpa using l⟩,AH.upd_Upd h k _ e⟩
 ·rw[r,kcw _ _ _ _ (by omega) (by omega)];simp
 ·rw[b.puts hle,key]
 ·have:All2 (fun cs a=>E.has h (Fp.or S T) cs a) (rows.set j cs) (xs.set j x):=All2.set (r2.imp fun _ _=>E.mono fun j k=>.inl k) (E.mono (fun j k=>.inr k) c) j;exact this.imp fun _ _ y=>E.upd (fun x=>x.elim a no) (AH.upd_Upd h k _ e) y
theorem GQ.push(v:GQ E elem h S s k xs){cs:List AV}{x:α}(c:E.has h T cs x)(no:¬T k)(hg:growOk P (xs.length+1) elem E.w=true) :
  ∃s' h' k',kx P s cs 1 elem E.w h=some (s'.v,h')∧GQ E elem h' (fun j=>(Fp.or S T) j∧j<h.blks.size) s' k' (xs++[x])∧Upd h h' k∧(k'=k∨k'=h.blks.size):=by
 have hl:=klw hg;have hw:=E.len c;have nS:¬((Fp.or S T) h.blks.size∧h.blks.size<h.blks.size):=fun k=>Nat.lt_irrefl _ k.2;obtain⟨a,r,ln,rows,sp,e,b,w,cp,r2,l⟩:=v;have hrl:=All2.length r2;have cc:=GQ.cells r ln b cp r2;rw[← ln]at hg hl
 have newB:∀{h1 h2:AH},h1.blks.size=h.blks.size→Upd h h1 k→h2=h1.push (.cells (rows.flatten++cs) elem)→GQ E elem h2 (fun j=>(Fp.or S T) j∧j<h.blks.size) ⟨some (.new h.blks.size 0),s.len+1,.opn E.w⟩ h.blks.size (xs++[x])∧Upd h h2 k:=by
  intro h1 h2 sz u e2;subst e2;refine⟨⟨nS,rfl,by simp[ln],rows++[cs],[],elem,?_,by simp,.inr ⟨rfl,rfl⟩,All2.snoc (r2.imp fun _ _ y=>?_) ?_,by simp;omega⟩,u.trans ((Grow.push _ _).toUpd k)⟩
  ·have:=AH.has_push h1 (rows.flatten++cs) elem;rw[sz]at this
   simpa using this
  ·exact E.grow (Grow.push _ _) (E.mono (fun j q=>⟨.inl q.1,q.2⟩) (E.upd (fun q=>a q.1) u (E.bound y)))
  ·exact E.grow (Grow.push _ _) (E.mono (fun j q=>⟨.inr q.1,q.2⟩) (E.upd (fun q=>no q.1) u (E.bound c)))
 rcases cp with ce | ⟨ce,rfl⟩
 ·cases sp with
  | nil =>
   rw[kfx ce (by simp;omega) hg cc];obtain⟨v2,u2⟩:=newB (h1:=h) rfl ((Grow.refl h).toUpd k) rfl;exact⟨_,_,_,rfl,v2,u2,.inr rfl⟩
  | cons q sp =>
   have hr:=GQ.rowsW r2 w
   have hle:rows.length*E.w+cs.length≤(rows++q::sp).flatten.length:=by
    rw[kcp hr,hw,← Nat.succ_mul,List.length_append,List.length_cons];exact Nat.mul_le_mul_right _ (by omega)
   have key:=kq4 (j:=rows.length) hr (by simp) hw
   have hset:(rows++q::sp).set rows.length cs=(rows++[cs])++sp:=by
    rw[List.set_append_right _ _ (Nat.le_refl _)];simp
   rw[hset]at key
   have hap:kx P s cs 1 elem E.w h=some (Sl.v ⟨s.ref,s.len+1,s.cap⟩,h.upd k ((rows++[cs])++sp).flatten e):=by
    unfold kx;simp only[ce];rw[show Nat.ble (s.len+1) (rows.length+(q::sp).length)=true from Nat.ble_eq_true_of_le (by simp;omega)];simp only[cond_true,r];rw[show(Ref.new k 0).add (s.len*E.w)=Ref.new k (rows.length*E.w)from by rw[Ref.add_new,Nat.zero_add,ln,hrl],b.puts hle,key];rfl
   rw[hap];have u:=AH.upd_Upd h k ((rows++[cs])++sp).flatten e;refine⟨_,_,k,rfl,⟨fun x=>x.1.elim a no,r,by simp[ln],rows++[cs],sp,e,AH.has_upd b _ _,fun r hr=>w r (by simp[hr]),.inl ?_,All2.snoc (r2.imp fun _ _ y=>?_) ?_,by simp at l⊢;omega⟩,u,.inl rfl⟩
   ·rw[ce];simp;omega
   ·exact E.mono (fun j q=>⟨.inl q.1,q.2⟩) (E.upd (fun q=>a q.1) u (E.bound y))
   ·exact E.mono (fun j q=>⟨.inr q.1,q.2⟩) (E.upd (fun q=>no q.1) u (E.bound c))
 ·have hap:kx P s cs 1 e E.w h=some (Sl.v ⟨some (.new h.blks.size 0),s.len+1,.opn E.w⟩,(h.kill s.ref).push (.cells (rows.flatten++cs) e)):=by
   unfold kx;simp only[ce];rw[show Nat.beq 1 0=false from rfl,show Nat.beq E.w E.w=true from Nat.beq_refl _];simp only[cond_false,hg,Bool.and_true,cond_true,r,show h.blks[k]?=_ from b];have hgets:=cc.gets;rw[r]at hgets;simp only[hgets,Option.bind_some];rw[show Nat.beq e e=true from Nat.beq_refl _,cond_true];have:(AH.kill h (some (Ref.new k 0))).blks.size=h.blks.size:=by simp[AH.kill]
   simp[AH.next,this,Sl.v];rfl
  rw[hap,r];obtain⟨v2,u2⟩:=newB (h1:=h.kill (some (.new k 0))) (by simp[AH.kill]) (AH.kill_Upd h k) rfl;exact⟨_,_,_,rfl,v2,u2,.inr rfl⟩
theorem GQ.cut(v:GQ E elem h S s k xs){n:Nat}(hn:n≤xs.length):∃s',cutSl s 0 (n:Int) E.w=some s'∧GQ E elem h S s' k (xs.take n):=by
 obtain⟨a,r,ln,rows,sp,e,b,w,cp,r2,l⟩:=v;have hrl:=All2.length r2;have hr:=Ef.rows r2;have e1:(rows++sp)=rows.take n++(rows.drop n++sp):=by rw[← List.append_assoc,List.take_append_drop]
 have t2:All2 (E.has h S) (rows.take n) (xs.take n):=All2.take r2 n;have w2:∀r∈rows.drop n++sp,r.length=E.w:=fun r hr'=>(List.mem_append.1 hr').elim (fun x=>hr r (List.mem_of_mem_drop x)) (w r);have hlen:(rows.take n).length+(rows.drop n++sp).length=rows.length+sp.length:=by simp;omega
 rcases cp with ce | ⟨ce,he⟩
 ·refine⟨⟨some (.new k 0),n,.is (rows.length+sp.length)⟩,?_,a,rfl,by simp;omega,rows.take n,rows.drop n++sp,e,by rw[← e1];exact b,w2,.inl (by rw[hlen]),t2,by omega⟩;unfold cutSl;simp only[ce];rw[decide_eq_true (show(0:Int)≤0∧(0:Int)≤(n:Int)∧(n:Int)≤((rows.length+sp.length:Nat):Int)from⟨by omega,by omega,by omega⟩),cond_true,r];simp
 ·refine⟨⟨some (.new k 0),n,.opn E.w⟩,?_,a,rfl,by simp;omega,rows.take n,rows.drop n++sp,e,by rw[← e1];exact b,w2,.inr ⟨rfl,he⟩,t2,by omega⟩;unfold cutSl;simp only[ce];rw[show Nat.beq E.w E.w=true from Nat.beq_refl _,cond_true,decide_eq_true (show(0:Int)≤0∧(0:Int)≤(n:Int)∧(n:Int)≤(s.len:Int)from⟨by omega,by omega,by omega⟩),cond_true,r];simp
theorem All2.app{α β:Type}{R:α→β→Prop}:∀{l:List α}{m:List β}{l':List α}{m':List β},All2 R l m→All2 R l' m'→All2 R (l++l') (m++m')
 | _,_,_,_,.nil,b=>b
 | _,_,_,_,.cons h a,b=>.cons h (All2.app a b)
theorem GF.pushs{h:AH}{S T:Fp}{s:Sl}{i:Option Nat}{xs ys:List α}{rows':List (List AV)}{n:Nat}(v:GF E elem h S s i xs)(c:All2 (E.has h T) rows' ys)(hn:rows'.length=n)(h0:0<n)(no:NotO T i)(hg:growOk P (xs.length+n) elem E.w=true) :
  ∃s' h',kx P s rows'.flatten n elem E.w h=some (s'.v,h')∧GF E elem h' (fun j=>(Fp.or S T) j∧j<h.blks.size) s' (some h.blks.size) (xs++ys)∧UpdO h h' i:=by
 have hl:=klw hg;have hyl:=All2.length c;have nS:¬((Fp.or S T) h.blks.size∧h.blks.size<h.blks.size):=fun k=>Nat.lt_irrefl _ k.2;cases i with
 | none =>
  obtain⟨_,e1,e2⟩:=v;subst e1;subst e2;rw[kfx (c:=0) rfl (by simpa using h0) (by simpa using hg) (Cells.nil h E.w)];refine⟨_,_,rfl,⟨by simp at hl⊢;omega,nS,rfl,by simp;omega,rows',elem,?_,.inr ⟨rfl,rfl⟩,?_⟩,Grow.push _ _⟩
  ·simpa using AH.has_push h rows'.flatten elem
  ·rw[List.nil_append];exact c.imp fun _ _ y=>E.grow (Grow.push _ _) (E.mono (fun j k=>⟨.inr k.1,k.2⟩) (E.bound y))
 | some k =>
  have sq:=v.sq;obtain⟨l,a,r,ln,rows,e,b,cp,r2⟩:=v;have hr:=Ef.rows r2
  have cc:Cells h s E.w rows.flatten:=by
   have hc:=Cells.of_has (n:=E.w) (m:=s.len) b (by rw[kcp hr,All2.length r2,ln]);refine⟨?_,hc.len,by rw[r];exact hc.get⟩;rcases cp with c | c
   ·unfold Sl.fit;rw[c];exact Nat.le_refl _
   ·unfold Sl.fit;rw[c.1]
  rw[← ln]at hg;rcases cp with ce | ⟨ce,rfl⟩
  ·rw[kfx ce (by omega) hg cc];refine⟨_,_,rfl,⟨by rw[List.length_append];omega,nS,rfl,by rw[List.length_append];show s.len+n=_;omega,rows++rows',elem,?_,.inr ⟨rfl,rfl⟩,All2.app (r2.imp fun _ _ y=>?_) (c.imp fun _ _ y=>?_)⟩,(Grow.push _ _).toUpd k⟩
   ·have:=AH.has_push h (rows.flatten++rows'.flatten) elem
    simpa using this
   ·exact E.grow (Grow.push _ _) (E.mono (fun j q=>⟨.inl q.1,q.2⟩) (E.bound y))
   ·exact E.grow (Grow.push _ _) (E.mono (fun j q=>⟨.inr q.1,q.2⟩) (E.bound y))
  ·have hap:kx P s rows'.flatten n e E.w h=some (Sl.v ⟨some (.new h.blks.size 0),s.len+n,.opn E.w⟩,(h.kill s.ref).push (.cells (rows.flatten++rows'.flatten) e)):=by
    unfold kx;simp only[ce]
    rw[show Nat.beq n 0=false from by
     cases hb:Nat.beq n 0 with
     | false=>rfl
     | true=>have:=Nat.eq_of_beq_eq_true hb;omega,show Nat.beq E.w E.w=true from Nat.beq_refl _]
    simp only[cond_false,hg,Bool.and_true,cond_true,r,show h.blks[k]?=_ from b];have hgets:=cc.gets;rw[r]at hgets;simp only[hgets,Option.bind_some];rw[show Nat.beq e e=true from Nat.beq_refl _,cond_true];have:(AH.kill h (some (Ref.new k 0))).blks.size=h.blks.size:=by simp[AH.kill]
    simp[AH.next,this,Sl.v];rfl
   rw[hap,r];have sz:(h.kill (some (.new k 0))).blks.size=h.blks.size:=by simp[AH.kill]
   have u:Upd h (h.kill (some (.new k 0))) k:=AH.kill_Upd h k;refine⟨_,_,rfl,⟨by rw[List.length_append];omega,nS,rfl,by rw[List.length_append];show s.len+n=_;omega,rows++rows',e,?_,.inr ⟨rfl,rfl⟩,All2.app (r2.imp fun _ _ y=>?_) (c.imp fun _ _ y=>?_)⟩,u.trans ((Grow.push _ _).toUpd k)⟩
   ·have:=AH.has_push (h.kill (some (.new k 0))) (rows.flatten++rows'.flatten) e;rw[sz]at this
    simpa using this
   ·exact E.grow (Grow.push _ _) (E.mono (fun j q=>⟨.inl q.1,q.2⟩) (E.upd (fun q=>a q.1) u (E.bound y)))
   ·exact E.grow (Grow.push _ _) (E.mono (fun j q=>⟨.inr q.1,q.2⟩) (E.upd (fun q=>no q.1) u (E.bound y)))
theorem kvf(l:List AV):∀n:Nat,repC l n=(List.replicate n l).flatten
 | 0=>rfl
 | n+1=>by rw[List.replicate_succ,List.flatten_cons,← kvf l n];rfl
theorem All2.rep{α β:Type}{R:α→β→Prop}{a:α}{b:β}(h:R a b):∀n:Nat,All2 R (List.replicate n a) (List.replicate n b)
 | 0=>.nil
 | n+1=>.cons h (All2.rep h n)
theorem GF.mk{h:AH}{S:Fp}{n bytes:Nat}{l c:Int}{cs:List AV}{x:α}(hx:∀h',E.has h' S cs x)(no:¬S h.blks.size)(h1:l=(n:Int))(h2:c=(n:Int))(h3:n*bytes≤70368744177664)(h4:n≤70368744177664) :
  ∃h',kb1 l c elem bytes cs h=some (⟨some (.new h.blks.size 0),n,.is n⟩,h')∧Grow h h'∧GF E elem h' S ⟨some (.new h.blks.size 0),n,.is n⟩ (some h.blks.size) (List.replicate n x):=by
 refine⟨_,kq0 h1 h2 h3 h4,Grow.push _ _,?_⟩
 have b:AH.has (h.push (.cells (repC cs n) elem)) h.blks.size (List.replicate n cs).flatten elem:=by
  have:=AH.has_push h (repC cs n) elem;rw[kvf]at this⊢;exact this
 exact GF.lit (e:=elem) b (All2.rep (hx _) n) no (by simp) (by omega)
end Go.Ab

/- squeezed -/
namespace Go.Heap
variable{α:Type}
def swapL(l:List α)(i j:Nat):List α:=match l[i]?,l[j]? with
 | some a,some b=>(l.set i b).set j a
 | _,_=>l
theorem kfk(l:List α)(i j:Nat):(swapL l i j).length=l.length:=by
 unfold swapL;split<;>simp
theorem kpr{l:List α}{i j:Nat}(hi:i<l.length)(hj:j<l.length)(k:Nat):(swapL l i j)[k]?=if k=j then l[i]? else if k=i then l[j]? else l[k]?:=by
 unfold swapL;rw[List.getElem?_eq_getElem hi,List.getElem?_eq_getElem hj];simp only[List.getElem?_set]
 grind
theorem kwn{l:List α}{i j:Nat}(hi:i<l.length)(hj:j<l.length):(swapL l i j).Perm l:=by
 unfold swapL;rw[List.getElem?_eq_getElem hi,List.getElem?_eq_getElem hj];exact List.set_set_perm hi hj
variable(key:α→Int)
def at'(l:List α)(i:Nat):Int:=((l[i]?).map key).getD 0
def kidL(n i:Nat)(l:List α):Nat:=if 2*i+2<n∧at' key l (2*i+2)<at' key l (2*i+1)then 2*i+2 else 2*i+1
def downL(n:Nat):Nat→Nat→List α→List α
 | 0,_,l=>l
 | m+1,i,l=>if 2*i+1<n then if at' key l (kidL key n i l)<at' key l i then downL n m (kidL key n i l) (swapL l i (kidL key n i l))else l else l
theorem koa(n i:Nat)(l:List α):(kidL key n i l=2*i+2∧2*i+2<n∧at' key l (2*i+2)<at' key l (2*i+1))∨(kidL key n i l=2*i+1∧(2*i+2<n→at' key l (2*i+1)≤at' key l (2*i+2))):=by
 unfold kidL;split
 ·rename_i hh;exact .inl ⟨rfl,hh⟩
 ·rename_i hh;refine .inr ⟨rfl,fun h3=>Int.not_lt.1 fun h4=>hh ⟨h3,h4⟩⟩
theorem kvv{n i:Nat}{l:List α}(h:2*i+1<n):kidL key n i l<n:=by
 rcases koa key n i l with⟨e,h1,_⟩ | ⟨e,_⟩<;>omega
theorem kns(n:Nat):∀(m i:Nat)(l:List α),(downL key n m i l).length=l.length
 | 0,_,_=>rfl
 | m+1,i,l=>by
  unfold downL;split
  ·split
   ·rw[kns n m,kfk]
   ·rfl
  ·rfl
theorem kwm{n:Nat}:∀(m i:Nat)(l:List α),n≤l.length→(downL key n m i l).Perm l
 | 0,_,_,_=>List.Perm.refl _
 | m+1,i,l,h=>by
  unfold downL;split
  ·rename_i h1;have:=kvv key (l:=l) h1;split
   ·exact(kwm m _ _ (by rw[kfk];exact h)).trans (kwn (by omega) (by omega))
   ·exact List.Perm.refl _
  ·exact List.Perm.refl _
theorem kt2{n:Nat}:∀(m i:Nat)(l:List α),n≤l.length→∀k,n≤k→(downL key n m i l)[k]?=l[k]?
 | 0,_,_,_,_,_=>rfl
 | m+1,i,l,h,k,hk=>by
  unfold downL;split
  ·rename_i h1;have:=kvv key (l:=l) h1;split
   ·rw[kt2 m _ _ (by rw[kfk];exact h) k hk,kpr (by omega) (by omega),if_neg (by omega),if_neg (by omega)]
   ·rfl
  ·rfl
def IsHeap(n:Nat)(l:List α):Prop:=∀k,0<k→k<n→at' key l ((k-1)/2)≤at' key l k
def IsHole(n i:Nat)(l:List α):Prop:=(∀k,0<k→k<n→(k-1)/2≠i→at' key l ((k-1)/2)≤at' key l k)∧(0<i→∀k,0<k→k<n→(k-1)/2=i→at' key l ((i-1)/2)≤at' key l k)
theorem kg6{l:List α}{i j:Nat}(hi:i<l.length)(hj:j<l.length)(k:Nat):at' key (swapL l i j) k=if k=j then at' key l i else if k=i then at' key l j else at' key l k:=by
 unfold at';rw[kpr hi hj];split
 ·rfl
 ·split<;>rfl
theorem ku2{n:Nat}:∀(m i:Nat)(l:List α),n≤l.length→n≤m+i→IsHole key n i l→IsHeap key n (downL key n m i l)
 | 0,i,l,h,hm,⟨h1,h2⟩=>fun k k0 kn=>h1 k k0 kn (by omega)
 | m+1,i,l,h,hm,⟨h1,h2⟩=>by
  unfold downL;split
  ·rename_i hc;have hj':=koa key n i l;generalize kidL key n i l=j at *
   have hjn:j<n:=by rcases hj' with⟨e,h,_⟩ | ⟨e,_⟩<;>omega
   have hji:(j-1)/2=i:=by rcases hj' with⟨e,_⟩ | ⟨e,_⟩<;>omega
   have hj0:0<j:=by rcases hj' with⟨e,_⟩ | ⟨e,_⟩<;>omega
   have hmin:∀k,0<k→k<n→(k-1)/2=i→at' key l j≤at' key l k:=by
    intro k k0 kn hk;have:k=2*i+1∨k=2*i+2:=by omega
    rcases hj' with⟨e,h3,h4⟩ | ⟨e,h3⟩
    ·rcases this with rfl | rfl
     ·rw[e];omega
     ·rw[e];omega
    ·rcases this with rfl | rfl
     ·rw[e];omega
     ·rw[e];exact h3 kn
   split
   ·rename_i hlt;refine ku2 m j _ (by rw[kfk];exact h) (by omega) ⟨?_,?_⟩
    ·intro k k0 kn hk;rw[kg6 key (by omega) (by omega),kg6 key (by omega) (by omega)];by_cases e1:k=j
     ·subst e1;rw[if_pos rfl,if_neg (by omega),if_pos hji];omega
     ·rw[if_neg e1,if_neg hk];by_cases e2:k=i
      ·rw[if_pos e2,if_neg (by omega)];subst e2;exact h2 k0 j hj0 hjn hji
      ·rw[if_neg e2];by_cases e3:(k-1)/2=i
       ·rw[if_pos e3];exact hmin k k0 kn e3
       ·rw[if_neg e3];exact h1 k k0 kn e3
    ·intro _ k k0 kn hk;rw[kg6 key (by omega) (by omega),kg6 key (by omega) (by omega),hji,if_neg (by omega),if_pos rfl,if_neg (by omega),if_neg (by omega)];have:=h1 k k0 kn (by omega);rw[hk]at this;exact this
   ·rename_i hlt;intro k k0 kn;by_cases e3:(k-1)/2=i
    ·rw[e3];have:=hmin k k0 kn e3;omega
    ·exact h1 k k0 kn e3
  ·rename_i hc;intro k k0 kn;exact h1 k k0 kn (by omega)
theorem k3c{n:Nat}{l:List α}(h:IsHeap key n l):∀k,k<n→at' key l 0≤at' key l k:=by
 intro k
 induction k using Nat.strongRecOn with
 | ind k ih =>
  intro kn;by_cases k0:k=0
  ·subst k0;exact Int.le_refl _
  ·exact Int.le_trans (ih _ (by omega) (by omega)) (h k (by omega) kn)
def popL(l:List α):List α:=(downL key (l.length-1) l.length 0 (swapL l 0 (l.length-1))).take (l.length-1)
theorem k1q{l:List α}(h:IsHeap key l.length l){x:α}{W:List α}(hx:∀y∈W,key x<key y)(p:l.Perm (x::W)) :
  l[0]?=some x∧(downL key (l.length-1) l.length 0 (swapL l 0 (l.length-1)))[l.length-1]?=some x∧(popL key l).Perm W∧IsHeap key (popL key l).length (popL key l):=by
 have hl:l.length=W.length+1:=by rw[p.length_eq];rfl
 have h0:0<l.length:=by omega
 have e0:l[0]?=some x:=by
  obtain⟨k,hk,e⟩:=List.getElem_of_mem (p.mem_iff.2 (List.mem_cons_self (a:=x) (l:=W)));have hm:=k3c key h k hk;have m0:=p.mem_iff.1 (List.getElem_mem h0);unfold at' at hm;rw[List.getElem?_eq_getElem h0,List.getElem?_eq_getElem hk]at hm;simp only[Option.map_some,Option.getD_some,e]at hm;rcases List.mem_cons.1 m0 with e2 | e2
  ·rw[List.getElem?_eq_getElem h0,e2]
  ·have:=hx _ e2;omega
 generalize hn:l.length-1=n at *
 have hnl:n<l.length:=by omega
 have hs:=kfk l 0 n
 have e1:(downL key n l.length 0 (swapL l 0 n))[n]?=some x:=by
  rw[kt2 key _ _ _ (by omega) n (Nat.le_refl _),kpr h0 hnl,if_pos rfl,e0]
 have hd:=kns key n l.length 0 (swapL l 0 n);have pd:(downL key n l.length 0 (swapL l 0 n)).Perm l:=(kwm key _ _ _ (by omega)).trans (kwn h0 hnl)
 have hh:IsHeap key n (downL key n l.length 0 (swapL l 0 n)):=by
  refine ku2 key _ _ _ (by omega) (by omega) ⟨?_,fun h=>absurd h (Nat.lt_irrefl _)⟩;intro k k0 kn hk;rw[kg6 key h0 hnl,kg6 key h0 hnl,if_neg (by omega),if_neg hk,if_neg (by omega),if_neg (by omega)];exact h k k0 (by omega)
 have hpop:popL key l=(downL key n l.length 0 (swapL l 0 n)).take n:=by unfold popL;rw[hn]
 refine⟨e0,e1,?_,?_⟩
 ·rw[hpop];have hlen:(downL key n l.length 0 (swapL l 0 n)).length=n+1:=by omega
  generalize downL key n l.length 0 (swapL l 0 n)=d at *
  have:d=d.take n++[x]:=by
   have h1:n<d.length:=by omega
   rw[List.getElem?_eq_getElem h1]at e1;have e1:d[n]=x:=by simpa using e1
   rw[← e1,List.take_append_getElem h1,List.take_of_length_le (by omega)]
  have p2:(d.take n++[x]).Perm (x::W):=by rw[← this];exact pd.trans p
  exact(List.perm_append_singleton x (d.take n)).symm.trans p2 |>.cons_inv
 ·have hlen:(popL key l).length=n:=by rw[hpop,List.length_take];omega
  rw[hlen];intro k k0 kn;have:=hh k k0 kn;rw[hpop];unfold at' at this⊢;rw[List.getElem?_take,List.getElem?_take,if_pos kn,if_pos (by omega)];exact this
theorem kuw{l:List α}(h:IsHeap key l.length l){y:α}(hy:∀x∈l,key x≤key y):IsHeap key (l++[y]).length (l++[y]):=by
 intro k k0 kn;rw[List.length_append,List.length_singleton]at kn;have hp:(k-1)/2<l.length:=by omega
 unfold at';rw[List.getElem?_append_left hp];by_cases hk:k<l.length
 ·rw[List.getElem?_append_left hk];exact h k k0 hk
 ·obtain rfl:k=l.length:=by omega
  rw[List.getElem?_append_right (Nat.le_refl _),List.getElem?_eq_getElem hp];simp only[Nat.sub_self,List.getElem?_cons_zero,Option.map_some,Option.getD_some];exact hy _ (List.getElem_mem hp)
end Go.Heap

/- squeezed -/
set_option maxRecDepth 10000
namespace Go.Ab
open Go.Proofs Go.Num
abbrev Fr3:=Bool×List Nat×List Nat
theorem k8q{n:Nat}(h:n≤1000000):growOk Pg n T.int 1=true:=by
 unfold growOk;rw[kwi,knb];have h1:n*8≤ki:=by simp only[ki];omega
 have h2:n≤ki:=by simp only[ki];omega
 simp[h1,h2]
structure Off(h:AH)(t:Sl)(xs:List Nat)(iB iO:Nat)(oi:Option Nat):Prop where
 n:Nats h t xs
 b:Av t iB xs
 o:Av t iO xs
 g:AvO t xs oi
theorem Off.grow{h h':AH}{t:Sl}{xs:List Nat}{iB iO:Nat}{oi:Option Nat}(x:Off h t xs iB iO oi)(g:Grow h h'):Off h' t xs iB iO oi:=⟨x.n.grow g,x.b,x.o,x.g⟩
theorem Off.updB{h h':AH}{t:Sl}{xs:List Nat}{iB iO:Nat}{oi:Option Nat}(x:Off h t xs iB iO oi)(u:Upd h h' iB):Off h' t xs iB iO oi:=⟨x.n.upda x.b u,x.b,x.o,x.g⟩
theorem Off.updO{h h':AH}{t:Sl}{xs:List Nat}{iB iO:Nat}{oi:Option Nat}(x:Off h t xs iB iO oi)(u:Upd h h' iO):Off h' t xs iB iO oi:=⟨x.n.upda x.o u,x.b,x.o,x.g⟩
theorem Off.updG{h h':AH}{t:Sl}{xs:List Nat}{iB iO:Nat}{oi:Option Nat}(x:Off h t xs iB iO oi)(u:UpdO h h' oi):Off h' t xs iB iO oi:=⟨x.n.updo x.g u,x.b,x.o,x.g⟩
theorem Off.anew{h:AH}{t:Sl}{xs:List Nat}{iB iO:Nat}{oi:Option Nat}(x:Off h t xs iB iO oi){k:Nat}{h0:AH}(n0:Nats h0 t xs)(hk:h0.blks.size≤k):Off h t xs iB iO (some k):=⟨x.n,x.b,x.o,Av.of_base n0 hk⟩
structure BestAt(h0 h:AH)(iA iB iO:Nat)(oi:Option Nat)(G N:Int)(st:List Int×Fr3):Prop where
 grow:Grow h0 h
 hA:h.has iA [.int .i64 G,.int .i64 N] T.kbc
 best:∃t1 t2:Sl,h.has iB [.bool st.2.1,t1.v,t2.v] T.ky∧Off h t1 st.2.2.1 iB iO oi∧Off h t2 st.2.2.2 iB iO oi
 outs:∃s:Sl,h.has iO [s.v] T.kbm∧GF (Ef.int .i64) T.int h Fp.no s oi st.1
 ab:iA≠iB
 ao:iA≠iO
 bo:iB≠iO
 na:NeO iA oi
 nb:NeO iB oi
 no:NeO iO oi
 la:h0.blks.size≤iA
 lb:h0.blks.size≤iB
 lo:h0.blks.size≤iO
 lg:LeO h0.blks.size oi
theorem GF.toNo{k:IntKind}{elem:TypeId}{h:AH}{S:Fp}{s:Sl}:∀{i:Option Nat}{xs:List Int},GF (Ef.int k) elem h S s i xs→GF (Ef.int k) elem h Fp.no s i xs
 | .none,_,v=>v
 | .some _,_,⟨l,a,r,ln,rows,e,b,c,r2⟩=>⟨l,id,r,ln,rows,e,b,c,r2.imp fun _ _ x=>x⟩
theorem NeO.ne{i:Nat}:∀{oi:Option Nat},NeO i oi→∀k,oi=some k→k≠i
 | none,_,_,e=>by cases e
 | some _,h,k,e=>by
  cases e;exact fun e=>h e.symm
def askF(i:Int)(g:Fr3)(st:List Int×Fr3):List Int×Fr3 :=
 if kgy g.1 g.2.1 g.2.2 st.2.1 st.2.2.1 st.2.2.2>0 then([i],g)
 else if kgy g.1 g.2.1 g.2.2 st.2.1 st.2.2.1 st.2.2.2=0∧st.1.length>0 then(st.1++[i],st.2)else st
theorem ask_is{h0 h:AH}{iA iB iO:Nat}{oi:Option Nat}{G N:Int}{st:List Int×Fr3}(e:BestAt h0 h iA iB iO oi G N st)(hlen:st.1.length≤100000){g:Fr3}{u1 u2:Sl}(o1:Off h u1 g.2.1 iB iO oi)(o2:Off h u2 g.2.2 iB iO oi)(i:Int) :
  Runs (go (.fn F.kd3 [.int .i64 i,.agg [.bool g.1,u1.v,u2.v],.ptr (some (.new iB 0)),.ptr (some (.new iO 0))]) h) fun v h'=>v=.tup []∧∃oi',BestAt h0 h' iA iB iO oi' G N (askF i g st):=by
 obtain⟨t1,t2,bB,x1,x2⟩:=e.best;obtain⟨s,bO,gf⟩:=e.outs;rw[k2d];refine Runs.new fun h7 b7 g7=>?_;refine Runs.step (b7.rd 0 (f:=AV.asBool) rfl rfl) ?_;refine Runs.step (b7.rd 1 (f:=AV.asSl) rfl (asSl_v _)) ?_;refine Runs.step (b7.rd 2 (f:=AV.asSl) rfl (asSl_v _)) ?_;have cB:=g7.has bB;refine Runs.step (cB.rd 0 (f:=AV.asBool) rfl rfl) ?_;refine Runs.step (cB.rd 1 (f:=AV.asSl) rfl (asSl_v _)) ?_;refine Runs.step (cB.rd 2 (f:=AV.asSl) rfl (asSl_v _)) ?_;obtain⟨_,h14,e14,rfl,g14⟩:=k9y (o1.n.grow g7) (o2.n.grow g7) (x1.n.grow g7) (x2.n.grow g7) g.1 st.2.1;refine Runs.step e14 ?_;refine Runs.step (seen (kb _ _)) ?_;dsimp only;have G14:=g7.trans g14;have G0:=e.grow.trans G14;have dB:=g14.has cB;have dO:=G14.has bO;have dA:=G14.has e.hA;have lB:iB<h.blks.size:=bB.lt;have lO:iO<h.blks.size:=bO.lt;have lA:iA<h.blks.size:=e.hA.lt;have sz:=G14.size;refine Runs.cond (fun k=>?_) (fun k=>?_)
 ·
  rw[decide_eq_true_eq]at k;have e7:=g14.has b7;refine Runs.step (e7.rd 0 (f:=AV.asBool) rfl rfl) ?_;refine Runs.step (e7.rd 1 (f:=AV.asSl) rfl (asSl_v _)) ?_;refine Runs.step (e7.rd 2 (f:=AV.asSl) rfl (asSl_v _)) ?_;refine Runs.new fun h19 b19 g19=>?_;refine Runs.when (g19.same e7 0 3) ?_;have l19:h14.blks.size<h19.blks.size:=b19.lt;refine Runs.puts (g19.has dO) rfl fun h20 b20 u20=>?_;have f7:=(g19.has e7).updr (i:=iO) (by omega) u20;refine Runs.when (kvq (g19.has e7) f7 0 3) ?_;have fB:=(g19.has dB).updr (i:=iO) e.bo u20;refine Runs.puts fB rfl fun h21 b21 u21=>?_;refine Runs.ret ⟨rfl,some h14.blks.size,?_⟩;have ea:askF i g st=([i],g):=by unfold askF;rw[if_pos k]
  rw[ea]
  have up:∀{t:Sl}{xs:List Nat},Off h t xs iB iO oi→Off h21 t xs iB iO (some h14.blks.size):=fun x =>
   ((((x.anew x.n (by omega)).grow G14).grow g19).updO u20).updB u21
  refine⟨?_,?_,⟨u1,u2,b21,up o1,up o2⟩,⟨_,b20.updr (fun e'=>e.bo e'.symm) u21,?_⟩,e.ab,e.ao,e.bo,?_,?_,?_,e.la,e.lb,e.lo,?_⟩
  ·exact((G0.trans g19).updr e.lo u20).updr e.lb u21
  ·exact((g19.has dA).updr e.ao u20).updr e.ab u21
  ·have b19':=(b19.updr (i:=iO) (by omega) u20).updr (i:=iB) (by omega) u21;exact GF.one b19' rfl id
  ·show iA≠h14.blks.size;omega
  ·show iB≠h14.blks.size;omega
  ·show iO≠h14.blks.size;omega
  ·exact G0.size
 ·rw[decide_eq_false_iff_not]at k
  have same:askF i g st=st→BestAt h0 h14 iA iB iO oi G N (askF i g st):=fun hs=>by
   rw[hs];exact⟨G0,dA,⟨t1,t2,dB,x1.grow G14,x2.grow G14⟩,⟨s,dO,gf.grow G14⟩,e.ab,e.ao,e.bo,e.na,e.nb,e.no,e.la,e.lb,e.lo,e.lg⟩
  refine Runs.cond (fun k0=>?_) (fun k0=>?_)
  ·rw[decide_eq_true_eq]at k0;refine Runs.step (dO.rd0 (f:=AV.asSl) rfl (asSl_v _)) ?_;rw[gf.len];refine Runs.cond (fun kl=>?_) (fun kl=>?_)
   ·rw[decide_eq_true_eq]at kl;refine Runs.step (dO.rd0 (f:=AV.asSl) rfl (asSl_v _)) ?_;refine Runs.new fun h24 b24 g24=>?_;refine Runs.step (kc2 (n:=1) b24 (by rw[kew];rfl)) ?_;obtain⟨s',h25,e25,gf25,u25⟩:=((gf.grow G14).grow g24).push (P:=Pg) (T:=Fp.no) (cs:=[.int .i64 i]) (x:=i) rfl NotO.no (k8q (by omega));refine Runs.step e25 ?_;refine Runs.step (seen (asSl_v _)) ?_;dsimp only;have G24:=G14.trans g24;have l24:h14.blks.size<h24.blks.size:=b24.lt;have hO:=(g24.has dO).updo e.no u25;refine Runs.puts hO rfl fun h28 b28 u28=>?_;refine Runs.ret ⟨rfl,some h24.blks.size,?_⟩
    have ea:askF i g st=(st.1++[i],st.2):=by
     unfold askF;rw[if_neg k,if_pos ⟨k0,by omega⟩]
    rw[ea]
    have up:∀{t:Sl}{xs:List Nat},Off h t xs iB iO oi→Off h28 t xs iB iO (some h24.blks.size):=fun x =>
     (((((x.grow G14).grow g24).updG u25).anew x.n (by omega)).updO u28)
    have Gu:Grow h0 h25:=(G0.trans g24).updo e.lg u25;refine⟨Gu.updr e.lo u28,((g24.has dA).updo e.na u25).updr e.ao u28,⟨t1,t2,((g24.has dB).updo e.nb u25).updr e.bo u28,up x1,up x2⟩,⟨s',b28,?_⟩,e.ab,e.ao,e.bo,?_,?_,?_,e.la,e.lb,e.lo,?_⟩
    ·refine(gf25.toNo).upd u28 id fun k hk=>?_;cases hk;omega
    ·show iA≠h24.blks.size;omega
    ·show iB≠h24.blks.size;omega
    ·show iO≠h24.blks.size;omega
    ·exact(G0.trans g24).size
   ·rw[decide_eq_false_iff_not]at kl;refine Runs.ret ⟨rfl,oi,same ?_⟩;unfold askF;rw[if_neg k,if_neg (fun h=>kl (by omega))]
  ·rw[decide_eq_false_iff_not]at k0;refine Runs.ret ⟨rfl,oi,same ?_⟩;unfold askF;rw[if_neg k,if_neg (fun h=>k0 h.1)]
end Go.Ab

/- squeezed -/
set_option maxRecDepth 10000
namespace Go.Ab
open Go.Proofs Go.Num
abbrev Fr3.of(g:Frc):Fr3:=(g.1,g.2.1,g.2.2.1)
def kev(l G N:Int)(x:Int×Int)(i:Int)(st:List Int×Fr3):List Int×Fr3 :=
 if x.2>0∧x.2<N then askF i (Fr3.of (gainF l x.1 x.2 G N)) st else st
def bestGo(l G N:Int):List (Int×Int)→Int→List Int×Fr3→List Int×Int
 | [],_,st=>(st.1,0)
 | x::xs,i,st=>if(gainF l x.1 x.2 G N).2.2.2=0 then bestGo l G N xs (i+1) (kev l G N x i st)else([],1)
abbrev E2:Ef (Int×Int):=Ef.pair (Ef.int .i64) (Ef.int .i64)
def IntsP(h0:AH)(r:List Int×Int)(v:AV)(h':AH):Prop:=∃s1:Sl,v=.tup [s1.v,.int .i64 r.2]∧Sq (Ef.int .i64) h' Fp.all s1 r.1∧Grow h0 h'
theorem BestAt.more{h0 h h':AH}{iA iB iO:Nat}{oi:Option Nat}{G N:Int}{st:List Int×Fr3}(e:BestAt h0 h iA iB iO oi G N st)(g:Grow h h'):BestAt h0 h' iA iB iO oi G N st:=by
 obtain⟨t1,t2,bB,x1,x2⟩:=e.best;obtain⟨s,bO,gf⟩:=e.outs;exact⟨e.grow.trans g,g.has e.hA,⟨t1,t2,g.has bB,x1.grow g,x2.grow g⟩,⟨s,g.has bO,gf.grow g⟩,e.ab,e.ao,e.bo,e.na,e.nb,e.no,e.la,e.lb,e.lo,e.lg⟩
theorem k1r(i:Int)(g:Fr3)(st:List Int×Fr3):(askF i g st).1.length≤st.1.length+1:=by
 unfold askF;split
 ·simp
 ·split
  ·simp
  ·simp
theorem E2_at{h:AH}{S:Fp}{s:Sl}{xs:List (Int×Int)}(n:Sq E2 h S s xs){i:Nat}(hi:i<xs.length):∃r:Ref,idx s.ref s.len (i:Int) 2=some r∧h.cell (r.add 0)=some (.int .i64 xs[i].1)∧h.cell (r.add 1)=some (.int .i64 xs[i].2):=by
 obtain⟨r,cs,e1,e2,e3⟩:=n.at (i:=(i:Int)) (kee hi);obtain⟨c1,c2,rfl,rfl,rfl⟩:=e2;rw[n.len];exact⟨r,e1,e3.at' 0 _ rfl,e3.at' 1 _ rfl⟩
theorem ky4{h0:AH}{iA iB iO:Nat}{l G N:Int}{s:Sl}{xs:List (Int×Int)}(n0:Sq E2 h0 Fp.all s xs)(hlen:xs.length≤16384):∀(k i:Nat),i+k=xs.length→∀{h:AH}{oi:Option Nat}{st:List Int×Fr3},BestAt h0 h iA iB iO oi G N st→st.1.length≤i→
  Runs (go (.pt F.kdx Td.kgp [(0,.int .i64 l),(6,.ptr (some (.new iA 0))),(10,.ptr (some (.new iO 0))),(13,.func (.func F.kd3) [] [.ptr (some (.new iB 0)),.ptr (some (.new iO 0))]),(47,s.v),(48,.int .i64 (xs.length:Int)),(49,.int .i64 (i:Int))]) h) (IntsP h0 (bestGo l G N (xs.drop i) (i:Int) st)):=by
 intro k
 induction k with
 | zero =>
  intro i hi h oi st e hl;rw[ktq];obtain⟨t,bO,gf⟩:=e.outs;refine Runs.ifF (by rw[decide_eq_false_iff_not];omega) ?_;refine Runs.step (bO.rd0 (f:=AV.asSl) rfl (asSl_v _)) ?_;rw[List.drop_of_length_le (by omega)];exact Runs.ret ⟨t,rfl,gf.sq.mono fun _ _=>trivial,e.grow⟩
 | succ k ih =>
  intro i hi h oi st e hl;have hx:i<xs.length:=by omega
  rw[ktq];refine Runs.ifT (by rw[decide_eq_true_eq];omega) ?_;obtain⟨r,e1,c0,c1⟩:=E2_at (n0.grow e.grow) hx;refine Runs.step e1 ?_;refine Runs.step (rdc c0 (kb _ _)) ?_;refine Runs.step (rdc c1 (kb _ _)) ?_;refine Runs.new fun h12 b12 g12=>?_;refine Runs.puts b12 rfl fun h13 b13 u13=>?_;have g13:Grow h h13:=g12.updr (Nat.le_refl _) u13;refine Runs.step (b13.rd 0 (f:=AV.asInt .i64) rfl (kb _ _)) ?_;refine Runs.step (b13.rd 1 (f:=AV.asInt .i64) rfl (kb _ _)) ?_;have a13:=g13.has e.hA;refine Runs.step (a13.rd 0 (f:=AV.asInt .i64) rfl (kb _ _)) ?_;refine Runs.step (a13.rd 1 (f:=AV.asInt .i64) rfl (kb _ _)) ?_;obtain⟨_,h18,e18,u1,u2,rfl,n1,n2,g18,w1,w2⟩:=kzp (h:=h13) l xs[i].1 xs[i].2 G N;refine Runs.step e18 ?_;refine Runs.step rfl ?_;refine Runs.step rfl ?_;refine Runs.ifT rfl ?_;refine Runs.step rfl ?_;refine Runs.step (asSl_v _) ?_;refine Runs.step (asSl_v _) ?_;refine Runs.step (seen (kb _ _)) ?_;dsimp only;refine Runs.new fun h25 b25 g25=>?_;refine Runs.puts b25 rfl fun h26 b26 u26=>?_;have g26':Grow h18 h26:=g25.updr (Nat.le_refl _) u26;have g26:Grow h h26:=(g13.trans g18).trans g26';rw[List.drop_eq_getElem_cons hx];rcases k5g l xs[i].1 xs[i].2 G N with er | er
  ·rw[er];refine Runs.ifF rfl ?_
   have hgo:bestGo l G N (xs[i]::xs.drop (i+1)) (i:Int) st=bestGo l G N (xs.drop (i+1)) ((i+1:Nat):Int) (kev l G N xs[i] (i:Int) st):=by
    rw[bestGo,if_pos er];rfl
   rw[hgo,kq (by omega)];have d13:=(g18.trans g26').has b13
   have skip:¬(xs[i].2>0∧xs[i].2<N)→Runs (go (.pt F.kdx Td.kgp [(0,.int .i64 l),(6,.ptr (some (.new iA 0))),(10,.ptr (some (.new iO 0))),(13,.func (.func F.kd3) [] [.ptr (some (.new iB 0)),.ptr (some (.new iO 0))]),(47,s.v),(48,.int .i64 (xs.length:Int)),(49,.int .i64 ((i+1:Nat):Int))]) h26) (IntsP h0 (bestGo l G N (xs.drop (i+1)) ((i+1:Nat):Int) (kev l G N xs[i] (i:Int) st))):=fun hn=>by
    unfold kev;rw[if_neg hn];exact ih (i+1) (by omega) (e.more g26) (by omega)
   refine Runs.step (d13.rd 1 (f:=AV.asInt .i64) rfl (kb _ _)) ?_;refine Runs.cond (fun k1=>?_) (fun k1=>?_)
   ·rw[decide_eq_true_eq]at k1;refine Runs.step (d13.rd 1 (f:=AV.asInt .i64) rfl (kb _ _)) ?_;refine Runs.step ((g26.has e.hA).rd 1 (f:=AV.asInt .i64) rfl (kb _ _)) ?_;refine Runs.cond (fun k2=>?_) (fun k2=>?_)
    ·rw[decide_eq_true_eq]at k2;refine Runs.step (b26.rd 0 (f:=AV.asBool) rfl rfl) ?_;refine Runs.step (b26.rd 1 (f:=AV.asSl) rfl (asSl_v _)) ?_;refine Runs.step (b26.rd 2 (f:=AV.asSl) rfl (asSl_v _)) ?_;obtain⟨t1,t2,bB,x1,x2⟩:=e.best;obtain⟨so,bO,gf⟩:=e.outs;have lB:=bB.lt;have lO:=bO.lt;have sz:=g13.size
     have off:∀{u:Sl}{ys:List Nat},Nats h18 u ys→Own h13 u→Off h26 u ys iB iO oi:=fun nn ww =>
      ⟨(nn.grow g25).upda (Av.of_base nn (Nat.le_refl _)) u26,Av.of_own ww (by omega),Av.of_own ww (by omega),AvO.of_own ww (by
       have:=gf.lt;revert this;cases oi with
       | none=>exact fun _=>trivial
       | some q=>exact fun hq=>Nat.lt_of_lt_of_le hq sz)⟩
     obtain⟨_,h33,e33,rfl,oi',e'⟩:=ask_is (g:=Fr3.of (gainF l xs[i].1 xs[i].2 G N)) (e.more g26) (by omega) (off n1 w1) (off n2 w2) (i:Int);refine Runs.step e33 ?_;refine Runs.step rfl ?_
     have hs:kev l G N xs[i] (i:Int) st=askF (i:Int) (Fr3.of (gainF l xs[i].1 xs[i].2 G N)) st:=by
      unfold kev;rw[if_pos ⟨k1,k2⟩]
     rw[hs];exact ih (i+1) (by omega) e' (Nat.le_trans (k1r _ _ _) (by omega))
    ·rw[decide_eq_false_iff_not]at k2;exact skip fun hh=>k2 hh.2
   ·rw[decide_eq_false_iff_not]at k1;exact skip fun hh=>k1 hh.1
  ·rw[er];refine Runs.ifT rfl ?_;rw[bestGo,if_neg (by rw[er];decide)];exact Runs.ret ⟨⟨none,0,.is 0⟩,rfl,Sq.nil _ _ _,e.grow.trans g26⟩
end Go.Ab

/- squeezed -/
set_option maxRecDepth 10000
namespace Go.Ab
open Go.Proofs Go.Num
def gammaF(γ:Int):Fr3:=Fr3.of (kba (ofI γ).1 (ofI γ).2 [1])
def bestF(l γ G N:Int)(xs:List (Int×Int)):List Int×Int :=
 cond (!kbe G N) ([],1) (cond (!kb4 l) ([],1) (cond (decide (γ<0)) ([],1) (cond (decide (γ>1048576)) ([],1) (cond (decide ((xs.length:Int)>16384)) ([],1) (bestGo l G N xs 0 ([],gammaF γ))))))
theorem k0m{h:AH}{s:Sl}{xs:List (Int×Int)}(n:Sq E2 h Fp.all s xs)(l γ G N:Int):Runs (go (.fn F.kdx [.int .i64 l,.int .i64 γ,.agg [.int .i64 G,.int .i64 N],s.v]) h) (IntsP h (bestF l γ G N xs)):=by
 have bad:∀{h':AH},Grow h h'→bestF l γ G N xs=([],1)→Runs (some (.tup [(⟨none,0,.is 0⟩:Sl).v,.int .i64 1],h')) (IntsP h (bestF l γ G N xs)):=fun g e=>by
  rw[e];exact Runs.ret ⟨⟨none,0,.is 0⟩,rfl,Sq.nil _ _ _,g⟩
 rw[k40];refine Runs.new fun h6 b6 g6=>?_;refine Runs.step (b6.rd 0 (f:=AV.asInt .i64) rfl (kb _ _)) ?_;refine Runs.step (b6.rd 1 (f:=AV.asInt .i64) rfl (kb _ _)) ?_;obtain⟨_,h9,e9,rfl,g9⟩:=kiu (h:=h6) G N;refine Runs.step e9 ?_;refine Runs.step (seen rfl) ?_;refine Runs.cond (fun k1=>?_) (fun k1=>?_)
 ·exact bad (g6.trans g9) (by unfold bestF;rw[k1];rfl)
 obtain⟨_,h11,e11,rfl,g11⟩:=ko4 (h:=h9) l;refine Runs.step e11 ?_;refine Runs.step (seen rfl) ?_;have G11:=(g6.trans g9).trans g11;refine Runs.cond (fun k2=>?_) (fun k2=>?_)
 ·exact bad G11 (by unfold bestF;rw[k1,cond_false,k2];rfl)
 refine Runs.cond (fun k3=>?_) (fun k3=>?_)
 ·exact bad G11 (by unfold bestF;rw[k1,cond_false,k2,cond_false,k3];rfl)
 refine Runs.cond (fun k4=>?_) (fun k4=>?_)
 ·exact bad G11 (by unfold bestF;rw[k1,cond_false,k2,cond_false,k3,cond_false,k4];rfl)
 rw[n.len];refine Runs.cond (fun k5=>?_) (fun k5=>?_)
 ·exact bad G11 (by unfold bestF;rw[k1,cond_false,k2,cond_false,k3,cond_false,k4,cond_false,k5];rfl)
 have ef:bestF l γ G N xs=bestGo l G N xs 0 ([],gammaF γ):=by
  unfold bestF;rw[k1,cond_false,k2,cond_false,k3,cond_false,k4,cond_false,k5,cond_false]
 rw[ef];rw[decide_eq_false_iff_not]at k3 k4 k5;dsimp only;refine Runs.new fun h13 b13 g13=>?_;obtain⟨s14,h14,e14,n14,g14,o14⟩:=kk3 (h:=h13) γ (by omega);refine Runs.step e14 ?_;refine Runs.step rfl ?_;refine Runs.ifT rfl ?_;refine Runs.step rfl ?_;refine Runs.step (asSl_v _) ?_;dsimp only;refine Runs.new fun h18 b18 g18=>?_;have n1:Nats h18 (⟨some (.new h14.blks.size 0),1,.is 1⟩:Sl) [1]:=Nats.of_has (xs:=[1]) b18 (by decide) (by simp);obtain⟨_,h19,e19,u1,u2,rfl,m1,m2,g19,w1,w2⟩:=kl2 (n14.grow g18) n1 (ofI γ).1;refine Runs.step e19 ?_;refine Runs.step rfl ?_;refine Runs.step rfl ?_;refine Runs.ifT rfl ?_;refine Runs.step rfl ?_;refine Runs.step (asSl_v _) ?_;refine Runs.step (asSl_v _) ?_;refine Runs.step (seen (kb _ _)) ?_;dsimp only;refine Runs.new fun h26 b26 g26=>?_;refine Runs.puts b26 rfl fun h27 b27 u27=>?_;have l6:h.blks.size<h6.blks.size:=b6.lt;have s9:=g9.size;have s11:=g11.size;have l13:h11.blks.size<h13.blks.size:=b13.lt;have s14:=g14.size;have s18:=g18.size;have s19:=g19.size;have gU:Grow h19 h27:=g26.updr (Nat.le_refl _) u27
 have off:∀{u:Sl}{ys:List Nat},Nats h19 u ys→Own h18 u→Off h27 u ys h19.blks.size h11.blks.size none:=fun nn ww =>
  ⟨(nn.grow g26).upda (Av.of_base nn (Nat.le_refl _)) u27,Av.of_base nn (Nat.le_refl _),Av.of_own ww (by omega),trivial⟩
 have gX:=((g14.trans g18).trans g19).trans gU
 have at0:BestAt h h27 h.blks.size h19.blks.size h11.blks.size none G N ([],gammaF γ):=by
  refine⟨(G11.trans g13).trans gX,gX.has (g13.has ((g9.trans g11).has b6)),⟨u1,u2,b27,off m1 w1,off m2 w2⟩,⟨_,gX.has b13,GF.none _ _ _ _⟩,?_,?_,?_,trivial,trivial,trivial,?_,?_,?_,trivial⟩<;>omega
 have:=ky4 n (by omega) (l:=l) (s:=s) xs.length 0 (by omega) at0 (Nat.le_refl _)
 simpa using this
end Go.Ab

/- squeezed -/
set_option maxRecDepth 10000
namespace Go.Ab
open Go.Proofs Go.Num
structure RefAt(h0 h:AH)(iA iB:Nat)(oi:Option Nat)(so:Sl)(G N:Int)(st:List Int×Fr3):Prop where
 grow:Grow h0 h
 hA:h.has iA [.int .i64 G,.int .i64 N] T.kbc
 best:∃t1 t2:Sl,h.has iB [.bool st.2.1,t1.v,t2.v] T.ky∧Off h t1 st.2.2.1 iB iB oi∧Off h t2 st.2.2.2 iB iB oi
 outs:GF (Ef.int .i64) T.int h Fp.no so oi st.1
 ab:iA≠iB
 na:NeO iA oi
 nb:NeO iB oi
 la:h0.blks.size≤iA
 lb:h0.blks.size≤iB
 lg:LeO h0.blks.size oi
theorem RefAt.more{h0 h h':AH}{iA iB:Nat}{oi:Option Nat}{so:Sl}{G N:Int}{st:List Int×Fr3}(e:RefAt h0 h iA iB oi so G N st)(g:Grow h h'):RefAt h0 h' iA iB oi so G N st:=by
 obtain⟨t1,t2,bB,x1,x2⟩:=e.best;exact⟨e.grow.trans g,g.has e.hA,⟨t1,t2,g.has bB,x1.grow g,x2.grow g⟩,e.outs.grow g,e.ab,e.na,e.nb,e.la,e.lb,e.lg⟩
end Go.Ab

/- squeezed -/
set_option maxRecDepth 10000
namespace Go.Ab
open Go.Proofs Go.Num
end Go.Ab

/- squeezed -/
set_option maxRecDepth 10000
namespace Go.Ab
open Go.Proofs
def idsR(l:List Int):Bool:=decide (l.length≤256)&&(!(l.any fun x=>decide (x<0)||decide (x>1073741824))&&decide l.Nodup)
structure Tb where
 ids:List Int
 bins:List Int
 cols:List (List Int)
def colR(t:Tb)(i:Nat):Bool:=!decide (t.bins.getD i 0<2)&&!decide (t.bins.getD i 0>32)&&decide ((t.cols.getD i []).length=t.ids.length)&&!((t.cols.getD i []).any fun x=>decide (x<0)||decide (x≥t.bins.getD i 0))
def tabR(t:Tb):Bool:=idsR t.ids&&!decide (t.cols.length>16)&&decide (t.bins.length=t.cols.length)&&(List.range t.cols.length).all (colR t)
structure TabAt(h:AH)(S:Fp)(s1 s2 s3:Sl)(t:Tb):Prop where
 ids:Sq EI h S s1 t.ids
 bins:Sq EI h S s2 t.bins
 cols:Sq (Ef.seq EI) h S s3 t.cols
theorem TabAt.md{h h':AH}{S T:Fp}{s1 s2 s3:Sl}{t:Tb}(n:TabAt h S s1 s2 s3 t)(m:Md T h h')(d:Dis S T):TabAt h' S s1 s2 s3 t:=⟨n.ids.md m d,n.bins.md m d,n.cols.md m d⟩
theorem TabAt.grow{h h':AH}{S:Fp}{s1 s2 s3:Sl}{t:Tb}(n:TabAt h S s1 s2 s3 t)(g:Grow h h'):TabAt h' S s1 s2 s3 t:=⟨n.ids.grow g,n.bins.grow g,n.cols.grow g⟩
section
variable{h0:AH}{S:Fp}{s:Sl}{xs:List Int}
theorem kbas(n:Sq EI h0 S s xs):Runs (go (.fn F.kdi [s.v,.func (.func F.kde) [] []]) h0) fun v h'=>v=.bool (xs.any fun x=>decide (x<0)||decide (x>1073741824))∧Grow h0 h':=by
 rw[k47];refine Runs.contains (xs:=xs) ?_;rw[kxj,n.len];refine kkx (n:=xs.length) (G:=fun z h=>go (.pt F.kbo Td.kck [(0,s.v),(1,.func (.func F.kde) [] []),(7,.int .i64 (xs.length:Int)),(8,.int .i64 z)]) h) (fun i h P hi g hT hF=>?_) (fun h g=>?_) xs.length 0 (by omega) (Grow.refl h0) (fun j hj=>by omega)
 ·obtain⟨r,e1,e2⟩:=(n.grow g).int hi;rw[List.getElem?_eq_getElem hi]at hT hF;simp only[Option.any_some]at hT hF;show Runs (go _ _) _;rw[ku7];refine Runs.ifT (decide_eq_true (by omega)) (Runs.step e1 (Runs.step e2 ?_))
  have key:go (.fn F.kde [.int .i64 xs[i]]) h=some (.bool (decide (xs[i]<0)||decide (xs[i]>1073741824)),h):=by
   rw[k5s];cases decide (xs[i]<0)<;>rfl
  refine Runs.step key (Runs.step (seen rfl) ?_);rw[kq (by have:=n.short;omega)];exact Runs.cond (fun c=>Runs.ret (hT h g c)) fun c=>hF h g c
 ·rw[ku7,condF (decide_eq_false (by omega))]
theorem k1v(n:Sq EI h0 S s xs)(hl:xs.length≤256){m:Nat}(hm:h0.blks.size≤m):∀(k i:Nat),i+k=xs.length→∀{h:AH}{l:List (Int×AV)},Grow h0 h→MapIs h m l→(∀x,(kvGet l x).isSome=true↔x∈xs.take i)→l.length≤i→(l.length=i↔(xs.take i).Nodup)→
  Runs (go (.pt F.kgs Td.kld [(3,.map (some m)),(7,s.v),(8,.int .i64 (xs.length:Int)),(9,.int .i64 (i:Int))]) h) fun v h'=>Grow h0 h'∧v=.map (some m)∧∃l,MapIs h' m l∧(l.length=xs.length↔xs.Nodup):=by
 intro k
 induction k with
 | zero =>
  intro i hi h l g M hk hle hn;rw[kq6];refine Runs.ifF (decide_eq_false (by omega)) (Runs.ret ⟨g,rfl,l,M,?_⟩);rw[show i=xs.length from by omega,List.take_length]at hn;exact hn
 | succ k ih =>
  intro i hi h l g M hk hle hn;have hlt:i<xs.length:=by omega
  obtain⟨r,e1,e2⟩:=(n.grow g).int hlt;rw[kq6];refine Runs.ifT (decide_eq_true (by omega)) (Runs.step e1 (Runs.step e2 ?_));obtain⟨h1,e3,M1,u1⟩:=M.put xs[i] (.int .i64 (i:Int));refine Runs.step e3 ?_;rw[kq (by omega)];have ht:xs.take (i+1)=xs.take i++[xs[i]]:=List.take_succ_eq_append_getElem hlt;have hi:=hk xs[i];refine ih (i+1) (by omega) (g.updr hm u1) M1 (fun x=>?_) ?_ ?_
  ·rw[k0l,ht,List.mem_append,List.mem_singleton];by_cases hx:x=xs[i]
   ·rw[if_pos hx];exact⟨fun _=>.inr hx,fun _=>rfl⟩
   ·rw[if_neg hx,hk x];exact⟨.inl,fun h=>h.resolve_right hx⟩
  ·cases hg:kvGet l xs[i]with
   | none=>rw[kst _ hg];simp;omega
   | some w=>rw[kwl _ hg];omega
  ·rw[ht,List.nodup_append];cases hg:kvGet l xs[i]with
   | none =>
    rw[hg]at hi;have hni:xs[i]∉xs.take i:=fun h=>by simpa using hi.2 h
    rw[kst _ hg];simp only[List.length_append,List.length_singleton];constructor
    ·intro e;refine⟨hn.1 (by omega),by simp,fun a ha b hb=>?_⟩;rw[List.mem_singleton]at hb;subst hb
     rintro rfl
     exact hni ha
    ·intro e;rw[hn.2 e.1]
   | some w =>
    rw[hg]at hi;have hin:xs[i]∈xs.take i:=hi.1 rfl;rw[kwl _ hg];constructor
    ·intro e;omega
    ·intro e;exact absurd rfl (e.2.2 _ hin _ (by simp))
theorem kba1(n:Sq EI h0 S s xs):Runs (go (.fn F.kot [s.v]) h0) fun v h'=>v=.bool (idsR xs)∧Grow h0 h':=by
 rw[k89,n.len];unfold idsR;refine Runs.cond (fun c=>?_) (fun c=>?_)
 ·rw[decide_eq_true_eq]at c;rw[decide_eq_true (show xs.length≤256 by omega),Bool.true_and];refine(kbas n).call fun v h1 ⟨e,g1⟩=>?_;subst e;refine Runs.step (seen rfl) ?_;refine Runs.cond (fun c2=>?_) (fun c2=>?_)
  ·rw[c2,Bool.true_and]
   have key:Runs (go (.fn F.kgs [s.v]) h1) fun v h'=>Grow h1 h'∧∃m l,v=.map (some m)∧MapIs h' m l∧(l.length=xs.length↔xs.Nodup):=by
    rw[k4u,n.len];refine Runs.newMap fun h2 M g2=>?_;exact(k1v (n.grow g1) (by omega) (m:=h1.blks.size) (Nat.le_refl _) xs.length 0 (by omega) (l:=[]) g2 M (fun x=>by simp[kvGet]) (Nat.le_refl _) (by simp)).imp fun v h' ⟨g,e,l,M,hn⟩=>⟨g,_,l,e,M,hn⟩
   refine key.call fun v h2 ⟨g2,m,l,e,M,hn⟩=>?_;subst e;refine Runs.step (seen rfl) (Runs.step M.size (Runs.ret ⟨congrArg AV.bool ?_,g1.trans g2⟩));rw[decide_eq_decide,← hn];omega
  ·rw[c2,Bool.false_and];exact Runs.ret ⟨rfl,g1⟩
 ·rw[decide_eq_false_iff_not]at c;rw[decide_eq_false (show¬xs.length≤256 by omega),Bool.false_and];exact Runs.ret ⟨rfl,Grow.refl _⟩
end
end Go.Ab

/- squeezed -/
set_option maxRecDepth 10000
namespace Go.Ab
open Go.Proofs
theorem kyj{h0:AH}{S:Fp}{s:Sl}{xs:List Int}(n:Sq EI h0 S s xs){b:Nat}{z:Int}{e:TypeId}(hb:h0.has b [.int .i64 z] e):Runs (go (.fn F.kdi [s.v,.func (.func F.kdh) [] [.ptr (some (.new b 0))]]) h0) fun v h'=>v=.bool (xs.any fun x=>decide (x<0)||decide (x≥z))∧Grow h0 h':=by
 rw[kbbi];refine Runs.contains (xs:=xs) ?_;rw[k78,n.len];refine kkx (n:=xs.length) (G:=fun y h=>go (.pt F.kbo Td.kck [(0,s.v),(1,.func (.func F.kdh) [] [.ptr (some (.new b 0))]),(7,.int .i64 (xs.length:Int)),(8,.int .i64 y)]) h) (fun i h P hi g hT hF=>?_) (fun h g=>?_) xs.length 0 (by omega) (Grow.refl h0) (fun j hj=>by omega)
 ·obtain⟨r,e1,e2⟩:=(n.grow g).int hi;rw[List.getElem?_eq_getElem hi]at hT hF;simp only[Option.any_some]at hT hF;show Runs (go _ _) _;rw[kub];refine Runs.ifT (decide_eq_true (by omega)) (Runs.step e1 (Runs.step e2 ?_))
  have key:Runs (go (.fn F.kdh [.int .i64 xs[i],.ptr (some (.new b 0))]) h) fun v h'=>v=.bool (decide (xs[i]<0)||decide (xs[i]≥z))∧h'=h:=by
   rw[k41];cases decide (xs[i]<0)
   ·refine Runs.ifF rfl (Runs.step rfl (Runs.step ((g.has hb).rd0 rfl (kb _ _)) ?_));exact Runs.ret ⟨rfl,rfl⟩
   ·exact Runs.ret ⟨rfl,rfl⟩
  refine key.call fun v h' ⟨ev,eh⟩=>?_;subst ev;subst eh;refine Runs.step (seen rfl) ?_;rw[kq (by have:=n.short;omega)];exact Runs.cond (fun c=>Runs.ret (hT _ g c)) fun c=>hF _ g c
 ·rw[kub,condF (decide_eq_false (by omega))]
section
variable{h0:AH}{S:Fp}{s1 s2 s3:Sl}{t:Tb}
theorem kbad(n:TabAt h0 S s1 s2 s3 t)(hl:t.cols.length≤16)(hb:t.bins.length=t.cols.length){b:Nat}(hbb:h0.blks.size≤b):∀(k i:Nat),i+k=t.cols.length→∀{h:AH},Grow h0 h→h.has b [s1.v,s2.v,s3.v] T.kbi→
  Runs (go (.pt F.ke3 Td.kmj [(1,.ptr (some (.new b 0))),(27,s3.v),(28,.int .i64 (t.cols.length:Int)),(29,.int .i64 (i:Int))]) h) fun v h'=>v=.bool (((List.range t.cols.length).drop i).all (colR t))∧Grow h0 h':=by
 intro k
 induction k with
 | zero =>
  intro i hi h g B;rw[kvi];refine Runs.ifF (decide_eq_false (by omega)) (Runs.ret ⟨?_,g⟩);rw[kyo (by simp;omega)]
 | succ k ih =>
  intro i hi h g B;have hc:i<t.cols.length:=by omega
  have hbi:i<t.bins.length:=by omega
  obtain⟨r,s',e1,e2,-,n'⟩:=(n.cols.grow g).sl hc;obtain⟨r2,e3,e4⟩:=(n.bins.grow g).int hbi;rw[kvi];refine Runs.ifT (decide_eq_true (by omega)) (Runs.step e1 (Runs.step e2 (Runs.step (B.rd 1 rfl (asSl_v _)) (Runs.step e3 (Runs.step e4 ?_)))));refine Runs.new fun h1 b1 g1=>Runs.puts b1 rfl fun h2 b2 u2=>?_;have G:Grow h h2:=g1.updr (Nat.le_refl _) u2;have B2:=G.has B;rw[kbbw hc]
  have hcol:colR t i=(!decide (t.bins[i]<2)&&!decide (t.bins[i]>32)&&decide (t.cols[i].length=t.ids.length)&&!(t.cols[i].any fun x=>decide (x<0)||decide (x≥t.bins[i]))):=by
   simp[colR,List.getD,hbi,hc]
  rw[hcol];refine Runs.step (b2.rd0 rfl (kb _ _)) (Runs.cond (fun c=>Runs.ret ⟨by rw[c];rfl,g.trans G⟩) fun c=>?_);refine Runs.step (b2.rd0 rfl (kb _ _)) (Runs.cond (fun c2=>Runs.ret ⟨by rw[c,c2];rfl,g.trans G⟩) fun c2=>?_);refine Runs.step (B2.rd 0 rfl (asSl_v _)) ?_;rw[n'.len,n.ids.len];refine Runs.cond (fun c3=>Runs.ret ⟨?_,g.trans G⟩) fun c3=>?_
  ·have:¬t.cols[i].length=t.ids.length:=by simpa[Int.ofNat_inj]using c3
   rw[c,c2,decide_eq_false this];rfl
  have c3:t.cols[i].length=t.ids.length:=by simpa[Int.ofNat_inj]using c3
  refine(kyj (n'.grow G) b2).call fun v h3 ⟨ev,g3⟩=>?_;subst ev;refine Runs.step (seen rfl) (Runs.cond (fun c4=>Runs.ret ⟨by rw[c,c2,decide_eq_true c3,c4];rfl,(g.trans G).trans g3⟩) fun c4=>?_);rw[c,c2,decide_eq_true c3,c4,kq (by omega)];exact ih (i+1) (by omega) ((g.trans G).trans g3) (g3.has B2)
theorem kt5(n:TabAt h0 S s1 s2 s3 t):Runs (go (.fn F.ke3 [.agg [s1.v,s2.v,s3.v]]) h0) fun v h'=>v=.bool (tabR t)∧Grow h0 h':=by
 rw[kbbd];refine Runs.new fun h4 b4 g4=>Runs.step (b4.rd 0 rfl (asSl_v _)) ?_;refine(kba1 (n.ids.grow g4)).call fun v h6 ⟨ev,g6⟩=>?_;subst ev;have B:=g6.has b4;have G:=g4.trans g6;unfold tabR;refine Runs.step (seen rfl) (Runs.cond (fun c=>Runs.ret ⟨by rw[show idsR t.ids=false by simpa using c];rfl,G⟩) fun c=>?_);rw[show idsR t.ids=true by simpa using c,Bool.true_and];refine Runs.step (B.rd 2 rfl (asSl_v _)) ?_;rw[n.cols.len];refine Runs.cond (fun c2=>Runs.ret ⟨?_,G⟩) fun c2=>?_
 ·rw[decide_eq_true_eq]at c2;rw[decide_eq_true (show t.cols.length>16 by omega)];rfl
 rw[decide_eq_false_iff_not]at c2;rw[decide_eq_false (show¬t.cols.length>16 by omega)];refine Runs.step (B.rd 1 rfl (asSl_v _)) (Runs.step (B.rd 2 rfl (asSl_v _)) ?_);rw[n.bins.len,n.cols.len];refine Runs.cond (fun c3=>Runs.ret ⟨?_,G⟩) fun c3=>?_
 ·have:¬t.bins.length=t.cols.length:=by simpa[Int.ofNat_inj]using c3
  rw[decide_eq_false this];rfl
 have c3:t.bins.length=t.cols.length:=by simpa[Int.ofNat_inj]using c3
 rw[decide_eq_true c3];refine Runs.step (B.rd 2 rfl (asSl_v _)) ?_;rw[n.cols.len];exact kbad n (by omega) c3 (Nat.le_refl _) t.cols.length 0 (by omega) G B
end
end Go.Ab

/- squeezed -/
set_option maxRecDepth 10000
namespace Go.Ab
open Go.Proofs
theorem AH.has.at{h:AH}{i:Nat}{cs:List AV}{e:TypeId}(b:h.has i cs e){k:Nat}{v:AV}(hk:cs[k]?=some v):h.cell (.new i k)=some v:=(b.cell k).trans hk
def Nd.may(x:Nd)(i n:Int):Prop:=if x.leaf=true then(-1099511627776≤x.weight∧x.weight≤1099511627776∧x.party=0∧x.feature=0∧x.cut=0∧x.left=0∧x.right=0)
 else(x.weight=0∧0≤x.party∧x.party≤15∧0≤x.feature∧x.feature≤1073741824∧0≤x.cut∧x.cut≤31∧i<x.left∧x.left<n∧i<x.right∧x.right<n∧x.left≠x.right)
instance Nd.mayDec(x:Nd)(i n:Int):Decidable (x.may i n):=by unfold Nd.may;exact inferInstance
end Go.Ab

/- squeezed -/
set_option maxRecDepth 10000
namespace Go.Ab
open Go.Proofs
abbrev EM:Ef (List Nd):=Ef.seq Ef.nd
def Nd.no:Nd:=⟨false,0,0,0,0,0,0⟩
section
variable{h0:AH}{S:Fp}{s:Sl}{m:List (List Nd)}
end
end Go.Ab

/- squeezed -/
namespace Go.Ab
theorem ku1:∀(n w:Nat),w≠0→w<2^n→∃k m,k<n∧w=2^(k+1)*m+2^k:=by
 intro n
 induction n with
 | zero=>intro w h0 h;omega
 | succ n ih =>
  intro w h0 h;rcases Nat.mod_two_eq_zero_or_one w with e | e
  ·obtain⟨k,m,hk,hm⟩:=ih (w/2) (by omega) (by rw[Nat.pow_succ]at h;omega);refine⟨k+1,m,by omega,?_⟩;have:w=2*(w/2):=by omega
   rw[this,hm,Nat.mul_add,← Nat.mul_assoc,← Nat.pow_succ',← Nat.pow_succ']
  ·exact⟨0,w/2,by omega,by simp;omega⟩
theorem kg9{k m:Nat}(j:Nat):(2^(k+1)*m+2^k).testBit j=if j<k then false else if j=k then true else m.testBit (j-(k+1)):=by
 rw[Nat.testBit_two_pow_mul_add _ (Nat.pow_lt_pow_right (by decide) (Nat.lt_succ_self k)),Nat.testBit_two_pow]
 grind
theorem kbaf(k m:Nat):(2^(k+1)*m+2^k)&&&(2^(k+1)*m+2^k-1)=2^(k+1)*m:=by
 have hp:0<2^k:=Nat.two_pow_pos k;have e:2^(k+1)*m+2^k-1=2^(k+1)*m+(2^k-1):=by omega
 rw[e];apply Nat.eq_of_testBit_eq;intro j;rw[Nat.testBit_and,kg9,Nat.testBit_two_pow_mul_add _ (by rw[Nat.pow_succ];omega),Nat.testBit_two_pow_sub_one,Nat.testBit_two_pow_mul]
 grind
theorem k84{k m n:Nat}(h:2^(k+1)*m+2^k<2^n):(2^(k+1)*m+2^k)&&&(2^n-(2^(k+1)*m+2^k))=2^k:=by
 have hk:k<n:=by
  rcases Nat.lt_or_ge k n with h1 | h1
  ·exact h1
  ·have:=Nat.pow_le_pow_right (n:=2) (by decide) h1;omega
 obtain⟨d,rfl⟩:∃d,n=(k+1)+d:=⟨n-(k+1),by omega⟩
 have hm:m<2^d:=by
  rcases Nat.lt_or_ge m (2^d)with h1 | h1
  ·exact h1
  ·have:=Nat.mul_le_mul_left (2^(k+1)) h1;rw[← Nat.pow_add]at this;exact absurd h (Nat.not_lt.2 (Nat.le_trans this (Nat.le_add_right _ _)))
 have e:2^(k+1+d)-(2^(k+1)*m+2^k)=2^(k+1)*(2^d-(m+1))+2^k:=by
  have a:2^(k+1+d)=2^(k+1)*2^d:=Nat.pow_add ..;have b:2^(k+1)*2^d=2^(k+1)*(2^d-(m+1))+2^(k+1)*(m+1):=by rw[← Nat.mul_add];congr 1;omega
  have c:2^(k+1)*(m+1)=2^(k+1)*m+2^(k+1):=by rw[Nat.mul_add,Nat.mul_one]
  have f:2^(k+1)=2^k+2^k:=by rw[Nat.pow_succ];omega
  omega
 rw[e];apply Nat.eq_of_testBit_eq;intro j;rw[Nat.testBit_and,kg9,kg9,Nat.testBit_two_pow];by_cases h1:j<k
 ·have:¬k=j:=by omega
  simp[h1,this]
 ·by_cases h2:j=k
  ·subst h2;simp
  ·have:¬k=j:=by omega
   rw[if_neg h1,if_neg h2,if_neg h1,if_neg h2,Nat.testBit_two_pow_sub_succ hm];simp[this];intro a b;exact a
def ones(w:Nat):List Nat:=(List.range 64).filter w.testBit
theorem k2v{p q:Nat→Bool}{k:Nat}:∀{n:Nat},k<n→p k=true→(∀j,j<k→p j=false)→(∀j,j<n→q j=(p j&&decide (j≠k)))→(List.range n).filter p=k::(List.range n).filter q:=by
 intro n
 induction n with
 | zero=>intro h;omega
 | succ n ih =>
  intro h hp hl hq;rw[List.range_succ,List.filter_append,List.filter_append];by_cases e:k=n
  ·subst e;have a:(List.range k).filter p=[]:=List.filter_eq_nil_iff.2 fun j hj=>by rw[hl j (List.mem_range.1 hj)];simp
   have b:(List.range k).filter q=[]:=List.filter_eq_nil_iff.2 fun j hj=>by
    have:=List.mem_range.1 hj;rw[hq j (by omega),hl j this];simp
   rw[a,b];have:q k=false:=by rw[hq k (by omega)];simp
   simp[hp,this]
  ·rw[ih (by omega) hp hl fun j hj=>hq j (by omega)];have:q n=p n:=by rw[hq n (by omega)];simp;intro _;omega
   simp[this,List.filter_cons]
theorem ku9:ones 0=[]:=by
 unfold ones;exact List.filter_eq_nil_iff.2 fun j _=>by simp
theorem kq2{k m:Nat}(hk:k<64):ones (2^(k+1)*m+2^k)=k::ones (2^(k+1)*m):=by
 unfold ones;refine k2v hk (by rw[kg9];simp) (fun j hj=>by rw[kg9];simp[hj]) fun j _=>?_;rw[kg9,Nat.testBit_two_pow_mul];by_cases h1:j<k
 ·have:¬k+1≤j:=by omega
  simp[h1,this]
 ·by_cases h2:j=k
  ·subst h2;have:¬j+1≤j:=by omega
   simp[this]
  ·have:k+1≤j:=by omega
   simp[h1,h2,this]
end Go.Ab

/- squeezed -/
set_option maxRecDepth 10000
namespace Go.Ab
open Go.Proofs
theorem koe{a b:Nat}(ha:a<18446744073709551616)(hb:b<18446744073709551616):iand .u64 (a:Int) (b:Int)=((a&&&b:Nat):Int):=by
 unfold iand;rw[show IntKind.bits .u64=64 from rfl,wrapU];have e1:BitVec.ofInt 64 (a:Int)=BitVec.ofNat 64 a:=rfl;have e2:BitVec.ofInt 64 (b:Int)=BitVec.ofNat 64 b:=rfl;rw[e1,e2,BitVec.toNat_and,BitVec.toNat_ofNat,BitVec.toNat_ofNat,Nat.mod_eq_of_lt (show a<2^64 from ha),Nat.mod_eq_of_lt (show b<2^64 from hb)];have:a&&&b≤a:=Nat.and_le_left;omega
theorem or_nat{a b:Nat}(ha:a<18446744073709551616)(hb:b<18446744073709551616):ior .u64 (a:Int) (b:Int)=((a|||b:Nat):Int):=by
 unfold ior;rw[show IntKind.bits .u64=64 from rfl,wrapU];have e1:BitVec.ofInt 64 (a:Int)=BitVec.ofNat 64 a:=rfl;have e2:BitVec.ofInt 64 (b:Int)=BitVec.ofNat 64 b:=rfl;rw[e1,e2,BitVec.toNat_or,BitVec.toNat_ofNat,BitVec.toNat_ofNat,Nat.mod_eq_of_lt (show a<2^64 from ha),Nat.mod_eq_of_lt (show b<2^64 from hb)];have:a|||b<2^64:=Nat.or_lt_two_pow ha hb;omega
theorem krn(x n:Nat):ishr .u64 (x:Int) (n:Int)=((x/2^min n 64:Nat):Int):=by
 unfold ishr;rw[Int.toNat_natCast,show IntKind.bits .u64=64 from rfl];have:((2:Int)^min n 64)=((2^min n 64:Nat):Int):=by simp
 rw[this,Int.fdiv_eq_ediv_of_nonneg _ (Int.natCast_nonneg _)];exact(Int.natCast_ediv _ _).symm
theorem kti{n:Nat}(hn:n<64):ishl .u64 1 (n:Int)=((2^n:Nat):Int):=by
 unfold ishl;rw[Int.toNat_natCast,show IntKind.bits .u64=64 from rfl,Nat.min_eq_left (by omega),wrapU];have h1:(1:Int)*(2:Int)^n=((2^n:Nat):Int):=by simp
 have h2:2^n<2^64:=Nat.pow_lt_pow_right (by decide) hn;rw[h1];generalize 2^n=q at *
 omega
def tzTab:List Nat:=[0,1,56,2,57,49,28,3,61,58,42,50,38,29,17,4,62,47,59,36,45,43,51,22,53,39,33,30,24,18,12,5,63,55,48,27,60,41,37,16,46,35,44,21,52,32,23,11,54,26,40,15,34,20,31,10,25,14,19,9,13,8,7,6]
theorem tz_idx:∀k:_root_.Fin 64,tzTab.getD ((2^k.val*285870213051353865%18446744073709551616)/288230376151711744) 0=k.val:=by decide +kernel
def Tab(h:AH):Prop:=∀k:Nat,k<64→h.cell (.old ⟨Gl.math_bits_deBruijn64tab,k,none⟩)=some (.int .u8 ((tzTab.getD k 0:Nat):Int))
theorem Tab.md{h h':AH}{T:Fp}(t:Tab h)(m:Md T h h'):Tab h':=fun k hk=>by
 rw[← t k hk];simp only[AH.cell,m.old]
theorem Tab.grow{h h':AH}(t:Tab h)(g:Grow h h'):Tab h':=t.md (g.md Fp.no)
theorem tz_is{h:AH}(T:Tab h){k m:Nat}(hk:k<64)(hw:2^(k+1)*m+2^k<18446744073709551616):go (.fn F.knz [.int .u64 ((2^(k+1)*m+2^k:Nat):Int)]) h=some (.int .i64 (k:Int),h):=by
 rw[kxd];have hp:=Nat.two_pow_pos k;have en:=k84 (k:=k) (m:=m) (n:=64) hw;generalize hW:2^(k+1)*m+2^k=W at *
 have hW0:0<W:=by omega
 have e1:IntKind.wrap .u64 (0-(W:Int))=((18446744073709551616-W:Nat):Int):=by rw[wrapU];omega
 rw[condF (decide_eq_false (by omega)),e1,koe hw (by omega),en]
 have e2:IntKind.wrap .u64 (((2^k:Nat):Int)*285870213051353865)=((2^k*285870213051353865%18446744073709551616:Nat):Int):=by
  rw[wrapU,show((2^k:Nat):Int)*285870213051353865=((2^k*285870213051353865:Nat):Int)from by simp];rfl
 have ht:=tz_idx ⟨k,hk⟩;dsimp only at ht;rw[e2,show(58:Int)=((58:Nat):Int)from rfl,krn,show 2^min 58 64=288230376151711744 from rfl];generalize hJ:2^k*285870213051353865%18446744073709551616/288230376151711744=J at *
 have hJ64:J<64:=by
  rw[← hJ,Nat.div_lt_iff_lt_mul (by decide)];exact Nat.mod_lt _ (by decide)
 have ei:idx (some (Ref.old ⟨Gl.math_bits_deBruijn64tab,0,none⟩)) 64 (J:Int) 1=some (.old ⟨Gl.math_bits_deBruijn64tab,J,none⟩):=by
  rw[kcw _ _ _ _ (by omega) (by omega),Int.toNat_natCast,Nat.mul_one];simp[Ref.add,Addr.add];exact fun h=>h.symm
 rw[ei,Option.bind_some,T J hJ64,ht];show some (AV.int .i64 (IntKind.wrap .i64 (k:Int)),h)=_;rw[wrap64 (by omega) (by omega)]
def wbit(w:List Nat)(i:Nat):Bool:=(w.getD (i/64) 0).testBit (i%64)
def btR(n:Int)(w:List Nat):Bool:=decide (0≤n)&&(decide (n≤65536)&&(decide (w.length=(n.toNat+63)/64)&&(List.range (64*w.length)).all fun i=>decide (i<n.toNat)||!wbit w i))
theorem k5j{x k:Nat}:x<2^k↔∀i,k≤i→x.testBit i=false :=
 ⟨fun h i hi=>Nat.testBit_lt_two_pow (Nat.lt_of_lt_of_le h (Nat.pow_le_pow_right (by decide) hi)),fun h=>Nat.lt_pow_two_of_testBit x h⟩
section
variable{h0:AH}{s:Sl}{w:List Nat}{n:Int}
theorem Nats.rdN{h:AH}(N:Nats h s w){i:Nat}(hi:i<w.length):∃r:Ref,idx s.ref s.len (i:Int) 1=some r∧(h.cell r).bind (AV.asInt .u64)=some (w[i]:Int):=by
 obtain⟨r,e1,e2⟩:=N.at hi;exact⟨r,e1,rdc e2 (kb _ _)⟩
theorem kj9(N:Nats h0 s w):Runs (go (.fn F.kf9 [.agg [.int .i64 n,s.v]]) h0) fun v h'=>v=.bool (btR n w)∧Grow h0 h':=by
 rw[kbbp];refine Runs.new fun h1 b1 g1=>Runs.step (b1.rd 0 rfl (kb _ _)) (Runs.cond (fun c=>?_) fun c=>?_)
 ·rw[decide_eq_true_eq]at c;refine Runs.ret ⟨?_,g1⟩;unfold btR;rw[decide_eq_false (by omega)];rfl
 rw[decide_eq_false_iff_not]at c;refine Runs.step (b1.rd 0 rfl (kb _ _)) (Runs.cond (fun c2=>?_) fun c2=>?_)
 ·rw[decide_eq_true_eq]at c2;refine Runs.ret ⟨?_,g1⟩;unfold btR;rw[decide_eq_false (show¬n≤65536 by omega)];simp
 rw[decide_eq_false_iff_not]at c2;obtain⟨z,rfl⟩:∃z:Nat,n=(z:Int):=⟨n.toNat,by omega⟩;have N1:=N.grow g1;refine Runs.step (b1.rd 1 rfl (asSl_v _)) (Runs.step (b1.rd 0 rfl (kb _ _)) ?_);rw[N.len,wrap64 (n:=(z:Int)+64) (by omega) (by omega),wrap64 (n:=(z:Int)+64-1) (by omega) (by omega),show(z:Int)+64-1=((z+63:Nat):Int)from by omega,show Int.tdiv ((z+63:Nat):Int) 64=(((z+63)/64:Nat):Int)from rfl,wrap64 (by omega) (by omega)]
 have hb:btR (z:Int) w=(decide (w.length=(z+63)/64)&&(List.range (64*w.length)).all fun i=>decide (i<z)||!wbit w i):=by
  unfold btR;rw[decide_eq_true (show(0:Int)≤(z:Int) by omega),decide_eq_true (show(z:Int)≤65536 by omega),Int.toNat_natCast];rfl
 rw[hb];refine Runs.cond (fun c3=>?_) fun c3=>?_
 ·refine Runs.ret ⟨?_,g1⟩;rw[Bool.not_eq_true',decide_eq_false_iff_not]at c3;rw[decide_eq_false (by omega)];rfl
 rw[Bool.not_eq_false',decide_eq_true_eq]at c3;have hl:w.length=(z+63)/64:=by omega
 rw[decide_eq_true hl,Bool.true_and];refine Runs.step (b1.rd 0 rfl (kb _ _)) ?_;rw[show Int.tmod (z:Int) 64=((z%64:Nat):Int)from rfl];refine Runs.cond (fun c4=>?_) fun c4=>?_
 ·rw[decide_eq_true_eq]at c4;refine Runs.ret ⟨congrArg AV.bool ?_,g1⟩;symm;rw[List.all_eq_true];intro i hi;rw[List.mem_range]at hi;rw[decide_eq_true (by omega)];rfl
 rw[decide_eq_false_iff_not]at c4;have hi:z/64<w.length:=by omega
 obtain⟨r,e1,e2⟩:=N1.rdN hi;refine Runs.step (b1.rd 1 rfl (asSl_v _)) (Runs.step (b1.rd 1 rfl (asSl_v _)) ?_);rw[N.len,show((w.length:Nat):Int)-1=((z/64:Nat):Int)from by omega,wrap64 (by omega) (by omega)];rw[N.len]at e1;refine Runs.step e1 (Runs.step e2 (Runs.step (b1.rd 0 rfl (kb _ _)) ?_));rw[show Int.tmod (z:Int) 64=((z%64:Nat):Int)from rfl,krn];refine Runs.ifF (decide_eq_false (by omega)) (Runs.ret ⟨congrArg AV.bool ?_,g1⟩);rw[Bool.eq_iff_iff,decide_eq_true_eq,List.all_eq_true,Nat.min_eq_left (by omega)]
 have hx:((w[z/64]/2^(z%64):Nat):Int)=0↔w[z/64]<2^(z%64):=by
  have:=Nat.div_eq_zero_iff (a:=w[z/64]) (b:=2^(z%64));have:=Nat.two_pow_pos (z%64);omega
 rw[hx,k5j];have hg:w.getD (z/64) 0=w[z/64]:=by simp[List.getD,hi]
 constructor
 ·intro H i hi';rw[List.mem_range]at hi';rcases Nat.lt_or_ge i z with h | h
  ·rw[decide_eq_true h];rfl
  ·have:i/64=z/64:=by omega
   unfold wbit;rw[this,hg,H (i%64) (by omega)];simp
 ·intro H j hj;rcases Nat.lt_or_ge j 64 with h | h
  ·have:=H (64*(z/64)+j) (by rw[List.mem_range];omega);unfold wbit at this;rw[decide_eq_false (by omega),show(64*(z/64)+j)/64=z/64 from by omega,show(64*(z/64)+j)%64=j from by omega,hg]at this
   simpa using this
  ·exact Nat.testBit_lt_two_pow (Nat.lt_of_lt_of_le (N.lt _ (List.getElem_mem hi)) (show 2^64≤2^j from Nat.pow_le_pow_right (by decide) h))
end
end Go.Ab

/- squeezed -/
set_option maxRecDepth 10000
namespace Go.Ab
open Go.Proofs
def zs(l:List Nat):List Int:=l.map fun x:Nat=>(x:Int)
theorem zs_len(l:List Nat):(zs l).length=l.length:=List.length_map _
theorem zs_app(l m:List Nat):zs (l++m)=zs l++zs m:=List.map_append
theorem kjw{n:Nat}(h:n≤1000000):growOk Pg n T.int 1=true:=by
 unfold growOk;rw[kwi,knb];have h1:n*8≤ki:=by simp only[ki];omega
 have h2:n≤ki:=by simp only[ki];omega
 simp[h1,h2]
def btL(n:Int)(w:List Nat):List Nat:=if btR n w then(List.range n.toNat).filter (wbit w)else []
theorem btR_n{n:Int}{w:List Nat}(h:btR n w=true):0≤n∧n≤65536∧w.length=(n.toNat+63)/64∧∀i,i<64*w.length→n.toNat≤i→wbit w i=false:=by
 unfold btR at h;simp only[Bool.and_eq_true,decide_eq_true_eq,List.all_eq_true,List.mem_range,Bool.or_eq_true,Bool.not_eq_true']at h;exact⟨h.1,h.2.1,h.2.2.1,fun i hi hn=>(h.2.2.2 i hi).resolve_left (by omega)⟩
theorem btR_of{n:Int}{w:List Nat}(h1:0≤n)(h2:n≤65536)(h3:w.length=(n.toNat+63)/64)(h4:∀i,i<64*w.length→n.toNat≤i→wbit w i=false):btR n w=true:=by
 unfold btR;simp only[Bool.and_eq_true,decide_eq_true_eq,List.all_eq_true,List.mem_range,Bool.or_eq_true,Bool.not_eq_true'];exact⟨h1,h2,h3,fun i hi=>(Nat.lt_or_ge i n.toNat).imp_right (h4 i hi)⟩
section
variable{h0:AH}{s:Sl}{w:List Nat}{n:Int}
end
end Go.Ab

/- squeezed -/
set_option maxRecDepth 10000
namespace Go.Ab
open Go.Proofs
theorem k00{w:List Nat}{i j:Nat}(hi:i/64<w.length):wbit (w.set (i/64) (w[i/64]|||2^(i%64))) j=(decide (j=i)||wbit w j):=by
 unfold wbit;by_cases h:j/64=i/64
 ·rw[h];have:(w.set (i/64) (w[i/64]|||2^(i%64))).getD (i/64) 0=w[i/64]|||2^(i%64):=by simp[List.getD,hi]
  rw[this,Nat.testBit_or,Nat.testBit_two_pow];have h2:w.getD (i/64) 0=w[i/64]:=by simp[List.getD,hi]
  rw[h2,Bool.or_comm];congr 1;rw[decide_eq_decide];omega
 ·have h1:(w.set (i/64) (w[i/64]|||2^(i%64))).getD (j/64) 0=w.getD (j/64) 0:=by
   simp only[List.getD];rw[List.getElem?_set_ne (by omega)]
  rw[h1];have:¬j=i:=fun e=>h (by rw[e]);simp[this]
theorem k67(n i:Nat):wbit (List.replicate n 0) i=false:=by
 unfold wbit
 have:(List.replicate n 0).getD (i/64) 0=0:=by
  simp only[List.getD,List.getElem?_replicate];split<;>rfl
 rw[this];exact Nat.zero_testBit _
section
variable{h0:AH}
theorem kky{n:Nat}(hn:n≤65536):Runs (go (.fn F.kig [.int .i64 (n:Int)]) h0) fun v h'=>Grow h0 h'∧∃(s:Sl)(i:Nat),v=.tup [.agg [.int .i64 (n:Int),s.v],.int .i64 0]∧h0.blks.size≤i∧Vec h' s i (List.replicate ((n+63)/64) 0):=by
 rw[kyh];refine Runs.new fun h1 b1 g1=>Runs.ifF (decide_eq_false (by omega)) (Runs.ifF (decide_eq_false (by omega)) ?_);rw[wrap64 (n:=(n:Int)+64) (by omega) (by omega),wrap64 (n:=(n:Int)+64-1) (by omega) (by omega),show(n:Int)+64-1=((n+63:Nat):Int)from by omega,show Int.tdiv ((n+63:Nat):Int) 64=(((n+63)/64:Nat):Int)from rfl,wrap64 (by omega) (by omega)];refine Runs.mk (kg0 (by omega)) ken fun s h2 V g2=>?_;refine Runs.puts (g2.has b1) rfl fun h3 b3 u3=>?_;refine Runs.step (b3.rd 0 rfl (kb _ _)) (Runs.step (b3.rd 1 rfl (asSl_v _)) (Runs.ret ⟨(g1.trans g2).updr (Nat.le_refl _) u3,s,h1.blks.size,rfl,g1.size,V.updr (by have:=b1.lt;omega) u3⟩))
end
end Go.Ab

/- squeezed -/
set_option maxRecDepth 10000
namespace Go.Ab
open Go.Proofs
theorem k4f{w:List Nat}{i:Nat}(hi:i<w.length):(List.range (64*(i+1))).filter (wbit w)=(List.range (64*i)).filter (wbit w)++(ones w[i]).map (fun k=>64*i+k):=by
 rw[Nat.mul_add,Nat.mul_one,List.range_add,List.filter_append,List.filter_map];congr 1;unfold ones;congr 1;apply List.filter_congr;intro k hk;rw[List.mem_range]at hk;simp only[Function.comp,wbit];rw[show(64*i+k)/64=i from by omega,show(64*i+k)%64=k from by omega];simp[List.getD,hi]
section
variable{w:List Nat}{s:Sl}{l:Nat}
theorem kbby{Inv:List Nat→AH→Prop}(hT:∀d h,Inv d h→Tab h)(hround:∀d i h,Inv d h→i<64*w.length→d.length<64*w.length→Runs (go (.round l [.int .i64 (i:Int)]) h) fun v h'=>v=.bool true∧Inv (d++[i]) h')(hl:w.length≤2000){i:Nat}(hi:i<w.length){P:AV→AH→Prop} :
  ∀(n x:Nat),x<18446744073709551616→(ones x).length=n→∀(d:List Nat)(h:AH),d.length+n≤64*w.length→Inv d h→(∀h',Inv (d++(ones x).map (fun k=>64*i+k)) h'→Runs (go (.pt F.kb6 Td.ki5 [(0,.func (.yield l) [] []),(6,s.v),(7,.int .i64 (w.length:Int)),(8,.int .i64 ((i+1:Nat):Int))]) h') P)→
  Runs (go (.pt F.kb6 Td.kl6 [(0,.func (.yield l) [] []),(3,.int .i64 (i:Int)),(4,.int .u64 (x:Int)),(6,s.v),(7,.int .i64 (w.length:Int)),(8,.int .i64 (i:Int))]) h) P:=by
 intro n
 induction n with
 | zero =>
  intro x hx hn d h hd I H
  have hx0:x=0:=by
   rcases Nat.eq_zero_or_pos x with h0 | h0
   ·exact h0
   ·obtain⟨k,m,hk,rfl⟩:=ku1 64 x (by omega) hx;rw[kq2 hk]at hn;simp at hn
  subst hx0;rw[kro];refine Runs.ifF (by rfl) ?_;rw[kq (by omega)];rw[ku9]at H;exact H h (by simpa using I)
 | succ n ih =>
  intro x hx hn d h hd I H;have hx0:x≠0:=fun e=>by subst e;rw[ku9]at hn;simp at hn
  obtain⟨k,m,hk,hxe⟩:=ku1 64 x hx0 hx;subst hxe;rw[kq2 hk]at hn H;rw[kro];refine Runs.ifT (by rw[decide_eq_false (by omega)];rfl) ?_;refine Runs.step (tz_is (hT _ _ I) hk hx) (Runs.step (seen rfl) ?_);rw[wrap64 (n:=64*(i:Int)) (by omega) (by omega),wrap64 (by omega) (by omega),show 64*(i:Int)+(k:Int)=((64*i+k:Nat):Int)from by omega];refine(hround d (64*i+k) h I (by omega) (by omega)).call fun v h1 ⟨e,I1⟩=>?_;subst e;refine Runs.step (seen rfl) (Runs.ifF rfl ?_)
  have e1:IntKind.wrap .u64 (((2^(k+1)*m+2^k:Nat):Int)-1)=((2^(k+1)*m+2^k-1:Nat):Int):=by
   have:=Nat.two_pow_pos k;generalize 2^(k+1)*m+2^k=W at *
   rw[wrapU];omega
  have hle:2^(k+1)*m<18446744073709551616:=by
   have:=Nat.two_pow_pos k;exact Nat.lt_of_le_of_lt (Nat.le_add_right _ _) hx
  dsimp only;rw[e1,koe hx (by omega),kbaf];refine ih _ hle (by simpa using hn) (d++[64*i+k]) h1 (by rw[List.length_append,List.length_singleton];omega) I1 fun h' I'=>H h' ?_
  simpa using I'
theorem kxx{Inv:List Nat→AH→Prop}(hT:∀d h,Inv d h→Tab h)(hN:∀d h,Inv d h→Nats h s w)(hround:∀d i h,Inv d h→i<64*w.length→d.length<64*w.length→Runs (go (.round l [.int .i64 (i:Int)]) h) fun v h'=>v=.bool true∧Inv (d++[i]) h')(hl:w.length≤2000) :
  ∀(k i:Nat),i+k=w.length→∀h,Inv ((List.range (64*i)).filter (wbit w)) h→
  Runs (go (.pt F.kb6 Td.ki5 [(0,.func (.yield l) [] []),(6,s.v),(7,.int .i64 (w.length:Int)),(8,.int .i64 (i:Int))]) h) fun v h'=>v=.tup []∧Inv ((List.range (64*w.length)).filter (wbit w)) h':=by
 intro k
 induction k with
 | zero =>
  intro i hi h I;obtain rfl:i=w.length:=by omega
  rw[kvt];exact Runs.ifF (decide_eq_false (by omega)) (Runs.ret ⟨rfl,I⟩)
 | succ k ih =>
  intro i hi h I;have hlt:i<w.length:=by omega
  obtain⟨r,e1,e2⟩:=(hN _ _ I).rdN hlt;rw[kvt];refine Runs.ifT (decide_eq_true (by omega)) (Runs.step e1 (Runs.step e2 ?_));refine kbby hT hround hl hlt _ _ ((hN _ _ I).lt _ (List.getElem_mem hlt)) rfl _ h ?_ I fun h' I'=>?_
  ·have h1:=List.length_filter_le (wbit w) (List.range (64*i));have h2:=List.length_filter_le w[i].testBit (List.range 64);rw[List.length_range]at h1 h2;show _+((List.range 64).filter _).length≤_;omega
  rw[← k4f hlt]at I';exact ih (i+1) (by omega) h' I'
end
end Go.Ab

/- squeezed -/
set_option maxRecDepth 10000
namespace Go.Ab
open Go.Proofs
noncomputable def aNote(st:LoopState)(b:Nat)(g:AV):ABlk:=kpv Fx.koi F.kd2 0 st none [(0,(⟨none,0,.is 0⟩:Sl).v),(1,g),(2,.ptr (some (.new b 0))),(4,(⟨none,0,.is 0⟩:Sl).v),(6,g)]
structure Coll(h0:AH)(b l:Nat)(g:AV)(d:List Nat)(h:AH):Prop where
 grow:Grow h0 h
 note:h.blks[l]?=some (aNote .ready b g)
 out:∃(t:Sl)(j:Option Nat),h.has b [t.v] T.kbm∧LeO (l+1) j∧GF EI T.int h Fp.no t j (zs d)
theorem kly{m n:Nat}(h:m<n):∀{j:Option Nat},LeO n j→∀k,j=some k→k≠m
 | some x,l,k,e=>by cases e;have:n≤x:=l;omega
theorem k36{h0 h:AH}{b l:Nat}{g:AV}{d:List Nat}(hb:h0.blks.size≤b)(hbl:b<l)(I:Coll h0 b l g d h)(hd:d.length<900000)(i:Nat):Runs (go (.round l [.int .i64 (i:Int)]) h) fun v h'=>v=.bool true∧Coll h0 b l g (d++[i]) h':=by
 obtain⟨G,hn,t,j,B,lj,V⟩:=I;have hl:l<h.blks.size:=(Array.getElem?_eq_some_iff.1 hn).1;rw[kba4 l none _ _ _ _ _ _ _ hn,k6e (h:=h) hn,Option.bind_some];generalize hq:h.setBlk l _=h1;have u1:Upd h h1 l:=by rw[← hq];exact AH.setBlk_Upd _
 have n1:h1.blks[l]?=some (aNote .busy b g):=by rw[← hq];exact AH.setBlk_get hl
 have B1:h1.has b [t.v] T.kbm:=B.updr (by omega) u1;have V1:GF EI T.int h1 Fp.no t j (zs d):=V.upd u1 Fp.not_no (kly (Nat.lt_succ_self l) lj);refine Runs.step (B1.rd0 rfl (asSl_v _)) ?_;refine Runs.new fun h2 b2 g2=>?_;refine Runs.step (kc2 b2 (by rw[kew];rfl)) ?_;obtain⟨t',h3,e3,V3,u3⟩:=(V1.grow g2).push (T:=Fp.no) (cs:=[.int .i64 (i:Int)]) (x:=(i:Int)) rfl NotO.no (kjw (by rw[zs_len];omega));refine Runs.step e3 (Runs.step (asSl_v _) ?_);have m3:Md (Fp.opt j) h2 h3:=u3.md fun k e=>e;have no:∀{m:Nat},m≤l→¬Fp.opt j m:=fun hm e=>kly (Nat.lt_succ_of_le hm) lj _ e rfl;have B3:h3.has b [t.v] T.kbm:=m3.has (g2.has B1) (no (by omega));have n3:h3.blks[l]?=some (aNote .busy b g):=m3.get ((g2.blk l (Array.getElem?_eq_some_iff.1 n1).1).trans n1) (no (Nat.le_refl _));refine Runs.puts B3 rfl fun h4 B4 u4=>?_;have n4:h4.blks[l]?=some (aNote .busy b g):=(u4.blk l (by omega) (Array.getElem?_eq_some_iff.1 n3).1).trans n3;rw[k02 n4];have u5:Upd h4 (h4.setBlk l (aNote .ready b g)) l:=AH.setBlk_Upd _;have hs:h.blks.size≤h2.blks.size:=Nat.le_trans u1.size g2.size;refine Runs.ret ⟨rfl,?_,AH.setBlk_get (Array.getElem?_eq_some_iff.1 n4).1,t',some h2.blks.size,B4.updr (by omega) u5,show l+1≤h2.blks.size by omega,?_⟩
 ·have G2:Grow h0 h2:=(G.updr (by omega) u1).trans g2;have G3:Grow h0 h3:=G2.updo (LeO.trans (by omega) lj) u3;exact(G3.updr hb u4).updr (by omega) u5
 ·rw[zs_app];have V4:GF EI T.int h3 Fp.no t' (some h2.blks.size) (zs d++[(i:Int)]):=V3.mono (fun j x=>x.1.elim id id) NotO.no;have:=(V4.upd u4 Fp.not_no fun k e=>by cases e;omega).upd u5 Fp.not_no fun k e=>by cases e;omega
  exact this
section
variable{h0:AH}{s:Sl}{w:List Nat}{n:Int}
theorem kww(T0:Tab h0)(N:Nats h0 s w):Runs (go (.fn F.kk0 [.agg [.int .i64 n,s.v]]) h0) fun v h'=>Grow h0 h'∧∃(t':Sl)(j':Option Nat),v=t'.v∧LeO h0.blks.size j'∧GF EI T.int h' Fp.no t' j' (zs (btL n w)):=by
 rw[kza];refine Runs.new fun h1 b1 g1=>Runs.step (b1.rd 0 rfl (kb _ _)) (Runs.step (b1.rd 1 rfl (asSl_v _)) ?_);refine(kj9 (N.grow g1)).call fun v h2 ⟨e,g2⟩=>?_;subst e;refine Runs.step (seen rfl) ?_;cases hR:btR n w with
 | false =>
  refine Runs.ifT rfl (Runs.ret ⟨g1.trans g2,_,none,rfl,trivial,?_⟩);unfold btL;rw[hR];exact GF.none _ _ _ _
 | true =>
  obtain⟨hn0,hn1,hlen,hov⟩:=btR_n hR;refine Runs.ifF rfl (Runs.step ((g2.has b1).rd 0 rfl (kb _ _)) (Runs.step ((g2.has b1).rd 1 rfl (asSl_v _)) ?_))
  have k0:Runs (go (.fn F.ko5 [.agg [.int .i64 n,s.v]]) h2) fun v h'=>v=.func (.func F.kb6) [] [.ptr (some (.new h2.blks.size 0))]∧h'.has h2.blks.size [.int .i64 n,s.v] T.kw∧Grow h2 h':=by
   rw[k0y];exact Runs.new fun h3 b3 g3=>Runs.ret ⟨rfl,b3,g3⟩
  refine k0.call fun v h3 ⟨e,b3,g3⟩=>?_;subst e;have G3:Grow h0 h3:=(g1.trans g2).trans g3
  have key:Runs (go (.fn F.kd2 [(⟨none,0,.is 0⟩:Sl).v,.func (.func F.kb6) [] [.ptr (some (.new h2.blks.size 0))]]) h3) fun v h'=>Grow h3 h'∧∃(t':Sl)(j':Option Nat),v=t'.v∧LeO h3.blks.size j'∧GF EI T.int h' Fp.no t' j' (zs (btL n w)):=by
   rw[k24];refine Runs.new fun h4 b4 g4=>?_;rw[k5k,kbar];refine Runs.newM fun h5 hb g5=>?_;rw[k9n];generalize hgv:(AV.func (.func F.kb6) [] [AV.ptr (some (Ref.new h2.blks.size 0))])=gv at hb;have s4:h3.blks.size<h4.blks.size:=b4.lt;have b3':h5.has h2.blks.size [.int .i64 n,s.v] T.kw:=g5.has (g4.has b3);have I0:Coll h3 h3.blks.size h4.blks.size gv [] h5:=⟨g4.trans g5,hb,_,none,g5.has b4,trivial,GF.none _ _ _ _⟩;have N3:Nats h3 s w:=N.grow G3;have T3:Tab h3:=T0.grow G3
   have k1:Runs (go (.fn F.kb6 [.func (.yield h4.blks.size) [] [],.ptr (some (.new h2.blks.size 0))]) h5) fun v h'=>v=.tup []∧Coll h3 h3.blks.size h4.blks.size gv ((List.range (64*w.length)).filter (wbit w)) h':=by
    rw[kxm];refine Runs.step (b3'.rd 1 rfl (asSl_v _)) ?_;rw[N.len];exact kxx (Inv:=Coll h3 h3.blks.size h4.blks.size gv) (fun d h I=>T3.grow I.grow) (fun d h I=>N3.grow I.grow) (fun d i h I hi hd=>k36 (Nat.le_refl _) s4 I (by omega) i) (by omega) w.length 0 (by omega) h5 (by simpa using I0)
   refine k1.call fun v h6 ⟨e,I⟩=>?_;obtain⟨G,hn,t,j,B,lj,V⟩:=I;rw[kbbv hn,Option.bind_some];rw[k2l];have hl:=(Array.getElem?_eq_some_iff.1 hn).1;have u6:Upd h6 (h6.setBlk h4.blks.size .dead) h4.blks.size:=AH.setBlk_Upd _;refine Runs.step ((B.updr (by omega) u6).rd0 rfl (asSl_v _)) (Runs.ret ⟨G.updr (by omega) u6,t,j,rfl,LeO.trans (by omega) lj,?_⟩)
   have e:btL n w=(List.range (64*w.length)).filter (wbit w):=by
    unfold btL;rw[hR,if_pos rfl];obtain⟨z,rfl⟩:∃z:Nat,n=(z:Int):=⟨n.toNat,by omega⟩;rw[Int.toNat_natCast]at hlen hov⊢;obtain⟨q,hq⟩:∃q,64*w.length=z+q:=⟨64*w.length-z,by omega⟩;rw[hq,List.range_add,List.filter_append]
    have:((List.range q).map (z + ·)).filter (wbit w)=[]:=List.filter_eq_nil_iff.2 fun x hx=>by
     rw[List.mem_map]at hx;obtain⟨y,hy,rfl⟩:=hx;rw[List.mem_range]at hy;rw[hov (z+y) (by omega) (by omega)];simp
    rw[this,List.append_nil]
   rw[e];exact V.upd u6 Fp.not_no (kly (Nat.lt_succ_self _) lj)
  have k2:Runs (go (.fn F.kp3 [.func (.func F.kb6) [] [.ptr (some (.new h2.blks.size 0))]]) h3) fun v h'=>Grow h3 h'∧∃(t':Sl)(j':Option Nat),v=t'.v∧LeO h3.blks.size j'∧GF EI T.int h' Fp.no t' j' (zs (btL n w)):=by
   rw[k2u];refine key.call fun v h' ⟨g,t',j',e,lj,V⟩=>?_;subst e;exact Runs.step (seen (asSl_v _)) (Runs.ret ⟨g,t',j',rfl,lj,V⟩)
  refine k2.call fun v h' ⟨g,t',j',e,lj,V⟩=>?_;subst e;exact Runs.step (seen (asSl_v _)) (Runs.ret ⟨G3.trans g,t',j',rfl,LeO.trans G3.size lj,V⟩)
end
end Go.Ab

/- squeezed -/
set_option maxRecDepth 10000
namespace Go.Ab
open Go.Proofs
theorem kjn{w:List Nat}{i x:Nat}(hi:i<w.length)(j:Nat):wbit (w.set i x) j=if j/64=i then x.testBit (j%64)else wbit w j:=by
 unfold wbit;split
 ·rename_i h;rw[h];have:(w.set i x).getD i 0=x:=by simp[List.getD,hi]
  rw[this]
 ·rename_i h
  have:(w.set i x).getD (j/64) 0=w.getD (j/64) 0:=by
   simp only[List.getD];rw[List.getElem?_set_ne (by omega)]
  rw[this]
theorem kjs{w:List Nat}{j:Nat}(h:w.length≤j/64):wbit w j=false:=by
 unfold wbit;have:w.getD (j/64) 0=0:=by simp[List.getD,h]
 rw[this];exact Nat.zero_testBit _
section
variable{h0:AH}{S:Fp}{s:Sl}
theorem kbb5{xs:List Int}(n:Sq EI h0 S s xs){b:Nat}{z:Int}{e:TypeId}(hb:h0.has b [.int .i64 z] e):Runs (go (.fn F.kdi [s.v,.func (.func F.kdf) [] [.ptr (some (.new b 0))]]) h0) fun v h'=>v=.bool (xs.any fun x=>decide (x<0)||decide (x≥z))∧Grow h0 h':=by
 rw[kxt];refine Runs.contains (xs:=xs) ?_;rw[k7c,n.len];refine kkx (n:=xs.length) (G:=fun y h=>go (.pt F.kbo Td.kck [(0,s.v),(1,.func (.func F.kdf) [] [.ptr (some (.new b 0))]),(7,.int .i64 (xs.length:Int)),(8,.int .i64 y)]) h) (fun i h P hi g hT hF=>?_) (fun h g=>?_) xs.length 0 (by omega) (Grow.refl h0) (fun j hj=>by omega)
 ·obtain⟨r,e1,e2⟩:=(n.grow g).int hi;rw[List.getElem?_eq_getElem hi]at hT hF;simp only[Option.any_some]at hT hF;show Runs (go _ _) _;rw[ktd];refine Runs.ifT (decide_eq_true (by omega)) (Runs.step e1 (Runs.step e2 ?_))
  have key:Runs (go (.fn F.kdf [.int .i64 xs[i],.ptr (some (.new b 0))]) h) fun v h'=>v=.bool (decide (xs[i]<0)||decide (xs[i]≥z))∧h'=h:=by
   rw[k51];cases decide (xs[i]<0)
   ·refine Runs.ifF rfl (Runs.step rfl (Runs.step ((g.has hb).rd0 rfl (kb _ _)) ?_));exact Runs.ret ⟨rfl,rfl⟩
   ·exact Runs.ret ⟨rfl,rfl⟩
  refine key.call fun v h' ⟨ev,eh⟩=>?_;subst ev;subst eh;refine Runs.step (seen rfl) ?_;rw[kq (by have:=n.short;omega)];exact Runs.cond (fun c=>Runs.ret (hT _ g c)) fun c=>hF _ g c
 ·rw[ktd,condF (decide_eq_false (by omega))]
theorem k2k{l:List Nat}{n:Nat}(q:Sq EI h0 S s (zs l))(hl:∀x∈l,x<n)(hn:n≤65536){b c i:Nat}{t:Sl}(hb:h0.blks.size≤b)(hci:c≠i)(hbc:b≠c)(hbi:b≠i)(hi:h0.blks.size≤i):∀(k j:Nat),j+k=l.length→∀(h:AH)(w:List Nat),Grow h0 h→(∃cs:List AV,cs.length=2∧h.has b cs T.kw)→h.has c [.int .i64 (n:Int),t.v] T.kw→Vec h t i w→w.length=(n+63)/64→(∀m,wbit w m=decide (m∈l.take j))→
  Runs (go (.pt F.kg3 Td.kmp [(4,.ptr (some (.new b 0))),(6,.ptr (some (.new c 0))),(23,s.v),(24,.int .i64 (l.length:Int)),(25,.int .i64 (j:Int))]) h) fun v h'=>Grow h0 h'∧∃(t:Sl)(w:List Nat),v=.tup [.agg [.int .i64 (n:Int),t.v],.int .i64 0]∧Nats h' t w∧w.length=(n+63)/64∧Own h0 t∧∀m,wbit w m=decide (m∈l):=by
 intro k
 induction k with
 | zero =>
  intro j hj h w g ⟨cs,hcs,B⟩ C V hw hm;obtain rfl:j=l.length:=by omega
  rw[kw2];refine Runs.ifF (decide_eq_false (by omega)) (Runs.step (C.rd 0 rfl (kb _ _)) (Runs.step (C.rd 1 rfl (asSl_v _)) ?_));refine Runs.puts B (by rw[hcs];rfl) fun h1 B1 u1=>?_;refine Runs.step (B1.rd 0 rfl (kb _ _)) (Runs.step (B1.rd 1 rfl (asSl_v _)) (Runs.ret ⟨g.updr hb u1,t,w,rfl,(V.updr (fun e=>hbi e.symm) u1).nats,hw,V.own hi,fun m=>?_⟩));rw[hm,List.take_length]
 | succ k ih =>
  intro j hj h w g hB C V hw hm;have hj':j<(zs l).length:=by rw[zs_len];omega
  obtain⟨r,e1,e2⟩:=(q.grow g).int hj';have hx:(zs l)[j]=((l[j]'(by omega):Nat):Int):=by simp[zs]
  have hjl:j<l.length:=by omega
  have hxn:l[j]<n:=hl _ (List.getElem_mem hjl);have hq:l[j]/64<w.length:=by omega
  rw[kw2];refine Runs.ifT (decide_eq_true (by omega)) (Runs.step e1 (Runs.step e2 ?_));rw[hx];refine Runs.step (C.rd 1 rfl (asSl_v _)) ?_;rw[show Int.tdiv ((l[j]:Nat):Int) 64=((l[j]/64:Nat):Int)from rfl,wrap64 (by omega) (by omega),show Int.tmod ((l[j]:Nat):Int) 64=((l[j]%64:Nat):Int)from rfl,V.len];refine Runs.step (V.idx rfl (kbd hq)) (Runs.step (V.rd rfl (kbd hq) (kb _ _)) (Runs.ifF (decide_eq_false (by omega)) (Runs.step (V.idx rfl (kbd hq)) ?_)));have hwl:w[l[j]/64]<18446744073709551616:=V.lt _ (List.getElem_mem hq);have hpl:2^(l[j]%64)<2^64:=Nat.pow_lt_pow_right (by decide) (by omega);have hgd:w.getD (l[j]/64) 0=w[l[j]/64]:=by simp[List.getD,hq]
  rw[hgd,kti (by omega),or_nat hwl hpl];refine Runs.vput V rfl (kbd hq) (kbt (Nat.or_lt_two_pow (n:=64) hwl hpl)) fun h1 V1 u1=>?_;rw[kq (by have:=q.short;rw[zs_len]at this;omega)];obtain⟨cs,hcs,B⟩:=hB;refine ih (j+1) (by omega) h1 _ (g.updr hi u1) ⟨cs,hcs,B.updr hbi u1⟩ (C.updr hci u1) V1 (by rw[List.length_set];exact hw) fun m=>?_;rw[k00 hq,hm,List.take_succ_eq_append_getElem hjl,Bool.eq_iff_iff];simp only[Bool.or_eq_true,decide_eq_true_eq,List.mem_append,List.mem_singleton];exact Or.comm
theorem k53{l:List Nat}{n:Nat}(q:Sq EI h0 S s (zs l))(hl:∀x∈l,x<n)(hn:n≤65536):Runs (go (.fn F.kg3 [.int .i64 (n:Int),s.v]) h0) fun v h'=>Grow h0 h'∧∃(t:Sl)(w:List Nat),v=.tup [.agg [.int .i64 (n:Int),t.v],.int .i64 0]∧Nats h' t w∧w.length=(n+63)/64∧Own h0 t∧∀m,wbit w m=decide (m∈l):=by
 rw[k7l];refine Runs.new fun h1 b1 g1=>Runs.new fun h2 b2 g2=>Runs.step ((g2.has b1).rd0 rfl (kb _ _)) ?_;refine(kky hn).call fun v h3 ⟨g3,t,i,e,hi,V⟩=>?_;subst e;refine Runs.step rfl (Runs.step rfl (Runs.ifT rfl (Runs.step rfl (Runs.step (seenAt rfl (asSl_v _)) (Runs.step rfl ?_)))));dsimp only;refine Runs.new fun h4 b4 g4=>Runs.puts b4 rfl fun h5 b5 u5=>Runs.ifF rfl ?_;have s1:h0.blks.size<h1.blks.size:=b1.lt;have s2:h1.blks.size<h2.blks.size:=b2.lt;have s3:i<h3.blks.size:=V.inn;have s4:h2.blks.size≤h3.blks.size:=g3.size;have G4:Grow h0 h4:=(((g1.trans g2).trans g3).trans g4);have G5:Grow h0 h5:=G4.updr (by have:=G4.size;omega) u5;have G25:Grow h2 h5:=(g3.trans g4).updr (by omega) u5;refine(kbb5 (q.grow G5) (G25.has (g2.has b1))).call fun v h6 ⟨e,g6⟩=>?_;subst e
 have hany:((zs l).any fun x=>decide (x<0)||decide (x≥(n:Int)))=false:=by
  rw[List.any_eq_false];intro x hx;unfold zs at hx;rw[List.mem_map]at hx;obtain⟨y,hy,rfl⟩:=hx;have:=hl y hy;simp;omega
 rw[hany];refine Runs.step (seen rfl) (Runs.ifF rfl ?_);rw[q.len,zs_len];have V6:Vec h6 t i (List.replicate ((n+63)/64) 0):=((V.grow g4).updr (by omega) u5).grow g6;exact k2k q hl hn (b:=h1.blks.size) (c:=h3.blks.size) (i:=i) (by omega) (by omega) (by omega) (by omega) (by omega) l.length 0 (by omega) h6 _ (G5.trans g6) ⟨_,rfl,g6.has (G25.has b2)⟩ (g6.has b5) V6 (by simp) (fun m=>by rw[k67];simp)
end
end Go.Ab

/- squeezed -/
set_option maxRecDepth 10000
namespace Go.Ab
open Go.Proofs
section
variable{h0:AH}{s1 s2:Sl}{w1 w2:List Nat}{n1 n2:Int}
theorem kbb0(N1:Nats h0 s1 w1)(N2:Nats h0 s2 w2)(hl:w1.length=w2.length)(hs:w1.length≤2000){b1 b2 b3 b4 i:Nat}{t:Sl}{x1 x2:Int}(i1:b1≠i)(i2:b2≠i)(i3:b3≠i)(i4:b4≠i)(h3:h0.blks.size≤b3)(hi:h0.blks.size≤i):∀(k j:Nat),j+k=w1.length→∀(h:AH)(w:List Nat),Grow h0 h→h.has b1 [.int .i64 x1,s1.v] T.kw→h.has b2 [.int .i64 x2,s2.v] T.kw→(∃cs:List AV,cs.length=2∧h.has b3 cs T.kw)→h.has b4 [.int .i64 n1,t.v] T.kw→Vec h t i w→w.length=w1.length→(∀m,m/64<j→wbit w m=(wbit w1 m&&wbit w2 m))→
  Runs (go (.pt F.kcu Td.kft [(2,.func (.func F.keg) [] []),(3,.ptr (some (.new b1 0))),(4,.ptr (some (.new b2 0))),(6,.ptr (some (.new b3 0))),(8,.ptr (some (.new b4 0))),(9,.int .i64 0),(35,.int .i64 (w1.length:Int)),(36,.int .i64 (j:Int))]) h) fun v h'=>Grow h0 h'∧∃(t:Sl)(w:List Nat),v=.tup [.agg [.int .i64 n1,t.v],.int .i64 0]∧Nats h' t w∧w.length=w1.length∧Own h0 t∧∀m,wbit w m=(wbit w1 m&&wbit w2 m):=by
 intro k
 induction k with
 | zero =>
  intro j hj h w g B1 B2 ⟨cs,hcs,B3⟩ B4 V hw hm;obtain rfl:j=w1.length:=by omega
  rw[kwq];refine Runs.ifF (decide_eq_false (by omega)) (Runs.step (B4.rd 0 rfl (kb _ _)) (Runs.step (B4.rd 1 rfl (asSl_v _)) ?_));refine Runs.puts B3 (by rw[hcs];rfl) fun h1 B5 u1=>?_;refine Runs.step (B5.rd 0 rfl (kb _ _)) (Runs.step (B5.rd 1 rfl (asSl_v _)) (Runs.ret ⟨g.updr h3 u1,t,w,rfl,(V.updr (fun e=>i3 e.symm) u1).nats,hw,V.own hi,fun m=>?_⟩));rcases Nat.lt_or_ge (m/64) w1.length with h' | h'
  ·exact hm m h'
  ·rw[kjs (by omega),kjs (w:=w1) h'];rfl
 | succ k ih =>
  intro j hj h w g B1 B2 ⟨cs,hcs,B3⟩ B4 V hw hm;have j1:j<w1.length:=by omega
  have j2:j<w2.length:=by omega
  obtain⟨r1,e1,e2⟩:=(N1.grow g).rdN j1;obtain⟨r2,e3,e4⟩:=(N2.grow g).rdN j2;rw[kwq];refine Runs.ifT (decide_eq_true (by omega)) (Runs.step (B4.rd 1 rfl (asSl_v _)) (Runs.step (B1.rd 1 rfl (asSl_v _)) (Runs.step e1 (Runs.step e2 (Runs.step (B2.rd 1 rfl (asSl_v _)) (Runs.step e3 (Runs.step e4 ?_)))))));have a1:w1[j]<18446744073709551616:=N1.lt _ (List.getElem_mem j1);have a2:w2[j]<18446744073709551616:=N2.lt _ (List.getElem_mem j2);refine Runs.step (kz3 _ _ _) (Runs.step (seen rfl) ?_);rw[koe a1 a2];refine Runs.when ((Grow.refl h).same B4 1 1) ?_;rw[V.len];have hq:j<w.length:=by omega
  have hlt:w1[j]&&&w2[j]<18446744073709551616:=Nat.lt_of_le_of_lt Nat.and_le_left a1;refine Runs.step (V.idx rfl (kbd hq)) (Runs.vput V rfl (kbd hq) (kbt hlt) fun h1 V1 u1=>?_);rw[kq (by omega)];refine ih (j+1) (by omega) h1 _ (g.updr hi u1) (B1.updr i1 u1) (B2.updr i2 u1) ⟨cs,hcs,B3.updr i3 u1⟩ (B4.updr i4 u1) V1 (by rw[List.length_set];exact hw) fun m hm'=>?_;rw[kjn hq];split
  ·rename_i hmj;subst hmj;rw[Nat.testBit_and];unfold wbit;simp[List.getD,j1,j2]
  ·exact hm m (by omega)
end
end Go.Ab

/- squeezed -/
set_option maxRecDepth 10000
namespace Go.Ab
open Go.Proofs
theorem kf8{t:Tb}(h:tabR t=true):t.ids.length≤256∧t.cols.length≤16∧t.bins.length=t.cols.length∧∀i,i<t.cols.length→colR t i=true:=by
 unfold tabR idsR at h;simp only[Bool.and_eq_true,decide_eq_true_eq,List.all_eq_true,List.mem_range,Bool.not_eq_true',decide_eq_false_iff_not]at h;exact⟨h.1.1.1.1,by omega,h.1.2,h.2⟩
theorem kgu{t:Tb}{i:Nat}(h:colR t i=true)(hi:i<t.cols.length)(hb:t.bins.length=t.cols.length):∃hb':i<t.bins.length,2≤t.bins[i]∧t.bins[i]≤32∧t.cols[i].length=t.ids.length:=by
 unfold colR at h;have hb':i<t.bins.length:=by omega
 simp only[Bool.and_eq_true,decide_eq_true_eq,Bool.not_eq_true',decide_eq_false_iff_not,List.getD,List.getElem?_eq_getElem hi,List.getElem?_eq_getElem hb',Option.getD_some]at h;exact⟨hb',by omega,by omega,h.1.2⟩
def leftP(t:Tb)(f:Nat)(c:Int)(i:Nat):Bool:=decide ((t.cols.getD f []).getD i 0≤c)
def leftR(t:Tb)(f:Nat)(c:Int):List Nat:=(List.range t.ids.length).filter (leftP t f c)
section
variable{h0:AH}{S:Fp}{s1 s2 s3:Sl}{t:Tb}
theorem k5u{s:Sl}{f:Nat}{c:Int}(hf:f<t.cols.length)(hc:t.cols[f].length=t.ids.length)(hids:t.ids.length≤256)(q:Sq EI h0 S s t.cols[f]){b1 b2:Nat}{cs2:List AV}(n1:Sq EI h0 S s1 t.ids)(B1:h0.has b1 [s1.v,s2.v,s3.v] T.kbi)(B2:h0.has b2 [.int .i64 0,(⟨none,0,.is 0⟩:Sl).v] T.kw){ha:AH}(ga:Grow ha h0)(hb2:ha.blks.size≤b2):∀(k i:Nat),i+k=t.ids.length→∀(h:AH)(x:Sl)(j:Option Nat),Grow h0 h→LeO h0.blks.size j→GF EI T.int h Fp.no x j (zs ((List.range i).filter (leftP t f c)))→
  Runs (go (.pt F.kfq Td.kio [(2,.int .i64 c),(3,.ptr (some (.new b1 0))),(6,.ptr (some (.new b2 0))),(8,x.v),(44,s.v),(45,.int .i64 (t.ids.length:Int)),(46,.int .i64 (i:Int))]) h) fun v h'=>Grow ha h'∧∃(y:Sl)(w:List Nat),v=.tup [.agg [.int .i64 (t.ids.length:Int),y.v],.int .i64 0]∧Nats h' y w∧Own ha y∧w.length=(t.ids.length+63)/64∧∀m,wbit w m=decide (m∈leftR t f c):=by
 intro k
 induction k with
 | zero =>
  intro i hi h x j g lj V;obtain rfl:i=t.ids.length:=by omega
  rw[kwo];refine Runs.ifF (decide_eq_false (by omega)) (Runs.step ((g.has B1).rd 0 rfl (asSl_v _)) ?_);rw[n1.len];refine(k53 (S:=Fp.or (Fp.opt j) Fp.no) (l:=leftR t f c) (n:=t.ids.length) V.sq (fun y hy=>?_) (by omega)).call fun v h1 ⟨g1,y,w,e,N,hw,o,hm⟩=>?_
  ·unfold leftR at hy;rw[List.mem_filter,List.mem_range]at hy;exact hy.1
  subst e;refine Runs.step rfl (Runs.step rfl (Runs.ifT rfl (Runs.step rfl (Runs.step (seenAt rfl (asSl_v _)) (Runs.step rfl ?_)))));dsimp only;have hlt:=(g.has B2).lt;refine Runs.puts (g1.has (g.has B2)) rfl fun h2 b2' u2=>Runs.step (b2'.rd 0 rfl (kb _ _)) (Runs.step (b2'.rd 1 rfl (asSl_v _)) (Runs.ret ⟨?_,y,w,rfl,N.updr o hlt u2,?_,hw,hm⟩))
  ·exact((ga.trans g).trans g1).updr hb2 u2
  ·exact o.of_le (ga.trans g)
 | succ k ih =>
  intro i hi h x j g lj V;have hi':i<t.cols[f].length:=by omega
  obtain⟨r,e1,e2⟩:=(q.grow g).int hi';rw[q.len,hc]at e1;rw[kwo]
  have hp:leftP t f c i=decide (t.cols[f][i]≤c):=by
   unfold leftP;simp[List.getD,hf,hi']
  have hr:(List.range (i+1)).filter (leftP t f c)=(List.range i).filter (leftP t f c)++if leftP t f c i then [i]else []:=by
   rw[List.range_succ,List.filter_append];cases hq:leftP t f c i<;>simp[hq]
  have hlen:(zs ((List.range i).filter (leftP t f c))).length≤i:=by
   rw[zs_len];exact Nat.le_trans (List.length_filter_le _ _) (by simp)
  refine Runs.ifT (decide_eq_true (by omega)) ?_;rw[q.len,hc];refine Runs.step e1 (Runs.step e2 (Runs.cond (fun k1=>?_) fun k1=>?_))
  ·refine Runs.new fun h2 b2 g2=>?_;refine Runs.step (kc2 b2 (by rw[kew];rfl)) ?_;have V2:=V.grow g2;obtain⟨y,h3,e3,V3,u3⟩:=V2.push (T:=Fp.no) (cs:=[.int .i64 (i:Int)]) (x:=(i:Int)) rfl NotO.no (kjw (by omega));refine Runs.step e3 (Runs.step (asSl_v _) ?_);rw[kq (by omega)];refine ih (i+1) (by omega) h3 y (some h2.blks.size) ((g.trans g2).updo lj u3) (show _≤_ from(g.trans g2).size) ?_;rw[hr,hp,k1,if_pos rfl,zs_app];exact V3.mono (fun j x=>x.1.elim id id) NotO.no
  ·rw[kq (by omega)];refine ih (i+1) (by omega) h x j g lj ?_;rw[hr,hp,k1]
   simpa using V
theorem k43(n:TabAt h0 S s1 s2 s3 t)(hR:tabR t=true){f c:Nat}(hf:f<t.cols.length)(hc:(c:Int)<t.bins.getD f 0):Runs (go (.fn F.kfq [.agg [s1.v,s2.v,s3.v],.int .i64 (f:Int),.int .i64 (c:Int)]) h0) fun v h'=>Grow h0 h'∧∃(y:Sl)(w:List Nat),v=.tup [.agg [.int .i64 (t.ids.length:Int),y.v],.int .i64 0]∧Nats h' y w∧Own h0 y∧w.length=(t.ids.length+63)/64∧∀m,wbit w m=decide (m∈leftR t f (c:Int)):=by
 obtain⟨hids,hcols,hbins,hall⟩:=kf8 hR;obtain⟨hb,h2,h32,hcl⟩:=kgu (hall f hf) hf hbins;rw[kbb4];refine Runs.new fun h1 b1 g1=>Runs.new fun h2 b2 g2=>?_;have B1:=g2.has b1;refine Runs.step (B1.rd 0 rfl (asSl_v _)) (Runs.step (B1.rd 1 rfl (asSl_v _)) (Runs.step (B1.rd 2 rfl (asSl_v _)) ?_));refine(kt5 (n.grow (g1.trans g2))).call fun v h3 ⟨e,g3⟩=>?_;subst e;rw[hR];refine Runs.step (seen rfl) (Runs.ifF rfl (Runs.ifF (decide_eq_false (by omega)) ?_));have G3:Grow h0 h3:=(g1.trans g2).trans g3;have B1':=g3.has B1;refine Runs.step (B1'.rd 2 rfl (asSl_v _)) ?_;rw[n.cols.len];refine Runs.ifF (decide_eq_false (by omega)) (Runs.ifF (decide_eq_false (by omega)) (Runs.step (B1'.rd 1 rfl (asSl_v _)) ?_));obtain⟨r,e1,e2⟩:=(n.bins.grow G3).int hb;have hgd:t.bins.getD f 0=t.bins[f]:=by simp[List.getD,hb]
 rw[hgd]at hc;refine Runs.step e1 (Runs.step e2 (Runs.ifF (decide_eq_false (by omega)) (Runs.step (B1'.rd 2 rfl (asSl_v _)) ?_)));obtain⟨r2,s',e3,e4,-,q⟩:=(n.cols.grow G3).sl hf;refine Runs.step e3 (Runs.step e4 ?_);rw[q.len,hcl];have s1':=b1.lt;exact k5u (cs2:=[]) hf hcl hids q ((n.grow G3).ids) B1' (g3.has b2) G3 (by have:=g1.size;omega) t.ids.length 0 (by omega) h3 _ none (Grow.refl h3) trivial (GF.none _ _ _ _)
end
end Go.Ab

/- squeezed -/
set_option maxRecDepth 10000
namespace Go.Ab
open Go.Proofs
def nb(t:Tb)(f:Nat):Nat:=(t.bins.getD f 0).toNat-1
def cutsTo(t:Tb)(f:Nat):List (Nat×Nat):=(List.range f).flatMap fun f=>(List.range (nb t f)).map fun c=>(f,c)
theorem ks0(t:Tb)(f:Nat):cutsTo t (f+1)=cutsTo t f++(List.range (nb t f)).map fun c=>(f,c):=by
 unfold cutsTo;rw[List.range_succ,List.flatMap_append];simp
theorem kok(t:Tb):∀f:Nat,(∀i,i<f→nb t i≤31)→(cutsTo t f).length≤31*f
 | 0,_=>by simp[cutsTo]
 | f+1,h=>by
  rw[ks0,List.length_append,List.length_map,List.length_range];have:=kok t f fun i hi=>h i (by omega);have:=h f (by omega);omega
section
variable{S:Fp}{s1 s2 s3 s:Sl}{t:Tb}{n:Int}{w:List Nat}{l b1 b2:Nat}
structure EachOk(S:Fp)(s1 s2 s3 s:Sl)(t:Tb)(n:Int)(w:List Nat)(b1 b2:Nat)(h:AH):Prop where
 tab:Tab h
 at':TabAt h S s1 s2 s3 t
 nats:Nats h s w
 has1:h.has b1 [s1.v,s2.v,s3.v] T.kbi
 has2:h.has b2 [.int .i64 n,s.v] T.kw
theorem EachOk.grow{h h':AH}(e:EachOk S s1 s2 s3 s t n w b1 b2 h)(g:Grow h h'):EachOk S s1 s2 s3 s t n w b1 b2 h':=⟨e.tab.grow g,e.at'.grow g,e.nats.grow g,g.has e.has1,g.has e.has2⟩
end
end Go.Ab

/- squeezed -/
set_option maxRecDepth 10000
namespace Go.Ab
open Go.Proofs
@[reducible] def EP:Ef (Int×Int):=Ef.pair EI EI
theorem EP.of{h:AH}{S:Fp}(a b:Int):EP.has h S [.int .i64 a,.int .i64 b] (a,b):=⟨[.int .i64 a],[.int .i64 b],rfl,rfl,rfl⟩
theorem Sq.two{h:AH}{S:Fp}{s:Sl}{xs:List (Int×Int)}(n:Sq EP h S s xs){i:Nat}(hi:i<xs.length):∃r:Ref,idx s.ref s.len (i:Int) 2=some r∧(h.cell (r.add 0)).bind (AV.asInt .i64)=some xs[i].1∧(h.cell (r.add 1)).bind (AV.asInt .i64)=some xs[i].2:=by
 obtain⟨r,cs,e1,⟨c1,c2,rfl,a1,a2⟩,l⟩:=n.at (kee hi);have a1:c1=[.int .i64 xs[i].1]:=a1;have a2:c2=[.int .i64 xs[i].2]:=a2;subst a1;subst a2;rw[n.len];exact⟨r,e1,l.rd (Grow.refl _) 0 rfl (kb _ _),l.rd (Grow.refl _) 1 rfl (kb _ _)⟩
structure Lp{α:Type}(E:Ef α)(elem tl:TypeId)(note:LoopState→ABlk)(hs:AH)(bo l:Nat)(xs:List α)(h:AH):Prop where
 md:Md (fun m=>m=bo∨m=l) hs h
 note:h.blks[l]?=some (note .ready)
 out:∃(t:Sl)(j:Option Nat),h.has bo [t.v] tl∧LeO hs.blks.size j∧GF E elem h Fp.no t j xs
section
variable{α:Type}{E:Ef α}{elem tl:TypeId}{note:LoopState→ABlk}{hs h:AH}{bo l:Nat}{xs:List α}
theorem Lp.grow{h':AH}(L:Lp E elem tl note hs bo l xs h)(g:Grow h h'):Lp E elem tl note hs bo l xs h' :=
 ⟨L.md.thenG g,(g.blk l (Array.getElem?_eq_some_iff.1 L.note).1).trans L.note,L.out.imp fun _ ⟨j,B,lj,V⟩=>⟨j,g.has B,lj,V.grow g⟩⟩
theorem Lp.next{xs ys:List α}{h h1 h':AH}{j:Option Nat}(m1:Md (fun m=>m=bo∨m=l) hs h1)(lj:LeO hs.blks.size j)(m2:Md (fun m=>m=bo∨m=l∨j=some m) h1 h')(hn:h'.blks[l]?=some (note .ready))(o:∃(t:Sl)(j:Option Nat),h'.has bo [t.v] tl∧LeO hs.blks.size j∧GF E elem h' Fp.no t j ys):Lp E elem tl note hs bo l ys h' :=
 ⟨m1.next m2 fun m hm t=>t.elim .inl fun t=>t.elim .inr fun e=>absurd rfl (kly hm lj _ e),hn,o⟩
end
theorem EachOk.md{S T:Fp}{s1 s2 s3 s:Sl}{t:Tb}{n:Int}{w:List Nat}{b1 b2:Nat}{h h':AH}(e:EachOk S s1 s2 s3 s t n w b1 b2 h)(m:Md T h h')(d:Dis S T)(dn:∀j,¬Av s j w→S j)(n1:¬T b1)(n2:¬T b2):EachOk S s1 s2 s3 s t n w b1 b2 h' :=
 ⟨e.tab.md m,e.at'.md m d,e.nats.mdE dn m d,m.has e.has1 n1,m.has e.has2 n2⟩
theorem TabAt.bound{h:AH}{S:Fp}{s1 s2 s3:Sl}{t:Tb}(n:TabAt h S s1 s2 s3 t):TabAt h (Fp.below h.blks.size) s1 s2 s3 t :=
 ⟨n.ids.bound.mono fun _ x=>x.2,n.bins.bound.mono fun _ x=>x.2,n.cols.bound.mono fun _ x=>x.2⟩
section
variable{h0:AH}{S:Fp}{s1 s2 s3:Sl}{t:Tb}
end
end Go.Ab

/- squeezed -/
set_option maxRecDepth 10000
namespace Go.Ab
open Go.Proofs
def sumG(g:List Int)(l:List Nat)(a:Int):Int:=l.foldl (fun a i=>IntKind.wrap .i64 (a+g.getD i 0)) a
section
variable{h0:AH}{S:Fp}{s1 s2 s3 s u:Sl}{t:Tb}{n:Int}{w:List Nat}{g:List Int}
end
end Go.Ab

/- squeezed -/
set_option maxRecDepth 10000
namespace Go.Ab
open Go.Proofs
section
variable{h0:AH}{S:Fp}{s1 s2 s3 s u:Sl}{t:Tb}{n:Int}{w:List Nat}{g:List Int}
end
end Go.Ab

/- squeezed -/
set_option maxRecDepth 10000
namespace Go.Ab
open Go.Proofs
theorem ofP_bt{n:Nat}{w l:List Nat}(hn:n≤65536)(hl:∀x∈l,x<n)(hw:w.length=(n+63)/64)(hm:∀m,wbit w m=decide (m∈l)):btR (n:Int) w=true∧btL (n:Int) w=(List.range n).filter fun i=>decide (i∈l):=by
 have hov:∀i,n≤i→wbit w i=false:=fun i hi=>by
  rw[hm,decide_eq_false];intro h;have:=hl i h;omega
 have hR:btR (n:Int) w=true:=btR_of (by omega) (by omega) (by rw[Int.toNat_natCast];exact hw) fun i _ hi=>hov i (by rw[Int.toNat_natCast]at hi;exact hi);refine⟨hR,?_⟩;unfold btL;rw[hR,if_pos rfl,Int.toNat_natCast];apply List.filter_congr;intro i hi;rw[hm]
section
variable{h0:AH}{S:Fp}{s s1 s2 s3:Sl}{t:Tb}
variable{w1 w2:List Nat}
end
end Go.Ab

/- squeezed -/
set_option maxRecDepth 10000
namespace Go.Ab
open Go.Proofs
def SetN(h0:AH)(z:Nat)(R:List Nat)(v:AV)(h':AH):Prop:=Grow h0 h'∧∃(t:Sl)(w:List Nat)(e:Int),v=.tup [.agg [.int .i64 (z:Int),t.v],.int .i64 e]∧Nats h' t w∧Own h0 t∧btR (z:Int) w=true∧btL (z:Int) w=R
def bclr(a b:Nat):Nat:=(BitVec.ofNat 64 a&&&~~~ BitVec.ofNat 64 b).toNat
theorem kwv(a b:Nat):bclr a b<18446744073709551616:=(BitVec.ofNat 64 a&&&~~~ BitVec.ofNat 64 b).isLt
theorem k0q{a b i:Nat}(hi:i<64):(bclr a b).testBit i=(a.testBit i&&!b.testBit i):=by
 unfold bclr;rw[BitVec.testBit_toNat,BitVec.getLsbD_and,BitVec.getLsbD_not,BitVec.getLsbD_ofNat,BitVec.getLsbD_ofNat];simp[hi]
theorem k8p{a b:Nat}:khs .u64 (a:Int) (b:Int)=((bclr a b:Nat):Int):=by
 unfold khs;rw[show IntKind.bits .u64=64 from rfl,wrapU];have e1:BitVec.ofInt 64 (a:Int)=BitVec.ofNat 64 a:=rfl;have e2:BitVec.ofInt 64 (b:Int)=BitVec.ofNat 64 b:=rfl;rw[e1,e2];have:=kwv a b;unfold bclr at this⊢;omega
section
variable{h0:AH}{s1 s2:Sl}{w1 w2:List Nat}
theorem k79{n1:Int}(N1:Nats h0 s1 w1)(N2:Nats h0 s2 w2)(hl:w1.length=w2.length)(hs:w1.length≤2000){b1 b2 b3 b4 i:Nat}{t:Sl}{x1 x2:Int}(i1:b1≠i)(i2:b2≠i)(i3:b3≠i)(i4:b4≠i)(h3:h0.blks.size≤b3)(hi:h0.blks.size≤i):∀(k j:Nat),j+k=w1.length→∀(h:AH)(w:List Nat),Grow h0 h→h.has b1 [.int .i64 x1,s1.v] T.kw→h.has b2 [.int .i64 x2,s2.v] T.kw→(∃cs:List AV,cs.length=2∧h.has b3 cs T.kw)→h.has b4 [.int .i64 n1,t.v] T.kw→Vec h t i w→w.length=w1.length→(∀m,m/64<j→wbit w m=(wbit w1 m&&!wbit w2 m))→
  Runs (go (.pt F.kcu Td.kft [(2,.func (.func F.ke2) [] []),(3,.ptr (some (.new b1 0))),(4,.ptr (some (.new b2 0))),(6,.ptr (some (.new b3 0))),(8,.ptr (some (.new b4 0))),(9,.int .i64 0),(35,.int .i64 (w1.length:Int)),(36,.int .i64 (j:Int))]) h) fun v h'=>Grow h0 h'∧∃(t:Sl)(w:List Nat),v=.tup [.agg [.int .i64 n1,t.v],.int .i64 0]∧Nats h' t w∧w.length=w1.length∧Own h0 t∧∀m,wbit w m=(wbit w1 m&&!wbit w2 m):=by
 intro k
 induction k with
 | zero =>
  intro j hj h w g B1 B2 ⟨cs,hcs,B3⟩ B4 V hw hm;obtain rfl:j=w1.length:=by omega
  rw[ktp];refine Runs.ifF (decide_eq_false (by omega)) (Runs.step (B4.rd 0 rfl (kb _ _)) (Runs.step (B4.rd 1 rfl (asSl_v _)) ?_));refine Runs.puts B3 (by rw[hcs];rfl) fun h1 B5 u1=>?_;refine Runs.step (B5.rd 0 rfl (kb _ _)) (Runs.step (B5.rd 1 rfl (asSl_v _)) (Runs.ret ⟨g.updr h3 u1,t,w,rfl,(V.updr (fun e=>i3 e.symm) u1).nats,hw,V.own hi,fun m=>?_⟩));rcases Nat.lt_or_ge (m/64) w1.length with h' | h'
  ·exact hm m h'
  ·rw[kjs (by omega),kjs (w:=w1) h'];rfl
 | succ k ih =>
  intro j hj h w g B1 B2 ⟨cs,hcs,B3⟩ B4 V hw hm;have j1:j<w1.length:=by omega
  have j2:j<w2.length:=by omega
  obtain⟨r1,e1,e2⟩:=(N1.grow g).rdN j1;obtain⟨r2,e3,e4⟩:=(N2.grow g).rdN j2;rw[ktp];refine Runs.ifT (decide_eq_true (by omega)) (Runs.step (B4.rd 1 rfl (asSl_v _)) (Runs.step (B1.rd 1 rfl (asSl_v _)) (Runs.step e1 (Runs.step e2 (Runs.step (B2.rd 1 rfl (asSl_v _)) (Runs.step e3 (Runs.step e4 ?_)))))));refine Runs.step (k9v _ _ _) (Runs.step (seen rfl) ?_);rw[k8p];refine Runs.when ((Grow.refl h).same B4 1 1) ?_;rw[V.len];have hq:j<w.length:=by omega
  refine Runs.step (V.idx rfl (kbd hq)) (Runs.vput V rfl (kbd hq) (kbt (kwv _ _)) fun h1 V1 u1=>?_);rw[kq (by omega)];refine ih (j+1) (by omega) h1 _ (g.updr hi u1) (B1.updr i1 u1) (B2.updr i2 u1) ⟨cs,hcs,B3.updr i3 u1⟩ (B4.updr i4 u1) V1 (by rw[List.length_set];exact hw) fun m hm'=>?_;rw[kjn hq];split
  ·rename_i hmj;subst hmj;rw[k0q (Nat.mod_lt _ (by decide))];unfold wbit;simp[List.getD,j1,j2]
  ·exact hm m (by omega)
theorem and_ok{z:Nat}(N1:Nats h0 s1 w1)(N2:Nats h0 s2 w2)(c:btR (z:Int) w1=true)(c2:btR (z:Int) w2=true):Runs (go (.fn F.kcu [.agg [.int .i64 (z:Int),s1.v],.agg [.int .i64 (z:Int),s2.v],.func (.func F.keg) [] []]) h0) (SetN h0 z ((btL (z:Int) w1).filter (wbit w2))):=by
 rw[k4e];refine Runs.new fun h1 b1 g1=>Runs.new fun h2 b2 g2=>Runs.new fun h3 b3 g3=>?_;have B1:=g3.has (g2.has b1);have B2:=g3.has b2;have G3:Grow h0 h3:=(g1.trans g2).trans g3;have s1':h0.blks.size<h1.blks.size:=b1.lt;have s2':h1.blks.size<h2.blks.size:=b2.lt;have s3':h2.blks.size<h3.blks.size:=b3.lt;refine Runs.step (B1.rd 0 rfl (kb _ _)) (Runs.step (B1.rd 1 rfl (asSl_v _)) ?_);refine(kj9 (N1.grow G3)).call fun v h4 ⟨e,g4⟩=>?_;subst e;refine Runs.step (seen rfl) (Runs.ifF (by rw[c];rfl) ?_);have B2':=g4.has B2;refine Runs.step (B2'.rd 0 rfl (kb _ _)) (Runs.step (B2'.rd 1 rfl (asSl_v _)) ?_);refine(kj9 (N2.grow (G3.trans g4))).call fun v h5 ⟨e,g5⟩=>?_;subst e;have g35:Grow h3 h5:=g4.trans g5;refine Runs.step (seen rfl) (Runs.ifF (by rw[c2];rfl) ?_);refine Runs.step ((g35.has B1).rd 0 rfl (kb _ _)) (Runs.step ((g35.has B2).rd 0 rfl (kb _ _)) (Runs.ifF (by rw[decide_eq_true rfl];rfl) ?_));obtain⟨p0,p1,p2,p3⟩:=btR_n c;obtain⟨-,-,q2,q3⟩:=btR_n c2;rw[Int.toNat_natCast]at p2 q2 p3 q3;refine Runs.step ((g35.has B1).rd 0 rfl (kb _ _)) ?_;refine(kky (n:=z) (by omega)).call fun v h6 ⟨g6,t,i,e,hi,V⟩=>?_;have hi:h5.blks.size≤i:=hi;subst e;refine Runs.step rfl (Runs.step rfl (Runs.ifT rfl (Runs.step rfl (Runs.step (seenAt rfl (asSl_v _)) (Runs.step rfl ?_)))));dsimp only;refine Runs.new fun h7 b7 g7=>Runs.puts b7 rfl fun h8 b8 u8=>Runs.step (b8.rd 1 rfl (asSl_v _)) ?_;have s6:i<h6.blks.size:=V.inn;have s5:h3.blks.size≤h5.blks.size:=g35.size;have s6':h5.blks.size≤h6.blks.size:=g6.size;have g38:Grow h3 h8:=((g35.trans g6).trans g7).updr (by omega) u8;have V8:Vec h8 t i (List.replicate ((z+63)/64) 0):=(V.grow g7).updr (by omega) u8;rw[V8.len,List.length_replicate,← p2];have:=kbb0 (n1:=(z:Int)) (x1:=(z:Int)) (x2:=(z:Int)) N1 N2 (by omega) (by omega) (b1:=h0.blks.size) (b2:=h1.blks.size) (b3:=h2.blks.size) (b4:=h6.blks.size) (i:=i) (t:=t) (by omega) (by omega) (by omega) (by omega) (by omega) (by omega) w1.length 0 (by omega) h8 _ (G3.trans g38) (g38.has B1) (g38.has B2) ⟨_,rfl,g38.has b3⟩ b8 V8 (by rw[List.length_replicate,p2]) (fun m hm=>absurd hm (Nat.not_lt_zero _));refine this.imp fun v h' ⟨g,t',w,e,N,hw,o,hm⟩=>⟨g,t',w,0,e,N,o,?_⟩
 have hR:btR (z:Int) w=true:=btR_of p0 p1 (by rw[Int.toNat_natCast];omega) fun m hm1 hm2=>by
  rw[hm,p3 m (by omega) hm2];rfl
 refine⟨hR,?_⟩;unfold btL;rw[hR,c,Int.toNat_natCast];simp only[if_true,List.filter_filter];apply List.filter_congr;intro x _;rw[hm,Bool.and_comm]
theorem k6i{z:Nat}(N1:Nats h0 s1 w1)(N2:Nats h0 s2 w2)(c:btR (z:Int) w1=true)(c2:btR (z:Int) w2=true):Runs (go (.fn F.kqc [.agg [.int .i64 (z:Int),s1.v],.agg [.int .i64 (z:Int),s2.v]]) h0) (SetN h0 z ((btL (z:Int) w1).filter (wbit w2))):=by
 rw[k9u];refine Runs.new fun h1 b1 g1=>Runs.new fun h2 b2 g2=>Runs.new fun h3 b3 g3=>?_;have B1:=g3.has (g2.has b1);have B2:=g3.has b2;have G3:Grow h0 h3:=(g1.trans g2).trans g3;refine Runs.step (B1.rd 0 rfl (kb _ _)) (Runs.step (B1.rd 1 rfl (asSl_v _)) (Runs.step (B2.rd 0 rfl (kb _ _)) (Runs.step (B2.rd 1 rfl (asSl_v _)) ?_)));refine(and_ok (N1.grow G3) (N2.grow G3) c c2).call fun v h4 ⟨g4,t,w,e,he,N,ho,hr,hb⟩=>?_;subst he;refine Runs.step rfl (Runs.step rfl (Runs.ifT rfl (Runs.step rfl (Runs.step (seenAt rfl (asSl_v _)) (Runs.step rfl ?_)))));dsimp only;have s1:h0.blks.size<h1.blks.size:=b1.lt;have s2:h1.blks.size<h2.blks.size:=b2.lt;refine Runs.puts (g4.has b3) rfl fun h5 b5 u5=>Runs.step (b5.rd 0 rfl (kb _ _)) (Runs.step (b5.rd 1 rfl (asSl_v _)) (Runs.ret ⟨(G3.trans g4).updr (by omega) u5,t,w,e,rfl,N.updr ho b3.lt u5,ho.of_le G3,hr,hb⟩))
theorem k4v{z:Nat}(N1:Nats h0 s1 w1)(N2:Nats h0 s2 w2)(c:btR (z:Int) w1=true)(c2:btR (z:Int) w2=true):Runs (go (.fn F.kcu [.agg [.int .i64 (z:Int),s1.v],.agg [.int .i64 (z:Int),s2.v],.func (.func F.ke2) [] []]) h0) (SetN h0 z ((btL (z:Int) w1).filter fun i=>!wbit w2 i)):=by
 rw[k8e];refine Runs.new fun h1 b1 g1=>Runs.new fun h2 b2 g2=>Runs.new fun h3 b3 g3=>?_;have B1:=g3.has (g2.has b1);have B2:=g3.has b2;have G3:Grow h0 h3:=(g1.trans g2).trans g3;have s1':h0.blks.size<h1.blks.size:=b1.lt;have s2':h1.blks.size<h2.blks.size:=b2.lt;have s3':h2.blks.size<h3.blks.size:=b3.lt;refine Runs.step (B1.rd 0 rfl (kb _ _)) (Runs.step (B1.rd 1 rfl (asSl_v _)) ?_);refine(kj9 (N1.grow G3)).call fun v h4 ⟨e,g4⟩=>?_;subst e;refine Runs.step (seen rfl) (Runs.ifF (by rw[c];rfl) ?_);have B2':=g4.has B2;refine Runs.step (B2'.rd 0 rfl (kb _ _)) (Runs.step (B2'.rd 1 rfl (asSl_v _)) ?_);refine(kj9 (N2.grow (G3.trans g4))).call fun v h5 ⟨e,g5⟩=>?_;subst e;have g35:Grow h3 h5:=g4.trans g5;refine Runs.step (seen rfl) (Runs.ifF (by rw[c2];rfl) ?_);refine Runs.step ((g35.has B1).rd 0 rfl (kb _ _)) (Runs.step ((g35.has B2).rd 0 rfl (kb _ _)) (Runs.ifF (by rw[decide_eq_true rfl];rfl) ?_));obtain⟨p0,p1,p2,p3⟩:=btR_n c;obtain⟨-,-,q2,q3⟩:=btR_n c2;rw[Int.toNat_natCast]at p2 q2 p3 q3;refine Runs.step ((g35.has B1).rd 0 rfl (kb _ _)) ?_;refine(kky (n:=z) (by omega)).call fun v h6 ⟨g6,t,i,e,hi,V⟩=>?_;have hi:h5.blks.size≤i:=hi;subst e;refine Runs.step rfl (Runs.step rfl (Runs.ifT rfl (Runs.step rfl (Runs.step (seenAt rfl (asSl_v _)) (Runs.step rfl ?_)))));dsimp only;refine Runs.new fun h7 b7 g7=>Runs.puts b7 rfl fun h8 b8 u8=>Runs.step (b8.rd 1 rfl (asSl_v _)) ?_;have s6:i<h6.blks.size:=V.inn;have s5:h3.blks.size≤h5.blks.size:=g35.size;have s6':h5.blks.size≤h6.blks.size:=g6.size;have g38:Grow h3 h8:=((g35.trans g6).trans g7).updr (by omega) u8;have V8:Vec h8 t i (List.replicate ((z+63)/64) 0):=(V.grow g7).updr (by omega) u8;rw[V8.len,List.length_replicate,← p2];have:=k79 (n1:=(z:Int)) (x1:=(z:Int)) (x2:=(z:Int)) N1 N2 (by omega) (by omega) (b1:=h0.blks.size) (b2:=h1.blks.size) (b3:=h2.blks.size) (b4:=h6.blks.size) (i:=i) (t:=t) (by omega) (by omega) (by omega) (by omega) (by omega) (by omega) w1.length 0 (by omega) h8 _ (G3.trans g38) (g38.has B1) (g38.has B2) ⟨_,rfl,g38.has b3⟩ b8 V8 (by rw[List.length_replicate,p2]) (fun m hm=>absurd hm (Nat.not_lt_zero _));refine this.imp fun v h' ⟨g,t',w,e,N,hw,o,hm⟩=>⟨g,t',w,0,e,N,o,?_⟩
 have hR:btR (z:Int) w=true:=btR_of p0 p1 (by rw[Int.toNat_natCast];omega) fun m hm1 hm2=>by
  rw[hm,p3 m (by omega) hm2];rfl
 refine⟨hR,?_⟩;unfold btL;rw[hR,c,Int.toNat_natCast];simp only[if_true,List.filter_filter];apply List.filter_congr;intro x _;rw[hm,Bool.and_comm]
theorem k4l{z:Nat}(N1:Nats h0 s1 w1)(N2:Nats h0 s2 w2)(c:btR (z:Int) w1=true)(c2:btR (z:Int) w2=true):Runs (go (.fn F.kov [.agg [.int .i64 (z:Int),s1.v],.agg [.int .i64 (z:Int),s2.v]]) h0) (SetN h0 z ((btL (z:Int) w1).filter fun i=>!wbit w2 i)):=by
 rw[kyp];refine Runs.new fun h1 b1 g1=>Runs.new fun h2 b2 g2=>Runs.new fun h3 b3 g3=>?_;have B1:=g3.has (g2.has b1);have B2:=g3.has b2;have G3:Grow h0 h3:=(g1.trans g2).trans g3;refine Runs.step (B1.rd 0 rfl (kb _ _)) (Runs.step (B1.rd 1 rfl (asSl_v _)) (Runs.step (B2.rd 0 rfl (kb _ _)) (Runs.step (B2.rd 1 rfl (asSl_v _)) ?_)));refine(k4v (N1.grow G3) (N2.grow G3) c c2).call fun v h4 ⟨g4,t,w,e,he,N,ho,hr,hb⟩=>?_;subst he;refine Runs.step rfl (Runs.step rfl (Runs.ifT rfl (Runs.step rfl (Runs.step (seenAt rfl (asSl_v _)) (Runs.step rfl ?_)))));dsimp only;have s1:h0.blks.size<h1.blks.size:=b1.lt;have s2:h1.blks.size<h2.blks.size:=b2.lt;refine Runs.puts (g4.has b3) rfl fun h5 b5 u5=>Runs.step (b5.rd 0 rfl (kb _ _)) (Runs.step (b5.rd 1 rfl (asSl_v _)) (Runs.ret ⟨(G3.trans g4).updr (by omega) u5,t,w,e,rfl,N.updr ho b3.lt u5,ho.of_le G3,hr,hb⟩))
theorem k0b{n:Nat}(hn:n≤65536){b1 b4 i:Nat}{t:Sl}(i1:b1≠i)(i4:b4≠i)(h1b:h0.blks.size≤b1)(hi:h0.blks.size≤i):∀(k j:Nat),j+k=(n+63)/64→∀(h:AH)(w:List Nat),Grow h0 h→h.has b1 [.int .i64 0,(⟨none,0,.is 0⟩:Sl).v] T.kw→h.has b4 [.int .i64 (n:Int),t.v] T.kw→Vec h t i w→w.length=(n+63)/64→(∀m,m/64<j→wbit w m=decide (m<n))→
  Runs (go (.pt F.kfb Td.ki4 [(0,.int .i64 (n:Int)),(2,.ptr (some (.new b1 0))),(4,.ptr (some (.new b4 0))),(5,.int .i64 0),(15,.int .i64 (((n+63)/64:Nat):Int)),(16,.int .i64 (j:Int))]) h) (SetN h0 n (List.range n)):=by
 intro k
 induction k with
 | zero =>
  intro j hj h w g B1 B4 V hw hm;obtain rfl:j=(n+63)/64:=by omega
  rw[ku6];refine Runs.ifF (decide_eq_false (by omega)) (Runs.step (B4.rd 0 rfl (kb _ _)) (Runs.step (B4.rd 1 rfl (asSl_v _)) ?_));refine Runs.puts B1 rfl fun h1 B5 u1=>?_
  have hm':∀m,wbit w m=decide (m∈List.range n):=fun m=>by
   rw[show decide (m∈List.range n)=decide (m<n)from by rw[decide_eq_decide];exact List.mem_range];rcases Nat.lt_or_ge (m/64) ((n+63)/64)with h' | h'
   ·exact hm m h'
   ·rw[kjs (by omega),decide_eq_false (by omega)]
  obtain⟨r1,r2⟩:=ofP_bt hn (fun x hx=>List.mem_range.1 hx) hw hm';refine Runs.step (B5.rd 0 rfl (kb _ _)) (Runs.step (B5.rd 1 rfl (asSl_v _)) (Runs.ret ⟨g.updr h1b u1,t,w,0,rfl,(V.updr (fun e=>i1 e.symm) u1).nats,V.own hi,r1,?_⟩));rw[r2,List.filter_eq_self];intro x hx;exact decide_eq_true hx
 | succ k ih =>
  intro j hj h w g B1 B4 V hw hm;have hq:j<w.length:=by omega
  rw[ku6];refine Runs.ifT (decide_eq_true (by omega)) (Runs.step (B4.rd 1 rfl (asSl_v _)) ?_);rw[V.len];refine Runs.step (V.idx rfl (kbd hq)) (Runs.vput V rfl (kbd hq) (kbt (n:=18446744073709551615) (by decide)) fun h1 V1 u1=>?_);rw[wrap64 (n:=64*(j:Int)) (by omega) (by omega),wrap64 (n:=(n:Int)-64*(j:Int)) (by omega) (by omega),kq (by omega)];have b4':=B4.updr i4 u1;have b1':=B1.updr i1 u1
  have hall:∀x,x<64→(18446744073709551615:Nat).testBit x=true:=fun x hx=>by
   have:(18446744073709551615:Nat)=2^64-1:=by decide
   rw[this,Nat.testBit_two_pow_sub_one];exact decide_eq_true hx
  refine Runs.cond (fun c=>?_) fun c=>?_
  ·rw[decide_eq_true_eq]at c;have hz:∃z:Nat,(n:Int)-64*(j:Int)=(z:Int)∧z<64∧n=64*j+z:=⟨n-64*j,by omega,by omega,by omega⟩;obtain⟨z,hz,z64,hnz⟩:=hz;refine Runs.step (b4'.rd 1 rfl (asSl_v _)) (Runs.ifF (decide_eq_false (by omega)) ?_);have hq1:j<(w.set j 18446744073709551615).length:=by rw[List.length_set];exact hq
   have hpos:1≤2^z:=Nat.one_le_two_pow;have hlt:2^z<18446744073709551616:=Nat.pow_lt_pow_right (n:=64) (by decide) z64
   have hval:IntKind.wrap .u64 (ishl .u64 1 ((n:Int)-64*(j:Int))-1)=((2^z-1:Nat):Int):=by
    rw[hz,kti z64,wrapU];generalize 2^z=q at *
    omega
   rw[V1.len,hval];refine Runs.step (V1.idx rfl (kbd hq1)) (Runs.vput V1 rfl (kbd hq1) (kbt (by omega)) fun h2 V2 u2=>?_);refine ih (j+1) (by omega) h2 _ ((g.updr hi u1).updr hi u2) (b1'.updr i1 u2) (b4'.updr i4 u2) V2 (by rw[List.length_set,List.length_set];exact hw) fun m hm'=>?_;rw[kjn hq1];split
   ·rename_i hmj;rw[Nat.testBit_two_pow_sub_one,decide_eq_decide];omega
   ·rw[kjn hq,if_neg (by assumption)];exact hm m (by omega)
  ·rw[decide_eq_false_iff_not]at c;refine ih (j+1) (by omega) h1 _ (g.updr hi u1) b1' b4' V1 (by rw[List.length_set];exact hw) fun m hm'=>?_;rw[kjn hq];split
   ·rename_i hmj;rw[hall _ (Nat.mod_lt _ (by decide)),eq_comm,decide_eq_true_eq];omega
   ·exact hm m (by omega)
theorem k0w{n:Nat}(hn:n≤65536):Runs (go (.fn F.kfb [.int .i64 (n:Int)]) h0) (SetN h0 n (List.range n)):=by
 rw[k1s];refine Runs.new fun h1 b1 g1=>?_;refine(kky hn).call fun v h2 ⟨g2,t,i,e,hi,V⟩=>?_;subst e;refine Runs.step rfl (Runs.step rfl (Runs.ifT rfl (Runs.step rfl (Runs.step (seenAt rfl (asSl_v _)) (Runs.step rfl ?_)))));dsimp only;refine Runs.new fun h3 b3 g3=>Runs.puts b3 rfl fun h4 b4 u4=>Runs.step (b4.rd 1 rfl (asSl_v _)) ?_;have z1:=b1.lt;have z2:=V.inn;have z3:=g2.size;have g24:Grow h2 h4:=g3.updr (Nat.le_refl _) u4;have G4:=(g1.trans g2).trans g24;have V4:=V.grow g24;rw[V4.len,List.length_replicate];exact k0b hn (b1:=h0.blks.size) (b4:=h2.blks.size) (i:=i) (by omega) (by omega) (Nat.le_refl _) (by omega) ((n+63)/64) 0 (by omega) h4 _ G4 ((g2.trans g24).has b1) b4 V4 (by simp) (fun m hm=>absurd hm (Nat.not_lt_zero _))
end
end Go.Ab

/- squeezed -/
set_option maxRecDepth 10000
namespace Go.Ab
open Go.Proofs Go.Num
def Tb.no:Tb:=⟨[],[],[]⟩
abbrev Spl:=Nat×Nat×Nat
def kfv(p:Nat)(t:Tb):List Spl:=(cutsTo t t.cols.length).map fun x=>(p,x.1,x.2)
def kdj(ts:List Tb)(n:Nat):List Spl:=(List.range n).flatMap fun p=>kfv p (ts.getD p Tb.no)
def kbw(ts:List Tb):List Spl:=kdj ts ts.length
def leftS(ts:List Tb)(x:Spl)(i:Nat):Bool:=leftP (ts.getD x.1 Tb.no) x.2.1 (x.2.2:Int) i
def sumR(g:List Int)(R:List Nat):Int×Int:=(sumG g R 0,(R.length:Int))
def sumsS(ts:List Tb)(g:List Int)(R:List Nat):List (Int×Int):=(kbw ts).map fun x=>sumR g (R.filter (leftS ts x))
structure Wt where
 place:Nat
 deep:Nat
 rows:List Nat
def bestS(c:Cfg)(ts:List Tb)(g:List Int)(x:Wt):List Int:=if(x.deep:Int)<c.depth then(bestF c.lambda c.gamma (sumR g x.rows).1 (sumR g x.rows).2 (sumsS ts g x.rows)).1 else []
def kd0(c:Cfg)(s:Int×Int):Int:=(klh c.trees c.depth c.lambda c.gamma c.num c.den c.loss c.clip s.1 s.2).1
def addS(w:Int)(R:List Nat)(sc:List Int):List Int:=R.foldl (fun sc i=>sc.set i (IntKind.wrap .i64 (sc.getD i 0+w))) sc
def leafN(w:Int):Nd:=⟨true,w,0,0,0,0,0⟩
def splitN(x:Spl)(l r:Nat):Nd:=⟨false,0,(x.1:Int),(x.2.1:Int),(x.2.2:Int),(l:Int),(r:Int)⟩
def kidsS(ts:List Tb)(x:Wt)(s:Spl)(n:Nat):List Wt:=[⟨n,x.deep+1,x.rows.filter (leftS ts s)⟩,⟨n+1,x.deep+1,x.rows.filter fun i=>!leftS ts s i⟩]
def growS(c:Cfg)(ts:List Tb)(g:List Int):Nat→List Wt→List Nd→List Int→List Nd×List Int
 | 0,_,nodes,sc=>(nodes,sc)
 | _+1,[],nodes,sc=>(nodes,sc)
 | n+1,x::W,nodes,sc=>match bestS c ts g x with
  | []=>growS c ts g n W (nodes.set x.place (leafN (kd0 c (sumR g x.rows)))) (addS (kd0 c (sumR g x.rows)) x.rows sc)
  | b::_=>growS c ts g n (W++kidsS ts x ((kbw ts).getD b.toNat (0,0,0)) nodes.length) (nodes.set x.place (splitN ((kbw ts).getD b.toNat (0,0,0)) nodes.length (nodes.length+1))++[Nd.no,Nd.no]) sc
def firstW(n:Nat):Wt:=⟨0,0,List.range n⟩
def gradS(c:Cfg)(sc labels:List Int):List Int:=(List.range labels.length).map fun i=>(c.grad (sc.getD i 0) (labels.getD i 0)).1
def treeS(c:Cfg)(ts:List Tb)(labels sc:List Int):List Nd×List Int:=growS c ts (gradS c sc labels) 64 [firstW labels.length] [Nd.no] sc
def trainS(c:Cfg)(ts:List Tb)(labels:List Int):Nat→List (List Nd)→List Int→List (List Nd)×List Int
 | 0,m,sc=>(m,sc)
 | n+1,m,sc=>trainS c ts labels n (m++[(treeS c ts labels sc).1]) (treeS c ts labels sc).2
def oddL(l:List Int):Bool:=l.any fun x=>decide (x < -1048576)||decide (x>1048576)
def badT(ts:List Tb):Bool:=ts.any fun t=>!tabR t||(!decide (t.ids=(ts.getD 0 Tb.no).ids)||decide (t.ids.length=0))
def faultC(c:Cfg)(ts:List Tb)(labels:List Int):Int:=if !c.right then 1 else if ts.length=0 then 1 else if ts.length>16 then 1 else if badT ts then 20 else if labels.length≠(ts.getD 0 Tb.no).ids.length then 1 else if oddL labels then 1 else 0
def trainC(c:Cfg)(ts:List Tb)(labels:List Int):List (List Nd)×List Int×Int:=if faultC c ts labels=0 then((trainS c ts labels c.trees.toNat [] (List.replicate labels.length 0)).1,(trainS c ts labels c.trees.toNat [] (List.replicate labels.length 0)).2,0)else([],[],faultC c ts labels)
theorem Cfg.right_depth{c:Cfg}(h:c.right=true):1≤c.trees∧c.trees≤16∧1≤c.depth∧c.depth≤5:=by
 unfold Cfg.right at h;rw[decide_eq_true_eq]at h;omega
theorem kip{c:Cfg}{ts:List Tb}{labels:List Int}(h:faultC c ts labels=0):c.right=true∧ts≠[]∧ts.length≤16∧badT ts=false∧labels.length=(ts.getD 0 Tb.no).ids.length∧oddL labels=false:=by
 unfold faultC at h;by_cases h1:c.right=true<;>simp only[h1,Bool.not_true,Bool.not_false,Bool.false_eq_true,if_false,if_true]at h
 ·split at h
  ·cases h
  rename_i h2;split at h
  ·cases h
  split at h
  ·cases h
  rename_i h3 h4;split at h
  ·cases h
  rename_i h5;split at h
  ·cases h
  rename_i h6;exact⟨h1,fun e=>h2 (by rw[e];rfl),by omega,by simpa using h4,by simpa using h5,by simpa using h6⟩
 ·simp at h
theorem knd{ts:List Tb}(h:badT ts=false){p:Nat}(hp:p<ts.length):tabR ts[p]=true∧ts[p].ids=(ts.getD 0 Tb.no).ids∧ts[p].ids.length≠0:=by
 unfold badT at h;rw[List.any_eq_false]at h;have:=h _ (List.getElem_mem hp);simp only[Bool.or_eq_true,Bool.not_eq_true',decide_eq_true_eq,decide_eq_false_iff_not,not_or]at this;obtain⟨h1,h2,h3⟩:=this;exact⟨by simpa using h1,Classical.byContradiction fun e=>h2 e,h3⟩
theorem kvw{l G N:Int}:∀(xs:List (Int×Int))(i:Nat)(st:List Int×Fr3),(∀b∈st.1,∃j:Nat,b=(j:Int)∧j<i+xs.length)→∀b∈(bestGo l G N xs (i:Int) st).1,∃j:Nat,b=(j:Int)∧j<i+xs.length
 | [],i,st,h=>by
  rw[bestGo];exact h
 | x::xs,i,st,h=>by
  rw[bestGo];split
  ·have hst:∀b∈(kev l G N x (i:Int) st).1,∃j:Nat,b=(j:Int)∧j<(i+1)+xs.length:=by
    intro b hb
    have h':∀b∈st.1,∃j:Nat,b=(j:Int)∧j<(i+1)+xs.length:=fun b hb=>by
     obtain⟨j,e,hj⟩:=h b hb;rw[List.length_cons]at hj;exact⟨j,e,by omega⟩
    have hi:∃j:Nat,(i:Int)=(j:Int)∧j<(i+1)+xs.length:=⟨i,rfl,by omega⟩;unfold kev at hb;split at hb
    ·unfold askF at hb;split at hb
     ·rw[List.mem_singleton]at hb;rw[hb];exact hi
     ·split at hb
      ·rcases List.mem_append.1 hb with hb | hb
       ·exact h' b hb
       ·rw[List.mem_singleton]at hb;rw[hb];exact hi
      ·exact h' b hb
    ·exact h' b hb
   have:=kvw (l:=l) (G:=G) (N:=N) xs (i+1) (kev l G N x (i:Int) st) hst;intro b hb;obtain⟨j,e,hj⟩:=this b (by simpa using hb);exact⟨j,e,by rw[List.length_cons];omega⟩
  ·intro b hb;simp at hb
theorem k7j{l γ G N:Int}{xs:List (Int×Int)}:∀b∈(bestF l γ G N xs).1,∃j:Nat,b=(j:Int)∧j<xs.length:=by
 intro b hb;unfold bestF at hb;cases h1:!kbe G N<;>rw[h1]at hb
 ·cases h2:!kb4 l<;>rw[h2]at hb
  ·cases h3:decide (γ<0)<;>rw[h3]at hb
   ·cases h4:decide (γ>1048576)<;>rw[h4]at hb
    ·cases h5:decide ((xs.length:Int)>16384)<;>rw[h5]at hb
     ·obtain⟨j,e,hj⟩:=kvw xs 0 ([],gammaF γ) (fun b hb=>by cases hb) b hb;exact⟨j,e,by omega⟩
     ·cases hb
    ·cases hb
   ·cases hb
  ·cases hb
 ·cases hb
theorem k61{c:Cfg}{ts:List Tb}{g:List Int}{x:Wt}:∀b∈bestS c ts g x,∃j:Nat,b=(j:Int)∧j<(kbw ts).length:=by
 intro b hb;unfold bestS at hb;split at hb
 ·obtain⟨j,e,hj⟩:=k7j b hb;exact⟨j,e,by unfold sumsS at hj;rwa[List.length_map]at hj⟩
 ·cases hb
theorem kbb1{c:Cfg}{ts:List Tb}{g:List Int}{x:Wt}{b:Int}{bs:List Int}(h:bestS c ts g x=b::bs):(x.deep:Int)<c.depth:=by
 unfold bestS at h;split at h
 ·assumption
 ·cases h
def muW(D:Nat)(W:List Wt):Nat:=(W.map fun x=>2^(D+1-x.deep)-1).sum
theorem kkb(D:Nat)(x:Wt)(W:List Wt):muW D (x::W)=(2^(D+1-x.deep)-1)+muW D W:=by simp[muW]
theorem ku0(D:Nat)(V W:List Wt):muW D (V++W)=muW D V+muW D W:=by simp[muW]
theorem muW_le{D:Nat}:∀{W:List Wt},(∀x∈W,x.deep≤D)→W.length≤muW D W
 | [],_=>by simp[muW]
 | x::W,h=>by
  have h1:=muW_le (W:=W) fun y hy=>h y (by simp[hy]);have h2:=h x (by simp)
  have h3:2≤2^(D+1-x.deep):=by
   have:=Nat.pow_le_pow_right (n:=2) (i:=1) (j:=D+1-x.deep) (by decide) (by omega)
   simpa using this
  rw[kkb,List.length_cons];omega
theorem k6u{D n:Nat}{ts:List Tb}{x:Wt}{s:Spl}(h:x.deep<D):muW D (kidsS ts x s n)+1=2^(D+1-x.deep)-1:=by
 have h1:D+1-x.deep=(D-x.deep)+1:=by omega
 have h2:D+1-(x.deep+1)=D-x.deep:=by omega
 have h3:2≤2^(D-x.deep):=by
  have:=Nat.pow_le_pow_right (n:=2) (i:=1) (j:=D-x.deep) (by decide) (by omega)
  simpa using this
 unfold kidsS;rw[kkb,kkb,h2,h1,Nat.pow_succ];simp only[muW,List.map_nil,List.sum_nil];omega
structure GrowOk(D n:Nat)(N:Nat)(W:List Wt)(nodes:List Nd):Prop where
 mu:muW D W≤n
 deep:∀x∈W,x.deep≤D
 rows:∀x∈W,x.rows.Sublist (List.range N)
 place:∀(i:Nat)(hi:i<W.length),W[i].place+W.length=nodes.length+i
 size:nodes.length+muW D W≤W.length+(2^(D+1)-1)
theorem GrowOk.start{D N:Nat}:GrowOk D (2^(D+1)-1) N [firstW N] [Nd.no]:=by
 have hm:muW D [firstW N]=2^(D+1)-1:=by simp[muW,firstW]
 refine⟨by rw[hm];exact Nat.le_refl _,fun x hx=>?_,fun x hx=>?_,fun i hi=>?_,by rw[hm];simp⟩
 ·rw[List.mem_singleton.1 hx];simp[firstW]
 ·rw[List.mem_singleton.1 hx];exact List.Sublist.refl _
 ·simp at hi;subst hi;simp[firstW]
theorem GrowOk.leaf{D n N:Nat}{x:Wt}{W:List Wt}{nodes:List Nd}(h:GrowOk D (n+1) N (x::W) nodes)(y:Nd):GrowOk D n N W (nodes.set x.place y):=by
 have hd:=h.deep x (by simp)
 have h3:2≤2^(D+1-x.deep):=by
  have:=Nat.pow_le_pow_right (n:=2) (i:=1) (j:=D+1-x.deep) (by decide) (by omega)
  simpa using this
 have hm:=h.mu;have hs:=h.size;rw[kkb]at hm hs;rw[List.length_cons]at hs;refine⟨by omega,fun y hy=>h.deep y (by simp[hy]),fun y hy=>h.rows y (by simp[hy]),fun i hi=>?_,by rw[List.length_set];omega⟩;have:=h.place (i+1) (by simp;omega);simp only[List.getElem_cons_succ,List.length_cons]at this;rw[List.length_set];omega
theorem GrowOk.split{D n N:Nat}{x:Wt}{W:List Wt}{nodes:List Nd}(h:GrowOk D (n+1) N (x::W) nodes)(hx:x.deep<D)(ts:List Tb)(s:Spl)(y:Nd):GrowOk D n N (W++kidsS ts x s nodes.length) (nodes.set x.place y++[Nd.no,Nd.no]):=by
 have hk:=k6u (n:=nodes.length) (ts:=ts) (s:=s) hx;have hm:=h.mu;have hs:=h.size;rw[kkb]at hm hs;rw[List.length_cons]at hs;have hl:(nodes.set x.place y++[Nd.no,Nd.no]).length=nodes.length+2:=by simp
 have hl2:(W++kidsS ts x s nodes.length).length=W.length+2:=by simp[kidsS]
 have p0:=h.place 0 (by simp);simp only[List.getElem_cons_zero,List.length_cons]at p0;refine⟨by rw[ku0];omega,fun z hz=>?_,fun z hz=>?_,fun i hi=>?_,by rw[ku0,hl,hl2];omega⟩
 ·rcases List.mem_append.1 hz with hz | hz
  ·exact h.deep z (by simp[hz])
  ·unfold kidsS at hz;simp only[List.mem_cons,List.not_mem_nil,or_false]at hz;rcases hz with rfl | rfl<;>exact hx
 ·have hr:=h.rows x (by simp);rcases List.mem_append.1 hz with hz | hz
  ·exact h.rows z (by simp[hz])
  ·unfold kidsS at hz;simp only[List.mem_cons,List.not_mem_nil,or_false]at hz;rcases hz with rfl | rfl<;>exact List.filter_sublist.trans hr
 ·rw[hl,hl2];rcases Nat.lt_or_ge i W.length with hiW | hiW
  ·rw[List.getElem_append_left hiW];have:=h.place (i+1) (by simp;omega);simp only[List.getElem_cons_succ,List.length_cons]at this;omega
  ·rw[List.getElem_append_right hiW];have:i-W.length=0∨i-W.length=1:=by rw[hl2]at hi;omega
   rcases this with e | e
   ·simp only[e,kidsS,List.getElem_cons_zero];omega
   ·simp only[e,kidsS,List.getElem_cons_succ,List.getElem_cons_zero];omega
theorem GrowOk.nodes63{D n N:Nat}{W:List Wt}{nodes:List Nd}(h:GrowOk D n N W nodes)(hD:D≤5):nodes.length≤63:=by
 have h1:=muW_le h.deep;have h2:=h.size;have h3:2^(D+1)≤2^6:=Nat.pow_le_pow_right (by decide) (by omega);omega
theorem GrowOk.first{D n N:Nat}{x:Wt}{W:List Wt}{nodes:List Nd}(h:GrowOk D n N (x::W) nodes):x.place<nodes.length:=by
 have p0:=h.place 0 (by simp);simp only[List.getElem_cons_zero,List.length_cons]at p0;omega
theorem GrowOk.least{D n N:Nat}{x:Wt}{W:List Wt}{nodes:List Nd}(h:GrowOk D n N (x::W) nodes):∀y∈W,x.place<y.place:=by
 intro y hy;obtain⟨i,hi,rfl⟩:=List.getElem_of_mem hy;have p0:=h.place 0 (by simp);have p1:=h.place (i+1) (by simp;omega);simp only[List.getElem_cons_zero,List.getElem_cons_succ,List.length_cons]at p0 p1;omega
theorem GrowOk.below{D n N:Nat}{W:List Wt}{nodes:List Nd}(h:GrowOk D n N W nodes):∀y∈W,y.place<nodes.length:=by
 intro y hy;obtain⟨i,hi,rfl⟩:=List.getElem_of_mem hy;have p1:=h.place i hi;omega
end Go.Ab

/- squeezed -/
set_option maxRecDepth 10000
namespace Go.Ab
open Go.Proofs Go.Num
@[reducible] def Ef.tb:Ef Tb where
 w:=3
 pos:=by decide
 has h S cs t:=∃s1 s2 s3:Sl,cs=[s1.v,s2.v,s3.v]∧TabAt h S s1 s2 s3 t
 len:=fun⟨_,_,_,e,_⟩=>by rw[e];rfl
 grow g:=fun⟨a,b,c,e,n⟩=>⟨a,b,c,e,n.grow g⟩
 mono f:=fun⟨a,b,c,e,n⟩=>⟨a,b,c,e,⟨n.ids.mono f,n.bins.mono f,n.cols.mono f⟩⟩
 upd no u:=fun⟨a,b,c,e,n⟩=>⟨a,b,c,e,⟨n.ids.upd no u,n.bins.upd no u,n.cols.upd no u⟩⟩
 bound:=fun⟨a,b,c,e,n⟩=>⟨a,b,c,e,⟨n.ids.bound,n.bins.bound,n.cols.bound⟩⟩
theorem Sq.tb{h:AH}{S:Fp}{s:Sl}{ts:List Tb}(n:Sq Ef.tb h S s ts){i:Nat}(hi:i<ts.length):∃(r:Ref)(s1 s2 s3:Sl),idx s.ref s.len (i:Int) 3=some r∧(h.cell (r.add 0)).bind AV.asSl=some s1∧(h.cell (r.add 1)).bind AV.asSl=some s2∧(h.cell (r.add 2)).bind AV.asSl=some s3∧TabAt h S s1 s2 s3 ts[i]:=by
 obtain⟨r,cs,e1,⟨s1,s2,s3,rfl,t⟩,l⟩:=n.at (kee hi);rw[n.len];exact⟨r,s1,s2,s3,e1,l.rd (Grow.refl _) 0 rfl (asSl_v _),l.rd (Grow.refl _) 1 rfl (asSl_v _),l.rd (Grow.refl _) 2 rfl (asSl_v _),t⟩
def BitsAt(h:AH)(S:Fp)(z:Nat)(y:Sl)(R:List Nat):Prop:=∃w:List Nat,Nats h y w∧(∀j,¬Av y j w→S j)∧btR (z:Int) w=true∧btL (z:Int) w=R
theorem BitsAt.grow{h h':AH}{S:Fp}{z:Nat}{y:Sl}{R:List Nat}(b:BitsAt h S z y R)(g:Grow h h'):BitsAt h' S z y R:=by
 obtain⟨w,N,a,r,l⟩:=b;exact⟨w,N.grow g,a,r,l⟩
theorem BitsAt.mono{h:AH}{S T:Fp}{z:Nat}{y:Sl}{R:List Nat}(f:∀j,S j→T j)(b:BitsAt h S z y R):BitsAt h T z y R:=by
 obtain⟨w,N,a,r,l⟩:=b;exact⟨w,N,fun j k=>f j (a j k),r,l⟩
theorem BitsAt.upd{h h':AH}{S:Fp}{z i:Nat}{y:Sl}{R:List Nat}(no:¬S i)(u:Upd h h' i)(b:BitsAt h S z y R):BitsAt h' S z y R:=by
 obtain⟨w,N,a,r,l⟩:=b;exact⟨w,N.upda (Classical.byContradiction fun k=>no (a _ k)) u,a,r,l⟩
theorem BitsAt.md{h h':AH}{S T:Fp}{z:Nat}{y:Sl}{R:List Nat}(m:Md T h h')(d:Dis S T)(b:BitsAt h S z y R):BitsAt h' S z y R:=by
 obtain⟨w,N,a,r,l⟩:=b;exact⟨w,N.mdE a m d,a,r,l⟩
theorem BitsAt.bound{h:AH}{S:Fp}{z:Nat}{y:Sl}{R:List Nat}(b:BitsAt h S z y R):BitsAt h (fun j=>S j∧j<h.blks.size) z y R:=by
 obtain⟨w,N,a,r,l⟩:=b;refine⟨w,N,fun j k=>⟨a j k,?_⟩,r,l⟩;rcases Nat.lt_or_ge j h.blks.size with h1 | h1
 ·exact h1
 ·exact absurd (Av.of_base N h1) k
theorem BitsAt.lt{h:AH}{S:Fp}{z:Nat}{y:Sl}{R:List Nat}(b:BitsAt h S z y R):R.Sublist (List.range z):=by
 obtain⟨w,N,a,r,rfl⟩:=b;unfold btL;rw[r,if_pos rfl,Int.toNat_natCast];exact List.filter_sublist
theorem k3j{h:AH}{p:Sl}{xs:List Nat}(o:Own h p){m:Nat}(k:¬Av p m xs):h.blks.size≤m:=by
 rcases Nat.lt_or_ge m h.blks.size with hm | hm
 ·exact absurd (Av.of_own o hm) k
 ·exact hm
theorem SetN.bits{h0 h':AH}{z:Nat}{R:List Nat}{v:AV}(p:SetN h0 z R v h'):Grow h0 h'∧∃(t:Sl)(e:Int)(S:Fp),v=.tup [.agg [.int .i64 (z:Int),t.v],.int .i64 e]∧BitsAt h' S z t R∧(∀m,S m→h0.blks.size≤m)∧Own h0 t:=by
 obtain⟨g,t,w,e,rfl,N,o,r,l⟩:=p;exact⟨g,t,e,fun j=>¬Av t j w,rfl,⟨w,N,fun j k=>k,r,l⟩,fun m k=>k3j o k,o⟩
structure SpR where
 spl:Spl
 rows:List Nat
@[reducible] def Ef.spr(z:Nat):Ef SpR where
 w:=9
 pos:=by decide
 has h S cs x:=∃y:Sl,cs=[.bool false,.int .i64 0,.int .i64 (x.spl.1:Int),.int .i64 (x.spl.2.1:Int),.int .i64 (x.spl.2.2:Int),.int .i64 0,.int .i64 0,.int .i64 (z:Int),y.v]∧BitsAt h S z y x.rows
 len:=fun⟨_,e,_⟩=>by rw[e];rfl
 grow g:=fun⟨a,e,n⟩=>⟨a,e,n.grow g⟩
 mono f:=fun⟨a,e,n⟩=>⟨a,e,n.mono f⟩
 upd no u:=fun⟨a,e,n⟩=>⟨a,e,n.upd no u⟩
 bound:=fun⟨a,e,n⟩=>⟨a,e,n.bound⟩
theorem kz8{n:Nat}(h:n≤1000000):growOk Pg n T.kd4 9=true:=by
 unfold growOk;rw[k5o,kyz];have h1:n*88≤ki:=by simp only[ki];omega
 have h2:n*9≤ki:=by simp only[ki];omega
 have h3:n≤ki:=by simp only[ki];omega
 simp[h1,h2,h3]
theorem k6v{n:Nat}(h:n≤1000000):growOk Pg n T.kbc 2=true:=by
 unfold growOk;rw[k9c,k8o];have h1:n*16≤ki:=by simp only[ki];omega
 have h2:n*2≤ki:=by simp only[ki];omega
 have h3:n≤ki:=by simp only[ki];omega
 simp[h1,h2,h3]
theorem k87(g:List Int)(l:List Nat)(i:Nat)(a:Int):sumG g (l++[i]) a=IntKind.wrap .i64 (sumG g l a+g.getD i 0):=by
 unfold sumG;rw[List.foldl_append,List.foldl_cons,List.foldl_nil]
section
variable{h0:AH}{S Sg St:Fp}{gs ys tsl:Sl}{g:List Int}{R:List Nat}{z:Nat}{ts:List Tb}
theorem k01(Q:Sq EI h0 Sg gs g){x:Sl}{Sx:Fp}(hR:∀i∈R,i<g.length)(hl:R.length≤100000){b1 b2:Nat}(hb1:h0.blks.size≤b1)(hb2:h0.blks.size≤b2)(hb:b1≠b2)(hx2:¬Sx b2):∀(k i:Nat),i+k=R.length→∀(h:AH),Grow h0 h→Sq EI h Sx x (zs R)→h.has b1 [.int .i64 0,.int .i64 0] T.kbc→h.has b2 [.int .i64 (sumG g (R.take i) 0),.int .i64 (i:Int)] T.kbc→
  Runs (go (.pt F.kfe Td.kk8 [(0,gs.v),(4,.ptr (some (.new b1 0))),(5,.ptr (some (.new b2 0))),(9,x.v),(10,.int .i64 (R.length:Int)),(11,.int .i64 (i:Int))]) h) fun v h'=>v=.agg [.int .i64 (sumR g R).1,.int .i64 (sumR g R).2]∧Grow h0 h':=by
 intro k
 induction k with
 | zero =>
  intro i hi h G X B1 B2;obtain rfl:i=R.length:=by omega
  rw[List.take_length]at B2;rw[kt0];refine Runs.ifF (decide_eq_false (by omega)) (Runs.step (B2.rd 0 rfl (kb _ _)) (Runs.step (B2.rd 1 rfl (kb _ _)) ?_));refine Runs.puts B1 rfl fun h1 B3 u1=>?_;exact Runs.step (B3.rd 0 rfl (kb _ _)) (Runs.step (B3.rd 1 rfl (kb _ _)) (Runs.ret ⟨rfl,G.updr hb1 u1⟩))
 | succ k ih =>
  intro i hi h G X B1 B2;have hi':i<R.length:=by omega
  have hz:i<(zs R).length:=by rw[zs_len];exact hi'
  obtain⟨r1,e1,e2⟩:=X.int hz;have ex:(zs R)[i]=((R[i]:Nat):Int):=by simp[zs]
  rw[ex]at e2;have hg:=hR _ (List.getElem_mem hi');obtain⟨r2,e3,e4⟩:=(Q.grow G).int hg;rw[kt0];refine Runs.ifT (decide_eq_true (by omega)) (Runs.step e1 (Runs.step e2 (Runs.step (B2.rd 0 rfl (kb _ _)) (Runs.step e3 (Runs.step e4 ?_)))));refine Runs.putAt (o:=0) B2 (by simp) rfl fun h1 B3 u1=>?_;refine Runs.step (B3.rd 1 rfl (kb _ _)) ?_;refine Runs.putAt (o:=1) B3 (by simp) rfl fun h2 B4 u2=>?_;rw[kq (i:=i) (by omega)];have hgd:g.getD R[i] 0=g[R[i]]:=by simp[List.getD,hg]
  refine ih (i+1) (by omega) h2 ((G.updr hb2 u1).updr hb2 u2) ((X.upd hx2 u1).upd hx2 u2) ((B1.updr hb u1).updr hb u2) ?_;rw[List.take_succ_eq_append_getElem hi',k87,hgd];have hw:IntKind.wrap .i64 ((i:Int)+1)=((i+1:Nat):Int):=kq (by omega)
  simpa[hw]using B4
theorem kur(T0:Tab h0)(Q:Sq EI h0 Sg gs g)(B:BitsAt h0 S z ys R)(hz:z≤g.length)(hz2:z≤65536):Runs (go (.fn F.kfe [gs.v,.agg [.int .i64 (z:Int),ys.v]]) h0) fun v h'=>v=.agg [.int .i64 (sumR g R).1,.int .i64 (sumR g R).2]∧Grow h0 h':=by
 have hsub:=B.lt;obtain⟨w,N,-,r,l⟩:=B;rw[ky3];refine Runs.new fun h1 b1 g1=>Runs.new fun h2 b2 g2=>Runs.new fun h3 b3 g3=>?_;have G3:=(g1.trans g2).trans g3;refine Runs.step (((g2.trans g3).has b1).rd 0 rfl (kb _ _)) (Runs.step (((g2.trans g3).has b1).rd 1 rfl (asSl_v _)) ?_);refine(kww (n:=(z:Int)) (T0.grow G3) (N.grow G3)).call fun v h4 ⟨g4,x,j,e,lj,X⟩=>?_;subst e;rw[l]at X;refine Runs.step (seen (asSl_v _)) ?_;rw[X.len,zs_len];have hlen:R.length≤z:=by have:=hsub.length_le;rwa[List.length_range]at this
 have z1:=b1.lt;have z2:=b2.lt;have z3:=b3.lt;have G4:=G3.trans g4;refine k01 Q (fun i hi=>Nat.lt_of_lt_of_le (List.mem_range.1 (hsub.subset hi)) hz) (by omega) (b1:=h1.blks.size) (b2:=h2.blks.size) g1.size (by omega) (by omega) (fun k=>?_) R.length 0 (by omega) h4 G4 X.sq (((g3.trans g4).has b2)) (g4.has b3);rcases k with k | k
 ·have k:j=some h2.blks.size:=k;subst k;have:h3.blks.size≤h2.blks.size:=lj;omega
 ·exact k
end
end Go.Ab
