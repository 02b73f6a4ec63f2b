/- squeezed -/
import Derived.Test.YtnoegamaadakpaaGreatDoorPS42
import Derived.Test.YtnoegamaadakpaaGreatDoorPAbsS
set_option linter.unusedVariables false
set_option linter.unusedSimpArgs false
set_option linter.unusedSectionVars false

namespace Go.Ab
variable{P:Program}
abbrev Fp:=Nat→Prop
def Fp.no:Fp:=fun _=>False
def Fp.all:Fp:=fun _=>True
def Fp.or(S T:Fp):Fp:=fun j=>S j∨T j
def Fp.below(n:Nat):Fp:=fun j=>j<n
def Fp.from(n:Nat):Fp:=fun j=>n≤j
def Fp.sl(s:Sl)(xs:List Nat):Fp:=fun j=>¬Av s j xs
theorem Fp.not_or{S T:Fp}{i:Nat}(a:¬S i)(b:¬T i):¬(Fp.or S T) i:=fun h=>h.elim a b
theorem Fp.not_no{i:Nat}:¬Fp.no i:=fun h=>h
theorem Fp.not_below{n i:Nat}(h:n≤i):¬(Fp.below n) i:=fun k=>by
 have:i<n:=k;omega
theorem Fp.not_from{n i:Nat}(h:i<n):¬(Fp.from n) i:=fun k=>by
 have:n≤i:=k;omega
theorem Fp.not_sl{s:Sl}{xs:List Nat}{i:Nat}(a:Av s i xs):¬(Fp.sl s xs) i:=fun k=>k a
def NotO(S:Fp):Option Nat→Prop
 | none=>True
 | some k=>¬S k
theorem NotO.or{S T:Fp}:∀{i:Option Nat},NotO S i→NotO T i→NotO (Fp.or S T) i
 | none,_,_=>trivial
 | some _,a,b=>Fp.not_or a b
theorem NotO.no:∀{i:Option Nat},NotO Fp.no i
 | none=>trivial
 | some _=>Fp.not_no
theorem NotO.below{n:Nat}:∀{i:Option Nat},LeO n i→NotO (Fp.below n) i
 | none,_=>trivial
 | some _,l=>Fp.not_below l
theorem NotO.from{n:Nat}:∀{i:Option Nat},LtO n i→NotO (Fp.from n) i
 | none,_=>trivial
 | some _,l=>Fp.not_from l
theorem NotO.sl{s:Sl}{xs:List Nat}:∀{i:Option Nat},AvO s xs i→NotO (Fp.sl s xs) i
 | none,_=>trivial
 | some _,l=>Fp.not_sl l
theorem NotO.mono{S T:Fp}(h:∀j,S j→T j):∀{i:Option Nat},NotO T i→NotO S i
 | none,_=>trivial
 | some _,l=>fun k=>l (h _ k)
structure Ef(α:Type) where
 w:Nat
 pos:0<w
 has:AH→Fp→List AV→α→Prop
 len:∀{h:AH}{S:Fp}{cs:List AV}{a:α},has h S cs a→cs.length=w
 grow:∀{h h':AH}{S:Fp}{cs:List AV}{a:α},Grow h h'→has h S cs a→has h' S cs a
 mono:∀{h:AH}{S T:Fp}{cs:List AV}{a:α},(∀j,S j→T j)→has h S cs a→has h T cs a
 upd:∀{h h':AH}{S:Fp}{i:Nat}{cs:List AV}{a:α},¬S i→Upd h h' i→has h S cs a→has h' S cs a
 bound:∀{h:AH}{S:Fp}{cs:List AV}{a:α},has h S cs a→has h (fun j=>S j∧j<h.blks.size) cs a
theorem Ef.updo{α:Type}(E:Ef α){h h':AH}{S:Fp}{cs:List AV}{a:α}:∀{i:Option Nat},NotO S i→UpdO h h' i→E.has h S cs a→E.has h' S cs a
 | none,_,u,e=>E.grow u e
 | some _,n,u,e=>E.upd n u e
def Ef.int(k:IntKind):Ef Int where
 w:=1
 pos:=by decide
 has _ _ cs n:=cs=[.int k n]
 len e:=by rw[e];rfl
 grow _ e:=e
 mono _ e:=e
 upd _ _ e:=e
 bound e:=e
def Ef.bool:Ef Bool where
 w:=1
 pos:=by decide
 has _ _ cs b:=cs=[.bool b]
 len e:=by rw[e];rfl
 grow _ e:=e
 mono _ e:=e
 upd _ _ e:=e
 bound e:=e
def Ef.str:Ef ByteArray where
 w:=1
 pos:=by decide
 has _ _ cs b:=cs=[.str b]
 len e:=by rw[e];rfl
 grow _ e:=e
 mono _ e:=e
 upd _ _ e:=e
 bound e:=e
def Ef.nats:Ef (List Nat) where
 w:=1
 pos:=by decide
 has h S cs xs:=∃s,cs=[Sl.v s]∧Nats h s xs∧∀j,¬Av s j xs→S j
 len:=fun⟨s,e,_,_⟩=>by rw[e];rfl
 grow g:=fun⟨s,e,n,a⟩=>⟨s,e,n.grow g,a⟩
 mono m:=fun⟨s,e,n,a⟩=>⟨s,e,n,fun j k=>m j (a j k)⟩
 upd no u:=fun⟨s,e,n,a⟩=>⟨s,e,n.upda (Classical.byContradiction fun k=>no (a _ k)) u,a⟩
 bound:=fun{h} _ _ _ ⟨s,e,n,a⟩=>⟨s,e,n,fun j k=>⟨a j k,by
  rcases Nat.lt_or_ge j h.blks.size with h1 | h1
  ·exact h1
  ·exact absurd (Av.of_base n h1) k⟩⟩
def Ef.pair{α β:Type}(A:Ef α)(B:Ef β):Ef (α×β) where
 w:=A.w+B.w
 pos:=by have:=A.pos;omega
 has h S cs p:=∃c1 c2,cs=c1++c2∧A.has h S c1 p.1∧B.has h S c2 p.2
 len:=fun⟨c1,c2,e,a,b⟩=>by rw[e,List.length_append,A.len a,B.len b]
 grow g:=fun⟨c1,c2,e,a,b⟩=>⟨c1,c2,e,A.grow g a,B.grow g b⟩
 mono m:=fun⟨c1,c2,e,a,b⟩=>⟨c1,c2,e,A.mono m a,B.mono m b⟩
 upd no u:=fun⟨c1,c2,e,a,b⟩=>⟨c1,c2,e,A.upd no u a,B.upd no u b⟩
 bound:=fun⟨c1,c2,e,a,b⟩=>⟨c1,c2,e,A.bound a,B.bound b⟩
theorem All2.set{α β:Type}{R:α→β→Prop}{l:List α}{m:List β}(a:All2 R l m){x:α}{y:β}(h:R x y):∀j:Nat,All2 R (l.set j x) (m.set j y):=by
 induction a with
 | nil=>intro j;exact .nil
 | cons h1 h2 ih =>
  intro j;cases j with
  | zero=>exact .cons h h2
  | succ j=>exact .cons h1 (ih j)
def RefIn(S:Fp)(s:Sl)(n:Nat):Prop:=n=0∨∀j o,s.ref=some (.new j o)→S j
structure Sq{α:Type}(E:Ef α)(h:AH)(S:Fp)(s:Sl)(xs:List α):Prop where
 rows:∃rows,Cells h s E.w rows.flatten∧All2 (E.has h S) rows xs
 len:s.len=xs.length
 short:xs.length≤9223372036854775807
 at':RefIn S s xs.length
variable{α:Type}{E:Ef α}
theorem Ef.rows{h:AH}{S:Fp}{rows:List (List AV)}{xs:List α}(a:All2 (E.has h S) rows xs):∀r∈rows,r.length=E.w:=by
 induction a with
 | nil=>simp
 | cons h' _ ih =>
  intro r hr;rcases List.mem_cons.1 hr with rfl | hr
  ·exact E.len h'
  ·exact ih r hr
theorem Cells.updn{h h':AH}{s:Sl}{n:Nat}{flat:List AV}(c:Cells h s n flat){i:Nat}(hi:∀o,s.ref≠some (.new i o))(u:Upd h h' i):Cells h' s n flat :=
 ⟨c.fit,c.len,fun k v hv=>by
  obtain⟨r,e1,e2⟩:=c.get k v hv;refine⟨r,e1,u.cell e2 fun o he=>?_⟩;cases r with
  | old a=>cases he
  | new j p =>
   simp only[Ref.add_new,Ref.new.injEq]at he;exact hi p (by rw[e1,he.1])⟩
theorem Sq.grow{h h':AH}{S:Fp}{s:Sl}{xs:List α}(n:Sq E h S s xs)(g:Grow h h'):Sq E h' S s xs:=by
 obtain⟨⟨rows,c,a⟩,l,sh,at'⟩:=n;exact⟨⟨rows,c.grow g,a.imp fun _ _=>E.grow g⟩,l,sh,at'⟩
theorem Sq.mono{h:AH}{S T:Fp}{s:Sl}{xs:List α}(n:Sq E h S s xs)(m:∀j,S j→T j):Sq E h T s xs:=by
 obtain⟨⟨rows,c,a⟩,l,sh,at'⟩:=n;exact⟨⟨rows,c,a.imp fun _ _=>E.mono m⟩,l,sh,at'.imp id fun f j o e=>m j (f j o e)⟩
theorem Sq.nil(E:Ef α)(h:AH)(S:Fp):Sq E h S ⟨none,0,.is 0⟩ []:=⟨⟨[],Cells.nil h _,.nil⟩,rfl,by simp,.inl rfl⟩
theorem Sq.upd{h h':AH}{S:Fp}{s:Sl}{xs:List α}(n:Sq E h S s xs){i:Nat}(no:¬S i)(u:Upd h h' i):Sq E h' S s xs:=by
 obtain⟨⟨rows,c,a⟩,l,sh,at'⟩:=n;refine⟨⟨rows,?_,a.imp fun _ _=>E.upd no u⟩,l,sh,at'⟩;rcases at' with e | f
 ·have hr:rows.length=0:=by rw[All2.length a,e]
  have hr:rows=[]:=List.length_eq_zero_iff.1 hr;subst hr;exact⟨c.fit,c.len,fun k v hv=>by simp at hv⟩
 ·exact c.updn (fun o ho=>no (f i o ho)) u
theorem Sq.updo{h h':AH}{S:Fp}{s:Sl}{xs:List α}(n:Sq E h S s xs):∀{i:Option Nat},NotO S i→UpdO h h' i→Sq E h' S s xs
 | none,_,u=>n.grow u
 | some _,no,u=>n.upd no u
theorem Sq.bound{h:AH}{S:Fp}{s:Sl}{xs:List α}(n:Sq E h S s xs):Sq E h (fun j=>S j∧j<h.blks.size) s xs:=by
 obtain⟨⟨rows,c,a⟩,l,sh,at'⟩:=n;refine⟨⟨rows,c,a.imp fun _ _=>E.bound⟩,l,sh,?_⟩;rcases Nat.eq_zero_or_pos xs.length with e | e
 ·exact .inl e
 ·refine .inr fun j o hj=>⟨(at'.resolve_left (by omega)) j o hj,?_⟩;have hf:=kex (w:=E.w) (rows:=rows) (Ef.rows a)
  have h0:0<rows.flatten.length:=by
   rw[hf,All2.length a];exact Nat.mul_pos e E.pos
  obtain⟨r,e1,e2⟩:=c.get 0 _ (List.getElem?_eq_getElem h0);rw[hj]at e1;cases e1;have:=AH.cell_inn e2;rw[Ref.add_new]at this;exact this
def Ef.seq{α:Type}(E:Ef α):Ef (List α) where
 w:=1
 pos:=by decide
 has h S cs xs:=∃s,cs=[Sl.v s]∧Sq E h S s xs
 len:=fun⟨s,e,_⟩=>by rw[e];rfl
 grow g:=fun⟨s,e,n⟩=>⟨s,e,n.grow g⟩
 mono m:=fun⟨s,e,n⟩=>⟨s,e,n.mono m⟩
 upd no u:=fun⟨s,e,n⟩=>⟨s,e,n.upd no u⟩
 bound:=fun⟨s,e,n⟩=>⟨s,e,n.bound⟩
theorem Sq.at{h:AH}{S:Fp}{s:Sl}{xs:List α}(n:Sq E h S s xs){i:Int}{y:α}(q:atX xs i=some y):∃(r:Ref)(cs:List AV),idx s.ref xs.length i E.w=some r∧E.has h S cs y∧Lies h r cs:=by
 obtain⟨⟨rows,c,a⟩,l,sh,at'⟩:=n;obtain⟨j,rfl,hj⟩:=ky0 q;obtain⟨cs,e1,e2⟩:=a.get hj;have hjl:=(List.getElem?_eq_some_iff.1 hj).1;have hr:=Ef.rows a;have key:∀k v,cs[k]?=some v→∃r,s.ref=some r∧h.cell (r.add (j*E.w+k))=some v:=fun k v hk=>c.get _ _ (kpa hr e1 hk);cases hs:s.ref with
 | none =>
  exfalso;cases cs with
  | nil=>have:=E.len e2;have:=E.pos;simp at *;omega
  | cons v vs =>
   obtain⟨r,e,_⟩:=key 0 v rfl;rw[hs]at e;cases e
 | some r =>
  refine⟨r.add (j*E.w),cs,?_,e2,⟨fun k v hk=>?_⟩⟩
  ·rw[kee _ _ _ _ (by omega) (by omega)];simp
  ·obtain⟨r',e,e'⟩:=key k v hk;rw[hs]at e;cases e;rw[Ref.add_add];exact e'
theorem Sq.lit{h:AH}{S:Fp}{i n:Nat}{rows:List (List AV)}{e:TypeId}{xs:List α}(b:h.has i rows.flatten e)(a:All2 (E.has h S) rows xs)(hn:xs.length=n)(hs:n≤9223372036854775807:=by decide):Sq E h (Fp.or (fun j=>j=i) S) ⟨some (.new i 0),n,.is n⟩ xs:=by
 refine⟨⟨rows,Cells.of_has b ?_,a.imp fun _ _=>E.mono fun j k=>.inr k⟩,hn.symm,by omega,.inr fun j o e=>?_⟩
 ·rw[kex (Ef.rows a),All2.length a,hn]
 ·cases e;exact .inl rfl
def GF{α:Type}(E:Ef α)(elem:TypeId)(h:AH)(S:Fp)(s:Sl)(i:Option Nat)(xs:List α):Prop :=
 xs.length≤9223372036854775807∧match i with
 | none=>s=⟨none,0,.is 0⟩∧xs=[]
 | some k=>¬S k∧s.ref=some (.new k 0)∧s.len=xs.length∧∃rows e,h.has k rows.flatten e∧(s.cap=.is s.len∨s.cap=.opn E.w∧e=elem)∧All2 (E.has h S) rows xs
variable{elem:TypeId}
theorem GF.none(E:Ef α)(elem:TypeId)(h:AH)(S:Fp):GF E elem h S ⟨none,0,.is 0⟩ none []:=⟨by simp,rfl,rfl⟩
theorem GF.one{h:AH}{S:Fp}{i:Nat}{cs:List AV}{x:α}{e:TypeId}(b:h.has i cs e)(c:E.has h S cs x)(a:¬S i):GF E elem h S ⟨some (.new i 0),1,.is 1⟩ (some i) [x] :=
 ⟨by simp,a,rfl,rfl,[cs],e,by simpa using b,.inl rfl,.cons c .nil⟩
theorem GF.lit{h:AH}{S:Fp}{i n:Nat}{rows:List (List AV)}{xs:List α}{e:TypeId}(b:h.has i rows.flatten e)(c:All2 (E.has h S) rows xs)(a:¬S i)(hn:xs.length=n)(hs:n≤9223372036854775807:=by decide):GF E elem h S ⟨some (.new i 0),n,.is n⟩ (some i) xs :=
 ⟨by omega,a,rfl,hn.symm,rows,e,b,.inl rfl,c⟩
theorem GF.grow{h h':AH}{S:Fp}{s:Sl}:∀{i:Option Nat}{xs:List α},GF E elem h S s i xs→Grow h h'→GF E elem h' S s i xs
 | .none,_,v,g=>v
 | .some k,_,⟨l,a,r,ln,rows,e,b,c,r2⟩,g=>⟨l,a,r,ln,rows,e,g.has b,c,r2.imp fun _ _=>E.grow g⟩
theorem GF.lt{h:AH}{S:Fp}{s:Sl}:∀{i:Option Nat}{xs:List α},GF E elem h S s i xs→LtO h.blks.size i
 | .none,_,_=>trivial
 | .some k,_,⟨l,a,r,ln,rows,e,b,c,r2⟩=>b.lt
theorem GF.mono{h:AH}{S T:Fp}{s:Sl}:∀{i:Option Nat}{xs:List α},GF E elem h S s i xs→(∀j,S j→T j)→NotO T i→GF E elem h T s i xs
 | .none,_,v,_,_=>v
 | .some k,_,⟨l,a,r,ln,rows,e,b,c,r2⟩,m,no=>⟨l,no,r,ln,rows,e,b,c,r2.imp fun _ _=>E.mono m⟩
theorem GF.bound{h:AH}{S:Fp}{s:Sl}:∀{i:Option Nat}{xs:List α},GF E elem h S s i xs→GF E elem h (fun j=>S j∧j<h.blks.size) s i xs
 | .none,_,v=>v
 | .some k,_,⟨l,a,r,ln,rows,e,b,c,r2⟩=>⟨l,fun x=>a x.1,r,ln,rows,e,b,c,r2.imp fun _ _=>E.bound⟩
def Fp.opt(i:Option Nat):Fp:=fun j=>i=some j
theorem GF.sq{h:AH}{S:Fp}{s:Sl}:∀{i:Option Nat}{xs:List α},GF E elem h S s i xs→Sq E h (Fp.or (Fp.opt i) S) s xs
 | .none,xs,⟨_,e1,e2⟩=>by
  subst e1;subst e2;exact Sq.nil E h _
 | .some k,_,⟨l,a,r,ln,rows,e,b,c,r2⟩=>by
  have hc:=Cells.of_has (n:=E.w) (m:=s.len) b (by rw[kex (Ef.rows r2),All2.length r2,ln]);refine⟨⟨rows,⟨?_,?_,?_⟩,r2.imp fun _ _=>E.mono fun j x=>.inr x⟩,ln,l,.inr fun j o ho=>?_⟩
  ·rcases c with c | c
   ·unfold Sl.fit;rw[c];exact Nat.le_refl _
   ·unfold Sl.fit;rw[c.1]
  ·exact hc.len
  ·rw[r];exact hc.get
  ·rw[r]at ho;cases ho;exact .inl rfl
theorem GF.len{h:AH}{S:Fp}{s:Sl}{i:Option Nat}{xs:List α}(v:GF E elem h S s i xs):s.len=xs.length:=v.sq.len
theorem GF.own{h h0:AH}{S:Fp}{s:Sl}:∀{i:Option Nat}{xs:List α},GF E elem h S s i xs→LeO h0.blks.size i→Own h0 s
 | .none,_,v,_=>fun r hr=>by rw[v.2.1]at hr;cases hr
 | .some k,_,⟨_,_,r,_⟩,l=>fun q hq=>by
  rw[r]at hq;cases hq;exact⟨k,0,rfl,l⟩
theorem GF.upd{h h':AH}{S:Fp}{s:Sl}{i:Nat}(u:Upd h h' i)(no:¬S i):∀{j:Option Nat}{xs:List α},GF E elem h S s j xs→(∀k,j=some k→k≠i)→GF E elem h' S s j xs
 | .none,_,v,_=>v
 | .some k,_,⟨l,a,r,ln,rows,e,b,c,r2⟩,ne=>⟨l,a,r,ln,rows,e,b.updr (ne k rfl) u,c,r2.imp fun _ _=>E.upd no u⟩
theorem GF.updo{h h':AH}{S:Fp}{s:Sl}{j:Option Nat}{xs:List α}(v:GF E elem h S s j xs):∀{i:Option Nat},NotO S i→NeOO j i→UpdO h h' i→GF E elem h' S s j xs
 | .none,_,_,u=>v.grow u
 | .some i,no,ne,u=>v.upd u no fun k e=>by
  subst e;exact ne
theorem GF.set{h:AH}{S T:Fp}{s:Sl}{i:Option Nat}{xs:List α}(v:GF E elem h S s i xs){cs:List AV}{x:α}(c:E.has h T cs x)(no:NotO T i){z:Int}{j:Nat}(q:inI xs.length z=some j) :
  ∃r h',idx s.ref xs.length z E.w=some r∧h.puts r cs=some h'∧GF E elem h' (Fp.or S T) s i (xs.set j x)∧UpdO h h' i:=by
 obtain⟨hz,hj⟩:=koq q;cases i with
 | none =>
  obtain⟨_,e1,e2⟩:=v;subst e2;simp at hj
 | some k =>
  obtain⟨l,a,r,ln,rows,e,b,cp,r2⟩:=v;have hrl:=All2.length r2;have hr:=Ef.rows r2;have hw:=E.len c;have hfl:=kex hr
  have hle:j*E.w+cs.length≤rows.flatten.length:=by
   rw[hfl,hw,← Nat.succ_mul];exact Nat.mul_le_mul_right _ (by omega)
  have hfl2:∀(rs:List (List AV))(n:Nat),(∀r∈rs,r.length=E.w)→rs.flatten.take (n*E.w)=(rs.take n).flatten∧rs.flatten.drop (n*E.w)=(rs.drop n).flatten:=by
   intro rs
   induction rs with
   | nil=>intro n _;simp
   | cons r rs ih =>
    intro n hh;cases n with
    | zero=>simp
    | succ n =>
     have h1:=ih n fun q hq=>hh q (by simp[hq]);have h2:=hh r (by simp);rw[Nat.succ_mul,List.flatten_cons,List.take_succ_cons,List.drop_succ_cons,List.flatten_cons,← h1.1,← h1.2];constructor
     ·rw[List.take_append,h2,List.take_of_length_le (by omega),Nat.add_sub_cancel]
     ·rw[List.drop_append,h2,List.drop_eq_nil_of_le (by omega),Nat.add_sub_cancel,List.nil_append]
  have key:rows.flatten.take (j*E.w)++cs++rows.flatten.drop (j*E.w+cs.length)=(rows.set j cs).flatten:=by
   have h3:j*E.w+cs.length=(j+1)*E.w:=by rw[hw,Nat.succ_mul]
   rw[h3,(hfl2 rows j hr).1,(hfl2 rows (j+1) hr).2,List.set_eq_take_append_cons_drop,if_pos (by omega)];simp
  refine⟨.new k (j*E.w),h.upd k (rows.set j cs).flatten e,?_,?_,⟨by simpa using l,fun x=>x.elim a no,r,by simpa using ln,rows.set j cs,e,AH.has_upd b _ _,cp,?_⟩,AH.upd_Upd h k _ e⟩
  ·rw[r,hz,kee _ _ _ _ (by omega) (by omega)];simp
  ·rw[b.puts hle,key]
  ·have:All2 (fun cs a=>E.has h (Fp.or S T) cs a) (rows.set j cs) (xs.set j x):=All2.set (r2.imp fun _ _=>E.mono fun j k=>.inl k) (E.mono (fun j k=>.inr k) c) j;exact this.imp fun _ _ y=>E.upd (fun x=>x.elim a no) (AH.upd_Upd h k _ e) y
theorem GF.push{h:AH}{S T:Fp}{s:Sl}{i:Option Nat}{xs:List α}(v:GF E elem h S s i xs){cs:List AV}{x:α}(c:E.has h T cs x)(no:NotO T i)(hg:growOk P (xs.length+1) elem E.w=true) :
  ∃s' h',ku P s cs 1 elem E.w h=some (s'.v,h')∧GF E elem h' (fun j=>(Fp.or S T) j∧j<h.blks.size) s' (some h.blks.size) (xs++[x])∧UpdO h h' i:=by
 have hl:=kw8 hg;have hw:=E.len c;have nS:¬((Fp.or S T) h.blks.size∧h.blks.size<h.blks.size):=fun k=>Nat.lt_irrefl _ k.2;cases i with
 | none =>
  obtain⟨_,e1,e2⟩:=v;subst e1;subst e2;rw[kh6 (c:=0) rfl (by simp) (by simpa using hg) (Cells.nil h E.w)];refine⟨_,_,rfl,⟨by simp,nS,rfl,by simp,[cs],elem,?_,.inr ⟨rfl,rfl⟩,.cons ?_ .nil⟩,Grow.push _ _⟩
  ·simpa using AH.has_push h cs elem
  ·refine E.grow (Grow.push _ _) (E.mono (fun j k=>⟨.inr k.1,k.2⟩) (E.bound c))
 | some k =>
  have sq:=v.sq;obtain⟨l,a,r,ln,rows,e,b,cp,r2⟩:=v;have hr:=Ef.rows r2
  have cc:Cells h s E.w rows.flatten:=by
   have hc:=Cells.of_has (n:=E.w) (m:=s.len) b (by rw[kex hr,All2.length r2,ln]);refine⟨?_,hc.len,by rw[r];exact hc.get⟩;rcases cp with c | c
   ·unfold Sl.fit;rw[c];exact Nat.le_refl _
   ·unfold Sl.fit;rw[c.1]
  rw[← ln]at hg;rcases cp with ce | ⟨ce,rfl⟩
  ·rw[kh6 ce (by omega) hg cc];refine⟨_,_,rfl,⟨by simpa using hl,nS,rfl,by simp[ln],rows++[cs],elem,?_,.inr ⟨rfl,rfl⟩,All2.snoc (r2.imp fun _ _ y=>?_) ?_⟩,(Grow.push _ _).toUpd k⟩
   ·have:=AH.has_push h (rows.flatten++cs) elem
    simpa using this
   ·exact E.grow (Grow.push _ _) (E.mono (fun j q=>⟨.inl q.1,q.2⟩) (E.bound y))
   ·exact E.grow (Grow.push _ _) (E.mono (fun j q=>⟨.inr q.1,q.2⟩) (E.bound c))
  ·have hap:ku P s cs 1 e E.w h=some (Sl.v ⟨some (.new h.blks.size 0),s.len+1,.opn E.w⟩,(h.kill s.ref).push (.cells (rows.flatten++cs) e)):=by
    unfold ku;simp only[ce];rw[show Nat.beq 1 0=false from rfl,show Nat.beq E.w E.w=true from Nat.beq_refl _];simp only[cond_false,hg,Bool.and_true,cond_true,r,show h.blks[k]?=_ from b];have hgets:=cc.gets;rw[r]at hgets;simp only[hgets,Option.bind_some];rw[show Nat.beq e e=true from Nat.beq_refl _,cond_true];have:(AH.kill h (some (Ref.new k 0))).blks.size=h.blks.size:=by simp[AH.kill]
    simp[AH.next,this,Sl.v];rfl
   rw[hap,r];have sz:(h.kill (some (.new k 0))).blks.size=h.blks.size:=by simp[AH.kill]
   have u:Upd h (h.kill (some (.new k 0))) k:=AH.kill_Upd h k;refine⟨_,_,rfl,⟨by simpa using hl,nS,rfl,by simp[ln],rows++[cs],e,?_,.inr ⟨rfl,rfl⟩,All2.snoc (r2.imp fun _ _ y=>?_) ?_⟩,u.trans ((Grow.push _ _).toUpd k)⟩
   ·have:=AH.has_push (h.kill (some (.new k 0))) (rows.flatten++cs) e;rw[sz]at this
    simpa using this
   ·exact E.grow (Grow.push _ _) (E.mono (fun j q=>⟨.inl q.1,q.2⟩) (E.upd (fun q=>a q.1) u (E.bound y)))
   ·exact E.grow (Grow.push _ _) (E.mono (fun j q=>⟨.inr q.1,q.2⟩) (E.upd (fun q=>no q.1) u (E.bound c)))
end Go.Ab

/- squeezed -/
namespace Go.Ab
variable{P:Program}
theorem ky3{h:AH}:∀(n:Nat){r:Ref}{es:List AV},h.gets r n=some es→es.length=n∧∀(k:Nat)(v:AV),es[k]?=some v→h.cell (r.add k)=some v
 | 0,r,es,e=>by
  simp only[AH.gets,Option.some.injEq]at e;subst e;exact⟨rfl,fun k v hv=>by simp at hv⟩
 | n+1,r,es,e=>by
  simp only[AH.gets,Option.bind_eq_some_iff,Option.map_eq_some_iff]at e;obtain⟨v,e1,l,e2,rfl⟩:=e;obtain⟨h1,h2⟩:=ky3 n e2;refine⟨by simp[h1],fun k u hu=>?_⟩;cases k with
  | zero =>
   simp at hu;subst hu;rw[Ref.add_zero];exact e1
  | succ k =>
   have:=h2 k u (by simpa using hu);rw[← this,Ref.add_add,Nat.add_comm]
theorem Sq.of_arg{α:Type}{E:Ef α}{S:Fp}{h:AH}{t e:TypeId}{cs:List AV}(hu:P.underlying t=some (.slice e))(hw:P.cellsOf e=E.w)(elem:∀es,ArgT P h e es→∃a,E.has h S es a)(a:ArgT P h t cs):∃(s:Sl)(xs:List α),cs=[s.v]∧Sq E h S s xs:=by
 rcases a.slice hu with rfl | ⟨ad,len,cap,rfl,h1,h2,h3⟩
 ·exact⟨⟨none,0,.is 0⟩,[],rfl,Sq.nil _ _ _⟩
 ·rw[hw]at h3
  have mk:∀n,n≤len→∃(rows:List (List AV))(xs:List α),rows.length=n∧All2 (E.has h S) rows xs∧∀(i:Nat)(r:List AV),rows[i]?=some r→h.gets (.old (ad.add (i*E.w))) E.w=some r:=by
   intro n
   induction n with
   | zero=>exact fun _=>⟨[],[],rfl,.nil,fun i r hi=>by simp at hi⟩
   | succ n ih =>
    intro hn;obtain⟨rows,xs,hl,ha,hx⟩:=ih (by omega);obtain⟨es,k1,k2⟩:=h3 n (by omega);obtain⟨x,k3⟩:=elem es k2;refine⟨rows++[es],xs++[x],by simp[hl],ha.snoc k3,fun i r hi=>?_⟩;by_cases hin:i<rows.length
    ·rw[List.getElem?_append_left hin]at hi;exact hx i r hi
    ·rw[List.getElem?_append_right (by omega)]at hi
     have:i=n:=by
      rcases Nat.eq_zero_or_pos (i-rows.length)with h0 | h0
      ·omega
      ·rw[List.getElem?_eq_none (by simp;omega)]at hi;cases hi
     subst this;rw[hl,Nat.sub_self]at hi;simp at hi;subst hi;exact k1
  obtain⟨rows,xs,hl,ha,hx⟩:=mk len (Nat.le_refl _);have hr:=Ef.rows ha;have hlen:=All2.length ha;refine⟨⟨some (.old ad),len,.is cap⟩,xs,rfl,⟨⟨rows,⟨h1,by rw[kex hr,hl],fun k v hv=>⟨_,rfl,?_⟩⟩,ha⟩,by rw[← hlen,hl],?_,.inr fun j o hj=>by cases hj⟩⟩
  ·have hk:k<rows.length*E.w:=by
    rw[← kex hr];exact(List.getElem?_eq_some_iff.1 hv).1
   have hi:k/E.w<rows.length:=Nat.div_lt_of_lt_mul (by rw[Nat.mul_comm];exact hk);have hj:k%E.w<E.w:=Nat.mod_lt _ E.pos;have e1:=List.getElem?_eq_getElem hi;have e2:(rows[k/E.w])[k%E.w]?=some ((rows[k/E.w])[k%E.w]'(by rw[hr _ (List.getElem_mem _)];exact hj)):=List.getElem?_eq_getElem _;have e3:=kpa hr e1 e2
   have e4:k/E.w*E.w+k%E.w=k:=by
    rw[Nat.mul_comm];exact Nat.div_add_mod k E.w
   rw[e4,hv]at e3;have e5:=(ky3 E.w (hx _ _ e1)).2 _ _ e2;rw[← Option.some.inj e3]at e5
   have e6:(Ref.old (ad.add (k/E.w*E.w))).add (k%E.w)=(Ref.old ad).add k:=by
    rw[show Ref.old (ad.add (k/E.w*E.w))=(Ref.old ad).add (k/E.w*E.w)from rfl,Ref.add_add,e4]
   rw[← e6];exact e5
  ·have hm:maxLen=9223372036854775807:=by decide
   rw[← hlen,hl];rw[hm]at h2;exact Nat.le_trans h1 h2
end Go.Ab

/- squeezed -/
namespace Go.Ab
theorem All2.drop{α β:Type}{R:α→β→Prop}{l:List α}{m:List β}(a:All2 R l m):∀k:Nat,All2 R (l.drop k) (m.drop k):=by
 induction a with
 | nil=>intro k;simp;exact .nil
 | cons h t ih =>
  intro k;cases k with
  | zero=>exact .cons h t
  | succ k=>exact ih k
theorem All2.take{α β:Type}{R:α→β→Prop}{l:List α}{m:List β}(a:All2 R l m):∀k:Nat,All2 R (l.take k) (m.take k):=by
 induction a with
 | nil=>intro k;simp;exact .nil
 | cons h t ih =>
  intro k;cases k with
  | zero=>exact .nil
  | succ k=>exact .cons h (ih k)
theorem All2.append{α β:Type}{R:α→β→Prop}{l l':List α}{m m':List β}(a:All2 R l m)(b:All2 R l' m'):All2 R (l++l') (m++m'):=by
 induction a with
 | nil=>exact b
 | cons h t ih=>exact .cons h ih
theorem k0g{w:Nat}:∀{rows:List (List AV)},(∀r∈rows,r.length=w)→∀k:Nat,rows.flatten.drop (k*w)=(rows.drop k).flatten
 | [],_,k=>by simp
 | r::rows,h,0=>by simp
 | r::rows,h,k+1=>by
  rw[List.flatten_cons,List.drop_succ_cons,← k0g (fun q hq=>h q (by simp[hq])) k,Nat.add_mul,Nat.one_mul,Nat.add_comm,← List.drop_drop,List.drop_left' (h r (by simp))]
theorem kz3{w:Nat}:∀{rows:List (List AV)},(∀r∈rows,r.length=w)→∀k:Nat,rows.flatten.take (k*w)=(rows.take k).flatten
 | [],_,k=>by simp
 | r::rows,h,0=>by simp
 | r::rows,h,k+1=>by
  rw[List.flatten_cons,List.take_succ_cons,List.flatten_cons,← kz3 (fun q hq=>h q (by simp[hq])) k,Nat.add_mul,Nat.one_mul,Nat.add_comm (k*w)];have hr:=h r (by simp);rw[List.take_append,List.take_of_length_le (by omega),hr];congr 2;omega
theorem kbgw{s s':Sl}{l m:Int}{w:Nat}(e:cutSl s l m w=some s'){j o:Nat}(hr:s'.ref=some (.new j o)):∃o',s.ref=some (.new j o'):=by
 have key:∀{a:Nat},(s.ref.map (·.add a))=some (Ref.new j o)→∃o',s.ref=some (.new j o'):=fun{a} h=>by
  cases hs:s.ref with
  | none=>rw[hs]at h;cases h
  | some r =>
   rw[hs,Option.map_some,Option.some.injEq]at h;cases r with
   | new i p =>
    simp only[Ref.add_new,Ref.new.injEq]at h;exact⟨p,by rw[h.1]⟩
   | old a'=>cases h
 unfold cutSl at e;split at e
 ·rename_i c hc;cases hd:decide (0≤l∧l≤m∧m≤(c:Int))with
  | false=>rw[hd]at e;cases e
  | true =>
   rw[hd,cond_true,Option.some.injEq]at e;rw[← e]at hr;dsimp only at hr;split at hr
   ·exact⟨o,hr⟩
   ·exact key hr
 ·rename_i sz hc;cases hb:Nat.beq sz w with
  | false=>rw[hb]at e;cases e
  | true =>
   rw[hb,cond_true]at e;cases hd:decide (0≤l∧l≤m∧m≤(s.len:Int))with
   | false=>rw[hd]at e;cases e
   | true =>
    rw[hd,cond_true,Option.some.injEq]at e;rw[← e]at hr;exact key hr
theorem Sq.cut{α:Type}{E:Ef α}{h:AH}{S:Fp}{s:Sl}{xs:List α}(n:Sq E h S s xs){l m:Nat}(h1:l≤m)(h2:m≤xs.length):∃s',cutSl s (l:Int) (m:Int) E.w=some s'∧Sq E h S s' ((xs.drop l).take (m-l))∧∀h0,Own h0 s→Own h0 s':=by
 obtain⟨⟨rows,c,a⟩,ln,sh,at'⟩:=n;have hr:=Ef.rows a;obtain⟨s',e,l',c',o⟩:=c.cut h1 (by rw[ln];exact h2);refine⟨s',e,⟨⟨(rows.drop l).take (m-l),?_,(a.drop l).take _⟩,by rw[l',List.length_take,List.length_drop];omega,by rw[List.length_take,List.length_drop];omega,?_⟩,o⟩
 ·rw[← kz3 (fun r hr'=>hr r (List.mem_of_mem_drop hr')),← k0g hr];exact c'
 ·rcases at' with h0 | h0
  ·left
   rw[List.length_take,List.length_drop];omega
  ·right
   intro j o' hj;obtain⟨o2,e2⟩:=kbgw e hj;exact h0 j o2 e2
end Go.Ab

/- squeezed -/
namespace Go.Ab
theorem AH.setBlk_get{h:AH}{l:Nat}{b:ABlk}(hl:l<h.blks.size):(h.setBlk l b).blks[l]?=some b:=by
 simp[AH.setBlk,hl]
theorem AH.setBlk_ne{h:AH}{l i:Nat}{b:ABlk}(hi:i≠l):(h.setBlk l b).blks[i]?=h.blks[i]?:=by
 simp only[AH.setBlk];rw[Array.getElem?_setIfInBounds_ne (fun e=>hi e.symm)]
theorem AH.setBlk_size(h:AH)(l:Nat)(b:ABlk):(h.setBlk l b).blks.size=h.blks.size:=by simp[AH.setBlk]
theorem AH.setBlk_setBlk(h:AH)(l:Nat)(b c:ABlk):(h.setBlk l b).setBlk l c=h.setBlk l c:=by
 simp[AH.setBlk]
theorem AH.setBlk_same{h:AH}{l:Nat}{b:ABlk}(hb:h.blks[l]?=some b):h.setBlk l b=h:=by
 obtain⟨hl,he⟩:=Array.getElem?_eq_some_iff.1 hb
 have:h.blks.setIfInBounds l b=h.blks:=by
  apply Array.ext
  ·simp
  ·intro i h1 h2;rw[Array.getElem_setIfInBounds];split
   ·subst_vars;rfl
   ·rfl
 unfold AH.setBlk;rw[this]
theorem Grow.setBlk{h h1:AH}(g:Grow h h1){l:Nat}(hl:h.blks.size≤l)(b:ABlk):Grow h (h1.setBlk l b) :=
 ⟨g.old,by rw[AH.setBlk_size];exact g.size,fun i hi=>by rw[AH.setBlk_ne (by omega)];exact g.blk i hi⟩
theorem koh{h:AH}{l:Nat}{pe:Option Code}{f:FuncId}{fr:Fr}{ps:Array Tmp}{bs bd:Code}{d:Nat}(hb:h.blks[l]?=some (.loop .ready pe f fr ps bs bd d)) :
  beginA l h=some (h.setBlk l (.loop .busy pe f fr ps bs bd d)):=by
 simp only[beginA,hb]
theorem kmt{h:AH}{l:Nat}{st:LoopState}{pe:Option Code}{f:FuncId}{fr:Fr}{ps:Array Tmp}{bs bd:Code}{d:Nat}(hb:h.blks[l]?=some (.loop st pe f fr ps bs bd d))(j:Option Code) :
  kcc l j h=some (.bool j.isNone,h.setBlk l (.loop (cond j.isNone .ready .done) j f fr ps bs bd d)):=by
 simp only[kcc,hb]
theorem kp6{h:AH}{l:Nat}{pe:Option Code}{f:FuncId}{fr:Fr}{ps:Array Tmp}{bs bd:Code}{d:Nat}(hb:h.blks[l]?=some (.loop .ready pe f fr ps bs bd d)):kc2 l h=some (pe,h.setBlk l .dead):=by
 simp only[kc2,hb];rfl
theorem kbk2{h:AH}{l:Nat}{pe:Option Code}{f:FuncId}{fr:Fr}{ps:Array Tmp}{bs bd:Code}{d:Nat}(hb:h.blks[l]?=some (.loop .done pe f fr ps bs bd d)):kc2 l h=some (pe,h.setBlk l .dead):=by
 simp only[kc2,hb];rfl
theorem knp{R:Type}{f:FuncId}{a c:List AV}{k:FuncId→List AV→List AV→Option R}:funcK (.func (.func f) a c) k=k f a c:=rfl
theorem Runs.newM{P:AV→AH→Prop}{h:AH}{b:ABlk}{K:Nat→AH→Option (AV×AH)}(H:∀h',h'.blks[h.blks.size]?=some b→Grow h h'→Runs (K h.blks.size h') P):Runs (newM h b K) P :=
 H _ (by simp[AH.alloc]) (Grow.push h _)
end Go.Ab

/- squeezed -/
namespace Go.Ab
variable{P:Program}
structure Md(T:Fp)(h h':AH):Prop where
 old:h'.old=h.old
 size:h.blks.size≤h'.blks.size
 blk:∀j,j<h.blks.size→¬T j→h'.blks[j]?=h.blks[j]?
theorem Md.refl(T:Fp)(h:AH):Md T h h:=⟨rfl,Nat.le_refl _,fun _ _ _=>rfl⟩
theorem Grow.md{h h':AH}(g:Grow h h')(T:Fp):Md T h h':=⟨g.old,g.size,fun j hj _=>g.blk j hj⟩
theorem Upd.md{h h':AH}{i:Nat}(u:Upd h h' i){T:Fp}(t:T i):Md T h h':=⟨u.old,u.size,fun j hj n=>u.blk j (fun e=>n (e▸t)) hj⟩
theorem UpdO.md{h h':AH}{T:Fp}:∀{i:Option Nat},UpdO h h' i→(∀k,i=some k→T k)→Md T h h'
 | none,u,_=>Grow.md u T
 | some k,u,t=>Upd.md u (t k rfl)
theorem Md.grow{h h':AH}{T:Fp}(m:Md T h h')(n:∀j,j<h.blks.size→¬T j):Grow h h':=⟨m.old,m.size,fun j hj=>m.blk j hj (n j hj)⟩
theorem Md.mono{h h':AH}{S T:Fp}(m:Md S h h')(f:∀j,j<h.blks.size→S j→T j):Md T h h':=⟨m.old,m.size,fun j hj n=>m.blk j hj fun s=>n (f j hj s)⟩
theorem Md.next{h h1 h2:AH}{S T:Fp}(a:Md S h h1)(b:Md T h1 h2)(f:∀j,j<h.blks.size→T j→S j):Md S h h2 :=
 ⟨b.old.trans a.old,Nat.le_trans a.size b.size,fun j hj n=>(b.blk j (Nat.lt_of_lt_of_le hj a.size) fun t=>n (f j hj t)).trans (a.blk j hj n)⟩
theorem Md.trans{h h1 h2:AH}{T:Fp}(a:Md T h h1)(b:Md T h1 h2):Md T h h2:=a.next b fun _ _ t=>t
theorem Md.thenG{h h1 h2:AH}{T:Fp}(a:Md T h h1)(b:Grow h1 h2):Md T h h2:=a.next (b.md Fp.no) fun _ _ t=>t.elim
theorem Grow.thenM{h h1 h2:AH}{T:Fp}(a:Grow h h1)(b:Md T h1 h2):Md T h h2:=(a.md T).trans b
def Dis(S T:Fp):Prop:=∀j,S j→T j→False
theorem Dis.symm{S T:Fp}(d:Dis S T):Dis T S:=fun j a b=>d j b a
theorem Dis.no{S:Fp}:Dis S Fp.no:=fun _ _ b=>b
theorem Dis.mono{S T S' T':Fp}(d:Dis S T)(f:∀j,S' j→S j)(g:∀j,T' j→T j):Dis S' T':=fun j a b=>d j (f j a) (g j b)
theorem Md.has{h h':AH}{T:Fp}(m:Md T h h'){i:Nat}{cs:List AV}{e:TypeId}(b:h.has i cs e)(n:¬T i):h'.has i cs e:=(m.blk i b.lt n).trans b
theorem Md.get{h h':AH}{T:Fp}(m:Md T h h'){i:Nat}{b:ABlk}(e:h.blks[i]?=some b)(n:¬T i):h'.blks[i]?=some b :=
 (m.blk i (Array.getElem?_eq_some_iff.1 e).1 n).trans e
theorem Md.cell{h h':AH}{T:Fp}(m:Md T h h'){r:Ref}{v:AV}(hc:h.cell r=some v)(n:∀j o,r=.new j o→¬T j):h'.cell r=some v:=by
 have hi:=AH.cell_inn hc;cases r with
 | old a=>simpa only[AH.cell,m.old]using hc
 | new j o=>simpa only[AH.cell,m.blk j hi (n j o rfl)]using hc
theorem Own.md{h h1:AH}{T:Fp}(m:Md T h h1){s:Sl}(o:Own h1 s):Own h s:=fun q hq=>by
 obtain⟨j,k,e,l⟩:=o q hq;exact⟨j,k,e,Nat.le_trans m.size l⟩
def mixA(h h':AH)(k:Nat):AH:=⟨h'.old,((List.range h.blks.size).map fun i=>(if i<k then h'.blks[i]? else h.blks[i]?).getD .dead).toArray⟩
theorem kfs(h h':AH)(k:Nat):(mixA h h' k).blks.size=h.blks.size:=by simp[mixA]
theorem kjz{h h':AH}{k i:Nat}(hs:h.blks.size≤h'.blks.size)(hi:i<h.blks.size):(mixA h h' k).blks[i]?=if i<k then h'.blks[i]? else h.blks[i]?:=by
 have hi':i<h'.blks.size:=Nat.lt_of_lt_of_le hi hs;simp only[mixA,List.getElem?_toArray,List.getElem?_map,List.getElem?_range hi,Option.map_some];split
 ·rw[Array.getElem?_eq_getElem hi'];rfl
 ·rw[Array.getElem?_eq_getElem hi];rfl
theorem Ef.md{α:Type}(E:Ef α){h h':AH}{S T:Fp}{cs:List AV}{a:α}(m:Md T h h')(d:Dis S T)(e:E.has h S cs a):E.has h' S cs a:=by
 have key:∀k,k≤h.blks.size→E.has (mixA h h' k) S cs a:=by
  intro k
  induction k with
  | zero =>
   intro _;refine E.grow ⟨m.old,by rw[kfs];exact Nat.le_refl _,fun i hi=>?_⟩ e;rw[kjz m.size hi,if_neg (by omega)]
  | succ k ih =>
   intro hk;have e':=ih (by omega);by_cases hS:S k
   ·have hT:¬T k:=fun t=>d k hS t;refine E.grow (show Grow (mixA h h' k) (mixA h h' (k+1))from⟨rfl,by rw[kfs,kfs];exact Nat.le_refl _,fun i hi=>?_⟩) e';rw[kfs]at hi;rw[kjz m.size hi,kjz m.size hi];by_cases h1:i=k
    ·subst h1;rw[if_pos (by omega),if_neg (by omega),m.blk i hi hT]
    ·by_cases h2:i<k
     ·rw[if_pos (by omega),if_pos h2]
     ·rw[if_neg (by omega),if_neg h2]
   ·refine E.upd hS (show Upd (mixA h h' k) (mixA h h' (k+1)) k from⟨rfl,by rw[kfs,kfs];exact Nat.le_refl _,fun i hne hi=>?_⟩) e';rw[kfs]at hi;rw[kjz m.size hi,kjz m.size hi];by_cases h2:i<k
    ·rw[if_pos (by omega),if_pos h2]
    ·rw[if_neg (by omega),if_neg h2]
 refine E.grow (show Grow (mixA h h' h.blks.size) h' from⟨rfl,by rw[kfs];exact m.size,fun i hi=>?_⟩) (key _ (Nat.le_refl _));rw[kfs]at hi;rw[kjz m.size hi,if_pos hi]
theorem Cells.md{h h':AH}{s:Sl}{n:Nat}{flat:List AV}(c:Cells h s n flat){T:Fp}(m:Md T h h')(no:∀j o,s.ref=some (.new j o)→¬T j):Cells h' s n flat :=
 ⟨c.fit,c.len,fun k v hv=>by
  obtain⟨r,e1,e2⟩:=c.get k v hv;refine⟨r,e1,m.cell e2 fun j o he=>?_⟩;cases r with
  | old a=>cases he
  | new j' p =>
   simp only[Ref.add_new,Ref.new.injEq]at he;obtain⟨rfl,_⟩:=he;exact no _ p e1⟩
section
variable{α:Type}{E:Ef α}
theorem Sq.md{h h':AH}{S T:Fp}{s:Sl}{xs:List α}(n:Sq E h S s xs)(m:Md T h h')(d:Dis S T):Sq E h' S s xs:=by
 obtain⟨s',e,n'⟩:=Ef.md (Ef.seq E) m d (show(Ef.seq E).has h S [s.v] xs from⟨s,rfl,n⟩);cases Sl.vs_inj e;exact n'
theorem Nats.mdE{h h':AH}{S T:Fp}{s:Sl}{xs:List Nat}(n:Nats h s xs)(a:∀j,¬Av s j xs→S j)(m:Md T h h')(d:Dis S T):Nats h' s xs:=by
 obtain⟨s',e,n',_⟩:=Ef.md Ef.nats m d (show Ef.nats.has h S [s.v] xs from⟨s,rfl,n,a⟩);cases Sl.vs_inj e;exact n'
theorem GF.md{elem:TypeId}{h h':AH}{S T:Fp}{s:Sl}(m:Md T h h')(d:Dis S T):∀{j:Option Nat}{xs:List α},GF E elem h S s j xs→(∀k,j=some k→¬T k)→GF E elem h' S s j xs
 | .none,_,v,_=>v
 | .some k,_,⟨l,a,r,ln,rows,e,b,c,r2⟩,ne=>⟨l,a,r,ln,rows,e,m.has b (ne k rfl),c,r2.imp fun _ _=>E.md m d⟩
end
end Go.Ab

/- squeezed -/
namespace Go.Ab
def kvGet{A:Type}:List (Int×A)→Int→Option A
 | [],_=>none
 | (k,v)::t,n=>if n=k then some v else kvGet t n
def kvPut{A:Type}:List (Int×A)→Int→A→List (Int×A)
 | [],n,v=>[(n,v)]
 | (k,w)::t,n,v=>if n=k then(k,v)::t else(k,w)::kvPut t n v
def kvDel{A:Type}:List (Int×A)→Int→List (Int×A)
 | [],_=>[]
 | (k,w)::t,n=>if n=k then t else(k,w)::kvDel t n
theorem kbcm{A:Type}(l:List (Int×A))(n m:Int)(v:A):kvGet (kvPut l n v) m=if m=n then some v else kvGet l m:=by
 induction l with
 | nil=>simp[kvPut,kvGet]
 | cons p t ih =>
  obtain⟨k,w⟩:=p;simp only[kvPut];by_cases h:n=k
  ·subst h;rw[if_pos rfl];simp only[kvGet];by_cases h2:m=n
   ·rw[if_pos h2,if_pos h2]
   ·rw[if_neg h2,if_neg h2,if_neg h2]
  ·rw[if_neg h];simp only[kvGet,ih];by_cases h2:m=k
   ·rw[if_pos h2,if_pos h2,if_neg (by omega)]
   ·rw[if_neg h2,if_neg h2]
theorem kz4{A:Type}{l:List (Int×A)}{n:Int}(v:A)(h:kvGet l n=none):kvPut l n v=l++[(n,v)]:=by
 induction l with
 | nil=>rfl
 | cons p t ih =>
  obtain⟨k,w⟩:=p;simp only[kvGet]at h;by_cases e:n=k
  ·rw[if_pos e]at h;cases h
  ·rw[if_neg e]at h;simp only[kvPut,if_neg e,ih h,List.cons_append]
theorem k0a{A:Type}{l:List (Int×A)}{n:Int}{w:A}(v:A)(h:kvGet l n=some w):(kvPut l n v).length=l.length:=by
 induction l with
 | nil=>cases h
 | cons p t ih =>
  obtain⟨k,u⟩:=p;simp only[kvGet]at h;by_cases e:n=k
  ·simp only[kvPut,if_pos e,List.length_cons]
  ·rw[if_neg e]at h;simp only[kvPut,if_neg e,List.length_cons,ih h]
def Kv(es:List AEnt)(l:List (Int×AV)):Prop:=es.map (fun e=>(e.key,e.val))=l.map fun p=>(AV.int .i64 p.1,p.2)
theorem Kv.nil:Kv [] []:=rfl
theorem Kv.len{es:List AEnt}{l:List (Int×AV)}(k:Kv es l):es.length=l.length:=by
 have:=congrArg List.length k
 simpa using this
theorem kug{n:Int}:∀{es:List AEnt}{l:List (Int×AV)}(j:Nat),Kv es l→
  (findA .i64 n es j=some none∧kvGet l n=none∧(∀v b,Kv (es++[⟨.int .i64 n,v,b⟩]) (kvPut l n v))∧kvDel l n=l)∨
  ∃t v,findA .i64 n es j=some (some (j+t,v))∧t<es.length∧kvGet l n=some v∧(∀w,Kv (es.modify t fun e=>⟨.int .i64 n,w,e.born⟩) (kvPut l n w))∧Kv (es.eraseIdx t) (kvDel l n)
 | [],l,j,k=>by
  cases l with
  | nil=>exact .inl ⟨rfl,rfl,fun v b=>rfl,rfl⟩
  | cons p t=>simp[Kv]at k
 | e::es,l,j,k=>by
  cases l with
  | nil=>simp[Kv]at k
  | cons p t =>
   obtain⟨m,w⟩:=p;simp only[Kv,List.map_cons,List.cons.injEq,Prod.mk.injEq]at k;obtain⟨⟨k1,k2⟩,k3⟩:=k;have ih:=kug (n:=n) (j+1) (show Kv es t from k3);simp only[findA,k1,decide_true,cond_true,kvGet,kvPut,kvDel];by_cases h:n=m
   ·subst h
    right
    refine⟨0,e.val,by simp,by simp,by rw[if_pos rfl,k2],fun u=>?_,?_⟩
    ·simp only[if_true];simp only[Kv,List.modify_zero_cons,List.map_cons];rw[show es.map _=t.map _ from k3]
    ·simp only[if_true];exact k3
   ·rw[decide_eq_false h,cond_false];simp only[if_neg h];rcases ih with⟨a,b,c,d⟩ | ⟨x,v,a,b,c,d,f⟩
    ·left
     refine⟨a,b,fun v bb=>?_,by rw[d]⟩;have:=c v bb;simp only[Kv,List.map_append,List.cons_append,List.map_cons]at this⊢;rw[this,k1,k2]
    ·right
     refine⟨x+1,v,by rw[a];congr 3;omega,by simp;omega,c,fun u=>?_,?_⟩
     ·have:=d u;simp only[Kv,List.modify_succ_cons,List.map_cons]at this⊢;rw[this,k1,k2]
     ·simp only[Kv,List.eraseIdx_cons_succ,List.map_cons]at f⊢;rw[f,k1,k2]
def MapIs(h:AH)(i:Nat)(l:List (Int×AV)):Prop:=∃es ck,h.blks[i]?=some (.map es ck)∧Kv es l
theorem MapIs.lt{h:AH}{i:Nat}{l:List (Int×AV)}(m:MapIs h i l):i<h.blks.size:=by
 obtain⟨es,ck,e,_⟩:=m;exact(Array.getElem?_eq_some_iff.1 e).1
theorem MapIs.md{h h':AH}{i:Nat}{l:List (Int×AV)}{T:Fp}(m:MapIs h i l)(d:Md T h h')(n:¬T i):MapIs h' i l:=by
 obtain⟨es,ck,e,k⟩:=m;exact⟨es,ck,d.get e n,k⟩
theorem MapIs.grow{h h':AH}{i:Nat}{l:List (Int×AV)}(m:MapIs h i l)(g:Grow h h'):MapIs h' i l:=m.md (g.md Fp.no) Fp.not_no
theorem AH.setBlk_Upd{h:AH}{i:Nat}(b:ABlk):Upd h (h.setBlk i b) i:=⟨rfl,by rw[AH.setBlk_size];exact Nat.le_refl _,fun j hj _=>AH.setBlk_ne hj⟩
section
variable{h:AH}{i:Nat}{l:List (Int×AV)}
theorem MapIs.at(m:MapIs h i l):∃es ck,h.mapAt i=some (es,ck)∧Kv es l:=by
 obtain⟨es,ck,e,k⟩:=m;exact⟨es,ck,by simp only[AH.mapAt,e],k⟩
theorem MapIs.get(m:MapIs h i l)(n:Int):mapGet h (some i) .i64 n=some (kvGet l n):=by
 obtain⟨es,ck,e,k⟩:=m.at;simp only[mapGet,e,Option.bind_some];rcases kug (n:=n) 0 k with⟨a,b,_⟩ | ⟨t,v,a,_,b,_⟩
 ·rw[a,b];rfl
 ·rw[a,b];rfl
theorem MapIs.put(m:MapIs h i l)(n:Int)(v:AV):∃h',mapPut h i .i64 n v=some h'∧MapIs h' i (kvPut l n v)∧Upd h h' i:=by
 have hl:=m.lt;obtain⟨es,ck,e,k⟩:=m.at;simp only[mapPut,e,Option.bind_some];rcases kug (n:=n) 0 k with⟨a,b,c,_⟩ | ⟨t,w,a,_,b,c,_⟩
 ·rw[a];exact⟨_,rfl,⟨_,_,AH.setBlk_get hl,c v ck⟩,AH.setBlk_Upd _⟩
 ·rw[a,Nat.zero_add];exact⟨_,rfl,⟨_,_,AH.setBlk_get hl,c v⟩,AH.setBlk_Upd _⟩
theorem MapIs.size(m:MapIs h i l):mapLen h (some i)=some l.length:=by
 obtain⟨es,ck,e,k⟩:=m.at;simp only[mapLen,e,Option.map_some,k.len]
theorem MapIs.clear(m:MapIs h i l):∃h',kmy h (some i)=some h'∧MapIs h' i []∧Upd h h' i:=by
 have hl:=m.lt;obtain⟨es,ck,e,k⟩:=m.at;simp only[kmy,e,Option.map_some];exact⟨_,rfl,⟨_,_,AH.setBlk_get hl,Kv.nil⟩,AH.setBlk_Upd _⟩
end
section
variable{P:AV→AH→Prop}
theorem Runs.call{x:Option (AV×AH)}{Q:AV→AH→Prop}{K:AV×AH→Option (AV×AH)}(r:Runs x Q)(H:∀v h',Q v h'→Runs (K (v,h')) P):Runs (x.bind K) P:=by
 obtain⟨v,h',e,q⟩:=r;subst e;exact H v h' q
theorem Runs.newMap{h:AH}{K:Nat→AH→Option (AV×AH)}(H:∀h',MapIs h' h.blks.size []→Grow h h'→Runs (K h.blks.size h') P):Runs (Go.Ab.newM h (.map [] 0) K) P :=
 Runs.newM fun h' e g=>H h' ⟨[],0,e,Kv.nil⟩ g
theorem klc{n:Nat}{G:Int→AH→Option (AV×AH)}{p:Nat→Bool}{h0:AH}
  (step:∀(i:Nat)(h:AH)(P:AV→AH→Prop),i<n→Grow h0 h→(∀h',Grow h0 h'→p i=true→P (.int .i64 (i:Int)) h')→(∀h',Grow h0 h'→p i=false→Runs (G ((i+1:Nat):Int) h') P)→Runs (G (i:Int) h) P)
  (done:∀(h:AH),Grow h0 h→G (n:Int) h=some (.int .i64 (-1),h)):∀(k i:Nat),i+k=n→∀{h:AH},Grow h0 h→(∀j,j<i→p j=false)→
  Runs (G (i:Int) h) fun v h'=>Grow h0 h'∧((v=.int .i64 (-1)∧∀j,j<n→p j=false)∨∃j,j<n∧v=.int .i64 (j:Int)∧p j=true∧∀t,t<j→p t=false):=by
 intro k
 induction k with
 | zero =>
  intro i hi h g hp;have:i=n:=by omega
  subst this;rw[done h g];exact Runs.ret ⟨g,.inl ⟨rfl,hp⟩⟩
 | succ k ih =>
  intro i hi h g hp;refine step i h _ (by omega) g (fun h' g' e=>⟨g',.inr ⟨i,by omega,rfl,e,hp⟩⟩) fun h' g' e=>ih (i+1) (by omega) g' fun j hj=>?_;rcases Nat.lt_or_ge j i with h1 | h1
  ·exact hp j h1
  ·have:j=i:=by omega
   subst this;exact e
theorem Runs.contains{α:Type}{xs:List α}{p:α→Bool}{x:Option (AV×AH)}{h0:AH}(R:Runs x fun v h'=>Grow h0 h'∧((v=.int .i64 (-1)∧∀j,j<xs.length→(xs[j]?).any p=false)∨∃j,j<xs.length∧v=.int .i64 (j:Int)∧(xs[j]?).any p=true∧∀t,t<j→(xs[t]?).any p=false)) :
  Runs (x.bind fun q=>((some q.1).bind (AV.asInt .i64)).bind fun n=>some (.bool (decide (n≥0)),q.2)) fun v h'=>v=.bool (xs.any p)∧Grow h0 h':=by
 refine R.call fun v h' ⟨g,d⟩=>?_;rcases d with⟨rfl,a⟩ | ⟨j,hj,rfl,a,_⟩
 ·refine Runs.step (seen (kc _ _)) (Runs.ret ⟨?_,g⟩)
  have:xs.any p=false:=by
   rw[List.any_eq_false];intro y hy;obtain⟨t,ht,rfl⟩:=List.getElem_of_mem hy;have:=a t ht;rw[List.getElem?_eq_getElem ht]at this
   simpa using this
  rw[this];exact congrArg AV.bool (decide_eq_false (by omega))
 ·refine Runs.step (seen (kc _ _)) (Runs.ret ⟨?_,g⟩)
  have:xs.any p=true:=by
   rw[List.any_eq_true];rw[List.getElem?_eq_getElem hj]at a;exact⟨xs[j],List.getElem_mem hj,by simpa using a⟩
  rw[this];exact congrArg AV.bool (decide_eq_true (by omega))
end
end Go.Ab

/- squeezed -/
namespace Go.Ab
abbrev EI:Ef Int:=Ef.int .i64
section
variable{h:AH}{S:Fp}{s:Sl}
theorem Sq.int{k:IntKind}{xs:List Int}(n:Sq (Ef.int k) h S s xs){i:Nat}(hi:i<xs.length):∃r:Ref,idx s.ref s.len (i:Int) 1=some r∧(h.cell r).bind (AV.asInt k)=some xs[i]:=by
 obtain⟨r,cs,e1,e2,l⟩:=n.at (kju hi);have e2:cs=[.int k xs[i]]:=e2;subst e2;rw[n.len];exact⟨r,e1,l.rd0 (Grow.refl _) rfl (kc _ _)⟩
theorem Sq.sl{α:Type}{E:Ef α}{xs:List (List α)}(n:Sq (Ef.seq E) h S s xs){i:Nat}(hi:i<xs.length):∃(r:Ref)(s':Sl),idx s.ref s.len (i:Int) 1=some r∧(h.cell r).bind AV.asSl=some s'∧(h.cell (r.add 0)).bind AV.asSl=some s'∧Sq E h S s' xs[i]:=by
 obtain⟨r,cs,e1,⟨s',rfl,n'⟩,l⟩:=n.at (kju hi);rw[n.len];exact⟨r,s',e1,l.rd0 (Grow.refl _) rfl (asSl_v _),l.rd (Grow.refl _) 0 rfl (asSl_v _),n'⟩
theorem Sq.nats{xs:List (List Nat)}(n:Sq Ef.nats h S s xs){i:Nat}(hi:i<xs.length):∃(r:Ref)(s':Sl),idx s.ref s.len (i:Int) 1=some r∧(h.cell r).bind AV.asSl=some s'∧Nats h s' xs[i]∧∀j,¬Av s' j xs[i]→S j:=by
 obtain⟨r,cs,e1,⟨s',rfl,n',a⟩,l⟩:=n.at (kju hi);rw[n.len];exact⟨r,s',e1,l.rd0 (Grow.refl _) rfl (asSl_v _),n',a⟩
end
theorem kba3{P:Program}{h:AH}{t e:TypeId}{cs:List AV}{k:IntKind}(S:Fp)(hu:P.underlying t=some (.slice e))(he:P.underlying e=some (.int k))(hc:P.cellsOf e=1)(a:ArgT P h t cs):∃(s:Sl)(xs:List Int),cs=[s.v]∧Sq (Ef.int k) h S s xs :=
 Sq.of_arg (E:=Ef.int k) hu hc (fun es t=>by
  obtain⟨y,rfl,w⟩:=t.int he;exact⟨y,rfl⟩) a
structure Nd where
 leaf:Bool
 weight:Int
 party:Int
 feature:Int
 cut:Int
 left:Int
 right:Int
 deriving DecidableEq
def Nd.cells(x:Nd):List AV:=[.bool x.leaf,.int .i64 x.weight,.int .i64 x.party,.int .i64 x.feature,.int .i64 x.cut,.int .i64 x.left,.int .i64 x.right]
@[reducible] def Ef.nd:Ef Nd where
 w:=7
 pos:=by decide
 has _ _ cs x:=cs=x.cells
 len e:=by rw[e];rfl
 grow _ e:=e
 mono _ e:=e
 upd _ _ e:=e
 bound e:=e
theorem Sq.nd{h:AH}{S:Fp}{s:Sl}{xs:List Nd}(n:Sq Ef.nd h S s xs){i:Nat}(hi:i<xs.length):∃r:Ref,idx s.ref s.len (i:Int) 7=some r∧(h.cell (r.add 0)).bind AV.asBool=some xs[i].leaf∧(h.cell (r.add 1)).bind (AV.asInt .i64)=some xs[i].weight∧
  (h.cell (r.add 2)).bind (AV.asInt .i64)=some xs[i].party∧(h.cell (r.add 3)).bind (AV.asInt .i64)=some xs[i].feature∧(h.cell (r.add 4)).bind (AV.asInt .i64)=some xs[i].cut∧(h.cell (r.add 5)).bind (AV.asInt .i64)=some xs[i].left∧(h.cell (r.add 6)).bind (AV.asInt .i64)=some xs[i].right:=by
 obtain⟨r,cs,e1,e2,l⟩:=n.at (kju hi);have e2:cs=xs[i].cells:=e2;subst e2;rw[n.len];have g:=Grow.refl h;exact⟨r,e1,l.rd g 0 rfl rfl,l.rd g 1 rfl (kc _ _),l.rd g 2 rfl (kc _ _),l.rd g 3 rfl (kc _ _),l.rd g 4 rfl (kc _ _),l.rd g 5 rfl (kc _ _),l.rd g 6 rfl (kc _ _)⟩
theorem k8r{α:Type}{xs:List α}{i:Nat}(hi:i<xs.length)(p:α→Bool):(xs.drop i).all p=(p xs[i]&&(xs.drop (i+1)).all p):=by
 rw[List.drop_eq_getElem_cons hi,List.all_cons]
theorem kob{α:Type}{xs:List α}{i:Nat}(hi:xs.length≤i)(p:α→Bool):(xs.drop i).all p=true:=by
 rw[List.drop_of_length_le hi];rfl
theorem kr4{n i:Nat}(hi:i<n)(p:Nat→Bool):((List.range n).drop i).all p=(p i&&((List.range n).drop (i+1)).all p):=by
 rw[k8r (by simpa using hi),List.getElem_range]
end Go.Ab

/- squeezed -/
namespace Go.Num
def half(n:Nat):Nat:=(n+1)/2
theorem k63{n:Nat}(ho:n%2=1)(e:Nat):(2^e*half n^e)%n=1%n:=by
 rw[← Nat.mul_pow,show 2*half n=n+1 from by unfold half;omega,Nat.pow_mod,Nat.add_mod_left,← Nat.pow_mod,Nat.one_pow]
def redc(n e z:Nat):Nat:=z*half n^e%n
theorem kiu(n e z:Nat):redc n e (z%n)=redc n e z:=by
 unfold redc;rw[Nat.mod_mul_mod]
theorem kp7{n:Nat}(ho:n%2=1)(e x:Nat):redc n e (x*2^e)=x%n:=by
 unfold redc;rw[Nat.mul_assoc,Nat.mul_mod,k63 ho,← Nat.mul_mod,Nat.mul_one]
theorem k2v{n e r z:Nat}(ho:n%2=1)(hr:r<n)(h:(r*2^e)%n=z%n):r=redc n e z:=by
 rw[← kiu,← h,kiu,kp7 ho,Nat.mod_eq_of_lt hr]
theorem kbf6{n e x y:Nat}(ho:n%2=1):redc n e (x*2^e%n*(y*2^e%n))=x*y*2^e%n:=by
 rw[← kiu,← Nat.mul_mod,kiu,show x*2^e*(y*2^e)=x*y*2^e*2^e from by simp only[Nat.mul_assoc,Nat.mul_comm,Nat.mul_left_comm],kp7 ho]
theorem k6z{n e a:Nat}(ho:n%2=1):redc n e (a*(2^e*2^e%n))=a*2^e%n:=by
 rw[← kiu,Nat.mul_mod_mod,kiu,← Nat.mul_assoc,kp7 ho]
theorem kbcn{n e x:Nat}(ho:n%2=1):redc n e (x*2^e%n*1)=x%n:=by
 rw[Nat.mul_one,kiu,kp7 ho]
theorem kbep{b T Y x N v:Nat}(hb:0<b)(hv:(N*v+1)%b=0):(T+Y*x+N*((T+Y*x)%b*v%b))%b=0:=by
 generalize T+Y*x=U
 have e1:(U+N*(U%b*v%b))%b=(U+N*(U*v))%b:=by
  rw[Nat.add_mod,Nat.mul_mod_mod_aux N U v b,← Nat.add_mod]
 rw[e1,show U+N*(U*v)=U*(N*v+1)from by rw[Nat.mul_add,Nat.mul_one,Nat.add_comm];simp only[Nat.mul_comm,Nat.mul_left_comm],Nat.mul_mod,hv,Nat.mul_zero,Nat.zero_mod]
where
 Nat.mul_mod_mod_aux (N U v b:Nat):N*(U%b*v%b)%b=N*(U*v)%b:=by
  rw[Nat.mul_mod_mod,← Nat.mul_mod_mod,Nat.mod_mul_mod,Nat.mul_mod_mod]
theorem kbj2{b T Y x N m:Nat}(hT:T<Y+N)(hx:x<b)(hm:m<b):(T+Y*x+N*m)/b<Y+N:=by
 have hb:0<b:=by omega
 rw[Nat.div_lt_iff_lt_mul hb];have h1:Y*x≤Y*(b-1):=Nat.mul_le_mul_left _ (by omega);have h2:N*m≤N*(b-1):=Nat.mul_le_mul_left _ (by omega);obtain⟨c,rfl⟩:∃c,b=c+1:=⟨b-1,by omega⟩;rw[Nat.add_mul,Nat.mul_add Y,Nat.mul_add N,Nat.mul_one,Nat.mul_one];simp only[Nat.add_sub_cancel]at h1 h2;omega
theorem kbil{b p T Y x X N M m T':Nat}(h:T*p=X*Y+N*M)(e:T+Y*x+N*m=T'*b):T'*(p*b)=(X+p*x)*Y+N*(M+p*m):=by
 have:T'*(p*b)=(T'*b)*p:=by simp only[Nat.mul_assoc,Nat.mul_comm,Nat.mul_left_comm]
 rw[this,← e,Nat.add_mul,Nat.add_mul,h,Nat.add_mul,Nat.mul_add];simp only[Nat.mul_assoc,Nat.mul_comm,Nat.mul_left_comm];omega
theorem newton{n x p w:Nat}(hw:w=p*p)(h:(n*x)%p=1%p):∀y:Int,(y%(w:Int))=((x:Int)*(2-(n:Int)*x))%(w:Int)→((n:Int)*y)%(w:Int)=1%(w:Int):=by
 intro y hy;have h1:((n:Int)*x)%(p:Int)=1%(p:Int):=by exact_mod_cast h
 have h2:(p:Int)∣((n:Int)*x-1):=(Int.emod_emod_of_dvd_aux h1);obtain⟨c,hc⟩:=h2;have h3:(n:Int)*x=1+p*c:=by omega
 rw[← Int.mul_emod_aux (n:Int) y (w:Int),hy,Int.mul_emod_aux]
 have e:(n:Int)*((x:Int)*(2-(n:Int)*x))=1+(w:Int)*(-(c*c)):=by
  rw[← Int.mul_assoc,h3,hw]
  push_cast
  have:(1+(p:Int)*c)*(2-(1+p*c))=1-(p*c)*(p*c):=by
   generalize (p:Int)*c=t;rw[Int.mul_sub,Int.add_mul 1 t (1+t),Int.mul_add,Int.mul_add];omega
  rw[this,Int.mul_neg,Int.sub_eq_add_neg];congr 2;simp only[Int.mul_assoc,Int.mul_comm,Int.mul_left_comm]
 rw[e,Int.add_mul_emod_self_left]
where
 Int.emod_emod_of_dvd_aux {a p:Int} (h:a%p=1%p):p∣a-1:=Int.dvd_of_emod_eq_zero (by rw[Int.sub_emod,h,Int.sub_self,Int.zero_emod])
 Int.mul_emod_aux (a y w:Int):a*(y%w)%w=a*y%w:=by rw[Int.mul_emod,Int.emod_emod,← Int.mul_emod]
end Go.Num

/- squeezed -/
set_option maxRecDepth 10000
namespace Go.Ab
open Go.Proofs Go.Num
theorem kwq{h:AH}{s:Sl}{xs:List Nat}(n:Nats h s xs):∀(k:Nat),k≤xs.length→(∀i,k≤i→(hi:i<xs.length)→xs[i]=0)→
  ∃s',go (.pt F.khq Td.kq4 [(0,s.v),(3,.int .i64 (k:Int))]) h=some (s'.v,h)∧Nats h s' (digs B (num B xs))∧∀h0,Own h0 s→Own h0 s'
 | 0,hk,hz=>by
  rw[kws];obtain⟨s',e1,e2,e3⟩:=n.cut (l:=0) (n:=0) (Nat.le_refl _) hk;have:=kjt B2 n.lt hz hk (.inl rfl);simp at e1;simp only[Int.natCast_zero,gt_iff_lt,Int.lt_irrefl,decide_false,cond_false,e1,Option.bind_some];refine⟨s',rfl,?_,e3⟩;rw[← this]
  simpa using e2
 | k+1,hk,hz=>by
  rw[kws];obtain⟨r,e1,e2⟩:=n.at (i:=k) (by omega);have hs:=n.short;rw[klq (by omega)];rw[show(decide (((k+1:Nat):Int)>0))=true from by rw[decide_eq_true_eq];omega];simp only[cond_true,e1,e2,Option.bind_some,kc];by_cases hx:xs[k]=0
  ·rw[hx,show(decide (((0:Nat):Int)=0))=true from rfl,cond_true];refine kwq n k (by omega) fun i hi hil=>?_;rcases Nat.lt_or_ge k i with h1 | h1
   ·exact hz i (by omega) hil
   ·have:i=k:=by omega
    subst this;exact hx
  ·obtain⟨s',e3,e4,e5⟩:=n.cut (l:=0) (n:=k+1) (by omega) hk;have ht:=kjt B2 n.lt hz hk (.inr ⟨by omega,by simpa using hx⟩);rw[show(decide (((xs[k]:Nat):Int)=0))=false from by rw[decide_eq_false_iff_not];omega];simp only[cond_false];rw[show cutSl s 0 ((k+1:Nat):Int) 1=some s' from e3];refine⟨s',rfl,?_,e5⟩;rw[← ht]
   simpa using e4
theorem k5u{h:AH}{s:Sl}{xs:List Nat}(n:Nats h s xs):∃s',go (.fn F.khq [s.v]) h=some (s'.v,h)∧Nats h s' (digs B (num B xs))∧∀h0,Own h0 s→Own h0 s':=by
 rw[kbkt,n.len];exact kwq n xs.length (Nat.le_refl _) fun i h1 h2=>by omega
end Go.Ab

/- squeezed -/
set_option maxRecDepth 10000
namespace Go.Ab
open Go.Proofs Go.Num
inductive kg1
 | fn (x1:List Nat) (x2:List Nat) (a3:Int)
 | p2 (x1:List Nat) (x2:List Nat) (a3:Int) (a4:Int) (a5:Int) (a6:Int)
abbrev keq:=List Nat
noncomputable def ksd(x1 x2:List Nat)(a3:Int):Option (kg1⊕keq) :=
 some (.inl (.p2 x1 x2 a3 0 (List.length x1:Int) 0))
noncomputable def kgk(x1 x2:List Nat)(a3 a4 a5 a6:Int):Option (kg1⊕keq) :=
 cond (decide (a6<a5)) (cond (decide (a6<(List.length x2:Int))) ((atI x2 a6).bind fun y9=>(add64P ((mul64 ((y9:Int)) a3).2) a4 0).bind fun p11=>(inI (List.length x1) a6).bind fun j12=>(add64P (((List.getD x1 j12 0:Nat):Int)) (p11.1) 0).bind fun p13=>(inI (List.length x1) a6).bind fun j14=>(u64P (p13.1)).bind fun w15=>some (.inl (.p2 (List.set x1 j14 w15) x2 a3 (IntKind.wrap .u64 ((IntKind.wrap .u64 (((mul64 ((y9:Int)) a3).1)+(p11.2)))+(p13.2))) a5 (IntKind.wrap .i64 (a6+1))))) ((add64P 0 a4 0).bind fun p9=>(inI (List.length x1) a6).bind fun j10=>(add64P (((List.getD x1 j10 0:Nat):Int)) (p9.1) 0).bind fun p11=>(inI (List.length x1) a6).bind fun j12=>(u64P (p11.1)).bind fun w13=>some (.inl (.p2 (List.set x1 j12 w13) x2 a3 (IntKind.wrap .u64 ((IntKind.wrap .u64 (0+(p9.2)))+(p11.2))) a5 (IntKind.wrap .i64 (a6+1)))))) (some (.inr x1))
noncomputable def kej:kg1→Option (kg1⊕keq)
 | .fn x1 x2 a3=>ksd x1 x2 a3
 | .p2 x1 x2 a3 a4 a5 a6=>kgk x1 x2 a3 a4 a5 a6
@[reducible] def kvb(h0:AH)(a:Sl)(i:Nat)(r:keq)(v:AV)(h':AH):Prop:=v=.tup []∧Vec h' a i r∧Upd h0 h' i
def kmp(r:keq):kg1→Prop
 | .fn x1 x2 a3=>∀{h:AH}{a1:Sl}{a2:Sl}{i1:Nat},Vec h a1 i1 x1→Nats h a2 x2→Av a2 i1 x2→Runs (go (.fn F.kdw [a1.v,a2.v,.int .u64 a3]) h) (kvb h a1 i1 r)
 | .p2 x1 x2 a3 a4 a5 a6=>∀{h0 h:AH}{a1:Sl}{a2:Sl}{i1:Nat},Upd h0 h i1→Vec h a1 i1 x1→Nats h a2 x2→Av a2 i1 x2→Runs (go (.pt F.kdw Td.kl0 [(0,a1.v),(1,a2.v),(2,.int .u64 a3),(6,.int .u64 a4),(12,.int .i64 a5),(13,.int .i64 a6)]) h) (kvb h0 a1 i1 r)
theorem k4g{r:keq}{o:kg1⊕keq}{x1 x2:List Nat}{a3:Int}(e:ksd x1 x2 a3=some o)(good:GoodS (kmp r) r o):kmp r (.fn x1 x2 a3):=by
 intro h a1 a2 i1 v1 n2 av2_1;rw[kbiw];unfold ksd at e;rw[v1.nats.len];cases e;exact good ((Grow.refl _).toUpd _) v1 n2 av2_1
theorem k4z{r:keq}{o:kg1⊕keq}{x1 x2:List Nat}{a3 a4 a5 a6:Int}(e:kgk x1 x2 a3 a4 a5 a6=some o)(good:GoodS (kmp r) r o):kmp r (.p2 x1 x2 a3 a4 a5 a6):=by
 intro h0 h a1 a2 i1 g0 v1 n2 av2_1;rw[kbdq];unfold kgk at e;rw[v1.nats.len];rw[n2.len];refine Runs.cond (fun k7=>?_) (fun k7=>?_)
 ·replace e:=(condT k7).symm.trans e;refine Runs.cond (fun k8=>?_) (fun k8=>?_)
  ·replace e:=(condT k8).symm.trans e;obtain⟨y9,q9,e⟩:=Option.bind_eq_some_iff.1 e;obtain⟨r9,j9,l9⟩:=n2.atI q9;refine Runs.step j9 ?_;refine Runs.step (rdc l9 (kc _ _)) ?_;refine Runs.step (kty ((y9:Int)) a3) ?_;refine Runs.step rfl ?_;refine Runs.step (seen (kc _ _)) ?_;refine Runs.step (seen (kc _ _)) ?_;obtain⟨p11,q11,e⟩:=Option.bind_eq_some_iff.1 e;refine Runs.step (ke8 q11) ?_;refine Runs.step rfl ?_;refine Runs.step (seen (kc _ _)) ?_;refine Runs.step (seen (kc _ _)) ?_;obtain⟨j12,q12,e⟩:=Option.bind_eq_some_iff.1 e;refine Runs.step (v1.idx rfl q12) ?_;refine Runs.step (v1.rd rfl q12 (kc _ _)) ?_;obtain⟨p13,q13,e⟩:=Option.bind_eq_some_iff.1 e;refine Runs.step (ke8 q13) ?_;refine Runs.step rfl ?_;refine Runs.step (seen (kc _ _)) ?_;refine Runs.step (seen (kc _ _)) ?_;obtain⟨j14,q14,e⟩:=Option.bind_eq_some_iff.1 e;refine Runs.step (v1.idx rfl q14) ?_;obtain⟨w15,z15,e⟩:=Option.bind_eq_some_iff.1 e;refine Runs.vput v1 rfl q14 z15 fun H15 v15 u15=>?_;have n2_15:=n2.upda av2_1 u15;cases e;exact good (g0.trans u15) v15 n2_15 av2_1
  ·replace e:=(condF k8).symm.trans e;obtain⟨p9,q9,e⟩:=Option.bind_eq_some_iff.1 e;refine Runs.step (ke8 q9) ?_;refine Runs.step rfl ?_;refine Runs.step (seen (kc _ _)) ?_;refine Runs.step (seen (kc _ _)) ?_;obtain⟨j10,q10,e⟩:=Option.bind_eq_some_iff.1 e;refine Runs.step (v1.idx rfl q10) ?_;refine Runs.step (v1.rd rfl q10 (kc _ _)) ?_;obtain⟨p11,q11,e⟩:=Option.bind_eq_some_iff.1 e;refine Runs.step (ke8 q11) ?_;refine Runs.step rfl ?_;refine Runs.step (seen (kc _ _)) ?_;refine Runs.step (seen (kc _ _)) ?_;obtain⟨j12,q12,e⟩:=Option.bind_eq_some_iff.1 e;refine Runs.step (v1.idx rfl q12) ?_;obtain⟨w13,z13,e⟩:=Option.bind_eq_some_iff.1 e;refine Runs.vput v1 rfl q12 z13 fun H13 v13 u13=>?_;have n2_13:=n2.upda av2_1 u13;cases e;exact good (g0.trans u13) v13 n2_13 av2_1
 ·replace e:=(condF k7).symm.trans e;cases e;cases good;exact Runs.ret ⟨rfl,v1,g0⟩
theorem kbae{s:kg1}{r:keq}(it:Iter kej s r):kmp r s:=Iter.ind (fun s o e good=>by
 cases s with
 | fn x1 x2 a3=>exact @k4g _ _ x1 x2 a3 e good
 | p2 x1 x2 a3 a4 a5 a6=>exact @k4z _ _ x1 x2 a3 a4 a5 a6 e good
 ) it
theorem kqu{h:AH}{a1 a2:Sl}{i1:Nat}{x1 x2:List Nat}{a3:Int}(v1:Vec h a1 i1 x1)(n2:Nats h a2 x2)(av2_1:Av a2 i1 x2){r:keq}(q:runP kej (.fn x1 x2 a3)=some r):Runs (go (.fn F.kdw [a1.v,a2.v,.int .u64 a3]) h) (kvb h a1 i1 r):=kbae (kdc q) v1 n2 av2_1
end Go.Ab

/- squeezed -/
set_option maxRecDepth 10000
namespace Go.Ab
open Go.Proofs Go.Num
def addMul:List Nat→List Nat→Nat→Nat→List Nat
 | [],_,_,_=>[]
 | t::ts,ys,a,c=>(t+ys.headD 0*a+c)%B::addMul ts ys.tail a ((t+ys.headD 0*a+c)/B)
theorem kkz:∀(ts ys:List Nat)(a c:Nat),(addMul ts ys a c).length=ts.length
 | [],_,_,_=>rfl
 | t::ts,ys,a,c=>by rw[addMul,List.length_cons,List.length_cons,kkz]
theorem kq6:∀(ts ys:List Nat)(a c:Nat),∀x∈addMul ts ys a c,x<B
 | [],_,_,_,x,h=>by cases h
 | t::ts,ys,a,c,x,h=>by
  rw[addMul]at h;rcases List.mem_cons.1 h with rfl | h
  ·exact Nat.mod_lt _ (by decide)
  ·exact kq6 ts _ _ _ x h
theorem kqx(b x:Nat)(xs:List Nat):num b (x::xs)=x+b*num b xs:=rfl
theorem kk8(b:Nat)(ys:List Nat):num b ys=ys.headD 0+b*num b ys.tail:=by
 cases ys with
 | nil=>simp[num]
 | cons y ys=>rfl
theorem kur:∀(ts ys:List Nat)(a c:Nat),num B (addMul ts ys a c)=(num B ts+num B ys*a+c)%B^ts.length
 | [],ys,a,c=>by simp[addMul,num,Nat.mod_one]
 | t::ts,ys,a,c=>by
  rw[addMul,kqx,kur ts,kqx,kk8 B ys,List.length_cons,Nat.pow_succ,Nat.mul_comm (B^ts.length) B,Nat.mod_mul];generalize ys.headD 0=y;generalize num B ys.tail=Y;generalize num B ts=T
  have e:t+B*T+(y+B*Y)*a+c=(t+y*a+c)+B*(T+Y*a):=by
   rw[Nat.add_mul,Nat.mul_add,Nat.mul_assoc];omega
  rw[e,Nat.add_mul_mod_self_left,Nat.add_mul_div_left _ _ (show 0<B from by decide)];congr 3;omega
theorem kbk8{t o c:Nat}(ho:o<18446744073709551616)(hc:c<18446744073709551616)(h:(o+t+c)/18446744073709551616<18446744073709551616) :
  (o+(t%18446744073709551616+c+0)%18446744073709551616+0)%18446744073709551616=(o+t+c)%18446744073709551616∧
  IntKind.wrap .u64 (IntKind.wrap .u64 (((t/18446744073709551616:Nat):Int)+(((t%18446744073709551616+c+0)/18446744073709551616:Nat):Int))+(((o+(t%18446744073709551616+c+0)%18446744073709551616+0)/18446744073709551616:Nat):Int))=(((o+t+c)/18446744073709551616:Nat):Int):=by
 rw[wrapU,wrapU];omega
theorem kbfa{o c:Nat}(ho:o<18446744073709551616)(hc:c<18446744073709551616) :
  (o+(0+c+0)%18446744073709551616+0)%18446744073709551616=(o+c)%18446744073709551616∧
  IntKind.wrap .u64 (IntKind.wrap .u64 (0+(((0+c+0)/18446744073709551616:Nat):Int))+(((o+(0+c+0)%18446744073709551616+0)/18446744073709551616:Nat):Int))=(((o+c)/18446744073709551616:Nat):Int):=by
 rw[wrapU,wrapU];omega
theorem kq8{α:Type}(l:List α)(x y:α)(r:List α){n:Nat}(h:n=l.length):(l++x::r).set n y=(l++[y])++r:=by
 subst h;simp
theorem k3d{ys:List Nat}{a:Nat}(ha:a<B)(ly:∀y∈ys,y<B):∀(ts l:List Nat)(c:Nat),(∀t∈ts,t<B)→c<B→l.length+ts.length≤8796093022208→
  Iter kej (.p2 (l++ts) ys (a:Int) (c:Int) ((l.length+ts.length:Nat):Int) (l.length:Int)) (l++addMul ts (ys.drop l.length) a c)
 | [],l,c,_,_,_=>by
  refine .done ?_;show kgk _ _ _ _ _ _=_;unfold kgk;rw[condF (by rw[decide_eq_false_iff_not];simp)];rfl
 | t::ts,l,c,lt,hc,hn=>by
  have ht:=lt t (by simp);have hn':l.length+ts.length+1≤8796093022208:=by simpa[Nat.add_assoc]using hn
  have hj:l.length<(l++t::ts).length:=by simp
  have hg:List.getD (l++t::ts) l.length 0=t:=by rw[kbo hj];simp
  have rek:=fun(c':Nat) (hc':c'<B) (x:Nat)=>k3d ha ly ts (l++[x]) c' (fun t h=>lt t (by simp[h])) hc' (by simp;omega)
  have key:∀(c' x:Nat),c'<B→kgk (l++t::ts) ys (a:Int) (c:Int) ((l.length+(t::ts).length:Nat):Int) (l.length:Int)=some (.inl (.p2 ((l++[x])++ts) ys (a:Int) (c':Int) ((l.length+(t::ts).length:Nat):Int) ((l.length+1:Nat):Int)))→
    x=(t+(ys.drop l.length).headD 0*a+c)%B→c'=(t+(ys.drop l.length).headD 0*a+c)/B→Iter kej (.p2 (l++t::ts) ys (a:Int) (c:Int) ((l.length+(t::ts).length:Nat):Int) (l.length:Int)) (l++addMul (t::ts) (ys.drop l.length) a c):=fun c' x hc' h1 hx hcc=>by
   refine .next h1 ?_;have:=rek c' hc' x;have e1:(l++[x]).length+ts.length=l.length+(t::ts).length:=by simp;omega
   have e2:(l++[x]).length=l.length+1:=by simp
   rw[e1,e2]at this;rw[addMul,← hx,← hcc,List.tail_drop]
   simpa using this
  by_cases hi:l.length<ys.length
  ·have hy:=ly ys[l.length] (List.getElem_mem _);have hd:(ys.drop l.length).headD 0=ys[l.length]:=by rw[List.drop_eq_getElem_cons hi];rfl
   rw[hd]at key;have hcl:(t+ys[l.length]*a+c)/B<B:=by rw[Nat.add_comm t];exact kvp hy ha ht hc
   obtain⟨c1,c2⟩:=kbk8 (t:=ys[l.length]*a) ht hc hcl;refine key _ _ hcl ?_ rfl rfl;unfold kgk;rw[condT (by rw[decide_eq_true_eq];rw[List.length_cons];omega),condT (by rw[decide_eq_true_eq];omega),kbn hi,Option.bind_some,ksw hy ha];dsimp only;have a1:=kgf (ys[l.length]*a%B) c (c:=0) (by omega);have a2:=kgf t ((ys[l.length]*a%B+c+0)%18446744073709551616) (c:=0) (by omega);rw[show((0:Nat):Int)=0 from rfl]at a1 a2;rw[a1,Option.bind_some,kz hj,Option.bind_some,hg];dsimp only;rw[a2,Option.bind_some,Option.bind_some];dsimp only;rw[c1,c2,kbf (Nat.mod_lt _ (by decide)),Option.bind_some,kj (by omega),kq8 l t _ ts rfl]
  ·have hd:(ys.drop l.length).headD 0=0:=by rw[List.drop_eq_nil_of_le (by omega)];rfl
   simp only[hd,Nat.zero_mul,Nat.add_zero]at key
   have hcl:(t+c)/B<B:=by
    have:t<18446744073709551616:=ht;have:c<18446744073709551616:=hc;show(t+c)/18446744073709551616<18446744073709551616;omega
   obtain⟨c1,c2⟩:=kbfa ht hc;refine key _ _ hcl ?_ rfl rfl;unfold kgk;rw[condT (by rw[decide_eq_true_eq];rw[List.length_cons];omega),condF (by rw[decide_eq_false_iff_not];omega)];have a1:=kgf 0 c (c:=0) (by omega);have a2:=kgf t ((0+c+0)%18446744073709551616) (c:=0) (by omega);rw[show((0:Nat):Int)=0 from rfl]at a1 a2;rw[a1,Option.bind_some,kz hj,Option.bind_some,hg];dsimp only;rw[a2,Option.bind_some,Option.bind_some];dsimp only;rw[c1,c2,kbf (Nat.mod_lt _ (by decide)),Option.bind_some,kj (by omega),kq8 l t _ ts rfl]
theorem kxd{ts ys:List Nat}{a:Nat}(lt:∀t∈ts,t<B)(ly:∀y∈ys,y<B)(ha:a<B)(hn:ts.length≤8796093022208):runP kej (.fn ts ys (a:Int))=some (addMul ts ys a 0):=by
 refine kcw (.next rfl ?_);have:=k3d ha ly ts [] 0 lt (by decide) (by simpa using hn)
 simpa using this
end Go.Ab

/- squeezed -/
set_option maxRecDepth 10000
namespace Go.Ab
open Go.Proofs Go.Num
inductive kft
 | fn (x1c0:List Nat) (z1c1:Int) (x1c2:List Nat) (x1c3:List Nat) (x2:List Nat) (x3:List Nat)
 | p4 (x1c0:List Nat) (z1c1:Int) (x1c2:List Nat) (x1c3:List Nat) (x2:List Nat) (x3:List Nat) (a4:Int) (x5:List Nat) (a6:Int) (a7:Int)
abbrev kd5:=List Nat
noncomputable def kld(x1c0:List Nat)(z1c1:Int)(x1c2 x1c3 x2 x3:List Nat):Option (kft⊕kd5) :=
 (mkI (IntKind.wrap .i64 ((List.length x1c0:Int)+2)) (IntKind.wrap .i64 ((List.length x1c0:Int)+2))).bind fun m4=>some (.inl (.p4 x1c0 z1c1 x1c2 x1c3 x2 x3 (List.length x1c0:Int) (List.replicate m4 0) (List.length x1c0:Int) 0))
noncomputable def khn(x1c0:List Nat)(z1c1:Int)(x1c2 x1c3 x2 x3:List Nat)(a4:Int)(x5:List Nat)(a6 a7:Int):Option (kft⊕kd5) :=
 cond (decide (a7<a6)) (cond (decide (a7<(List.length x2:Int))) ((atI x2 a7).bind fun y10=>(runP kej (.fn x5 x3 ((y10:Int)))).bind fun p11=>(need (List.length p11=List.length x5)).bind fun c11=>(inI (List.length x5) 0).bind fun j12=>(runP kej (.fn p11 x1c0 (IntKind.wrap .u64 ((((List.getD p11 j12 0:Nat):Int))*z1c1)))).bind fun p13=>(need (List.length p13=List.length p11)).bind fun c13=>(cutP (List.length x5) 1 (List.length x5:Int)).bind fun p14=>(overW p13 (List.take p14.2 (List.drop p14.1 p13))).bind fun y15=>(inI (List.length x5) (IntKind.wrap .i64 (a4+1))).bind fun j16=>(u64P 0).bind fun w17=>some (.inl (.p4 x1c0 z1c1 x1c2 x1c3 x2 x3 a4 (List.set y15 j16 w17) a6 (IntKind.wrap .i64 (a7+1))))) ((runP kej (.fn x5 x3 0)).bind fun p10=>(need (List.length p10=List.length x5)).bind fun c10=>(inI (List.length x5) 0).bind fun j11=>(runP kej (.fn p10 x1c0 (IntKind.wrap .u64 ((((List.getD p10 j11 0:Nat):Int))*z1c1)))).bind fun p12=>(need (List.length p12=List.length p10)).bind fun c12=>(cutP (List.length x5) 1 (List.length x5:Int)).bind fun p13=>(overW p12 (List.take p13.2 (List.drop p13.1 p12))).bind fun y14=>(inI (List.length x5) (IntKind.wrap .i64 (a4+1))).bind fun j15=>(u64P 0).bind fun w16=>some (.inl (.p4 x1c0 z1c1 x1c2 x1c3 x2 x3 a4 (List.set y14 j15 w16) a6 (IntKind.wrap .i64 (a7+1)))))) (cond (decide ((cmpN (digs B (num B x5)) x1c0)≥0)) (some (.inr ((subN (digs B (num B x5)) x1c0).1))) (some (.inr (digs B (num B x5)))))
noncomputable def kc9:kft→Option (kft⊕kd5)
 | .fn x1c0 z1c1 x1c2 x1c3 x2 x3=>kld x1c0 z1c1 x1c2 x1c3 x2 x3
 | .p4 x1c0 z1c1 x1c2 x1c3 x2 x3 a4 x5 a6 a7=>khn x1c0 z1c1 x1c2 x1c3 x2 x3 a4 x5 a6 a7
@[reducible] def kr6(h0:AH)(r:kd5)(v:AV)(h':AH):Prop:=∃s1:Sl,v=s1.v∧Nats h' s1 r∧Grow h0 h'∧Own h0 s1
def kmo(r:kd5):kft→Prop
 | .fn x1c0 z1c1 x1c2 x1c3 x2 x3=>∀{h:AH}{s1c0:Sl}{s1c2:Sl}{s1c3:Sl}{a2:Sl}{a3:Sl}{i1:Nat},h.has i1 [s1c0.v,.int .u64 z1c1,s1c2.v,s1c3.v] T.kco→Nats h s1c0 x1c0→Nats h s1c2 x1c2→Nats h s1c3 x1c3→Nats h a2 x2→Nats h a3 x3→Runs (go (.fn F.kbk [.ptr (some (.new i1 0)),a2.v,a3.v]) h) (kr6 h r)
 | .p4 x1c0 z1c1 x1c2 x1c3 x2 x3 a4 x5 a6 a7=>∀{h0 h:AH}{s1c0:Sl}{s1c2:Sl}{s1c3:Sl}{a2:Sl}{a3:Sl}{a5:Sl}{i5:Nat}{i1:Nat},Grow h0 h→h0.has i1 [s1c0.v,.int .u64 z1c1,s1c2.v,s1c3.v] T.kco→Nats h0 s1c0 x1c0→Nats h0 s1c2 x1c2→Nats h0 s1c3 x1c3→Nats h0 a2 x2→Nats h0 a3 x3→Vec h a5 i5 x5→h0.blks.size≤i5→Runs (go (.pt F.kbk Td.km9 [(0,.ptr (some (.new i1 0))),(1,a2.v),(2,a3.v),(7,.int .i64 a4),(8,a5.v),(20,.int .i64 a6),(21,.int .i64 a7)]) h) (kr6 h0 r)
theorem k7s{r:kd5}{o:kft⊕kd5}{x1c0:List Nat}{z1c1:Int}{x1c2 x1c3 x2 x3:List Nat}(e:kld x1c0 z1c1 x1c2 x1c3 x2 x3=some o)(good:GoodS (kmo r) r o):kmo r (.fn x1c0 z1c1 x1c2 x1c3 x2 x3):=by
 intro h s1c0 s1c2 s1c3 a2 a3 i1 b1 n1c0 n1c2 n1c3 n2 n3;rw[k4w];unfold kld at e;refine Runs.step rfl ?_;refine Runs.step (AH.has.rd b1 0 rfl (asSl_v _)) ?_;rw[n1c0.len];obtain⟨m4,q4,e⟩:=Option.bind_eq_some_iff.1 e;refine Runs.mk q4 kc0 fun s4 H4 v4 g4=>?_;cases e;exact good g4 b1 n1c0 n1c2 n1c3 n2 n3 v4 (Nat.le_refl _)
theorem kbfr{r:kd5}{o:kft⊕kd5}{x1c0:List Nat}{z1c1:Int}{x1c2 x1c3 x2 x3:List Nat}{a4:Int}{x5:List Nat}{a6 a7:Int}(e:khn x1c0 z1c1 x1c2 x1c3 x2 x3 a4 x5 a6 a7=some o)(good:GoodS (kmo r) r o):kmo r (.p4 x1c0 z1c1 x1c2 x1c3 x2 x3 a4 x5 a6 a7):=by
 intro h0 h s1c0 s1c2 s1c3 a2 a3 a5 i5 i1 g0 b1 n1c0 n1c2 n1c3 n2 n3 v5 hi5;rw[k8z];unfold khn at e;rw[(n2.grow g0).len];rw[v5.nats.len];refine Runs.cond (fun k8=>?_) (fun k8=>?_)
 ·replace e:=(condT k8).symm.trans e;refine Runs.cond (fun k9=>?_) (fun k9=>?_)
  ·replace e:=(condT k9).symm.trans e;obtain⟨y10,q10,e⟩:=Option.bind_eq_some_iff.1 e;obtain⟨r10,j10,l10⟩:=(n2.grow g0).atI q10;refine Runs.step j10 ?_;refine Runs.step (rdc l10 (kc _ _)) ?_;obtain⟨p11,q11,e⟩:=Option.bind_eq_some_iff.1 e;obtain⟨_,H11,e11,rfl,v11,u11⟩:=kqu v5 (n3.grow g0) (Av.of_base n3 hi5) q11;refine Runs.step e11 ?_;obtain⟨c11,d11,e⟩:=Option.bind_eq_some_iff.1 e;have hl11:=c11.down;refine Runs.step rfl ?_;refine Runs.step rfl ?_;refine Runs.step (AH.has.rd ((g0.updr hi5 u11).has b1) 0 rfl (asSl_v _)) ?_;obtain⟨j12,q12,e⟩:=Option.bind_eq_some_iff.1 e;refine Runs.step (v11.idx (by simp only[List.length_set,hl11]) q12) ?_;refine Runs.step (v11.rd (by simp only[List.length_set,hl11]) q12 (kc _ _)) ?_;refine Runs.step rfl ?_;refine Runs.step (AH.has.rd ((g0.updr hi5 u11).has b1) 1 rfl (kc _ _)) ?_;obtain⟨p13,q13,e⟩:=Option.bind_eq_some_iff.1 e;obtain⟨_,H13,e13,rfl,v13,u13⟩:=kqu v11 (n1c0.grow (g0.updr hi5 u11)) (Av.of_base n1c0 hi5) q13;refine Runs.step e13 ?_;obtain⟨c13,d13,e⟩:=Option.bind_eq_some_iff.1 e;have hl13:=c13.down;refine Runs.step rfl ?_;obtain⟨p14,q14,e⟩:=Option.bind_eq_some_iff.1 e;obtain⟨s14,e14,w14⟩:=v13.cutW (by simp only[List.length_set,hl13,hl11]) q14;refine Runs.step e14 ?_;obtain⟨y15,q15,e⟩:=Option.bind_eq_some_iff.1 e;have hl15:=k1w q15;obtain⟨H15,e15,v15,u15⟩:=v13.copyV (w14.nats v13 (by have:=(kou q14).2.2.2;simpa only[List.length_set,hl13,hl11]using this)) q15;refine Runs.step e15 ?_;obtain⟨j16,q16,e⟩:=Option.bind_eq_some_iff.1 e;refine Runs.step (v15.idx (by simp only[List.length_set,hl15,hl13,hl11]) q16) ?_;obtain⟨w17,z17,e⟩:=Option.bind_eq_some_iff.1 e;refine Runs.vput v15 (by simp only[List.length_set,hl15,hl13,hl11]) q16 z17 fun H17 v17 u17=>?_;cases e;have G18:=((((g0.updr hi5 u11).updr hi5 u13).updr hi5 u15).updr hi5 u17);exact good G18 b1 n1c0 n1c2 n1c3 n2 n3 v17 hi5
  ·replace e:=(condF k9).symm.trans e;obtain⟨p10,q10,e⟩:=Option.bind_eq_some_iff.1 e;obtain⟨_,H10,e10,rfl,v10,u10⟩:=kqu v5 (n3.grow g0) (Av.of_base n3 hi5) q10;refine Runs.step e10 ?_;obtain⟨c10,d10,e⟩:=Option.bind_eq_some_iff.1 e;have hl10:=c10.down;refine Runs.step rfl ?_;refine Runs.step rfl ?_;refine Runs.step (AH.has.rd ((g0.updr hi5 u10).has b1) 0 rfl (asSl_v _)) ?_;obtain⟨j11,q11,e⟩:=Option.bind_eq_some_iff.1 e;refine Runs.step (v10.idx (by simp only[List.length_set,hl10]) q11) ?_;refine Runs.step (v10.rd (by simp only[List.length_set,hl10]) q11 (kc _ _)) ?_;refine Runs.step rfl ?_;refine Runs.step (AH.has.rd ((g0.updr hi5 u10).has b1) 1 rfl (kc _ _)) ?_;obtain⟨p12,q12,e⟩:=Option.bind_eq_some_iff.1 e;obtain⟨_,H12,e12,rfl,v12,u12⟩:=kqu v10 (n1c0.grow (g0.updr hi5 u10)) (Av.of_base n1c0 hi5) q12;refine Runs.step e12 ?_;obtain⟨c12,d12,e⟩:=Option.bind_eq_some_iff.1 e;have hl12:=c12.down;refine Runs.step rfl ?_;obtain⟨p13,q13,e⟩:=Option.bind_eq_some_iff.1 e;obtain⟨s13,e13,w13⟩:=v12.cutW (by simp only[List.length_set,hl12,hl10]) q13;refine Runs.step e13 ?_;obtain⟨y14,q14,e⟩:=Option.bind_eq_some_iff.1 e;have hl14:=k1w q14;obtain⟨H14,e14,v14,u14⟩:=v12.copyV (w13.nats v12 (by have:=(kou q13).2.2.2;simpa only[List.length_set,hl12,hl10]using this)) q14;refine Runs.step e14 ?_;obtain⟨j15,q15,e⟩:=Option.bind_eq_some_iff.1 e;refine Runs.step (v14.idx (by simp only[List.length_set,hl14,hl12,hl10]) q15) ?_;obtain⟨w16,z16,e⟩:=Option.bind_eq_some_iff.1 e;refine Runs.vput v14 (by simp only[List.length_set,hl14,hl12,hl10]) q15 z16 fun H16 v16 u16=>?_;cases e;have G17:=((((g0.updr hi5 u10).updr hi5 u12).updr hi5 u14).updr hi5 u16);exact good G17 b1 n1c0 n1c2 n1c3 n2 n3 v16 hi5
 ·replace e:=(condF k8).symm.trans e;obtain⟨s9,e9,n9,o9⟩:=k5u v5.nats;refine Runs.step e9 ?_;refine Runs.step (seen (asSl_v _)) ?_;refine Runs.step rfl ?_;refine Runs.step (AH.has.rd (g0.has b1) 0 rfl (asSl_v _)) ?_;obtain⟨H10,e10,g10⟩:=kef n9 (n1c0.grow g0);refine Runs.step e10 ?_;refine Runs.step (seen (kc _ _)) ?_;refine Runs.cond (fun k11=>?_) (fun k11=>?_)
  ·replace e:=(condT k11).symm.trans e;refine Runs.step rfl ?_;refine Runs.step (AH.has.rd ((g0.trans g10).has b1) 0 rfl (asSl_v _)) ?_;obtain⟨s12,H12,e12,n12,g12,o12⟩:=kk5 (n9.grow g10) (n1c0.grow (g0.trans g10));refine Runs.step e12 ?_;refine Runs.step rfl ?_;refine Runs.step (seen (asSl_v _)) ?_;refine Runs.step (seen (kc _ _)) ?_;cases e;cases good;have G13:=((g0.trans g10).trans g12);exact Runs.ret ⟨s12,rfl,n12,G13,(o12.of_le (g0.trans g10))⟩
  ·replace e:=(condF k11).symm.trans e;cases e;cases good;exact Runs.ret ⟨s9,rfl,(n9.grow g10),(g0.trans g10),((o9 _ (v5.own hi5)).of_le (Grow.refl _))⟩
theorem kbjd{s:kft}{r:kd5}(it:Iter kc9 s r):kmo r s:=Iter.ind (fun s o e good=>by
 cases s with
 | fn x1c0 z1c1 x1c2 x1c3 x2 x3=>exact @k7s _ _ x1c0 z1c1 x1c2 x1c3 x2 x3 e good
 | p4 x1c0 z1c1 x1c2 x1c3 x2 x3 a4 x5 a6 a7=>exact @kbfr _ _ x1c0 z1c1 x1c2 x1c3 x2 x3 a4 x5 a6 a7 e good
 ) it
theorem kml{h:AH}{s1c0 s1c2 s1c3 a2 a3:Sl}{i1:Nat}{x1c0:List Nat}{z1c1:Int}{x1c2 x1c3 x2 x3:List Nat}(b1:h.has i1 [s1c0.v,.int .u64 z1c1,s1c2.v,s1c3.v] T.kco)(n1c0:Nats h s1c0 x1c0)(n1c2:Nats h s1c2 x1c2)(n1c3:Nats h s1c3 x1c3)(n2:Nats h a2 x2)(n3:Nats h a3 x3){r:kd5}(q:runP kc9 (.fn x1c0 z1c1 x1c2 x1c3 x2 x3)=some r):Runs (go (.fn F.kbk [.ptr (some (.new i1 0)),a2.v,a3.v]) h) (kr6 h r):=kbjd (kdc q) b1 n1c0 n1c2 n1c3 n2 n3
end Go.Ab

/- squeezed -/
set_option maxRecDepth 10000
namespace Go.Ab
open Go.Proofs Go.Num
theorem getD0(xs:List Nat):xs.getD 0 0=xs.headD 0:=by cases xs<;>rfl
theorem kvv{b:Nat}{xs:List Nat}(h:∀x∈xs,x<b)(hb:0<b):xs.headD 0=num b xs%b:=by
 cases xs with
 | nil=>simp[num]
 | cons x xs =>
  rw[kqx,Nat.add_mul_mod_self_left,Nat.mod_eq_of_lt (h x (by simp))];rfl
def montR(ts ys ns:List Nat)(v x:Nat):List Nat :=
 let p:=addMul ts ys x 0
 (addMul p ns (p.headD 0*v%B) 0).tail++[0]
theorem kbfv{ts ys ns:List Nat}{v x k:Nat}(lt:∀t∈ts,t<B)(hl:ts.length=k+2)(hx:x<B)(hv:(num B ns*v+1)%B=0)(hY:num B ys<B^k)(hN:num B ns<B^k)(hT:num B ts<num B ys+num B ns) :
  (montR ts ys ns v x).length=k+2∧(∀t∈montR ts ys ns v x,t<B)∧(∃m,m<B∧num B ts+num B ys*x+num B ns*m=num B (montR ts ys ns v x)*B):=by
 have B0:0<B:=by decide
 unfold montR;dsimp only;generalize hp:addMul ts ys x 0=p;generalize hT':num B ts=T at *
 generalize hY':num B ys=Y at *
 generalize hN':num B ns=N at *
 have lp:p.length=k+2:=by rw[← hp,kkz,hl]
 have ltp:∀t∈p,t<B:=by rw[← hp];exact kq6 _ _ _ _
 have e1:Y*x≤B^k*B:=Nat.mul_le_mul (by omega) (by omega);have e3:B^(k+2)=B^k*B*B:=by rw[Nat.pow_succ,Nat.pow_succ]
 have e4:B^k*B*4≤B^k*B*B:=Nat.mul_le_mul_left _ (by decide);have e5:B^k*2≤B^k*B:=Nat.mul_le_mul_left _ (by decide)
 have np:num B p=T+Y*x:=by
  rw[← hp,kur,hT',hY',hl,Nat.add_zero];refine Nat.mod_eq_of_lt ?_;omega
 have hh:p.headD 0=(T+Y*x)%B:=by rw[kvv ltp B0,np]
 rw[hh];generalize hm:(T+Y*x)%B*v%B=m;have mB:m<B:=by rw[← hm];exact Nat.mod_lt _ B0
 have e2:N*m≤B^k*B:=Nat.mul_le_mul (by omega) (by omega);generalize hp':addMul p ns m 0=p';have lp':p'.length=k+2:=by rw[← hp',kkz,lp]
 have ltp':∀t∈p',t<B:=by rw[← hp'];exact kq6 _ _ _ _
 have np':num B p'=T+Y*x+N*m:=by
  rw[← hp',kur,np,hN',lp,Nat.add_zero];refine Nat.mod_eq_of_lt ?_;omega
 have h0:p'.headD 0=0:=by
  rw[kvv ltp' B0,np',← hm];exact kbep B0 hv
 refine⟨by simp;omega,?_,m,mB,?_⟩
 ·intro t ht;rcases List.mem_append.1 ht with h | h
  ·exact ltp' t (List.mem_of_mem_tail h)
  ·rw[List.mem_singleton.1 h];exact B0
 ·rw[← np',kk8 B p',h0,show [0]=List.replicate 1 0 from rfl,kfq,Nat.zero_add,Nat.mul_comm]
theorem kbie{p:List Nat}{k:Nat}(h:p.length=k+2):List.take (k+1) (List.drop 1 p)=p.tail:=by
 rw[List.drop_one,List.take_of_length_le (by simp;omega)]
theorem kbkf{p:List Nat}{k:Nat}(h:p.length=k+2):∃z,overW p p.tail=some (p.tail++[z]):=by
 unfold overW;rw[if_pos (by simp)];have hd:(p.drop p.tail.length).length=1:=by simp;omega
 obtain⟨z,hz⟩:=List.length_eq_one_iff.1 hd;exact⟨z,by rw[hz]⟩
theorem ks5{xs:List Nat}{i:Nat}(h:xs.length≤i):xs.getD i 0=0:=by simp[List.getD,List.getElem?_eq_none h]
theorem khm{xs ys:List Nat}(hx:rt xs=true)(hy:rt ys=true):cmpN xs ys=cmp (num B xs) (num B ys):=by
 unfold cmpN;rw[if_pos ⟨hx,hy⟩]
theorem k70(b:Nat){xs:List Nat}(i:Nat):num b (xs.take (i+1))=num b (xs.take i)+b^i*xs.getD i 0:=by
 rcases Nat.lt_or_ge i xs.length with h | h
 ·rw[kc5 b h,kbo h]
 ·rw[List.take_of_length_le (by omega),List.take_of_length_le h,ks5 h];simp
section
variable{ns xs ys ones nexts:List Nat}{v k N X Y:Nat}
theorem k6b(hk:k≤60)(ln:ns.length=k)(ltn:∀t∈ns,t<B)(lx:∀t∈xs,t<B)(ly:∀t∈ys,t<B)(hvB:v<B)(hv:(num B ns*v+1)%B=0)(hY:num B ys<num B ns){ts:List Nat}(lt:∀t∈ts,t<B)(hl:ts.length=k+2){i:Nat}(hi:i<k)(hT:num B ts<num B ys+num B ns) :
  khn ns (v:Int) ones nexts xs ys (k:Int) ts (k:Int) (i:Int)=some (.inl (.p4 ns (v:Int) ones nexts xs ys (k:Int) (montR ts ys ns v (xs.getD i 0)) (k:Int) ((i+1:Nat):Int))):=by
 have hN:num B ns<B^k:=ln▸num_lt B1 ltn
 have run:∀x:Nat,x<B→∀p,addMul ts ys x 0=p→∀q,addMul p ns (p.headD 0*v%B) 0=q→
   p.length=k+2∧q.length=k+2∧runP kej (.fn ts ys (x:Int))=some p∧runP kej (.fn p ns (IntKind.wrap .u64 (((List.getD p 0 0:Nat):Int)*(v:Int))))=some q:=by
  intro x hx p hp q hq;have l1:p.length=k+2:=by rw[← hp,kkz,hl]
  refine⟨l1,by rw[← hq,kkz,l1],?_,?_⟩
  ·rw[kxd lt ly hx (by omega),hp]
  ·rw[← Int.natCast_mul,wrapU,getD0];have:(((p.headD 0*v:Nat):Int))%18446744073709551616=((p.headD 0*v%B:Nat):Int):=rfl;rw[this,kxd (hp▸kq6 _ _ _ _) ltn (Nat.mod_lt _ (by decide)) (by omega),hq]
 unfold khn;rw[condT (by rw[decide_eq_true_eq];omega)]
 have fin:∀q:List Nat,q.length=k+2→∀r:Option (kft⊕kd5),r=((cutP ts.length 1 (ts.length:Int)).bind fun p14=>(overW q (List.take p14.2 (List.drop p14.1 q))).bind fun y15=>(inI ts.length (IntKind.wrap .i64 ((k:Int)+1))).bind fun j16=>(u64P 0).bind fun w17=>some (.inl (.p4 ns (v:Int) ones nexts xs ys (k:Int) (List.set y15 j16 w17) (k:Int) (IntKind.wrap .i64 ((i:Int)+1)))))→
   r=some (.inl (.p4 ns (v:Int) ones nexts xs ys (k:Int) (q.tail++[0]) (k:Int) ((i+1:Nat):Int))):=by
  intro q lq r hr;rw[hr,hl];have c:=kzw (len:=k+2) (lo:=1) (n:=k+1) (by omega) (by omega);rw[show 1+(k+1)=k+2 from by omega]at c;rw[show((1:Nat):Int)=1 from rfl]at c;obtain⟨z,hz⟩:=kbkf lq;rw[c,Option.bind_some];dsimp only;rw[kbie lq,hz,Option.bind_some,kj (by omega),kz (by omega),Option.bind_some,show u64P 0=some 0 from rfl,Option.bind_some,kj (by omega)];have:=kq8 q.tail z 0 [] (n:=k+1) (by simp;omega);rw[this,List.append_nil]
 by_cases hx:i<xs.length
 ·have hxB:=lx xs[i] (List.getElem_mem _);obtain⟨l1,l2,r1,r2⟩:=run xs[i] hxB _ rfl _ rfl;rw[condT (by rw[decide_eq_true_eq];omega),kbn hx,Option.bind_some,r1,Option.bind_some,ki (by rw[l1,hl]),Option.bind_some,show(0:Int)=((0:Nat):Int)from rfl,kz (by omega),Option.bind_some,r2,Option.bind_some,ki (by rw[l1,l2]),Option.bind_some];refine(fin _ l2 _ rfl).trans ?_;unfold montR;rw[kbo hx]
 ·obtain⟨l1,l2,r1,r2⟩:=run 0 (by decide) _ rfl _ rfl;rw[show((0:Nat):Int)=0 from rfl]at r1;rw[condF (by rw[decide_eq_false_iff_not];omega),r1,Option.bind_some,ki (by rw[l1,hl]),Option.bind_some,show(0:Int)=((0:Nat):Int)from rfl,kz (by omega),Option.bind_some,r2,Option.bind_some,ki (by rw[l1,l2]),Option.bind_some];refine(fin _ l2 _ rfl).trans ?_;unfold montR;rw[ks5 (show xs.length≤i from by omega)]
theorem k2k(hk:k≤60)(ln:ns.length=k)(ltn:∀t∈ns,t<B)(tn:Trim ns)(lx:∀t∈xs,t<B)(ly:∀t∈ys,t<B)(hvB:v<B)(hv:(num B ns*v+1)%B=0)(ho:num B ns%2=1)(hX:xs.length≤k)(hY:num B ys<num B ns) :
  ∀(d i:Nat),i+d=k→∀ts:List Nat,(∀t∈ts,t<B)→ts.length=k+2→num B ts<num B ys+num B ns→(∃M,num B ts*B^i=num B (xs.take i)*num B ys+num B ns*M)→
   Iter kc9 (.p4 ns (v:Int) ones nexts xs ys (k:Int) ts (k:Int) (i:Int)) (digs B (redc (num B ns) (64*k) (num B xs*num B ys)))
 | 0,i,hi,ts,lt,hl,hT,⟨M,hM⟩=>by
  have hi:i=k:=by omega
  subst hi;have hN:num B ns<B^i:=ln▸num_lt B1 ltn
  have h64:B^i*2≤B^64:=by
   calc B^i*2≤B^i*B:=Nat.mul_le_mul_left _ (by decide)
    _=B^(i+1):=(Nat.pow_succ ..).symm
    _≤B^64:=Nat.pow_le_pow_right (by decide) (by omega)
  have rn:rt ns=true:=rt_iff.2 ⟨by omega,tn⟩;have rT:rt (digs B (num B ts))=true:=kp (by omega);rw[List.take_of_length_le hX]at hM;have e64:B^i=2^(64*i):=by rw[show B=2^64 from rfl,← Nat.pow_mul]
  rw[e64]at hM;refine .done ?_;show khn _ _ _ _ _ _ _ _ _ _=_;unfold khn;rw[condF (by rw[decide_eq_false_iff_not];omega),khm rT rn,kg B2];by_cases hc:num B ts<num B ns
  ·have:cmp (num B ts) (num B ns)=-1:=by unfold cmp;rw[if_pos hc]
   rw[this,show decide ((-1:Int)≥0)=false from rfl,cond_false];rw[← k2v ho hc (by rw[hM,Nat.add_mul_mod_self_left])]
  ·have:decide (cmp (num B ts) (num B ns)≥0)=true:=by
    unfold cmp;rw[if_neg hc];split<;>rfl
   rw[this,cond_true];unfold subN;rw[if_pos ⟨rT,rn⟩,kg B2,if_neg hc];rw[← k2v (r:=num B ts-num B ns) ho (by omega)];rw[Nat.sub_mul,hM,← Nat.add_mul_mod_self_left (_-_) (num B ns) (2^(64*i)),Nat.sub_add_cancel]
   ·rw[Nat.add_mul_mod_self_left]
   ·rw[← hM];exact Nat.mul_le_mul_right _ (by omega)
 | d+1,i,hi,ts,lt,hl,hT,⟨M,hM⟩=>by
  have hN:num B ns<B^k:=ln▸num_lt B1 ltn
  have hx:xs.getD i 0<B:=by
   rcases Nat.lt_or_ge i xs.length with h | h
   ·rw[kbo h];exact lx _ (List.getElem_mem _)
   ·rw[ks5 h];decide
  obtain⟨o1,o2,m,hm,o3⟩:=kbfv (v:=v) (ns:=ns) (ys:=ys) lt hl hx hv (by omega) hN hT;refine .next (k6b hk ln ltn lx ly hvB hv hY lt hl (by omega) hT) (k2k hk ln ltn tn lx ly hvB hv ho hX hY d (i+1) (by omega) _ o2 o1 ?_ ⟨M+B^i*m,?_⟩)
  ·have:=kbj2 hT hx hm;rwa[o3,Nat.mul_div_cancel _ (by decide)]at this
  ·rw[k70,Nat.pow_succ];have:=kbil hM o3;rw[this,Nat.mul_comm (B^i) m,Nat.mul_comm m]
theorem kbi1(hk:k≤60)(ln:ns.length=k)(ltn:∀t∈ns,t<B)(tn:Trim ns)(lx:∀t∈xs,t<B)(ly:∀t∈ys,t<B)(hvB:v<B)(hv:(num B ns*v+1)%B=0)(ho:num B ns%2=1)(hX:xs.length≤k)(hY:num B ys<num B ns) :
  runP kc9 (.fn ns (v:Int) ones nexts xs ys)=some (digs B (redc (num B ns) (64*k) (num B xs*num B ys))):=by
 refine kcw (.next (s':=.p4 ns (v:Int) ones nexts xs ys (k:Int) (List.replicate (k+2) 0) (k:Int) ((0:Nat):Int)) ?_ (k2k hk ln ltn tn lx ly hvB hv ho hX hY k 0 (by omega) _ ?_ (by simp) ?_ ⟨0,?_⟩))
 ·show kld _ _ _ _ _ _=_;unfold kld;rw[ln,show((k:Int)+2)=((k+2:Nat):Int)from by omega,kbh (by omega),kd4 (by omega),Option.bind_some];rfl
 ·intro t ht;rw[List.eq_of_mem_replicate ht];decide
 ·have:num B (List.replicate (k+2) 0)=0:=by have:=kfq B [] (k+2);simpa[num]using this
  rw[this];omega
 ·have:num B (List.replicate (k+2) 0)=0:=by have:=kfq B [] (k+2);simpa[num]using this
  simp[this,num]
end
end Go.Ab

/- squeezed -/
set_option maxRecDepth 10000
namespace Go.Ab
open Go.Proofs Go.Num
theorem Bl.det{x m n:Nat}(a:Bl x m)(b:Bl x n):m=n:=Nat.le_antisymm (a.le b.1) (b.le a.1)
theorem kus{a:Int}{h:AH}(c:0≤a∧a<18446744073709551616):go (.fn F.khf [.int .u64 a]) h=some (.int .i64 ((bl (Int.toNat a):Nat):Int),h):=by
 obtain⟨x,rfl⟩:∃x:Nat,a=(x:Int):=⟨a.toNat,by omega⟩;obtain⟨n,e,b⟩:=k0f (x:=x) (by omega) (h:=h);rw[e,Int.toNat_natCast,b.det (bl_Bl x)]
inductive kkj
 | fn (x1:List Nat)
 | no
abbrev kg9:=Int
noncomputable def kk2(x1:List Nat):Option (kkj⊕kg9) :=
 cond (!(rt x1)) (some (.inr 0)) (cond (decide ((List.length x1:Int)=0)) (some (.inr 0)) ((atI x1 (IntKind.wrap .i64 ((List.length x1:Int)-1))).bind fun y5=>(need (0≤((y5:Int))∧((y5:Int))<18446744073709551616)).bind fun c6_0=>some (.inr (IntKind.wrap .i64 ((IntKind.wrap .i64 (64*(IntKind.wrap .i64 ((List.length x1:Int)-1))))+(((bl (Int.toNat ((y5:Int))):Nat):Int)))))))
noncomputable def ku0:kkj→Option (kkj⊕kg9)
 | .fn x1=>kk2 x1
 | .no=>none
@[reducible] def kso(h0:AH)(r:kg9)(v:AV)(h':AH):Prop:=v=.int .i64 r∧Grow h0 h'
def kuc(r:kg9):kkj→Prop
 | .fn x1=>∀{h:AH}{a1:Sl},Nats h a1 x1→Runs (go (.fn F.kjy [a1.v]) h) (kso h r)
 | .no=>True
theorem kbad{r:kg9}{o:kkj⊕kg9}{x1:List Nat}(e:kk2 x1=some o)(good:GoodS (kuc r) r o):kuc r (.fn x1):=by
 intro h a1 n1;rw[kbbp];unfold kk2 at e;rw[n1.len];refine Runs.step (kcr n1) ?_;refine Runs.step (seen rfl) ?_;refine Runs.cond (fun k3=>?_) (fun k3=>?_)
 ·replace e:=(condT k3).symm.trans e;cases e;cases good;exact Runs.ret ⟨rfl,(Grow.refl _)⟩
 ·replace e:=(condF k3).symm.trans e;refine Runs.cond (fun k4=>?_) (fun k4=>?_)
  ·replace e:=(condT k4).symm.trans e;cases e;cases good;exact Runs.ret ⟨rfl,(Grow.refl _)⟩
  ·replace e:=(condF k4).symm.trans e;obtain⟨y5,q5,e⟩:=Option.bind_eq_some_iff.1 e;obtain⟨r5,j5,l5⟩:=n1.atI q5;refine Runs.step j5 ?_;refine Runs.step (rdc l5 (kc _ _)) ?_;obtain⟨c6_0,q6_0,e⟩:=Option.bind_eq_some_iff.1 e;refine Runs.step (kus  c6_0.down) ?_;refine Runs.step (seen (kc _ _)) ?_;cases e;cases good;exact Runs.ret ⟨rfl,(Grow.refl _)⟩
theorem kbhb{s:kkj}{r:kg9}(it:Iter ku0 s r):kuc r s:=Iter.ind (fun s o e good=>by
 cases s with
 | fn x1=>exact @kbad _ _ x1 e good
 | no=>exact True.intro
 ) it
theorem kbjv{h:AH}{a1:Sl}{x1:List Nat}(n1:Nats h a1 x1){r:kg9}(q:runP ku0 (.fn x1)=some r):Runs (go (.fn F.kjy [a1.v]) h) (kso h r):=kbhb (kdc q) n1
inductive kj0
 | fn (x1:List Nat) (a2:Int)
 | no
abbrev kgx:=Bool
noncomputable def kmj(x1:List Nat)(a2:Int):Option (kj0⊕kgx) :=
 cond ((rt x1)) (cond (decide (a2≥0)) (cond (decide ((IntKind.wrap .i64 (Int.tdiv a2 64))<(List.length x1:Int))) ((atI x1 (IntKind.wrap .i64 (Int.tdiv a2 64))).bind fun y7=>cond (decide ((Int.tmod a2 64)<0)) (none) (some (.inr (decide ((iand .u64 (ishr .u64 ((y7:Int)) (Int.tmod a2 64)) 1)=1))))) (some (.inr false))) (some (.inr false))) (some (.inr false))
noncomputable def ktb:kj0→Option (kj0⊕kgx)
 | .fn x1 a2=>kmj x1 a2
 | .no=>none
@[reducible] def kul(h0:AH)(r:kgx)(v:AV)(h':AH):Prop:=v=.bool r∧Grow h0 h'
def kvo(r:kgx):kj0→Prop
 | .fn x1 a2=>∀{h:AH}{a1:Sl},Nats h a1 x1→Runs (go (.fn F.kj8 [a1.v,.int .i64 a2]) h) (kul h r)
 | .no=>True
theorem kbj1{r:kgx}{o:kj0⊕kgx}{x1:List Nat}{a2:Int}(e:kmj x1 a2=some o)(good:GoodS (kvo r) r o):kvo r (.fn x1 a2):=by
 intro h a1 n1;rw[k92];unfold kmj at e;rw[n1.len];refine Runs.step (kcr n1) ?_;refine Runs.step (seen rfl) ?_;refine Runs.cond (fun k4=>?_) (fun k4=>?_)
 ·replace e:=(condT k4).symm.trans e;refine Runs.cond (fun k5=>?_) (fun k5=>?_)
  ·replace e:=(condT k5).symm.trans e;refine Runs.cond (fun k6=>?_) (fun k6=>?_)
   ·replace e:=(condT k6).symm.trans e;obtain⟨y7,q7,e⟩:=Option.bind_eq_some_iff.1 e;obtain⟨r7,j7,l7⟩:=n1.atI q7;refine Runs.step j7 ?_;refine Runs.step (rdc l7 (kc _ _)) ?_;refine Runs.cond (fun k8=>?_) (fun k8=>?_)
    ·replace e:=(condT k8).symm.trans e;cases e
    ·replace e:=(condF k8).symm.trans e;cases e;cases good;exact Runs.ret ⟨rfl,(Grow.refl _)⟩
   ·replace e:=(condF k6).symm.trans e;cases e;cases good;exact Runs.ret ⟨rfl,(Grow.refl _)⟩
  ·replace e:=(condF k5).symm.trans e;cases e;cases good;exact Runs.ret ⟨rfl,(Grow.refl _)⟩
 ·replace e:=(condF k4).symm.trans e;cases e;cases good;exact Runs.ret ⟨rfl,(Grow.refl _)⟩
theorem kbhm{s:kj0}{r:kgx}(it:Iter ktb s r):kvo r s:=Iter.ind (fun s o e good=>by
 cases s with
 | fn x1 a2=>exact @kbj1 _ _ x1 a2 e good
 | no=>exact True.intro
 ) it
theorem k4j{h:AH}{a1:Sl}{x1:List Nat}{a2:Int}(n1:Nats h a1 x1){r:kgx}(q:runP ktb (.fn x1 a2)=some r):Runs (go (.fn F.kj8 [a1.v,.int .i64 a2]) h) (kul h r):=kbhm (kdc q) n1
inductive kgw
 | fn (x1:List Nat)
 | p6 (x1:List Nat) (a2:Int) (a3:Int)
abbrev keo:=Int
noncomputable def kf4(x1:List Nat):Option (kgw⊕keo) :=
 cond (!(rt x1)) (some (.inr 0)) (cond (decide ((List.length x1:Int)=0)) (some (.inr 0)) ((atI x1 (IntKind.wrap .i64 ((List.length x1:Int)-1))).bind fun y5=>some (.inl (.p6 x1 0 ((y5:Int))))))
noncomputable def kih(x1:List Nat)(a2 a3:Int):Option (kgw⊕keo) :=
 cond (decide (a3>0)) (some (.inl (.p6 x1 (IntKind.wrap .i64 (a2+1)) (IntKind.wrap .u64 (Int.tdiv a3 2))))) (some (.inr (IntKind.wrap .i64 (a2+(IntKind.wrap .i64 (64*(IntKind.wrap .i64 ((List.length x1:Int)-1))))))))
noncomputable def kox:kgw→Option (kgw⊕keo)
 | .fn x1=>kf4 x1
 | .p6 x1 a2 a3=>kih x1 a2 a3
@[reducible] def kp4(h0:AH)(r:keo)(v:AV)(h':AH):Prop:=v=.int .i64 r∧Grow h0 h'
def klg(r:keo):kgw→Prop
 | .fn x1=>∀{h:AH}{a1:Sl},Nats h a1 x1→Runs (go (.fn F.kfz [a1.v]) h) (kp4 h r)
 | .p6 x1 a2 a3=>∀{h0 h:AH}{a1:Sl},Grow h0 h→Nats h a1 x1→Runs (go (.pt F.kfz Td.ko9 [(0,a1.v),(4,.int .i64 a2),(5,.int .u64 a3)]) h) (kp4 h0 r)
theorem k8c{r:keo}{o:kgw⊕keo}{x1:List Nat}(e:kf4 x1=some o)(good:GoodS (klg r) r o):klg r (.fn x1):=by
 intro h a1 n1;rw[kbgg];unfold kf4 at e;rw[n1.len];refine Runs.step (kd9 n1) ?_;refine Runs.step (seen rfl) ?_;refine Runs.cond (fun k3=>?_) (fun k3=>?_)
 ·replace e:=(condT k3).symm.trans e;cases e;cases good;exact Runs.ret ⟨rfl,(Grow.refl _)⟩
 ·replace e:=(condF k3).symm.trans e;refine Runs.cond (fun k4=>?_) (fun k4=>?_)
  ·replace e:=(condT k4).symm.trans e;cases e;cases good;exact Runs.ret ⟨rfl,(Grow.refl _)⟩
  ·replace e:=(condF k4).symm.trans e;obtain⟨y5,q5,e⟩:=Option.bind_eq_some_iff.1 e;obtain⟨r5,j5,l5⟩:=n1.atI q5;refine Runs.step j5 ?_;refine Runs.step (rdc l5 (kc _ _)) ?_;cases e;exact good (Grow.refl _) n1
theorem kblf{r:keo}{o:kgw⊕keo}{x1:List Nat}{a2 a3:Int}(e:kih x1 a2 a3=some o)(good:GoodS (klg r) r o):klg r (.p6 x1 a2 a3):=by
 intro h0 h a1 g0 n1;rw[k4l];unfold kih at e;rw[n1.len];refine Runs.cond (fun k4=>?_) (fun k4=>?_)
 ·replace e:=(condT k4).symm.trans e;cases e;exact good g0 n1
 ·replace e:=(condF k4).symm.trans e;cases e;cases good;exact Runs.ret ⟨rfl,g0⟩
theorem kbko{s:kgw}{r:keo}(it:Iter kox s r):klg r s:=Iter.ind (fun s o e good=>by
 cases s with
 | fn x1=>exact @k8c _ _ x1 e good
 | p6 x1 a2 a3=>exact @kblf _ _ x1 a2 a3 e good
 ) it
theorem k4u{h:AH}{a1:Sl}{x1:List Nat}(n1:Nats h a1 x1){r:keo}(q:runP kox (.fn x1)=some r):Runs (go (.fn F.kfz [a1.v]) h) (kp4 h r):=kbko (kdc q) n1
end Go.Ab

/- squeezed -/
set_option maxRecDepth 10000
namespace Go.Ab
open Go.Proofs Go.Num
def bitsN(xs:List Nat):Nat:=if rt xs=true then bl (num B xs)else 0
def bitN(xs:List Nat)(i:Int):Bool:=rt xs&&(decide (0≤i)&&(num B xs).testBit i.toNat)
theorem kt2{xs:List Nat}(l:∀x∈xs,x<B):∀i:Nat,num B xs/B^i=num B (xs.drop i)
 | 0=>by simp
 | i+1=>by
  rw[Nat.pow_succ,Nat.mul_comm,← Nat.div_div_eq_div_mul,kk8 B xs]
  have h:xs.headD 0<B:=by
   cases xs with
   | nil=>decide
   | cons x xs=>exact l x (by simp)
  rw[Nat.add_mul_div_left _ _ (show 0<B by decide),Nat.div_eq_of_lt h,Nat.zero_add,kt2 (xs:=xs.tail) (fun x hx=>l x (List.mem_of_mem_tail hx)) i];rw[← List.drop_one,List.drop_drop,Nat.add_comm]
theorem B_pow2(i:Nat):B^i=2^(64*i):=by rw[show B=2^64 from rfl,← Nat.pow_mul]
theorem bl_num{xs:List Nat}(l:∀x∈xs,x<B)(h:xs.length≠0)(h0:xs[xs.length-1]≠0):bl (num B xs)=64*(xs.length-1)+bl xs[xs.length-1]:=by
 have hd:=kt2 l (xs.length-1);rw[List.drop_eq_getElem_cons (by omega),show xs.length-1+1=xs.length from by omega,List.drop_length,B_pow2]at hd;have e:num B xs/2^(64*(xs.length-1))=xs[xs.length-1]:=by rw[hd];simp[num]
 refine(bl_Bl _).det (Bl.up (n:=bl xs[xs.length-1]) ?_ ?_)
 ·rw[e];exact bl_Bl _
 ·rw[e];omega
theorem bl_le{x m:Nat}(h:x<2^m):bl x≤m:=(bl_Bl x).le h
theorem kxr{xs:List Nat}(h:rt xs=true)(hl:xs.length≠0):xs[xs.length-1]≠0:=by
 have t:=(rt_iff.1 h).2 (fun e=>hl (by rw[e];rfl));rwa[List.getLast_eq_getElem]at t
theorem kbkl{xs:List Nat}(l:∀x∈xs,x<B):runP ku0 (.fn xs)=some ((bitsN xs:Nat):Int):=by
 refine kcw (.done ?_);show kk2 _=_;unfold kk2 bitsN;by_cases hr:rt xs=true
 ·rw[hr,if_pos rfl,show(!true)=false from rfl,cond_false];have h64:=(rt_iff.1 hr).1;by_cases hl:xs.length=0
  ·rw[condT (by rw[decide_eq_true_eq];omega),List.length_eq_zero_iff.1 hl];rfl
  ·have hb:=l xs[xs.length-1] (List.getElem_mem _);have hb':xs[xs.length-1]<18446744073709551616:=hb;have hbl:=bl_le (x:=xs[xs.length-1]) (m:=64) hb;rw[condF (by rw[decide_eq_false_iff_not];omega),show((xs.length:Int)-1)=((xs.length-1:Nat):Int)from by omega,kbh (by omega),kbn (by omega),Option.bind_some];have hn:0≤((xs[xs.length-1]:Nat):Int)∧((xs[xs.length-1]:Nat):Int)<18446744073709551616:=by omega
   simp only[ki hn,Option.bind_some];rw[Int.toNat_natCast,bl_num l hl (kxr hr hl),show(64*((xs.length-1:Nat):Int))=((64*(xs.length-1):Nat):Int)from by omega,kbh (by omega),← Int.natCast_add,kbh (by omega)]
 ·rw[if_neg hr,show rt xs=false from by simpa using hr];rfl
theorem kvy{h:AH}{s:Sl}{xs:List Nat}(n:Nats h s xs):Runs (go (.fn F.kjy [s.v]) h) (kso h (bitsN xs)):=kbjv n (kbkl n.lt)
theorem k7r:bl 0=0:=rfl
theorem kbc8{x:Nat}(h:0<x):bl x=bl (x/2)+1:=by
 by_cases h2:x/2=0
 ·have:x=1:=by omega
  subst this;decide
 ·have:=Bl.up (x:=x) (k:=1) (n:=bl (x/2)) (by rw[Nat.pow_one];exact bl_Bl _) (by rw[Nat.pow_one];omega);rw[(bl_Bl x).det this];omega
theorem tdiv2(n:Nat):Int.tdiv (n:Int) 2=((n/2:Nat):Int):=rfl
theorem kbet{n:Nat}(h:n<18446744073709551616):IntKind.wrap .u64 (n:Int)=(n:Int):=by rw[wrapU];omega
theorem kbiu{xs:List Nat}(hl:xs.length≤64)(h0:xs.length≠0):∀(x c:Nat),x<18446744073709551616→c+bl x≤64→
  Iter kox (.p6 xs (c:Int) (x:Int)) ((64*(xs.length-1)+(c+bl x):Nat):Int):=by
 intro x
 induction x using Nat.strongRecOn with
 | ind x ih =>
  intro c hx hc;by_cases h:x=0
  ·subst h;refine .done ?_;show kih _ _ _=_;unfold kih;rw[condF (by simp),k7r,Nat.add_zero,show((xs.length:Int)-1)=((xs.length-1:Nat):Int)from by omega,kbh (by omega),show(64*((xs.length-1:Nat):Int))=((64*(xs.length-1):Nat):Int)from by omega,kbh (by omega),← Int.natCast_add,kbh (by omega),Nat.add_comm]
  ·have hb:=kbc8 (x:=x) (by omega);refine .next (s':=.p6 xs ((c+1:Nat):Int) ((x/2:Nat):Int)) ?_ ?_
   ·show kih _ _ _=_;unfold kih;rw[condT (by rw[decide_eq_true_eq];omega),kj (by omega),tdiv2,kbet (by omega)]
   ·have:=ih (x/2) (by omega) (c+1) (by omega) (by omega);rwa[show c+1+bl (x/2)=c+bl x from by omega]at this
theorem kbd4{xs:List Nat}(l:∀x∈xs,x<B):runP kox (.fn xs)=some ((bitsN xs:Nat):Int):=by
 refine kcw ?_;unfold bitsN;by_cases hr:rt xs=true
 ·have h64:=(rt_iff.1 hr).1;by_cases hl:xs.length=0
  ·refine .done ?_;show kf4 _=_;unfold kf4;rw[hr,if_pos rfl,show(!true)=false from rfl,cond_false,condT (by rw[decide_eq_true_eq];omega),List.length_eq_zero_iff.1 hl];rfl
  ·have hb:=l xs[xs.length-1] (List.getElem_mem _);have hb':xs[xs.length-1]<18446744073709551616:=hb;have hbl:=bl_le (x:=xs[xs.length-1]) (m:=64) hb;have:=kbiu h64 hl xs[xs.length-1] 0 hb (by omega);rw[Nat.zero_add]at this;rw[if_pos hr,bl_num l hl (kxr hr hl)];refine .next ?_ this;show kf4 _=_;unfold kf4;rw[hr,show(!true)=false from rfl,cond_false,condF (by rw[decide_eq_false_iff_not];omega),show((xs.length:Int)-1)=((xs.length-1:Nat):Int)from by omega,kbh (by omega),kbn (by omega),Option.bind_some];rfl
 ·refine .done ?_;show kf4 _=_;unfold kf4;rw[if_neg hr,show rt xs=false from by simpa using hr];rfl
theorem kbin{h:AH}{s:Sl}{xs:List Nat}(n:Nats h s xs):Runs (go (.fn F.kfz [s.v]) h) (kp4 h (bitsN xs)):=k4u n (kbd4 n.lt)
theorem kxn{x:Nat}(hx:x<18446744073709551616):iand .u64 (x:Int) 1=((x%2:Nat):Int):=by
 unfold iand;rw[show IntKind.bits .u64=64 from rfl,wrapU];have e1:BitVec.ofInt 64 (x:Int)=BitVec.ofNat 64 x:=rfl;have e2:BitVec.ofInt 64 1=BitVec.ofNat 64 1:=rfl;rw[e1,e2,BitVec.toNat_and,BitVec.toNat_ofNat,BitVec.toNat_ofNat];rw[Nat.mod_eq_of_lt (show x<2^64 from hx),Nat.mod_eq_of_lt (show 1<2^64 from by decide),Nat.and_one_is_mod];omega
theorem k2i{xs:List Nat}(l:∀x∈xs,x<B){q r:Nat}(hq:q<xs.length)(hr:r<64):(num B xs).testBit (64*q+r)=decide (xs[q]/2^r%2=1):=by
 rw[Nat.testBit_eq_decide_div_mod_eq,Nat.pow_add,← Nat.div_div_eq_div_mul,← B_pow2,kt2 l,List.drop_eq_getElem_cons hq,kqx];generalize num B (xs.drop (q+1))=Y;congr 2
 have e:B=2^r*(2^(63-r)*2):=by
  rw[← Nat.pow_succ,← Nat.pow_add,show r+(63-r).succ=64 from by omega]
 have e2:xs[q]+B*Y=xs[q]+2^r*(2^(63-r)*2*Y):=by rw[← Nat.mul_assoc,← e]
 rw[e2,Nat.add_mul_div_left _ _ (Nat.pow_pos (by decide)),show 2^(63-r)*2*Y=2*(2^(63-r)*Y)from by rw[Nat.mul_comm (2^(63-r)) 2,Nat.mul_assoc],Nat.add_mul_mod_self_left]
theorem kbbh{xs:List Nat}(l:∀x∈xs,x<B){i:Nat}(hq:xs.length≤i/64):(num B xs).testBit i=false:=by
 refine Nat.testBit_lt_two_pow ?_;have h1:=num_lt B1 l;rw[B_pow2]at h1;have h2:2^(64*xs.length)≤2^i:=Nat.pow_le_pow_right (by decide) (by omega);omega
theorem tdiv64(n:Nat):Int.tdiv (n:Int) 64=((n/64:Nat):Int):=rfl
theorem tmod64(n:Nat):Int.tmod (n:Int) 64=((n%64:Nat):Int):=rfl
theorem tmod2(n:Nat):Int.tmod (n:Int) 2=((n%2:Nat):Int):=rfl
theorem k7g{xs:List Nat}{i:Int}(h:rt xs=false):bitN xs i=false:=by unfold bitN;rw[h];rfl
theorem k82{xs:List Nat}{i:Int}(h:i<0):bitN xs i=false:=by unfold bitN;rw[show decide (0≤i)=false from by rw[decide_eq_false_iff_not];omega];cases rt xs<;>rfl
theorem klf{xs:List Nat}{i:Nat}(h:rt xs=true):bitN xs (i:Int)=(num B xs).testBit i:=by unfold bitN;rw[h,show decide (0≤(i:Int))=true from by rw[decide_eq_true_eq];omega];rfl
theorem k9d{xs:List Nat}(l:∀x∈xs,x<B){i:Int}(hi:i≤9223372036854775807):runP ktb (.fn xs i)=some (bitN xs i):=by
 refine kcw (.done ?_);show kmj _ _=_;unfold kmj;by_cases hr:rt xs=true
 ·rw[hr,cond_true];by_cases h0:i<0
  ·rw[condF (by rw[decide_eq_false_iff_not];omega),k82 h0]
  ·obtain⟨j,rfl⟩:∃j:Nat,i=(j:Int):=⟨i.toNat,by omega⟩;rw[condT (by rw[decide_eq_true_eq];omega),klf hr,tdiv64,tmod64,kbh (by omega)];by_cases hq:j/64<xs.length
   ·have hb:xs[j/64]<18446744073709551616:=l _ (List.getElem_mem _);have h2:xs[j/64]/2^(j%64)<18446744073709551616:=Nat.lt_of_le_of_lt (Nat.div_le_self _ _) hb;rw[condT (by rw[decide_eq_true_eq];omega),kbn hq,Option.bind_some,condF (by rw[decide_eq_false_iff_not];omega),kb3,Nat.min_eq_left (by omega),kxn h2];have:=k2i l hq (Nat.mod_lt j (show 0<64 by decide));rw[Nat.div_add_mod]at this;rw[this];generalize xs[j/64]/2^(j%64)=z;congr 3;exact propext (by omega)
   ·rw[condF (by rw[decide_eq_false_iff_not];omega),kbbh l (by omega)]
 ·rw[show rt xs=false from by simpa using hr,cond_false,k7g (by simpa using hr)]
theorem kyc{h:AH}{s:Sl}{xs:List Nat}(n:Nats h s xs){i:Int}(hi:i≤9223372036854775807):Runs (go (.fn F.kj8 [s.v,.int .i64 i]) h) (kul h (bitN xs i)):=k4j n (k9d n.lt hi)
end Go.Ab

/- squeezed -/
set_option maxRecDepth 10000
namespace Go.Ab
open Go.Proofs Go.Num
def belowF(xs ns:List Nat):Bool:=rt xs&&decide (cmpN xs ns<0)
theorem k3z{h:AH}{i p:Nat}{a s0 s2 s3:Sl}{z:Int}{xs ns:List Nat}(b:h.has i [s0.v,.int .u64 z,s2.v,s3.v] T.kco)(hp:h.has p [.ptr (some (.new i 0))] T.kq7)(m:Nats h s0 ns)(n:Nats h a xs) :
  Runs (go (.fn F.kd0 [a.v,.ptr (some (.new p 0))]) h) fun v h'=>v=.bool (!belowF xs ns)∧Grow h h':=by
 rw[k5s];refine Runs.step (kcr n) ?_;refine Runs.step (seen rfl) ?_;unfold belowF;refine Runs.cond (fun k=>?_) (fun k=>?_)
 ·rw[show rt xs=false from by simpa using k];exact Runs.ret ⟨rfl,Grow.refl _⟩
 ·rw[show rt xs=true from by simpa using k,Bool.true_and];refine Runs.step rfl ?_;refine Runs.step (AH.has.rd0 hp rfl rfl) ?_;refine Runs.step rfl ?_;refine Runs.step (AH.has.rd b 0 rfl (asSl_v _)) ?_;obtain⟨h',e,g⟩:=kef n m;refine Runs.step e ?_;refine Runs.step (seen (kc _ _)) ?_;refine Runs.ret ⟨?_,g⟩;congr 1;rw[Bool.eq_iff_iff];simp
theorem kbbk{h:AH}{i j:Nat}{a s0 s2 s3:Sl}{z:Int}{xs ns ones nexts:List Nat}{e:TypeId}(b:h.has i [s0.v,.int .u64 z,s2.v,s3.v] T.kco)(m:Nats h s0 ns)(m2:Nats h s2 ones)(m3:Nats h s3 nexts)(c:h.has j [a.v] e)(n:Nats h a xs) :
  Runs (go (.fn F.ks8 [.ptr (some (.new i 0)),(⟨some (.new j 0),1,.is 1⟩:Sl).v]) h) fun v h'=>v=.bool (belowF xs ns)∧Grow h h':=by
 rw[k65];refine Runs.new fun H1 b1 g1=>?_
 have key:Runs (go (.fn F.kgh [(⟨some (.new j 0),1,.is 1⟩:Sl).v,.func (.func F.kd0) [] [.ptr (some (.new h.blks.size 0))]]) H1) fun v h'=>v=.bool (!belowF xs ns)∧Grow H1 h':=by
  rw[k84]
  have inner:Runs (go (.fn F.kb6 [(⟨some (.new j 0),1,.is 1⟩:Sl).v,.func (.func F.kd0) [] [.ptr (some (.new h.blks.size 0))]]) H1) fun v h'=>v=.int .i64 (if belowF xs ns=true then -1 else 0)∧Grow H1 h':=by
   rw[k5g,kzr];refine Runs.ifT rfl ?_;refine Runs.step (show idx (some (Ref.new j 0)) 1 0 1=some ((Ref.new j 0).add 0)from rfl) ?_;refine Runs.step (AH.has.rd (g1.has c) 0 rfl (asSl_v _)) ?_;obtain⟨_,H2,e2,rfl,g2⟩:=k3z (g1.has b) b1 (m.grow g1) (n.grow g1);refine Runs.step e2 ?_;refine Runs.step (seen rfl) ?_;cases hb:belowF xs ns
   ·refine Runs.ifT rfl ?_;exact Runs.ret ⟨rfl,g2⟩
   ·refine Runs.ifF rfl ?_;rw[kzr];refine Runs.ifF (show decide (IntKind.wrap .i64 (0+1)<((1:Nat):Int))=false from by decide) ?_;exact Runs.ret ⟨rfl,g2⟩
  obtain⟨_,H2,e2,rfl,g2⟩:=inner;refine Runs.step e2 ?_;refine Runs.step (seen (kc _ _)) ?_;refine Runs.ret ⟨?_,g2⟩;cases belowF xs ns<;>rfl
 obtain⟨_,H2,e2,rfl,g2⟩:=key;refine Runs.step e2 ?_;refine Runs.step (seen rfl) ?_;refine Runs.ret ⟨?_,g1.trans g2⟩;cases belowF xs ns<;>rfl
end Go.Ab

/- squeezed -/
set_option maxRecDepth 10000
namespace Go.Ab
open Go.Proofs Go.Num
inductive kdy
 | fn (x1c0:List Nat) (z1c1:Int) (x1c2:List Nat) (x1c3:List Nat) (x2:List Nat) (x3:List Nat)
 | p7 (x1c0:List Nat) (z1c1:Int) (x1c2:List Nat) (x1c3:List Nat) (x2:List Nat) (x4:List (List Nat)) (x5:List Nat) (a6:Int)
 | p12 (x1:List Nat) (x2c0:List Nat) (z2c1:Int) (x2c2:List Nat) (x2c3:List Nat) (x3:List (List Nat)) (x4:List Nat) (a5:Int)
 | p16 (x1:List Nat) (x2c0:List Nat) (z2c1:Int) (x2c2:List Nat) (x2c3:List Nat) (x3:List (List Nat)) (x4:List Nat) (a5:Int) (a6:Int) (a7:Int)
abbrev kcd:=List Nat×Int
noncomputable def km7(x1c0:List Nat)(z1c1:Int)(x1c2 x1c3 x2 x3:List Nat):Option (kdy⊕kcd) :=
 cond (!((belowF x2 x1c0))) (some (.inr ([],1))) (cond (!(rt x3)) (some (.inr ([],1))) (cond (decide ((List.length x3:Int)>8)) (some (.inr ([],1))) ((runP kc9 (.fn x1c0 z1c1 x1c2 x1c3 x2 x1c3)).bind fun p17=>some (.inl (.p7 x1c0 z1c1 x1c2 x1c3 x3 [x1c2] p17 0)))))
noncomputable def kik(x1c0:List Nat)(z1c1:Int)(x1c2 x1c3 x2:List Nat)(x4:List (List Nat))(x5:List Nat)(a6:Int):Option (kdy⊕kcd) :=
 cond (decide (a6<15)) ((atX x4 (IntKind.wrap .i64 ((List.length x4:Int)-1))).bind fun y8=>(runP kc9 (.fn x1c0 z1c1 x1c2 x1c3 y8 x5)).bind fun p9=>(need (growOk Pg (List.length x4+1) T.kr 1=true)).bind fun c11=>some (.inl (.p7 x1c0 z1c1 x1c2 x1c3 x2 (x4++[p9]) x5 (IntKind.wrap .i64 (a6+1))))) (some (.inl (.p12 x2 x1c0 z1c1 x1c2 x1c3 x4 x1c2 (IntKind.wrap .i64 (Int.tdiv (IntKind.wrap .i64 ((IntKind.wrap .i64 ((((bitsN x2:Nat):Int))+4))-1)) 4)))))
noncomputable def ki1(x1 x2c0:List Nat)(z2c1:Int)(x2c2 x2c3:List Nat)(x3:List (List Nat))(x4:List Nat)(a5:Int):Option (kdy⊕kcd) :=
 cond (decide (a5>0)) (some (.inl (.p16 x1 x2c0 z2c1 x2c2 x2c3 x3 x4 a5 0 0))) ((u64P 1).bind fun w8=>(runP kc9 (.fn x2c0 z2c1 x2c2 x2c3 x4 [w8])).bind fun p9=>some (.inr (p9,0)))
noncomputable def kin(x1 x2c0:List Nat)(z2c1:Int)(x2c2 x2c3:List Nat)(x3:List (List Nat))(x4:List Nat)(a5 a6 a7:Int):Option (kdy⊕kcd) :=
 cond (decide (a7<4)) ((runP kc9 (.fn x2c0 z2c1 x2c2 x2c3 x4 x4)).bind fun p9=>(need (((IntKind.wrap .i64 ((IntKind.wrap .i64 ((IntKind.wrap .i64 (a5*4))-1))-a7)):Int)≤9223372036854775807)).bind fun c10_0=>cond (((bitN x1 (IntKind.wrap .i64 ((IntKind.wrap .i64 ((IntKind.wrap .i64 (a5*4))-1))-a7))))) (cond (decide ((IntKind.wrap .i64 (3-a7))<0)) (none) (some (.inl (.p16 x1 x2c0 z2c1 x2c2 x2c3 x3 p9 a5 (ior .i64 a6 (ishl .i64 1 (IntKind.wrap .i64 (3-a7)))) (IntKind.wrap .i64 (a7+1)))))) (some (.inl (.p16 x1 x2c0 z2c1 x2c2 x2c3 x3 p9 a5 a6 (IntKind.wrap .i64 (a7+1)))))) ((atX x3 a6).bind fun y9=>(runP kc9 (.fn x2c0 z2c1 x2c2 x2c3 x4 y9)).bind fun p10=>some (.inl (.p12 x1 x2c0 z2c1 x2c2 x2c3 x3 p10 (IntKind.wrap .i64 (a5-1)))))
noncomputable def kh0:kdy→Option (kdy⊕kcd)
 | .fn x1c0 z1c1 x1c2 x1c3 x2 x3=>km7 x1c0 z1c1 x1c2 x1c3 x2 x3
 | .p7 x1c0 z1c1 x1c2 x1c3 x2 x4 x5 a6=>kik x1c0 z1c1 x1c2 x1c3 x2 x4 x5 a6
 | .p12 x1 x2c0 z2c1 x2c2 x2c3 x3 x4 a5=>ki1 x1 x2c0 z2c1 x2c2 x2c3 x3 x4 a5
 | .p16 x1 x2c0 z2c1 x2c2 x2c3 x3 x4 a5 a6 a7=>kin x1 x2c0 z2c1 x2c2 x2c3 x3 x4 a5 a6 a7
@[reducible] def klh(h0:AH)(r:kcd)(v:AV)(h':AH):Prop:=∃s1:Sl,v=.tup [s1.v,.int .i64 r.2]∧Nats h' s1 r.1∧Grow h0 h'∧Own h0 s1
def kfx(r:kcd):kdy→Prop
 | .fn x1c0 z1c1 x1c2 x1c3 x2 x3=>∀{h:AH}{s1c0:Sl}{s1c2:Sl}{s1c3:Sl}{a2:Sl}{a3:Sl}{i1:Nat},h.has i1 [s1c0.v,.int .u64 z1c1,s1c2.v,s1c3.v] T.kco→Nats h s1c0 x1c0→Nats h s1c2 x1c2→Nats h s1c3 x1c3→Nats h a2 x2→Nats h a3 x3→Runs (go (.fn F.kb7 [.ptr (some (.new i1 0)),a2.v,a3.v]) h) (klh h r)
 | .p7 x1c0 z1c1 x1c2 x1c3 x2 x4 x5 a6=>∀{h0 h:AH}{s1c0:Sl}{s1c2:Sl}{s1c3:Sl}{a2:Sl}{a4:Sl}{a5:Sl}{i4:Option Nat}{i1:Nat},Grow h0 h→h0.has i1 [s1c0.v,.int .u64 z1c1,s1c2.v,s1c3.v] T.kco→Nats h0 s1c0 x1c0→Nats h0 s1c2 x1c2→Nats h0 s1c3 x1c3→Nats h0 a2 x2→GO El.nats T.kr h a4 i4 x4→Nats h a5 x5→LeO h0.blks.size i4→AvO a5 x5 i4→Runs (go (.pt F.kb7 Td.krl [(0,.ptr (some (.new i1 0))),(2,a2.v),(8,.func (.func F.kbk) [.ptr (some (.new i1 0))] []),(9,a4.v),(10,a5.v),(44,.int .i64 a6)]) h) (klh h0 r)
 | .p12 x1 x2c0 z2c1 x2c2 x2c3 x3 x4 a5=>∀{h0 h:AH}{a1:Sl}{s2c0:Sl}{s2c2:Sl}{s2c3:Sl}{a3:Sl}{a4:Sl}{i2:Nat},Grow h0 h→Nats h0 a1 x1→h0.has i2 [s2c0.v,.int .u64 z2c1,s2c2.v,s2c3.v] T.kco→Nats h0 s2c0 x2c0→Nats h0 s2c2 x2c2→Nats h0 s2c3 x2c3→Seq El.nats h a3 x3→Nats h a4 x4→Runs (go (.pt F.kb7 Td.koc [(2,a1.v),(8,.func (.func F.kbk) [.ptr (some (.new i2 0))] []),(9,a3.v),(11,a4.v),(12,.int .i64 a5)]) h) (klh h0 r)
 | .p16 x1 x2c0 z2c1 x2c2 x2c3 x3 x4 a5 a6 a7=>∀{h0 h:AH}{a1:Sl}{s2c0:Sl}{s2c2:Sl}{s2c3:Sl}{a3:Sl}{a4:Sl}{i2:Nat},Grow h0 h→Nats h0 a1 x1→h0.has i2 [s2c0.v,.int .u64 z2c1,s2c2.v,s2c3.v] T.kco→Nats h0 s2c0 x2c0→Nats h0 s2c2 x2c2→Nats h0 s2c3 x2c3→Seq El.nats h a3 x3→Nats h a4 x4→Runs (go (.pt F.kb7 Td.kkx [(2,a1.v),(8,.func (.func F.kbk) [.ptr (some (.new i2 0))] []),(9,a3.v),(11,a4.v),(12,.int .i64 a5),(13,.int .i64 a6),(72,.int .i64 a7)]) h) (klh h0 r)
theorem kbel{r:kcd}{o:kdy⊕kcd}{x1c0:List Nat}{z1c1:Int}{x1c2 x1c3 x2 x3:List Nat}(e:km7 x1c0 z1c1 x1c2 x1c3 x2 x3=some o)(good:GoodS (kfx r) r o):kfx r (.fn x1c0 z1c1 x1c2 x1c3 x2 x3):=by
 intro h s1c0 s1c2 s1c3 a2 a3 i1 b1 n1c0 n1c2 n1c3 n2 n3;rw[kbe6];unfold km7 at e;rw[n3.len];refine Runs.new fun H4 b4 g4=>?_;obtain⟨_,H5,e5,rfl,g5⟩:=kbbk (g4.has b1) (n1c0.grow g4) (n1c2.grow g4) (n1c3.grow g4) b4 (n2.grow g4);refine Runs.step e5 ?_;refine Runs.step (seen rfl) ?_;refine Runs.cond (fun k6=>?_) (fun k6=>?_)
 ·replace e:=(condT k6).symm.trans e;cases e;cases good;exact Runs.ret ⟨(⟨none,0,.is 0⟩:Sl),rfl,(Nats.nil _),(g4.trans g5),(Own.nil _)⟩
 ·replace e:=(condF k6).symm.trans e;refine Runs.step (kcr (n3.grow (g4.trans g5))) ?_;refine Runs.step (seen rfl) ?_;refine Runs.cond (fun k8=>?_) (fun k8=>?_)
  ·replace e:=(condT k8).symm.trans e;cases e;cases good;exact Runs.ret ⟨(⟨none,0,.is 0⟩:Sl),rfl,(Nats.nil _),(g4.trans g5),(Own.nil _)⟩
  ·replace e:=(condF k8).symm.trans e;refine Runs.cond (fun k9=>?_) (fun k9=>?_)
   ·replace e:=(condT k9).symm.trans e;cases e;cases good;exact Runs.ret ⟨(⟨none,0,.is 0⟩:Sl),rfl,(Nats.nil _),(g4.trans g5),(Own.nil _)⟩
   ·replace e:=(condF k9).symm.trans e;refine Runs.step rfl ?_;refine Runs.step (AH.has.rd ((g4.trans g5).has b1) 2 rfl (asSl_v _)) ?_;refine Runs.new fun H10 b10 g10=>?_;refine Runs.step rfl ?_;have G11:=((g4.trans g5).trans g10);have b1_12:=G11.has b1;refine Runs.step (AH.has.rd b1_12 3 rfl (asSl_v _)) ?_;have n1c0_13:=n1c0.grow G11;have n1c2_14:=n1c2.grow G11;have n1c3_15:=n1c3.grow G11;have n2_16:=n2.grow G11;obtain⟨p17,q17,e⟩:=Option.bind_eq_some_iff.1 e;obtain⟨_,H17,e17,s17,rfl,n17,g17,o17⟩:=kml b1_12 n1c0_13 n1c2_14 n1c3_15 n2_16 n1c3_15 q17;refine Runs.step e17 ?_;refine Runs.step (seen (asSl_v _)) ?_;cases e;have G18:=(G11.trans g17);exact good G18 b1 n1c0 n1c2 n1c3 n3 (GO.one (g17.has b10) ⟨_,rfl,(n1c2_14.grow g17)⟩ (AvE.nats (i:=some (H5.blks.size)) (Av.of_base n1c2 (Nat.le_trans ((g4.trans g5)).size (Nat.le_refl _))))) n17 (Nat.le_trans ((g4.trans g5)).size (Nat.le_refl _)) (Av.of_own o17 (b10).lt)
theorem kbbi{r:kcd}{o:kdy⊕kcd}{x1c0:List Nat}{z1c1:Int}{x1c2 x1c3 x2:List Nat}{x4:List (List Nat)}{x5:List Nat}{a6:Int}(e:kik x1c0 z1c1 x1c2 x1c3 x2 x4 x5 a6=some o)(good:GoodS (kfx r) r o):kfx r (.p7 x1c0 z1c1 x1c2 x1c3 x2 x4 x5 a6):=by
 intro h0 h s1c0 s1c2 s1c3 a2 a4 a5 i4 i1 g0 b1 n1c0 n1c2 n1c3 n2 v4 n5 hi4 av5_4;rw[kbiz];unfold kik at e;rw[(v4).seq.len];refine Runs.cond (fun k7=>?_) (fun k7=>?_)
 ·replace e:=(condT k7).symm.trans e;obtain⟨y8,q8,e⟩:=Option.bind_eq_some_iff.1 e;obtain⟨r8,cs8,j8,E8,l8⟩:=((v4).seq).at q8;obtain⟨s8,rfl,n8⟩:=E8;refine Runs.step j8 ?_;refine Runs.step (l8.rd0 (Grow.refl _) rfl (asSl_v _)) ?_;obtain⟨p9,q9,e⟩:=Option.bind_eq_some_iff.1 e;obtain⟨_,H9,e9,s9,rfl,n9,g9,o9⟩:=kml (g0.has b1) (n1c0.grow g0) (n1c2.grow g0) (n1c3.grow g0) n8 n5 q9;refine Runs.step e9 ?_;refine Runs.step (seen (asSl_v _)) ?_;refine Runs.new fun H10 b10 g10=>?_;refine Runs.step (kgv b10 (by rw[koz];rfl)) ?_;obtain⟨c11,q11,e⟩:=Option.bind_eq_some_iff.1 e;obtain⟨s11,H11,e11,v11,u11⟩:=GO.push (E:=El.nats) (v4.grow (g9.trans g10)) ⟨_,rfl,(n9.grow g10)⟩ (AvE.nats (AvO.of_own o9 (v4).lt)) c11.down;refine Runs.step e11 ?_;have n5_11:=(n5.grow (g9.trans g10)).updo av5_4 u11;have n9_11:=(n9.grow g10).updo (AvO.of_own o9 (v4).lt) u11;have b10_11:=AH.has.updo b10 (NeO.of_lt ((v4.grow g9)).lt (Nat.le_refl _)) u11;refine Runs.step (asSl_v _) ?_;have G12:=((g0.trans g9).trans g10);cases e;have G13:=(G12.updo hi4 u11);exact good G13 b1 n1c0 n1c2 n1c3 n2 v11 n5_11 (LeO.trans (G12).size (Nat.le_refl _)) (AvO.of_base n5 (LeO.trans ((g9.trans g10)).size (Nat.le_refl _)))
 ·replace e:=(condF k7).symm.trans e;refine Runs.step rfl ?_;refine Runs.step (AH.has.rd (g0.has b1) 2 rfl (asSl_v _)) ?_;obtain⟨_,H8,e8,rfl,g8⟩:=kvy (n2.grow g0);refine Runs.step e8 ?_;refine Runs.step (seen (kc _ _)) ?_;cases e;exact good (g0.trans g8) n2 b1 n1c0 n1c2 n1c3 (((v4.grow g8)).seq) (n1c2.grow (g0.trans g8))
theorem kbbb{r:kcd}{o:kdy⊕kcd}{x1 x2c0:List Nat}{z2c1:Int}{x2c2 x2c3:List Nat}{x3:List (List Nat)}{x4:List Nat}{a5:Int}(e:ki1 x1 x2c0 z2c1 x2c2 x2c3 x3 x4 a5=some o)(good:GoodS (kfx r) r o):kfx r (.p12 x1 x2c0 z2c1 x2c2 x2c3 x3 x4 a5):=by
 intro h0 h a1 s2c0 s2c2 s2c3 a3 a4 i2 g0 n1 b2 n2c0 n2c2 n2c3 n3 n4;rw[kbk9];unfold ki1 at e;refine Runs.cond (fun k6=>?_) (fun k6=>?_)
 ·replace e:=(condT k6).symm.trans e;cases e;exact good g0 n1 b2 n2c0 n2c2 n2c3 n3 n4
 ·replace e:=(condF k6).symm.trans e;refine Runs.new fun H7 b7 g7=>?_;obtain⟨w8,z8,e⟩:=Option.bind_eq_some_iff.1 e;obtain⟨p9,q9,e⟩:=Option.bind_eq_some_iff.1 e;obtain⟨_,H9,e9,s9,rfl,n9,g9,o9⟩:=kml ((g0.trans g7).has b2) (n2c0.grow (g0.trans g7)) (n2c2.grow (g0.trans g7)) (n2c3.grow (g0.trans g7)) (n4.grow g7) (Nats.of_has1 b7 z8) q9;refine Runs.step e9 ?_;refine Runs.step (seen (asSl_v _)) ?_;cases e;cases good;have G10:=((g0.trans g7).trans g9);exact Runs.ret ⟨s9,rfl,n9,G10,(o9.of_le (g0.trans g7))⟩
theorem kbgt{r:kcd}{o:kdy⊕kcd}{x1 x2c0:List Nat}{z2c1:Int}{x2c2 x2c3:List Nat}{x3:List (List Nat)}{x4:List Nat}{a5 a6 a7:Int}(e:kin x1 x2c0 z2c1 x2c2 x2c3 x3 x4 a5 a6 a7=some o)(good:GoodS (kfx r) r o):kfx r (.p16 x1 x2c0 z2c1 x2c2 x2c3 x3 x4 a5 a6 a7):=by
 intro h0 h a1 s2c0 s2c2 s2c3 a3 a4 i2 g0 n1 b2 n2c0 n2c2 n2c3 n3 n4;rw[kbaz];unfold kin at e;rw[n3.len];refine Runs.cond (fun k8=>?_) (fun k8=>?_)
 ·replace e:=(condT k8).symm.trans e;obtain⟨p9,q9,e⟩:=Option.bind_eq_some_iff.1 e;obtain⟨_,H9,e9,s9,rfl,n9,g9,o9⟩:=kml (g0.has b2) (n2c0.grow g0) (n2c2.grow g0) (n2c3.grow g0) n4 n4 q9;refine Runs.step e9 ?_;refine Runs.step (seen (asSl_v _)) ?_;obtain⟨c10_0,q10_0,e⟩:=Option.bind_eq_some_iff.1 e;obtain⟨_,H10,e10,rfl,g10⟩:=kyc (n1.grow (g0.trans g9))  c10_0.down;refine Runs.step e10 ?_;refine Runs.step (seen rfl) ?_;refine Runs.cond (fun k11=>?_) (fun k11=>?_)
  ·replace e:=(condT k11).symm.trans e;refine Runs.cond (fun k12=>?_) (fun k12=>?_)
   ·replace e:=(condT k12).symm.trans e;cases e
   ·replace e:=(condF k12).symm.trans e;cases e;have G13:=((g0.trans g9).trans g10);exact good G13 n1 b2 n2c0 n2c2 n2c3 (n3.grow (g9.trans g10)) (n9.grow g10)
  ·replace e:=(condF k11).symm.trans e;cases e;have G12:=((g0.trans g9).trans g10);exact good G12 n1 b2 n2c0 n2c2 n2c3 (n3.grow (g9.trans g10)) (n9.grow g10)
 ·replace e:=(condF k8).symm.trans e;obtain⟨y9,q9,e⟩:=Option.bind_eq_some_iff.1 e;obtain⟨r9,cs9,j9,E9,l9⟩:=(n3).at q9;obtain⟨s9,rfl,n9⟩:=E9;refine Runs.step j9 ?_;refine Runs.step (l9.rd0 (Grow.refl _) rfl (asSl_v _)) ?_;obtain⟨p10,q10,e⟩:=Option.bind_eq_some_iff.1 e;obtain⟨_,H10,e10,s10,rfl,n10,g10,o10⟩:=kml (g0.has b2) (n2c0.grow g0) (n2c2.grow g0) (n2c3.grow g0) n4 n9 q10;refine Runs.step e10 ?_;refine Runs.step (seen (asSl_v _)) ?_;cases e;exact good (g0.trans g10) n1 b2 n2c0 n2c2 n2c3 (n3.grow g10) n10
theorem kbdi{s:kdy}{r:kcd}(it:Iter kh0 s r):kfx r s:=Iter.ind (fun s o e good=>by
 cases s with
 | fn x1c0 z1c1 x1c2 x1c3 x2 x3=>exact @kbel _ _ x1c0 z1c1 x1c2 x1c3 x2 x3 e good
 | p7 x1c0 z1c1 x1c2 x1c3 x2 x4 x5 a6=>exact @kbbi _ _ x1c0 z1c1 x1c2 x1c3 x2 x4 x5 a6 e good
 | p12 x1 x2c0 z2c1 x2c2 x2c3 x3 x4 a5=>exact @kbbb _ _ x1 x2c0 z2c1 x2c2 x2c3 x3 x4 a5 e good
 | p16 x1 x2c0 z2c1 x2c2 x2c3 x3 x4 a5 a6 a7=>exact @kbgt _ _ x1 x2c0 z2c1 x2c2 x2c3 x3 x4 a5 a6 a7 e good
 ) it
theorem kbid{h:AH}{s1c0 s1c2 s1c3 a2 a3:Sl}{i1:Nat}{x1c0:List Nat}{z1c1:Int}{x1c2 x1c3 x2 x3:List Nat}(b1:h.has i1 [s1c0.v,.int .u64 z1c1,s1c2.v,s1c3.v] T.kco)(n1c0:Nats h s1c0 x1c0)(n1c2:Nats h s1c2 x1c2)(n1c3:Nats h s1c3 x1c3)(n2:Nats h a2 x2)(n3:Nats h a3 x3){r:kcd}(q:runP kh0 (.fn x1c0 z1c1 x1c2 x1c3 x2 x3)=some r):Runs (go (.fn F.kb7 [.ptr (some (.new i1 0)),a2.v,a3.v]) h) (klh h r):=kbdi (kdc q) b1 n1c0 n1c2 n1c3 n2 n3
end Go.Ab

/- squeezed -/
set_option maxRecDepth 10000
namespace Go.Ab
open Go.Proofs Go.Num
theorem k2r{n:Nat}(h:n≤1000000):growOk Pg n T.kr 1=true:=by
 unfold growOk;rw[k4f,kbbd];have h1:n*24≤kbg:=by simp only[kbg];omega
 have h2:n≤kbg:=by simp only[kbg];omega
 simp[h1,h2]
theorem k4i:∀c:_root_.Fin 4,∀m:_root_.Fin (2^c.val),ior .i64 ((m.val*2^(4-c.val):Nat):Int) (ishl .i64 1 (IntKind.wrap .i64 (3-(c.val:Int))))=(((2*m.val+1)*2^(3-c.val):Nat):Int):=by decide +kernel
theorem k4v(E j:Nat):E/2^j=2*(E/2^(j+1))+(E.testBit j).toNat:=by
 rw[Nat.testBit_eq_decide_div_mod_eq,Nat.pow_succ,← Nat.div_div_eq_div_mul];generalize E/2^j=z;have:=Nat.mod_two_eq_zero_or_one z;rcases this with h | h<;>rw[h]<;>simp<;>omega
structure RingOk(N k v:Nat):Prop where
 hk:k≤60
 lt:N<B^k
 one:1<N
 odd:N%2=1
 hv:v<B
 inv:(N*v+1)%B=0
 len:(digs B N).length=k
def form(N k u:Nat):List Nat:=digs B (u*2^(64*k)%N)
def kct(N k A j:Nat):List (List Nat):=(List.range (j+1)).map fun i=>form N k (A^i)
section
variable{N k v:Nat}{ones nexts:List Nat}
theorem RingOk.prod(r:RingOk N k v){X Y:Nat}(hX:X<N)(hY:Y<N):runP kc9 (.fn (digs B N) (v:Int) ones nexts (digs B X) (digs B Y))=some (digs B (redc N (64*k) (X*Y))):=by
 have:=kbi1 (ns:=digs B N) (xs:=digs B X) (ys:=digs B Y) (ones:=ones) (nexts:=nexts) r.hk r.len (kbe B2 N) (kc4 B2 N) (kbe B2 X) (kbe B2 Y) r.hv
  (by rw[kg B2];exact r.inv) (by rw[kg B2];exact r.odd) ((kbb B2 X k).2 (Nat.lt_trans hX r.lt)) (by rw[kg B2,kg B2];exact hY)
 simpa only[kg B2]using this
theorem RingOk.forms(r:RingOk N k v)(x y:Nat):runP kc9 (.fn (digs B N) (v:Int) ones nexts (form N k x) (form N k y))=some (form N k (x*y)):=by
 have hN:0<N:=by have:=r.one;omega
 unfold form;rw[r.prod (Nat.mod_lt _ hN) (Nat.mod_lt _ hN),kbf6 r.odd]
theorem RingOk.into(r:RingOk N k v){a:Nat}(ha:a<N):runP kc9 (.fn (digs B N) (v:Int) ones nexts (digs B a) (digs B (2^(64*k)*2^(64*k)%N)))=some (form N k a):=by
 have hN:0<N:=by have:=r.one;omega
 unfold form;rw[r.prod ha (Nat.mod_lt _ hN),k6z r.odd]
theorem RingOk.out(r:RingOk N k v)(x:Nat):runP kc9 (.fn (digs B N) (v:Int) ones nexts (form N k x) [1])=some (digs B (x%N)):=by
 have hN:0<N:=by have:=r.one;omega
 have h1:([1]:List Nat)=digs B 1:=by rw[ket B2 (by decide),show 1/B=0 from rfl,kbp];rfl
 unfold form;rw[h1,r.prod (Nat.mod_lt _ hN) r.one,kbcn r.odd]
theorem kbhj(A j:Nat):kct N k A (j+1)=kct N k A j++[form N k (A^(j+1))]:=by
 unfold kct;rw[List.range_succ,List.map_append];rfl
theorem k0v{A j i:Nat}(h:i≤j):atX (kct N k A j) (i:Int)=some (form N k (A^i)):=by
 unfold kct;rw[kju (by rw[List.length_map,List.length_range];omega),List.getElem_map,List.getElem_range]
theorem kww(r:RingOk N k v){es:List Nat}(le:∀x∈es,x<B)(re:rt es=true){A t:Nat}(ht:t≤100000)(K:Iter kh0 (.p12 es (digs B N) (v:Int) ones nexts (kct N k A 15) (form N k (A^(num B es/2^(4*t)))) (t:Int)) (digs B (A^num B es%N),0)) :
  ∀(d c m q:Nat),c+d=4→num B es/2^(4*(t+1)-c)=q*2^c+m→m<2^c→
   Iter kh0 (.p16 es (digs B N) (v:Int) ones nexts (kct N k A 15) (form N k (A^(q*2^c))) ((t+1:Nat):Int) ((m*2^(4-c):Nat):Int) (c:Int)) (digs B (A^num B es%N),0)
 | 0,c,m,q,hc,hq,hm=>by
  have hc:c=4:=by omega
  subst hc;refine .next ?_ K;show kin _ _ _ _ _ _ _ _ _ _=_;unfold kin;have h16:(2:Nat)^4=16:=rfl;rw[h16]at hm;rw[condF (by decide),show m*2^(4-4)=m from by simp,k0v (by omega),Option.bind_some,r.forms,Option.bind_some,show(((t+1:Nat):Int)-1)=(t:Int)from by omega,kbh (by omega),← Nat.pow_add,← hq,show 4*(t+1)-4=4*t from by omega]
 | d+1,c,m,q,hc,hq,hm=>by
  have hb:=k4v (num B es) (4*(t+1)-(c+1));rw[show 4*(t+1)-(c+1)+1=4*(t+1)-c from by omega,hq]at hb;have hd:=k4i ⟨c,by omega⟩ ⟨m,hm⟩;dsimp only at hd;have e1:q*2^(c+1)=q*2^c+q*2^c:=by rw[Nat.pow_succ,← Nat.mul_assoc];omega
  have e2:m*2^(4-c)=2*m*2^(4-(c+1)):=by rw[show 4-c=4-(c+1)+1 from by omega,Nat.pow_succ,Nat.mul_comm (2^(4-(c+1))) 2,← Nat.mul_assoc,Nat.mul_comm m 2]
  have hi:(IntKind.wrap .i64 ((IntKind.wrap .i64 ((IntKind.wrap .i64 (((t+1:Nat):Int)*4))-1))-(c:Int)))=((4*(t+1)-(c+1):Nat):Int):=by
   rw[show((t+1:Nat):Int)*4=((4*(t+1):Nat):Int)from by omega,kbh (by omega),show((4*(t+1):Nat):Int)-1=((4*(t+1)-1:Nat):Int)from by omega,kbh (by omega),show((4*(t+1)-1:Nat):Int)-(c:Int)=((4*(t+1)-(c+1):Nat):Int)from by omega,kbh (by omega)]
  have hm2:2^(c+1)=2*2^c:=by rw[Nat.pow_succ];omega
  have hneed:((4*(t+1)-(c+1):Nat):Int)≤9223372036854775807:=by omega
  have step:kin es (digs B N) (v:Int) ones nexts (kct N k A 15) (form N k (A^(q*2^c))) ((t+1:Nat):Int) ((m*2^(4-c):Nat):Int) (c:Int) =
    some (.inl (.p16 es (digs B N) (v:Int) ones nexts (kct N k A 15) (form N k (A^(q*2^(c+1)))) ((t+1:Nat):Int) (((2*m+((num B es).testBit (4*(t+1)-(c+1))).toNat)*2^(4-(c+1)):Nat):Int) ((c+1:Nat):Int))):=by
   unfold kin;rw[condT (by rw[decide_eq_true_eq];omega),r.forms,Option.bind_some,hi,ki hneed,Option.bind_some,klf re,kj (by omega),← Nat.pow_add,← e1];cases hbit:(num B es).testBit (4*(t+1)-(c+1))
   ·rw[cond_false,e2];rfl
   ·rw[cond_true,condF (by rw[decide_eq_false_iff_not,show(3:Int)-(c:Int)=((3-c:Nat):Int)from by omega,kbh (by omega)];omega),hd,show 4-(c+1)=3-c from by omega];rfl
  refine .next step (kww r le re ht K d (c+1) _ q (by omega) ?_ ?_)
  ·rw[hb,e1];omega
  ·cases(num B es).testBit (4*(t+1)-(c+1))
   ·show 2*m+0<_;omega
   ·show 2*m+1<_;omega
theorem kxc(r:RingOk N k v){es:List Nat}(le:∀x∈es,x<B)(re:rt es=true){A:Nat}:∀t:Nat,t≤100000→
  Iter kh0 (.p12 es (digs B N) (v:Int) ones nexts (kct N k A 15) (form N k (A^(num B es/2^(4*t)))) (t:Int)) (digs B (A^num B es%N),0)
 | 0,_=>by
  refine .done ?_;show ki1 _ _ _ _ _ _ _ _=_;unfold ki1;rw[condF (by decide),show u64P 1=some 1 from rfl,Option.bind_some,r.out,Option.bind_some,Nat.mul_zero,Nat.pow_zero,Nat.div_one]
 | t+1,ht=>by
  have K:=kxc r le re (A:=A) t (by omega);have:=kww r le re (by omega) K 4 0 0 (num B es/2^(4*(t+1))) (by omega) (by simp) (by simp);rw[Nat.pow_zero,Nat.mul_one,Nat.zero_mul]at this;refine .next ?_ this;show ki1 _ _ _ _ _ _ _ _=_;unfold ki1;rw[condT (by rw[decide_eq_true_eq];omega)];rfl
theorem exp_p7(r:RingOk N k v)(h1:ones=form N k 1){es:List Nat}(le:∀x∈es,x<B)(re:rt es=true){A:Nat}:∀(d j:Nat),j+d=15→
  Iter kh0 (.p7 (digs B N) (v:Int) ones nexts es (kct N k A j) (form N k A) (j:Int)) (digs B (A^num B es%N),0)
 | 0,j,hj=>by
  have hj:j=15:=by omega
  subst hj;have h64:=(rt_iff.1 re).1;have hlt:=num_lt B1 le;rw[B_pow2]at hlt
  have hb:bitsN es≤64*64:=by
   unfold bitsN;rw[if_pos re];exact Nat.le_trans (bl_le hlt) (Nat.mul_le_mul_left _ h64)
  have hE:num B es<2^bitsN es:=by
   unfold bitsN;rw[if_pos re];exact(bl_Bl _).1
  have:=kxc r le re (A:=A) (ones:=ones) (nexts:=nexts) ((bitsN es+3)/4) (by omega)
  have hz:num B es/2^(4*((bitsN es+3)/4))=0:=by
   refine Nat.div_eq_of_lt (Nat.lt_of_lt_of_le hE (Nat.pow_le_pow_right (by decide) (by omega)))
  rw[hz,Nat.pow_zero,← h1]at this;refine .next ?_ this;show kik _ _ _ _ _ _ _ _=_;unfold kik;rw[condF (by decide),show((bitsN es:Nat):Int)+4=((bitsN es+4:Nat):Int)from by omega,kbh (by omega),show((bitsN es+4:Nat):Int)-1=((bitsN es+3:Nat):Int)from by omega,kbh (by omega),show Int.tdiv ((bitsN es+3:Nat):Int) 4=(((bitsN es+3)/4:Nat):Int)from rfl,kbh (by omega)]
 | d+1,j,hj=>by
  have hl:(kct N k A j).length=j+1:=by unfold kct;simp
  refine .next ?_ (exp_p7 r h1 le re d (j+1) (by omega));show kik _ _ _ _ _ _ _ _=_;unfold kik;have hg:growOk Pg (j+1+1) T.kr 1=true:=k2r (by omega);rw[condT (by rw[decide_eq_true_eq];omega),hl,show((j+1:Nat):Int)-1=(j:Int)from by omega,kbh (by omega),k0v (Nat.le_refl _),Option.bind_some,r.forms,Option.bind_some,ki hg,Option.bind_some,kj (by omega),kbhj,Nat.pow_succ]
theorem k91(r:RingOk N k v){A:Nat}(hA:A<N){es:List Nat}(le:∀x∈es,x<B)(re:rt es=true)(h8:es.length≤8) :
  runP kh0 (.fn (digs B N) (v:Int) (form N k 1) (digs B (2^(64*k)*2^(64*k)%N)) (digs B A) es)=some (digs B (A^num B es%N),0):=by
 have:=exp_p7 r rfl (nexts:=digs B (2^(64*k)*2^(64*k)%N)) le re (A:=A) 15 0 (by omega);refine kcw (.next ?_ this);show km7 _ _ _ _ _ _=_;have h60:N<B^64:=Nat.lt_of_lt_of_le r.lt (Nat.pow_le_pow_right (by decide) (by have:=r.hk;omega))
 have hb:belowF (digs B A) (digs B N)=true:=by
  unfold belowF;rw[kp (Nat.lt_trans hA h60),khm (kp (Nat.lt_trans hA h60)) (kp h60),kg B2,kg B2];unfold cmp;rw[if_pos hA];rfl
 unfold km7;rw[hb,re,show(!true)=false from rfl,cond_false,cond_false,condF (by rw[decide_eq_false_iff_not];omega),r.into hA,Option.bind_some];simp[kct,form]
end
end Go.Ab

/- squeezed -/
set_option maxRecDepth 10000
namespace Go.Ab
open Go.Proofs Go.Num
inductive kjk
 | fn (x1c0:List Nat) (z1c1:Int) (x1c2:List Nat) (x1c3:List Nat) (a2:Int)
 | no
abbrev kgq:=List Nat
noncomputable def klu(x1c0:List Nat)(z1c1:Int)(x1c2 x1c3:List Nat)(a2:Int):Option (kjk⊕kgq) :=
 (mkI (IntKind.wrap .i64 ((IntKind.wrap .i64 (a2*(List.length x1c0:Int)))+1)) (IntKind.wrap .i64 ((IntKind.wrap .i64 (a2*(List.length x1c0:Int)))+1))).bind fun m3=>(inI (List.length (List.replicate m3 0)) (IntKind.wrap .i64 (a2*(List.length x1c0:Int)))).bind fun j4=>(u64P 1).bind fun w5=>some (.inr ((divN (List.set (List.replicate m3 0) j4 w5) x1c0).2.1))
noncomputable def kss:kjk→Option (kjk⊕kgq)
 | .fn x1c0 z1c1 x1c2 x1c3 a2=>klu x1c0 z1c1 x1c2 x1c3 a2
 | .no=>none
@[reducible] def kxi(h0:AH)(r:kgq)(v:AV)(h':AH):Prop:=∃s1:Sl,v=s1.v∧Nats h' s1 r∧Grow h0 h'∧Own h0 s1
def ksn(r:kgq):kjk→Prop
 | .fn x1c0 z1c1 x1c2 x1c3 a2=>∀{h:AH}{s1c0:Sl}{s1c2:Sl}{s1c3:Sl}{i1:Nat},h.has i1 [s1c0.v,.int .u64 z1c1,s1c2.v,s1c3.v] T.kco→Nats h s1c0 x1c0→Nats h s1c2 x1c2→Nats h s1c3 x1c3→Runs (go (.fn F.klj [.ptr (some (.new i1 0)),.int .i64 a2]) h) (kxi h r)
 | .no=>True
theorem kbej{r:kgq}{o:kjk⊕kgq}{x1c0:List Nat}{z1c1:Int}{x1c2 x1c3:List Nat}{a2:Int}(e:klu x1c0 z1c1 x1c2 x1c3 a2=some o)(good:GoodS (ksn r) r o):ksn r (.fn x1c0 z1c1 x1c2 x1c3 a2):=by
 intro h s1c0 s1c2 s1c3 i1 b1 n1c0 n1c2 n1c3;rw[kbjr];unfold klu at e;refine Runs.step rfl ?_;refine Runs.step (AH.has.rd b1 0 rfl (asSl_v _)) ?_;rw[n1c0.len];obtain⟨m3,q3,e⟩:=Option.bind_eq_some_iff.1 e;refine Runs.mk q3 kc0 fun s3 H3 v3 g3=>?_;rw[v3.nats.len];refine Runs.step rfl ?_;refine Runs.step (AH.has.rd (g3.has b1) 0 rfl (asSl_v _)) ?_;rw[(n1c0.grow g3).len];obtain⟨j4,q4,e⟩:=Option.bind_eq_some_iff.1 e;refine Runs.step (v3.idx rfl q4) ?_;obtain⟨w5,z5,e⟩:=Option.bind_eq_some_iff.1 e;refine Runs.vput v3 rfl q4 z5 fun H5 v5 u5=>?_;refine Runs.step rfl ?_;refine Runs.step (AH.has.rd ((g3.updr (Nat.le_refl _) u5).has b1) 0 rfl (asSl_v _)) ?_;obtain⟨s6,s6b,H6,e6,n6,n6b,g6,o6,o6b⟩:=kfu v5.nats (n1c0.grow (g3.updr (Nat.le_refl _) u5));refine Runs.step e6 ?_;refine Runs.step rfl ?_;refine Runs.step (seen (asSl_v _)) ?_;refine Runs.step (seen (asSl_v _)) ?_;refine Runs.step (seen (kc _ _)) ?_;cases e;cases good;have G7:=((g3.updr (Nat.le_refl _) u5).trans g6);exact Runs.ret ⟨s6b,rfl,n6b,G7,(o6b.of_le (g3.updr (Nat.le_refl _) u5))⟩
theorem k55{s:kjk}{r:kgq}(it:Iter kss s r):ksn r s:=Iter.ind (fun s o e good=>by
 cases s with
 | fn x1c0 z1c1 x1c2 x1c3 a2=>exact @kbej _ _ x1c0 z1c1 x1c2 x1c3 a2 e good
 | no=>exact True.intro
 ) it
theorem kxm{h:AH}{s1c0 s1c2 s1c3:Sl}{i1:Nat}{x1c0:List Nat}{z1c1:Int}{x1c2 x1c3:List Nat}{a2:Int}(b1:h.has i1 [s1c0.v,.int .u64 z1c1,s1c2.v,s1c3.v] T.kco)(n1c0:Nats h s1c0 x1c0)(n1c2:Nats h s1c2 x1c2)(n1c3:Nats h s1c3 x1c3){r:kgq}(q:runP kss (.fn x1c0 z1c1 x1c2 x1c3 a2)=some r):Runs (go (.fn F.klj [.ptr (some (.new i1 0)),.int .i64 a2]) h) (kxi h r):=k55 (kdc q) b1 n1c0 n1c2 n1c3
end Go.Ab

/- squeezed -/
set_option maxRecDepth 10000
namespace Go.Ab
open Go.Proofs Go.Num
theorem kba9(n:Nat):num B (List.replicate n 0++[1])=B^n:=by
 have h:num B (List.replicate n 0)=0:=by have:=kfq B [] n;simpa[num]using this
 rw[kc7,h,List.length_replicate];simp[num]
theorem k0r{ns c2 c3:List Nat}(z:Int){p k:Nat}(hk:ns.length=k)(hp:p≤2)(h8:k≤8)(h0:k≠0)(r:rt ns=true):runP kss (.fn ns z c2 c3 (p:Int))=some (digs B (B^(p*k)%num B ns)):=by
 have hpk:p*k≤2*8:=Nat.mul_le_mul hp h8;refine kcw (.done ?_);show klu ns z c2 c3 (p:Int)=_;unfold klu;have e:IntKind.wrap .i64 ((p:Int)*(k:Int))=((p*k:Nat):Int):=by rw[← Int.natCast_mul,kbh (by omega)]
 rw[hk,e,kj (by omega),kd4 (by omega),Option.bind_some,List.length_replicate,kz (by omega),Option.bind_some,show u64P 1=some 1 from rfl,Option.bind_some]
 have hs:(List.replicate (p*k+1) 0).set (p*k) 1=List.replicate (p*k) 0++[1]:=by
  rw[List.replicate_succ'];have:=kq8 (List.replicate (p*k) 0) 0 1 [] (n:=p*k) (by simp);rw[this,List.append_nil]
 have rx:rt (List.replicate (p*k) 0++[1])=true:=rt_iff.2 ⟨by simp;omega,fun h=>by simp⟩;rw[hs,kpj rx r (fun e=>h0 (by rw[← hk,e];rfl)),kba9]
theorem kbjc(n x:Int):IntKind.wrap .u64 (x*IntKind.wrap .u64 (2-IntKind.wrap .u64 (n*x)))=(x*(2-n*x))%18446744073709551616:=by
 rw[wrapU,wrapU,wrapU]
 have:(2-n*x%18446744073709551616)%18446744073709551616=(2-n*x)%18446744073709551616:=by
  generalize n*x=t;omega
 rw[this,newton.Int.mul_emod_aux]
theorem kber{n x i:Nat}(hi:i<6)(h:(n*x)%2^(2^i)=1%2^(2^i)):∃y:Nat,y<18446744073709551616∧(((x:Int)*(2-(n:Int)*(x:Int)))%18446744073709551616)=(y:Int)∧(n*y)%2^(2^(i+1))=1%2^(2^(i+1)):=by
 have h1:=Int.emod_nonneg ((x:Int)*(2-(n:Int)*(x:Int))) (show(18446744073709551616:Int)≠0 by decide);have h2:=Int.emod_lt_of_pos ((x:Int)*(2-(n:Int)*(x:Int))) (show(0:Int)<18446744073709551616 by decide);refine⟨(((x:Int)*(2-(n:Int)*(x:Int)))%18446744073709551616).toNat,by omega,by omega,?_⟩;have hw:(2:Nat)^(2^(i+1))=2^(2^i)*2^(2^i):=by rw[← Nat.pow_add,Nat.pow_succ,Nat.mul_two]
 have hd:(2:Nat)^(2^(i+1))∣18446744073709551616:=Nat.pow_dvd_pow 2 (show 2^(i+1)≤2^6 from Nat.pow_le_pow_right (by decide) (by omega));generalize (2:Nat)^(2^(i+1))=w at hw hd⊢;have hd':(w:Int)∣18446744073709551616:=Int.natCast_dvd_natCast.2 hd;have:=newton hw h (((x:Int)*(2-(n:Int)*(x:Int)))%18446744073709551616) (Int.emod_emod_of_dvd _ hd');have e:((((x:Int)*(2-(n:Int)*(x:Int)))%18446744073709551616).toNat:Int)=((x:Int)*(2-(n:Int)*(x:Int)))%18446744073709551616:=by omega
 rw[← e]at this;generalize (((x:Int)*(2-(n:Int)*(x:Int)))%18446744073709551616).toNat=y at this⊢;rw[← Int.natCast_mul]at this;exact Int.ofNat.inj this
theorem kbbe{n x:Nat}(h:(n*x)%2^(2^6)=1%2^(2^6)):∃v:Nat,v<18446744073709551616∧IntKind.wrap .u64 (0-(x:Int))=(v:Int)∧(n*v+1)%18446744073709551616=0:=by
 rw[wrapU];refine⟨((0-(x:Int))%18446744073709551616).toNat,by omega,by omega,?_⟩;have e:((((0-(x:Int))%18446744073709551616).toNat:Nat):Int)=(0-(x:Int))%18446744073709551616:=by omega
 have h':(n*x)%18446744073709551616=1:=h
 have k:((n:Int)*((0-(x:Int))%18446744073709551616)+1)%18446744073709551616=0:=by
  rw[Int.add_emod,newton.Int.mul_emod_aux,← Int.add_emod,Int.zero_sub,Int.mul_neg,← Int.natCast_mul];omega
 rw[← e]at k;generalize ((0-(x:Int))%18446744073709551616).toNat=y at k⊢;rw[← Int.natCast_mul]at k;omega
def NewP(h:AH)(ns:List Nat)(w:AV)(h':AH):Prop :=
 ∃(j v:Nat)(s0 s2 s3:Sl),w=.tup [.ptr (some (.new j 0)),.int .i64 0]∧v<B∧(num B ns*v+1)%B=0∧h'.has j [s0.v,.int .u64 (v:Int),s2.v,s3.v] T.kco∧Nats h' s0 ns∧Nats h' s2 (digs B (B^(1*ns.length)%num B ns))∧Nats h' s3 (digs B (B^(2*ns.length)%num B ns))∧Grow h h'
theorem kx9{h0 h:AH}{s:Sl}{ns:List Nat}(n:Nats h s ns)(hn:0<ns.length)(h8:ns.length≤8)(r:rt ns=true)(g:Grow h0 h):∀(d i x:Nat),i+d=6→x<18446744073709551616→(ns[0]*x)%2^(2^i)=1%2^(2^i)→
  Runs (go (.pt F.kew Td.ki8 [(0,s.v),(4,.int .u64 (x:Int)),(40,.int .i64 (i:Int))]) h) (NewP h0 ns)
 | 0,i,x,hi,hx,e=>by
  have hi:i=6:=by omega
  subst hi;obtain⟨v,v1,v2,v3⟩:=kbbe e;rw[kyq];refine Runs.ifF (by decide) ?_;obtain⟨s1,h1,e1,n1,g1,o1⟩:=kki n (by omega);refine Runs.step e1 ?_;refine Runs.step (seen (asSl_v _)) ?_;rw[v2];refine Runs.new fun h2 b2 g2=>?_;obtain⟨_,h3,e3,s3,rfl,n3,g3,o3⟩:=kxm b2 (n1.grow g2) (Nats.nil _) (Nats.nil _) (k0r (v:Int) rfl (show 1≤2 by decide) h8 (by omega) r);refine Runs.step e3 ?_;refine Runs.step (seen (asSl_v _)) ?_;refine Runs.putAt (o:=2) (cs':=[s1.v,.int .u64 (v:Int),s3.v,(⟨none,0,.is 0⟩:Sl).v]) (vs:=[s3.v]) (g3.has b2) (by simp) rfl fun h4 b4 u4=>?_;have n3':=n3.upda (Av.of_own o3 b2.lt) u4;have gg:Grow h1 h4:=(g2.trans g3).updr (Nat.le_refl _) u4;obtain⟨_,h5,e5,s5,rfl,n5,g5,o5⟩:=kxm (a2:=((2:Nat):Int)) b4 (n1.grow gg) n3' (Nats.nil _) (k0r (v:Int) rfl (show 2≤2 by decide) h8 (by omega) r);refine Runs.step e5 ?_;refine Runs.step (seen (asSl_v _)) ?_;refine Runs.putAt (o:=3) (cs':=[s1.v,.int .u64 (v:Int),s3.v,s5.v]) (vs:=[s5.v]) (g5.has b4) (by simp) rfl fun h6 b6 u6=>?_;have gg6:Grow h1 h6:=(gg.trans g5).updr (Nat.le_refl _) u6;refine Runs.ret ⟨_,v,s1,s3,s5,rfl,v1,?_,b6,n1.grow gg6,(n3'.grow g5).upda (Av.of_own o3 b2.lt) u6,n5.upda (Av.of_own o5 b4.lt) u6,(g.trans g1).trans gg6⟩;rw[kk8 B ns,Nat.add_mul,Nat.mul_assoc,Nat.add_right_comm,Nat.add_mul_mod_self_left]
  have:ns.headD 0=ns[0]:=by
   cases ns with
   | nil=>simp at hn
   | cons y ys=>rfl
  rw[this];exact v3
 | d+1,i,x,hi,hx,e=>by
  rw[kyq];refine Runs.ifT (by rw[decide_eq_true_eq];omega) ?_;obtain⟨q,e1,e2⟩:=n.at (i:=0) hn;rw[n.len]at e1⊢;refine Runs.step e1 ?_;refine Runs.step (rdc e2 (kc _ _)) ?_;obtain⟨y,y1,y2,y3⟩:=kber (by omega) e;rw[kbjc,y2,kj (by omega)];exact kx9 n hn h8 r g d (i+1) y (by omega) y1 y3
theorem k9s{h:AH}{s:Sl}{ns:List Nat}(n:Nats h s ns)(r:rt ns=true)(hn:ns.length≠0)(h8:ns.length≤8)(ho:num B ns%2=1)(h1:1<num B ns):Runs (go (.fn F.kew [s.v]) h) (NewP h ns):=by
 have hp:0<ns.length:=by omega
 have hd:ns.headD 0=ns[0]:=by
  cases ns with
  | nil=>simp at hp
  | cons y ys=>rfl
 have hb:ns[0]<18446744073709551616:=n.lt _ (List.getElem_mem _)
 have hodd:ns[0]%2=1:=by
  rw[kk8 B ns,hd]at ho;have:(ns[0]+18446744073709551616*num B ns.tail)%2=1:=ho;omega
 have hs:(ns[0]*ns[0])%2^(2^0)=1%2^(2^0):=by
  show(ns[0]*ns[0])%2=1;rw[Nat.mul_mod,hodd]
 have rd:∀{K:Ref→Option (AV×AH)}{Q:AV→AH→Prop},(∀q,h.cell q=some (.int .u64 ((ns[0]:Nat):Int))→Runs (K q) Q)→Runs ((idx s.ref ns.length 0 1).bind K) Q:=by
  intro K Q H;obtain⟨q,e1,e2⟩:=n.at (i:=0) hp;rw[n.len]at e1;exact Runs.step e1 (H q e2)
 rw[kbgm];refine Runs.step (kcr n) ?_;refine Runs.step (seen rfl) ?_;rw[show s.len=ns.length from n.len];refine Runs.ifF (by rw[r];rfl) ?_;refine Runs.ifF (by rw[decide_eq_false_iff_not];omega) ?_;refine Runs.ifF (by rw[decide_eq_false_iff_not];omega) ?_;refine rd fun q hq=>?_;refine Runs.step (rdc hq (kc _ _)) ?_;refine Runs.ifF (by rw[kxn hb,decide_eq_false_iff_not];omega) ?_;have lp:Runs (go (.pt F.kew Td.ki8 [(0,s.v),(4,.int .u64 ((ns[0]:Nat):Int)),(40,.int .i64 0)]) h) (NewP h ns):=kx9 n hp h8 r (Grow.refl h) 6 0 ns[0] rfl hb hs;refine Runs.cond (fun k=>?_) (fun k=>?_)
 ·refine rd fun q hq=>?_;refine Runs.step (rdc hq (kc _ _)) ?_;refine Runs.ifF ?_ ?_
  ·rw[decide_eq_false_iff_not];intro e;have hl:ns.length=1:=by rw[decide_eq_true_eq]at k;omega
   obtain⟨y,hy⟩:=List.length_eq_one_iff.1 hl;subst hy;simp[num]at h1 e;omega
  ·refine rd fun q hq=>?_;refine Runs.step (rdc hq (kc _ _)) ?_;exact lp
 ·refine rd fun q hq=>?_;refine Runs.step (rdc hq (kc _ _)) ?_;exact lp
end Go.Ab

/- squeezed -/
set_option maxRecDepth 10000
namespace Go.Ab
open Go.Proofs Go.Num
def kbd(x1:List Nat):List Nat :=
 (mulN x1 x1).1
theorem kue{h:AH}{a1:Sl}{x1:List Nat}(n1:Nats h a1 x1)  : Runs (go (.fn F.kl3 [a1.v]) h) fun v h'=>∃s1:Sl,v=s1.v∧Nats h' s1 (kbd x1)∧Grow h h'∧Own h s1:=by
 rw[kbdb];obtain⟨s2,H2,e2,n2,g2,o2⟩:=kek n1 n1;refine Runs.step e2 ?_;refine Runs.step rfl ?_;refine Runs.step (seen (asSl_v _)) ?_;refine Runs.step (seen (kc _ _)) ?_;have z:kbd x1=(mulN x1 x1).1:=by unfold kbd;exact rfl
 rw[z];exact Runs.ret ⟨s2,rfl,n2,g2,(o2.of_le (Grow.refl _))⟩
def kbc(x1:List Nat):Bool :=
 cond ((rt x1)) (cond (((bitN x1 0))) (cond (decide ((((bitsN x1:Nat):Int))≥15)) (decide ((((bitsN x1:Nat):Int))≤80)) (false)) (false)) (false)
theorem kvl{h:AH}{a1:Sl}{x1:List Nat}(n1:Nats h a1 x1)  : Runs (go (.fn F.kl8 [a1.v]) h) fun v h'=>v=.bool (kbc x1)∧Grow h h':=by
 rw[kbh8];obtain⟨_,H2,e2,rfl,g2⟩:=kvy n1;refine Runs.step e2 ?_;refine Runs.step (seen (kc _ _)) ?_;refine Runs.step (kcr (n1.grow g2)) ?_;refine Runs.step (seen rfl) ?_;refine Runs.cond (fun k4=>?_) (fun k4=>?_)
 ·obtain⟨_,H5,e5,rfl,g5⟩:=kyc (n1.grow g2) (i:=0) (by decide);refine Runs.step e5 ?_;refine Runs.step (seen rfl) ?_;refine Runs.cond (fun k6=>?_) (fun k6=>?_)
  ·refine Runs.cond (fun k7=>?_) (fun k7=>?_)
   ·have z:kbc x1=decide ((((bitsN x1:Nat):Int))≤80):=by unfold kbc;exact(condT k4).trans ((condT k6).trans ((condT k7).trans rfl))
    rw[z];exact Runs.ret ⟨rfl,(g2.trans g5)⟩
   ·have z:kbc x1=false:=by unfold kbc;exact(condT k4).trans ((condT k6).trans ((condF k7).trans rfl))
    rw[z];exact Runs.ret ⟨rfl,(g2.trans g5)⟩
  ·have z:kbc x1=false:=by unfold kbc;exact(condT k4).trans ((condF k6).trans rfl)
   rw[z];exact Runs.ret ⟨rfl,(g2.trans g5)⟩
 ·have z:kbc x1=false:=by unfold kbc;exact(condF k4).trans rfl
  rw[z];exact Runs.ret ⟨rfl,g2⟩
def kbv(x1 x2 x3:List Nat):Bool :=
 cond (!(rt x1)) (false) (cond (decide ((List.length x1:Int)=0)) (false) (cond (decide ((cmpN x1 x3)≥0)) (false) (decide ((cmpN ((gcdN x1 x2).1) [1])=0))))
theorem kbb4{h:AH}{a1:Sl}{x1:List Nat}{a2:Sl}{x2:List Nat}{a3:Sl}{x3:List Nat}(n1:Nats h a1 x1)(n2:Nats h a2 x2)(n3:Nats h a3 x3)  : Runs (go (.fn F.ku1 [a1.v,a2.v,a3.v]) h) fun v h'=>v=.bool (kbv x1 x2 x3)∧Grow h h':=by
 rw[k5x];rw[n1.len];refine Runs.step (kcr n1) ?_;refine Runs.step (seen rfl) ?_;refine Runs.cond (fun k5=>?_) (fun k5=>?_)
 ·have z:kbv x1 x2 x3=false:=by unfold kbv;exact(condT k5).trans rfl
  rw[z];exact Runs.ret ⟨rfl,(Grow.refl _)⟩
 ·refine Runs.cond (fun k6=>?_) (fun k6=>?_)
  ·have z:kbv x1 x2 x3=false:=by unfold kbv;exact(condF k5).trans ((condT k6).trans rfl)
   rw[z];exact Runs.ret ⟨rfl,(Grow.refl _)⟩
  ·obtain⟨H7,e7,g7⟩:=kef n1 n3;refine Runs.step e7 ?_;refine Runs.step (seen (kc _ _)) ?_;refine Runs.cond (fun k8=>?_) (fun k8=>?_)
   ·have z:kbv x1 x2 x3=false:=by unfold kbv;exact(condF k5).trans ((condF k6).trans ((condT k8).trans rfl))
    rw[z];exact Runs.ret ⟨rfl,g7⟩
   ·obtain⟨_,H9,e9,s9,rfl,n9,g9,o9⟩:=kyo (n1.grow g7) (n2.grow g7);refine Runs.step e9 ?_;refine Runs.step rfl ?_;refine Runs.step (seen (asSl_v _)) ?_;refine Runs.step (seen (kc _ _)) ?_;refine Runs.new fun H10 b10 g10=>?_;obtain⟨H11,e11,g11⟩:=kef (n9.grow g10) (Nats.of_has (xs:=[1]) b10 (by decide) (by decide));refine Runs.step e11 ?_;refine Runs.step (seen (kc _ _)) ?_;have z:kbv x1 x2 x3=decide ((cmpN ((gcdN x1 x2).1) [1])=0):=by unfold kbv;exact(condF k5).trans ((condF k6).trans ((condF k8).trans rfl))
    rw[z];have G12:=(((g7.trans g9).trans g10).trans g11);exact Runs.ret ⟨rfl,G12⟩
def kbl(x1 x2:List Nat):Bool :=
 cond (((kbc x1))) (((kbv x2 x1 (kbd x1)))) (false)
theorem kpv{h:AH}{a1:Sl}{x1:List Nat}{a2:Sl}{x2:List Nat}(n1:Nats h a1 x1)(n2:Nats h a2 x2)  : Runs (go (.fn F.kkc [a1.v,a2.v]) h) fun v h'=>v=.bool (kbl x1 x2)∧Grow h h':=by
 rw[kbjn];obtain⟨_,H3,e3,rfl,g3⟩:=kvl n1;refine Runs.step e3 ?_;refine Runs.step (seen rfl) ?_;refine Runs.cond (fun k4=>?_) (fun k4=>?_)
 ·obtain⟨_,H5,e5,s5,rfl,n5,g5,o5⟩:=kue (n1.grow g3);refine Runs.step e5 ?_;refine Runs.step (seen (asSl_v _)) ?_;obtain⟨_,H6,e6,rfl,g6⟩:=kbb4 (n2.grow (g3.trans g5)) (n1.grow (g3.trans g5)) n5;refine Runs.step e6 ?_;refine Runs.step (seen rfl) ?_;have z:kbl x1 x2=((kbv x2 x1 (kbd x1))):=by unfold kbl;exact(condT k4).trans rfl
  rw[z];have G7:=((g3.trans g5).trans g6);exact Runs.ret ⟨rfl,G7⟩
 ·have z:kbl x1 x2=false:=by unfold kbl;exact(condF k4).trans rfl
  rw[z];exact Runs.ret ⟨rfl,g3⟩
def kmc(x1 x2:List Nat):List Nat :=
 (addN ((mulN x2 x1).1) [1]).1
theorem kbfx{h:AH}{a1:Sl}{x1:List Nat}{a2:Sl}{x2:List Nat}(n1:Nats h a1 x1)(n2:Nats h a2 x2)  : Runs (go (.fn F.kto [a1.v,a2.v]) h) fun v h'=>∃s1:Sl,v=s1.v∧Nats h' s1 (kmc x1 x2)∧Grow h h'∧Own h s1:=by
 rw[kbfo];obtain⟨s3,H3,e3,n3,g3,o3⟩:=kek n2 n1;refine Runs.step e3 ?_;refine Runs.step rfl ?_;refine Runs.step (seen (asSl_v _)) ?_;refine Runs.step (seen (kc _ _)) ?_;refine Runs.new fun H4 b4 g4=>?_;obtain⟨s5,H5,e5,n5,g5,o5⟩:=knl (n3.grow g4) (Nats.of_has (xs:=[1]) b4 (by decide) (by decide));refine Runs.step e5 ?_;refine Runs.step rfl ?_;refine Runs.step (seen (asSl_v _)) ?_;refine Runs.step (seen (kc _ _)) ?_;have z:kmc x1 x2=(addN ((mulN x2 x1).1) [1]).1:=by unfold kmc;exact rfl
 rw[z];have G6:=((g3.trans g4).trans g5);exact Runs.ret ⟨s5,rfl,n5,G6,(o5.of_le (g3.trans g4))⟩
def kqt(x1:List Nat):List Nat :=
 (mulN x1 x1).1
theorem k5i{h:AH}{a1:Sl}{x1:List Nat}(n1:Nats h a1 x1)  : Runs (go (.fn F.kn0 [a1.v]) h) fun v h'=>∃s1:Sl,v=s1.v∧Nats h' s1 (kqt x1)∧Grow h h'∧Own h s1:=by
 rw[kbbn];obtain⟨s2,H2,e2,n2,g2,o2⟩:=kbf7 n1 n1;refine Runs.step e2 ?_;refine Runs.step rfl ?_;refine Runs.step (seen (asSl_v _)) ?_;refine Runs.step (seen (kc _ _)) ?_;have z:kqt x1=(mulN x1 x1).1:=by unfold kqt;exact rfl
 rw[z];exact Runs.ret ⟨s2,rfl,n2,g2,(o2.of_le (Grow.refl _))⟩
def kfe(x1 x2 x3:List Nat):Bool :=
 cond (!(rt x1)) (false) (cond (decide ((List.length x1:Int)=0)) (false) (cond (decide ((cmpN x1 x3)≥0)) (false) (decide ((cmpN ((gcdN x1 x2).1) [1])=0))))
theorem k4p{h:AH}{a1:Sl}{x1:List Nat}{a2:Sl}{x2:List Nat}{a3:Sl}{x3:List Nat}(n1:Nats h a1 x1)(n2:Nats h a2 x2)(n3:Nats h a3 x3)  : Runs (go (.fn F.kqd [a1.v,a2.v,a3.v]) h) fun v h'=>v=.bool (kfe x1 x2 x3)∧Grow h h':=by
 rw[k5z];rw[n1.len];refine Runs.step (kd9 n1) ?_;refine Runs.step (seen rfl) ?_;refine Runs.cond (fun k5=>?_) (fun k5=>?_)
 ·have z:kfe x1 x2 x3=false:=by unfold kfe;exact(condT k5).trans rfl
  rw[z];exact Runs.ret ⟨rfl,(Grow.refl _)⟩
 ·refine Runs.cond (fun k6=>?_) (fun k6=>?_)
  ·have z:kfe x1 x2 x3=false:=by unfold kfe;exact(condF k5).trans ((condT k6).trans rfl)
   rw[z];exact Runs.ret ⟨rfl,(Grow.refl _)⟩
  ·obtain⟨H7,e7,g7⟩:=k1v n1 n3;refine Runs.step e7 ?_;refine Runs.step (seen (kc _ _)) ?_;refine Runs.cond (fun k8=>?_) (fun k8=>?_)
   ·have z:kfe x1 x2 x3=false:=by unfold kfe;exact(condF k5).trans ((condF k6).trans ((condT k8).trans rfl))
    rw[z];exact Runs.ret ⟨rfl,g7⟩
   ·obtain⟨_,H9,e9,s9,rfl,n9,g9,o9⟩:=k94 (n1.grow g7) (n2.grow g7);refine Runs.step e9 ?_;refine Runs.step rfl ?_;refine Runs.step (seen (asSl_v _)) ?_;refine Runs.step (seen (kc _ _)) ?_;obtain⟨s10,H10,e10,n10,g10,o10⟩:=k7i;refine Runs.step e10 ?_;refine Runs.step (seen (asSl_v _)) ?_;obtain⟨H11,e11,g11⟩:=k1v (n9.grow g10) n10;refine Runs.step e11 ?_;refine Runs.step (seen (kc _ _)) ?_;have z:kfe x1 x2 x3=decide ((cmpN ((gcdN x1 x2).1) [1])=0):=by unfold kfe;exact(condF k5).trans ((condF k6).trans ((condF k8).trans rfl))
    rw[z];have G12:=(((g7.trans g9).trans g10).trans g11);exact Runs.ret ⟨rfl,G12⟩
def km1(x1 x2 x3:List Nat):List Nat :=
 (divN ((mulN x1 x2).1) x3).2.1
theorem k30:kqt=kbd:=rfl
theorem kbj5{h:AH}{a1:Sl}{x1:List Nat}(n1:Nats h a1 x1)  : Runs (go (.fn F.kn0 [a1.v]) h) fun v h'=>∃s1:Sl,v=s1.v∧Nats h' s1 (kbd x1)∧Grow h h'∧Own h s1:=by
 rw[← k30];exact k5i n1
theorem kbao:kfe=kbv:=rfl
theorem k86{h:AH}{a1:Sl}{x1:List Nat}{a2:Sl}{x2:List Nat}{a3:Sl}{x3:List Nat}(n1:Nats h a1 x1)(n2:Nats h a2 x2)(n3:Nats h a3 x3)  : Runs (go (.fn F.kqd [a1.v,a2.v,a3.v]) h) fun v h'=>v=.bool (kbv x1 x2 x3)∧Grow h h':=by
 rw[← kbao];exact k4p n1 n2 n3
inductive kj7
 | fn (x1:List Nat)
 | no
abbrev kgs:=Bool
noncomputable def kls(x1:List Nat):Option (kj7⊕kgs) :=
 cond ((rt x1)) (cond (decide ((List.length x1:Int)>0)) ((atI x1 0).bind fun y6=>cond (decide ((Int.tmod ((y6:Int)) 2)=1)) (cond (decide ((((bitsN x1:Nat):Int))≥15)) (some (.inr (decide ((((bitsN x1:Nat):Int))≤80)))) (some (.inr false))) (some (.inr false))) (some (.inr false))) (some (.inr false))
noncomputable def kvh:kj7→Option (kj7⊕kgs)
 | .fn x1=>kls x1
 | .no=>none
@[reducible] def kwr(h0:AH)(r:kgs)(v:AV)(h':AH):Prop:=v=.bool r∧Grow h0 h'
def kun(r:kgs):kj7→Prop
 | .fn x1=>∀{h:AH}{a1:Sl},Nats h a1 x1→Runs (go (.fn F.kln [a1.v]) h) (kwr h r)
 | .no=>True
theorem kbem{r:kgs}{o:kj7⊕kgs}{x1:List Nat}(e:kls x1=some o)(good:GoodS (kun r) r o):kun r (.fn x1):=by
 intro h a1 n1;rw[kbhz];unfold kls at e;rw[n1.len];refine Runs.step (kd9 n1) ?_;refine Runs.step (seen rfl) ?_;obtain⟨_,H3,e3,rfl,g3⟩:=kbin n1;refine Runs.step e3 ?_;refine Runs.step (seen (kc _ _)) ?_;refine Runs.cond (fun k4=>?_) (fun k4=>?_)
 ·replace e:=(condT k4).symm.trans e;refine Runs.cond (fun k5=>?_) (fun k5=>?_)
  ·replace e:=(condT k5).symm.trans e;obtain⟨y6,q6,e⟩:=Option.bind_eq_some_iff.1 e;obtain⟨r6,j6,l6⟩:=(n1.grow g3).atI q6;refine Runs.step j6 ?_;refine Runs.step (rdc l6 (kc _ _)) ?_;refine Runs.cond (fun k7=>?_) (fun k7=>?_)
   ·replace e:=(condT k7).symm.trans e;refine Runs.cond (fun k8=>?_) (fun k8=>?_)
    ·replace e:=(condT k8).symm.trans e;cases e;cases good;exact Runs.ret ⟨rfl,g3⟩
    ·replace e:=(condF k8).symm.trans e;cases e;cases good;exact Runs.ret ⟨rfl,g3⟩
   ·replace e:=(condF k7).symm.trans e;cases e;cases good;exact Runs.ret ⟨rfl,g3⟩
  ·replace e:=(condF k5).symm.trans e;cases e;cases good;exact Runs.ret ⟨rfl,g3⟩
 ·replace e:=(condF k4).symm.trans e;cases e;cases good;exact Runs.ret ⟨rfl,g3⟩
theorem kbk1{s:kj7}{r:kgs}(it:Iter kvh s r):kun r s:=Iter.ind (fun s o e good=>by
 cases s with
 | fn x1=>exact @kbem _ _ x1 e good
 | no=>exact True.intro
 ) it
theorem kbge{h:AH}{a1:Sl}{x1:List Nat}(n1:Nats h a1 x1){r:kgs}(q:runP kvh (.fn x1)=some r):Runs (go (.fn F.kln [a1.v]) h) (kwr h r):=kbk1 (kdc q) n1
theorem bit0{xs:List Nat}(l:∀x∈xs,x<B)(h:0<xs.length)(r:rt xs=true):bitN xs 0=decide (xs[0]%2=1):=by
 have:=k2i l (q:=0) (r:=0) h (by decide);rw[Nat.pow_zero,Nat.div_one]at this;rw[show(0:Int)=((0:Nat):Int)from rfl,klf r];exact this
theorem kbbq{xs:List Nat}(l:∀x∈xs,x<B):Iter kvh (.fn xs) (kbc xs):=by
 refine .done ?_;show kls _=_;unfold kls kbc;cases hr:rt xs with
 | false=>rfl
 | true =>
  rw[cond_true,cond_true];by_cases hl:0<xs.length
  ·rw[condT (by rw[decide_eq_true_eq];omega),show(0:Int)=((0:Nat):Int)from rfl,kbn hl,Option.bind_some,tmod2,show((0:Nat):Int)=0 from rfl,bit0 l hl hr];have:decide (((xs[0]%2:Nat):Int)=1)=decide (xs[0]%2=1):=by rw[decide_eq_decide];omega
   rw[this];cases decide (xs[0]%2=1)
   ·rfl
   ·rw[cond_true,cond_true];cases decide (((bitsN xs:Nat):Int)≥15)<;>rfl
  ·have:xs=[]:=List.length_eq_zero_iff.1 (by omega);subst this;rfl
theorem kbje{h:AH}{s:Sl}{xs:List Nat}(n:Nats h s xs):Runs (go (.fn F.kln [s.v]) h) fun v h'=>v=.bool (kbc xs)∧Grow h h':=kbge n (kcw (kbbq n.lt))
def kjr(x1 x2:List Nat):Bool :=
 cond (((kbc x1))) (((kbv x2 x1 (kbd x1)))) (false)
theorem kbkm{h:AH}{a1:Sl}{x1:List Nat}{a2:Sl}{x2:List Nat}(n1:Nats h a1 x1)(n2:Nats h a2 x2)  : Runs (go (.fn F.kpx [a1.v,a2.v]) h) fun v h'=>v=.bool (kjr x1 x2)∧Grow h h':=by
 rw[k58];obtain⟨_,H3,e3,rfl,g3⟩:=kbje n1;refine Runs.step e3 ?_;refine Runs.step (seen rfl) ?_;refine Runs.cond (fun k4=>?_) (fun k4=>?_)
 ·obtain⟨_,H5,e5,s5,rfl,n5,g5,o5⟩:=kbj5 (n1.grow g3);refine Runs.step e5 ?_;refine Runs.step (seen (asSl_v _)) ?_;obtain⟨_,H6,e6,rfl,g6⟩:=k86 (n2.grow (g3.trans g5)) (n1.grow (g3.trans g5)) n5;refine Runs.step e6 ?_;refine Runs.step (seen rfl) ?_;have z:kjr x1 x2=((kbv x2 x1 (kbd x1))):=by unfold kjr;exact(condT k4).trans rfl
  rw[z];have G7:=((g3.trans g5).trans g6);exact Runs.ret ⟨rfl,G7⟩
 ·have z:kjr x1 x2=false:=by unfold kjr;exact(condF k4).trans rfl
  rw[z];exact Runs.ret ⟨rfl,g3⟩
theorem k9c:kjr=kbl:=rfl
theorem k5d{h:AH}{a1:Sl}{x1:List Nat}{a2:Sl}{x2:List Nat}(n1:Nats h a1 x1)(n2:Nats h a2 x2)  : Runs (go (.fn F.kpx [a1.v,a2.v]) h) fun v h'=>v=.bool (kbl x1 x2)∧Grow h h':=by
 rw[← k9c];exact kbkm n1 n2
end Go.Ab

/- squeezed -/
set_option maxRecDepth 10000
namespace Go.Ab
open Go.Proofs Go.Num
end Go.Ab

/- squeezed -/
set_option maxRecDepth 10000
namespace Go.Ab
open Go.Proofs Go.Num
theorem kf0{a b:Nat}(ha:a<B^30)(hb:b<B^30):mulN (digs B a) (digs B b)=(digs B (a*b),0):=by
 have h60:a*b<B^64:=by
  calc a*b<B^30*B^30:=Nat.mul_lt_mul_of_lt_of_lt ha hb
   _=B^60:=by rw[← Nat.pow_add]
   _≤B^64:=Nat.pow_le_pow_right (by decide) (by decide)
 have up:∀{c:Nat},c<B^30→c<B^64:=fun h=>Nat.lt_of_lt_of_le h (Nat.pow_le_pow_right (by decide) (by decide));unfold mulN;rw[if_pos ⟨kp (up ha),kp (up hb)⟩,kg B2,kg B2];unfold told;rw[if_pos h60]
theorem kbla{xs:List Nat}(l:∀x∈xs,x<B)(r:rt xs=true):digs B (num B xs)=xs:=kcs B2 l (rt_iff.1 r).2
theorem k1k{ns:List Nat}(l:∀x∈ns,x<B)(h:kbc ns=true):rt ns=true∧num B ns%2=1∧16384≤num B ns∧num B ns<2^80:=by
 unfold kbc at h;simp only[Bool.cond_eq_true_distrib,Bool.cond_false_right,Bool.and_eq_true,decide_eq_true_eq]at h;obtain⟨h1,h2,h3,h4⟩:=h;have hb:bitsN ns=bl (num B ns):=by unfold bitsN;rw[if_pos h1]
 rw[hb]at h3 h4;obtain⟨b1,b2⟩:=bl_Bl (num B ns);refine⟨h1,?_,?_,?_⟩
 ·rw[show(0:Int)=((0:Nat):Int)from rfl,klf h1,Nat.testBit_zero,decide_eq_true_eq]at h2;exact h2
 ·rcases b2 with b2 | b2
  ·omega
  ·exact Nat.le_trans (Nat.pow_le_pow_right (n:=2) (i:=14) (by decide) (by omega)) b2
 ·exact Nat.lt_of_lt_of_le b1 (Nat.pow_le_pow_right (by decide) (by omega))
theorem kbdk{ns:List Nat}(l:∀x∈ns,x<B)(h:kbc ns=true):kbd ns=digs B (num B ns*num B ns)∧num B ns*num B ns<B^3∧1<num B ns*num B ns∧num B ns*num B ns%2=1:=by
 obtain⟨h1,h2,h3,h4⟩:=k1k l h;have h30:num B ns<B^30:=Nat.lt_trans h4 (by decide);refine⟨?_,?_,?_,?_⟩
 ·unfold kbd;have:=kf0 h30 h30;rw[kbla l h1]at this;rw[this]
 ·calc num B ns*num B ns<2^80*2^80:=Nat.mul_lt_mul_of_lt_of_lt h4 h4
   _<B^3:=by decide
 ·calc 1<16384*16384:=by decide
   _≤num B ns*num B ns:=Nat.mul_le_mul h3 h3
 ·rw[Nat.mul_mod,h2]
end Go.Ab

/- squeezed -/
set_option maxRecDepth 10000
namespace Go.Ab
open Go.Proofs Go.Num
end Go.Ab

/- squeezed -/
set_option maxRecDepth 10000
namespace Go.Ab
open Go.Proofs Go.Num
end Go.Ab

/- squeezed -/
set_option maxRecDepth 10000
namespace Go.Ab
open Go.Proofs Go.Num
end Go.Ab

/- squeezed -/
set_option maxRecDepth 10000
namespace Go.Ab
open Go.Proofs Go.Num
theorem kba6{xs ys:List Nat}(hx:rt xs=true)(hy:rt ys=true)(h:cmpN xs ys<0):num B xs<num B ys:=by
 rw[khm hx hy]at h;unfold cmp at h;split at h
 ·assumption
 ·split at h<;>simp at h
theorem kbee{cs ns bs:List Nat}(h:kbv cs ns bs=true)(hb:rt bs=true):rt cs=true∧num B cs<num B bs:=by
 unfold kbv at h;cases hr:rt cs with
 | false=>rw[hr]at h;cases h
 | true =>
  rw[hr]at h;refine⟨rfl,kba6 hr hb ?_⟩;simp only[Bool.not_true,cond_false]at h;by_cases h0:decide ((cs.length:Int)=0)=true
  ·rw[h0]at h;cases h
  ·rw[Bool.not_eq_true]at h0;rw[h0,cond_false]at h;by_cases h1:decide (cmpN cs bs≥0)=true
   ·rw[h1]at h;cases h
   ·rw[decide_eq_true_eq]at h1;omega
section
variable{ns xs es:List Nat}(ln:∀x∈ns,x<B)(le:∀x∈es,x<B)
include ln le
end
section
variable{ns xs ys:List Nat}(ln:∀x∈ns,x<B)(lx:∀x∈xs,x<B)(ly:∀x∈ys,x<B)
include ln lx
end
section
variable{h:AH}{s t u:Sl}{ns xs ys:List Nat}(n:Nats h s ns)(m:Nats h t xs)(k:Nats h u ys)
include n m k
end
end Go.Ab

/- squeezed -/
set_option maxRecDepth 10000
namespace Go.Ab
open Go.Proofs Go.Num
end Go.Ab

/- squeezed -/
set_option maxRecDepth 10000
namespace Go.Ab
open Go.Proofs Go.Num
end Go.Ab

/- squeezed -/
set_option maxRecDepth 10000
namespace Go.Ab
open Go.Proofs Go.Num
end Go.Ab
