/- Words and laws that the last text joins. -/
import Derived.Test.YtndomkpijjibiaaGreatDoorPAbsDra
set_option linter.unusedVariables false
set_option linter.unusedSimpArgs false
set_option linter.unusedSectionVars false
namespace Go.Ab
variable{P:Program}
theorem kmb{h:AH}{s:Sl}{elem:TypeId}{flat:List AV}(c:Cells h s (P.cellsOf elem) flat):kbb P elem s.v h=some (flat,s.len):=by
 show(h.getsO s.ref (s.len*P.cellsOf elem)).map (fun cs=>(cs,s.len))=_;rw[c.gets];rfl
theorem kmv{h:AH}{s:Sl}{c n m:Nat}{elem:TypeId}{cs old:List AV}(hs:s.cap=.is c)(hc:c<s.len+n)(hg:growOk P (s.len+n) elem m=true)(ho:Cells h s m old) :
  kw P s cs n elem m h=some (Sl.v ⟨some (.new h.blks.size 0),s.len+n,.opn m⟩,h.push (.cells (old++cs) elem)):=by
 unfold kw;simp only[hs]
 rw[show Nat.ble (s.len+n) c=false from by
  cases hb:Nat.ble (s.len+n) c with
  | false=>rfl
  | true=>have:=Nat.le_of_ble_eq_true hb;omega]
 simp only[cond_false,hg,cond_true,ho.gets,Option.bind_some];rfl
theorem k33{h:AH}{s:Sl}{m:Nat}{elem:TypeId}{old:List AV}(hm:0<m)(ho:Cells h s m old):∃s',kw P s [] 0 elem m h=some (s'.v,h)∧Cells h s' m old∧∀h0,Own h0 s→Own h0 s':=by
 have hf:=ho.fit;unfold Sl.fit at hf;unfold kw;split at hf
 ·rename_i c hc;simp only[hc];rw[show Nat.ble (s.len+0) c=true from Nat.ble_eq_true_of_le (by omega)];cases hr:s.ref with
  | none =>
   refine⟨⟨none,0,.is 0⟩,rfl,?_,fun h0 _=>Own.nil h0⟩
   have hl:old=[]:=by
    cases old with
    | nil=>rfl
    | cons v vs =>
     obtain⟨r,e1,_⟩:=ho.get 0 v rfl;rw[hr]at e1;cases e1
   rw[hl];exact Cells.nil h m
  | some r =>
   refine⟨⟨some r,s.len,.is c⟩,rfl,⟨hf,ho.len,fun i v hv=>?_⟩,fun h0 hh r' hr'=>hh r' (by rw[hr];exact hr')⟩;obtain⟨r',e1,e2⟩:=ho.get i v hv;rw[hr]at e1;exact⟨r',e1,e2⟩
 ·rename_i z hz;simp only[hz];refine⟨s,by simp[Sl.v,hz],ho,fun h0 hh=>hh⟩
theorem kny{l c:Int}{elem:TypeId}{bytes n:Nat}{zs:List AV}{h:AH}(h1:l=(n:Int))(h2:c=(n:Int))(h3:n*bytes≤70368744177664)(h4:n≤70368744177664) :
  kbg l c elem bytes zs h=some (⟨some (.new h.blks.size 0),n,.is n⟩,h.push (.cells (repC zs n) elem)):=by
 subst h1 h2;unfold kbg;have h3':((n*bytes:Nat):Int)≤70368744177664:=by omega
 rw[show(decide (0≤(n:Int)∧(n:Int)≤(n:Int)∧(n:Int)≤(kg:Int)∧(n:Int)*(bytes:Int)≤(kg:Int)))=true from by
  rw[decide_eq_true_eq];simp only[kg];rw[Int.natCast_mul]at h3';omega]
 simp;rfl
theorem kp4(v:AV)(n:Nat):repC [v] n=List.replicate n v:=by
 induction n with
 | zero=>rfl
 | succ n ih=>simp[repC,ih,List.replicate_succ]
end Go.Ab
namespace Go.Ab
def Runs(x:Option (AV×AH))(P:AV→AH→Prop):Prop:=∃v h',x=some (v,h')∧P v h'
structure Upd(h h':AH)(i:Nat):Prop where
 old:h'.old=h.old
 size:h.blks.size≤h'.blks.size
 blk:∀j,j≠i→j<h.blks.size→h'.blks[j]?=h.blks[j]?
theorem AH.upd_Upd(h:AH)(i:Nat)(cs:List AV)(e:TypeId):Upd h (h.upd i cs e) i :=
 ⟨rfl,by simp[AH.upd],fun j hj _=>by
  show(h.blks.setIfInBounds i (.cells cs e))[j]?=_;rw[Array.getElem?_setIfInBounds_ne (fun x=>hj x.symm)]⟩
theorem Grow.updr{h h1 h2:AH}(g:Grow h h1){i:Nat}(hi:h.blks.size≤i)(u:Upd h1 h2 i):Grow h h2 :=
 ⟨u.old.trans g.old,Nat.le_trans g.size u.size,fun j hj=>(u.blk j (by omega) (Nat.lt_of_lt_of_le hj g.size)).trans (g.blk j hj)⟩
theorem AH.has.updr{h1 h2:AH}{j:Nat}{cs:List AV}{e:TypeId}(b:h1.has j cs e){i:Nat}(hij:j≠i)(u:Upd h1 h2 i):h2.has j cs e:=(u.blk j hij b.lt).trans b
theorem Upd.trans{h1 h2 h3:AH}{i:Nat}(u:Upd h1 h2 i)(w:Upd h2 h3 i):Upd h1 h3 i :=
 ⟨w.old.trans u.old,Nat.le_trans u.size w.size,fun j hj hl=>(w.blk j hj (Nat.lt_of_lt_of_le hl u.size)).trans (u.blk j hj hl)⟩
theorem Grow.toUpd{h1 h2:AH}(g:Grow h1 h2)(i:Nat):Upd h1 h2 i:=⟨g.old,g.size,fun j _ hl=>g.blk j hl⟩
theorem Upd.cell{h1 h2:AH}{i:Nat}(u:Upd h1 h2 i){r:Ref}{v:AV}(hc:h1.cell r=some v)(hr:∀o,r≠.new i o):h2.cell r=some v:=by
 have hi:=AH.cell_inn hc;cases r with
 | old a=>simpa only[AH.cell,u.old]using hc
 | new j o=>simpa only[AH.cell,u.blk j (fun hj=>hr o (by rw[hj])) hi]using hc
theorem Cells.updr{h0 h1 h2:AH}{s:Sl}{n:Nat}{flat:List AV}(c:Cells h1 s n flat)(ho:Own h0 s){i:Nat}(hi:i<h0.blks.size)(u:Upd h1 h2 i):Cells h2 s n flat :=
 ⟨c.fit,c.len,fun k v hv=>by
  obtain⟨r,e1,e2⟩:=c.get k v hv;refine⟨r,e1,?_⟩;obtain⟨j,o,rfl,hj⟩:=ho r e1;refine u.cell e2 fun o' he=>?_;simp only[Ref.add_new,Ref.new.injEq]at he;omega⟩
theorem Nats.updr{h0 h1 h2:AH}{s:Sl}{xs:List Nat}(c:Nats h1 s xs)(ho:Own h0 s){i:Nat}(hi:i<h0.blks.size)(u:Upd h1 h2 i):Nats h2 s xs:=⟨c.cells.updr ho hi u,c.lt,c.short⟩
section
variable{P:AV→AH→Prop}
theorem Runs.ret{v:AV}{h:AH}(p:P v h):Runs (some (v,h)) P:=⟨v,h,rfl,p⟩
theorem Runs.imp{x:Option (AV×AH)}{Q:AV→AH→Prop}(r:Runs x Q)(f:∀v h,Q v h→P v h):Runs x P:=by
 obtain⟨v,h',e,q⟩:=r;exact⟨v,h',e,f v h' q⟩
theorem Runs.step{A:Type}{o:Option A}{a:A}{K:A→Option (AV×AH)}(e:o=some a)(H:Runs (K a) P):Runs (o.bind K) P:=by
 subst e;exact H
theorem Runs.new{h:AH}{cs:List AV}{e:TypeId}{K:Ref→AH→Option (AV×AH)}(H:∀h',h'.has h.blks.size cs e→Grow h h'→Runs (K (.new h.blks.size 0) h') P):Runs (newK h (.cells cs e) K) P :=
 H _ (AH.has_push h cs e) (Grow.push h _)
theorem Runs.puts{h:AH}{i:Nat}{cs vs:List AV}{e:TypeId}{K:AH→Option (AV×AH)}(b:h.has i cs e)(hl:vs.length=cs.length)(H:∀h',h'.has i vs e→Upd h h' i→Runs (K h') P):Runs ((h.puts (.new i 0) vs).bind K) P:=by
 rw[b.puts_all hl];exact H _ (AH.has_upd b vs e) (AH.upd_Upd h i vs e)
theorem Runs.ifT{c:Bool}{a b:Option (AV×AH)}(e:c=true)(H:Runs a P):Runs (cond c a b) P:=by
 subst e;exact H
theorem Runs.ifF{c:Bool}{a b:Option (AV×AH)}(e:c=false)(H:Runs b P):Runs (cond c a b) P:=by
 subst e;exact H
theorem Runs.cond{c:Bool}{a b:Option (AV×AH)}(Ht:c=true→Runs a P)(Hf:c=false→Runs b P):Runs (cond c a b) P:=by
 cases c
 ·exact Hf rfl
 ·exact Ht rfl
theorem Runs.when{p:Prop}{x:Option (AV×AH)}(hp:p)(H:Runs x P):Runs (whenK p x) P:=by
 rw[k4h hp];exact H
end
theorem AH.has.rd{A:Type}{f:AV→Option A}{h:AH}{i:Nat}{cs:List AV}{e:TypeId}(b:h.has i cs e)(k:Nat){v:AV}{x:A}(hk:cs[k]?=some v)(hf:f v=some x):(h.cell ((Ref.new i 0).add k)).bind f=some x:=by
 rw[Ref.add_new,Nat.zero_add,b.cell,hk];exact hf
theorem AH.has.rd0{A:Type}{f:AV→Option A}{h:AH}{i:Nat}{cs:List AV}{e:TypeId}(b:h.has i cs e){v:AV}{x:A}(hk:cs[0]?=some v)(hf:f v=some x):(h.cell (Ref.new i 0)).bind f=some x:=by
 rw[b.cell,hk];exact hf
theorem seen{A:Type}{f:AV→Option A}{v:AV}{x:A}(hf:f v=some x):(some v).bind f=some x:=hf
theorem seenAt{A:Type}{f:AV→Option A}{cs:List AV}{k:Nat}{v:AV}{x:A}(hk:cs[k]?=some v)(hf:f v=some x):(cs[k]?).bind f=some x:=by
 rw[hk];exact hf
theorem Nats.of_has{h:AH}{i:Nat}{e:TypeId}{xs:List Nat}(b:h.has i (xs.map u64) e)(hl:∀x∈xs,x<18446744073709551616)(hs:xs.length≤9223372036854775807):Nats h ⟨some (.new i 0),xs.length,.is xs.length⟩ xs :=
 ⟨Cells.of_has b (by simp),hl,hs⟩
theorem Own.box{h h':AH}(g:Grow h h'){n:Nat}{c:Cap}:Own h ⟨some (.new h'.blks.size 0),n,c⟩:=fun r hr=>by
 cases hr;exact⟨_,_,rfl,g.size⟩
theorem condT{A:Type}{c:Bool}{a b:A}(e:c=true):cond c a b=a:=by subst e;rfl
theorem condF{A:Type}{c:Bool}{a b:A}(e:c=false):cond c a b=b:=by subst e;rfl
end Go.Ab
set_option maxRecDepth 10000
namespace Go.Ab
inductive Iter{S R:Type}(f:S→Option (S⊕R)):S→R→Prop
 | done {s:S} {r:R}:f s=some (.inr r)→Iter f s r
 | next {s s':S} {r:R}:f s=some (.inl s')→Iter f s' r→Iter f s r
def GoodS{S R:Type}(A:S→Prop)(r:R):S⊕R→Prop
 | .inl s=>A s
 | .inr r'=>r'=r
theorem Iter.ind{S R:Type}{f:S→Option (S⊕R)}{A:S→Prop}{r:R}(H:∀s o,f s=some o→GoodS A r o→A s){s:S}(it:Iter f s r):A s:=by
 induction it with
 | done e=>exact H _ _ e rfl
 | next e _ ih=>exact H _ _ e (ih H)
theorem Iter.det{S R:Type}{f:S→Option (S⊕R)}{s:S}{r r':R}(a:Iter f s r)(b:Iter f s r'):r=r':=by
 induction a with
 | done e =>
  cases b with
  | done e'=>rw[e]at e';cases e';rfl
  | next e' _=>rw[e]at e';cases e'
 | next e _ ih =>
  cases b with
  | done e'=>rw[e]at e';cases e'
  | next e' b'=>rw[e]at e';cases e';exact ih b'
noncomputable def runP{S R:Type}(f:S→Option (S⊕R))(s:S):Option R:=by
 classical
 exact if h:∃r,Iter f s r then some h.choose else none
theorem kku{S R:Type}{f:S→Option (S⊕R)}{s:S}{r:R}(q:runP f s=some r):Iter f s r:=by
 unfold runP at q;split at q
 ·rename_i h;cases q;exact h.choose_spec
 ·cases q
theorem ki4{S R:Type}{f:S→Option (S⊕R)}{s:S}{r:R}(it:Iter f s r):runP f s=some r:=by
 unfold runP;have h:∃r,Iter f s r:=⟨r,it⟩;rw[dif_pos h];rw[h.choose_spec.det it]
def atI(xs:List Nat)(i:Int):Option Nat:=if 0≤i then xs[i.toNat]? else none
def inI(n:Nat)(i:Int):Option Nat:=if 0≤i∧i<(n:Int)then some i.toNat else none
def mkI(l c:Int):Option Nat:=if l=c∧0≤l∧l≤8796093022208 then some l.toNat else none
def u64P(v:Int):Option Nat:=if 0≤v∧v<18446744073709551616 then some v.toNat else none
def add64P(x y c:Int):Option (Int×Int):=if 0≤x∧0≤y∧0≤c∧c≤1 then some ((x+y+c)%18446744073709551616,(x+y+c)/18446744073709551616)else none
noncomputable def need(p:Prop):Option (PLift p):=by
 classical
 exact if h:p then some ⟨h⟩else none
theorem kbm{p:Prop}(h:p):need p=some ⟨h⟩:=by
 unfold need;rw[dif_pos h]
theorem k6x{xs:List Nat}{i:Int}{y:Nat}(q:atI xs i=some y):∃j:Nat,i=(j:Int)∧∃hj:j<xs.length,xs[j]=y:=by
 unfold atI at q;split at q
 ·rename_i h;obtain⟨h1,h2⟩:=List.getElem?_eq_some_iff.1 q;exact⟨i.toNat,by omega,h1,h2⟩
 ·cases q
theorem kmi{n:Nat}{i:Int}{j:Nat}(q:inI n i=some j):i=(j:Int)∧j<n:=by
 unfold inI at q;split at q
 ·cases q;omega
 ·cases q
theorem k6l{l c:Int}{n:Nat}(q:mkI l c=some n):l=(n:Int)∧c=(n:Int)∧n≤8796093022208:=by
 unfold mkI at q;split at q
 ·cases q;omega
 ·cases q
theorem kuu{v:Int}{n:Nat}(q:u64P v=some n):v=(n:Int)∧n<18446744073709551616:=by
 unfold u64P at q;split at q
 ·cases q;omega
 ·cases q
theorem kcc{xs:List Nat}{i:Nat}(h:i<xs.length):atI xs (i:Int)=some xs[i]:=by
 unfold atI;rw[if_pos (by omega),Int.toNat_natCast,List.getElem?_eq_getElem h]
theorem kbd{n i:Nat}(h:i<n):inI n (i:Int)=some i:=by
 unfold inI;rw[if_pos (by omega),Int.toNat_natCast]
theorem kfh{n:Nat}(h:n≤8796093022208):mkI (n:Int) (n:Int)=some n:=by
 unfold mkI;rw[if_pos (by omega),Int.toNat_natCast]
theorem kb4{n:Nat}(h:n<18446744073709551616):u64P (n:Int)=some n:=by
 unfold u64P;rw[if_pos (by omega),Int.toNat_natCast]
theorem klk(x y:Nat){c:Nat}(h:c≤1):add64P (x:Int) (y:Int) (c:Int)=some ((((x+y+c)%18446744073709551616:Nat):Int),(((x+y+c)/18446744073709551616:Nat):Int)):=by
 unfold add64P;rw[if_pos (by omega)];rfl
theorem kh6{x y c:Int}{p:Int×Int}{h:AH}{k1 k2 k3:IntKind}(q:add64P x y c=some p):((prim "math/bits.Add64" [.int k1 x,.int k2 y,.int k3 c]).map fun v=>(v,h))=some (.tup [.int .u64 p.1,.int .u64 p.2],h):=by
 unfold add64P at q;split at q
 ·rename_i hc;cases q;show(cond (decide (0≤x∧0≤y∧0≤c∧c≤1)) (some (AV.tup [.int .u64 ((x+y+c)%18446744073709551616),.int .u64 ((x+y+c)/18446744073709551616)])) none).map _=_;rw[decide_eq_true hc];rfl
 ·cases q
theorem Nats.atI{h:AH}{s:Sl}{xs:List Nat}(n:Nats h s xs){i:Int}{y:Nat}(q:Go.Ab.atI xs i=some y):∃r,idx s.ref xs.length i 1=some r∧h.cell r=some (.int .u64 (y:Int)):=by
 obtain⟨j,rfl,hj,rfl⟩:=k6x q;rw[← n.len];exact n.at hj
theorem rdc{A:Type}{f:AV→Option A}{h:AH}{r:Ref}{v:AV}{x:A}(hc:h.cell r=some v)(hf:f v=some x):(h.cell r).bind f=some x:=by
 rw[hc];exact hf
structure Vec(h:AH)(s:Sl)(i:Nat)(xs:List Nat):Prop where
 is:s=⟨some (.new i 0),xs.length,.is xs.length⟩
 has:∃e,h.has i (xs.map u64) e
 lt:∀x∈xs,x<18446744073709551616
 short:xs.length≤9223372036854775807
theorem Vec.len{h:AH}{s:Sl}{i:Nat}{xs:List Nat}(v:Vec h s i xs):s.len=xs.length:=by rw[v.is]
theorem Vec.nats{h:AH}{s:Sl}{i:Nat}{xs:List Nat}(v:Vec h s i xs):Nats h s xs:=by
 obtain⟨e,b⟩:=v.has;rw[v.is];exact Nats.of_has b v.lt v.short
theorem Vec.inn{h:AH}{s:Sl}{i:Nat}{xs:List Nat}(v:Vec h s i xs):i<h.blks.size:=v.has.choose_spec.lt
theorem Vec.grow{h h':AH}(g:Grow h h'){s:Sl}{i:Nat}{xs:List Nat}(v:Vec h s i xs):Vec h' s i xs:=⟨v.is,v.has.imp fun _ b=>g.has b,v.lt,v.short⟩
theorem Vec.updr{h h':AH}{s:Sl}{i:Nat}{xs:List Nat}(v:Vec h s i xs){j:Nat}(hij:i≠j)(u:Upd h h' j):Vec h' s i xs:=⟨v.is,v.has.imp fun _ b=>b.updr hij u,v.lt,v.short⟩
theorem Vec.own{h h0:AH}{s:Sl}{i:Nat}{xs:List Nat}(v:Vec h s i xs)(hi:h0.blks.size≤i):Own h0 s:=fun r hr=>by
 rw[v.is]at hr;cases hr;exact⟨_,_,rfl,hi⟩
theorem Vec.idx{h:AH}{s:Sl}{i:Nat}{xs:List Nat}(v:Vec h s i xs){n:Nat}(hn:xs.length=n){k:Int}{j:Nat}(q:inI n k=some j):Go.Ab.idx s.ref n k 1=some (.new i j):=by
 subst hn;obtain⟨rfl,hj⟩:=kmi q;rw[v.is,kd8 _ _ _ _ (by omega) (by omega)];simp
theorem Vec.rd{A:Type}{f:AV→Option A}{h:AH}{s:Sl}{i:Nat}{xs:List Nat}(v:Vec h s i xs){n:Nat}(hn:xs.length=n){j:Nat}{k:Int}(q:inI n k=some j){x:A}(hf:f (.int .u64 ((xs.getD j 0:Nat):Int))=some x):(h.cell (.new i j)).bind f=some x:=by
 subst hn;obtain⟨e,b⟩:=v.has;have hj:=(kmi q).2;rw[b.cell,List.getElem?_map,List.getElem?_eq_getElem hj]
 simpa[List.getD,hj]using hf
section
variable{P:AV→AH→Prop}
theorem Runs.vput{h:AH}{s:Sl}{i:Nat}{xs:List Nat}{j w:Nat}{k x:Int}{K:AH→Option (AV×AH)}(v:Vec h s i xs){n:Nat}(hn:xs.length=n)(q:inI n k=some j)(z:u64P x=some w)
  (H:∀h',Vec h' s i (xs.set j w)→Upd h h' i→Runs (K h') P):Runs ((h.puts (.new i j) [.int .u64 x]).bind K) P:=by
 subst hn;obtain⟨e,b⟩:=v.has;have hj:=(kmi q).2;obtain⟨rfl,hw⟩:=kuu z;rw[b.puts (by simp;omega)]
 have e1:(xs.map u64).take j++[AV.int .u64 (w:Int)]++(xs.map u64).drop (j+[AV.int .u64 (w:Int)].length)=(xs.set j w).map u64:=by
  apply List.ext_getElem?;intro t;rw[List.map_set];simp only[List.length_singleton];rcases Nat.lt_trichotomy t j with ht | ht | ht
  ·rw[List.append_assoc,List.getElem?_append_left (by simp;omega),List.getElem?_take,if_pos ht,List.getElem?_set_ne (by omega)]
  ·subst ht;rw[List.append_assoc,List.getElem?_append_right (by simp;omega),List.getElem?_set_self (by simp;omega)];simp[Nat.min_eq_left (Nat.le_of_lt hj)]
  ·rw[List.getElem?_append_right (by simp;omega),List.getElem?_drop,List.getElem?_set_ne (by omega)]
   have:j+1+(t-(List.take j (xs.map u64)++[AV.int .u64 (w:Int)]).length)=t:=by
    rw[List.length_append,List.length_take,List.length_map,List.length_singleton];omega
   rw[this]
 rw[e1];refine H _ ⟨?_,⟨e,AH.has_upd b _ _⟩,?_,?_⟩ (AH.upd_Upd h i _ e)
 ·rw[List.length_set];exact v.is
 ·intro y hy;rcases List.mem_or_eq_of_mem_set hy with h1 | h1
  ·exact v.lt y h1
  ·rw[h1];exact hw
 ·rw[List.length_set];exact v.short
theorem Runs.mk{h:AH}{l c:Int}{elem:TypeId}{bytes n:Nat}{K:Sl×AH→Option (AV×AH)}(q:mkI l c=some n)(hb:bytes=8)
  (H:∀s h',Vec h' s h.blks.size (List.replicate n 0)→Grow h h'→Runs (K (s,h')) P):Runs ((kbg l c elem bytes [.int .u64 0] h).bind K) P:=by
 obtain⟨h1,h2,h3⟩:=k6l q;subst hb;rw[kny h1 h2 (by omega) (by omega),kp4];refine H _ _ ⟨?_,⟨elem,?_⟩,?_,?_⟩ (Grow.push h _)
 ·simp
 ·have:=AH.has_push h (List.replicate n (AV.int .u64 0)) elem;rw[List.map_replicate];exact this
 ·intro x hx;rw[List.eq_of_mem_replicate hx];omega
 ·simp;omega
end
def InB(s:Sl)(i:Nat):Prop:=∀r,s.ref=some r→∃o,r=.new i o
theorem Vec.inB{h:AH}{s:Sl}{i:Nat}{xs:List Nat}(v:Vec h s i xs):InB s i:=fun r hr=>by
 rw[v.is]at hr;cases hr;exact⟨_,rfl⟩
theorem InB.own{s:Sl}{i:Nat}(b:InB s i){h:AH}(hi:h.blks.size≤i):Own h s:=fun r hr=>by
 obtain⟨o,rfl⟩:=b r hr;exact⟨i,o,rfl,hi⟩
theorem InB.cut{s s':Sl}{l n:Int}{m i:Nat}(b:InB s i)(e:cutSl s l n m=some s'):InB s' i:=fun r hr=>by
 have key:s'.ref=s.ref∨∃d,s'.ref=s.ref.map (·.add d):=by
  unfold cutSl at e;split at e
  ·cases hc:decide (0≤l∧l≤n∧n≤((_:Nat):Int))with
   | true =>
    rw[hc,cond_true]at e;cases e;dsimp only;split
    ·exact .inl rfl
    ·exact .inr ⟨_,rfl⟩
   | false=>rw[hc,cond_false]at e;cases e
  ·cases hc:decide (0≤l∧l≤n∧n≤(s.len:Int))with
   | true =>
    rename_i z _;cases hz:Nat.beq z m with
    | true =>
     rw[hz,hc,cond_true,cond_true]at e;cases e;exact .inr ⟨_,rfl⟩
    | false=>rw[hz]at e;cases e
   | false =>
    rename_i z _;cases hz:Nat.beq z m with
    | true=>rw[hz,hc,cond_true,cond_false]at e;cases e
    | false=>rw[hz]at e;cases e
 rcases key with k | ⟨d,k⟩
 ·exact b r (k▸hr)
 ·rw[k,Option.map_eq_some_iff]at hr;obtain⟨r0,e1,rfl⟩:=hr;obtain⟨o,rfl⟩:=b r0 e1;exact⟨_,rfl⟩
structure Win(s:Sl)(i lo n:Nat):Prop where
 ref:s.ref=some (.new i lo)
 len:s.len=n
 fit:s.fit 1
def cutP(len:Nat)(lo hi:Int):Option (Nat×Nat):=if 0≤lo∧lo<hi∧hi≤(len:Int)then some (lo.toNat,(hi-lo).toNat)else none
theorem ksx{len:Nat}{lo hi:Int}{p:Nat×Nat}(q:cutP len lo hi=some p):lo=(p.1:Int)∧hi=((p.1+p.2:Nat):Int)∧0<p.2∧p.1+p.2≤len:=by
 unfold cutP at q;split at q
 ·cases q;dsimp only;omega
 ·cases q
theorem k86{len lo n:Nat}(h0:0<n)(h:lo+n≤len):cutP len (lo:Int) ((lo+n:Nat):Int)=some (lo,n):=by
 unfold cutP;rw[if_pos (by omega),Int.toNat_natCast,show((lo+n:Nat):Int)-(lo:Int)=(n:Int)from by omega,Int.toNat_natCast]
theorem Vec.cutW{h:AH}{s:Sl}{i:Nat}{xs:List Nat}(v:Vec h s i xs){n:Nat}(hn:xs.length=n){lo hi:Int}{p:Nat×Nat}(q:cutP n lo hi=some p):∃s',cutSl s lo hi 1=some s'∧Win s' i p.1 p.2:=by
 subst hn;obtain⟨rfl,rfl,h1,h2⟩:=ksx q;rw[v.is];unfold cutSl;dsimp only;rw[show(decide (0≤(p.1:Int)∧(p.1:Int)≤((p.1+p.2:Nat):Int)∧((p.1+p.2:Nat):Int)≤(xs.length:Int)))=true from by rw[decide_eq_true_eq];omega,cond_true];refine⟨_,rfl,?_,?_,?_⟩
 ·simp only[Int.toNat_natCast];rw[if_neg (by omega)];simp
 ·simp only[Int.toNat_natCast];omega
 ·show((p.1+p.2:Nat):Int).toNat-(p.1:Int).toNat≤xs.length-(p.1:Int).toNat;simp only[Int.toNat_natCast];omega
theorem Win.nats{h:AH}{s t:Sl}{i lo n:Nat}{xs:List Nat}(w:Win s i lo n)(v:Vec h t i xs)(hl:lo+n≤xs.length):Nats h s ((xs.drop lo).take n):=by
 have hlen:((xs.drop lo).take n).length=n:=by simp;omega
 obtain⟨e,b⟩:=v.has;refine⟨⟨w.fit,by rw[w.len,List.length_map,hlen,Nat.mul_one],fun k y hy=>⟨_,w.ref,?_⟩⟩,fun y hy=>v.lt y (List.mem_of_mem_drop (List.mem_of_mem_take hy)),by have:=v.short;omega⟩;rw[Ref.add_new,b.cell];rw[List.getElem?_map]at hy⊢;rw[List.getElem?_take]at hy;split at hy
 ·rwa[List.getElem?_drop]at hy
 ·cases hy
def setW(xs:List Nat)(lo n:Nat)(ys:List Nat):Option (List Nat):=if lo+n≤xs.length∧ys.length=n then some (xs.take lo++ys++xs.drop (lo+n))else none
theorem kwu{xs ys zs:List Nat}{lo n:Nat}(q:setW xs lo n ys=some zs):zs.length=xs.length:=by
 unfold setW at q;split at q
 ·cases q;simp;omega
 ·cases q
theorem Vec.copyW{h:AH}{s d t:Sl}{i lo n:Nat}{xs ys zs:List Nat}(v:Vec h t i xs)(w:Win d i lo n)(m:Nats h s ys)(q:setW xs lo n ys=some zs):∃h',copyH s d 1 h=some h'∧Vec h' t i zs∧Upd h h' i:=by
 have hz:=kwu q;unfold setW at q;split at q
 ·rename_i hc;cases q;have hg:=m.cells.gets;rw[m.len]at hg;obtain⟨e,b⟩:=v.has;unfold copyH;rw[w.ref,m.len,w.len,hc.2,Nat.min_self];cases hs:s.ref with
  | none =>
   have:ys=[]:=by
    cases ys with
    | nil=>rfl
    | cons y ys =>
     obtain⟨r,e,_⟩:=m.cells.get 0 _ rfl;rw[hs]at e;cases e
   subst this;have:n=0:=hc.2.symm;subst this;exact⟨h,rfl,by simpa using v,(Grow.refl h).toUpd i⟩
  | some r =>
   rw[hs,hc.2]at hg;simp only[AH.getsO]at hg;dsimp only;rw[hg,Option.bind_some,b.puts (by simp;omega)]
   have e1:(xs.map u64).take lo++ys.map u64++(xs.map u64).drop (lo+(ys.map u64).length)=(xs.take lo++ys++xs.drop (lo+n)).map u64:=by
    simp[List.map_take,List.map_drop,hc.2]
   rw[e1];refine⟨_,rfl,⟨?_,⟨e,AH.has_upd b _ _⟩,?_,?_⟩,AH.upd_Upd h i _ e⟩
   ·rw[hz];exact v.is
   ·intro z h1;rcases List.mem_append.1 h1 with h1 | h1
    ·rcases List.mem_append.1 h1 with h1 | h1
     ·exact v.lt z (List.mem_of_mem_take h1)
     ·exact m.lt z h1
    ·exact v.lt z (List.mem_of_mem_drop h1)
   ·rw[hz];exact v.short
 ·cases q
def Av(s:Sl)(i:Nat)(xs:List Nat):Prop:=xs=[]∨∀o,s.ref≠some (.new i o)
theorem Av.of_base{h0:AH}{s:Sl}{xs:List Nat}(n:Nats h0 s xs){i:Nat}(hi:h0.blks.size≤i):Av s i xs:=by
 by_cases hx:xs=[]
 ·exact .inl hx
 ·right
  intro o ho;have hl:0<xs.length:=by cases xs;exact absurd rfl hx;simp
  obtain⟨r,e1,e2⟩:=n.cells.get 0 _ (by rw[List.getElem?_map,List.getElem?_eq_getElem hl];rfl);rw[ho]at e1;cases e1;have:=AH.cell_inn e2;simp only[Ref.add_new,Ref.inn]at this;omega
theorem Av.of_own{h1:AH}{s:Sl}{xs:List Nat}(o:Own h1 s){i:Nat}(hi:i<h1.blks.size):Av s i xs:=.inr fun k hk=>by
 obtain⟨j,k',e,hj⟩:=o _ hk;cases e;omega
theorem Av.of_in{s:Sl}{j:Nat}{xs:List Nat}(b:InB s j){i:Nat}(hij:j≠i):Av s i xs:=.inr fun k hk=>by
 obtain⟨o,e⟩:=b _ hk;cases e;exact hij rfl
theorem Av.nil(s:Sl)(i:Nat):Av s i []:=.inl rfl
theorem Nats.upda{h1 h2:AH}{s:Sl}{xs:List Nat}(c:Nats h1 s xs){i:Nat}(av:Av s i xs)(u:Upd h1 h2 i):Nats h2 s xs :=
 ⟨⟨c.cells.fit,c.cells.len,fun k v hv=>by
  obtain⟨r,e1,e2⟩:=c.cells.get k v hv;refine⟨r,e1,u.cell e2 fun o' he=>?_⟩;rcases av with rfl | av
  ·simp at hv
  ·cases r with
   | old a=>cases he
   | new j o =>
    simp only[Ref.add_new,Ref.new.injEq]at he;exact av o (by rw[e1,he.1])⟩,c.lt,c.short⟩
end Go.Ab
namespace Go.Ab
theorem kgu{h h':AH}{i:Nat}{cs:List AV}{e:TypeId}(b:h.has i cs e)(b':h'.has i cs e)(o n:Nat):SameAt h h' (.new i o) n :=
 ⟨fun j _=>by rw[Ref.add_new,b.cell,b'.cell],fun _=>b'.trans b.symm⟩
section
variable{P:AV→AH→Prop}{K:AV×AH→Option (AV×AH)}
end
end Go.Ab
namespace Go.Num
def num(b:Nat):List Nat→Nat
 | []=>0
 | x::xs=>x+b*num b xs
def digs(b n:Nat):List Nat:=if h:b≤1∨n=0 then []else n%b::digs b (n/b)
termination_by n
decreasing_by
 have:n≠0:=fun e=>h (.inr e);have:1<b:=by omega
 exact Nat.div_lt_self (by omega) this
theorem kcm(b:Nat):digs b 0=[]:=by rw[digs];simp
theorem kfr{b n:Nat}(hb:2≤b)(hn:n≠0):digs b n=n%b::digs b (n/b):=by
 rw[digs,dif_neg (by omega)]
theorem kv{b:Nat}(hb:2≤b)(n:Nat):num b (digs b n)=n:=by
 induction n using Nat.strongRecOn with
 | ind n ih =>
  by_cases hn:n=0
  ·subst hn;simp[kcm,num]
  ·rw[kfr hb hn,num,ih _ (Nat.div_lt_self (by omega) hb),Nat.mod_add_div]
theorem kw4{b:Nat}(hb:2≤b)(n:Nat):∀x∈digs b n,x<b:=by
 induction n using Nat.strongRecOn with
 | ind n ih =>
  by_cases hn:n=0
  ·subst hn;simp[kcm]
  ·rw[kfr hb hn];intro x hx;rcases List.mem_cons.1 hx with rfl | hx
   ·exact Nat.mod_lt _ (by omega)
   ·exact ih _ (Nat.div_lt_self (by omega) hb) x hx
theorem kdu(b:Nat)(xs ys:List Nat):num b (xs++ys)=num b xs+b^xs.length*num b ys:=by
 induction xs with
 | nil=>simp[num]
 | cons x xs ih =>
  simp only[List.cons_append,num,ih,List.length_cons,Nat.pow_succ,Nat.mul_add];rw[Nat.mul_comm (b^xs.length) b,Nat.mul_assoc];omega
theorem num_lt{b:Nat}(hb:1≤b):∀{xs:List Nat},(∀x∈xs,x<b)→num b xs<b^xs.length
 | [],_=>by simp[num]
 | x::xs,h=>by
  have h1:=h x (by simp);have h2:=num_lt hb (xs:=xs) fun y hy=>h y (by simp[hy]);simp only[num,List.length_cons,Nat.pow_succ]
  calc x+b*num b xs<b+b*num b xs:=by omega
   _=b*(num b xs+1):=by rw[Nat.mul_add,Nat.mul_one,Nat.add_comm]
   _≤b*b^xs.length:=Nat.mul_le_mul_left _ h2
   _=b^xs.length*b:=Nat.mul_comm _ _
def Trim(xs:List Nat):Prop:=∀h:xs≠[],xs.getLast h≠0
theorem Trim.tail{x:Nat}{xs:List Nat}(h:Trim (x::xs)):Trim xs:=fun hx=>by
 have:=h (by simp);rwa[List.getLast_cons hx]at this
theorem kn4{b:Nat}(hb:1≤b):∀{xs:List Nat},Trim xs→num b xs=0→xs=[]
 | [],_,_=>rfl
 | x::xs,ht,h=>by
  simp only[num]at h
  have h1:num b xs=0:=by
   rcases Nat.eq_zero_or_pos (num b xs)with e | e
   ·exact e
   ·have:0<b*num b xs:=Nat.mul_pos hb e;omega
  have:=kn4 hb ht.tail h1;subst this;have:=ht (by simp);simp at this;omega
theorem kgn{b:Nat}(hb:2≤b):∀{xs:List Nat},(∀x∈xs,x<b)→Trim xs→digs b (num b xs)=xs
 | [],_,_=>by simp[num,kcm]
 | x::xs,h,ht=>by
  have hx:=h x (by simp)
  have hn:num b (x::xs)≠0:=fun e=>by
   have:=kn4 (by omega) ht e;cases this
  rw[kfr hb hn];simp only[num]
  rw[Nat.add_mul_mod_self_left,Nat.mod_eq_of_lt hx,Nat.add_mul_div_left _ _ (by omega),Nat.div_eq_of_lt hx,Nat.zero_add,
   kgn hb (fun y hy=>h y (by simp[hy])) ht.tail]
theorem kh8{b:Nat}(hb:2≤b)(n:Nat):Trim (digs b n):=by
 induction n using Nat.strongRecOn with
 | ind n ih =>
  by_cases hn:n=0
  ·subst hn;simp[kcm,Trim]
  ·rw[kfr hb hn];intro _;by_cases hd:digs b (n/b)=[]
   ·simp only[hd,List.getLast_singleton]
    have:n/b=0:=by
     rcases Nat.eq_zero_or_pos (n/b)with e | e
     ·exact e
     ·rw[kfr hb (by omega)]at hd;cases hd
    have:=Nat.mod_add_div n b;rw[‹n/b=0›]at this;omega
   ·rw[List.getLast_cons hd];exact ih _ (Nat.div_lt_self (by omega) hb) hd
theorem kbi{b:Nat}(hb:2≤b)(n k:Nat):(digs b n).length≤k↔n<b^k:=by
 induction k generalizing n with
 | zero =>
  simp only[Nat.pow_zero,Nat.le_zero_eq];by_cases hn:n=0
  ·subst hn;simp[kcm]
  ·rw[kfr hb hn];simp;omega
 | succ k ih =>
  by_cases hn:n=0
  ·subst hn;simp only[kcm,List.length_nil,Nat.zero_le,true_iff];exact Nat.pow_pos (by omega)
  ·rw[kfr hb hn,List.length_cons,Nat.add_le_add_iff_right,ih,Nat.pow_succ,Nat.div_lt_iff_lt_mul (by omega)]
theorem kqs{b:Nat}(hb:2≤b){n:Nat}:digs b n=[]↔n=0:=by
 constructor
 ·intro h;have:=kv hb n;rw[h]at this
  simpa[num]using this.symm
 ·rintro rfl;exact kcm b
theorem kjs(b:Nat)(xs:List Nat)(k:Nat):num b (xs++List.replicate k 0)=num b xs:=by
 rw[kdu]
 have:num b (List.replicate k 0)=0:=by
  induction k with
  | zero=>rfl
  | succ k ih=>simp[List.replicate_succ,num,ih]
 rw[this];omega
theorem ky4{b:Nat}{xs:List Nat}{n:Nat}(h:∀i,n≤i→(hi:i<xs.length)→xs[i]=0):num b (xs.take n)=num b xs:=by
 have e:xs=xs.take n++xs.drop n:=(List.take_append_drop n xs).symm
 have e2:xs.drop n=List.replicate (xs.length-n) 0:=by
  apply List.ext_getElem
  ·simp
  ·intro i h1 h2;simp only[List.getElem_drop,List.getElem_replicate];exact h _ (by omega) _
 conv=>rhs;rw[e,e2]
 rw[kjs]
theorem krw{b:Nat}(hb:2≤b){xs:List Nat}{n:Nat}(hx:∀x∈xs,x<b)(h:∀i,n≤i→(hi:i<xs.length)→xs[i]=0)(hn:n≤xs.length)(ht:n=0∨∃h:n-1<xs.length,xs[n-1]≠0) :
  xs.take n=digs b (num b xs):=by
 rw[← ky4 h];symm;refine kgn hb (fun x hx'=>hx x (List.mem_of_mem_take hx')) fun hne=>?_;rcases ht with rfl | ⟨h1,h2⟩
 ·simp at hne
 ·have:(xs.take n).getLast hne=xs[n-1]:=by
   rw[List.getLast_eq_getElem];simp only[List.getElem_take,List.length_take];congr 1;omega
  rw[this];exact h2
theorem ko0{b:Nat}(hb:2≤b){xs ys:List Nat}(hx:∀x∈xs,x<b)(hy:∀x∈ys,x<b)(ty:Trim ys)(h:xs.length<ys.length):num b xs<num b ys:=by
 rw[← kgn hb hy ty]at h;rcases Nat.lt_or_ge (num b xs) (num b ys)with h1 | h1
 ·exact h1
 ·exfalso;have h2:=num_lt (b:=b) (by omega) hx;have h3:=(kbi hb (num b ys) xs.length).2 (by omega);omega
def cmp(a b:Nat):Int:=if a<b then -1 else if a=b then 0 else 1
theorem kck(b:Nat){xs:List Nat}{k:Nat}(h:k<xs.length):num b (xs.take (k+1))=num b (xs.take k)+b^k*xs[k]:=by
 rw[List.take_succ_eq_append_getElem h,kdu];simp[num,Nat.min_eq_left (Nat.le_of_lt h)]
theorem kzc{b p q x y k:Nat}(hp:p<b^k)(hq:q<b^k):cmp (p+b^k*x) (q+b^k*y)=if x<y then -1 else if x=y then cmp p q else 1:=by
 have key:∀{p q x y:Nat},p<b^k→x<y→p+b^k*x<q+b^k*y:=by
  intro p q x y hp hxy;have:b^k*(x+1)≤b^k*y:=Nat.mul_le_mul_left _ hxy;rw[Nat.mul_add,Nat.mul_one]at this;omega
 unfold cmp;rcases Nat.lt_trichotomy x y with h | h | h
 ·have:=key (q:=q) hp h;simp[h,this]
 ·subst h;simp
 ·have:=key (q:=p) hq h;rw[if_neg (by omega),if_neg (by omega),if_neg (by omega),if_neg (by omega)]
theorem ku9{b:Nat}(hb:2≤b)(m n:Nat):(digs b (m+n)).length≤max (digs b m).length (digs b n).length+1:=by
 rw[kbi hb];have h1:=(kbi hb m _).1 (Nat.le_max_left (digs b m).length (digs b n).length);have h2:=(kbi hb n _).1 (Nat.le_max_right (digs b m).length (digs b n).length);generalize max (digs b m).length (digs b n).length=k at h1 h2⊢;rw[Nat.pow_succ];have:b^k*2≤b^k*b:=Nat.mul_le_mul_left _ hb;omega
theorem kh3{b:Nat}:∀{xs:List Nat}{j:Nat}(h:j<xs.length)(w:Nat),num b (xs.set j w)+b^j*xs[j]=num b xs+b^j*w
 | x::xs,0,h,w=>by simp only[List.set_cons_zero,num,List.getElem_cons_zero,Nat.pow_zero,Nat.one_mul];omega
 | x::xs,j+1,h,w=>by
  have h':j<xs.length:=by simpa using h
  have ih:=kh3 (b:=b) (xs:=xs) (j:=j) h' w;simp only[List.set_cons_succ,num,List.getElem_cons_succ];have e1:b^(j+1)*xs[j]=b*(b^j*xs[j]):=by rw[Nat.pow_succ,Nat.mul_comm (b^j) b,Nat.mul_assoc]
  have e2:b^(j+1)*w=b*(b^j*w):=by rw[Nat.pow_succ,Nat.mul_comm (b^j) b,Nat.mul_assoc]
  rw[e1,e2];have e3:=congrArg (b * ·) ih;simp only[Nat.mul_add]at e3;omega
theorem kto{b P n n' o l c c' t T:Nat}(h1:n'+P*o=n+P*l)(h2:t+o+c=c'*b+l)(h3:n+c*P=T):n'+c'*(P*b)=T+P*t:=by
 have e:=congrArg (P * ·) h2;simp only[Nat.mul_add]at e;have e1:P*(c'*b)=c'*(P*b):=by rw[Nat.mul_left_comm]
 have e2:P*c=c*P:=Nat.mul_comm _ _;rw[e1,e2]at e;omega
def Row(b:Nat)(o:List Nat)(i k c x:Nat)(ys:List Nat)(T:Nat):Prop:=num b o+c*b^(i+k)=T+b^i*(x*num b (ys.take k))
theorem Row.start{b:Nat}{o:List Nat}{i x:Nat}{ys:List Nat}{T:Nat}(h:num b o=T):Row b o i 0 0 x ys T:=by
 unfold Row;simp[num,h]
theorem Row.step{b:Nat}{o:List Nat}{i k c x:Nat}{ys:List Nat}{T c' l:Nat}(r:Row b o i k c x ys T)(hk:k<ys.length)(ho:i+k<o.length)(e:x*ys[k]+o[i+k]+c=c'*b+l):Row b (o.set (i+k) l) i (k+1) c' x ys T:=by
 unfold Row at r⊢;have h1:=kh3 (b:=b) ho l;have:=kto h1 e r;rw[show i+(k+1)=i+k+1 from rfl,Nat.pow_succ,this,kck b hk,Nat.mul_add,Nat.mul_add,Nat.pow_add];rw[Nat.mul_assoc (b^i) (b^k),Nat.mul_left_comm (b^k) x];omega
theorem Row.stop{b:Nat}{o:List Nat}{i c x:Nat}{ys:List Nat}{T:Nat}(r:Row b o i ys.length c x ys T)(ho:i+ys.length<o.length)(h0:o[i+ys.length]=0):num b (o.set (i+ys.length) c)=T+b^i*(x*num b ys):=by
 unfold Row at r;have h1:=kh3 (b:=b) ho c;rw[h0,Nat.mul_zero,Nat.add_zero]at h1;rw[h1,Nat.mul_comm,r,List.take_length]
theorem kz0{b:Nat}{xs ys:List Nat}{i T:Nat}(hi:i<xs.length)(h:T=num b (xs.take i)*num b ys):T+b^i*(xs[i]*num b ys)=num b (xs.take (i+1))*num b ys:=by
 rw[kck b hi,Nat.add_mul,h,Nat.mul_assoc]
theorem k1e{b x y o c:Nat}(hx:x<b)(hy:y<b)(ho:o<b)(hc:c<b):(x*y+o+c)/b<b:=by
 have hb:0<b:=by omega
 rw[Nat.div_lt_iff_lt_mul hb];have h1:x*y≤(b-1)*(b-1):=Nat.mul_le_mul (by omega) (by omega);obtain⟨a,rfl⟩:∃a,b=a+1:=⟨b-1,by omega⟩;simp only[Nat.add_sub_cancel]at h1;have:(a+1)*(a+1)=a*a+2*a+1:=by rw[Nat.add_mul,Nat.mul_add];omega
 omega
end Go.Num
namespace Go.Num
section
variable{b v1 v0 u32 u1 q r v w:Nat}
theorem kn_lt(hu:u32<v)(hu1:u1<b)(hw:w=u32*b+u1):w<v*b:=by
 have:(u32+1)*b≤v*b:=Nat.mul_le_mul_right _ hu;rw[Nat.add_mul,Nat.one_mul]at this;omega
theorem kn_mul(hv:v=v1*b+v0):q*v=q*v1*b+q*v0:=by rw[hv,Nat.mul_add,Nat.mul_assoc]
theorem kn_hi(hv:v=v1*b+v0)(hu:u32<v)(hu1:u1<b)(hw:w=u32*b+u1)(e:q*v1+r=u32)(hge:w/v≤q)(t:b≤q∨b*r+u1<q*v0):w/v≤q-1∧1≤q:=by
 have hvp:0<v:=by omega
 have hl:=kn_lt hu hu1 hw
 have h1:w/v<q:=by
  rcases t with t | t
  ·have:w/v<b:=(Nat.div_lt_iff_lt_mul hvp).2 (by rw[Nat.mul_comm];exact hl);omega
  ·rw[Nat.div_lt_iff_lt_mul hvp,kn_mul hv,hw,← e,Nat.add_mul,Nat.mul_comm r b];omega
 clear hge;generalize w/v=k at *
 omega
theorem kn_lo(hv:v=v1*b+v0)(hu:u32<v)(hw:w=u32*b+u1)(e:q*v1+r=u32)(hge:w/v≤q)(t:q*v0≤b*r+u1):w/v=q:=by
 have hvp:0<v:=by omega
 refine Nat.le_antisymm hge ?_;rw[Nat.le_div_iff_mul_le hvp,kn_mul hv,hw,← e,Nat.add_mul,Nat.mul_comm r b];omega
theorem kn_out(hv:v=v1*b+v0)(hv0:v0<b)(hu:u32<v)(e:q*v1+r=u32)(hr:b≤r):q*v0≤b*r+u1:=by
 have h1:q*v1<b*v1:=by
  rw[Nat.mul_comm b v1];omega
 have h2:q<b:=Nat.lt_of_mul_lt_mul_right h1;have h3:q*v0≤b*b:=Nat.mul_le_mul (by omega) (by omega);have h4:b*b≤b*r:=Nat.mul_le_mul_left _ hr;omega
theorem kwv(hv1:0<v1)(hv:v=v1*b+v0)(hu:u32<v)(hu1:u1<b)(hw:w=u32*b+u1)(hb:0<b):w/v≤u32/v1:=by
 have hvp:0<v:=by omega
 rw[Nat.le_div_iff_mul_le hv1];have h1:w/v*v≤w:=Nat.div_mul_le_self w v;rw[kn_mul hv,hw]at h1
 have h2:w/v*v1*b<(u32+1)*b:=by
  rw[Nat.add_mul,Nat.one_mul];rw[hw];omega
 have:=Nat.lt_of_mul_lt_mul_right h2;omega
end
theorem k49{b v w x:Nat}(hv:0<v)(hx:x<b):(w*b+x)/v=w/v*b+(w%v*b+x)/v∧(w*b+x)%v=(w%v*b+x)%v:=by
 have e:w*b+x=v*(w/v*b)+(w%v*b+x):=by
  have:=Nat.div_add_mod w v;have h:(v*(w/v)+w%v)*b=w*b:=by rw[this]
  rw[Nat.add_mul,Nat.mul_assoc]at h;omega
 constructor
 ·rw[e,Nat.mul_add_div hv]
 ·rw[e,Nat.mul_add_mod]
end Go.Num
