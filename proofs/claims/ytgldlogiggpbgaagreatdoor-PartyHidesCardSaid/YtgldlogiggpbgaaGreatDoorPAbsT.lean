/- Words and laws that the last text joins. -/
import Derived.Test.YtgldlogiggpbgaaGreatDoorPAbsDra
set_option linter.unusedVariables false
set_option linter.unusedSimpArgs false
set_option linter.unusedSectionVars false
namespace Go.Ab
def Runs(x:Option (AV×AH))(P:AV->AH->Prop):Prop:=∃v h',x=some (v,h')/\P v h'
structure Upd(h h':AH)(i:Nat):Prop where
 old:h'.old=h.old
 size:h.blks.size<=h'.blks.size
 blk:∀j,j≠i->j<h.blks.size->h'.blks[j]?=h.blks[j]?
theorem AH.upd_Upd(h:AH)(i:Nat)(cs:List AV)(e:TypeId):Upd h (h.upd i cs e) i :=
 ⟨rfl,by simp[AH.upd],λj y _=>by show(h.blks.setIfInBounds i (.cells cs e))[j]?=_;rw[Array.getElem?_setIfInBounds_ne (λx=>y x.symm)]⟩
theorem Grow.updr{h h1 h2:AH}(g:Grow h h1){i:Nat}(z:h.blks.size<=i)(u:Upd h1 h2 i):Grow h h2:=⟨u.old.trans g.old,qbs g.size u.size,λj y=>(u.blk j (by omega) (qbt y g.size)).trans (g.blk j y)⟩
theorem AH.has.updr{h1 h2:AH}{j:Nat}{cs:List AV}{e:TypeId}(b:h1.has j cs e){i:Nat}(y:j≠i)(u:Upd h1 h2 i):h2.has j cs e:=(u.blk j y b.lt).trans b
abbrev qw:=@AH.has.updr
theorem Upd.trans{h1 h2 y:AH}{i:Nat}(u:Upd h1 h2 i)(w:Upd h2 y i):Upd h1 y i:=⟨w.old.trans u.old,qbs u.size w.size,λj z F=>(w.blk j z (qbt F u.size)).trans (u.blk j z F)⟩
theorem Grow.toUpd{h1 h2:AH}(g:Grow h1 h2)(i:Nat):Upd h1 h2 i:=⟨g.old,g.size,λj _ y=>g.blk j y⟩
theorem Upd.cell{h1 h2:AH}{i:Nat}(u:Upd h1 h2 i){r:Ref}{v:AV}(y:h1.cell r=some v)(z:∀o,r≠.new i o):h2.cell r=some v:=by
 have F:=AH.cell_inn y;cases r with
 | old a=>simpa only[AH.cell,u.old]using y
 | new j o=>simpa only[AH.cell,u.blk j (λG=>z o (by rw[G])) F]using y
theorem Cells.updr{h0 h1 h2:AH}{s:Sl}{n:Nat}{flat:List AV}(c:Cells h1 s n flat)(z:Own h0 s){i:Nat}(H:i<h0.blks.size)(u:Upd h1 h2 i):Cells h2 s n flat :=
 ⟨c.fit,c.len,λk v hv=>by obtain⟨r,y,F⟩:=c.get k v hv;refine⟨r,y,?_⟩;obtain⟨j,o,rfl,I⟩:=z r y;refine u.cell F λK G=>?_;simp only[qj,Ref.new.injEq]at G;omega⟩
theorem Nats.updr{h0 h1 h2:AH}{s:Sl}{xs:List Nat}(c:Nats h1 s xs)(y:Own h0 s){i:Nat}(z:i<h0.blks.size)(u:Upd h1 h2 i):Nats h2 s xs:=⟨c.cells.updr y z u,c.lt,c.short⟩
section
variable{P:AV->AH->Prop}
theorem Runs.ret{v:AV}{h:AH}(p:P v h):Runs (some (v,h)) P:=⟨v,h,rfl,p⟩
abbrev qx:=@Runs.ret
theorem Runs.imp{x:Option (AV×AH)}{Q:AV->AH->Prop}(r:Runs x Q)(f:∀v h,Q v h->P v h):Runs x P:=by obtain⟨v,h',e,q⟩:=r;exact⟨v,h',e,f v h' q⟩
theorem Runs.step{A:Type}{o:Option A}{a:A}{K:A->Option (AV×AH)}(e:o=some a)(H:Runs (K a) P):Runs (o.bind K) P:=by subst e;exact H
abbrev qy:=@Runs.step
theorem Runs.new{h:AH}{cs:List AV}{e:TypeId}{K:Ref->AH->Option (AV×AH)}(H:∀h',h'.has h.blks.size cs e->Grow h h'->Runs (K (.new h.blks.size 0) h') P):Runs (newK h (.cells cs e) K) P:=H _ (qm h cs e) (ql h _)
abbrev qz:=@Runs.new
theorem Runs.puts{h:AH}{i:Nat}{cs vs:List AV}{e:TypeId}{K:AH->Option (AV×AH)}(b:h.has i cs e)(y:vs.length=cs.length)(H:∀h',h'.has i vs e->Upd h h' i->Runs (K h') P):Runs ((h.puts (.new i 0) vs).bind K) P:=by rw[b.puts_all y];exact H _ (qo b vs e) (AH.upd_Upd h i vs e)
abbrev q0:=@Runs.puts
theorem Runs.ifT{c:Bool}{a b:Option (AV×AH)}(e:c=true)(H:Runs a P):Runs (cond c a b) P:=by subst e;exact H
abbrev qba:=@Runs.ifT
theorem Runs.ifF{c:Bool}{a b:Option (AV×AH)}(e:c=false)(H:Runs b P):Runs (cond c a b) P:=by subst e;exact H
abbrev qbb:=@Runs.ifF
theorem Runs.cond{c:Bool}{a b:Option (AV×AH)}(y:c=true->Runs a P)(z:c=false->Runs b P):Runs (cond c a b) P:=by
 cases c
 ·exact z rfl
 ·exact y rfl
abbrev qbc:=@Runs.cond
theorem Runs.when{p:Prop}{x:Option (AV×AH)}(hp:p)(H:Runs x P):Runs (whenK p x) P:=by rw[kwz hp];exact H
abbrev qbd:=@Runs.when
end
theorem AH.has.rd{A:Type}{f:AV->Option A}{h:AH}{i:Nat}{cs:List AV}{e:TypeId}(b:h.has i cs e)(k:Nat){v:AV}{x:A}(hk:cs[k]?=some v)(y:f v=some x):(h.cell ((Ref.new i 0).add k)).bind f=some x:=by rw[qj,Nat.zero_add,b.cell,hk];exact y
abbrev qbe:=@AH.has.rd
theorem AH.has.rd0{A:Type}{f:AV->Option A}{h:AH}{i:Nat}{cs:List AV}{e:TypeId}(b:h.has i cs e){v:AV}{x:A}(hk:cs[0]?=some v)(y:f v=some x):(h.cell (Ref.new i 0)).bind f=some x:=by rw[b.cell,hk];exact y
theorem seen{A:Type}{f:AV->Option A}{v:AV}{x:A}(y:f v=some x):(some v).bind f=some x:=y
theorem seenAt{A:Type}{f:AV->Option A}{cs:List AV}{k:Nat}{v:AV}{x:A}(hk:cs[k]?=some v)(y:f v=some x):(cs[k]?).bind f=some x:=by rw[hk];exact y
theorem Nats.of_has{h:AH}{i:Nat}{e:TypeId}{xs:List Nat}(b:h.has i (xs.map u64) e)(y:∀x∈xs,x<18446744073709551616)(hs:xs.length<=9223372036854775807):Nats h ⟨some (.new i 0),xs.length,.is xs.length⟩ xs:=⟨qp b (by simp),y,hs⟩
theorem Own.box{h h':AH}(g:Grow h h'){n:Nat}{c:Cap}:Own h ⟨some (.new h'.blks.size 0),n,c⟩:=λr y=>by
 cases y;exact⟨_,_,rfl,g.size⟩
theorem condT{A:Type}{c:Bool}{a b:A}(e:c=true):cond c a b=a:=by subst e;rfl
theorem condF{A:Type}{c:Bool}{a b:A}(e:c=false):cond c a b=b:=by subst e;rfl
end Go.Ab
set_option maxRecDepth 10000
namespace Go.Ab
inductive Iter{S R:Type}(f:S->Option (S⊕R)):S->R->Prop
 | done {s:S} {r:R}:f s=some (.inr r)->Iter f s r
 | next {s s':S} {r:R}:f s=some (.inl s')->Iter f s' r->Iter f s r
theorem qct{h:AH}{i:Nat}{cs:List AV}{e:TypeId}{n:Int}{K:Int->Option (AV×AH)}{P:AV->AH->Prop}(b:h.has i cs e)(k:Nat)(a:cs[k]?=some (.int .i64 n))(H:Runs (K n) P):Runs (((h.cell ((Ref.new i 0).add k)).bind (AV.asInt .i64)).bind K) P:=qy (b.rd k a (kc _ _)) H
theorem qcs{h:AH}{i:Nat}{cs:List AV}{e:TypeId}{n:Sl}{K:Sl->Option (AV×AH)}{P:AV->AH->Prop}(b:h.has i cs e)(k:Nat)(a:cs[k]?=some n.v)(H:Runs (K n) P):Runs (((h.cell ((Ref.new i 0).add k)).bind AV.asSl).bind K) P:=qy (b.rd k a (asSl_v _)) H
def GoodS{S R:Type}(A:S->Prop)(r:R):S⊕R->Prop
 | .inl s=>A s
 | .inr y=>y=r
theorem Iter.ind{S R:Type}{f:S->Option (S⊕R)}{A:S->Prop}{r:R}(H:∀s o,f s=some o->GoodS A r o->A s){s:S}(y:Iter f s r):A s:=by
 induction y with
 | done e=>exact H _ _ e rfl
 | next e _ ih=>exact H _ _ e (ih H)
abbrev qbf:=@Iter.ind
theorem Iter.det{S R:Type}{f:S->Option (S⊕R)}{s:S}{r z:R}(a:Iter f s r)(b:Iter f s z):r=z:=by
 induction a with
 | done e =>
  cases b with
  | done y=>rw[e]at y;cases y;rfl
  | next y _=>rw[e]at y;cases y
 | next e _ ih =>
  cases b with
  | done y=>rw[e]at y;cases y
  | next y b'=>rw[e]at y;cases y;exact ih b'
noncomputable def runP{S R:Type}(f:S->Option (S⊕R))(s:S):Option R:=by
 classical
 exact if h:∃r,Iter f s r then some h.choose else none
theorem ke5{S R:Type}{f:S->Option (S⊕R)}{s:S}{r:R}(q:runP f s=some r):Iter f s r:=by
 unfold runP at q;split at q
 ·rename_i h;cases q;exact h.choose_spec
 ·cases q
theorem kei{S R:Type}{f:S->Option (S⊕R)}{s:S}{r:R}(y:Iter f s r):runP f s=some r:=by unfold runP;have h:∃r,Iter f s r:=⟨r,y⟩;rw[dif_pos h];rw[h.choose_spec.det y]
def atI(xs:List Nat)(i:Int):Option Nat:=if 0<=i then xs[i.toNat]? else none
def inI(n:Nat)(i:Int):Option Nat:=if 0<=i/\i<(n:Int)then some i.toNat else none
def mkI(l c:Int):Option Nat:=if l=c/\0<=l/\l<=8796093022208 then some l.toNat else none
def u64P(v:Int):Option Nat:=if 0<=v/\v<18446744073709551616 then some v.toNat else none
def add64P(x y c:Int):Option (Int×Int):=if 0<=x/\0<=y/\0<=c/\c<=1 then some ((x+y+c)%18446744073709551616,(x+y+c)/18446744073709551616)else none
noncomputable def need(p:Prop):Option (PLift p):=by
 classical
 exact if h:p then some ⟨h⟩else none
theorem kp{p:Prop}(h:p):need p=some ⟨h⟩:=by unfold need;rw[dif_pos h]
theorem k7w{xs:List Nat}{i:Int}{y:Nat}(q:atI xs i=some y):∃j:Nat,i=(j:Int)/\∃z:j<xs.length,xs[j]=y:=by
 unfold atI at q;split at q
 ·rename_i h;obtain⟨h1,h2⟩:=qcg.1 q;exact⟨i.toNat,by omega,h1,h2⟩
 ·cases q
theorem ko7{n:Nat}{i:Int}{j:Nat}(q:inI n i=some j):i=(j:Int)/\j<n:=by
 unfold inI at q;split at q
 ·cases q;omega
 ·cases q
theorem k67{l c:Int}{n:Nat}(q:mkI l c=some n):l=(n:Int)/\c=(n:Int)/\n<=8796093022208:=by
 unfold mkI at q;split at q
 ·cases q;omega
 ·cases q
theorem krx{v:Int}{n:Nat}(q:u64P v=some n):v=(n:Int)/\n<18446744073709551616:=by
 unfold u64P at q;split at q
 ·cases q;omega
 ·cases q
theorem kbv{xs:List Nat}{i:Nat}(h:i<xs.length):atI xs (i:Int)=some xs[i]:=by unfold atI;rw[if_pos (by omega),Int.toNat_natCast,qb6 h]
theorem kba{n i:Nat}(h:i<n):inI n (i:Int)=some i:=by unfold inI;rw[if_pos (by omega),Int.toNat_natCast]
theorem kdt{n:Nat}(h:n<=8796093022208):mkI (n:Int) (n:Int)=some n:=by unfold mkI;rw[if_pos (by omega),Int.toNat_natCast]
theorem kbg{n:Nat}(h:n<18446744073709551616):u64P (n:Int)=some n:=by unfold u64P;rw[if_pos (by omega),Int.toNat_natCast]
theorem kg9(x y:Nat){c:Nat}(h:c<=1):add64P (x:Int) (y:Int) (c:Int)=some ((((x+y+c)%18446744073709551616:Nat):Int),(((x+y+c)/18446744073709551616:Nat):Int)):=by unfold add64P;rw[if_pos (by omega)];rfl
theorem kfw{x y c:Int}{p:Int×Int}{h:AH}{z F G:IntKind}(q:add64P x y c=some p):((prim "math/bits.Add64" [.int z x,.int F y,.int G c]).map λv=>(v,h))=some (.tup [.int .u64 p.1,.int .u64 p.2],h):=by
 unfold add64P at q;split at q
 ·rename_i H;cases q;show(cond (decide (0<=x/\0<=y/\0<=c/\c<=1)) (some (AV.tup [.int .u64 ((x+y+c)%18446744073709551616),.int .u64 ((x+y+c)/18446744073709551616)])) none).map _=_;rw[qbz H];rfl
 ·cases q
theorem Nats.atI{h:AH}{s:Sl}{xs:List Nat}(n:Nats h s xs){i:Int}{y:Nat}(q:Go.Ab.atI xs i=some y):∃r,idx s.ref xs.length i 1=some r/\h.cell r=some (.int .u64 (y:Int)):=by obtain⟨j,rfl,z,rfl⟩:=k7w q;rw[<- n.len];exact n.at z
theorem rdc{A:Type}{f:AV->Option A}{h:AH}{r:Ref}{v:AV}{x:A}(y:h.cell r=some v)(z:f v=some x):(h.cell r).bind f=some x:=by rw[y];exact z
structure Vec(h:AH)(s:Sl)(i:Nat)(xs:List Nat):Prop where
 is:s=⟨some (.new i 0),xs.length,.is xs.length⟩
 has:∃e,h.has i (xs.map u64) e
 lt:∀x∈xs,x<18446744073709551616
 short:xs.length<=9223372036854775807
theorem Vec.len{h:AH}{s:Sl}{i:Nat}{xs:List Nat}(v:Vec h s i xs):s.len=xs.length:=by rw[v.is]
theorem Vec.nats{h:AH}{s:Sl}{i:Nat}{xs:List Nat}(v:Vec h s i xs):Nats h s xs:=by obtain⟨e,b⟩:=v.has;rw[v.is];exact Nats.of_has b v.lt v.short
theorem Vec.inn{h:AH}{s:Sl}{i:Nat}{xs:List Nat}(v:Vec h s i xs):i<h.blks.size:=v.has.choose_spec.lt
theorem Vec.grow{h h':AH}(g:Grow h h'){s:Sl}{i:Nat}{xs:List Nat}(v:Vec h s i xs):Vec h' s i xs:=⟨v.is,v.has.imp λ_ b=>g.has b,v.lt,v.short⟩
theorem Vec.updr{h h':AH}{s:Sl}{i:Nat}{xs:List Nat}(v:Vec h s i xs){j:Nat}(y:i≠j)(u:Upd h h' j):Vec h' s i xs:=⟨v.is,v.has.imp λ_ b=>b.updr y u,v.lt,v.short⟩
theorem Vec.own{h h0:AH}{s:Sl}{i:Nat}{xs:List Nat}(v:Vec h s i xs)(z:h0.blks.size<=i):Own h0 s:=λr y=>by rw[v.is]at y;cases y;exact⟨_,_,rfl,z⟩
theorem Vec.idx{h:AH}{s:Sl}{i:Nat}{xs:List Nat}(v:Vec h s i xs){n:Nat}(y:xs.length=n){k:Int}{j:Nat}(q:inI n k=some j):Go.Ab.idx s.ref n k 1=some (.new i j):=by subst y;obtain⟨rfl,z⟩:=ko7 q;rw[v.is,keq _ _ _ _ (by omega) (by omega)];simp
theorem Vec.rd{A:Type}{f:AV->Option A}{h:AH}{s:Sl}{i:Nat}{xs:List Nat}(v:Vec h s i xs){n:Nat}(z:xs.length=n){j:Nat}{k:Int}(q:inI n k=some j){x:A}(F:f (.int .u64 ((xs.getD j 0:Nat):Int))=some x):(h.cell (.new i j)).bind f=some x:=by
 subst z;obtain⟨e,b⟩:=v.has;have y:=(ko7 q).2;rw[b.cell,List.getElem?_map,qb6 y]
 simpa[List.getD,y]using F
section
variable{P:AV->AH->Prop}
theorem Runs.vput{h:AH}{s:Sl}{i:Nat}{xs:List Nat}{j w:Nat}{k x:Int}{K:AH->Option (AV×AH)}(v:Vec h s i xs){n:Nat}(G:xs.length=n)(q:inI n k=some j)(z:u64P x=some w)
  (H:∀h',Vec h' s i (xs.set j w)->Upd h h' i->Runs (K h') P):Runs ((h.puts (.new i j) [.int .u64 x]).bind K) P:=by
 subst G;obtain⟨e,b⟩:=v.has;have I:=(ko7 q).2;obtain⟨rfl,Q⟩:=krx z;rw[b.puts (by simp;omega)]
 have U:(xs.map u64).take j++[AV.int .u64 (w:Int)]++(xs.map u64).drop (j+[AV.int .u64 (w:Int)].length)=(xs.set j w).map u64:=by
  apply List.ext_getElem?;intro t;rw[List.map_set];simp only[List.length_singleton];rcases Nat.lt_trichotomy t j with F | F | F
  ·rw[List.append_assoc,List.getElem?_append_left (by simp;omega),List.getElem?_take,if_pos F,List.getElem?_set_ne (by omega)]
  ·subst F;rw[List.append_assoc,List.getElem?_append_right (by simp;omega),List.getElem?_set_self (by simp;omega)];simp[Nat.min_eq_left (Nat.le_of_lt I)]
  ·rw[List.getElem?_append_right (by simp;omega),List.getElem?_drop,List.getElem?_set_ne (by omega)]
   have:j+1+(t-(List.take j (xs.map u64)++[AV.int .u64 (w:Int)]).length)=t:=by rw[qb2,qci,qb3,List.length_singleton];omega
   rw[this]
 rw[U];refine H _ ⟨?_,⟨e,qo b _ _⟩,?_,?_⟩ (AH.upd_Upd h i _ e)
 ·rw[qb9];exact v.is
 ·intro y V;rcases List.mem_or_eq_of_mem_set V with h1 | h1
  ·exact v.lt y h1
  ·rw[h1];exact Q
 ·rw[qb9];exact v.short
abbrev qbg:=@Runs.vput
theorem Runs.mk{h:AH}{l c:Int}{elem:TypeId}{bytes n:Nat}{K:Sl×AH->Option (AV×AH)}(q:mkI l c=some n)(hb:bytes=8)
  (H:∀s h',Vec h' s h.blks.size (List.replicate n 0)->Grow h h'->Runs (K (s,h')) P):Runs ((kbm l c elem bytes [.int .u64 0] h).bind K) P:=by
 obtain⟨h1,h2,z⟩:=k67 q;subst hb;rw[kxk h1 h2 (by omega) (by omega),ktv];refine H _ _ ⟨?_,⟨elem,?_⟩,?_,?_⟩ (ql h _)
 ·simp
 ·have:=qm h (List.replicate n (AV.int .u64 0)) elem;rw[List.map_replicate];exact this
 ·intro x y;rw[List.eq_of_mem_replicate y];omega
 ·simp;omega
end
def InB(s:Sl)(i:Nat):Prop:=∀r,s.ref=some r->∃o,r=.new i o
theorem Vec.inB{h:AH}{s:Sl}{i:Nat}{xs:List Nat}(v:Vec h s i xs):InB s i:=λr y=>by rw[v.is]at y;cases y;exact⟨_,rfl⟩
theorem InB.own{s:Sl}{i:Nat}(b:InB s i){h:AH}(y:h.blks.size<=i):Own h s:=λr z=>by obtain⟨o,rfl⟩:=b r z;exact⟨i,o,rfl,y⟩
theorem InB.cut{s s':Sl}{l n:Int}{m i:Nat}(b:InB s i)(e:cutSl s l n m=some s'):InB s' i:=λr G=>by
 have key:s'.ref=s.ref\/∃d,s'.ref=s.ref.map (·.add d):=by
  unfold cutSl at e;split at e
  ·cases y:decide (0<=l/\l<=n/\n<=((_:Nat):Int))with
   | true =>
    rw[y,cond_true]at e;cases e;dsimp only;split
    ·exact .inl rfl
    ·exact .inr ⟨_,rfl⟩
   | false=>rw[y,cond_false]at e;cases e
  ·cases y:decide (0<=l/\l<=n/\n<=(s.len:Int))with
   | true =>
    rename_i z _;cases F:Nat.beq z m with
    | true =>
     rw[F,y,cond_true,cond_true]at e;cases e;exact .inr ⟨_,rfl⟩
    | false=>rw[F]at e;cases e
   | false =>
    rename_i z _;cases F:Nat.beq z m with
    | true=>rw[F,y,cond_true,cond_false]at e;cases e
    | false=>rw[F]at e;cases e
 rcases key with k | ⟨d,k⟩
 ·exact b r (k▸G)
 ·rw[k,Option.map_eq_some_iff]at G;obtain⟨r0,H,rfl⟩:=G;obtain⟨o,rfl⟩:=b r0 H;exact⟨_,rfl⟩
structure Win(s:Sl)(i lo n:Nat):Prop where
 ref:s.ref=some (.new i lo)
 len:s.len=n
 fit:s.fit 1
def cutP(len:Nat)(lo y:Int):Option (Nat×Nat):=if 0<=lo/\lo<y/\y<=(len:Int)then some (lo.toNat,(y-lo).toNat)else none
theorem kry{len:Nat}{lo y:Int}{p:Nat×Nat}(q:cutP len lo y=some p):lo=(p.1:Int)/\y=((p.1+p.2:Nat):Int)/\0<p.2/\p.1+p.2<=len:=by
 unfold cutP at q;split at q
 ·cases q;dsimp only;omega
 ·cases q
theorem k0d{len lo n:Nat}(h0:0<n)(h:lo+n<=len):cutP len (lo:Int) ((lo+n:Nat):Int)=some (lo,n):=by unfold cutP;rw[if_pos (by omega),Int.toNat_natCast,show((lo+n:Nat):Int)-(lo:Int)=(n:Int)from by omega,Int.toNat_natCast]
theorem Vec.cutW{h:AH}{s:Sl}{i:Nat}{xs:List Nat}(v:Vec h s i xs){n:Nat}(z:xs.length=n){lo y:Int}{p:Nat×Nat}(q:cutP n lo y=some p):∃s',cutSl s lo y 1=some s'/\Win s' i p.1 p.2:=by
 subst z;obtain⟨rfl,rfl,h1,h2⟩:=kry q;rw[v.is];unfold cutSl;dsimp only;rw[show(decide (0<=(p.1:Int)/\(p.1:Int)<=((p.1+p.2:Nat):Int)/\((p.1+p.2:Nat):Int)<=(xs.length:Int)))=true from by rw[qby];omega,cond_true];refine⟨_,rfl,?_,?_,?_⟩
 ·simp only[Int.toNat_natCast];rw[if_neg (by omega)];simp
 ·simp only[Int.toNat_natCast];omega
 ·show((p.1+p.2:Nat):Int).toNat-(p.1:Int).toNat<=xs.length-(p.1:Int).toNat;simp only[Int.toNat_natCast];omega
theorem Win.nats{h:AH}{s t:Sl}{i lo n:Nat}{xs:List Nat}(w:Win s i lo n)(v:Vec h t i xs)(G:lo+n<=xs.length):Nats h s ((xs.drop lo).take n):=by
 have F:((xs.drop lo).take n).length=n:=by simp;omega
 obtain⟨e,b⟩:=v.has;refine⟨⟨w.fit,by rw[w.len,qb3,F,Nat.mul_one],λk y z=>⟨_,w.ref,?_⟩⟩,λy z=>v.lt y (List.mem_of_mem_drop (List.mem_of_mem_take z)),by have:=v.short;omega⟩;rw[qj,b.cell];rw[List.getElem?_map]at z|-;rw[List.getElem?_take]at z;split at z
 ·rwa[List.getElem?_drop]at z
 ·cases z
def setW(xs:List Nat)(lo n:Nat)(ys:List Nat):Option (List Nat):=if lo+n<=xs.length/\ys.length=n then some (xs.take lo++ys++xs.drop (lo+n))else none
theorem kya{xs ys zs:List Nat}{lo n:Nat}(q:setW xs lo n ys=some zs):zs.length=xs.length:=by
 unfold setW at q;split at q
 ·cases q;simp;omega
 ·cases q
theorem Vec.copyW{h:AH}{s d t:Sl}{i lo n:Nat}{xs ys zs:List Nat}(v:Vec h t i xs)(w:Win d i lo n)(m:Nats h s ys)(q:setW xs lo n ys=some zs):∃h',copyH s d 1 h=some h'/\Vec h' t i zs/\Upd h h' i:=by
 have H:=kya q;unfold setW at q;split at q
 ·rename_i F;cases q;have G:=m.cells.gets;rw[m.len]at G;obtain⟨e,b⟩:=v.has;unfold copyH;rw[w.ref,m.len,w.len,F.2,Nat.min_self];cases hs:s.ref with
  | none =>
   have:ys=[]:=by
    cases ys with
    | nil=>rfl
    | cons y ys =>obtain⟨r,e,_⟩:=m.cells.get 0 _ rfl;rw[hs]at e;cases e
   subst this;have:n=0:=F.2.symm;subst this;exact⟨h,rfl,by simpa using v,(qk h).toUpd i⟩
  | some r =>
   rw[hs,F.2]at G;simp only[AH.getsO]at G;dsimp only;rw[G,qbv,b.puts (by simp;omega)]
   have I:(xs.map u64).take lo++ys.map u64++(xs.map u64).drop (lo+(ys.map u64).length)=(xs.take lo++ys++xs.drop (lo+n)).map u64:=by simp[List.map_take,List.map_drop,F.2]
   rw[I];refine⟨_,rfl,⟨?_,⟨e,qo b _ _⟩,?_,?_⟩,AH.upd_Upd h i _ e⟩
   ·rw[H];exact v.is
   ·intro z h1;rcases qb7.1 h1 with h1 | h1
    ·rcases qb7.1 h1 with h1 | h1
     ·exact v.lt z (List.mem_of_mem_take h1)
     ·exact m.lt z h1
    ·exact v.lt z (List.mem_of_mem_drop h1)
   ·rw[H];exact v.short
 ·cases q
def Av(s:Sl)(i:Nat)(xs:List Nat):Prop:=xs=[]\/∀o,s.ref≠some (.new i o)
theorem Av.of_base{h0:AH}{s:Sl}{xs:List Nat}(n:Nats h0 s xs){i:Nat}(I:h0.blks.size<=i):Av s i xs:=by
 by_cases y:xs=[]
 ·exact .inl y
 ·right
  intro o F;have G:0<xs.length:=by cases xs;exact absurd rfl y;simp
  obtain⟨r,z,H⟩:=n.cells.get 0 _ (by rw[List.getElem?_map,qb6 G];rfl);rw[F]at z;cases z;have:=AH.cell_inn H;simp only[qj,Ref.inn]at this;omega
abbrev qbh:=@Av.of_base
theorem Av.of_own{h1:AH}{s:Sl}{xs:List Nat}(o:Own h1 s){i:Nat}(y:i<h1.blks.size):Av s i xs:=.inr λk hk=>by obtain⟨j,z,e,F⟩:=o _ hk;cases e;omega
abbrev qbi:=@Av.of_own
theorem Av.of_in{s:Sl}{j:Nat}{xs:List Nat}(b:InB s j){i:Nat}(y:j≠i):Av s i xs:=.inr λk hk=>by obtain⟨o,e⟩:=b _ hk;cases e;exact y rfl
theorem Av.nil(s:Sl)(i:Nat):Av s i []:=.inl rfl
theorem Nats.upda{h1 h2:AH}{s:Sl}{xs:List Nat}(c:Nats h1 s xs){i:Nat}(av:Av s i xs)(u:Upd h1 h2 i):Nats h2 s xs :=
 ⟨⟨c.cells.fit,c.cells.len,λk v hv=>by
  obtain⟨r,z,F⟩:=c.cells.get k v hv;refine⟨r,z,u.cell F λG y=>?_⟩;rcases av with rfl | av
  ·simp at hv
  ·cases r with
   | old a=>cases y
   | new j o =>simp only[qj,Ref.new.injEq]at y;exact av o (by rw[z,y.1])⟩,c.lt,c.short⟩
end Go.Ab
namespace Go.Ab
theorem kd8{h h':AH}{i:Nat}{cs:List AV}{e:TypeId}(b:h.has i cs e)(b':h'.has i cs e)(o n:Nat):SameAt h h' (.new i o) n:=⟨λj _=>by rw[qj,b.cell,b'.cell],λ_=>b'.trans b.symm⟩
section
variable{P:AV->AH->Prop}{K:AV×AH->Option (AV×AH)}
theorem Runs.retB{v:AV}{h:AH}(H:Runs (K (v,h)) P):Runs ((some (v,h)).bind K) P:=H
theorem Runs.stepB{A:Type}{o:Option A}{a:A}{f:A->Option (AV×AH)}(e:o=some a)(H:Runs ((f a).bind K) P):Runs ((o.bind f).bind K) P:=by subst e;exact H
abbrev qbj:=@Runs.stepB
theorem Runs.newB{h:AH}{cs:List AV}{e:TypeId}{f:Ref->AH->Option (AV×AH)}(H:∀h',h'.has h.blks.size cs e->Grow h h'->Runs ((f (.new h.blks.size 0) h').bind K) P):Runs ((newK h (.cells cs e) f).bind K) P:=H _ (qm h cs e) (ql h _)
theorem Runs.putsB{h:AH}{i:Nat}{cs vs:List AV}{e:TypeId}{f:AH->Option (AV×AH)}(b:h.has i cs e)(y:vs.length=cs.length)(H:∀h',h'.has i vs e->Upd h h' i->Runs ((f h').bind K) P):Runs (((h.puts (.new i 0) vs).bind f).bind K) P:=by rw[b.puts_all y];exact H _ (qo b vs e) (AH.upd_Upd h i vs e)
theorem Runs.ifTB{c:Bool}{a b:Option (AV×AH)}(e:c=true)(H:Runs (a.bind K) P):Runs ((_root_.cond c a b).bind K) P:=by subst e;exact H
theorem Runs.whenB{p:Prop}{x:Option (AV×AH)}(hp:p)(H:Runs (x.bind K) P):Runs ((whenK p x).bind K) P:=by rw[kwz hp];exact H
end
end Go.Ab
namespace Go.Num
def num(b:Nat):List Nat->Nat
 | []=>0
 | x::xs=>x+b*num b xs
def digs(b n:Nat):List Nat:=if h:b<=1\/n=0 then []else n%b::digs b (n/b)
termination_by n
decreasing_by
 have:n≠0:=λe=>h (.inr e);have:1<b:=by omega
 exact Nat.div_lt_self (by omega) this
theorem kbo(b:Nat):digs b 0=[]:=by rw[digs];simp
theorem kew{b n:Nat}(hb:2<=b)(y:n≠0):digs b n=n%b::digs b (n/b):=by rw[digs,dif_neg (by omega)]
theorem kg{b:Nat}(hb:2<=b)(n:Nat):num b (digs b n)=n:=by
 induction n using Nat.strongRecOn with
 | ind n ih =>
  by_cases y:n=0
  ·subst y;simp[kbo,num]
  ·rw[kew hb y,num,ih _ (Nat.div_lt_self (by omega) hb),Nat.mod_add_div]
theorem kbr{b:Nat}(hb:2<=b)(n:Nat):∀x∈digs b n,x<b:=by
 induction n using Nat.strongRecOn with
 | ind n ih =>
  by_cases z:n=0
  ·subst z;simp[kbo]
  ·rw[kew hb z];intro x y;rcases List.mem_cons.1 y with rfl | y
   ·exact Nat.mod_lt _ (by omega)
   ·exact ih _ (Nat.div_lt_self (by omega) hb) x y
theorem kcj(b:Nat)(xs ys:List Nat):num b (xs++ys)=num b xs+b^xs.length*num b ys:=by
 induction xs with
 | nil=>simp[num]
 | cons x xs ih =>simp only[List.cons_append,num,ih,List.length_cons,Nat.pow_succ,Nat.mul_add];rw[Nat.mul_comm (b^xs.length) b,Nat.mul_assoc];omega
theorem num_lt{b:Nat}(hb:1<=b):∀{xs:List Nat},(∀x∈xs,x<b)->num b xs<b^xs.length
 | [],_=>by simp[num]
 | x::xs,h=>by
  have h1:=h x (by simp);have h2:=num_lt hb (xs:=xs) λy z=>h y (by simp[z]);simp only[num,List.length_cons,Nat.pow_succ]
  calc x+b*num b xs<b+b*num b xs:=by omega
   _=b*(num b xs+1):=by rw[Nat.mul_add,Nat.mul_one,Nat.add_comm]
   _<=b*b^xs.length:=Nat.mul_le_mul_left _ h2
   _=b^xs.length*b:=Nat.mul_comm _ _
def Trim(xs:List Nat):Prop:=∀h:xs≠[],xs.getLast h≠0
theorem Trim.tail{x:Nat}{xs:List Nat}(h:Trim (x::xs)):Trim xs:=λy=>by have:=h (by simp);rwa[List.getLast_cons y]at this
theorem kn0{b:Nat}(hb:1<=b):∀{xs:List Nat},Trim xs->num b xs=0->xs=[]
 | [],_,_=>rfl
 | x::xs,y,h=>by
  simp only[num]at h
  have h1:num b xs=0:=by
   rcases Nat.eq_zero_or_pos (num b xs)with e | e
   ·exact e
   ·have:0<b*num b xs:=Nat.mul_pos hb e;omega
  have:=kn0 hb y.tail h1;subst this;have:=y (by simp);simp at this;omega
theorem kd3{b:Nat}(hb:2<=b):∀{xs:List Nat},(∀x∈xs,x<b)->Trim xs->digs b (num b xs)=xs
 | [],_,_=>by simp[num,kbo]
 | x::xs,h,z=>by
  have F:=h x (by simp)
  have G:num b (x::xs)≠0:=λe=>by have:=kn0 (by omega) z e;cases this
  rw[kew hb G];simp only[num]
  rw[Nat.add_mul_mod_self_left,Nat.mod_eq_of_lt F,Nat.add_mul_div_left _ _ (by omega),Nat.div_eq_of_lt F,Nat.zero_add,
   kd3 hb (λy H=>h y (by simp[H])) z.tail]
theorem kej{b:Nat}(hb:2<=b)(n:Nat):Trim (digs b n):=by
 induction n using Nat.strongRecOn with
 | ind n ih =>
  by_cases z:n=0
  ·subst z;simp[kbo,Trim]
  ·rw[kew hb z];intro _;by_cases y:digs b (n/b)=[]
   ·simp only[y,List.getLast_singleton]
    have:n/b=0:=by
     rcases Nat.eq_zero_or_pos (n/b)with e | e
     ·exact e
     ·rw[kew hb (by omega)]at y;cases y
    have:=Nat.mod_add_div n b;rw[‹n/b=0›]at this;omega
   ·rw[List.getLast_cons y];exact ih _ (Nat.div_lt_self (by omega) hb) y
theorem kbc{b:Nat}(hb:2<=b)(n k:Nat):(digs b n).length<=k↔n<b^k:=by
 induction k generalizing n with
 | zero =>
  simp only[Nat.pow_zero,Nat.le_zero_eq];by_cases y:n=0
  ·subst y;simp[kbo]
  ·rw[kew hb y];simp;omega
 | succ k ih =>
  by_cases y:n=0
  ·subst y;simp only[kbo,List.length_nil,Nat.zero_le,true_iff];exact Nat.pow_pos (by omega)
  ·rw[kew hb y,List.length_cons,Nat.add_le_add_iff_right,ih,Nat.pow_succ,Nat.div_lt_iff_lt_mul (by omega)]
theorem kek{b:Nat}(hb:2<=b){n:Nat}:digs b n=[]↔n=0:=by
 constructor
 ·intro h;have:=kg hb n;rw[h]at this
  simpa[num]using this.symm
 ·rintro rfl;exact kbo b
theorem kfq(b:Nat)(xs:List Nat)(k:Nat):num b (xs++List.replicate k 0)=num b xs:=by
 rw[kcj]
 have:num b (List.replicate k 0)=0:=by
  induction k with
  | zero=>rfl
  | succ k ih=>simp[List.replicate_succ,num,ih]
 rw[this];omega
theorem kbf1{b:Nat}{xs:List Nat}{n:Nat}(h:∀i,n<=i->(z:i<xs.length)->xs[i]=0):num b (xs.take n)=num b xs:=by
 have e:xs=xs.take n++xs.drop n:=(List.take_append_drop n xs).symm
 have y:xs.drop n=List.replicate (xs.length-n) 0:=by
  apply List.ext_getElem
  ·simp
  ·intro i h1 h2;simp only[List.getElem_drop,List.getElem_replicate];exact h _ (by omega) _
 conv=>rhs;rw[e,y]
 rw[kfq]
theorem kkp{b:Nat}(hb:2<=b){xs:List Nat}{n:Nat}(F:∀x∈xs,x<b)(h:∀i,n<=i->(H:i<xs.length)->xs[i]=0)(I:n<=xs.length)(G:n=0\/∃h:n-1<xs.length,xs[n-1]≠0) :
  xs.take n=digs b (num b xs):=by
 rw[<- kbf1 h];symm;refine kd3 hb (λx z=>F x (List.mem_of_mem_take z)) λy=>?_;rcases G with rfl | ⟨h1,h2⟩
 ·simp at y
 ·have:(xs.take n).getLast y=xs[n-1]:=by
   rw[List.getLast_eq_getElem];simp only[List.getElem_take,List.length_take];congr 1;omega
  rw[this];exact h2
theorem kti{b:Nat}(hb:2<=b){xs ys:List Nat}(y:∀x∈xs,x<b)(z:∀x∈ys,x<b)(ty:Trim ys)(h:xs.length<ys.length):num b xs<num b ys:=by
 rw[<- kd3 hb z ty]at h;rcases Nat.lt_or_ge (num b xs) (num b ys)with h1 | h1
 ·exact h1
 ·exfalso;have h2:=num_lt (b:=b) (by omega) y;have F:=(kbc hb (num b ys) xs.length).2 (by omega);omega
def cmp(a b:Nat):Int:=if a<b then -1 else if a=b then 0 else 1
theorem kc0(b:Nat){xs:List Nat}{k:Nat}(h:k<xs.length):num b (xs.take (k+1))=num b (xs.take k)+b^k*xs[k]:=by rw[List.take_succ_eq_append_getElem h,kcj];simp[num,Nat.min_eq_left (Nat.le_of_lt h)]
theorem kbau{b p q x y k:Nat}(hp:p<b^k)(hq:q<b^k):cmp (p+b^k*x) (q+b^k*y)=if x<y then -1 else if x=y then cmp p q else 1:=by
 have key:∀{p q x y:Nat},p<b^k->x<y->p+b^k*x<q+b^k*y:=by intro p q x y hp z;have:b^k*(x+1)<=b^k*y:=Nat.mul_le_mul_left _ z;rw[Nat.mul_add,Nat.mul_one]at this;omega
 unfold cmp;rcases Nat.lt_trichotomy x y with h | h | h
 ·have:=key (q:=q) hp h;simp[h,this]
 ·subst h;simp
 ·have:=key (q:=p) hq h;rw[if_neg (by omega),if_neg (by omega),if_neg (by omega),if_neg (by omega)]
theorem ktk{b:Nat}(hb:2<=b)(m n:Nat):(digs b (m+n)).length<=max (digs b m).length (digs b n).length+1:=by rw[kbc hb];have h1:=(kbc hb m _).1 (Nat.le_max_left (digs b m).length (digs b n).length);have h2:=(kbc hb n _).1 (Nat.le_max_right (digs b m).length (digs b n).length);generalize max (digs b m).length (digs b n).length=k at h1 h2|-;rw[Nat.pow_succ];have:b^k*2<=b^k*b:=Nat.mul_le_mul_left _ hb;omega
theorem k8e{b c:Nat}{f:Nat->List Nat}{k:Nat}(F:c=b^k){xs:List Nat}(z:∀x∈xs,(f x).length=k/\num b (f x)=x):num b (xs.flatMap f)=num c xs:=by
 induction xs with
 | nil=>rfl
 | cons x xs ih =>obtain⟨h1,h2⟩:=z x (by simp);rw[List.flatMap_cons,kcj,h1,h2,ih λy G=>z y (by simp[G]),<- F];rfl
def dig4(x:Nat):List Nat:=[x%65536,x/65536%65536,x/65536/65536%65536,x/65536/65536/65536%65536]
theorem kbb6{x:Nat}(h:x<18446744073709551616):(dig4 x).length=4/\num 65536 (dig4 x)=x:=by refine⟨rfl,?_⟩;simp only[dig4,num];omega
theorem kk8{b:Nat}:∀{xs:List Nat}{j:Nat}(h:j<xs.length)(w:Nat),num b (xs.set j w)+b^j*xs[j]=num b xs+b^j*w
 | x::xs,0,h,w=>by simp only[List.set_cons_zero,num,List.getElem_cons_zero,Nat.pow_zero,Nat.one_mul];omega
 | x::xs,j+1,h,w=>by
  have h':j<xs.length:=by simpa using h
  have ih:=kk8 (b:=b) (xs:=xs) (j:=j) h' w;simp only[List.set_cons_succ,num,List.getElem_cons_succ];have y:b^(j+1)*xs[j]=b*(b^j*xs[j]):=by rw[Nat.pow_succ,Nat.mul_comm (b^j) b,Nat.mul_assoc]
  have z:b^(j+1)*w=b*(b^j*w):=by rw[Nat.pow_succ,Nat.mul_comm (b^j) b,Nat.mul_assoc]
  rw[y,z];have F:=congrArg (b * ·) ih;simp only[Nat.mul_add]at F;omega
theorem k1q{b P n z o l c y t T:Nat}(h1:z+P*o=n+P*l)(h2:t+o+c=y*b+l)(H:n+c*P=T):z+y*(P*b)=T+P*t:=by
 have e:=congrArg (P * ·) h2;simp only[Nat.mul_add]at e;have F:P*(y*b)=y*(P*b):=by rw[Nat.mul_left_comm]
 have G:P*c=c*P:=Nat.mul_comm _ _;rw[F,G]at e;omega
def Row(b:Nat)(o:List Nat)(i k c x:Nat)(ys:List Nat)(T:Nat):Prop:=num b o+c*b^(i+k)=T+b^i*(x*num b (ys.take k))
theorem Row.start{b:Nat}{o:List Nat}{i x:Nat}{ys:List Nat}{T:Nat}(h:num b o=T):Row b o i 0 0 x ys T:=by unfold Row;simp[num,h]
theorem Row.step{b:Nat}{o:List Nat}{i k c x:Nat}{ys:List Nat}{T y l:Nat}(r:Row b o i k c x ys T)(hk:k<ys.length)(z:i+k<o.length)(e:x*ys[k]+o[i+k]+c=y*b+l):Row b (o.set (i+k) l) i (k+1) y x ys T:=by unfold Row at r|-;have h1:=kk8 (b:=b) z l;have:=k1q h1 e r;rw[show i+(k+1)=i+k+1 from rfl,Nat.pow_succ,this,kc0 b hk,Nat.mul_add,Nat.mul_add,Nat.pow_add];rw[Nat.mul_assoc (b^i) (b^k),Nat.mul_left_comm (b^k) x];omega
theorem Row.stop{b:Nat}{o:List Nat}{i c x:Nat}{ys:List Nat}{T:Nat}(r:Row b o i ys.length c x ys T)(y:i+ys.length<o.length)(h0:o[i+ys.length]=0):num b (o.set (i+ys.length) c)=T+b^i*(x*num b ys):=by unfold Row at r;have h1:=kk8 (b:=b) y c;rw[h0,Nat.mul_zero,Nat.add_zero]at h1;rw[h1,Nat.mul_comm,r,List.take_length]
theorem k1s{b:Nat}{xs ys:List Nat}{i T:Nat}(y:i<xs.length)(h:T=num b (xs.take i)*num b ys):T+b^i*(xs[i]*num b ys)=num b (xs.take (i+1))*num b ys:=by rw[kc0 b y,Nat.add_mul,h,Nat.mul_assoc]
theorem kwf{b x y o c:Nat}(z:x<b)(F:y<b)(G:o<b)(H:c<b):(x*y+o+c)/b<b:=by
 have hb:0<b:=by omega
 rw[Nat.div_lt_iff_lt_mul hb];have h1:x*y<=(b-1)*(b-1):=Nat.mul_le_mul (by omega) (by omega);obtain⟨a,rfl⟩:∃a,b=a+1:=⟨b-1,by omega⟩;simp only[Nat.add_sub_cancel]at h1;have:(a+1)*(a+1)=a*a+2*a+1:=by rw[Nat.add_mul,Nat.mul_add];omega
 omega
end Go.Num
namespace Go.Num
section
variable{b v1 v0 u32 u1 q r v w:Nat}
theorem kn_lt(y:u32<v)(z:u1<b)(F:w=u32*b+u1):w<v*b:=by have:(u32+1)*b<=v*b:=Nat.mul_le_mul_right _ y;rw[Nat.add_mul,Nat.one_mul]at this;omega
theorem kn_mul(hv:v=v1*b+v0):q*v=q*v1*b+q*v0:=by rw[hv,Nat.mul_add,Nat.mul_assoc]
theorem kn_hi(hv:v=v1*b+v0)(H:u32<v)(z:u1<b)(G:w=u32*b+u1)(e:q*v1+r=u32)(F:w/v<=q)(t:b<=q\/b*r+u1<q*v0):w/v<=q-1/\1<=q:=by
 have y:0<v:=by omega
 have I:=kn_lt H z G
 have h1:w/v<q:=by
  rcases t with t | t
  ·have:w/v<b:=(Nat.div_lt_iff_lt_mul y).2 (by rw[Nat.mul_comm];exact I);omega
  ·rw[Nat.div_lt_iff_lt_mul y,kn_mul hv,G,<- e,Nat.add_mul,Nat.mul_comm r b];omega
 clear F;generalize w/v=k at *
 omega
theorem kn_lo(hv:v=v1*b+v0)(G:u32<v)(F:w=u32*b+u1)(e:q*v1+r=u32)(y:w/v<=q)(t:q*v0<=b*r+u1):w/v=q:=by
 have z:0<v:=by omega
 refine Nat.le_antisymm y ?_;rw[Nat.le_div_iff_mul_le z,kn_mul hv,F,<- e,Nat.add_mul,Nat.mul_comm r b];omega
theorem kn_out(hv:v=v1*b+v0)(y:v0<b)(F:u32<v)(e:q*v1+r=u32)(z:b<=r):q*v0<=b*r+u1:=by
 have h1:q*v1<b*v1:=by rw[Nat.mul_comm b v1];omega
 have h2:q<b:=Nat.lt_of_mul_lt_mul_right h1;have G:q*v0<=b*b:=Nat.mul_le_mul (by omega) (by omega);have H:b*b<=b*r:=Nat.mul_le_mul_left _ z;omega
theorem k2k(y:0<v1)(hv:v=v1*b+v0)(H:u32<v)(F:u1<b)(z:w=u32*b+u1)(hb:0<b):w/v<=u32/v1:=by
 have G:0<v:=by omega
 rw[Nat.le_div_iff_mul_le y];have h1:w/v*v<=w:=Nat.div_mul_le_self w v;rw[kn_mul hv,z]at h1
 have h2:w/v*v1*b<(u32+1)*b:=by rw[Nat.add_mul,Nat.one_mul];rw[z];omega
 have:=Nat.lt_of_mul_lt_mul_right h2;omega
end
theorem kbnm{b v w x:Nat}(hv:0<v)(y:x<b):(w*b+x)/v=w/v*b+(w%v*b+x)/v/\(w*b+x)%v=(w%v*b+x)%v:=by
 have e:w*b+x=v*(w/v*b)+(w%v*b+x):=by
  have:=Nat.div_add_mod w v;have h:(v*(w/v)+w%v)*b=w*b:=by rw[this]
  rw[Nat.add_mul,Nat.mul_assoc]at h;omega
 constructor
 ·rw[e,Nat.mul_add_div hv]
 ·rw[e,Nat.mul_add_mod]
end Go.Num
