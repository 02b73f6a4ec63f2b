/- Words and laws that the last text joins. -/
import Derived.Test.YtndomkpijjibiaaGreatDoorPAbsA
import Derived.MapKept
import Derived.WideKeyRuns
import Derived.Maps.RangeRun
import Derived.AtR
set_option linter.unusedVariables false
set_option linter.unusedSimpArgs false
set_option linter.unusedSectionVars false
namespace Go.Ab
variable{P:Program}{O:World}{R:Type}
theorem kw2(need:Nat):∀(rounds c:Nat),c≤need+(need+768)/4→Builtin.growBy need rounds c≤need+(need+768)/4
 | 0,c,h=>h
 | n+1,c,h=>by
  unfold Builtin.growBy;split
  ·exact h
  ·exact kw2 need n _ (by omega)
theorem kbch{need old:Nat}(h:old<need):Builtin.nextslicecap need old≤2*need:=by
 unfold Builtin.nextslicecap;split
 ·omega
 ·split
  ·omega
  ·have:=kw2 need 4 old (by omega);omega
theorem kj3{μ:Mu}{h:AH}{w:World}(S:Sim P O μ h w){r:Option Ref}{n m size:Nat}{c:Cap}{u:Value}(hv:VRel μ (.slice r n c) u)(hm:m≤n){cs:List AV}
  (hg:h.getsO r (m*size)=some cs) :
  ∃us:List Value,us.length=m*size∧(Builtin.firstCells size m u).run P w=.ok us.toArray w∧VRels μ cs us∧cs.all AV.one=true:=by
 cases r with
 | none =>
  simp only[VRel]at hv;obtain⟨rfl,_,rfl⟩:=hv;simp[AH.getsO]at hg;subst hg;have:m=0:=by omega
  subst this;exact⟨[],by simp,by simp[Builtin.firstCells],VRels.nil,rfl⟩
 | some r =>
  simp only[VRel]at hv;obtain⟨a,c',rfl,hcr,hcap⟩:=hv;have hle:n≤c':=by cases c<;>exact hcap.1
  simp only[AH.getsO]at hg;rcases hcr with h0 | hr
  ·have:m=0:=by omega
   subst this;simp only[Nat.zero_mul,AH.gets,Option.some.injEq]at hg;subst hg;exact⟨[],by simp,by simp[Builtin.firstCells,loadCells,loadCellsFrom],VRels.nil,rfl⟩
  ·obtain⟨us,k1,k2,k3,k4⟩:=kne S _ hr hg;exact⟨us,k1,run_firstCells_some w size m a n c' us k1 k2,k3,k4⟩
theorem k5k(zero:Array Value)(n:Nat):(Builtin.zeroCells zero n).size=n*zero.size:=by simp[Builtin.zeroCells]
theorem Sim.drew{μ:Mu}{h:AH}{w:World}(S:Sim P O μ h w):Sim P O μ h w.drew :=
 {old:=S.old,os:=S.os,tape:=S.tape,output:=S.output,base:=S.base,keep:=S.keep,dom:=S.dom,place:=S.place,blk:=fun i L b hL hb=>(S.blk i L b hL hb).step (Mu.le_refl μ) (fun _=>rfl),inj:=S.inj}
theorem kz5(need old:Nat)(elem:TypeId)(t:Nat):need≤Question.cut (.appendCap need old elem) t:=by
 simp[Question.cut]
theorem k7k{μ:Mu}{ts:Array TypeId}{ty t t' e f:TypeId}{w:World}{base:Option Addr}{n c m size:Nat}{ux:Value}{olds news:List Value}
  (h0:ts[0]?=some t) (h1:ts[1]?=some t') (hd:P.underlying t=some (.slice e)) (hd':P.underlying t'=some (.slice f)) (hs:P.cellsOf e=size)
  (hn:(Builtin.lenOf ux).run P w=.ok m w) (hlt:c<n+m) (hok:growOk P (n+m) e size=true)
  (ho:(Builtin.firstCells size n (.slice base n c)).run P w.drew=.ok olds.toArray w.drew) (hnw:(Builtin.firstCells size m ux).run P w.drew=.ok news.toArray w.drew) :
  ∃(cap:Nat)(rest:List Value),n+m≤cap∧rest.length=(cap-(n+m))*size∧
   (Builtin.append_ ts ty #[.slice base n c,ux]).run P w=.ok (.slice (some ⟨w.heap.size,0,none⟩) (n+m) cap) (w.drew.alloc (.cells ((olds++news)++rest).toArray e)):=by
 unfold growOk at hok;simp only[Bool.and_eq_true,decide_eq_true_eq]at hok;obtain⟨⟨hb1,hb2⟩,hz⟩:=hok;split at hz
 ·rename_i zs hzs;have hz:=Nat.eq_of_beq_eq_true hz;obtain⟨z,ti,hti,hz0,hzv,_⟩:=kgh (μ:=μ) hzs;have hzz:z.cells.size=size:=by have:=hzv.length;simp at this;omega
  have hby:P.bytesOf e=ti.bytes:=by simp[Program.bytesOf,hti]
  have hsz:P.cellsOf e=ti.size:=by simp[Program.cellsOf,hti]
  have hm:kg=70368744177664:=rfl;rw[hm,hby]at hb1;rw[hm]at hb2;have hns:=kbch hlt
  have hcap:¬(281474976710656<Builtin.nextslicecap (n+m) c*ti.bytes):=by
   have:Builtin.nextslicecap (n+m) c*ti.bytes≤2*(n+m)*ti.bytes:=Nat.mul_le_mul_right _ hns;rw[Nat.mul_assoc]at this;omega
  have hmax:¬((n:Int)+(m:Int)>IntKind.i64.max):=by
   have:IntKind.i64.max=9223372036854775807:=rfl;rw[this];omega
  refine⟨Question.cut (.appendCap (n+m) c e) (w.tape w.drawn (.appendCap (n+m) c e)),(Builtin.zeroCells z.cells (Question.cut (.appendCap (n+m) c e) (w.tape w.drawn (.appendCap (n+m) c e))-(n+m))).toList,kz5 _ _ _ _,by simp[k5k,hzz],?_⟩;have hroom:¬(n+m≤c):=by omega
  have hforced:(Question.appendCap (n+m) c e).forced=false:=rfl;rw[← hs,hsz]at ho hnw;have hroom':c<n+m:=hlt;simp[Builtin.append_,h0,h1,run_underlying hd,run_underlying hd',sizeOf,typeInfo,hti,hn,hroom',hroom,hmax,hcap,ho,hnw,zeroValue,hz0,newRow,hforced];rw[if_neg (by omega)];congr 3;apply Array.ext';simp
 ·cases hz
theorem kbee{μ:Mu}{h:AH}{w:World}(S:Sim P O μ h w)(i o:Nat):Sim P O μ (h.kill (some (.new i o))) w∧Ext μ h w μ (h.kill (some (.new i o))):=by
 have hlive:∀j,Live (h.kill (some (.new i o))) j→Live h j∧(j=i→h.blks.size≤i):=fun j hj=>by
  by_cases hji:i=j
  ·subst hji;rcases Nat.lt_or_ge i h.blks.size with hlt | hge
   ·exact absurd rfl (hj .dead (by simp[AH.kill,hlt]))
   ·exact⟨fun b hb=>by simp[Array.getElem?_eq_none hge]at hb,fun _=>hge⟩
  ·exact⟨fun b hb=>hj b (by simp only[AH.kill];rw[Array.getElem?_setIfInBounds_ne hji];exact hb),fun e=>absurd e.symm hji⟩
 refine⟨{old:=S.old,os:=S.os,tape:=S.tape,output:=S.output,base:=S.base,keep:=S.keep,dom:=fun j L hL=>by simpa[AH.kill]using S.dom j L hL,place:=S.place,blk:=fun j L b hL hb=>?_,inj:=fun j k L M hL hM lj lk he=>S.inj j k L M hL hM (hlive j lj).1 (hlive k lk).1 he},?_⟩
 ·by_cases hji:i=j
  ·subst hji;have:=S.dom i L hL;simp[AH.kill,this]at hb;subst hb;trivial
  ·simp only[AH.kill]at hb;rw[Array.getElem?_setIfInBounds_ne hji]at hb;exact S.blk j L b hL hb
 ·exact⟨by simp[AH.kill],Mu.le_refl μ,fun _ _=>rfl,fun j _ hj=>(hlive j hj).1,fun j M h1 h2=>by simp[AH.kill]at h2;omega⟩
theorem k30{μ:Mu}{h:AH}{w w':World}(S:Sim P O μ h w){i o:Nat}{L:Loc}(hL:μ i=some L){bs:List AV}{e:TypeId}(hb:h.blks[i]?=some (.cells bs e)){c':Array Value}{cs:List AV}
  (hnew:w'.heap[L.block]?=some (.cells c' e (0,0))) (hsz:c'.size=L.base+L.total) (ho:o≤L.total) (hle:cs.length≤L.total-o) (hcs:∀(j:Nat)(v:AV),cs[j]?=some v→∃u,c'[L.base+o+j]?=some u∧VRel μ v u) (h1:cs.all AV.one=true)
  (hoth:∀b,b≠L.block→w'.heap[b]?=w.heap[b]?) (hsize:w'.heap.size=w.heap.size) (hos:w'.os=w.os) (htape:w'.tape=w.tape) (hout:w'.output=w.output) :
  Sim P O (Mu.set μ h.blks.size ⟨L.block,L.base+o,L.total-o⟩) ((h.kill (some (.new i o))).alloc (.cells cs e)) w'∧
  Ext μ h w (Mu.set μ h.blks.size ⟨L.block,L.base+o,L.total-o⟩) ((h.kill (some (.new i o))).alloc (.cells cs e))∧Frm μ h w w':=by
 have hi:i<h.blks.size:=S.dom i L hL
 have hf:μ h.blks.size=none:=by
  cases hq:μ h.blks.size with
  | none=>rfl
  | some L=>have:=S.dom _ _ hq;omega
 have hmle:=Mu.le_set (L:=⟨L.block,L.base+o,L.total-o⟩) hf;have hks:(h.kill (some (.new i o))).blks.size=h.blks.size:=by simp[AH.kill]
 have hpl:=S.place i L hL
 have hget:∀j b,((h.kill (some (.new i o))).alloc (.cells cs e)).blks[j]?=some b→(j=h.blks.size∧b=.cells cs e)∨(j≠h.blks.size∧j=i∧b=.dead)∨(j≠h.blks.size∧j≠i∧h.blks[j]?=some b):=fun j b hjb=>by
  simp only[Array.getElem?_push,hks]at hjb;by_cases hj:j=h.blks.size
  ·simp[hj]at hjb;exact .inl ⟨hj,hjb.symm⟩
  ·rw[if_neg hj]at hjb;by_cases hji:i=j
   ·subst hji;simp[AH.kill,hi]at hjb;exact .inr (.inl ⟨hj,rfl,hjb.symm⟩)
   ·simp only[AH.kill]at hjb;rw[Array.getElem?_setIfInBounds_ne hji]at hjb;exact .inr (.inr ⟨hj,fun e=>hji e.symm,hjb⟩)
 have hlive:∀j,j≠h.blks.size→Live ((h.kill (some (.new i o))).alloc (.cells cs e)) j→Live h j∧j≠i:=fun j hj hl=>by
  have hne:j≠i:=fun he=>by
   subst he;exact absurd rfl (hl .dead (by simp only[Array.getElem?_push,hks,if_neg hj];simp[AH.kill,hi]))
  refine⟨fun b hb'=>hl b ?_,hne⟩;simp only[Array.getElem?_push,hks,if_neg hj];simp only[AH.kill];rw[Array.getElem?_setIfInBounds_ne (fun e=>hne e.symm)];exact hb'
 refine⟨{old:=S.old,os:=hos.trans S.os,tape:=htape.trans S.tape,output:=hout.trans S.output,base:=by rw[hsize];exact S.base,keep:=fun b hb'=>?_,dom:=fun j M hM=>?_,place:=fun j M hM=>?_,blk:=fun j M b hM hb'=>?_,inj:=fun j k M N hM hN lj lk he=>?_},?_,?_⟩
 ·rw[hoth b (by omega)];exact S.keep b hb'
 ·unfold Mu.set at hM;split at hM
  ·subst_vars;simp[hks]
  ·have:=S.dom j M hM;simp[hks];omega
 ·unfold Mu.set at hM;split at hM
  ·cases hM;rw[hsize];exact hpl
  ·rw[hsize];exact S.place j M hM
 ·rcases hget j b hb' with⟨hj,rfl⟩ | ⟨hj,_,rfl⟩ | ⟨hj,hji,hb2⟩
  ·subst hj;rw[kdc]at hM;cases hM;exact⟨⟨c',hnew,by rw[hsz];simp only[];omega,hle,fun k v hk=>let ⟨u,a,b⟩:=hcs k v hk;⟨u,a,b.mono hmle⟩⟩,h1⟩
  ·trivial
  ·unfold Mu.set at hM;rw[if_neg hj]at hM;refine(S.blk j M b hM hb2).step hmle fun hd=>hoth _ fun he=>hji (S.inj j i M L hM hL (fun b' hb3=>by rw[hb2]at hb3;cases hb3;exact hd) (kdk hb) he)
 ·unfold Mu.set at hM hN;split at hM<;>split at hN
  ·omega
  ·rename_i hj hk;cases hM;exact absurd (S.inj i k L N hL hN (kdk hb) (hlive k hk lk).1 he) (fun e=>(hlive k hk lk).2 e.symm)
  ·rename_i hj hk;cases hN;exact absurd (S.inj j i M L hM hL (hlive j hj lj).1 (kdk hb) he) (hlive j hj lj).2
  ·rename_i hj hk;exact S.inj j k M N hM hN (hlive j hj lj).1 (hlive k hk lk).1 he
 ·refine⟨by simp[hks],hmle,fun j hj=>by unfold Mu.set;rw[if_neg (by omega)],fun j hj hl=>(hlive j (by omega) hl).1,fun j M h2 h3 hM=>.inr ⟨i,L,hi,kdk hb,hL,?_⟩⟩;simp[hks]at h3;have:j=h.blks.size:=by omega
  subst this;rw[kdc]at hM;cases hM;rfl
 ·exact⟨by omega,fun b _ hn=>hoth b fun he=>hn i L hi (kdk hb) hL he.symm⟩
theorem kxt{h:AH}:∀{n:Nat}{r:Ref}{vs:List AV},h.gets r n=some vs→vs.length=n
 | 0,r,vs,hv=>by simp only[AH.gets,Option.some.injEq]at hv;subst hv;rfl
 | n+1,r,vs,hv=>by
  simp only[AH.gets,Option.bind_eq_some_iff,Option.map_eq_some_iff]at hv;obtain⟨v,h1,ws,h2,rfl⟩:=hv;simp[kxt h2]
theorem VRel.slice_open{μ:Mu}{r:Option Ref}{n:Nat}{c:Cap}{u:Value}(h:VRel μ (.slice r n c) u):∃base cap,u=.slice base n cap∧n≤cap:=by
 cases r with
 | none=>simp only[VRel]at h;obtain⟨rfl,_,rfl⟩:=h;exact⟨none,0,rfl,Nat.le_refl _⟩
 | some r=>simp only[VRel]at h;obtain⟨a,k,rfl,_,hc⟩:=h;exact⟨some a,k,rfl,by cases c<;>exact hc.1⟩
theorem k2p{μ:Mu}{h:AH}{w:World}(S:Sim P O μ h w){olds cs:List AV}{uo us rest:List Value}(ho:VRels μ olds uo)(h1:olds.all AV.one=true)(hn:VRels μ cs us)(h2:cs.all AV.one=true)(e:TypeId){need cap size:Nat}
  (hle:need≤cap) (hrest:rest.length=(cap-need)*size) (hl:uo.length+us.length=need*size) :
  Good P O μ h w (.slice (some h.next) need (.opn size)) (h.alloc (.cells (olds++cs) e)) (.slice (some ⟨w.heap.size,0,none⟩) need cap) (w.drew.alloc (.cells ((uo++us)++rest).toArray e)):=by
 obtain⟨g1,g2,g3⟩:=kkl (rest:=rest) S.drew (ho.append hn) (by rw[List.all_append,h1,h2];rfl) e;refine⟨_,?_,g1,g2,g3⟩;simp only[VRel];refine⟨_,cap,rfl,.inr (RRel.new 0),hle,_,0,_,rfl,kdc _ _ _,?_⟩;have:(cap-need)*size+need*size=cap*size:=by rw[← Nat.add_mul];congr 1;omega
 simp;omega
theorem k5t{μ:Mu}{h:AH}{w:World}(S:Sim P O μ h w){ts:Array TypeId}{ty t t' e f:TypeId}(h0:ts[0]?=some t)(h1:ts[1]?=some t')(hd:P.underlying t=some (.slice e))(hd':P.underlying t'=some (.slice f))
  (hie:(P.info? e).isSome=true) {r:Option Ref} {n:Nat} {c:Cap} {x:AV} {u ux:Value} (hu:VRel μ (.slice r n c) u) (hx:VRel μ x ux) {p:List AV×Nat} (hp:kbb P e x h=some p)
  {v:AV} {h':AH} (ha:kw P ⟨r,n,c⟩ p.1 p.2 e (P.cellsOf e) h=some (v,h')):Yields P (Builtin.append_ ts ty #[u,ux]) w (Good P O μ h w v h'):=by
 obtain⟨ie,hi⟩:=Option.isSome_iff_exists.1 hie;have hs:(sizeOf e).run P w=.ok (P.cellsOf e) w:=by simp[sizeOf,typeInfo,hi,Program.cellsOf]
 unfold kbb at hp;split at hp
 ·rename_i r2 m c2;simp only[Option.map_eq_some_iff]at hp;obtain⟨cs,hg,rfl⟩:=hp
  have hlen:(Builtin.lenOf ux).run P w=.ok m w:=by
   obtain⟨_,_,rfl,_⟩:=hx.slice_open;rfl
  obtain⟨news,n1,n2,n3,n4⟩:=kj3 S hx (Nat.le_refl _) hg;obtain⟨newd,d1,d2,d3,d4⟩:=kj3 S.drew hx (Nat.le_refl _) hg;obtain⟨base,cap,rfl,hle⟩:=hu.slice_open
  have grow:∀{h2:AH},Sim P O μ h2 w→cap<n+m→growOk P (n+m) e (P.cellsOf e)=true→∀{old:List AV},h.getsO r (n*P.cellsOf e)=some old→
    Yields P (Builtin.append_ ts ty #[.slice base n cap,ux]) w (Good P O μ h2 w (.slice (some h2.next) (n+m) (.opn (P.cellsOf e))) (h2.alloc (.cells (old++cs) e))):=by
   intro h2 S2 hlt hok old hold;obtain⟨olds,o1,o2,o3,o4⟩:=kj3 S.drew hu (Nat.le_refl _) hold;obtain⟨ncap,rest,k1,k2,k3⟩:=k7k (μ:=μ) (ty:=ty) h0 h1 hd hd' rfl hlen hlt hok o2 d2;exact⟨_,_,k3,k2p S2 o3 o4 d3 d4 e k1 k2 (by rw[o1,d1,Nat.add_mul])⟩
  unfold kw at ha;dsimp only at ha;split at ha
  ·rename_i c';rcases kbt ha with⟨hb,ha⟩ | ⟨hb,ha⟩
   ·
    have hb:=Nat.le_of_ble_eq_true hb;cases r with
    | none =>
     simp only[Option.some.injEq,Prod.mk.injEq]at ha;obtain⟨rfl,rfl⟩:=ha;simp only[VRel]at hu;obtain⟨rfl,h2,h3⟩:=hu;cases h2;cases h3;have:m=0:=by omega
     subst this;refine⟨_,_,?_,Good.pure S (u:=.slice none 0 0) (by simp[VRel])⟩;simp[Builtin.append_,h0,h1,run_underlying hd,run_underlying hd',hs,hlen,n2]
    | some r =>
     simp only[Option.bind_eq_some_iff,Option.some.injEq,Prod.mk.injEq]at ha;obtain⟨h2,hp2,rfl,rfl⟩:=ha;simp only[VRel]at hu;obtain⟨a,k,he,hcr,hnk,rfl⟩:=hu;cases he;rcases hcr with h00 | hrr
     ·have hm0:m=0:=by omega
      have hn0:n=0:=by omega
      subst hm0;subst hn0;subst h00;have hnil:news=[]:=List.eq_nil_of_length_eq_zero (by omega);subst hnil
      have hcs:cs=[]:=by
       have:=n3.length;exact List.eq_nil_of_length_eq_zero this.symm
      subst hcs;simp only[AH.puts,Option.some.injEq]at hp2;subst hp2;refine⟨.slice (some a) 0 0,w,?_,Good.pure S (by simp only[VRel];exact⟨a,0,rfl,.inl rfl,Nat.le_refl _,rfl⟩)⟩;simp[Builtin.append_,h0,h1,run_underlying hd,run_underlying hd',hs,hlen,n2,storeCells]
     ·obtain⟨w',e1,e2,e3,e4⟩:=km0 (i:=0) (a:=a.add (n*P.cellsOf e)) S (by rw[show(a.add (n*P.cellsOf e)).add 0=a.add (n*P.cellsOf e)from by simp[Addr.add]];exact hrr.add (n*P.cellsOf e)) n3 n4 hp2;refine⟨.slice (some a) (n+m) cap,w',?_,μ,by simp only[VRel];exact⟨a,cap,rfl,.inr hrr,hb,rfl⟩,e2,e3,e4⟩;simp[Builtin.append_,h0,h1,run_underlying hd,run_underlying hd',hs,hlen,n2,hb,e1]
   ·obtain⟨hok,ha⟩:=ki ha;simp only[Option.bind_eq_some_iff,Option.some.injEq,Prod.mk.injEq]at ha;obtain⟨old,hold,rfl,rfl⟩:=ha
    have hlt:cap<n+m:=by
     have hcap:cap=c':=by
      cases r with
      | none=>simp only[VRel]at hu;obtain⟨_,h2,h3⟩:=hu;cases h2;cases h3;rfl
      | some r=>simp only[VRel]at hu;obtain⟨a,k,he,_,_,hk⟩:=hu;cases he;exact hk
     subst hcap;rcases Nat.lt_or_ge cap (n+m)with h' | h'
     ·exact h'
     ·rw[Nat.ble_eq_true_of_le h']at hb;cases hb
    exact grow S hlt hok hold
  ·rename_i sz;rcases kbt ha with⟨hb,ha1⟩ | ⟨hb,ha1⟩
   ·have hm0:=Nat.eq_of_beq_eq_true hb;subst hm0;simp only[Option.some.injEq,Prod.mk.injEq]at ha1;obtain⟨rfl,rfl⟩:=ha1;have hnil:news=[]:=List.eq_nil_of_length_eq_zero (by omega);subst hnil;refine⟨.slice base n cap,w,?_,Good.pure S hu⟩;cases base<;>simp[Builtin.append_,h0,h1,run_underlying hd,run_underlying hd',hs,hlen,n2,storeCells,hle]
   ·obtain⟨hok1,ha2⟩:=ki ha1;simp only[Bool.and_eq_true]at hok1;obtain⟨hsz,hok⟩:=hok1;have hsz:=Nat.eq_of_beq_eq_true hsz;clear ha ha1;subst hsz;split at ha2
    ·rename_i i o;split at ha2
     ·rename_i bs e' hbs;obtain⟨hee,ha3⟩:=ki ha2;have hee':=Nat.eq_of_beq_eq_true hee;clear ha2 hee;subst hee';simp only[Option.bind_eq_some_iff,Option.some.injEq,Prod.mk.injEq]at ha3;obtain⟨old,hold,rfl,rfl⟩:=ha3;obtain⟨S2,E2⟩:=kbee S i o;have hks:(h.kill (some (.new i o))).blks.size=h.blks.size:=by simp[AH.kill]
      have hnext:(h.kill (some (.new i o))).next=h.next:=by simp[AH.next,hks]
      rcases Nat.lt_or_ge cap (n+m)with hlt | hge
      ·obtain⟨u',w',g1,ν,g2,g3,g4,g5⟩:=grow S2 hlt hok hold;rw[hnext]at g2;refine⟨u',w',g1,ν,g2,g3,E2.trans g4 (Nat.le_refl _),?_⟩;exact⟨g5.1,fun b hb' hn=>g5.2 b hb' fun j M hj hl hM=>hn j M (by rw[hks]at hj;exact hj) (E2.2.2.2.1 j (by rw[hks]at hj;exact hj) hl) hM⟩
      ·
       simp only[VRel]at hu;obtain⟨a,k,he,hcr,hnk,i',o',L,hr',hL,hfit⟩:=hu;cases he;cases hr';simp only[AH.getsO]at hold
       have hmn:0<n+m:=by
        rcases Nat.eq_zero_or_pos m with h' | h'
        ·subst h';simp at hb
        ·omega
       rcases hcr with h00 | hrr
       ·omega
       ·obtain⟨L',hL',rfl⟩:=hrr;rw[hL]at hL';cases hL';obtain⟨olds,o1,o2,o3,o4⟩:=kne S _ (r:=.new i o) ⟨L,hL,rfl⟩ hold;obtain⟨⟨cc,c1,c2,c3,c4⟩,c5⟩:=S.blk i L _ hL hbs;have hmul:(n+m)*P.cellsOf e'≤cap*P.cellsOf e':=Nat.mul_le_mul_right _ hge;rw[Nat.add_mul]at hmul
        have hst:=run_storeCells_at P L.block (L.base+o+n*P.cellsOf e') e' news 0 cc w c1 (by omega) (fun v hv=>by
         obtain⟨j,hj⟩:=List.mem_iff_getElem?.1 hv
         have hjl:j<cs.length:=by
          have:=n3.length;rcases Nat.lt_or_ge j cs.length with h' | h'
          ·exact h'
          ·rw[List.getElem?_eq_none (by omega)]at hj;cases hj
         obtain⟨u,hu,hvu⟩:=n3.get j cs[j] (by simp[hjl]);rw[hj]at hu;cases hu;exact hvu.one (List.all_eq_true.1 n4 _ (by simp)))
        have hlold:old.length=n*P.cellsOf e':=kxt hold;have hlcs:cs.length=m*P.cellsOf e':=by have:=n3.length;omega
        simp only[Nat.add_zero]at hst
        obtain⟨g1,g2,g3⟩:=k30 (o:=o) (w':=w.setRow L.block (cc.toList.take (L.base+o+n*P.cellsOf e')++news++cc.toList.drop (L.base+o+n*P.cellsOf e'+news.length)).toArray) S hL hbs
         (cs:=old++cs) (setRow_heap w _ cc _ e' (0,0) c1) (by simp;omega) (by omega) (by simp;omega) (fun j v hj=>by
          rcases Nat.lt_or_ge j old.length with hjl | hjl
          ·rw[List.getElem?_append_left hjl]at hj;obtain⟨u,hu,hvu⟩:=o3.get j v hj;have hcell:=o2 j u hu;rw[ko1]at hcell;simp only[World.cell?,c1]at hcell;refine⟨u,?_,hvu⟩;simp only[List.getElem?_toArray];rw[List.append_assoc,List.getElem?_append_left (by simp;omega),List.getElem?_take];rw[if_pos (by omega)]
           simpa using hcell
          ·rw[List.getElem?_append_right hjl]at hj;obtain⟨u,hu,hvu⟩:=n3.get _ v hj;refine⟨u,?_,hvu⟩;simp only[List.getElem?_toArray]
           have hlt:j-old.length<news.length:=by
            rcases Nat.lt_or_ge (j-old.length) news.length with h' | h'
            ·exact h'
            ·rw[List.getElem?_eq_none h']at hu;cases hu
           rw[List.append_assoc,List.getElem?_append_right (by simp;omega),List.getElem?_append_left (by simp;omega)];rw[← hu];congr 1;simp;omega) (by rw[List.all_append,o4,n4];rfl) (fun b hb'=>setRow_other w _ b _ hb') (by simp) rfl rfl rfl
        refine⟨.slice (some ⟨L.block,L.base+o,none⟩) (n+m) cap,_,?_,_,?_,g1,g2,g3⟩
        ·have hadd:(⟨L.block,L.base+o,none⟩:Addr).add (n*P.cellsOf e')=⟨L.block,L.base+o+n*P.cellsOf e',none⟩:=ko1 _ _ _;simp[Builtin.append_,h0,h1,run_underlying hd,run_underlying hd',hs,hlen,n2,hge,hadd,hst]
        ·simp only[VRel];refine⟨_,cap,rfl,.inr (RRel.new (L:=⟨L.block,L.base+o,L.total-o⟩) 0),hge,_,0,_,rfl,kdc _ _ _,?_⟩;simp only[];omega
     ·cases ha2
    ·cases ha2
 ·cases hp
end Go.Ab
namespace Go.Ab
variable{P:Program}{O:World}{R:Type}
theorem k0v{μ:Mu}{t:TypeId}{x:AV}{k:AV→Option R}{r:R}(h:lenK P t x k=some r){u:Value}(hx:VRel μ x u){ts:Array TypeId}(h0:ts[0]?=some t)(ty:TypeId)(w:World) :
  ∃z a,k z=some r∧VRel μ z a∧(Builtin.len_ ts ty #[u]).run P w=.ok a w:=by
 unfold lenK at h;split at h
 ·rename_i s hd;simp only[VRel]at hx;subst hx;exact⟨_,.int .i64 s.size,h,by simp[VRel],by simp[Builtin.len_,h0,run_underlying hd,goInt]⟩
 ·rename_i n e hd;exact⟨_,.int .i64 n,h,by simp[VRel],by simp[Builtin.len_,h0,run_underlying hd,goInt]⟩
 ·rename_i e r n c hd;obtain⟨a,cap,rfl,_⟩:=hx.slice_open;exact⟨_,.int .i64 n,h,by simp[VRel],by simp[Builtin.len_,h0,run_underlying hd,goInt]⟩
 ·cases h
theorem k7y{μ:Mu}{h:AH}{w:World}(S:Sim P O μ h w){ts:Array TypeId}{ty t e:TypeId}(h0:ts[0]?=some t)(hd:P.underlying t=some (.slice e))(hie:(P.info? e).isSome=true)
  {r r':Option Ref} {n n':Nat} {c c':Cap} {u u':Value} (hu:VRel μ (.slice r n c) u) (hu':VRel μ (.slice r' n' c') u') {h':AH} (hc:copyH ⟨r',n',c'⟩ ⟨r,n,c⟩ (P.cellsOf e) h=some h') :
  Yields P (Builtin.copy_ ts ty #[u,u']) w (Good P O μ h w (.int .i64 ((min n' n:Nat):Int)) h'):=by
 obtain⟨ie,hi⟩:=Option.isSome_iff_exists.1 hie;have hs:(sizeOf e).run P w=.ok (P.cellsOf e) w:=by simp[sizeOf,typeInfo,hi,Program.cellsOf]
 have hlen:(Builtin.lenOf u').run P w=.ok n' w:=by
  obtain⟨_,_,rfl,_⟩:=hu'.slice_open;rfl
 unfold copyH at hc;have hmin:min n' n=Nat.min n' n:=rfl;split at hc
 ·rename_i rd rs hrd hrs;dsimp only at hrd hrs hc;subst hrd;subst hrs;simp only[Option.bind_eq_some_iff]at hc;obtain⟨cs,hg,hp⟩:=hc;obtain⟨us,k1,k2,k3,k4⟩:=kj3 S hu' (m:=min n' n) (Nat.min_le_left _ _) (by simpa[AH.getsO]using hg);simp only[VRel]at hu;obtain⟨a,cap,rfl,hcr,hcap⟩:=hu;have hle:n≤cap:=by cases c<;>exact hcap.1
  rw[hmin]at k2;rcases hcr with h00 | hrr
  ·have hn:n=0:=by omega
   subst hn;have hnil:us=[]:=List.eq_nil_of_length_eq_zero (by simpa using k1);subst hnil;have hcs:cs=[]:=List.eq_nil_of_length_eq_zero k3.length.symm;subst hcs;simp only[AH.puts,Option.some.injEq]at hp;subst hp;refine⟨.int .i64 ((min n' 0:Nat):Int),w,?_,Good.pure S (by simp[VRel])⟩;simp[Builtin.copy_,h0,run_underlying hd,hlen,hs,← hmin]at k2⊢;simp[k2,storeCells,goInt]
  ·obtain⟨w',e1,e2,e3,e4⟩:=km0 (i:=0) (a:=a) S (by rw[show a.add 0=a from by simp[Addr.add]];exact hrr) k3 k4 hp;refine⟨.int .i64 ((min n' n:Nat):Int),w',?_,μ,by simp[VRel],e2,e3,e4⟩;simp[Builtin.copy_,h0,run_underlying hd,hlen,hs,k2,e1,goInt,hmin]
 ·rename_i hno;simp only[Option.some.injEq]at hc;subst hc
  have hz:min n' n=0∨False:=by
   cases r with
   | none=>simp only[VRel]at hu;left;rw[hu.1];simp
   | some r=>cases r' with
    | none=>simp only[VRel]at hu';left;rw[hu'.1];simp
    | some r'=>exact absurd rfl (hno r r' rfl)
  have hz:min n' n=0:=by simpa using hz
  obtain⟨us,k1,k2,k3,k4⟩:=kj3 (size:=P.cellsOf e) S hu' (m:=0) (Nat.zero_le _) (by cases r'<;>simp[AH.getsO,AH.gets]<;>rfl);have hnil:us=[]:=List.eq_nil_of_length_eq_zero (by simpa using k1);subst hnil;have hz':Nat.min n' n=0:=hz;refine⟨.int .i64 ((min n' n:Nat):Int),w,?_,Good.pure S (by simp[VRel])⟩;obtain⟨base,cap,rfl,_⟩:=hu.slice_open;cases base<;>simp[Builtin.copy_,h0,run_underlying hd,hlen,hs,hz',k2,storeCells,goInt,hz]
theorem kis(ρ:Operand→Value)(o:Oper)(c:Call)(ho:o.op=.call c):execOp ρ o=(do let d ← resolve ρ c o.type;invoke d.target d.args):=by
 unfold execOp;rw[ho]
theorem k77{v:AV}{k:AV→Option R}{r:R}(h:leafK .slice (some v) k=some r):k v=some r:=by
 obtain⟨x,hx,hk⟩:=kmx h;cases hx;exact hk
theorem k6e{μ:Mu}{h:AH}{w:World}(S:Sim P O μ h w){b:Builtin}{ts:Array TypeId}{xs:List AV}{us:List Value}(hx:VRels μ xs us){k:AV→AH→Option R}{r:R}(hk:ke4 P b ts.toList xs h k=some r)(ty:TypeId)(consts:Array Bool) :
  ∃v h1,k v h1=some r∧∃u w',(builtin b ts ty consts us.toArray).run P w=.ok (.value u) w'∧Good P O μ h w v h1 u w':=by
 unfold ke4 at hk;split at hk
 ·rename_i t ts' x hts;obtain⟨u,us',rfl,hu,hus⟩:=hx.cons_inv;have:=hus.nil_inv;subst this;have h0:ts[0]?=some t:=by have:=congrArg (·[0]?) hts;simpa using this
  obtain⟨z,a,hk2,hz,hr⟩:=k0v hk hu h0 ty w;exact⟨z,h,hk2,a,w,by simp[builtin,hr],Good.pure S hz⟩
 ·rename_i kd a kd' b;obtain⟨u,us',rfl,hu,hus⟩:=hx.cons_inv;obtain⟨u2,us2,rfl,hu2,hus2⟩:=hus.cons_inv;have:=hus2.nil_inv;subst this;simp only[VRel]at hu hu2;subst hu;subst hu2;refine⟨_,h,hk,.int kd (imin a b),w,?_,Good.pure S (by simp[VRel])⟩;simp only[builtin,Builtin.min_,List.foldlM_cons,List.foldlM_nil,Builtin.min2,imin];by_cases hba:b<a<;>simp[hba]
 ·rename_i kd a kd' b;obtain⟨u,us',rfl,hu,hus⟩:=hx.cons_inv;obtain⟨u2,us2,rfl,hu2,hus2⟩:=hus.cons_inv;have:=hus2.nil_inv;subst this;simp only[VRel]at hu hu2;subst hu;subst hu2;refine⟨_,h,hk,.int kd (imax a b),w,?_,Good.pure S (by simp[VRel])⟩;simp only[builtin,Builtin.max_,List.foldlM_cons,List.foldlM_nil,Builtin.max2,imax];by_cases hba:a<b<;>simp[hba]
 ·rename_i t u' ts' q n c x hts;obtain⟨u,us',rfl,hu,hus⟩:=hx.cons_inv;obtain⟨u2,us2,rfl,hu2,hus2⟩:=hus.cons_inv;have:=hus2.nil_inv;subst this;have h0:ts[0]?=some t:=by have:=congrArg (·[0]?) hts;simpa using this
  have h1:ts[1]?=some u':=by have:=congrArg (·[1]?) hts;simpa using this
  split at hk
  ·rename_i e f hd hd';obtain⟨hie,hk2⟩:=ki hk;simp only[Option.bind_eq_some_iff]at hk2;obtain⟨p,hp,q,hq,hk3⟩:=hk2;obtain⟨u3,w',hr,g⟩:=k5t (ty:=ty) S h0 h1 hd hd' hie hu hu2 hp hq;exact⟨q.1,q.2,k77 hk3,u3,w',by simp[builtin,hr],g⟩
  ·cases hk
 ·rename_i t ts' q n c q' n' c' hts;obtain⟨u,us',rfl,hu,hus⟩:=hx.cons_inv;obtain⟨u2,us2,rfl,hu2,hus2⟩:=hus.cons_inv;have:=hus2.nil_inv;subst this;have h0:ts[0]?=some t:=by have:=congrArg (·[0]?) hts;simpa using this
  split at hk
  ·rename_i e hd;obtain⟨hie,hk2⟩:=ki hk;simp only[Option.bind_eq_some_iff]at hk2;obtain⟨h',hc,hk3⟩:=hk2;obtain⟨u3,w',hr,g⟩:=k7y (ty:=ty) S h0 hd hie hu hu2 hc;exact⟨_,h',hk3,u3,w',by simp[builtin,hr],g⟩
  ·cases hk
 ·cases hk
theorem km3:(Extern.allNextRows.lookup "math/bits.Add64").isSome=false∧(Extern.allNextRows.lookup "math/bits.Sub64").isSome=false∧(Extern.allNextRows.lookup "").isSome=false:=by
 refine⟨by kernel_rfl,by kernel_rfl,by kernel_rfl⟩
theorem kwg:(Extern.allGenericRows.lookup "math/bits.Add64").isSome=false∧(Extern.allGenericRows.lookup "math/bits.Sub64").isSome=false:=by
 refine⟨by kernel_rfl,by kernel_rfl⟩
theorem kuj:(Extern.allTypedRows.lookup "math/bits.Add64").isSome=false∧(Extern.allTypedRows.lookup "math/bits.Sub64").isSome=false:=by
 refine⟨by kernel_rfl,by kernel_rfl⟩
def addSem(args:Array Value):Sem Value:=do
 let (x,y,c) ← Extern.MathBitsCarry.three "Add64" args
 pure (Extern.MathBitsCarry.pair ((x+y+c)%Extern.MathBitsCarry.m64) ((x+y+c)/Extern.MathBitsCarry.m64))
def subSem(args:Array Value):Sem Value:=do
 let (x,y,b) ← Extern.MathBitsCarry.three "Sub64" args
 pure (Extern.MathBitsCarry.pair ((x+Extern.MathBitsCarry.m64-y-b)%Extern.MathBitsCarry.m64) (if x<y+b then 1 else 0))
theorem kbd0:Extern.allRows.lookup "math/bits.Add64" = some addSem:=by kernel_rfl
theorem kzk:Extern.allRows.lookup "math/bits.Sub64" = some subSem:=by kernel_rfl
theorem k6b(name:String)(x y c:Value):Extern.MathBitsCarry.three name #[x,y,c]=(do
  let c:=(← asInt c).toNat
  if c>1 then unsupported (.noEntry ("extern/math/bits." ++ name ++ ": a carry that is neither 0 nor 1"))
  pure ((← asInt x).toNat,(← asInt y).toNat,c)):=rfl
theorem ks2(name:String)(k1 k2 k3:IntKind)(x y c:Int)(h:¬c.toNat>1)(w:World):(Extern.MathBitsCarry.three name #[.int k1 x,.int k2 y,.int k3 c]).run P w=.ok (x.toNat,y.toNat,c.toNat) w:=by
 rw[k6b];simp only[Sem.run_bind,kyj,Result.andThen_ok,Sem.run_ite,if_neg h,Sem.run_pure]
theorem kfg{α:Type}{x:Option α}(h:x.isSome=false):x=none:=by cases x<;>simp at h;rfl
theorem kva{fn:Func}(h1:Extern.allNextRows.lookup fn.name=none)(h2:Extern.allNextRows.lookup fn.origin=none):Extern.findNext fn=none:=by
 unfold Extern.findNext;dsimp only;rw[h1,h2];rfl
theorem kw9{fn:Func}{s:Array Value→Sem Value}(h1:Extern.allGenericRows.lookup fn.name=none)(h2:Extern.allTypedRows.lookup fn.name=none)(h3:Extern.allRows.lookup fn.name=some s):Extern.find fn=some s:=by
 unfold Extern.find;dsimp only;rw[h1,h2,h3];rfl
theorem kbef{μ:Mu}{f:FuncId}{fn:Func}(hf:P.funcs[f]?=some fn)(hname:(fn.name == "runtime.NumGoroutine")=false) (hb:fn.body=none) (ho:fn.origin = "") {xs:List AV} {v:AV} (hp:prim fn.name xs=some v)
  {us:List Value} (hx:VRels μ xs us) (w:World):∃u,(callFunc f us.toArray).run P w=.ok (.value u) w∧VRel μ v u:=by
 have hname':fn.name≠ "runtime.NumGoroutine" := by simpa using hname
 unfold prim at hp;split at hp
 ·rename_i k1 x k2 y k3 c;obtain⟨u1,r1,rfl,v1,hx1⟩:=hx.cons_inv;obtain⟨u2,r2,rfl,v2,hx2⟩:=hx1.cons_inv;obtain⟨u3,r3,rfl,v3,hx3⟩:=hx2.cons_inv;have:=hx3.nil_inv;subst this;simp only[VRel]at v1 v2 v3;subst v1;subst v2;subst v3;have hm:(Extern.MathBitsCarry.m64:Nat)=18446744073709551616:=rfl;rcases kbt hp with⟨hn,hp1⟩ | ⟨_,hp1⟩
  ·obtain⟨hd,hp2⟩:=ki hp1;simp only[decide_eq_true_eq]at hd;simp only[beq_iff_eq]at hn;cases hp2;obtain⟨d1,d2,d3,d4⟩:=hd;have hnx:Extern.findNext fn=none:=kva (by rw[hn];exact kfg km3.1) (by rw[ho];exact kfg km3.2.2);have hfd:Extern.find fn=some addSem:=kw9 (by rw[hn];exact kfg kwg.1) (by rw[hn];exact kfg kuj.1) (by rw[hn];exact kbd0);have hthree:=ks2 (P:=P) "Add64" k1 k2 k3 x y c (by omega) w;refine⟨Extern.MathBitsCarry.pair ((x.toNat+y.toNat+c.toNat)%Extern.MathBitsCarry.m64) ((x.toNat+y.toNat+c.toNat)/Extern.MathBitsCarry.m64),?_,?_⟩
   ·simp[callFunc,hf,hname',hb,hnx,hfd,addSem,hthree,-String.reduceAppend]
   ·simp only[VRel];refine⟨_,rfl,VRels.cons ?_ (VRels.cons ?_ VRels.nil)⟩
    ·simp only[VRel,Value.int.injEq,true_and,hm];simp;omega
    ·simp only[VRel,Value.int.injEq,true_and,hm];simp;omega
  ·obtain⟨hn,hp2⟩:=ki hp1;obtain⟨hd,hp3⟩:=ki hp2;simp only[decide_eq_true_eq]at hd;simp only[beq_iff_eq]at hn;cases hp3;obtain⟨d1,d2,d3,d4,d5⟩:=hd;have hnx:Extern.findNext fn=none:=kva (by rw[hn];exact kfg km3.2.1) (by rw[ho];exact kfg km3.2.2);have hfd:Extern.find fn=some subSem:=kw9 (by rw[hn];exact kfg kwg.2) (by rw[hn];exact kfg kuj.2) (by rw[hn];exact kzk);have hthree:=ks2 (P:=P) "Sub64" k1 k2 k3 x y c (by omega) w;refine⟨Extern.MathBitsCarry.pair ((x.toNat+Extern.MathBitsCarry.m64-y.toNat-c.toNat)%Extern.MathBitsCarry.m64) (if x.toNat<y.toNat+c.toNat then 1 else 0),?_,?_⟩
   ·simp[callFunc,hf,hname',hb,hnx,hfd,subSem,hthree]
   ·simp only[VRel];refine⟨_,rfl,VRels.cons ?_ (VRels.cons ?_ VRels.nil)⟩
    ·simp only[VRel,Value.int.injEq,true_and,hm];simp;omega
    ·simp only[VRel,Value.int.injEq,true_and];by_cases hlt:x<y+c
     ·rw[if_pos (by omega)];simp[hlt]
     ·rw[if_neg (by omega)];simp[hlt]
 ·cases hp
end Go.Ab
namespace Go.Ab
open Go.MapKept
variable{P:Program}{O:World}{R:Type}
def Ents(μ:Mu)(es:List AEnt)(us:Array MapEntry):Prop:=us.size=es.length∧
 ∀(j:Nat)(e:AEnt),es[j]?=some e→∃u:MapEntry,us[j]?=some u∧VRel μ e.key u.key∧VRel μ e.val u.val∧u.born=e.born
theorem kcq{μ:Mu}{h:AH}{w:World}(S:Sim P O μ h w){i:Nat}{L:Loc}(hL:μ i=some L){p:List AEnt×Nat}(hp:h.mapAt i=some p):∃us,w.heap[L.block]?=some (.map us p.2)∧Ents μ p.1 us∧h.blks[i]?=some (.map p.1 p.2):=by
 unfold AH.mapAt at hp;split at hp
 ·rename_i es ck hb;cases hp;obtain⟨us,h1,h2⟩:=S.blk i L _ hL hb;exact⟨us,h1,h2,hb⟩
 ·cases hp
theorem kjh{μ:Mu}{kd:IntKind}{n:Int}:∀{es:List AEnt}{us:List MapEntry}{i:Nat}{q:Option (Nat×AV)},(us.length=es.length∧∀(j:Nat)(e:AEnt),es[j]?=some e→∃u:MapEntry,us[j]?=some u∧VRel μ e.key u.key∧VRel μ e.val u.val∧u.born=e.born)→findA kd n es i=some q→
  match q with
  | none=>Instr.findNow (.int kd) (.int kd n) us i=some none
  | some x=>∃j u e,x.1=i+j∧es[j]?=some e∧e.key=.int kd n∧e.val=x.2∧us[j]?=some u∧u.key=.int kd n∧Instr.findNow (.int kd) (.int kd n) us i=some (some (i+j,u.val))∧VRel μ x.2 u.val∧u.born=e.born
 | [],us,i,q,h,hf=>by
  simp only[findA,Option.some.injEq]at hf;subst hf;have:us=[]:=List.length_eq_zero_iff.1 h.1;subst this;rfl
 | e::es,us,i,q,h,hf=>by
  cases us with
  | nil=>simp at h
  | cons u us =>
   obtain⟨u0,hu0,hk,hv,hb⟩:=h.2 0 e rfl;cases hu0;have htl:us.length=es.length∧∀(j:Nat)(e:AEnt),es[j]?=some e→∃u:MapEntry,us[j]?=some u∧VRel μ e.key u.key∧VRel μ e.val u.val∧u.born=e.born:=⟨by simpa using h.1,fun j e he=>h.2 (j+1) e he⟩;simp only[findA]at hf;split at hf
   ·rename_i kd' m hkey;rw[hkey]at hk;simp only[VRel]at hk;by_cases hkd:kd'=kd
    ·subst hkd;simp only[decide_true,cond_true]at hf;by_cases hn:n=m
     ·subst hn;simp only[decide_true,cond_true,Option.some.injEq]at hf;subst hf;refine⟨0,u,e,rfl,rfl,hkey,rfl,rfl,hk,?_,hv,hb⟩;simp[Instr.findNow,Instr.sameNow,hk]
     ·simp only[hn,decide_false,cond_false]at hf;have ih:=kjh htl hf
      have step:Instr.findNow (.int kd') (.int kd' n) (u::us) i=Instr.findNow (.int kd') (.int kd' n) us (i+1):=by
       simp[Instr.findNow,Instr.sameNow,hk,show(n==m)=false from by simp[hn]]
      cases q with
      | none =>
       show Instr.findNow _ _ _ _=_;rw[step];exact ih
      | some x =>
       obtain⟨j,u',e',h1,h2,h3,h4,h5,h6,h7,h8,h9⟩:=ih;exact⟨j+1,u',e',by omega,h2,h3,h4,h5,h6,by rw[step,h7];congr 3;omega,h8,h9⟩
    ·simp[hkd]at hf
   ·cases hf
theorem Ents.list{μ:Mu}{es:List AEnt}{us:Array MapEntry}(e:Ents μ es us):us.toList.length=es.length∧∀(j:Nat)(x:AEnt),es[j]?=some x→∃u:MapEntry,us.toList[j]?=some u∧VRel μ x.key u.key∧VRel μ x.val u.val∧u.born=x.born :=
 ⟨by simpa using e.1,fun j x hx=>by simpa using e.2 j x hx⟩
theorem Ents.push{μ:Mu}{es:List AEnt}{us:Array MapEntry}(e:Ents μ es us){x:AEnt}{u:MapEntry}(hk:VRel μ x.key u.key)(hv:VRel μ x.val u.val)(hb:u.born=x.born):Ents μ (es++[x]) (us.push u):=by
 refine⟨by simp[e.1],fun j y hy=>?_⟩;rcases Nat.lt_or_ge j es.length with h | h
 ·rw[List.getElem?_append_left h]at hy;obtain⟨u',h1,h2⟩:=e.2 j y hy;exact⟨u',by rw[Array.getElem?_push,if_neg (by rw[e.1];omega)];exact h1,h2⟩
 ·rw[List.getElem?_append_right h]at hy
  have hj:j-es.length=0:=by
   rcases Nat.eq_zero_or_pos (j-es.length)with h0 | h0
   ·exact h0
   ·rw[List.getElem?_eq_none (by simp;omega)]at hy;cases hy
  rw[hj]at hy;cases hy;exact⟨u,by rw[Array.getElem?_push,if_pos (by rw[e.1];omega)],hk,hv,hb⟩
theorem Ents.modify{μ:Mu}{es:List AEnt}{us:Array MapEntry}(e:Ents μ es us){i:Nat}{f:AEnt→AEnt}{g:MapEntry→MapEntry}(hfg:∀x u,es[i]?=some x→us[i]?=some u→VRel μ x.key u.key→VRel μ x.val u.val→u.born=x.born→VRel μ (f x).key (g u).key∧VRel μ (f x).val (g u).val∧(g u).born=(f x).born):Ents μ (es.modify i f) (us.modify i g):=by
 refine⟨by simp[e.1],fun j y hy=>?_⟩;rw[List.getElem?_modify]at hy;simp only[Array.getElem?_modify];by_cases hij:i=j
 ·subst hij;simp only[if_true,Option.map_eq_map]at hy⊢;rw[Option.map_eq_some_iff]at hy;obtain⟨x,hx,rfl⟩:=hy;obtain⟨u,h1,h2,h3,h4⟩:=e.2 i x hx;exact⟨g u,by simp[h1],hfg x u hx h1 h2 h3 h4⟩
 ·simp only[hij,if_false]at hy⊢;exact e.2 j y (by simpa using hy)
theorem Ents.erase{μ:Mu}{es:List AEnt}{us:Array MapEntry}(e:Ents μ es us){i:Nat}(hi:i<es.length):Ents μ (es.eraseIdx i) (us.eraseIdxIfInBounds i):=by
 have hu:us.eraseIdxIfInBounds i=us.eraseIdx i (by rw[e.1];exact hi):=by unfold Array.eraseIdxIfInBounds;rw[dif_pos (by rw[e.1];exact hi)]
 rw[hu];refine⟨by simp[List.length_eraseIdx,e.1,hi],fun j y hy=>?_⟩;have hl:=e.list;have key:∀j,(us.eraseIdx i (by rw[e.1];exact hi))[j]?=(us.toList.eraseIdx i)[j]?:=fun j=>by rw[← Array.getElem?_toList,Array.toList_eraseIdx]
 rw[key];rw[List.getElem?_eraseIdx]at hy⊢;split at hy
 ·rename_i h;rw[if_pos h];exact hl.2 j y hy
 ·rename_i h;rw[if_neg h];exact hl.2 (j+1) y hy
theorem kof{μ:Mu}{t:TypeId}{z:AV}(h:zeroA P t=some z)(w:World):∃u,(zeroValue t).run P w=.ok u w∧VRel μ z u:=by
 unfold zeroA at h;obtain⟨i,hi,h⟩:=Option.bind_eq_some_iff.1 h;obtain⟨u,hu,h⟩:=Option.bind_eq_some_iff.1 h;exact⟨u,by simp[zeroValue,typeInfo,hi,hu],VRel.ofValue h⟩
theorem kd6{μ:Mu}{h:AH}{w:World}(S:Sim P O μ h w){i:Nat}{L:Loc}(hL:μ i=some L){es es':List AEnt}{ck ck':Nat}(hb:h.blks[i]?=some (.map es ck)){us':Array MapEntry}(e:Ents μ es' us') :
  Good P O μ h w (.tup []) (h.setBlk i (.map es' ck')) undef {w with heap:=w.heap.setIfInBounds L.block (.map us' ck')}:=by
 have hlt:=(S.place i L hL).2;obtain⟨s1,s2,s3⟩:=kjv S hL hb (by simp) (b':=.map es' ck') (o:=.map us' ck') ⟨us',World.putObj_heap_same hlt,e⟩;exact⟨μ,by simp[VRel,undef,VRels],s1,s2,s3⟩
theorem kn0{A B:Type}{R:A→B→Prop}{f:A→Bool}{g:B→Bool}(hfg:∀a b,R a b→f a=g b):∀{xs:List A}{ys:List B},(ys.length=xs.length∧∀(j:Nat)(a:A),xs[j]?=some a→∃b,ys[j]?=some b∧R a b)→
  (ys.filter g).length=(xs.filter f).length∧∀(j:Nat)(a:A),(xs.filter f)[j]?=some a→∃b,(ys.filter g)[j]?=some b∧R a b
 | [],ys,h=>by
  have:ys=[]:=List.length_eq_zero_iff.1 h.1;subst this;exact⟨rfl,fun j a e=>by simp at e⟩
 | x::xs,ys,h=>by
  cases ys with
  | nil=>simp at h
  | cons y ys =>
   obtain⟨b,hb,hr⟩:=h.2 0 x rfl;cases hb;have ih:=kn0 hfg (xs:=xs) (ys:=ys) ⟨by simpa using h.1,fun j a e=>h.2 (j+1) a e⟩;rw[List.filter_cons,List.filter_cons,← hfg x y hr];by_cases k:f x=true
   ·rw[if_pos k,if_pos k];refine⟨by simpa using ih.1,fun j a e=>?_⟩;cases j with
    | zero=>cases e;exact⟨y,rfl,hr⟩
    | succ j=>exact ih.2 j a e
   ·rw[if_neg k,if_neg k];exact ih
theorem kt2{A B:Type}{R:A→B→Prop}{f:A→Bool}{g:B→Bool}(hfg:∀a b,R a b→f a=g b):∀{xs:List A}{ys:List B},(ys.length=xs.length∧∀(j:Nat)(a:A),xs[j]?=some a→∃b,ys[j]?=some b∧R a b)→
  ∀{a:A},xs.find? f=some a→∃b,ys.find? g=some b∧R a b
 | [],ys,h,a,e=>by cases e
 | x::xs,ys,h,a,e=>by
  cases ys with
  | nil=>simp at h
  | cons y ys =>
   obtain⟨b,hb,hr⟩:=h.2 0 x rfl;cases hb;rw[List.find?_cons]at e⊢;rw[← hfg x y hr];cases k:f x
   ·rw[k]at e;exact kt2 hfg (xs:=xs) (ys:=ys) ⟨by simpa using h.1,fun j a e=>h.2 (j+1) a e⟩ e
   ·rw[k]at e;cases e;exact⟨y,rfl,hr⟩
theorem kbfb{μ:Mu}{h:AH}{w:World}(S:Sim P O μ h w){t kt et:TypeId}(ht:P.underlying t=some (.map kt et)){q:Option Nat}{u:Value}(hq:VRel μ (.map q) u){b:ABlk}(hb:iterOf h q=some b) :
  ∃o,(Instr.range t u).run P w=.ok (.pointer (some ⟨w.heap.size,0,none⟩)) (w.alloc o)∧∀ν,Mu.le μ ν→BRel P ν ⟨w.heap.size,0,0⟩ (w.alloc o) b:=by
 cases q with
 | none =>
  simp only[VRel]at hq;subst hq;cases hb;refine⟨.mapIter none 0 #[] 0,?_,fun ν hle=>⟨⟨none,ke9 _ _,rfl⟩,rfl⟩⟩;simp[Instr.range,run_underlying ht,run_newObj_alloc,Result.andThen]
 | some i =>
  simp only[VRel]at hq;obtain⟨L,hL,rfl⟩:=hq;obtain⟨p,hp,rfl⟩:=Option.map_eq_some_iff.1 hb;obtain⟨us,hw,he,hbk⟩:=kcq S hL hp;refine⟨.mapIter (some L.block) p.2 #[] p.2,?_,fun ν hle=>⟨⟨some L.block,ke9 _ _,L,hle _ _ hL,rfl⟩,rfl⟩⟩;simp[Instr.range,run_underlying ht,MapKept.run_getObj_map hw,run_newObj_alloc,Result.andThen]
theorem kk0{μ:Mu}{h:AH}{w:World}(S:Sim P O μ h w){p:Option Ref}{i:Nat}(hi:asIt p=some i){u:Value}(hu:VRel μ (.ptr p) u){im:Option Nat}{is ik:Nat}{il:List Nat}(hb:h.blks[i]?=some (.iter im is il ik)) :
  ∃L,μ i=some L∧u=.pointer (some ⟨L.block,0,none⟩)∧BRel P μ L w (.iter im is il ik):=by
 unfold asIt at hi;split at hi
 ·cases hi;simp only[VRel,RRel]at hu;obtain⟨a,⟨L,hL,rfl⟩,rfl⟩:=hu;have hB:=S.blk i L _ hL hb;exact⟨L,hL,by rw[hB.2],hB⟩
 ·cases hi
theorem k7w{μ:Mu}{h:AH}{w:World}(S:Sim P O μ h w){p:Option Ref}{i:Nat}(hi:asIt p=some i){u:Value}(hu:VRel μ (.ptr p) u){ty:TypeId}(hq:kjp h i=some none) :
  (Instr.next u false ty).run P w=.ok (.tuple #[.bool false]) w:=by
 unfold kjp at hq;split at hq
 ·rename_i x1 x2 x3 hb;obtain⟨L,hL,rfl,⟨r,h1,h2⟩,-⟩:=kk0 S hi hu hb;cases h2;simp[Instr.next,getObj,Sem.run_bind,Sem.run,h1,Result.andThen]
 ·rename_i m since seen last hb;obtain⟨L,hL,rfl,⟨r,h1,M,h2,rfl⟩,-⟩:=kk0 S hi hu hb;obtain⟨p,hp,hq⟩:=Option.bind_eq_some_iff.1 hq;obtain⟨us,hw,he,hbk⟩:=kcq S h2 hp;obtain⟨hc,hq⟩:=ki hq;simp only[Bool.and_eq_true,List.all_eq_true]at hc
  have hold:∀x∈us.toList,x.born<since:=fun x hx=>by
   obtain⟨j,hj,rfl⟩:=List.mem_iff_getElem.1 hx;have hl:=he.list;have hje:j<p.1.length:=by rw[← hl.1];exact hj
   obtain⟨u,e1,-,-,e2⟩:=hl.2 j p.1[j] (List.getElem?_eq_getElem hje);rw[List.getElem?_eq_getElem hj]at e1;cases e1;rw[e2];have:=hc.1 _ (List.getElem_mem hje)
   simpa[Nat.blt_eq]using this
  rcases run_next_at (P:=P) w ty L.block M.block since last seen.toArray us p.2 h1 hw hold (Nat.le_of_ble_eq_true hc.2)with⟨-,hr⟩ | ⟨e,hm,-⟩
  ·exact hr
  ·exfalso;split at hq
   ·rename_i hf;have hx:=kn0 (R:=fun(a:AEnt) (b:MapEntry)=>VRel μ a.key b.key∧VRel μ a.val b.val∧b.born=a.born) (f:=fun e=>!seen.contains e.born) (g:=fun e=>!seen.toArray.contains e.born) (fun a b hab=>by rw[hab.2.2];simp) he.list;rw[hf]at hx;unfold leftOf at hm;rw[Array.toList_filter]at hm;have:(us.toList.filter fun e=>!seen.toArray.contains e.born)=[]:=List.length_eq_zero_iff.1 hx.1;rw[this]at hm;cases hm
   ·cases hq
   ·cases hq
 ·cases hq
theorem k9y{μ:Mu}{h:AH}{w:World}(S:Sim P O μ h w){p:Option Ref}{i:Nat}(hi:asIt p=some i){u:Value}(hu:VRel μ (.ptr p) u){ty:TypeId}{e:AEnt×AH}(hq:kjp h i=some (some e)) :
  ∃u' w',(Instr.next u false ty).run P w=.ok u' w'∧Good P O μ h w (.tup [.bool true,e.1.key,e.1.val]) e.2 u' w':=by
 unfold kjp at hq;split at hq
 ·cases hq
 ·rename_i m since seen last hb;obtain⟨L,hL,rfl,⟨r,h1,M,h2,rfl⟩,-⟩:=kk0 S hi hu hb;obtain⟨p,hp,hq⟩:=Option.bind_eq_some_iff.1 hq;obtain⟨us,hw,he,hbk⟩:=kcq S h2 hp;obtain⟨hc,hq⟩:=ki hq;simp only[Bool.and_eq_true,List.all_eq_true]at hc
  have hold:∀x∈us.toList,x.born<since:=fun x hx=>by
   obtain⟨j,hj,rfl⟩:=List.mem_iff_getElem.1 hx;have hl:=he.list;have hje:j<p.1.length:=by rw[← hl.1];exact hj
   obtain⟨u,e1,-,-,e2⟩:=hl.2 j p.1[j] (List.getElem?_eq_getElem hje);rw[List.getElem?_eq_getElem hj]at e1;cases e1;rw[e2];have:=hc.1 _ (List.getElem_mem hje)
   simpa[Nat.blt_eq]using this
  split at hq
  ·cases hq
  ·rename_i a hf;cases hq;have hx:=kn0 (R:=fun(a:AEnt) (b:MapEntry)=>VRel μ a.key b.key∧VRel μ a.val b.val∧b.born=a.born) (f:=fun e=>!seen.contains e.born) (g:=fun e=>!seen.toArray.contains e.born) (fun a b hab=>by rw[hab.2.2];simp) he.list;rw[hf]at hx;obtain⟨y,hy,hk,hv,hbn⟩:=hx.2 0 a rfl
   have hl1:(us.toList.filter fun e=>!seen.toArray.contains e.born)=[y]:=by
    have h3:=hx.1;generalize (us.toList.filter fun e=>!seen.toArray.contains e.born)=z at h3 hy
    match z,h3,hy with
    | [z],_,hy=>cases hy;rfl
   have hlo:leftOf us seen.toArray=#[y]:=by
    apply Array.ext';unfold leftOf;rw[Array.toList_filter];exact hl1
   have hr:(Instr.next (.pointer (some ⟨L.block,0,none⟩)) false ty).run P w=.ok (.tuple #[.bool true,y.key,y.val]) (w.putObj L.block (.mapIter (some M.block) since (seen.toArray.push y.born) p.2)):=by
    have hyb:y.born<since:=hold y (by
     have:y∈us.toList.filter fun e=>!seen.toArray.contains e.born:=by rw[hl1];exact List.mem_singleton.2 rfl
     exact(List.mem_filter.1 this).1)
    unfold leftOf at hlo;simp only[Instr.next,getObj,Sem.run_bind,Sem.run,h1,hw,Result.andThen,next_test_false seen.toArray us since last hold (Nat.le_of_ble_eq_true hc.2),Bool.false_eq_true,if_false,hlo];have e1:(#[y].filter fun x=>decide (x.born<since))=#[y]:=by simp[hyb]
    have e2:(#[y].filter fun x=>decide (x.born≥since))=#[]:=by simp;omega
    simp only[e1,e2];simp[choose,Sem.run,Question.forced,setObj,h1,World.putObj,Result.andThen]
   obtain⟨s1,s2,s3⟩:=kjv S hL hb (by simp) (b':=.iter (some m) since (seen++[a.born]) p.2) (o:=.mapIter (some M.block) since (seen.toArray.push y.born) p.2) ⟨⟨some M.block,by rw[World.putObj_heap_same (S.place i L hL).2,hbn];simp,M,h2,rfl⟩,by
    exact(S.blk i L _ hL hb).2⟩
   exact⟨_,_,hr,μ,by simp only[VRel];exact⟨_,rfl,VRels.cons (by simp[VRel]) (VRels.cons hk (VRels.cons hv VRels.nil))⟩,s1,s2,s3⟩
  ·cases hq
 ·cases hq
theorem k5m{μ:Mu}{h:AH}{w:World}(S:Sim P O μ h w){p:Option Ref}{i:Nat}(hi:asIt p=some i){u:Value}(hu:VRel μ (.ptr p) u){e:AEnt}(hq:koe h i=some e) :
  ∃u',(Instr.entry u).run P w=.ok u' w∧VRel μ (.tup [e.key,e.val]) u':=by
 unfold koe at hq;split at hq
 ·rename_i m since seen last hb;obtain⟨L,hL,rfl,⟨r,h1,M,h2,rfl⟩,-⟩:=kk0 S hi hu hb;obtain⟨p,hp,hq⟩:=Option.bind_eq_some_iff.1 hq;obtain⟨us,hw,he,hbk⟩:=kcq S h2 hp;obtain⟨hc,hq⟩:=ki hq;obtain⟨b,hbl,hq⟩:=Option.bind_eq_some_iff.1 hq;obtain⟨y,hy,hk,hv,-⟩:=kt2 (R:=fun(a:AEnt) (b:MapEntry)=>VRel μ a.key b.key∧VRel μ a.val b.val∧b.born=a.born) (f:=fun e=>e.born==b) (g:=fun e=>e.born==b) (fun a b hab=>by rw[hab.2.2]) he.list hq;have hc:p.2=last:=Nat.eq_of_beq_eq_true hc;subst hc;have hbk:seen.toArray.back?=some b:=by rw[List.back?_toArray];exact hbl
  have hf:us.find? (·.born==b)=some y:=by rw[← Array.find?_toList];exact hy
  refine⟨.tuple #[y.key,y.val],?_,by simp only[VRel];exact⟨_,rfl,VRels.cons hk (VRels.cons hv VRels.nil)⟩⟩;simp only[Instr.entry,getObj,Sem.run_bind,Sem.run,h1,hw,Result.andThen,hbk,bne_self_eq_false,Bool.false_eq_true,if_false,hf];rfl
 ·cases hq
section ops
variable{μ:Mu}{h:AH}{w:World}(S:Sim P O μ h w)
include S
theorem kba7{t kt et:TypeId}{kd:IntKind}(ht:P.underlying t=some (.map kt et))(hk:P.underlying kt=some (.int kd)){i:Nat}{L:Loc}(hL:μ i=some L){n:Int}{v:AV}{u:Value}(hv:VRel μ v u){h':AH}(hp:mapPut h i kd n v=some h') :
  ∃w',(Instr.mapUpdate t (.map (some L.block)) (.int kd n) u).run P w=.ok () w'∧Good P O μ h w (.tup []) h' undef w':=by
 obtain⟨p,h1,h2⟩:=Option.bind_eq_some_iff.1 hp;obtain⟨q,h3,h4⟩:=Option.map_eq_some_iff.1 h2;obtain⟨us,hw,he,hb⟩:=kcq S hL h1;have hf:=kjh he.list h3;have hkey:IsKey (.int kd) (.int kd n):=rfl;cases q with
 | none =>
  subst h4;refine⟨_,?_,kd6 S hL hb (us':=us.push {key:=.int kd n,val:=u,born:=p.2}) (he.push (by simp[VRel]) hv rfl)⟩;simp[Instr.mapUpdate,run_underlying ht,MapKept.run_getObj_map hw,run_checkKey hk hkey,run_findKey hk hf,MapKept.run_setObj_map _ hw,Result.andThen]
 | some x =>
  subst h4;obtain⟨j,u',e,e1,e2,e3,e4,e5,e6,e7,e8,e9⟩:=hf;rw[Nat.zero_add]at e1 e7;have hj:us[j]?=some u':=by simpa using e5
  dsimp only;rw[e1];refine⟨_,?_,kd6 S hL hb (us':=us.modify j fun e=>{e with key:=.int kd n,val:=u}) (he.modify fun x y _ _ _ _ hbn=>⟨by simp[VRel],hv,hbn⟩)⟩;simp[Instr.mapUpdate,run_underlying ht,MapKept.run_getObj_map hw,run_checkKey hk hkey,run_findKey hk e7,hj,e6,run_keyThatStays hkey,MapKept.run_setObj_map _ hw,Result.andThen]
theorem k1x{t kt et:TypeId}{kd:IntKind}(ht:P.underlying t=some (.map kt et))(hk:P.underlying kt=some (.int kd)){r:Option Nat}{u:Value}(hr:VRel μ (.map r) u){n:Int}{q:Option AV}(hq:mapGet h r kd n=some q){z:AV}(hz:zeroA P et=some z)(ok:Bool) :
  ∃x,(Instr.lookup t u (.int kd n) ok).run P w=.ok x w∧VRel μ (cond ok (.tup [q.getD z,.bool q.isSome]) (q.getD z)) x:=by
 have hkey:IsKey (.int kd) (.int kd n):=rfl;obtain⟨uz,hz1,hz2⟩:=kof (μ:=μ) hz w
 have fin:∀(x:Value)(b:Bool)(a:AV),VRel μ a x→VRel μ (cond ok (.tup [a,.bool b]) a) (if ok=true then .tuple #[x,.bool b]else x):=by
  intro x b a hx;cases ok
  ·exact hx
  ·simp[VRel,VRels,hx]
 cases r with
 | none =>
  simp only[mapGet,Option.some.injEq]at hq;subst hq;simp only[VRel]at hr;subst hr;refine⟨_,?_,fin uz false z hz2⟩;simp[Instr.lookup,run_underlying ht,run_checkKey hk hkey,Instr.findKey,run_underlying hk,Instr.findNow,hz1,Result.andThen]
 | some i =>
  simp only[VRel]at hr;obtain⟨L,hL,rfl⟩:=hr;obtain⟨p,h1,h2⟩:=Option.bind_eq_some_iff.1 hq;obtain⟨q',h3,h4⟩:=Option.map_eq_some_iff.1 h2;subst h4;obtain⟨us,hw,he,hb⟩:=kcq S hL h1;have hf:=kjh he.list h3;cases q' with
  | none =>
   refine⟨_,?_,fin uz false z hz2⟩;simp[Instr.lookup,run_underlying ht,MapKept.run_getObj_map hw,run_checkKey hk hkey,run_findKey hk hf,hz1,Result.andThen]
  | some x =>
   obtain⟨j,u',e,e1,e2,e3,e4,e5,e6,e7,e8,e9⟩:=hf;refine⟨_,?_,fin u'.val true x.2 e8⟩;simp[Instr.lookup,run_underlying ht,MapKept.run_getObj_map hw,run_checkKey hk hkey,run_findKey hk e7,Result.andThen]
theorem k0z{t kt et ty:TypeId}{kd:IntKind}(ht:P.underlying t=some (.map kt et))(hk:P.underlying kt=some (.int kd)){r:Option Nat}{u:Value}(hr:VRel μ (.map r) u){n:Int}{h':AH}(hp:mapDel h r kd n=some h'){ts:Array TypeId}(h0:ts[0]?=some t) :
  ∃w',(Builtin.delete_ ts ty #[u,.int kd n]).run P w=.ok (.tuple #[]) w'∧Good P O μ h w (.tup []) h' (.tuple #[]) w':=by
 have hkey:IsKey (.int kd) (.int kd n):=rfl;cases r with
 | none =>
  simp only[mapDel,Option.some.injEq]at hp;subst hp;simp only[VRel]at hr;subst hr;exact⟨w,by simp[Builtin.delete_,h0,run_underlying ht,run_checkKey hk hkey,Result.andThen],Good.pure S (by simp[VRel,VRels])⟩
 | some i =>
  simp only[VRel]at hr;obtain⟨L,hL,rfl⟩:=hr;obtain⟨p,h1,h2⟩:=Option.bind_eq_some_iff.1 hp;obtain⟨q',h3,h4⟩:=Option.map_eq_some_iff.1 h2;obtain⟨us,hw,he,hb⟩:=kcq S hL h1;have hf:=kjh he.list h3;cases q' with
  | none =>
   subst h4;refine⟨_,?_,kd6 S hL hb he⟩;simp[Builtin.delete_,h0,run_underlying ht,MapKept.run_getObj_map hw,run_checkKey hk hkey,run_findKey hk hf,MapKept.run_setObj_map _ hw,Result.andThen]
  | some x =>
   subst h4;obtain⟨j,u',e,e1,e2,e3,e4,e5,e6,e7,e8,e9⟩:=hf;rw[Nat.zero_add]at e1 e7;dsimp only;rw[e1];refine⟨_,?_,kd6 S hL hb (he.erase (List.getElem?_eq_some_iff.1 e2).1)⟩;simp[Builtin.delete_,h0,run_underlying ht,MapKept.run_getObj_map hw,run_checkKey hk hkey,run_findKey hk e7,MapKept.run_setObj_map _ hw,Result.andThen]
theorem k1q{t kt et ty:TypeId}(ht:P.underlying t=some (.map kt et)){r:Option Nat}{u:Value}(hr:VRel μ (.map r) u){n:Nat}(hp:mapLen h r=some n){ts:Array TypeId}(h0:ts[0]?=some t) :
  (Builtin.len_ ts ty #[u]).run P w=.ok (.int .i64 (n:Int)) w:=by
 cases r with
 | none =>
  simp only[mapLen,Option.some.injEq]at hp;subst hp;simp only[VRel]at hr;subst hr;simp[Builtin.len_,h0,run_underlying ht,Result.andThen,goInt]
 | some i =>
  simp only[VRel]at hr;obtain⟨L,hL,rfl⟩:=hr;obtain⟨p,h1,h2⟩:=Option.map_eq_some_iff.1 hp;subst h2;obtain⟨us,hw,he,hb⟩:=kcq S hL h1;simp[Builtin.len_,h0,run_underlying ht,MapKept.run_getObj_map hw,Result.andThen,goInt,he.1]
theorem kbai{t kt et ty:TypeId}(ht:P.underlying t=some (.map kt et)){r:Option Nat}{u:Value}(hr:VRel μ (.map r) u){h':AH}(hp:khv h r=some h'){ts:Array TypeId}(h0:ts[0]?=some t) :
  ∃w',(Builtin.clear_ ts ty #[u]).run P w=.ok (.tuple #[]) w'∧Good P O μ h w (.tup []) h' (.tuple #[]) w':=by
 cases r with
 | none =>
  simp only[khv,Option.some.injEq]at hp;subst hp;simp only[VRel]at hr;subst hr;exact⟨w,by simp[Builtin.clear_,h0,run_underlying ht,Result.andThen],Good.pure S (by simp[VRel,VRels])⟩
 | some i =>
  simp only[VRel]at hr;obtain⟨L,hL,rfl⟩:=hr;obtain⟨p,h1,h2⟩:=Option.map_eq_some_iff.1 hp;subst h2;obtain⟨us,hw,he,hb⟩:=kcq S hL h1;refine⟨_,?_,kd6 S hL hb (us':=#[]) ⟨rfl,by simp⟩⟩;simp[Builtin.clear_,h0,run_underlying ht,MapKept.run_getObj_map hw,MapKept.run_setObj_map _ hw,Result.andThen]
theorem kba5{t kt et:TypeId}{kd:IntKind}(ht:P.underlying t=some (.map kt et))(hk:P.underlying kt=some (.int kd)){i:Nat}{L:Loc}(hL:μ i=some L){n:Int}{z:AV}(hz:zeroA P et=some z){q:AV×Int×AH}(hp:mapEnt h i kd n z=some q) :
  ∃u w',(Instr.mapEntry t (.map (some L.block)) (.int kd n)).run P w=.ok u w'∧Good P O μ h w (.tup [q.1,.int .i64 q.2.1]) q.2.2 u w':=by
 obtain⟨p,h1,h2⟩:=Option.bind_eq_some_iff.1 hp;obtain⟨q',h3,h4⟩:=Option.bind_eq_some_iff.1 h2;obtain⟨us,hw,he,hb⟩:=kcq S hL h1;have hf:=kjh he.list h3;have hkey:IsKey (.int kd) (.int kd n):=rfl;obtain⟨uz,hz1,hz2⟩:=kof (μ:=μ) hz w;cases q' with
 | none =>
  cases h4;obtain⟨ν,_,g2,g3,g4⟩:=kd6 S hL hb (ck':=p.2+1) (us':=us.push {key:=.int kd n,val:=uz,born:=p.2}) (es':=p.1++[⟨.int kd n,z,p.2⟩]) (he.push (by simp[VRel]) hz2 rfl);refine⟨.tuple #[uz,.int .i64 (p.2:Int)],_,?_,ν,by simp[VRel,VRels,hz2.mono g3.2.1],g2,g3,g4⟩;simp[Instr.mapEntry,run_underlying ht,MapKept.run_getObj_map hw,run_checkKey hk hkey,run_findKey hk hf,hz1,MapKept.run_setObj_map _ hw,Result.andThen,goInt]
 | some x =>
  obtain⟨j,u',e,e1,e2,e3,e4,e5,e6,e7,e8,e9⟩:=hf;rw[Nat.zero_add]at e1 e7;have hj:us[j]?=some u':=by simpa using e5
  obtain⟨e',he',hq⟩:=Option.map_eq_some_iff.1 h4;rw[e1,e2]at he';cases he';cases hq;obtain⟨ν,_,g2,g3,g4⟩:=kd6 S hL hb (ck':=p.2) (us':=us.modify j fun e=>{e with key:=.int kd n}) (es':=p.1.modify j fun e=>⟨.int kd n,e.val,e.born⟩) (he.modify fun x y _ _ _ hv hbn=>⟨by simp[VRel],hv,hbn⟩);dsimp only;rw[e1];refine⟨.tuple #[u'.val,.int .i64 (e.born:Int)],_,?_,ν,by simp[VRel,VRels,e8.mono g3.2.1],g2,g3,g4⟩;simp[Instr.mapEntry,run_underlying ht,MapKept.run_getObj_map hw,run_checkKey hk hkey,run_findKey hk e7,hj,e6,run_keyThatStays hkey,MapKept.run_setObj_map _ hw,Result.andThen,goInt,e9]
theorem kbbq{t:TypeId}{i:Nat}{L:Loc}(hL:μ i=some L){kd:IntKind}{n:Int}{v:AV}{u:Value}(hv:VRel μ v u){h':AH}(hp:mapSet h i n v=some h') :
  ∃w',(Instr.entryStore t (.map (some L.block)) (.int kd n) u).run P w=.ok () w'∧Good P O μ h w (.tup []) h' undef w':=by
 obtain⟨p,h1,h2⟩:=Option.bind_eq_some_iff.1 hp;obtain⟨j,h3,h4⟩:=Option.map_eq_some_iff.1 h2;subst h4;obtain⟨us,hw,he,hb⟩:=kcq S hL h1;refine⟨_,?_,kd6 S hL hb (us':=us.modify j fun e=>{e with val:=u}) (he.modify fun x y _ _ hk _ hbn=>⟨hk,hv,hbn⟩)⟩
 have hidx:us.findIdx? (fun e=>(e.born:Int)==n)=some j:=by
  have hl:=he.list;rw[show us.findIdx? (fun e=>(e.born:Int)==n)=us.toList.findIdx? (fun e=>(e.born:Int)==n)from by cases us;simp];clear he hb hw h1 hp h2;generalize us.toList=ul at hl;generalize p.1=el at hl h3
  induction el generalizing ul j with
  | nil=>simp at h3
  | cons x xs ih =>
   cases ul with
   | nil=>simp at hl
   | cons y ys =>
    obtain⟨y0,hy0,_,_,hbn⟩:=hl.2 0 x rfl;cases hy0;rw[List.findIdx?_cons]at h3⊢;rw[hbn];by_cases hx:(x.born:Int)=n
    ·simp[hx]at h3⊢;exact h3
    ·simp only[hx,decide_false,Bool.false_eq_true,if_false]at h3;simp only[beq_iff_eq,hx,if_false];obtain⟨j',hj',rfl⟩:=Option.map_eq_some_iff.1 h3;rw[ih _ ys ⟨by simpa using hl.1,fun k z hz=>hl.2 (k+1) z hz⟩ hj'];rfl
 simp[Instr.entryStore,MapKept.run_getObj_map hw,asInt,asIntOf,hidx,MapKept.run_setObj_map _ hw,Result.andThen]
omit S in
theorem ktn{kt:TypeId}{kd:IntKind}(h:pairKd P kt=some kd):∃e,P.underlying kt=some (.array 2 e)∧P.underlying e=some (.int kd)∧P.cellsOf e=1:=by
 unfold pairKd at h;split at h
 ·rename_i n e hk;split at h
  ·rename_i kd' he;obtain⟨hb,h⟩:=ki h;cases h;rw[Bool.and_eq_true]at hb;have h1:n=2:=by simpa using hb.1
   have h2:P.cellsOf e=1:=by simpa using hb.2
   subst h1;exact⟨e,hk,he,h2⟩
  ·cases h
 ·cases h
omit S in
theorem k8f{kt e:TypeId}{kd:IntKind}(hk:P.underlying kt=some (.array 2 e))(he:P.underlying e=some (.int kd))(hc:P.cellsOf e=1)(a b x y:Int)(w:World) :
  (Op.equal kt (.agg #[.int kd a,.int kd b]) (.agg #[.int kd x,.int kd y])).run P w=.ok (decide (a=x)&&decide (b=y)) w:=by
 have h:eqD P 2 kt (.agg [.int kd a,.int kd b]) (.agg [.int kd x,.int kd y])=some (decide (a=x)&&decide (b=y)):=by
  simp[eqD,hk,he,eqIs,partA,hc,isAggD,isStr,fits,eqCell,show List.range 2=[0,1]from rfl]
 have:=kq7 (P:=P) (μ:=fun _=>none) w 2 kt _ _ _ h (.agg #[.int kd a,.int kd b]) (.agg #[.int kd x,.int kd y]) (by simp[VRel,VRels,AV.one]) (by simp[VRel,VRels,AV.one]) 9998;exact this
omit S in
theorem kvq{kt e:TypeId}{kd:IntKind}(hk:P.underlying kt=some (.array 2 e))(he:P.underlying e=some (.int kd))(hc:P.cellsOf e=1)(a b:Int)(em:Bool)(w:World) :
  (Instr.checkKey em 10000 kt (.agg #[.int kd a,.int kd b])).run P w=.ok () w:=by
 obtain⟨i,hi⟩:=kps he;have hp:∀(j:Nat)(v:AV),partA P e [.int kd a,.int kd b] j=some v→∃u,(part e #[.int kd a,.int kd b] j).run P w=.ok u w∧VRel (fun _=>none) v u:=fun j v h=>kgp h (us:=#[.int kd a,.int kd b]) (by simp[VRel,VRels]) (by simp[AV.one]) w;obtain⟨u0,r0,v0⟩:=hp 0 (.int kd a) (by simp[partA,he,isAggD]);obtain⟨u1,r1,v1⟩:=hp 1 (.int kd b) (by simp[partA,he,isAggD]);simp only[VRel]at v0 v1;subst v0;subst v1;have c1:∀(m:Nat)(n:Int),(Instr.checkKey em (m+1) e (.int kd n)).run P w=.ok () w:=fun m n=>by simp[Instr.checkKey,run_underlying he]
 have key:∀m:Nat,(Instr.checkKey em (m+2) kt (.agg #[.int kd a,.int kd b])).run P w=.ok () w:=fun m=>by
  have c1:=c1 m;generalize hq:Instr.checkKey em (m+1)=q at c1;rw[show m+2=(m+1)+1 from rfl,Instr.checkKey,hq];simp only[Sem.run_bind,run_underlying hk,Result.andThen_ok];simp only[Std.Legacy.Range.forIn_eq_forIn_range',Std.Legacy.Range.size,Nat.sub_zero,Nat.add_one_sub_one,Nat.div_one,show List.range' 0 2=[0,1]from rfl];simp[run_sizeOf w hi,hc,r0,r1,c1,Result.andThen]
 exact key 9998
omit S in
theorem krj{kt e0:TypeId}{kd:IntKind}(hk:P.underlying kt=some (.array 2 e0))(he:P.underlying e0=some (.int kd))(hc:P.cellsOf e0=1){a b:Int}:∀{es:List AEnt}{us:List MapEntry}{i:Nat}{q:Option (Nat×AV)},(us.length=es.length∧∀(j:Nat)(e:AEnt),es[j]?=some e→∃u:MapEntry,us[j]?=some u∧VRel μ e.key u.key∧VRel μ e.val u.val∧u.born=e.born)→findP kd a b es i=some q→
  match q with
  | none=>(Instr.findAsking kt (.agg #[.int kd a,.int kd b]) us i).run P w=.ok none w
  | some x=>∃j u e,x.1=i+j∧es[j]?=some e∧e.val=x.2∧us[j]?=some u∧u.key=.agg #[.int kd a,.int kd b]∧(Instr.findAsking kt (.agg #[.int kd a,.int kd b]) us i).run P w=.ok (some (i+j,u.val)) w∧VRel μ x.2 u.val∧u.born=e.born
 | [],us,i,q,h,hf=>by
  simp only[findP,Option.some.injEq]at hf;subst hf;have:us=[]:=List.length_eq_zero_iff.1 h.1;subst this;simp[Instr.findAsking]
 | e::es,us,i,q,h,hf=>by
  cases us with
  | nil=>simp at h
  | cons u us =>
   obtain⟨u0,hu0,hkey,hv,hb⟩:=h.2 0 e rfl;cases hu0;have htl:us.length=es.length∧∀(j:Nat)(e:AEnt),es[j]?=some e→∃u:MapEntry,us[j]?=some u∧VRel μ e.key u.key∧VRel μ e.val u.val∧u.born=e.born:=⟨by simpa using h.1,fun j e he=>h.2 (j+1) e he⟩;simp only[findP]at hf;split at hf
   ·rename_i k1 x k2 y hek;obtain⟨hkd,hf⟩:=ki hf;rw[Bool.and_eq_true,decide_eq_true_eq,decide_eq_true_eq]at hkd;obtain⟨rfl,rfl⟩:=hkd;rw[hek]at hkey
    have hu:u.key=.agg #[.int k2 x,.int k2 y]:=by
     simp only[VRel,VRels]at hkey;obtain⟨vs,e1,e2,-⟩:=hkey;rw[e1];congr 1;apply Array.ext'
     simpa using e2
    have heq:=k8f hk he hc a b x y w;rcases kbt hf with⟨hc2,hf⟩ | ⟨hc2,hf⟩
    ·cases hf;rw[hc2]at heq;rw[Bool.and_eq_true,decide_eq_true_eq,decide_eq_true_eq]at hc2;obtain⟨rfl,rfl⟩:=hc2;exact⟨0,u,e,rfl,rfl,rfl,rfl,hu,by simp[Instr.findAsking,hu,heq],hv,hb⟩
    ·rw[hc2]at heq;have ih:=krj hk he hc htl hf
     have step:(Instr.findAsking kt (.agg #[.int k2 a,.int k2 b]) (u::us) i).run P w=(Instr.findAsking kt (.agg #[.int k2 a,.int k2 b]) us (i+1)).run P w:=by
      simp[Instr.findAsking,hu,heq]
     cases q with
     | none =>
      show(Instr.findAsking _ _ _ _).run P w=_;rw[step];exact ih
     | some z =>
      obtain⟨j,u',e',h1,h2,h4,h5,h6,h7,h8,h9⟩:=ih;exact⟨j+1,u',e',by omega,h2,h4,h5,h6,by rw[step,h7];congr 3;omega,h8,h9⟩
   ·cases hf
theorem kbb7{t kt et:TypeId}{kd:IntKind}(ht:P.underlying t=some (.map kt et))(hkp:pairKd P kt=some kd){i:Nat}{L:Loc}(hL:μ i=some L){a b:Int}{v:AV}{u:Value}(hv:VRel μ v u){h':AH}(hp:kix h i kd a b v=some h') :
  ∃w',(Instr.mapUpdate t (.map (some L.block)) (.agg #[.int kd a,.int kd b]) u).run P w=.ok () w'∧Good P O μ h w (.tup []) h' undef w':=by
 obtain⟨e0,hk,he,hc⟩:=ktn hkp;obtain⟨p,h1,h2⟩:=Option.bind_eq_some_iff.1 hp;obtain⟨q,h3,h4⟩:=Option.map_eq_some_iff.1 h2;obtain⟨us,hw,hen,hb⟩:=kcq S hL h1;have hf:=krj (w:=w) hk he hc hen.list h3;have hfk:=run_findKey_eq w (k:=kt) (by rw[hk]) (.agg #[.int kd a,.int kd b]) us.toList;have hck:=fun em=>kvq hk he hc a b em w;have hkr:VRel μ (.agg [.int kd a,.int kd b]) (.agg #[.int kd a,.int kd b]):=by simp[VRel,VRels,AV.one]
 cases q with
 | none =>
  subst h4;rw[hf]at hfk;refine⟨_,?_,kd6 S hL hb (us':=us.push {key:=.agg #[.int kd a,.int kd b],val:=u,born:=p.2}) (hen.push hkr hv rfl)⟩;simp[Instr.mapUpdate,run_underlying ht,MapKept.run_getObj_map hw,hck,hfk,MapKept.run_setObj_map _ hw,Result.andThen]
 | some x =>
  subst h4;obtain⟨j,u',e,e1,e2,e4,e5,e6,e7,e8,e9⟩:=hf;rw[Nat.zero_add]at e1 e7;rw[e7]at hfk;have hj:us[j]?=some u':=by simpa using e5
  dsimp only;rw[e1];refine⟨_,?_,kd6 S hL hb (us':=us.modify j fun e=>{e with key:=.agg #[.int kd a,.int kd b],val:=u}) (hen.modify fun x y _ _ _ _ hbn=>⟨hkr,hv,hbn⟩)⟩;have hst:(Instr.keyThatStays (.agg #[.int kd a,.int kd b]) (.agg #[.int kd a,.int kd b])).run P w=.ok (.agg #[.int kd a,.int kd b]) w:=by simp[Instr.keyThatStays,Instr.sameBits]
  simp[Instr.mapUpdate,run_underlying ht,MapKept.run_getObj_map hw,hck,hfk,hj,e6,hst,MapKept.run_setObj_map _ hw,Result.andThen]
theorem k2s{t kt et:TypeId}{kd:IntKind}(ht:P.underlying t=some (.map kt et))(hkp:pairKd P kt=some kd){r:Option Nat}{u:Value}(hr:VRel μ (.map r) u){a b:Int}{q:Option AV}(hq:khd h r kd a b=some q){z:AV}(hz:zeroA P et=some z)(ok:Bool) :
  ∃x,(Instr.lookup t u (.agg #[.int kd a,.int kd b]) ok).run P w=.ok x w∧VRel μ (cond ok (.tup [q.getD z,.bool q.isSome]) (q.getD z)) x:=by
 obtain⟨e0,hk,he,hc⟩:=ktn hkp;have hck:=fun em=>kvq hk he hc a b em w;obtain⟨uz,hz1,hz2⟩:=kof (μ:=μ) hz w
 have fin:∀(x:Value)(b:Bool)(a:AV),VRel μ a x→VRel μ (cond ok (.tup [a,.bool b]) a) (if ok=true then .tuple #[x,.bool b]else x):=by
  intro x b a hx;cases ok
  ·exact hx
  ·simp[VRel,VRels,hx]
 cases r with
 | none =>
  simp only[khd,Option.some.injEq]at hq;subst hq;simp only[VRel]at hr;subst hr;refine⟨_,?_,fin uz false z hz2⟩;simp[Instr.lookup,run_underlying ht,hck,Instr.findKey,run_underlying hk,Instr.findNow,hz1,Result.andThen]
 | some i =>
  simp only[VRel]at hr;obtain⟨L,hL,rfl⟩:=hr;obtain⟨p,h1,h2⟩:=Option.bind_eq_some_iff.1 hq;obtain⟨q',h3,h4⟩:=Option.map_eq_some_iff.1 h2;subst h4;obtain⟨us,hw,hen,hb⟩:=kcq S hL h1;have hf:=krj (w:=w) hk he hc hen.list h3;have hfk:=run_findKey_eq w (k:=kt) (by rw[hk]) (.agg #[.int kd a,.int kd b]) us.toList;cases q' with
  | none =>
   rw[hf]at hfk;refine⟨_,?_,fin uz false z hz2⟩;simp[Instr.lookup,run_underlying ht,MapKept.run_getObj_map hw,hck,hfk,hz1,Result.andThen]
  | some x =>
   obtain⟨j,u',e,e1,e2,e4,e5,e6,e7,e8,e9⟩:=hf;rw[e7]at hfk;refine⟨_,?_,fin u'.val true x.2 e8⟩;simp[Instr.lookup,run_underlying ht,MapKept.run_getObj_map hw,hck,hfk,Result.andThen]
end ops
end Go.Ab
namespace Go.Ab
variable{P:Program}{O:World}{R:Type}
def Ends(G:Value→World→Prop):Ending→World→Prop:=fun e w'=>∃u,e=.returned u∧G u w'
def mark(r:Nat):Deferred:={target:=.collected r,args:=#[]}
structure Marks(O:World)(μ:Mu)(h:AH)(w:World)(ds:List Nat):Prop where
 nodup:ds.Nodup
 old:∀r∈ds,O.heap.size≤r∧r<w.heap.size
 has:∀r∈ds,w.heap[r]?=some (.deferred (some []))
 free:∀r∈ds,∀i L,Live h i→μ i=some L→L.block≠r
theorem Marks.nil{μ:Mu}{h:AH}{w:World}:Marks O μ h w []:=⟨by simp,by simp,by simp,by simp⟩
theorem Marks.step{μ ν:Mu}{h h':AH}{w w':World}{ds:List Nat}(m:Marks O μ h w ds)(S:Sim P O μ h w)(S':Sim P O ν h' w')(e:Ext μ h w ν h')(f:Frm μ h w w'):Marks O ν h' w' ds:=by
 refine⟨m.nodup,fun r hr=>⟨(m.old r hr).1,Nat.lt_of_lt_of_le (m.old r hr).2 f.1⟩,fun r hr=>?_,fun r hr i L hl hL he=>?_⟩
 ·rw[f.2 r (m.old r hr).2 fun i L _ hl hL=>m.free r hr i L hl hL];exact m.has r hr
 ·obtain⟨e1,e2,e3,e4,e5⟩:=e;rcases Nat.lt_or_ge i h.blks.size with hlt | hge
  ·exact m.free r hr i L (e4 i hlt hl) (by rw[← e3 i hlt];exact hL) he
  ·rcases e5 i L hge (S'.dom i L hL) hL with h1 | ⟨j,M,hj,hl',hM,hb⟩
   ·have:=(m.old r hr).2;omega
   ·exact m.free r hr j M hl' hM (hb.trans he)
def GoodX(P:Program)(O:World)(ds:List Nat)(μ:Mu)(h:AH)(w:World)(v:AV)(h':AH)(u:Value)(w':World):Prop :=
 ∃ν,VRel ν v u∧Sim P O ν h' w'∧Ext μ h w ν h'∧w.heap.size≤w'.heap.size∧∀b,b<w.heap.size→b∉ds→(∀i L,i<h.blks.size→Live h i→μ i=some L→L.block≠b)→w'.heap[b]?=w.heap[b]?
theorem GoodX.nil{μ:Mu}{h:AH}{w:World}{v:AV}{h':AH}{u:Value}{w':World}(g:GoodX P O [] μ h w v h' u w'):Good P O μ h w v h' u w':=by
 obtain⟨ν,g1,g2,g3,g4,g5⟩:=g;exact⟨ν,g1,g2,g3,g4,fun b hb hn=>g5 b hb (by simp) hn⟩
theorem GoodX.trans{μ ν:Mu}{h h1:AH}{w w1:World}{v:AV}{h':AH}{u:Value}{w':World}{ds ds':List Nat}(e:Ext μ h w ν h1)(f:Frm μ h w w1)(hds:∀r∈ds',r∈ds∨w.heap.size≤r)(g:GoodX P O ds' ν h1 w1 v h' u w'):GoodX P O ds μ h w v h' u w':=by
 obtain⟨ξ,g1,g2,g3,g4,g5⟩:=g;refine⟨ξ,g1,g2,e.trans g3 f.1,Nat.le_trans f.1 g4,fun k hk hkd hn=>(g5 k (Nat.lt_of_lt_of_le hk f.1) ?_ fun i L hi hl hL he=>?_).trans (f.2 k hk hn)⟩
 ·intro hm;rcases hds k hm with h1 | h1
  ·exact hkd h1
  ·omega
 ·obtain⟨e1,e2,e3,e4,e5⟩:=e;rcases Nat.lt_or_ge i h.blks.size with hlt | hge
  ·exact hn i L hlt (e4 i hlt hl) (by rw[← e3 i hlt];exact hL) he
  ·rcases e5 i L hge hi hL with h1 | ⟨j,M,hj,hl',hM,hb⟩
   ·omega
   ·exact hn j M hj hl' hM (hb.trans he)
def Fin(P:Program)(ro:Option Nat)(b:Frame)(todo:List Item)(a:Act)(w:World)(G:Value→World→Prop):Prop :=
 match ro with
 | none=>∀cs,∃u w' fr,G u w'∧Steps P (lone (b.atR a todo) cs w) (lone fr cs w')∧fr.fn=b.fn∧fr.leaving P w' (.returned u)
 | some _=>∀c cs,∃u w',G u w'∧Steps P (lone (b.atR a todo) (c::cs) w) (lone (c.finish u) cs w')
theorem Fin.of_steps{ro:Option Nat}{b:Frame}{todo todo':List Item}{a a':Act}{w w':World}{G:Value→World→Prop}(hs:∀cs,Steps P (lone (b.atR a todo) cs w) (lone (b.atR a' todo') cs w'))(h:Fin P ro b todo' a' w' G):Fin P ro b todo a w G:=by
 cases ro with
 | none =>
  intro cs;obtain⟨u,w2,fr,h1,h2,h3⟩:=h cs;exact⟨u,w2,fr,h1,(hs cs).trans h2,h3⟩
 | some l =>
  intro c cs;obtain⟨u,w2,h1,h2⟩:=h c cs;exact⟨u,w2,h1,(hs _).trans h2⟩
theorem Fin.mono{ro:Option Nat}{b:Frame}{todo:List Item}{a:Act}{w:World}{G G':Value→World→Prop}(h:Fin P ro b todo a w G)(hr:∀u w',G u w'→G' u w'):Fin P ro b todo a w G':=by
 cases ro with
 | none =>
  intro cs;obtain⟨u,w2,fr,h1,h2⟩:=h cs;exact⟨u,w2,fr,hr _ _ h1,h2⟩
 | some l =>
  intro c cs;obtain⟨u,w2,h1,h2⟩:=h c cs;exact⟨u,w2,hr _ _ h1,h2⟩
theorem Fin.of_some{ro:Option Nat}{b:Frame}{todo todo':List Item}{a:Act}{w:World}{G:Value→World→Prop}{X:Act→World→Prop}(hs:∀cs,∃a' w',X a' w'∧Steps P (lone (b.atR a todo) cs w) (lone (b.atR a' todo') cs w'))(h:∀a' w',X a' w'→Fin P ro b todo' a' w' G):Fin P ro b todo a w G:=by
 cases ro with
 | none =>
  intro cs;obtain⟨a',w',hx,hst⟩:=hs cs;obtain⟨u,w2,fr,h1,h2,h3⟩:=h a' w' hx cs;exact⟨u,w2,fr,h1,hst.trans h2,h3⟩
 | some l =>
  intro c cs;obtain⟨a',w',hx,hst⟩:=hs (c::cs);obtain⟨u,w2,h1,h2⟩:=h a' w' hx c cs;exact⟨u,w2,h1,hst.trans h2⟩
theorem ky6{fr:Frame}{cs:List Frame}{w:World}{r:Nat}{ds:List Deferred}(hm:fr.mode=.returning)(hd:fr.defers=mark r::ds)(hr:w.heap[r]?=some (.deferred (some []))) :
  step P (lone fr cs w)=.next (lone {fr with defers:=ds} cs (w.putObj r (.deferred none))) :=
 step_lone_go (by
  have:=run_takeDeferred (P:=P) hr;simp[stepG,unwind,hm,hd,mark,Sem.runT_eq,this])
theorem returns{fn:Func}{v:AV}{h:AH}:∀(ds:List Nat){μ:Mu}{w:World}(k:Frame),P.funcs[k.fn]?=some fn→k.kind=.normal→k.mode=.returning→
  k.defers=ds.map mark→Sim P O μ h w→Marks O μ h w ds→(∀w',Sim P O μ h w'→∃u,(results fn k.tmps).run P w'=.ok u w'∧VRel μ v u)→
  ∀cs,∃u w' fr',GoodX P O ds μ h w v h u w'∧Steps P (lone k cs w) (lone fr' cs w')∧fr'.fn=k.fn∧fr'.leaving P w' (.returned u)
 | [],μ,w,k,hfn,hk,hm,hd,S,M,hr,cs=>by
  obtain⟨u,h1,h2⟩:=hr w S;exact⟨u,w,k,⟨μ,h2,S,Ext.refl _ _ _,Nat.le_refl _,fun _ _ _ _=>rfl⟩,Steps.refl _ _,rfl,hm,by rw[hd];rfl,hk,fn,hfn,h1⟩
 | r::ds,μ,w,k,hfn,hk,hm,hd,S,M,hr,cs=>by
  have hold:=M.old r (by simp);have S':Sim P O μ h (w.putObj r (.deferred none)):=kzg S hold.1 (fun i L hl hL=>M.free r (by simp) i L hl hL) _;have hnd:=List.nodup_cons.1 M.nodup
  have M':Marks O μ h (w.putObj r (.deferred none)) ds:=⟨hnd.2,fun x hx=>by simpa using M.old x (by simp[hx]),fun x hx=>by
   rw[World.putObj_heap_other (fun e=>hnd.1 (by rw[← e];exact hx))];exact M.has x (by simp[hx]),fun x hx=>M.free x (by simp[hx])⟩
  obtain⟨u,w',fr',g,st,e1,e2⟩:=returns ds {k with defers:=ds.map mark} hfn hk hm rfl S' M' hr cs;obtain⟨ν,g1,g2,g3,g4,g5⟩:=g;refine⟨u,w',fr',⟨ν,g1,g2,?_,by simpa using g4,fun b hb hbd hn=>?_⟩,Steps.trans (Steps.one (ky6 hm hd (M.has r (by simp)))) st,e1,e2⟩
  ·obtain⟨e1,e2,e3,e4,e5⟩:=g3;exact⟨e1,e2,e3,e4,fun i L a b c=>by have:=e5 i L a b c;simpa using this⟩
  ·have hbr:b≠r:=fun e=>hbd (by simp[e]);rw[g5 b (by simpa using hb) (fun hm=>hbd (by simp[hm])) hn,World.putObj_heap_other hbr]
section steps
variable{b:Frame}{a:Act}{k:List Item}{cs:List Frame}{w:World}
theorem kbc1{body:Code}:step P (lone (b.atR a (.code (.scope body)::k)) cs w)=.next (lone (b.atR a (.code body::.inScope body::k)) cs w) :=
 step_lone_go (by simp[stepG,stepG.exec,Frame.atR])
theorem k47{body:Code}:step P (lone (b.atR a (.inScope body::k)) cs w)=.next (lone (b.atR a k) cs w) :=
 step_lone_go (by simp[stepG,stepG.exec,Frame.atR])
end steps
def kur(P:Program)(l:Nat)(args:Array Value)(w:World)(G:Value→World→Prop):Prop :=
 ∃f tmps as bd,(Instr.yield l args).run P w=.ok (.round l f tmps as bd) w∧∀c cs,∃u w',G u w'∧Steps P (lone (Frame.round l f tmps as bd .normal) (c::cs) w) (lone (c.finish u) cs w')
structure RecOk(P:Program)(O:World)(rec:Rec):Prop where
 fn:∀{f:FuncId}{xs:List AV}{h:AH}{v:AV}{h':AH},rec (.fn f xs) h=some (v,h')→∀{μ:Mu}{w:World}{us:List Value},Sim P O μ h w→VRels μ xs us→
  Calls P f us.toArray w (Ends (Good P O μ h w v h'))
 pt:∀{f:FuncId}{todo:List Item}{fr:Fr}{h:AH}{v:AV}{h':AH},rec (.pt f todo fr) h=some (v,h')→∀{fn:Func},P.funcs[f]?=some fn→∀{μ:Mu}{w:World}{b:Frame}{a:Act}{ds:List Nat},b.fn=f→b.kind=.normal→b.roundOf=none→a.defers=ds.map mark→Marks O μ h w ds→
  Sim P O μ h w→FRel μ fn.ntmps fr a.tmps→Fin P none b todo a w (GoodX P O ds μ h w v h')
 round:∀{l:Nat}{xs:List AV}{h:AH}{v:AV}{h':AH},rec (.round l xs) h=some (v,h')→∀{μ:Mu}{w:World}{us:List Value}{L:Loc},Sim P O μ h w→VRels μ xs us→μ l=some L→
  kur P L.block us.toArray w (Good P O μ h w v h')
 rpt:∀{l:Nat}{f:FuncId}{todo:List Item}{fr:Fr}{h:AH}{v:AV}{h':AH},rec (.rpt l f todo fr) h=some (v,h')→∀{fn:Func},P.funcs[f]?=some fn→∀{μ:Mu}{w:World}{b:Frame}{a:Act}{L:Loc},b.fn=f→b.kind=.normal→μ l=some L→b.roundOf=some L.block→a.defers=[]→
  Sim P O μ h w→FRel μ fn.ntmps fr a.tmps→Fin P (some l) b todo a w (GoodX P O [] μ h w v h')
theorem kpe{rec:Rec}(hrec:RecOk P O rec){f:FuncId}{xs:List AV}{h:AH}{v:AV}{h':AH}(hc:callF P rec f xs h=some (v,h')){μ:Mu}{w:World}{us:List Value}(S:Sim P O μ h w)(hx:VRels μ xs us) :
  ((callFunc f us.toArray).run P w=.ok (.enter f us.toArray) w∧Calls P f us.toArray w (Ends (Good P O μ h w v h')))∨∃u,(callFunc f us.toArray).run P w=.ok (.value u) w∧Good P O μ h w v h' u w:=by
 unfold callF at hc;split at hc
 ·rename_i fn hf;obtain⟨hname,hc1⟩:=kc2 hc;have hname':fn.name≠ "runtime.NumGoroutine" := by simpa using hname
  split at hc1
  ·rename_i c hb
   left
   refine⟨?_,hrec.fn hc1 S hx⟩;simp[callFunc,hf,hname',hb]
  ·rename_i hb;obtain⟨ho,hc2⟩:=ki hc1;simp only[beq_iff_eq]at ho;simp only[Option.map_eq_some_iff,Prod.mk.injEq]at hc2;obtain⟨x,hp,rfl,rfl⟩:=hc2;obtain⟨u,hu,hvu⟩:=kbef hf hname hb ho hp hx w;exact .inr ⟨u,hu,Good.pure S hvu⟩
 ·cases hc
theorem kbdh(ts:Array TypeId)(t:TypeId)(ad:Addr)(s m:ByteArray)(w:World):(Builtin.ssaWrapNilChk_ ts t #[.pointer (some ad),.string s,.string m]).run P w=.ok (.pointer (some ad)) w:=rfl
theorem k97{μ:Mu}{h:AH}{w:World}(S:Sim P O μ h w){t:TypeId}{name:String}{v:AV}{u:Value}(hv:VRel μ v u){R:Type}{k:FuncId→AV→Option R}{r:R}(hk:khm P t name v h k=some r)(n:Nat) :
  ∃f v' u',k f v'=some r∧VRel μ v' u'∧(method (n+1) t u name).run P w=.ok (f,u') w:=by
 unfold khm at hk;split at hk
 ·rename_i i hi;split at hk
  ·rename_i m hm;obtain⟨hp,hk⟩:=ki hk;have hp':m.path.toList=[]:=by simpa using hp
   have base:∀(f:FuncId)(b:Bool),m.func=some (f,b)→(method (n+1) t u name).run P w=(do pure (f,← receiverAt t (.val u) b (some ((name.splitOn ".").getLastD name))):Sem (FuncId×Value)).run P w:=by
    intro f b hf;have hp2:m.path=#[]:=by simpa using hp
    simp[method,typeInfo,hi,hm,hp2,follow,hf]
   split at hk
   ·rename_i f e hf hu _;refine⟨f,_,u,hk,hv,?_⟩;rw[base f true hf];simp only[receiverAt,Sem.run_bind,run_underlying hu,Result.andThen_ok,Place.get,Sem.run_pure]
   ·rename_i f e q hf hu _;simp only[VRel]at hv;obtain⟨ad,hr,rfl⟩:=hv;obtain⟨v',u',hk,hvu,hl⟩:=kq9 S hr hk;refine⟨f,v',u',hk,hvu,?_⟩;rw[base f false hf];simp only[receiverAt,Sem.run_bind,run_underlying hu,Result.andThen_ok,Place.get,Sem.run_pure,strVal,kbdh,asAddr,hl]
   ·cases hk
  ·cases hk
 ·cases hk
theorem k53{rec:Rec}(hrec:RecOk P O rec){μ:Mu}{N:Nat}{fr:Fr}{h:AH}{w:World}{o:Oper}{a:Act}(S:Sim P O μ h w)(F:FRel μ N fr a.tmps){c:Call}(ho:o.op=.call c)
  {k:AV→AH→Option R} {r:R} (hk:callK P rec c o.type fr h k=some r):OpOk P O μ h w o a k r:=by
 unfold callK at hk;split at hk
 ·cases hk
 ·rename_i xs hxs;have hx:=kcs F hxs;have hargs:c.args.map a.eval=(c.args.toList.map a.eval).toArray:=by apply Array.ext';simp
  split at hk
  ·rename_i b hb;obtain⟨v,h1,hk2,u,w',hr,g⟩:=k6e S hx hk o.type (c.args.map fun | .const _=>true | _=>false);refine⟨v,h1,hk2,OpGoes.of_value ?_ g⟩;rw[kis _ _ _ ho];simp only[resolve,hb,Sem.run_bind,Sem.run_pure,Result.andThen_ok,invoke,hargs];exact hr
  ·rename_i f hcal;split at hk
   ·rename_i fv hfv;simp only[Option.bind_eq_some_iff]at hk;obtain⟨q,hq,hk2⟩:=hk;have hk3:=kp9 hk2;obtain⟨v,h1⟩:=q;refine⟨v,h1,hk3,?_⟩;have hvf:=kp F hfv;unfold callV at hq;split at hq
    ·rename_i g first captured
     simp only[VRel]at hvf;obtain⟨g',x,y,he,hg,hxx,hyy⟩:=hvf;simp only[FnRel]at hg;subst hg;have hall:VRels μ (first++xs++captured) (x.toList++c.args.toList.map a.eval++y.toList):=(hxx.append hx).append hyy;have harr:x++c.args.map a.eval++y=(x.toList++c.args.toList.map a.eval++y.toList).toArray:=by apply Array.ext';simp
     have hex:(execOp a.eval o).run P w=(callFunc g (x.toList++c.args.toList.map a.eval++y.toList).toArray).run P w:=by
      rw[kis _ _ _ ho,← harr];simp only[resolve,hcal,he,Deferred.ofValue,Sem.run_bind,Sem.run_pure,Result.andThen_ok,invoke]
     rcases kpe hrec hq S hall with⟨h2,h3⟩ | ⟨u,h2,g2⟩
     ·exact OpGoes.of_call (by rw[hex];exact h2) h3
     ·exact OpGoes.of_value (by rw[hex];exact h2) g2
    ·cases hq
   ·cases hk
  ·rename_i rc name hcal;split at hk
   ·rename_i fv hfv;simp only[Option.bind_eq_some_iff]at hk;obtain⟨⟨ty',y⟩,hp,hk⟩:=hk;have hvf:=kp F hfv;rw[kx1 hp]at hvf;simp only[VRel]at hvf;obtain⟨uu,he,hu⟩:=hvf;obtain⟨n,hn⟩:∃n,P.types.size+Made.depth=n+1:=⟨P.types.size+99,rfl⟩;obtain⟨g,v',u',hk,hvu,hmr⟩:=k97 S hu hk n;simp only[Option.bind_eq_some_iff]at hk;obtain⟨q,hq,hk2⟩:=hk;have hk3:=kp9 hk2;obtain⟨v,h1⟩:=q;refine⟨v,h1,hk3,?_⟩;have hall:VRels μ (v'::xs) (u'::c.args.toList.map a.eval):=VRels.cons hvu hx
    have hex:(execOp a.eval o).run P w=(callFunc g (u'::c.args.toList.map a.eval).toArray).run P w:=by
     rw[kis _ _ _ ho];have harr:#[u']++c.args.map a.eval=(u'::c.args.toList.map a.eval).toArray:=by apply Array.ext';simp
     have hxt:(#[a.eval rc]++c.args.map a.eval).extract 1 (#[a.eval rc]++c.args.map a.eval).size=c.args.map a.eval:=by
      apply Array.ext';simp[List.take_of_length_le]
     rw[← harr];simp only[resolve,hcal,Sem.run_bind,Sem.run_pure,Result.andThen_ok,invoke,hxt];have h0:(#[a.eval rc]++c.args.map a.eval)[0]?=some (a.eval rc):=by rw[Array.getElem?_append_left (by simp)];rfl
     rw[h0];simp[callMethod,he,hn,hmr]
    rcases kpe hrec hq S hall with⟨h2,h3⟩ | ⟨u,h2,g2⟩
    ·exact OpGoes.of_call (by rw[hex];exact h2) h3
    ·exact OpGoes.of_value (by rw[hex];exact h2) g2
   ·cases hk
theorem krd{rec:Rec}(hrec:RecOk P O rec){μ:Mu}{N:Nat}{fr:Fr}{h:AH}{w:World}{o:Oper}{a:Act}(S:Sim P O μ h w)(F:FRel μ N fr a.tmps)
  {k:AV→AH→Option R} {r:R} (hk:opK P rec o.op o.type fr h k=some r):OpOk P O μ h w o a k r:=by
 by_cases hc:∃c,o.op=.call c
 ·obtain⟨c,hc⟩:=hc;have:callK P rec c o.type fr h k=some r:=by rw[hc]at hk;exact hk
  exact k53 hrec S F hc this
 ·exact kbct (rec:=rec) S F (fun c e=>hc ⟨c,e⟩) hk
def After(P:Program)(O:World)(μ:Mu)(N:Nat)(h:AH)(w:World)(ds:List Deferred)(k:Fr→AH→Option (AV×AH))(r:AV×AH):Exit→Act→World→Prop:=fun e a w' =>
 e=.normal∧a.defers=ds∧∃fr' h' ν,k fr' h'=some r∧Sim P O ν h' w'∧FRel ν N fr' a.tmps∧Ext μ h w ν h'∧Frm μ h w w'
theorem After.trans{μ ν:Mu}{N:Nat}{h h1:AH}{w w1:World}{ds:List Deferred}{k:Fr→AH→Option (AV×AH)}{r:AV×AH}(e:Ext μ h w ν h1)(f:Frm μ h w w1){x:Exit}{a:Act}{w':World}(g:After P O ν N h1 w1 ds k r x a w'):After P O μ N h w ds k r x a w':=by
 obtain⟨g1,g2,fr',h',ξ,g3,g4,g5,g6,g7⟩:=g;exact⟨g1,g2,fr',h',ξ,g3,g4,g5,e.trans g6 f.1,f.trans e g7⟩
theorem ksb{N:Nat}{d:Option Tmp}{v:AV}{fr:Fr}{k:Fr→Option (AV×AH)}{r:AV×AH}(h:putT N d v fr k=some r){μ:Mu}{a:Act}(F:FRel μ N fr a.tmps){u:Value}(hv:VRel μ v u) :
  ∃fr',k fr'=some r∧FRel μ N fr' (a.put d u).tmps:=by
 rw[kgl]at h;cases d with
 | none=>exact⟨fr,h,F⟩
 | some t =>
  obtain⟨hlt,h⟩:=ki h;exact⟨_,h,F.put (by simpa[Nat.blt_eq]using hlt) hv⟩
theorem put_defers(a:Act)(d:Option Tmp)(u:Value):(a.put d u).defers=a.defers:=by cases d<;>rfl
theorem k8r{o:Oper}{a:Act}{w:World}{G:Value→World→Prop}(hg:OpGoes P o a w G)(hnd:∀c,o.op≠.defer c){ops:Array Oper}{i:Nat}{rest:List Nat}(ho:ops[i]?=some o)(hw:Region.wanted o (yielded ops a.tmps)=true)(b:Frame)(k:List Item)(cs:List Frame) :
  ∃u w',G u w'∧Steps P (lone (b.atR a (.inRegion ops (i::rest)::k)) cs w) (lone (b.atR (a.put o.dst u) (.inRegion ops rest::k)) cs w'):=by
 have h:=hg (fun a' w'=>∃u,G u w'∧a'=a.put o.dst u) (fun _ _ _=>False) (fun u w' g=>⟨u,g,rfl⟩);have hgo:=stepGR_op (P:=P) (b:=b) (k:=k) (cs:=cs) (w:=w) (rest:=rest) ho hw;rw[Oper.semAt_eq _ _ _ hnd]at hgo
 have hfin:∀v,(b.atR a (.inRegion ops (i::rest)::k)).finish v=b.atR (a.put o.dst v) (.inRegion ops rest::k):=by
  intro v;rw[Frame.finish_atR,ho];rfl
 simp only[Oper.wp,Oper.upon]at h;split at h
 ·rename_i v w' hr;obtain⟨u,g,e⟩:=h;refine⟨u,w',g,Steps.one (step_lone_go ?_)⟩;rw[← e,hgo,← hfin];simp[stepG.apply,hr]
 ·rename_i w' hr;obtain⟨u,g,e⟩:=h;refine⟨u,w',g,Steps.one (step_lone_go ?_)⟩;rw[← e,hgo,← hfin];simp[stepG.apply,hr]
 ·rename_i d w' hr;obtain⟨u,g,e⟩:=h;have:=congrArg Act.defers e;rw[put_defers,put_defers]at this;simp at this
 ·rename_i f args w' hr;obtain⟨e,w'',fr,hR,hsteps,_,hleave⟩:=h (b.atR a (.inRegion ops (i::rest)::k)::cs)
  have henter:step P (lone (b.atR a (.inRegion ops (i::rest)::k)) cs w)=.next (lone (Frame.enter P f args .normal) (b.atR a (.inRegion ops (i::rest)::k)::cs) w') :=
   step_lone_go (by rw[hgo];simp[stepG.apply,hr,Frame.atR])
  cases e with
  | returned v =>
   obtain⟨u,g,e⟩:=hR;refine⟨u,w'',g,.head henter (hsteps.trans (.one ?_))⟩;rw[← e,← hfin];exact step_leave_returned hleave
  | panicked chain=>exact hR.elim
  | outgrown =>
   obtain⟨_,_,hq⟩:=hR;exact hq.elim
 ·rename_i row args w' hr;obtain⟨v,w'',hR,hsteps⟩:=h (b.atR a (.inRegion ops (i::rest)::k)) cs
  have henter:step P (lone (b.atR a (.inRegion ops (i::rest)::k)) cs w)=.next (lone (Frame.ofRow P row args .normal) (b.atR a (.inRegion ops (i::rest)::k)::cs) w') :=
   step_lone_go (by rw[hgo];simp[stepG.apply,hr,Frame.atR])
  obtain⟨u,g,e⟩:=hR;refine⟨u,w'',g,.head henter ?_⟩;rw[← e,← hfin];exact hsteps
 ·exact h.elim
 ·exact h.elim
theorem kbcn{o:Oper}{a:Act}{w:World}{G:Value→World→Prop}{c:Call}{f:Operand}{l:Nat}(hop:o.op=.call c)(hc:c.callee=.value f)(hf:a.eval f=.func (.yield l) #[] #[])(hR:kur P l (c.args.map a.eval) w G){ops:Array Oper}{i:Nat}{rest:List Nat}(ho:ops[i]?=some o)(hw:Region.wanted o (yielded ops a.tmps)=true)(b:Frame)(k:List Item)(cs:List Frame) :
  ∃u w',G u w'∧Steps P (lone (b.atR a (.inRegion ops (i::rest)::k)) cs w) (lone (b.atR (a.put o.dst u) (.inRegion ops rest::k)) cs w'):=by
 obtain⟨fn,tmps,as,bd,hy,hs⟩:=hR;have hgo:=stepGR_op (P:=P) (b:=b) (k:=k) (cs:=cs) (w:=w) (rest:=rest) ho hw;rw[Oper.semAt_eq _ _ _ (by rw[hop];intro c;simp)]at hgo
 have hfin:∀v,(b.atR a (.inRegion ops (i::rest)::k)).finish v=b.atR (a.put o.dst v) (.inRegion ops rest::k):=by
  intro v;rw[Frame.finish_atR,ho];rfl
 have hr:(execOp a.eval o).run P w=.ok (.round l fn tmps as bd) w:=by
  rw[kis _ _ _ hop];simp only[resolve,hc,hf,Deferred.ofValue,Sem.run_bind,Sem.run_pure,Result.andThen_ok,invoke]
  simpa using hy
 obtain⟨u,w',g,st⟩:=hs (b.atR a (.inRegion ops (i::rest)::k)) cs;refine⟨u,w',g,.head (m₁:=lone (Frame.round l fn tmps as bd .normal) (b.atR a (.inRegion ops (i::rest)::k)::cs) w) (step_lone_go ?_) ?_⟩
 ·rw[hgo];simp[stepG.apply,hr]
 ·rw[← hfin];exact st
theorem k9a{o:Op}{fr:Fr}{p:Nat×List AV}(h:khk o fr=some p):∃c f,o=.call c∧c.callee=.value f∧evs fr c.args.toList=some p.2∧evO fr f=some (.func (.yield p.1) [] []):=by
 unfold khk at h;split at h
 ·rename_i c;split at h
  ·rename_i f xs hc hx;split at h
   ·rename_i l hf;cases h;exact⟨c,f,rfl,hc,hx,hf⟩
   ·cases h
  ·cases h
 ·cases h
theorem kol{rec:Rec}(hrec:RecOk P O rec){N:Nat}{μ:Mu}{fr:Fr}{h:AH}{w:World}{o:Oper}{a:Act}(S:Sim P O μ h w)(F:FRel μ N fr a.tmps)
  {k:AV→AH→Option R} {r:R} (hk:opM P rec o.op o.type fr h k=some r):OpOk P O μ h w o a k r∧∀c,o.op≠.defer c:=by
 have put:∀{t:TypeId}{m x v:Operand},(execOp a.eval o=do Instr.mapUpdate t (a.eval m) (a.eval x) (a.eval v);pure .skip)→(match P.underlying t,evO fr m,evO fr x,evO fr v with
  | some (.map kt _),some (.map r),some (.int kd n),some val=>match P.underlying kt with
   | some (.int kd')=>cond (decide (kd=kd')) (r.bind fun i=>(mapPut h i kd n val).bind fun h'=>k (.tup []) h') none
   | _=>none
  | _,_,_,_=>none)=some r→OpOk P O μ h w o a k r:=by
  intro t m x v he hk;split at hk
  ·rename_i kt et r0 kd n val ht hm hx hv;split at hk
   ·rename_i kd' hkt;obtain⟨hkd,hk2⟩:=ki hk;have hkd:kd=kd':=by simpa using hkd
    subst hkd;obtain⟨i,rfl,hk9⟩:=Option.bind_eq_some_iff.1 hk2;obtain⟨h',hp,hk3⟩:=Option.bind_eq_some_iff.1 hk9;have h1:=kp F hm;have h2:=kp F hx;have h3:=kp F hv;simp only[VRel]at h1 h2;obtain⟨L,hL,h1⟩:=h1;obtain⟨w',hr,g⟩:=kba7 S ht hkt hL h3 hp;refine⟨_,h',hk3,OpGoes.of_skip (w':=w') ?_ g⟩;rw[he,h1,h2];simp only[Sem.run_bind,hr,Result.andThen_ok,Sem.run_pure]
   ·cases hk
  ·cases hk
 unfold opM at hk;split at hk
 ·rename_i t hop;refine⟨⟨_,_,hk,?_⟩,by intro c;rw[hop];simp⟩;obtain⟨s1,s2,s3⟩:=kqv S (b:=.map [] 0) (n:=0) (o:=.map #[] 0) (fun ν hle=>⟨#[],ke9 _ _,rfl,by simp⟩);refine OpGoes.of_sem (s:=Instr.makeMap t none) (u:=.map (some w.heap.size)) (w':=w.alloc (.map #[] 0)) (by simp[execOp,hop]) ?_ ⟨_,?_,s1,s2,s3⟩
  ·simp[Instr.makeMap,run_newObj_alloc,Result.andThen]
  ·simp only[VRel];exact⟨_,kdc _ _ _,rfl⟩
 ·rename_i t m x v hop;exact⟨put (by simp[execOp,hop]) hk,by intro c;rw[hop];simp⟩
 ·rename_i t m x v hop;exact⟨put (by simp[execOp,hop]) hk,by intro c;rw[hop];simp⟩
 ·rename_i t m x ok hop;refine⟨?_,by intro c;rw[hop];simp⟩;split at hk
  ·rename_i kt et q kd n ht hm hx;split at hk
   ·rename_i kd' z hkt hz;obtain⟨hkd,hk2⟩:=ki hk;have hkd:kd=kd':=by simpa using hkd
    subst hkd;obtain⟨q',hp,hk3⟩:=Option.bind_eq_some_iff.1 hk2;have h1:=kp F hm;have h2:=kp F hx;simp only[VRel]at h2;obtain⟨u,hr,hv⟩:=k1x S ht hkt h1 hp hz ok;have hk4:k (cond ok (.tup [q'.getD z,.bool q'.isSome]) (q'.getD z)) h=some r:=by have hk5:=kce hk3;cases ok<;>exact hk5
    refine⟨_,h,hk4,OpGoes.of_sem (s:=Instr.lookup t (a.eval m) (a.eval x) ok) (by simp[execOp,hop]) ?_ (Good.pure S hv)⟩;rw[h2];exact hr
   ·cases hk
  ·cases hk
 ·rename_i t m x hop;refine⟨?_,by intro c;rw[hop];simp⟩;split at hk
  ·rename_i kt et i kd n ht hm hx;split at hk
   ·rename_i kd' z hkt hz;obtain⟨hkd,hk2⟩:=ki hk;have hkd:kd=kd':=by simpa using hkd
    subst hkd;obtain⟨q',hp,hk3⟩:=Option.bind_eq_some_iff.1 hk2;have h1:=kp F hm;have h2:=kp F hx;simp only[VRel]at h1 h2;obtain⟨L,hL,h1⟩:=h1;obtain⟨u,w',hr,g⟩:=kba5 S ht hkt hL hz hp;refine⟨_,_,kce hk3,OpGoes.of_sem (s:=Instr.mapEntry t (a.eval m) (a.eval x)) (by simp[execOp,hop]) ?_ g⟩;rw[h1,h2];exact hr
   ·cases hk
  ·cases hk
 ·rename_i t m s v hop;refine⟨?_,by intro c;rw[hop];simp⟩;split at hk
  ·rename_i i kd n val hm hs hv;obtain⟨h',hp,hk3⟩:=Option.bind_eq_some_iff.1 hk;have h1:=kp F hm;have h2:=kp F hs;have h3:=kp F hv;simp only[VRel]at h1 h2;obtain⟨L,hL,h1⟩:=h1;obtain⟨w',hr,g⟩:=kbbq S (t:=t) hL (kd:=kd) h3 hp;refine⟨_,h',hk3,OpGoes.of_skip (w':=w') ?_ g⟩;simp only[execOp,hop,h1,h2,Sem.run_bind,hr,Result.andThen_ok,Sem.run_pure]
  ·cases hk
 ·rename_i t x hop;refine⟨?_,by intro c;rw[hop];simp⟩;split at hk
  ·rename_i kt et q ht hx;obtain⟨b,hb,hk2⟩:=Option.bind_eq_some_iff.1 hk;obtain⟨obj,hr,hB⟩:=kbfb S ht (kp F hx) hb;obtain⟨s1,s2,s3⟩:=kqv S (b:=b) (n:=0) (o:=obj) hB;refine⟨_,_,hk2,OpGoes.of_sem (s:=Instr.range t (a.eval x)) (by simp[execOp,hop]) hr ⟨_,?_,s1,s2,s3⟩⟩;simp only[VRel];exact⟨_,RRel.new 0,rfl⟩
  ·cases hk
 ·rename_i x hop;refine⟨?_,by intro c;rw[hop];simp⟩;split at hk
  ·rename_i p hx;obtain⟨i,hi,hk2⟩:=Option.bind_eq_some_iff.1 hk;obtain⟨q,hq,hk3⟩:=Option.bind_eq_some_iff.1 hk2;cases q with
   | none =>
    exact⟨_,h,hk3,OpGoes.of_sem (s:=Instr.next (a.eval x) false o.type) (by simp[execOp,hop]) (k7w S hi (kp F hx) hq) (Good.pure S (by simp only[VRel];exact⟨_,rfl,VRels.cons (by simp[VRel]) VRels.nil⟩))⟩
   | some e =>
    obtain⟨u',w',hr,g⟩:=k9y (ty:=o.type) S hi (kp F hx) hq;exact⟨_,e.2,hk3,OpGoes.of_sem (s:=Instr.next (a.eval x) false o.type) (by simp[execOp,hop]) hr g⟩
  ·cases hk
 ·rename_i x hop;refine⟨?_,by intro c;rw[hop];simp⟩;split at hk
  ·rename_i p hx;obtain⟨i,hi,hk2⟩:=Option.bind_eq_some_iff.1 hk;obtain⟨e,hq,hk3⟩:=Option.bind_eq_some_iff.1 hk2;obtain⟨u',hr,hv⟩:=k5m S hi (kp F hx) hq;exact⟨_,h,hk3,OpGoes.of_sem (s:=Instr.entry (a.eval x)) (by simp[execOp,hop]) hr (Good.pure S hv)⟩
  ·cases hk
 ·rename_i c hop;refine⟨?_,by intro c;rw[hop];simp⟩
  have bi:∀{b:Builtin}{xs:List AV}{v:AV}{h1:AH}{u:Value}{w':World},c.callee=.builtin b→evs fr c.args.toList=some xs→(∀{us:List Value},VRels μ xs us→∃u w',(builtin b c.argTypes o.type (c.args.map fun | .const _=>true | _=>false) us.toArray).run P w=.ok (.value u) w'∧Good P O μ h w v h1 u w')→OpGoes P o a w (Good P O μ h w v h1):=by
   intro b xs v h1 _ _ hb hx hr;have hargs:c.args.map a.eval=(c.args.toList.map a.eval).toArray:=by apply Array.ext';simp
   obtain⟨u,w',hr,g⟩:=hr (kcs F hx);refine OpGoes.of_value ?_ g;rw[kis _ _ _ hop];simp only[resolve,hb,Sem.run_bind,Sem.run_pure,Result.andThen_ok,invoke,hargs];exact hr
  split at hk
  ·rename_i q t ts hb hx hts;have h0:c.argTypes[0]?=some t:=by have:=congrArg (·[0]?) hts;simpa using this
   split at hk
   ·rename_i kt et ht;obtain⟨n,hp,hk3⟩:=Option.bind_eq_some_iff.1 hk;refine⟨_,h,hk3,bi (u:=undef) (w':=w) hb hx fun{us} hus=>?_⟩;obtain⟨u,us',rfl,hu,hus'⟩:=hus.cons_inv;have:=hus'.nil_inv;subst this;have hl:=k1q S (ty:=o.type) ht hu hp h0;exact⟨.int .i64 (n:Int),w,by simp[builtin,hl],Good.pure S (by simp[VRel])⟩
   ·cases hk
  ·rename_i q kd n t ts hb hx hts;have h0:c.argTypes[0]?=some t:=by have:=congrArg (·[0]?) hts;simpa using this
   split at hk
   ·rename_i kt et ht;split at hk
    ·rename_i kd' hkt;obtain⟨hkd,hk2⟩:=ki hk;have hkd:kd=kd':=by simpa using hkd
     subst hkd;obtain⟨h',hp,hk3⟩:=Option.bind_eq_some_iff.1 hk2;refine⟨_,h',hk3,bi (u:=undef) (w':=w) hb hx fun{us} hus=>?_⟩;obtain⟨u,us',rfl,hu,hus'⟩:=hus.cons_inv;obtain⟨u2,us2,rfl,hu2,hus2⟩:=hus'.cons_inv;have:=hus2.nil_inv;subst this;simp only[VRel]at hu2;subst hu2;obtain⟨w',hr,g⟩:=k0z S (ty:=o.type) ht hkt hu hp h0;exact⟨_,w',by simp[builtin,hr],g⟩
    ·cases hk
   ·cases hk
  ·rename_i q t ts hb hx hts;have h0:c.argTypes[0]?=some t:=by have:=congrArg (·[0]?) hts;simpa using this
   split at hk
   ·rename_i kt et ht;obtain⟨h',hp,hk3⟩:=Option.bind_eq_some_iff.1 hk;refine⟨_,h',hk3,bi (u:=undef) (w':=w) hb hx fun{us} hus=>?_⟩;obtain⟨u,us',rfl,hu,hus'⟩:=hus.cons_inv;have:=hus'.nil_inv;subst this;obtain⟨w',hr,g⟩:=kbai S (ty:=o.type) ht hu hp h0;exact⟨_,w',by simp[builtin,hr],g⟩
   ·cases hk
  ·exact krd hrec S F hk
 ·refine⟨krd hrec S F hk,fun c hc=>?_⟩;rw[hc]at hk;simp[opK]at hk
theorem VRel.two{μ:Mu}{k1 k2:IntKind}{a b:Int}{u:Value}(h:VRel μ (.agg [.int k1 a,.int k2 b]) u):u=.agg #[.int k1 a,.int k2 b]:=by
 simp only[VRel,VRels]at h;obtain⟨vs,e1,e2,-⟩:=h;rw[e1];congr 1;apply Array.ext'
 simpa using e2
theorem kum{rec:Rec}(hrec:RecOk P O rec){N:Nat}{μ:Mu}{fr:Fr}{h:AH}{w:World}{o:Oper}{a:Act}(S:Sim P O μ h w)(F:FRel μ N fr a.tmps)
  {k:AV→AH→Option R} {r:R} (hk:opP P rec o.op o.type fr h k=some r):OpOk P O μ h w o a k r∧∀c,o.op≠.defer c:=by
 unfold opP at hk;split at hk
 ·rename_i t m x v hop;split at hk
  ·rename_i kt et r0 k1 aa k2 bb val ht hm hx hv;refine⟨?_,by intro c;rw[hop];simp⟩;split at hk
   ·rename_i kd hkp;obtain⟨hkd,hk2⟩:=ki hk;rw[Bool.and_eq_true,decide_eq_true_eq,decide_eq_true_eq]at hkd;obtain⟨rfl,rfl⟩:=hkd;obtain⟨i,rfl,hk9⟩:=Option.bind_eq_some_iff.1 hk2;obtain⟨h',hp,hk3⟩:=Option.bind_eq_some_iff.1 hk9;have h1:=kp F hm;have h2:=(kp F hx).two;have h3:=kp F hv;simp only[VRel]at h1;obtain⟨L,hL,h1⟩:=h1;obtain⟨w',hr,g⟩:=kbb7 S ht hkp hL h3 hp;refine⟨_,h',hk3,OpGoes.of_skip (w':=w') ?_ g⟩;rw[show execOp a.eval o=do Instr.mapUpdate t (a.eval m) (a.eval x) (a.eval v);pure .skip from by simp[execOp,hop],h1,h2];simp only[Sem.run_bind,hr,Result.andThen_ok,Sem.run_pure]
   ·cases hk
  ·rw[← hop]at hk;exact kol hrec S F hk
 ·rename_i t m x ok hop;split at hk
  ·rename_i kt et q k1 aa k2 bb ht hm hx;refine⟨?_,by intro c;rw[hop];simp⟩;split at hk
   ·rename_i kd z hkp hz;obtain⟨hkd,hk2⟩:=ki hk;rw[Bool.and_eq_true,decide_eq_true_eq,decide_eq_true_eq]at hkd;obtain⟨rfl,rfl⟩:=hkd;obtain⟨q',hp,hk3⟩:=Option.bind_eq_some_iff.1 hk2;have h1:=kp F hm;have h2:=(kp F hx).two;obtain⟨u,hr,hv⟩:=k2s S ht hkp h1 hp hz ok;have hk4:k (cond ok (.tup [q'.getD z,.bool q'.isSome]) (q'.getD z)) h=some r:=by have hk5:=kce hk3;cases ok<;>exact hk5
    refine⟨_,h,hk4,OpGoes.of_sem (s:=Instr.lookup t (a.eval m) (a.eval x) ok) (by simp[execOp,hop]) ?_ (Good.pure S hv)⟩;rw[h2];exact hr
   ·cases hk
  ·rw[← hop]at hk;exact kol hrec S F hk
 ·exact kol hrec S F hk
theorem ktq{rec:Rec}(hrec:RecOk P O rec){N:Nat}{μ:Mu}{fr:Fr}{h:AH}{w:World}{o:Oper}{a:Act}(S:Sim P O μ h w)(F:FRel μ N fr a.tmps)
  {k:AV→AH→Option R} {r:R} (hk:opX P rec o.op o.type fr h k=some r):OpOk P O μ h w o a k r:=by
 rcases kbt hk with⟨_,h1⟩ | ⟨_,h1⟩
 ·exact krd hrec S F h1
 ·exact(kum hrec S F h1).1
theorem k9x{rec:Rec}(hrec:RecOk P O rec){N:Nat}{μ:Mu}{fr:Fr}{h:AH}{w:World}{o:Oper}{a:Act}(S:Sim P O μ h w)(F:FRel μ N fr a.tmps){k:AV→AH→Option R}{r:R}(hk:opY P rec o.op o.type fr h k=some r)
  {ops:Array Oper} {i:Nat} {rest:List Nat} (ho:ops[i]?=some o) (hw:Region.wanted o (yielded ops a.tmps)=true) (b:Frame) (kk:List Item) :
  ∃v h1,k v h1=some r∧∀cs,∃u w',Good P O μ h w v h1 u w'∧Steps P (lone (b.atR a (.inRegion ops (i::rest)::kk)) cs w) (lone (b.atR (a.put o.dst u) (.inRegion ops rest::kk)) cs w'):=by
 unfold opY at hk;split at hk
 ·rename_i p hp;obtain⟨c,f,hop,hc,hx,hf⟩:=k9a hp;rw[Option.bind_eq_some_iff]at hk;obtain⟨q,hq,hk2⟩:=hk;have hk3:=kp9 hk2;obtain⟨v,h1⟩:=q;refine⟨v,h1,hk3,fun cs=>?_⟩;have hvf:=kp F hf;simp only[VRel]at hvf;obtain⟨g',x,y,he,hg,hxx,hyy⟩:=hvf;simp only[FnRel]at hg;obtain⟨L,hL,rfl⟩:=hg;have ex:x=#[]:=Array.toList_eq_nil_iff.1 hxx.nil_inv;have ey:y=#[]:=Array.toList_eq_nil_iff.1 hyy.nil_inv;subst ex;subst ey;have:=hrec.round hq S (kcs F hx) hL;have hargs:(c.args.toList.map a.eval).toArray=c.args.map a.eval:=by apply Array.ext';simp
  rw[hargs]at this;exact kbcn hop hc he this ho hw b kk cs
 ·obtain⟨⟨v,h1,hk1,hgo⟩,hnd⟩:=kum hrec S F hk;exact⟨v,h1,hk1,fun cs=>k8r hgo hnd ho hw b kk cs⟩
theorem kqk{rec:Rec}(hrec:RecOk P O rec){N:Nat}{ops:Array Oper}{k:Fr→AH→Option (AV×AH)}{r:AV×AH}:∀(is:List Nat){fr:Fr}{h:AH}{μ:Mu}{w:World}{a:Act},
  opsY P rec N ops is fr h k=some r→Sim P O μ h w→FRel μ N fr a.tmps→∀(b:Frame)(kk:List Item)(cs:List Frame),∃a' w',After P O μ N h w a.defers k r .normal a' w'∧Steps P (lone (b.atR a (.inRegion ops is::kk)) cs w) (lone (b.atR a' kk) cs w')
 | [],fr,h,μ,w,a,hk,S,F,b,kk,cs=>by
  simp only[opsY]at hk;exact⟨a,w,⟨rfl,rfl,fr,h,μ,hk,S,F,Ext.refl _ _ _,Frm.refl _ _ _⟩,Steps.one stepR_region_end⟩
 | i::is,fr,h,μ,w,a,hk,S,F,b,kk,cs=>by
  simp only[opsY]at hk;split at hk
  ·cases hk
  ·rename_i o ho
   have go:∀{fr:Fr},FRel μ N fr a.tmps→(opY P rec o.op o.type fr h fun v h'=>putT N o.dst v fr fun fr'=>opsY P rec N ops is fr' h' k)=some r→Region.wanted o (yielded ops a.tmps)=true→
     ∃a' w',After P O μ N h w a.defers k r .normal a' w'∧Steps P (lone (b.atR a (.inRegion ops (i::is)::kk)) cs w) (lone (b.atR a' kk) cs w'):=by
    intro fr F hk hw;obtain⟨v,h1,hk1,hgo⟩:=k9x hrec S F hk ho hw b kk (rest:=is);obtain⟨u,w',⟨ν,g1,g2,g3,g4⟩,st⟩:=hgo cs;obtain⟨fr',hk2,F'⟩:=ksb hk1 (F.mono g3.2.1) g1;obtain⟨a',w2,hA,st2⟩:=kqk hrec is hk2 g2 F' b kk cs;rw[put_defers]at hA;exact⟨a',w2,hA.trans g3 g4,st.trans st2⟩
   have skip:∀{fr:Fr},FRel μ N fr a.tmps→(putT N o.dst (.tup []) fr fun fr'=>opsY P rec N ops is fr' h k)=some r→Region.wanted o (yielded ops a.tmps)=false→
     ∃a' w',After P O μ N h w a.defers k r .normal a' w'∧Steps P (lone (b.atR a (.inRegion ops (i::is)::kk)) cs w) (lone (b.atR a' kk) cs w'):=by
    intro fr F hk hw;obtain⟨fr',hk2,F'⟩:=ksb (u:=undef) hk F (by simp[VRel,undef,VRels]);obtain⟨a',w2,hA,st2⟩:=kqk hrec is hk2 S F' b kk cs;rw[put_defers]at hA;have hs:=stepR_op_skip (P:=P) (b:=b) (a:=a) (k:=kk) (cs:=cs) (w:=w) (ops:=ops) (i:=i) (rest:=is) (by simp[ho];simpa using hw);simp only[ho,Option.bind_some]at hs;exact⟨a',w2,hA,.head hs st2⟩
   split at hk
   ·rename_i hg;exact go F hk (by simp[Region.wanted,hg])
   ·rename_i j b' hg;split at hk
    ·cases hk
    ·rename_i t ht;split at hk
     ·rename_i c hget;obtain⟨u,hu,hvu⟩:=F.get t _ hget;simp only[VRel]at hvu;subst hvu;have hy:yielded ops a.tmps j=some c:=by simp[yielded,ht,hu]
      have hwant:Region.wanted o (yielded ops a.tmps)=(c==b'):=by simp[Region.wanted,hg,hy]
      have Fl:FRel μ N ((t,.bool c)::fr) a.tmps:=F.learn hget fun _ h=>h;rcases kbt hk with⟨rfl,hk2⟩ | ⟨rfl,hk2⟩
      ·rcases kbt hk2 with⟨rfl,hk3⟩ | ⟨rfl,hk3⟩
       ·exact go Fl hk3 (by rw[hwant];rfl)
       ·exact skip Fl hk3 (by rw[hwant];rfl)
      ·rcases kbt hk2 with⟨rfl,hk3⟩ | ⟨rfl,hk3⟩
       ·exact skip Fl hk3 (by rw[hwant];rfl)
       ·exact go Fl hk3 (by rw[hwant];rfl)
     ·rename_i hget;obtain⟨u,hu,hvu⟩:=F.get t _ hget;simp only[VRel]at hvu;obtain⟨us,rfl,_⟩:=hvu;have hy:yielded ops a.tmps j=none:=by simp[yielded,ht,hu]
      exact skip F hk (by simp[Region.wanted,hg,hy])
     ·cases hk
theorem kpv{ops:Array Oper}{Q:Exit→Act→World→Prop}(hn:∀e a w,Q e a w→e=.normal):∀(is:List Nat)(a:Act)(w:World),wpOps P ops Q is a w→∃a' w',Q .normal a' w'∧a.defers.length≤a'.defers.length
 | [],a,w,h=>⟨a,w,h,Nat.le_refl _⟩
 | i::rest,a,w,h=>by
  simp only[wpOps]at h
  have put:∀{a1:Act}{d:Option Tmp}{v:Value}{w1:World},wpOps P ops Q rest (a1.put d v) w1→a.defers.length≤a1.defers.length→∃a' w',Q .normal a' w'∧a.defers.length≤a'.defers.length:=by
   intro a1 d v w1 h1 hl;obtain⟨a',w',q,l⟩:=kpv hn rest _ _ h1;rw[put_defers]at l;exact⟨a',w',q,Nat.le_trans hl l⟩
  cases ho:ops[i]? with
  | none =>
   simp only[ho]at h;exact kpv hn rest a w h
  | some o =>
   simp only[ho]at h;by_cases hw:Region.wanted o (yielded ops a.tmps)=true
   ·simp only[hw,if_true]at h;have h:o.wp P a w (wpOps P ops Q rest) Q:=h.resolve_right fun⟨_,_,_,hq⟩=>by cases hn _ _ _ hq
    simp only[Oper.wp,Oper.upon]at h;split at h
    ·exact put h (Nat.le_refl _)
    ·exact put h (Nat.le_refl _)
    ·exact put h (by simp)
    ·obtain⟨e,w'',fr,hR,_⟩:=h [];cases e with
     | returned v=>exact put hR (Nat.le_refl _)
     | panicked chain=>exact absurd (hn _ _ _ hR) (by intro h;cases h)
     | outgrown =>
      obtain⟨_,_,hq⟩:=hR;exact absurd (hn _ _ _ hq) (by intro h;cases h)
    ·obtain⟨v,w'',hR,_⟩:=h default [];exact put hR (Nat.le_refl _)
    ·exact absurd (hn _ _ _ h) (by intro h;cases h)
    ·exact h.elim
   ·simp only[hw,if_false,Bool.false_eq_true]at h;exact put h (Nat.le_refl _)
theorem kgv{ops:Array Oper}{Q:Exit→Act→World→Prop}(hn:∀e a w,Q e a w→e=.normal)(hd:kg0 ops=false):∀(is:List Nat)(a:Act)(w:World),wpOps P ops Q is a w→(∀a' w',Q .normal a' w'→a'.defers.length≤a.defers.length)→∀(b:Frame)(k:List Item)(cs:List Frame),∃a' w',Q .normal a' w'∧Steps P (lone (b.atR a (.inRegion ops is::k)) cs w) (lone (b.atR a' k) cs w')
 | [],a,w,h,hl,b,k,cs=>⟨a,w,h,Steps.one stepR_region_end⟩
 | i::rest,a,w,h,hl,b,k,cs=>by
  have hl':∀(d:Option Tmp)(v:Value) a' w',Q .normal a' w'→a'.defers.length≤(a.put d v).defers.length:=fun d v a' w' q=>by rw[put_defers];exact hl a' w' q
  simp only[wpOps]at h;cases ho:ops[i]? with
  | none =>
   simp only[ho]at h;obtain⟨a',w',hq,st⟩:=kgv hn hd rest a w h hl b k cs;have hs:=stepR_op_skip (P:=P) (b:=b) (a:=a) (k:=k) (cs:=cs) (w:=w) (ops:=ops) (i:=i) (rest:=rest) (by simp[ho]);simp only[ho,Option.bind_none,Act.put]at hs;exact⟨a',w',hq,.head hs st⟩
  | some o =>
   simp only[ho]at h;by_cases hw:Region.wanted o (yielded ops a.tmps)=true
   ·simp only[hw,if_true]at h;have h:o.wp P a w (wpOps P ops Q rest) Q:=h.resolve_right fun⟨_,_,_,hq⟩=>by cases hn _ _ _ hq
    have hnd:∀c,o.op≠.defer c:=by
     intro c hc;unfold kg0 at hd;rw[List.any_eq_false]at hd;have:=hd o (by rw[Array.mem_toList_iff];exact Array.mem_of_getElem? ho);rw[hc]at this;exact this rfl
    have hgo:=stepGR_op (P:=P) (b:=b) (k:=k) (cs:=cs) (w:=w) (rest:=rest) ho hw;rw[Oper.semAt_eq _ _ _ hnd]at hgo
    have hfin:∀v,(b.atR a (.inRegion ops (i::rest)::k)).finish v=b.atR (a.put o.dst v) (.inRegion ops rest::k):=by
     intro v;rw[Frame.finish_atR,ho];rfl
    simp only[Oper.wp,Oper.upon]at h;split at h
    ·rename_i v w' hr;obtain⟨a',w'',hq,st⟩:=kgv hn hd rest _ _ h (hl' _ _) b k cs;refine⟨a',w'',hq,.head (step_lone_go ?_) st⟩;rw[hgo,← hfin];simp[stepG.apply,hr]
    ·rename_i w' hr;obtain⟨a',w'',hq,st⟩:=kgv hn hd rest _ _ h (hl' _ _) b k cs;refine⟨a',w'',hq,.head (step_lone_go ?_) st⟩;rw[hgo,← hfin];simp[stepG.apply,hr]
    ·rename_i d w' hr;obtain⟨a',w2,q,l⟩:=kpv hn rest _ _ h;have:=hl _ _ q;rw[put_defers]at l;simp only[List.length_cons]at l;omega
    ·rename_i f args w' hr;obtain⟨e,w'',fr,hR,hsteps,_,hleave⟩:=h (b.atR a (.inRegion ops (i::rest)::k)::cs)
     have henter:step P (lone (b.atR a (.inRegion ops (i::rest)::k)) cs w)=.next (lone (Frame.enter P f args .normal) (b.atR a (.inRegion ops (i::rest)::k)::cs) w') :=
      step_lone_go (by rw[hgo];simp[stepG.apply,hr,Frame.atR])
     cases e with
     | returned v =>
      obtain⟨a',w3,hq,st⟩:=kgv hn hd rest _ _ hR (hl' _ _) b k cs;refine⟨a',w3,hq,.head henter (hsteps.trans (.head ?_ st))⟩;rw[← hfin];exact step_leave_returned hleave
     | panicked chain=>exact absurd (hn _ _ _ hR) (by intro h;cases h)
     | outgrown =>
      obtain⟨_,_,hq⟩:=hR;exact absurd (hn _ _ _ hq) (by intro h;cases h)
    ·rename_i row args w' hr;obtain⟨v,w'',hR,hsteps⟩:=h (b.atR a (.inRegion ops (i::rest)::k)) cs
     have henter:step P (lone (b.atR a (.inRegion ops (i::rest)::k)) cs w)=.next (lone (Frame.ofRow P row args .normal) (b.atR a (.inRegion ops (i::rest)::k)::cs) w') :=
      step_lone_go (by rw[hgo];simp[stepG.apply,hr,Frame.atR])
     obtain⟨a',w3,hq,st⟩:=kgv hn hd rest _ _ hR (hl' _ _) b k cs;refine⟨a',w3,hq,.head henter (.trans ?_ st)⟩;rw[← hfin];exact hsteps
    ·exact absurd (hn _ _ _ h) (by intro h;cases h)
    ·exact h.elim
   ·simp only[hw,if_false,Bool.false_eq_true]at h;obtain⟨a',w',hq,st⟩:=kgv hn hd rest _ _ h (hl' _ _) b k cs;have hs:=stepR_op_skip (P:=P) (b:=b) (a:=a) (k:=k) (cs:=cs) (w:=w) (ops:=ops) (i:=i) (rest:=rest) (by simp[ho];simpa using hw);simp only[ho,Option.bind_some]at hs;exact⟨a',w',hq,.head hs st⟩
end Go.Ab
namespace Go.Ab
variable{P:Program}
theorem kx{A B:Type}(c:Bool)(x y:Option A)(k:A→Option B):(cond c x y).bind k=cond c (x.bind k) (y.bind k):=by cases c<;>rfl
theorem kmg:∃g:Leaf→Option AV→Option AV,∀(l:Leaf)(x:Option AV)(R:Type)(k:AV→Option R),leafK l x k=(g l x).bind k:=by
 refine⟨fun l x=>leafK l x some,fun l x R k=>?_⟩;cases l<;>simp[leafK,Option.bind_assoc]
theorem ku3:∃g:(Nat→Option AV)→List Leaf→Nat→Option (List AV),∀(get:Nat→Option AV)(ls:List Leaf)(i:Nat)(R:Type)(k:List AV→Option R),kdb get ls i k=(g get ls i).bind k:=by
 obtain⟨g,e⟩:=kmg;refine⟨fun get ls i=>kdb get ls i some,fun get ls=>?_⟩
 induction ls with
 | nil=>intro i R k;simp[kdb]
 | cons l ls ih =>
  intro i R k;simp only[kdb,e];rw[Option.bind_assoc];congr 1;funext v;rw[ih (i+1) _ (fun vs=>k (v::vs)),ih (i+1) _ (fun vs=>some (v::vs)),Option.bind_assoc];rfl
theorem kq0:∃g:Program→TypeId→Ref→AH→Option AV,∀(P:Program)(t:TypeId)(q:Ref)(h:AH)(R:Type)(k:AV→Option R),loadK P t q h k=(g P t q h).bind k:=by
 obtain⟨g,e⟩:=kmg;obtain⟨f,d⟩:=ku3;refine⟨fun P t q h=>loadK P t q h some,fun P t q h R k=>?_⟩;dsimp only;unfold loadK;simp only[e,d];split
 ·rw[kx];congr 1
  ·split
   ·simp[kx,Option.bind_assoc]
   ·rfl
  ·split
   ·simp
   ·rfl
 ·rfl
theorem kgi:∃g:Program→TypeId→AV→Option AV,∀(P:Program)(t:TypeId)(v:AV)(R:Type)(k:AV→Option R),seeK P t v k=(g P t v).bind k:=by
 obtain⟨g,e⟩:=kmg;obtain⟨f,d⟩:=ku3;refine⟨fun P t v=>seeK P t v some,fun P t v R k=>?_⟩;dsimp only;unfold seeK;simp only[e,d];split
 ·rw[kx];congr 1
  ·split
   ·simp[kx,Option.bind_assoc]
   ·rfl
  ·split
   ·simp
   ·rfl
 ·rfl
theorem kwk:∃g:Program→TypeId→AV→Option AV,∀(P:Program)(t:TypeId)(v:AV)(R:Type)(k:AV→Option R),aggK P t v k=(g P t v).bind k:=by
 obtain⟨g,e⟩:=kgi;refine⟨fun P t v=>aggK P t v some,fun P t v R k=>?_⟩;dsimp only;unfold aggK;simp only[e];split
 ·rw[kx,Option.bind_assoc];simp
 ·rfl
theorem ku0:∃g:Program→TypeId→AV→Option AV,∀(P:Program)(t:TypeId)(v:AV)(R:Type)(k:AV→Option R),kfv P t v k=(g P t v).bind k:=by
 obtain⟨g,e⟩:=kgi;refine⟨fun P t v=>kfv P t v some,fun P t v R k=>?_⟩;dsimp only;unfold kfv;simp only[e];split
 ·split<;>simp[Option.bind_assoc]
 ·simp
theorem km8:∃g:Program→TypeId→AV→Option (List AV),∀(P:Program)(t:TypeId)(v:AV)(R:Type)(k:List AV→Option R),cellsK P t v k=(g P t v).bind k:=by
 refine⟨fun P t v=>cellsK P t v some,fun P t v R k=>?_⟩;dsimp only;unfold cellsK;split
 ·simp[kx,Option.bind_assoc]
 ·rfl
theorem kbbj:∃g:BinOp→IntKind→Int→Int→Option AV,∀(op:BinOp)(kd:IntKind)(a b:Int)(R:Type)(k:AV→Option R),intK op kd a b k=(g op kd a b).bind k:=by
 refine⟨fun op kd a b=>intK op kd a b some,fun op kd a b R k=>?_⟩;cases op<;>simp[intK,kx]
theorem kvi:∃g:Program→BinOp→TypeId→AV→AV→Option AV,∀(P:Program)(op:BinOp)(t:TypeId)(x y:AV)(R:Type)(k:AV→Option R),binK P op t x y k=(g P op t x y).bind k:=by
 obtain⟨g,e⟩:=kbbj;refine⟨fun P op t x y=>binK P op t x y some,fun P op t x y R k=>?_⟩;dsimp only;unfold binK;simp only[e];split<;>simp[kc1,kh9,kx,Option.bind_assoc]
theorem kuy:∃g:UnOp→AV→Option AV,∀(op:UnOp)(x:AV)(R:Type)(k:AV→Option R),unK op x k=(g op x).bind k:=by
 refine⟨fun op x=>unK op x some,fun op x R k=>?_⟩;dsimp only;unfold unK;split<;>simp
theorem kn5:∃g:Program→(Nat→Option (Nat×TypeId))→List (Nat×AV)→List AV→Option (List AV),∀(P:Program)(place:Nat→Option (Nat×TypeId))(parts:List (Nat×AV))(cells:List AV)(R:Type)(k:List AV→Option R),fillK P place parts cells k=(g P place parts cells).bind k:=by
 obtain⟨g,e⟩:=km8;refine⟨fun P place parts cells=>fillK P place parts cells some,fun P place parts=>?_⟩
 induction parts with
 | nil=>intro cells R k;simp[fillK]
 | cons p parts ih =>
  intro cells R k;obtain⟨i,v⟩:=p;simp only[fillK,e];split
  ·rfl
  ·rw[Option.bind_assoc];congr 1;funext cs;rw[kx];congr 1;exact ih _ _ _
theorem kbep:∃g:Fr→Option Operand→Int→Option Int,∀(fr:Fr)(x:Option Operand)(d:Int)(R:Type)(k:Int→Option R),boundK fr x d k=(g fr x d).bind k:=by
 refine⟨fun fr x d=>boundK fr x d some,fun fr x d R k=>?_⟩;dsimp only;unfold boundK;split
 ·rfl
 ·split<;>simp
theorem ksp:∃g:Program→TypeId→AV→Fr→Option Operand→Option Operand→Option Operand→Option AV,∀(P:Program)(t:TypeId)(x:AV)(fr:Fr)(lo hi mx:Option Operand)(R:Type)(k:AV→Option R),sliceK P t x fr lo hi mx k=(g P t x fr lo hi mx).bind k:=by
 obtain⟨g,e⟩:=kbep;refine⟨fun P t x fr lo hi mx=>sliceK P t x fr lo hi mx some,fun P t x fr lo hi mx R k=>?_⟩;dsimp only;unfold sliceK;simp only[e];split
 ·split<;>simp[kx,Option.bind_assoc]
 ·split<;>simp[kx,Option.bind_assoc]
 ·split<;>simp[kx,Option.bind_assoc]
 ·rfl
theorem kxi:∃g:Program→TypeId→TypeId→AV→Option AV,∀(P:Program)(s d:TypeId)(x:AV)(R:Type)(k:AV→Option R),kh2 P s d x k=(g P s d x).bind k:=by
 refine⟨fun P s d x=>kh2 P s d x some,fun P s d x R k=>?_⟩;dsimp only;unfold kh2;split<;>simp
theorem kwr:∃g:Program→TypeId→AV→Option AV,∀(P:Program)(t:TypeId)(x:AV)(R:Type)(k:AV→Option R),lenK P t x k=(g P t x).bind k:=by
 refine⟨fun P t x=>lenK P t x some,fun P t x R k=>?_⟩;dsimp only;unfold lenK;split<;>simp
abbrev pk(v:AV)(h:AH):Option (AV×AH):=some (v,h)
theorem k6m:∃g:Program→Builtin→List TypeId→List AV→AH→Option (AV×AH),∀(P:Program)(b:Builtin)(ts:List TypeId)(xs:List AV)(h:AH)(R:Type)(k:AV→AH→Option R),ke4 P b ts xs h k=(g P b ts xs h).bind fun p=>k p.1 p.2:=by
 obtain⟨g,e⟩:=kwr;obtain⟨f,d⟩:=kmg;refine⟨fun P b ts xs h=>ke4 P b ts xs h pk,fun P b ts xs h R k=>?_⟩;dsimp only;unfold ke4;simp only[e,d];split
 ·simp[pk,Option.bind_assoc]
 ·simp[pk]
 ·simp[pk]
 ·split<;>simp[pk,kx,Option.bind_assoc]
 ·split<;>simp[pk,kx,Option.bind_assoc]
 ·rfl
theorem kwd:∃g:Program→TypeId→String→AV→AH→Option (FuncId×AV),∀(P:Program)(t:TypeId)(name:String)(v:AV)(h:AH)(R:Type)(k:FuncId→AV→Option R),khm P t name v h k=(g P t name v h).bind fun p=>k p.1 p.2:=by
 obtain⟨g,e⟩:=kq0;refine⟨fun P t name v h=>khm P t name v h fun f u=>some (f,u),fun P t name v h R k=>?_⟩;dsimp only;unfold khm;simp only[e]
 (repeat' split)<;>simp[kx,Option.bind_assoc]
 all_goals (repeat' split)<;>simp[Option.bind_assoc]
theorem kyb(rec:Rec):∃g:Program→Call→TypeId→Fr→AH→Option (AV×AH),∀(P:Program)(c:Call)(ty:TypeId)(fr:Fr)(h:AH)(R:Type)(k:AV→AH→Option R),callK P rec c ty fr h k=(g P c ty fr h).bind fun p=>k p.1 p.2:=by
 obtain⟨g,e⟩:=k6m;obtain⟨f,d⟩:=ku0;obtain⟨m,me⟩:=kwd;refine⟨fun P c ty fr h=>callK P rec c ty fr h pk,fun P c ty fr h R k=>?_⟩;dsimp only;unfold callK;simp only[e,d,me];split
 ·rfl
 ·split
  ·simp[pk,Option.bind_assoc]
  ·split<;>simp[pk,Option.bind_assoc]
  ·split<;>simp[pk,Option.bind_assoc]
theorem kwy(rec:Rec):∀(P:Program)(o:Op)(ty:TypeId)(fr:Fr)(h:AH)(R:Type)(k:AV→AH→Option R),opK P rec o ty fr h k=(opK P rec o ty fr h pk).bind fun p=>k p.1 p.2:=by
 obtain⟨g1,e1⟩:=km8;obtain⟨g2,e2⟩:=kn5;obtain⟨g3,e3⟩:=kq0;obtain⟨g4,e4⟩:=kvi;obtain⟨g5,e5⟩:=kuy;obtain⟨g6,e6⟩:=kxi;obtain⟨g7,e7⟩:=ksp;obtain⟨g8,e8⟩:=kyb rec;obtain⟨g9,e9⟩:=kwk;obtain⟨g10,e10⟩:=kgi;intro P o ty fr h R k;cases o<;>simp only[opK,e1,e2,e3,e4,e5,e6,e7,e8,e9,e10]<;>(repeat' split)<;>simp[pk,kc1,kh9,kx,Option.bind_assoc]
theorem kbdb(rec:Rec)(o:Op)(ty:TypeId)(fr:Fr)(h:AH)(R:Type)(k:AV→AH→Option R):opM P rec o ty fr h k=(opM P rec o ty fr h pk).bind fun p=>k p.1 p.2:=by
 have ok:=kwy rec P o ty fr h R k;unfold opM;split
 ·rfl
 ·(repeat' split)<;>simp[pk,kx,Option.bind_assoc]
 ·(repeat' split)<;>simp[pk,kx,Option.bind_assoc]
 ·obtain⟨g,e⟩:=kgi
  (repeat' split)<;>simp[e,pk,kx,Option.bind_assoc]
 ·obtain⟨g,e⟩:=kgi
  (repeat' split)<;>simp[e,pk,kx,Option.bind_assoc]
 ·(repeat' split)<;>simp[pk,kx,Option.bind_assoc]
 ·(repeat' split)<;>simp[pk,kx,Option.bind_assoc]
 ·(repeat' split)<;>simp[pk,kx,Option.bind_assoc]
 ·(repeat' split)<;>simp[pk,kx,Option.bind_assoc]
 ·(repeat' split)<;>first | exact ok | simp[pk,kx,Option.bind_assoc]
 ·exact ok
theorem kw3(rec:Rec)(o:Op)(ty:TypeId)(fr:Fr)(h:AH)(R:Type)(k:AV→AH→Option R):opP P rec o ty fr h k=(opP P rec o ty fr h pk).bind fun p=>k p.1 p.2:=by
 have ok:=kbdb (P:=P) rec o ty fr h R k;unfold opP;split
 ·split
  ·(repeat' split)<;>simp[pk,kx,Option.bind_assoc]
  ·exact ok
 ·obtain⟨g,e⟩:=kgi;split
  ·(repeat' split)<;>simp[e,pk,kx,Option.bind_assoc]
  ·exact ok
 ·exact ok
theorem kg9(rec:Rec)(o:Op)(ty:TypeId)(fr:Fr)(h:AH)(R:Type)(k:AV→AH→Option R):opX P rec o ty fr h k=(opX P rec o ty fr h pk).bind fun p=>k p.1 p.2:=by
 unfold opX;rw[kx,kwy rec P o ty fr h R k,kw3 rec o ty fr h R k]
theorem kww{N:Nat}{d:Option Tmp}{v:AV}{fr:Fr}{R:Type}(k:Fr→Option R):putT N d v fr k=(putT N d v fr some).bind k:=by
 simp only[kgl];split
 ·rfl
 ·rw[kx];rfl
@[reducible] def pf:Fr→AH→Option (Fr×AH):=fun fr h=>some (fr,h)
theorem kor(rec:Rec){N:Nat}{ops:Array Oper}{R:Type}(k:Fr→AH→Option R):∀(is:List Nat)(fr:Fr)(h:AH),opsK P rec N ops is fr h k=(opsK P rec N ops is fr h pf).bind fun p=>k p.1 p.2
 | [],fr,h=>rfl
 | i::is,fr,h=>by
  have put:∀(d:Option Tmp)(v:AV)(fr:Fr)(h:AH),(putT N d v fr fun fr'=>opsK P rec N ops is fr' h k)=(putT N d v fr fun fr'=>opsK P rec N ops is fr' h pf).bind fun p=>k p.1 p.2:=by
   intro d v fr h;rw[kww,kww (fun fr'=>opsK P rec N ops is fr' h pf),Option.bind_assoc];congr 1;funext fr';exact kor rec k is fr' h
  have go:∀(o:Oper)(fr:Fr),(opX P rec o.op o.type fr h fun v h'=>putT N o.dst v fr fun fr'=>opsK P rec N ops is fr' h' k)=(opX P rec o.op o.type fr h fun v h'=>putT N o.dst v fr fun fr'=>opsK P rec N ops is fr' h' pf).bind fun p=>k p.1 p.2:=by
   intro o fr;rw[kg9,kg9 (k:=fun v h'=>putT N o.dst v fr fun fr'=>opsK P rec N ops is fr' h' pf),Option.bind_assoc];congr 1;funext q;exact put _ _ _ _
  simp only[opsK];split
  ·rfl
  ·split
   ·exact go _ _
   ·split
    ·rfl
    ·split
     ·rw[kx,kx,kx,go,go,put,put]
     ·exact put _ _ _ _
     ·rfl
end Go.Ab
