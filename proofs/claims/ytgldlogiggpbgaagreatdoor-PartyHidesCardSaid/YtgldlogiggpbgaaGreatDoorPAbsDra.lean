/- Words and laws that the last text joins. -/
import Derived.Test.YtgldlogiggpbgaaGreatDoorPAbsJ
import Derived.Below
import Derived.ProofKit
import Derived.SizedLaws
set_option linter.unusedVariables false
set_option linter.unusedSimpArgs false
set_option linter.unusedSectionVars false
namespace Go.Ab
variable{P:Program}
def Fr.same(fr y:Fr):Prop:=∀t,fr.get t=y.get t
theorem Fr.same.refl(fr:Fr):fr.same fr:=λ_=>rfl
@[reducible] def putd(d:Option Tmp)(v:AV)(fr:Fr):Fr:=match d with
 | none=>fr
 | some t=>(t,v)::fr
theorem get_cons(s t:Nat)(v:AV)(fr:Fr):Fr.get ((s,v)::fr) t=if s=t then some v else fr.get t:=by
 simp only[Fr.get];by_cases h:s=t
 ·subst h;simp
 ·rw[if_neg h]
  have:Nat.beq s t=false:=by
   cases hb:Nat.beq s t with
   | false=>rfl
   | true=>exact absurd (Nat.eq_of_beq_eq_true hb) h
  rw[this];rfl
theorem Fr.same.putd{a b:Fr}(h:a.same b)(d:Option Tmp)(v:AV):(putd d v a).same (putd d v b):=by
 intro t;cases d with
 | none=>exact h t
 | some s=>simp only[Go.Ab.putd,get_cons,h t]
theorem kj1{d:Option Tmp}{v:AV}{fr:Fr}{t:Tmp}(h:∀s,d=some s->s≠t):(putd d v fr).get t=fr.get t:=by
 cases d with
 | none=>rfl
 | some s=>simp only[putd,get_cons,if_neg (h s rfl)]
theorem kbql{x y:Option Tmp}{v u:AV}{fr:Fr}(h:∀d,x=some d->y≠some d):(putd x v (putd y u fr)).same (putd y u (putd x v fr)):=by
 intro t;cases x with
 | none=>rfl
 | some d =>
  cases y with
  | none=>rfl
  | some e =>have:d≠e:=λz=>h d rfl (z▸rfl);simp only[putd,get_cons];by_cases h1:d=t<;>by_cases h2:e=t<;>simp[h1,h2];exact absurd (h1.trans h2.symm) this
theorem kde{a b:Fr}{x:Operand}(h:∀t,x=.tmp t->a.get t=b.get t):evO a x=evO b x:=by
 cases x with
 | tmp t=>exact h t rfl
 | _=>rfl
theorem kis{a b:Fr}:∀{xs:List Operand},(∀x∈xs,evO a x=evO b x)->evs a xs=evs b xs
 | [],_=>rfl
 | x::xs,h=>by simp only[evs,h x (by simp),kis (xs:=xs) λy z=>h y (by simp[z])]
theorem kv2{a b:Fr}{R:Type}{x:Option Operand}{d:Int}{k:Int->Option R}(h:∀y,x=some y->evO a y=evO b y):boundK a x d k=boundK b x d k:=by
 cases x with
 | none=>rfl
 | some y=>simp only[boundK,h y rfl]
theorem kpl{rec:Rec}{a b:Fr}{o:Op}{ty:TypeId}{h:AH}{R:Type}{k:AV->AH->Option R}(e:∀x∈o.operands.toList,evO a x=evO b x):opK P rec o ty a h k=opK P rec o ty b h k:=by
 cases o<;>simp only[Op.operands]at e<;>simp only[opK]
 case build t ps=>rw[kis (a:=a) (b:=b) λx z=>e x (by simpa using z)]
 case buildSlice t n ps=>rw[kis (a:=a) (b:=b) λx z=>e x (by simpa using z)]
 case makeFunc f first captured =>rw[kis (a:=a) (b:=b) (xs:=first.toList) λx z=>e x (by simp at z|-;exact .inl z),kis (a:=a) (b:=b) (xs:=captured.toList) λx z=>e x (by simp at z|-;exact .inr z)]
 case call c =>
  unfold callK;rw[kis (a:=a) (b:=b) (xs:=c.args.toList) λx z=>e x (by simp only[Call.operands];simp at z|-;exact .inr z)];cases G:c.callee with
  | value f=>simp only[e f (by simp[Call.operands,G])]
  | invoke r m=>simp only[e r (by simp[Call.operands,G])]
  | builtin bb=>rfl
 case slice t x lo H mx =>
  rw[e x (by simp)];have h1:∀(d:Int)(k:Int->Option R),boundK a lo d k=boundK b lo d k:=λd k=>kv2 λy F=>e y (by subst F;simp);have h2:∀(d:Int)(k:Int->Option R),boundK a H d k=boundK b H d k:=λd k=>kv2 λy F=>e y (by subst F;simp);have I:∀(m:Operand),mx=some m->∀(d:Int)(k:Int->Option R),boundK a (some m) d k=boundK b (some m) d k:=λm K d k=>kv2 λy F=>by cases F;exact e m (by subst K;simp)
  cases evO b x with
  | none=>rfl
  | some u =>
   simp only[sliceK];cases mx with
   | none=>simp only[h1,h2]
   | some m=>simp only[h1,h2,I m rfl]
 all_goals first
  | rfl
  | (simp at e;simp only[e])
theorem kwl{rec:Rec}{o:Op}{ty:TypeId}{a b:Fr}{h:AH}{R:Type}{k:AV->AH->Option R}(e:∀x∈o.operands.toList,evO a x=evO b x):opM P rec o ty a h k=opM P rec o ty b h k:=by
 have ok:opK P rec o ty a h k=opK P rec o ty b h k:=kpl e;unfold opM;split
 ·rfl
 ·rw[e _ (by simp[Op.operands];done),e _ (by simp[Op.operands];done),e _ (by simp[Op.operands];done)]
 ·rw[e _ (by simp[Op.operands];done),e _ (by simp[Op.operands];done),e _ (by simp[Op.operands];done)]
 ·rw[e _ (by simp[Op.operands];done),e _ (by simp[Op.operands];done)]
 ·rw[e _ (by simp[Op.operands];done),e _ (by simp[Op.operands];done)]
 ·rw[e _ (by simp[Op.operands];done),e _ (by simp[Op.operands];done),e _ (by simp[Op.operands];done)]
 ·rename_i c;rw[kis (a:=a) (b:=b) (xs:=c.args.toList) λx y=>e x (by simp only[Op.operands,Call.operands];simp at y|-;exact .inr y),ok]
 ·exact ok
theorem knw{rec:Rec}{o:Op}{ty:TypeId}{a b:Fr}{h:AH}{R:Type}{k:AV->AH->Option R}(e:∀x∈o.operands.toList,evO a x=evO b x):opX P rec o ty a h k=opX P rec o ty b h k:=by
 unfold opX;rw[kpl e];congr 1;unfold opP;split
 ·rw[e _ (by simp[Op.operands];done),e _ (by simp[Op.operands];done),e _ (by simp[Op.operands];done),kwl e]
 ·rw[e _ (by simp[Op.operands];done),e _ (by simp[Op.operands];done),kwl e]
 ·exact kwl e
noncomputable def valA(P:Program)(rec:Rec)(ops:Array Oper)(o:Oper)(fr:Fr)(h:AH):Option (AV×AH) :=
 match o.guard with
 | none=>opX P rec o.op o.type fr h pk
 | some (j,b)=>match ((ops[j]?).bind (·.dst))with
  | none=>none
  | some t=>match fr.get t with
   | some (.bool c)=>cond (c==b) (opX P rec o.op o.type fr h pk) (some (.tup [],h))
   | some (.tup [])=>some (.tup [],h)
   | _=>none
def fitsN(N:Nat)(d:Option Tmp):Prop:=∀t,d=some t->Nat.blt t N=true
theorem k36{N:Nat}{d:Option Tmp}{v:AV}{fr:Fr}{R:Type}{k:Fr->Option R}{r:R}:putT N d v fr k=some r↔fitsN N d/\k (putd d v fr)=some r:=by
 simp only[ki1];cases d with
 | none=>simp[fitsN]
 | some t =>simp only[fitsN,qcd,forall_eq'];cases hb:Nat.blt t N<;>simp
theorem kr3{fr:Fr}{t:Tmp}{v:AV}(h:fr.get t=some v):Fr.same ((t,v)::fr) fr:=λs=>by
 rw[get_cons];split
 ·rename_i e;subst e;exact h.symm
 ·rfl
noncomputable def step1(P:Program)(rec:Rec)(N:Nat)(ops:Array Oper)(i:Nat)(fr:Fr)(h:AH):Option (Fr×AH):=opsK P rec N ops [i] fr h pf
theorem kx2{rec:Rec}{N:Nat}{ops:Array Oper}{i:Nat}{o:Oper}(W:ops[i]?=some o){fr:Fr}{h:AH}{F:Fr}{h1:AH} :
  step1 P rec N ops i fr h=some (F,h1)->∃v,valA P rec ops o fr h=some (v,h1)/\fitsN N o.dst/\F.same (putd o.dst v fr):=by
 intro hs;simp only[step1,opsK,W]at hs
 have go:∀{z:Fr},z.same fr->(opX P rec o.op o.type z h λv h'=>putT N o.dst v z λG=>pf G h')=some (F,h1)->∃v,opX P rec o.op o.type fr h pk=some (v,h1)/\fitsN N o.dst/\F.same (putd o.dst v fr):=by intro z y hk;rw[kkq,qbw]at hk;obtain⟨⟨v,h'⟩,H,I⟩:=hk;obtain⟨U,Q⟩:=k36.1 I;simp only[pf,qcd,qce]at Q;obtain⟨rfl,rfl⟩:=Q;rw[knw (b:=fr) λx _=>kde λt _=>y t]at H;exact⟨v,H,U,y.putd _ _⟩
 have skip:∀{z:Fr},z.same fr->(putT N o.dst (.tup []) z λG=>pf G h)=some (F,h1)->h1=h/\fitsN N o.dst/\F.same (putd o.dst (.tup []) fr):=by intro z y hk;obtain⟨U,Q⟩:=k36.1 hk;simp only[pf,qcd,qce]at Q;obtain⟨rfl,rfl⟩:=Q;exact⟨rfl,U,y.putd _ _⟩
 unfold valA;split at hs
 ·rename_i V;rw[V];exact go (Fr.same.refl _) hs
 ·rename_i j b V;rw[V];split at hs
  ·cases hs
  ·rename_i t Z;simp only[Z];split at hs
   ·rename_i c K;simp only[K];cases c<;>cases b<;>simp only[cond_true,cond_false]at hs
    ·exact go (kr3 K) hs
    ·obtain⟨rfl,H,I⟩:=skip (kr3 K) hs;exact⟨_,rfl,H,I⟩
    ·obtain⟨rfl,H,I⟩:=skip (kr3 K) hs;exact⟨_,rfl,H,I⟩
    ·exact go (kr3 K) hs
   ·rename_i K;simp only[K];obtain⟨rfl,H,I⟩:=skip (Fr.same.refl _) hs;exact⟨_,rfl,H,I⟩
   ·cases hs
theorem kom{rec:Rec}{ops:Array Oper}{o:Oper}{a b:Fr}{h:AH}(e:∀t∈o.looksAt ops,a.get t=b.get t):valA P rec ops o a h=valA P rec ops o b h:=by
 have z:opX P rec o.op o.type a h pk=opX P rec o.op o.type b h pk:=knw λx F=>kde λt y=>e t (by subst y;exact List.mem_append_left _ (List.mem_filterMap.2 ⟨_,F,rfl⟩))
 unfold valA;cases G:o.guard with
 | none=>exact z
 | some jb =>
  obtain⟨j,b'⟩:=jb;dsimp only;cases y:(ops[j]?).bind (·.dst)with
  | none=>rfl
  | some t =>have:=e t (by simp[Oper.looksAt,G,y]);simp only[this,z]
theorem kn2{ops:Array Oper}{o:Oper}{a b:Fr}{i:Nat}(e:∀t∈o.looksAt ops,a.get t=b.get t):kb0 P i o.op a=kb0 P i o.op b:=by
 unfold kb0;split
 ·rename_i t x y
  rw[kde (a:=a) (b:=b) λs hs=>e s (by subst hs;exact List.mem_append_left _ (List.mem_filterMap.2 ⟨.tmp s,by rw[y];simp[Op.operands],rfl⟩))]
 ·rfl
theorem k3s{R:Type}{f g:Nat->Option AV}:∀{ls:List Leaf}{i:Nat}{k:List AV->Option R},(∀j,i<=j->j<i+ls.length->f j=g j)->kd5 f ls i k=kd5 g ls i k
 | [],i,k,h=>rfl
 | l::ls,i,k,h=>by simp only[kd5];rw[h i (qbr _) (by simp)];congr 1;funext v;exact k3s λj h1 h2=>h j (by omega) (by simp at h2|-;omega)
theorem kbmu{R:Type}{t:TypeId}{r:Ref}{h h':AH}{k:AV->Option R}{d:TypeDesc}(z:P.underlying t=some d)(e:SameAt h h' r (cond (isAggD d) (P.cellsOf t) 1)):loadK P t r h' k=loadK P t r h k:=by
 unfold loadK;simp only[z];cases y:isAggD d with
 | true =>
  rw[y]at e;simp only[cond_true]at e|-;cases F:leaves P 20 t with
  | none=>rfl
  | some ls =>
   dsimp only;cases hb:Nat.beq ls.length (P.cellsOf t)with
   | false=>rfl
   | true =>
    simp only[cond_true];have:=Nat.eq_of_beq_eq_true hb;exact k3s λj h1 h2=>e.1 j (by omega)
 | false =>rw[y]at e;simp only[cond_false]at e|-;have:=e.1 0 (by omega);rw[Ref.add_zero]at this;rw[this]
theorem k0o{rec:Rec}{i:Nat}{o:Op}{ty:TypeId}{fr:Fr}{h:AH}{v:AV}{h1:AH}(F:nonEff o=true)(hk:opK P rec o ty fr h pk=some (v,h1)) :
  h1=h/\∀h2,(∀p∈kb0 P i o fr,SameAt h h2 p.ref p.size)->opK P rec o ty fr h2 pk=some (v,h2):=by
 obtain⟨g1,V⟩:=kr1;obtain⟨g2,W⟩:=kwn;obtain⟨g3,H⟩:=ks9;obtain⟨g4,Z⟩:=kx1;obtain⟨g5,e5⟩:=k54;obtain⟨g6,e6⟩:=k2z;obtain⟨g7,e7⟩:=k3e;obtain⟨g8,e8⟩:=k2t;obtain⟨g9,e9⟩:=k0z;obtain⟨aa,I⟩:=kic
 have key:(∃x:Option AV,∀h,opK P rec o ty fr h pk=x.bind λv=>some (v,h))->h1=h/\∀h2,(∀p∈kb0 P i o fr,SameAt h h2 p.ref p.size)->opK P rec o ty fr h2 pk=some (v,h2):=by
  rintro ⟨x,Q⟩
  rw[Q,qbw]at hk;obtain⟨u,G,hq⟩:=hk;simp only[qcd,qce]at hq;obtain⟨rfl,rfl⟩:=hq;exact⟨rfl,λh2 _=>by rw[Q,G];rfl⟩
 have y:(∀h,opK P rec o ty fr h pk=(opK P rec o ty fr ⟨#[],#[]⟩ (λv _=>some v):Option AV).bind λv=>some (v,h))->h1=h/\∀h2,(∀p∈kb0 P i o fr,SameAt h h2 p.ref p.size)->opK P rec o ty fr h2 pk=some (v,h2):=λhh=>key ⟨_,hh⟩;cases o<;>simp only[nonEff]at F<;>try (cases F;done)
 case load t a =>
  simp only[opK]at hk;split at hk
  ·rename_i r U;rw[H,qbw]at hk;obtain⟨u,G,hq⟩:=hk;simp only[pk,qcd,qce]at hq;obtain⟨rfl,rfl⟩:=hq;refine⟨rfl,λh2 hs=>?_⟩;cases K:P.underlying t with
   | none =>
    have:loadK P t r h some=none:=by unfold loadK;rw[K]
    rw[H,G]at this;cases this
   | some d =>have:=hs ⟨i,r,cond (isAggD d) (P.cellsOf t) 1⟩ (by simp[kb0,U,K]);simp only[opK,U];rw[kbmu K this,H,G];rfl
  ·cases hk
  ·cases hk
 case call c =>
  split at F
  ·rename_i z;refine y λh=>?_;simp only[opK,callK,z,kgr]
   repeat' split
   all_goals first | contradiction | simp[e8,pk]
  ·rename_i z;refine y λh=>?_;simp only[opK,callK,z,kgr]
   repeat' split
   all_goals first | contradiction | simp[pk]
  ·rename_i z;refine y λh=>?_;simp only[opK,callK,z,kgr]
   repeat' split
   all_goals first | contradiction | simp[pk]
  ·cases F
 all_goals
  refine y λh=>?_;simp only[opK,V,W,Z,e5,e6,e7,e9,I]
  repeat' split
  all_goals simp[pk,kd4,kkf,kbh,Option.bind_assoc]
theorem k4a{rec:Rec}{o:Op}{ty:TypeId}{fr:Fr}{h:AH}{R:Type}{k:AV->AH->Option R}(y:nonEff o=true):opX P rec o ty fr h k=opK P rec o ty fr h k:=by unfold opX;rw[y];rfl
theorem krp{rec:Rec}{ops:Array Oper}{i:Nat}{o:Oper}{fr:Fr}{h:AH}{v:AV}{h1:AH}(z:nonEff o.op=true)(hv:valA P rec ops o fr h=some (v,h1)) :
  h1=h/\∀h2,(∀p∈kb0 P i o.op fr,SameAt h h2 p.ref p.size)->valA P rec ops o fr h2=some (v,h2):=by
 unfold valA at hv|-;simp only[k4a z]at hv|-;split at hv
 ·rename_i F
  try simp only[F]
  exact k0o z hv
 ·rename_i j b F
  try simp only[F]
  split at hv
  ·cases hv
  ·rename_i t H
   try simp only[H]
   split at hv
   ·rename_i c G
    try simp only[G]
    cases y:(c==b)with
    | true =>
     rw[y]at hv;exact k0o z hv
    | false =>rw[y]at hv;simp only[cond_false,qcd,qce]at hv;exact⟨hv.2.symm,λh2 _=>by simp[hv.1]⟩
   ·rename_i G;simp only[qcd,qce]at hv;exact⟨hv.2.symm,λh2 _=>by simp[hv.1]⟩
   ·cases hv
section
variable{rec:Rec}{N:Nat}{ops:Array Oper}{an:Nat->Nat}{k:Fr->AH->Option (AV×AH)}{r:AV×AH}
theorem SameBlk.refl(h:AH):∀r,SameBlk h h r
 | .new _ _=>rfl
 | .old _=>True.intro
def chk(m:Nat)(h h':AH)(ps:List Look):Prop:=∀p∈ps,m.testBit p.at_=false->SameAt h h' p.ref p.size
def AnyA(P:Program)(rec:Rec)(N:Nat)(ops:Array Oper)(an:Nat->Nat)(k:Fr->AH->Option (AV×AH))(r:AV×AH):Nat->Array Bool->List Look->Fr->AH->Prop
 | 0,l,_,fr,h=>Region.ready .any ops l=[]/\k fr h=some r
 | n+1,l,ps,fr,h=>(Region.ready .any ops l=[]->k fr h=some r)/\∀i∈Region.ready .any ops l,∀o,ops[i]?=some o->∃v h1,valA P rec ops o fr h=some (v,h1)/\fitsN N o.dst/\
   (nonEff o.op=false->chk (an i) h h1 ps)/\AnyA P rec N ops an k r n (l.setIfInBounds i true) (cond (nonEff o.op) (kb0 P i o.op fr++ps) ps) (putd o.dst v fr) h1
theorem AnyA.same(hk:∀(a b:Fr)(h:AH),a.same b->k a h=k b h):∀{n:Nat}{l:Array Bool}{ps z:List Look}{a b:Fr}{h:AH},a.same b->(∀p∈z,p∈ps)->AnyA P rec N ops an k r n l ps a h->AnyA P rec N ops an k r n l z b h
 | 0,l,ps,z,a,b,h,e,hp,H=>⟨H.1,by rw[<- hk _ _ _ e];exact H.2⟩
 | n+1,l,ps,z,a,b,h,e,hp,H=>by
  refine⟨λh0=>by rw[<- hk _ _ _ e];exact H.1 h0,λi F o G=>?_⟩;obtain⟨v,h1,h2,I,K,Q⟩:=H.2 i F o G;refine⟨v,h1,by rw[<- kom λt _=>e t];exact h2,I,λU p y=>K U p (hp p y),AnyA.same hk (e.putd _ _) ?_ Q⟩;rw[kn2 (ops:=ops) (a:=b) (b:=a) λt _=>(e t).symm];intro p y;cases hq:nonEff o.op with
  | true =>
   simp only[hq,cond_true,qb7]at y|-;exact y.imp id (hp p)
  | false =>simp only[hq,cond_false]at y|-;exact hp p y
def Closed(ops:Array Oper)(l:Array Bool):Prop:=l.size=ops.size/\∀(j:Nat)(o:Oper),l.getD j false=true->ops[j]?=some o->∀e∈o.after,Region.binds .any e=true->l.getD e.on false=true
theorem Closed.set{l:Array Bool}{i:Nat}(H:Closed ops l)(Q:i∈Region.ready .any ops l):Closed ops (l.setIfInBounds i true):=by
 refine⟨by simpa using H.1,?_⟩;intro j o I F e K hb;obtain⟨h0,U,G,y⟩:=mem_ready.1 Q;by_cases z:i=j
 ·subst z;rw[G]at F;cases F;exact getD_set_true (y e K hb)
 ·rw[getD_set_ne false z]at I;exact getD_set_true (H.2 j o I F e K hb)
theorem chk.mono{m:Nat}{h h':AH}{ps qs:List Look}(hq:∀p∈qs,p∈ps)(c:chk m h h' ps):chk m h h' qs:=λp hp=>c p (hq p hp)
theorem AnyA.first(hk:∀(a b:Fr)(h:AH),a.same b->k a h=k b h)(aa:∀l,Closed ops l->∀j∈Region.ready .any ops l,∀i,(an j).testBit i=true->l.getD i false=true)
  {i:Nat} {K:Oper} {vi:AV} (hi:ops[i]?=some K) (Q:nonEff K.op=true) (U:fitsN N K.dst) :
  ∀(n:Nat){l:Array Bool}{ps:List Look}{fr:Fr}{h:AH},Closed ops l->(∀j F,ops[j]?=some F->j≠i->l.getD j true=false->(∀e∈F.after,Region.binds .any e=true->e.on≠i)->K.apart ops F=true)->
   i∈Region.ready .any ops l->valA P rec ops K fr h=some (vi,h)->AnyA P rec N ops an k r n (l.setIfInBounds i true) (kb0 P i K.op fr++ps) (putd K.dst vi fr) h->AnyA P rec N ops an k r (n+1) l ps fr h
 | 0,l,ps,fr,h,hc,G,hr,hv,H=>by
  refine⟨λh0=>(by rw[h0]at hr;cases hr),λj hj F y=>?_⟩;by_cases z:j=i
  ·subst z;rw[hi]at y;cases y;exact⟨vi,h,hv,U,(λhn=>by rw[Q]at hn;cases hn),by rw[Q];exact H⟩
  ·have:=ready_mono hj z;rw[H.1]at this;cases this
 | n+1,l,ps,fr,h,hc,G,hr,hv,H=>by
  refine⟨λh0=>(by rw[h0]at hr;cases hr),λj hj F y=>?_⟩;by_cases z:j=i
  ·subst z;rw[hi]at y;cases y;exact⟨vi,h,hv,U,(λhn=>by rw[Q]at hn;cases hn),by rw[Q];exact H⟩
  ·obtain⟨vj,h2,e1,e2,e3,e4⟩:=H.2 j (ready_mono hj z) F y;obtain⟨ab,ao,ac,ad⟩:=mem_ready.1 hj;rw[y]at ac;cases ac;have I:=(mem_ready.1 hr).1
   have ae:∀e∈F.after,Region.binds .any e=true->e.on≠i:=λe V hb ah=>by
    have h1:=ad e V hb;rw[ah]at h1;rcases Nat.lt_or_ge i l.size with h' | h'
    ·simp[h']at I h1;rw[I]at h1;cases h1
    ·simp[Array.getElem?_eq_none h']at h1
   obtain⟨a1,a2,a3⟩:=Oper.apart_spec (G j F y z ab ae)
   have b1:valA P rec ops F fr h=some (vj,h2):=by rw[<- e1];exact kom λt ht=>(kj1 λs hs V=>a1 s hs (V▸ht)).symm
   have ai:(an j).testBit i=false:=by
    cases hb:(an j).testBit i with
    | false=>rfl
    | true =>
     have:=aa l hc j hj i hb;rcases Nat.lt_or_ge i l.size with h' | h'
     ·simp[h']at I this;rw[I]at this;cases this
     ·simp[Array.getElem?_eq_none h']at this
   have b2:valA P rec ops K (putd F.dst vj fr) h2=some (vi,h2):=by
    have:∀p∈kb0 P i K.op fr,SameAt h h2 p.ref p.size:=by
     intro p hp;cases W:nonEff F.op with
     | true =>
      have:=(krp (i:=j) W b1).1;subst this;exact⟨λ_ _=>rfl,λ_=>SameBlk.refl _ _⟩
     | false =>
      refine e3 W p (by simp[hp]) ?_
      have:p.at_=i:=by
       unfold kb0 at hp;split at hp
       ·split at hp
        ·split at hp<;>simp at hp;subst hp;rfl
        ·simp at hp
       ·simp at hp
      rw[this];exact ai
    rw[kom (b:=fr) λt ht=>kj1 λs hs V=>a3 s hs (V▸ht)];exact(krp Q hv).2 h2 this
   refine⟨vj,h2,b1,e2,λW=>(e3 W).mono λp hp=>by simp[hp],?_⟩
   have Z:∀k' ok,ops[k']?=some ok->k'≠i->(l.setIfInBounds j true).getD k' true=false->(∀e∈ok.after,Region.binds .any e=true->e.on≠i)->K.apart ops ok=true:=λk' ok aj ak af al=>by
    refine G k' ok aj ak ?_ al;by_cases ag:j=k'
    ·subst ag;exact ab
    ·rw[getD_set_ne true ag]at af;exact af
   refine AnyA.first hk aa hi Q U n (hc.set hj) Z (ready_mono hr (Ne.symm z)) b2 ?_;rw[Array.setIfInBounds_comm _ _ z];refine AnyA.same hk (kbql λd hd=>?_) (λp hp=>?_) e4
   ·intro am;exact a2 d am hd
   ·have l1:kb0 P i K.op (putd F.dst vj fr)=kb0 P i K.op fr:=kn2 (ops:=ops) λt ht=>kj1 λs hs V=>a3 s hs (V▸ht);have l2:kb0 P j F.op (putd K.dst vi fr)=kb0 P j F.op fr:=kn2 (ops:=ops) λt ht=>kj1 λs hs V=>a1 s hs (V▸ht);rw[l1]at hp;rw[l2];cases hq:nonEff F.op<;>simp only[hq,cond_true,cond_false,qb7]at hp|-
    ·exact hp
    ·rcases hp with hp | hp | hp
     ·exact .inr (.inl hp)
     ·exact .inl hp
     ·exact .inr (.inr hp)
def Rel(ops:Array Oper)(l:Array Bool)(m:Nat):Prop:=l.size=ops.size/\∀j,l.getD j false=m.testBit j
theorem Rel.getD_true{l:Array Bool}{m:Nat}(R:Rel ops l m){j:Nat}:l.getD j true=false↔j<ops.size/\m.testBit j=false:=by
 rw[<- R.2 j];rcases Nat.lt_or_ge j l.size with h | h
 ·simp[h,show j<ops.size from R.1▸h]
 ·simp[Array.getElem?_eq_none h,show¬j<ops.size from by have:=R.1;omega]
theorem Rel.set{l:Array Bool}{m i:Nat}(R:Rel ops l m)(z:i<ops.size):Rel ops (l.setIfInBounds i true) (m|||1 <<< i):=by
 refine⟨by simp[R.1],λj=>?_⟩;rw[Nat.testBit_or,<- R.2 j,Nat.one_shiftLeft,Nat.testBit_two_pow];by_cases y:i=j
 ·subst y;simp[show i<l.size from R.1▸z]
 ·rw[getD_set_ne false y];simp[y]
theorem kbg0(es:List Edge):∀(m j:Nat),(es.foldl (λm e=>cond (Region.binds .any e) (m|||1 <<< e.on) m) m).testBit j=true↔m.testBit j=true\/∃e∈es,Region.binds .any e=true/\e.on=j:=by
 induction es with
 | nil=>simp
 | cons e es ih =>
  intro m j;rw[List.foldl_cons,ih];cases hb:Region.binds .any e with
  | false=>simp[hb]
  | true =>
   simp only[cond_true,Nat.testBit_or,Nat.one_shiftLeft,Nat.testBit_two_pow,qcc,qby,qb8,exists_eq_or_imp,hb,true_and];constructor
   ·rintro ((h | h) | h)
    ·exact .inl h
    ·exact .inr (.inl h)
    ·exact .inr (.inr h)
   ·rintro (h | h | h)
    ·exact .inl (.inl h)
    ·exact .inl (.inr h)
    ·exact .inr h
theorem knl{o:Oper}{j:Nat}:(depsOf o).testBit j=true↔∃e∈o.after,Region.binds .any e=true/\e.on=j:=by unfold depsOf;rw[kbg0];simp
theorem krm(i:Nat):(ops.toList.map depsOf)[i]?=(ops[i]?).map depsOf:=by simp
theorem k9r{d m:Nat}:Nat.beq (d&&&m) d=true↔∀j,d.testBit j=true->m.testBit j=true:=by
 constructor
 ·intro h j y;have:=Nat.eq_of_beq_eq_true h;rw[<- this,Nat.testBit_and]at y;simp at y;exact y.2
 ·intro h
  have:d&&&m=d:=Nat.eq_of_testBit_eq λj=>by
   rw[Nat.testBit_and];cases y:d.testBit j with
   | false=>rfl
   | true=>rw[h j y];rfl
  rw[this];simp
theorem k07{l:Array Bool}{m i:Nat}(R:Rel ops l m):readyB (ops.toList.map depsOf) m i=true↔i∈Region.ready .any ops l:=by
 rw[mem_ready,R.getD_true];unfold readyB;rw[krm];cases F:ops[i]? with
 | none=>simp
 | some o =>
  have y:i<ops.size:=(qcf.1 F).1;simp only[Option.map_some,qcb,k9r,knl,qcl,y,true_and,qcd,exists_eq_left'];constructor
  ·rintro ⟨h1,h2⟩
   exact⟨h2,λe z hb=>by rw[R.2];exact h1 _ ⟨e,z,hb,rfl⟩⟩
  ·rintro ⟨h1,h2⟩
   exact⟨λj ⟨e,z,hb,G⟩=>by rw[<- G,<- R.2];exact h2 e z hb,h1⟩
theorem k5n{d x:Nat}:∀{as:List Nat}{i:Nat},(orBits d as i).testBit x=true->∃j a,as[j]?=some a/\d.testBit (i+j)=true/\a.testBit x=true
 | [],i,h=>by simp[orBits]at h
 | a::as,i,h=>by
  simp only[orBits]at h
  have tail:(orBits d as (i+1)).testBit x=true->∃j b,(a::as)[j]?=some b/\d.testBit (i+j)=true/\b.testBit x=true:=λh=>by obtain⟨j,b,h1,h2,y⟩:=k5n h;exact⟨j+1,b,by simpa using h1,by rw[<- h2];congr 1;omega,y⟩
  cases hb:d.testBit i with
  | false=>rw[hb]at h;exact tail h
  | true =>
   rw[hb,cond_true,Nat.testBit_or,qcc]at h;rcases h with h | h
   ·exact⟨0,a,rfl,by simpa using hb,h⟩
   ·exact tail h
theorem k6b{m:Nat}:∀(ds z:List Nat),(∀(j a d:Nat),z[j]?=some a->(ops.toList.map depsOf)[j]?=some d->(∀x,d.testBit x=true->m.testBit x=true)->∀x,a.testBit x=true->m.testBit x=true)->
  (∀(j d:Nat),m.testBit j=true->(ops.toList.map depsOf)[j]?=some d->∀x,d.testBit x=true->m.testBit x=true)->
  (∀(j d:Nat),ds[j]?=some d->(ops.toList.map depsOf)[z.length+j]?=some d)->z.length+ds.length=ops.size->
  ∀(j a d:Nat),(ancsOf z ds)[j]?=some a->(ops.toList.map depsOf)[j]?=some d->(∀x,d.testBit x=true->m.testBit x=true)->∀x,a.testBit x=true->m.testBit x=true
 | [],z,F,V,W,Z=>by simpa[ancsOf]using F
 | d0::ds,z,F,V,W,Z=>by
  simp only[ancsOf];refine k6b ds _ ?_ V (λj d H=>?_) (by simp at Z|-;omega)
  ·intro j a d H K G x I;rcases Nat.lt_trichotomy j z.length with aa | rfl | ab
   ·rw[List.getElem?_append_left aa]at H;exact F j a d H K G x I
   ·rw[List.getElem?_append_right (qbr _)]at H;simp at H;have e0:=W 0 d0 (by simp);rw[Nat.add_zero,K]at e0;cases e0;rw[<- H,Nat.testBit_or,qcc]at I;rcases I with I | I
    ·exact G x I
    ·obtain⟨y,b,h1,h2,h3⟩:=k5n I;rw[Nat.zero_add]at h2;have hm:=G y h2
     have hy:y<z.length:=by
      rcases Nat.lt_or_ge y z.length with h | h
      ·exact h
      ·rw[List.getElem?_eq_none h]at h1;cases h1
     have:∃U,(ops.toList.map depsOf)[y]?=some U:=⟨_,qb6 (by simp at Z|-;omega)⟩;obtain⟨U,Q⟩:=this;exact F y b U h1 Q (V y U hm Q) x h3
   ·rw[List.getElem?_eq_none (by simp;omega)]at H;cases H
  ·have:=W (j+1) d (by simpa using H);rw[<- this];congr 1;simp;omega
theorem Rel.closed{l:Array Bool}{m:Nat}(R:Rel ops l m)(F:Closed ops l):∀j d,m.testBit j=true->(ops.toList.map depsOf)[j]?=some d->∀x,d.testBit x=true->m.testBit x=true:=by
 intro j d G y x H;rw[krm]at y;cases z:ops[j]? with
 | none=>rw[z]at y;cases y
 | some o =>rw[z]at y;simp only[Option.map_some,qcd]at y;subst y;obtain⟨e,I,hb,rfl⟩:=knl.1 H;rw[<- R.2];exact F.2 j o (by rw[R.2];exact G) z e I hb
def maskOf(l:List Bool):Nat:=match l with
 | []=>0
 | b::bs=>cond b 1 0+2*maskOf bs
theorem kz0:∀(l:List Bool)(j:Nat),(maskOf l).testBit j=(l[j]?).getD false
 | [],j=>by simp[maskOf]
 | b::bs,0=>by
  simp only[maskOf,Nat.testBit_zero];cases b<;>simp<;>omega
 | b::bs,j+1=>by
  simp only[maskOf,Nat.testBit_succ];have:(cond b 1 0+2*maskOf bs)/2=maskOf bs:=by cases b<;>simp<;>omega
  rw[this,kz0 bs j];simp
theorem kbcj{l:Array Bool}(y:l.size=ops.size):Rel ops l (maskOf l.toList):=⟨y,λj=>by rw[kz0];simp⟩
theorem anc_ok:∀l,Closed ops l->∀j∈Region.ready .any ops l,∀i,(((ancsOf [] (ops.toList.map depsOf))[j]?).getD 0).testBit i=true->l.getD i false=true:=by
 intro l H j y i hb;have R:=kbcj H.1;cases F:(ancsOf [] (ops.toList.map depsOf))[j]? with
 | none=>rw[F]at hb;simp at hb
 | some a =>rw[F,Option.getD_some]at hb;obtain⟨h0,o,I,z⟩:=mem_ready.1 y;rw[R.2];refine k6b (m:=maskOf l.toList) (ops.toList.map depsOf) [] (λj a d y=>by simp at y) (R.closed H) (λj d y=>by simpa using y) (by simp) j a (depsOf o) F (by rw[krm,I];rfl) ?_ i hb;intro x K;obtain⟨e,Q,G,rfl⟩:=knl.1 K;rw[<- R.2];exact z e Q G
theorem kse{m:Nat}{h h':AH}{R:Type}{x:Option R}{res:R}:∀{ps:List Look},checkP m h h' x ps=some res->chk m h h' ps/\x=some res
 | [],hk=>⟨λp hp=>by simp at hp,hk⟩
 | p::ps,hk=>by
  simp only[checkP]at hk;cases hb:m.testBit p.at_ with
  | true =>
   rw[hb]at hk;obtain⟨h1,h2⟩:=kse hk;refine⟨λq hq y=>?_,h2⟩;rcases qb8.1 hq with rfl | hq
   ·rw[hb]at y;cases y
   ·exact h1 q hq y
  | false =>
   rw[hb]at hk;simp only[cond_false,whenK]at hk;split at hk
   ·rename_i hs;obtain⟨h1,h2⟩:=kse hk;refine⟨λq hq y=>?_,h2⟩;rcases qb8.1 hq with rfl | hq
    ·exact hs
    ·exact h1 q hq y
   ·cases hk
theorem k6e{R:Type}{i:Nat}{fr:Fr}{h:AH}{z:Fr->AH->Option R}{res:R}(hk:opsK P rec N ops [i] fr h z=some res):∃y h1,step1 P rec N ops i fr h=some (y,h1)/\z y h1=some res:=by rw[kwe,qbw]at hk;obtain⟨⟨y,h1⟩,F,G⟩:=hk;exact⟨y,h1,F,G⟩
@[reducible] def anOf(ops:Array Oper):Nat->Nat:=λj=>((ancsOf [] (ops.toList.map depsOf))[j]?).getD 0
theorem kof(hk:∀(a b:Fr)(h:AH),a.same b->k a h=k b h):∀(c:List Nat){l:Array Bool}{m:Nat}{ps:List Look}{fr:Fr}{h:AH},Rel ops l m->Closed ops l->
  opsD P rec N ops (ops.toList.map depsOf) (ancsOf [] (ops.toList.map depsOf)) c m ps fr h k=some r->AnyA P rec N ops (anOf ops) k r c.length l ps fr h
 | [],l,m,ps,fr,h,R,W,y=>by
  simp only[opsD]at y;cases hb:Nat.beq m (2^ops.size-1)with
  | false=>rw[hb]at y;cases y
  | true =>
   rw[hb]at y;have hm:=Nat.eq_of_beq_eq_true hb;refine⟨?_,y⟩;cases hr:Region.ready .any ops l with
   | nil=>rfl
   | cons j js =>
    have K:j∈Region.ready .any ops l:=by rw[hr];simp
    obtain⟨h0,-⟩:=mem_ready.1 K;obtain⟨h1,h2⟩:=R.getD_true.1 h0;rw[hm,Nat.testBit_two_pow_sub_one]at h2;simp[h1]at h2
 | i::c,l,m,ps,fr,h,R,W,y=>by
  simp only[opsD]at y;split at y
  ·rename_i o an Q aa;have U:i<ops.size:=(qcf.1 Q).1;cases hb:readyB (ops.toList.map depsOf) m i with
   | false=>rw[hb]at y;cases y
   | true =>
    rw[hb,cond_true]at y;have V:=(k07 R).1 hb;cases z:nonEff o.op with
    | true =>
     rw[z,cond_true]at y;cases F:freeB ops (ops.toList.map depsOf) m i o with
     | false=>rw[F]at y;cases y
     | true =>
      rw[F,cond_true]at y;obtain⟨ab,h1,e1,e2⟩:=k6e y;obtain⟨v,Z,e4,e5⟩:=kx2 Q e1;obtain⟨rfl,-⟩:=krp (i:=i) z Z;have IH:=kof hk c (R.set U) (W.set V) e2;refine AnyA.first hk anc_ok Q z e4 c.length W ?_ V Z (IH.same hk e5 λp hp=>hp);intro j oj K G ac ad;have H:j<ops.size:=(qcf.1 K).1;have:=List.all_eq_true.1 F j (qco.2 H);rw[krm,K]at this;simp only[Option.map_some,qcc]at this;rcases this with((h1 | h1) | h1) | h1
      ·exact absurd (Nat.eq_of_beq_eq_true h1) G
      ·rw[(R.getD_true.1 ac).2]at h1;cases h1
      ·obtain⟨e,he,ae,af⟩:=knl.1 h1;exact absurd af (ad e he ae)
      ·exact h1
    | false =>
     rw[z,cond_false]at y;cases F:onlyB ops.size (ops.toList.map depsOf) m i with
     | false=>rw[F]at y;cases y
     | true =>
      rw[F,cond_true]at y;obtain⟨ab,h1,e1,e2⟩:=k6e y;obtain⟨v,Z,e4,e5⟩:=kx2 Q e1;obtain⟨e6,e7⟩:=kse e2;have IH:=kof hk c (R.set U) (W.set V) e7;refine⟨λh0=>(by rw[h0]at V;cases V),λj K oj I=>?_⟩
      have G:j=i:=by
       have H:j<ops.size:=(qcf.1 I).1;have:=List.all_eq_true.1 F j (qco.2 H);simp only[qcc]at this;rcases this with h1 | h1
       ·exact Nat.eq_of_beq_eq_true h1
       ·rw[(k07 R).2 K]at h1;cases h1
      subst G;rw[Q]at I;cases I;refine⟨v,h1,Z,e4,λ_=>by rw[anOf,aa];exact e6,?_⟩;rw[z];exact IH.same hk e5 λp hp=>hp
  ·cases y
theorem kbbo(hk:∀(a b:Fr)(h:AH),a.same b->k a h=k b h){y:List Nat}{fr:Fr}{h:AH}(z:drawK P rec N ops y fr h k=some r) :
  AnyA P rec N ops (anOf ops) k r ops.size (Array.replicate ops.size false) [] fr h:=by
 unfold drawK at z;cases hb:Nat.beq y.length ops.size with
 | false=>rw[hb]at z;cases z
 | true =>
  rw[hb,cond_true]at z
  have:=kof (l:=Array.replicate ops.size false) hk y ⟨by simp,λj=>by simp[Array.getElem?_replicate];split<;>rfl⟩ ⟨by simp,λj o F=>by rw[Array.getD_eq_getD_getElem?,Array.getElem?_replicate]at F;split at F<;>simp at F⟩ z
  rw[Nat.eq_of_beq_eq_true hb]at this;exact this
end
section
variable{O:World}
theorem AnyA.sound{rec:Rec}(Q:RecOk P O rec){N:Nat}{ops:Array Oper}{an:Nat->Nat}{k:Fr->AH->Option (AV×AH)}{r:AV×AH}{μ0:Mu}{h0:AH}{w0:World}:∀(n:Nat){l:Array Bool}{ps:List Look}{fr:Fr}{h:AH}{μ:Mu}{w:World}{a:Act},
  AnyA P rec N ops an k r n l ps fr h->Sim P O μ h w->FRel μ N fr a.tmps->Ext μ0 h0 w0 μ h->Frm μ0 h0 w0 w->wpAny P .any ops (After P O μ0 N h0 w0 a.defers k r) n l a w
 | 0,l,ps,fr,h,μ,w,a,H,S,F,E,M=>⟨H.1,rfl,rfl,fr,h,μ,H.2,S,F,E,M⟩
 | n+1,l,ps,fr,h,μ,w,a,H,S,F,E,M=>by
  refine⟨λhr=>⟨rfl,rfl,fr,h,μ,H.1 hr,S,F,E,M⟩,λi hi=>?_⟩;obtain⟨-,o,ho,-⟩:=mem_ready.1 hi;obtain⟨v,h1,y,e2,-,e3⟩:=H.2 i hi o ho;unfold wpOp;simp only[ho]
  have put:∀{ν:Mu}{u:Value}{h1:AH}{V:World},FRel ν N fr a.tmps->VRel ν v u->Sim P O ν h1 V->Ext μ0 h0 w0 ν h1->Frm μ0 h0 w0 V->AnyA P rec N ops an k r n (l.setIfInBounds i true) (cond (nonEff o.op) (kb0 P i o.op fr++ps) ps) (putd o.dst v fr) h1->
    wpAny P .any ops (After P O μ0 N h0 w0 a.defers k r) n (l.setIfInBounds i true) (a.put o.dst u) V:=by
   intro ν u h1 V F' hv S' E' M' H'
   have F2:FRel ν N (putd o.dst v fr) (a.put o.dst u).tmps:=by
    cases hd:o.dst with
    | none=>exact F'
    | some t =>have:=e2 t hd;exact F'.put (by simpa[Nat.blt_eq]using this) hv
   have:=AnyA.sound Q n (a:=a.put o.dst u) H' S' F2 E' M';rw[Go.Ab.put_defers]at this;exact this
  have go:opX P rec o.op o.type fr h pk=some (v,h1)->Region.wanted o (yielded ops a.tmps)=true->
    (if Region.wanted o (yielded ops a.tmps)=true then o.wp P a w (wpAny P .any ops (After P O μ0 N h0 w0 a.defers k r) n (l.setIfInBounds i true)) (After P O μ0 N h0 w0 a.defers k r)\/(o.asks P a w/\LetsOut (After P O μ0 N h0 w0 a.defers k r))else wpAny P .any ops (After P O μ0 N h0 w0 a.defers k r) n (l.setIfInBounds i true) (a.put o.dst undef) w):=by
   intro Z hw;rw[if_pos hw]
   left
   obtain⟨v',ab,U,aa⟩:=k33 Q S F Z;simp only[pk,qcd,qce]at U;obtain⟨rfl,rfl⟩:=U;refine aa _ _ λu w' ⟨ν,g1,g2,g3,g4⟩=>?_;exact put (F.mono g3.2.1) g1 g2 (E.trans g3 M.1) (M.trans E g4) e3
  have skip:v=.tup []->h1=h->Region.wanted o (yielded ops a.tmps)=false->
    (if Region.wanted o (yielded ops a.tmps)=true then o.wp P a w (wpAny P .any ops (After P O μ0 N h0 w0 a.defers k r) n (l.setIfInBounds i true)) (After P O μ0 N h0 w0 a.defers k r)\/(o.asks P a w/\LetsOut (After P O μ0 N h0 w0 a.defers k r))else wpAny P .any ops (After P O μ0 N h0 w0 a.defers k r) n (l.setIfInBounds i true) (a.put o.dst undef) w):=by
   rintro rfl rfl hw
   rw[if_neg (by rw[hw];simp)];exact put (u:=undef) F (by simp[VRel,undef,VRels]) S E M e3
  unfold valA at y;split at y
  ·rename_i W;exact go y (by simp[Region.wanted,W])
  ·rename_i j b W;split at y
   ·cases y
   ·rename_i t ht;split at y
    ·rename_i c z;obtain⟨u,hu,G⟩:=F.get t _ z;simp only[VRel]at G;subst G;have hy:yielded ops a.tmps j=some c:=by simp[yielded,ht,hu]
     have I:Region.wanted o (yielded ops a.tmps)=(c==b):=by simp[Region.wanted,W,hy]
     cases K:(c==b)with
     | true=>rw[K]at y;exact go y (I.trans K)
     | false =>rw[K]at y;simp only[cond_false,qcd,qce]at y;exact skip y.1.symm y.2.symm (I.trans K)
    ·rename_i z;obtain⟨u,hu,G⟩:=F.get t _ z;simp only[VRel]at G;obtain⟨us,rfl,_⟩:=G;have hy:yielded ops a.tmps j=none:=by simp[yielded,ht,hu]
     simp only[qcd,qce]at y;exact skip y.1.symm y.2.symm (by simp[Region.wanted,W,hy])
    ·cases y
theorem kbdl{rec:Rec}(z:RecOk P O rec){N:Nat}{ops:Array Oper}{y:List Nat}{fr:Fr}{h:AH}{k:Fr->AH->Option (AV×AH)}{r:AV×AH}(hk:∀(a b:Fr)(h:AH),a.same b->k a h=k b h)
  (G:drawK P rec N ops y fr h k=some r) {μ:Mu} {w:World} {a:Act} (S:Sim P O μ h w) (F:FRel μ N fr a.tmps):wpAny P .any ops (After P O μ N h w a.defers k r) ops.size (Array.replicate ops.size false) a {w with drawn:=w.drawn+1} :=
 (kbbo hk G).sound z _ (S.drew) F (Ext.refl _ _ _) ⟨qbr _,λ_ _ _=>rfl⟩
end
theorem kgp(N:Nat):∀(fr:Fr)(t:Nat),(fr.low N).get t=if t<N then fr.get t else none
 | [],t=>by simp[Fr.low,Fr.get]
 | (s,v)::fr,t=>by
  have ih:=kgp N fr t;unfold Fr.low at ih|-;rw[List.filter_cons];dsimp only;cases hb:Nat.blt s N with
  | true =>
   have hs:s<N:=by simpa[Nat.blt_eq]using hb
   simp only[if_true,get_cons,ih];by_cases h:s=t
   ·subst h;simp[hs]
   ·simp only[if_neg h]
  | false =>
   have hs:¬s<N:=by intro h;rw[show Nat.blt s N=true from by simpa[Nat.blt_eq]using h]at hb;cases hb
   simp only[qcp,if_false,get_cons,ih];by_cases h:s=t
   ·subst h;simp[hs]
   ·simp only[if_neg h]
theorem Fr.same.low{a b:Fr}(h:a.same b)(N:Nat):(a.low N).same (b.low N):=λt=>by rw[kgp,kgp,h t]
theorem kbo1{N:Nat}{d:Option Tmp}{v:AV}{fr:Fr}(y:fitsN N d):((Go.Ab.putd d v fr).low N)=Go.Ab.putd d v (fr.low N):=by
 cases d with
 | none=>rfl
 | some t =>have:=y t rfl;show((t,v)::fr).filter _=_;rw[List.filter_cons];dsimp only;rw[this];rfl
theorem kbe6{rec:Rec}{μ:Mu}{N:Nat}{fr:Fr}{h:AH}{w:World}{o:Oper}{a:Act}(F:FRel μ N fr a.tmps){t:TypeId}{n:Nat}{parts:Array (Nat×Operand)}(ho:o.op=.buildSlice t n parts){v:AV}{h1:AH}
  (hk:opK P rec o.op o.type fr h pk=some (v,h1)):∃cs e us,h1=h.alloc (.cells cs e)/\VRels μ cs us/\cs.all AV.one=true/\OpGoes P o a w λu w'=>VRel (Mu.set μ h.blks.size ⟨w.heap.size,0,us.length⟩) v u/\w'=w.alloc (.cells us.toArray e):=by
 obtain⟨dst,op,type,pos,G,guard⟩:=o;dsimp only at hk ho;subst ho;simp only[opK]at hk;have Z:execOp a.eval ⟨dst,.buildSlice t n parts,type,pos,G,guard⟩=(do pure (.value (<- Instr.buildSlice t n (parts.map λ(i,x)=>(i,a.eval x))))):=rfl
 have I:(parts.map λ(i,x)=>(i,a.eval x)).toList=(parts.toList.map (·.1)).zip ((parts.toList.map (·.2)).map a.eval):=by
  simp only[Array.toList_map,List.map_map];generalize parts.toList=l
  induction l with
  | nil=>rfl
  | cons p l ih=>simp[ih]
 split at hk
 ·rename_i vs e K hd;split at hk
  ·rename_i zs hz;obtain⟨hb,aa⟩:=kr hk;simp only[qcb]at hb;have ae:n*P.cellsOf e<=16777216:=Nat.le_of_ble_eq_true hb.1;have af:zs.length=P.cellsOf e:=Nat.eq_of_beq_eq_true hb.2;obtain⟨z,ti,Q,ab,h2,h3⟩:=kh4 (μ:=μ) hz;have ac:z.cells.size=P.cellsOf e:=by have:=h2.length;simp at this;omega
   have y:=(kds F K).length;simp only[qb3]at y;have m1:((parts.toList.map (·.1)).zip vs).map (·.1)=parts.toList.map (·.1):=List.map_fst_zip (by rw[qb3];exact Nat.le_of_eq y);have m2:((parts.toList.map (·.1)).zip vs).map (·.2)=vs:=List.map_snd_zip (by rw[qb3];exact Nat.le_of_eq y.symm)
   have U:((Array.range (n*P.cellsOf e)).map (z.cells[· % z.cells.size]!)).toList=(List.replicate n z.cells.toList).flatten:=by
    by_cases h0:P.cellsOf e=0
    ·have:z.cells.toList=[]:=by apply List.eq_nil_of_length_eq_zero;rw[Array.length_toList];omega
     rw[h0,this];simp[Array.range_zero']
    ·rw[<- ac];exact kpc n z.cells (by omega)
   obtain⟨cs,out,H,V,f2,f3,f4⟩:=klw (μ:=μ) (rp:=λi=>some (i*P.cellsOf e,P.cellsOf e)) (λi off t' hi=>by simp at hi|-;exact⟨hi.1,by rw[hi.2]⟩) aa (us:=(parts.toList.map (·.2)).map a.eval) (arr:=(Array.range (n*P.cellsOf e)).map (z.cells[· % z.cells.size]!))
    (by rw[m2];exact kds F K) (by rw[U,klr];exact h2.rep n) (koh h3 n)
   rw[m1,<- I]at V;simp only[pk,qcd,qce]at H;refine⟨cs,e,out.toList,H.2.symm,f2,f3,qf Z (w':=w.alloc (.cells out e)) (u:=.slice (some ⟨w.heap.size,0,none⟩) n n) ?_ ⟨by rw[<- H.1];exact k41 rfl n,by simp⟩⟩;have hs:(sizeOf e).run P w=.ok (P.cellsOf e) w:=by simp[sizeOf,typeInfo,Q,Program.cellsOf]
   have W:¬(16777216<n*P.cellsOf e):=by omega
   by_cases h0:n*P.cellsOf e=0
   ·have ad:∀f g:Nat->Value,(Array.range (n*P.cellsOf e)).map f=(Array.range (n*P.cellsOf e)).map g:=λf g=>by rw[h0];simp[Array.range_zero']
    rw[ad (z.cells[· % z.cells.size]!) ((#[]:Array Value)[· % (#[]:Array Value).size]!)]at V;simp only[Instr.buildSlice,Sem.run_bind,run_underlying hd,Result.andThen_ok,hs,Sem.run_ite,if_neg W,h0,if_true,Sem.run_pure];rw[h0]at V;simp only[V,newRow,Sem.run_bind,run_newObj,Result.andThen_ok,Sem.run_pure];rfl
   ·simp only[Instr.buildSlice,Sem.run_bind,run_underlying hd,Result.andThen_ok,hs,Sem.run_ite,if_neg W,if_neg h0,zeroValue,typeInfo,run_program,Q,ab,Sem.run_pure,V,newRow,run_newObj];rfl
  ·cases hk
 ·cases hk
theorem k8b{rec:Rec}{μ:Mu}{N:Nat}{fr:Fr}{h:AH}{w:World}{o:Oper}{a:Act}(F:FRel μ N fr a.tmps){t:TypeId}{l c:Operand}(ho:o.op=.makeSlice t l c){v:AV}{h1:AH}
  (hk:opK P rec o.op o.type fr h pk=some (v,h1)):∃cs e us,h1=h.alloc (.cells cs e)/\VRels μ cs us/\cs.all AV.one=true/\OpGoes P o a w λu w'=>VRel (Mu.set μ h.blks.size ⟨w.heap.size,0,us.length⟩) v u/\w'=w.alloc (.cells us.toArray e):=by
 obtain⟨dst,op,type,pos,ab,guard⟩:=o;dsimp only at hk ho;subst ho;simp only[opK]at hk;split at hk
 ·rename_i k1 l' k2 I e hl hc hd;split at hk
  ·rename_i zs hz;obtain⟨hb,K⟩:=kr hk;have hb:=Nat.eq_of_beq_eq_true hb;rw[qbw]at K;obtain⟨q,hq,y⟩:=K;unfold kbm at hq;obtain⟨Q,U⟩:=kr hq;simp only[qby]at Q;obtain⟨b1,b2,b3,b4⟩:=Q;simp only[qcd]at U;subst U;simp only[pk,qcd,qce]at y;obtain⟨y,ac⟩:=y;obtain⟨z,G,H,ad,h2,h3⟩:=kh4 (μ:=μ) hz;have ae:z.cells.size=G.size:=by have:=h2.length;simp[Program.cellsOf,H]at this hb;omega
   have V:=kw F hl;have W:=kw F hc;simp only[VRel]at V W;have hm:(ky:Int)=70368744177664:=rfl;rw[hm]at b3 b4
   have af:(G.bytes:Int)*I<=281474976710656:=by
    have ag:P.bytesOf e=G.bytes:=by simp[Program.bytesOf,H]
    rw[ag,Int.mul_comm]at b4;omega
   have Z:=run_make (P:=P) w t e G z hd H ad k1 k2 l' I b1 b2 af (by omega)
   have aa:(madeCells z.cells (I.toNat*G.size)).toList=(List.replicate I.toNat z.cells.toList).flatten:=by
    unfold madeCells;by_cases h0:G.size=0
    ·have:z.cells.toList=[]:=by apply List.eq_nil_of_length_eq_zero;rw[Array.length_toList];omega
     rw[h0,this];simp[Array.range_zero']
    ·rw[<- ae];exact kpc _ z.cells (by omega)
   refine⟨repC zs I.toNat,e,(madeCells z.cells (I.toNat*G.size)).toList,ac.symm,by rw[aa,klr];exact h2.rep _,koh h3 _,qf (s:=Instr.makeSlice t (a.eval l) (a.eval c)) rfl (by rw[V,W];exact Z) ⟨?_,by rw[Array.toArray_toList]⟩⟩;rw[<- y];simp only[VRel,Sl.v];exact⟨_,_,rfl,.inr ⟨_,kdz _ _ _,by simp⟩,by omega,rfl⟩
  ·cases hk
 ·cases hk
def layC:Op->Bool
 | .alloc _ | .box _ _ | .buildSlice _ _ _ | .makeSlice _ _ _=>true
 | _=>false
theorem k5q{o:Op}(h:layB o=true):(∃t,o=.makeMap t none)\/layC o=true:=by
 cases o<;>simp_all [layB,layC];rename_i t x;cases x<;>simp_all
theorem k6d{rec:Rec}{o:Op}{ty:TypeId}{fr:Fr}{h:AH}{R:Type}{k:AV->AH->Option R}(y:layC o=true):opX P rec o ty fr h k=opK P rec o ty fr h k:=by
 cases o<;>simp[layC]at y<;>rfl
theorem kbo5{rec:Rec}{μ:Mu}{N:Nat}{fr:Fr}{h:AH}{w:World}{o:Oper}{a:Act}(F:FRel μ N fr a.tmps)(K:layC o.op=true){v:AV}{h1:AH}
  (hk:opK P rec o.op o.type fr h pk=some (v,h1)):∃cs e us,h1=h.alloc (.cells cs e)/\VRels μ cs us/\cs.all AV.one=true/\OpGoes P o a w λu w'=>VRel (Mu.set μ h.blks.size ⟨w.heap.size,0,us.length⟩) v u/\w'=w.alloc (.cells us.toArray e):=by
 have y:(∃t,o.op=.alloc t)\/(∃t x,o.op=.box t x)\/(∃t n ps,o.op=.buildSlice t n ps)\/∃t l c,o.op=.makeSlice t l c:=by revert K;cases o.op<;>simp[layC]
 rcases y with⟨t,y⟩ | ⟨t,x,y⟩ | ⟨t,n,ps,y⟩ | ⟨t,l,c,y⟩
 ·obtain⟨dst,op,type,pos,G,guard⟩:=o;dsimp only at hk y;subst y;simp only[opK]at hk;split at hk
  ·rename_i zs Q;simp only[pk,qcd,qce]at hk;obtain⟨z,H,h2,I⟩:=k4n (μ:=μ) Q w;refine⟨zs,t,_,hk.2.symm,h2,I,qf (s:=Instr.alloc t true (.tuple #[])) rfl (w':=w.alloc (.cells _ t)) (u:=.pointer (some ⟨w.heap.size,0,none⟩)) ?_ ⟨?_,rfl⟩⟩
   ·simp[Instr.alloc,H,newVar,newRow]
   ·rw[<- hk.1];simp only[VRel];exact⟨_,⟨_,kdz _ _ _,by simp⟩,rfl⟩
  ·cases hk
 ·obtain⟨dst,op,type,pos,G,guard⟩:=o;dsimp only at hk y;subst y;simp only[opK]at hk;rw[qbw]at hk;obtain⟨v',hv,hk⟩:=hk;obtain⟨cs,hk,H,h2,I,_⟩:=kpx hk (kw F hv);simp only[pk,qcd,qce]at hk;refine⟨cs,t,_,hk.2.symm,H,h2,qf (s:=Instr.box t (a.eval x)) rfl (w':=w.alloc (.cells _ t)) (u:=.pointer (some ⟨w.heap.size,0,none⟩)) ?_ ⟨?_,rfl⟩⟩
  ·simp[Instr.box,newVar,newRow]
  ·rw[<- hk.1];simp only[VRel];exact⟨_,⟨_,kdz _ _ _,by simp⟩,rfl⟩
 ·exact kbe6 F y hk
 ·exact k8b F y hk
theorem kblx{rec:Rec}{fr:Fr}{h:AH}{o:Op}{ty:TypeId}(G:layC o=true){v:AV}{h1:AH}(hk:opK P rec o ty fr h pk=some (v,h1)):∃cs e,h1=h.alloc (.cells cs e):=by
 have H:(∃t,o=.alloc t)\/(∃t x,o=.box t x)\/(∃t n ps,o=.buildSlice t n ps)\/∃t l c,o=.makeSlice t l c:=by revert G;cases o<;>simp[layC]
 rcases H with⟨t,rfl⟩ | ⟨t,x,rfl⟩ | ⟨t,n,ps,rfl⟩ | ⟨t,l,c,rfl⟩
 ·simp only[opK]at hk;split at hk
  ·simp only[pk,qcd,qce]at hk;exact⟨_,_,hk.2.symm⟩
  ·cases hk
 ·simp only[opK]at hk;rw[qbw]at hk;obtain⟨v',hv,hk⟩:=hk;obtain⟨g,e⟩:=kr1;rw[e,qbw]at hk;obtain⟨cs,_,hk⟩:=hk;simp only[pk,qcd,qce]at hk;exact⟨_,_,hk.2.symm⟩
 ·simp only[opK]at hk;split at hk
  ·split at hk
   ·obtain⟨hb,y⟩:=kr hk;obtain⟨g,e⟩:=kwn;rw[e,qbw]at y;obtain⟨cs,_,y⟩:=y;simp only[pk,qcd,qce]at y;exact⟨_,_,y.2.symm⟩
   ·cases hk
  ·cases hk
 ·simp only[opK]at hk;split at hk
  ·split at hk
   ·obtain⟨hb,y⟩:=kr hk;rw[qbw]at y;obtain⟨q,hq,z⟩:=y;unfold kbm at hq;obtain⟨I,F⟩:=kr hq;simp only[qcd]at F;subst F;simp only[pk,qcd,qce]at z;exact⟨_,_,z.2.symm⟩
   ·cases hk
  ·cases hk
theorem k7u{rec:Rec}{fr:Fr}{h:AH}{o:Op}{ty:TypeId}(z:layB o=true){v:AV}{h1:AH}(hk:opX P rec o ty fr h pk=some (v,h1)):∃(_:Unit)(b:ABlk),h1=h.alloc b:=by
 rcases k5q z with⟨t,rfl⟩ | y
 ·have hk:some ((AV.map (some h.blks.size)),h.alloc (.map [] 0))=some (v,h1):=hk;cases hk;exact⟨(),_,rfl⟩
 ·rw[k6d y]at hk;obtain⟨cs,e,q⟩:=kblx y hk;exact⟨(),_,q⟩
theorem AnyA.final{rec:Rec}{N:Nat}{ops:Array Oper}{an:Nat->Nat}{k:Fr->AH->Option (AV×AH)}{r:AV×AH}:∀(n:Nat){l:Array Bool}{ps:List Look}{fr:Fr}{h:AH},AnyA P rec N ops an k r n l ps fr h->
  ∃y h',k y h'=some r/\∀t,(∀j o,ops[j]?=some o->l.getD j false=false->o.dst≠some t)->y.get t=fr.get t
 | 0,l,ps,fr,h,H=>⟨fr,h,H.2,λ_ _=>rfl⟩
 | n+1,l,ps,fr,h,H=>by
  by_cases Q:Region.ready .any ops l=[]
  ·exact⟨fr,h,H.1 Q,λ_ _=>rfl⟩
  ·obtain⟨i,U⟩:=List.exists_mem_of_ne_nil _ Q;obtain⟨F,o,V,-⟩:=mem_ready.1 U
   have z:l.getD i false=false:=by
    rw[Array.getD_eq_getD_getElem?]at F|-;cases hq:l[i]? with
    | none=>rfl
    | some b=>rw[hq]at F;simpa using F
   obtain⟨v,h1,e1,e2,ec,Z⟩:=H.2 i U o V;obtain⟨y,h',k1,k2⟩:=AnyA.final n Z;refine⟨y,h',k1,λt W=>?_⟩
   rw[k2 t λj oj I hl=>W j oj I (by
    by_cases G:i=j
    ·subst G;exact z
    ·rwa[getD_set_ne false G]at hl),kj1]
   intro s hs K;exact W i o V z (by rw[hs,K])
section
variable{O:World}{N:Nat}{ops0 ops:Array Oper}{J:Nat->Option (Nat×ABlk×Unit×AV)}{fp:Fr}
def Laid(P:Program)(o:Oper)(fp:Fr)(j:Nat)(t:ABlk)(zs:Unit)(v:AV):Prop:=∃(rec:Rec)(h:AH),opX P rec o.op o.type fp h pk=some (v,h.alloc t)/\h.blks.size=j
structure ResOps(P:Program)(N:Nat)(ops0 ops:Array Oper)(J:Nat->Option (Nat×ABlk×Unit×AV))(fp:Fr):Prop where
 size:ops.size=ops0.size
 same:∀i,J i=none->ops[i]?=ops0[i]?
 res:∀i j t zs v,J i=some (j,t,zs,v)->∃o,ops0[i]?=some o/\layB o.op=true/\Laid P o fp j t zs v/\heldB ops0 o=true/\ops[i]?=some {o with op:=.move (.tmp (N+i))}
 inj:∀i i' j t zs v t' zs' v',J i=some (j,t,zs,v)->J i'=some (j,t',zs',v')->i=i'
theorem ResOps.dst(R:ResOps P N ops0 ops J fp)(j:Nat):(ops[j]?).bind (·.dst)=(ops0[j]?).bind (·.dst):=by
 cases y:J j with
 | none=>rw[R.same j y]
 | some x =>obtain⟨id,t,zs,v⟩:=x;obtain⟨o,h1,_,_,_,z⟩:=R.res j id t zs v y;rw[h1,z];rfl
theorem ResOps.ready_iff(R:ResOps P N ops0 ops J fp){l:Array Bool}{i:Nat}:i∈Region.ready .any ops l↔i∈Region.ready .any ops0 l:=by
 rw[mem_ready,mem_ready];cases y:J i with
 | none=>rw[R.same i y]
 | some x =>obtain⟨id,t,zs,v⟩:=x;obtain⟨o,h1,_,_,_,z⟩:=R.res i id t zs v y;rw[h1,z];simp
theorem ResOps.ready_nil(R:ResOps P N ops0 ops J fp){l:Array Bool}:Region.ready .any ops l=[]↔Region.ready .any ops0 l=[]:=by
 constructor<;>intro h<;>rw[List.eq_nil_iff_forall_not_mem]at h|-<;>intro i y
 ·exact h i (R.ready_iff.2 y)
 ·exact h i (R.ready_iff.1 y)
theorem kbmr{o:Oper}(G:heldB ops0 o=true){l:Array Bool}(K:∀e∈o.after,Region.binds .any e=true->l.getD e.on false=true){t:Tmp}(Q:.tmp t∈o.op.operands.toList) :
  ∀j H,ops0[j]?=some H->l.getD j false=false->H.dst≠some t:=by
 intro j H y U z;unfold heldB at G;rw[List.all_eq_true]at G;have V:j<ops0.size:=(qcf.1 y).1;have:=G j (qco.2 V);rw[y,qbv,z]at this;dsimp only at this
 have F:o.op.operands.toList.any (isTmp t)=true:=by rw[List.any_eq_true];exact⟨_,Q,by simp[isTmp]⟩
 rw[F,Bool.not_true,Bool.false_or,knl]at this;obtain⟨e,W,hb,I⟩:=this;have:=K e W hb;rw[I,U]at this;cases this
theorem Sim.lay{μ:Mu}{h:AH}{w:World}(S:Sim P O μ h w){j n:Nat}{I:ABlk}{K:Obj}(Q:h.blks[j]?=some I)(U:μ j=none)(V:∀ν,Mu.le μ ν->BRel P ν ⟨w.heap.size,0,n⟩ (w.alloc K) I) :
  Sim P O (Mu.set μ j ⟨w.heap.size,0,n⟩) h (w.alloc K):=by
 have z:=Mu.le_set (L:=⟨w.heap.size,0,n⟩) U;have G:j<h.blks.size:=(qcf.1 Q).1;refine{old:=S.old,os:=S.os,tape:=S.tape,output:=S.output,base:=by have:=S.base;simp;omega,dom:=λi L y=>?_,keep:=λb hb=>?_,place:=λi L y=>?_,blk:=λi L b y hb=>?_,inj:=λi k L M y F W Z H=>?_}
 ·rw[kdb _ _ _ (qbt hb S.base)];exact S.keep b hb
 ·unfold Mu.set at y;split at y
  ·subst_vars;exact G
  ·exact S.dom i L y
 ·unfold Mu.set at y;split at y
  ·cases y;have:=S.base;simp;omega
  ·have:=S.place i L y;simp;omega
 ·unfold Mu.set at y;split at y
  ·rename_i hi;subst hi;cases y;rw[Q]at hb;cases hb;exact V _ z
  ·exact(S.blk i L b y hb).step z λ_=>kdb _ _ _ (S.place i L y).2
 ·unfold Mu.set at y F;split at y<;>split at F
  ·omega
  ·cases y;have:=S.place k M F;simp at H;omega
  ·cases F;have:=S.place i L y;simp at H;omega
  ·exact S.inj i k L M y F W Z H
theorem kbev{rec:Rec}{μ:Mu}{N:Nat}{fr:Fr}{h:AH}{w:World}{o:Oper}{a:Act}(F:FRel μ N fr a.tmps)(hl:layB o.op=true){v:AV}{h1:AH}
  (hk:opX P rec o.op o.type fr h pk=some (v,h1)):∃b,h1=h.alloc b/\∀{y:AH},Sim P O μ y w->y.blks[h.blks.size]?=some b->μ h.blks.size=none->
   OpGoes P o a w λu w'=>∃n,VRel (Mu.set μ h.blks.size ⟨w.heap.size,0,n⟩) v u/\Sim P O (Mu.set μ h.blks.size ⟨w.heap.size,0,n⟩) y w'/\w.heap.size<=w'.heap.size/\∀b,b<w.heap.size->w'.heap[b]?=w.heap[b]?:=by
 rcases k5q hl with⟨t,W⟩ | y
 ·rw[W]at hk;have hk:some ((AV.map (some h.blks.size)),h.alloc (.map [] 0))=some (v,h1):=hk;cases hk;refine⟨_,rfl,λ{y} S H hμ=>?_⟩;refine qf (s:=Instr.makeMap t none) (u:=.map (some w.heap.size)) (w':=w.alloc (.map #[] 0)) (by simp[execOp,W]) ?_ ⟨0,?_,S.lay H hμ λν z=>⟨#[],kks _ _,rfl,by simp⟩,by simp,λb hb=>kdb _ _ _ hb⟩
  ·simp[Instr.makeMap,run_newObj_alloc,Result.andThen]
  ·simp only[VRel];exact⟨_,kdz _ _ _,rfl⟩
 ·rw[k6d y]at hk;obtain⟨cs,e,us,hE,hv,G,I⟩:=kbo5 (w:=w) F y hk;refine⟨_,hE,λ{Z} S H hμ=>?_⟩;intro K Q hK;refine I K Q λu w' ⟨U,hw⟩=>hK u w' ?_;subst hw;refine⟨us.length,U,S.lay H hμ λν z=>⟨⟨_,kks _ _,by simp,by simp;have:=hv.length;omega,λk v hk=>?_⟩,G⟩,by simp,λb hb=>kdb _ _ _ hb⟩;obtain⟨u,U,V⟩:=hv.get k v hk;exact⟨u,by simpa using U,V.mono z⟩
theorem Ext.lay{μ0 μ:Mu}{h0 h:AH}{w0 w:World}(E:Ext μ0 h0 w0 μ h)(z:w0.heap.size<=w.heap.size){j:Nat}(F:h0.blks.size<=j)(G:μ j=none){b t:Nat}:Ext μ0 h0 w0 (Mu.set μ j ⟨w.heap.size,b,t⟩) h:=by
 obtain⟨H,I,K,Q,U⟩:=E;refine⟨H,Mu.le_trans I (Mu.le_set G),λi V=>?_,Q,λi L h1 h2 y=>?_⟩
 ·unfold Mu.set;rw[if_neg (by omega),K i V]
 ·unfold Mu.set at y;split at y
  ·cases y;exact .inl z
  ·exact U i L h1 h2 y
theorem kwq{R:Type}{cs:List Operand}{a b:Fr}{x:Option R}{r:R}(h:finK cs a b x=some r):(∀c∈cs,evO a c=evO b c)/\x=some r:=by
 unfold finK at h;split at h
 ·exact⟨λ_ z=>(by cases z),h⟩
 ·rename_i c cs;unfold whenK at h;split at h
  ·rename_i F;refine⟨λy G=>?_,h⟩;exact List.map_inj_left.1 F y G
  ·cases h
theorem kt8{R:Type}{cs:List Operand}{a a' b b':Fr}(e:a.same a')(f:b.same b'){x:Option R}:finK cs a b x=finK cs a' b' x:=by
 have h1:∀c,evO a c=evO a' c:=λc=>kde λt _=>e t;have h2:∀c,evO b c=evO b' c:=λc=>kde λt _=>f t;unfold finK;split
 ·rfl
 ·rw[funext h1,funext h2]
theorem Oper.mem_looksAt{ops:Array Oper}{o:Oper}{s:Tmp}(h:.tmp s∈o.op.operands.toList):s∈Oper.looksAt ops o:=by unfold Oper.looksAt;exact List.mem_append_left _ (List.mem_filterMap.2 ⟨_,h,rfl⟩)
theorem AnyA.soundR{rec:Rec}(aj:RecOk P O rec)(R:ResOps P N ops0 ops J fp)(Z:∀(i:Nat)(o:Oper),ops0[i]?=some o->∀t∈Oper.looksAt ops0 o,t<N){an:Nat->Nat}
  (ak:∀l,Closed ops l->∀j∈Region.ready .any ops l,∀i,(an j).testBit i=true->l.getD i false=true)
  {k:Fr->AH->Option (AV×AH)} {cs:List Operand} (ar:∀i x,J i=some x->∀o,ops0[i]?=some o->∀c∈o.op.operands.toList,c∈cs) {r:AV×AH} {μ0:Mu} {h0:AH} {w0:World}:∀(n:Nat){l:Array Bool}{ps:List Look}{fr:Fr}{h:AH}{μ:Mu}{w:World}{a:Act},Closed ops l->
  AnyA P rec N ops an (λfr h=>finK cs (fr.low N) fp (k (fr.low N) h)) r n l ps fr h->Sim P O μ h w->FRel μ N (fr.low N) a.tmps->Ext μ0 h0 w0 μ h->Frm μ0 h0 w0 w->
  (∀i j t zs v,J i=some (j,t,zs,v)->fr.get (N+i)=some v/\(⟨i,.new j 0,0⟩:Look)∈ps/\h0.blks.size<=j/\(l.getD i false=false->h.blks[j]?=some t/\μ j=none))->
  wpAny P .any ops0 (After P O μ0 N h0 w0 a.defers k r) n l a w
 | 0,l,ps,fr,h,μ,w,a,C,H,S,F,E,M,HJ=>⟨R.ready_nil.1 H.1,rfl,rfl,fr.low N,h,μ,(kwq H.2).2,S,F,E,M⟩
 | n+1,l,ps,fr,h,μ,w,a,C,H,S,F,E,M,HJ=>by
  refine⟨λhr=>⟨rfl,rfl,fr.low N,h,μ,(kwq (H.1 (R.ready_nil.2 hr))).2,S,F,E,M⟩,λi hi=>?_⟩;have af:=R.ready_iff.2 hi;obtain⟨ac,z,aa,-⟩:=mem_ready.1 af;obtain⟨v,h1,U,e2,ec,e3⟩:=H.2 i af z aa
  have au:l.getD i false=false:=by
   rw[Array.getD_eq_getD_getElem?]at ac|-;cases hq:l[i]? with
   | none=>rfl
   | some b=>rw[hq]at ac;simpa using ac
  have C':=C.set af
  have put:∀{ν:Mu}{u:Value}{h2:AH}{w1:World},h2=h1->FRel ν N (fr.low N) a.tmps->VRel ν v u->Sim P O ν h2 w1->Ext μ0 h0 w0 ν h2->Frm μ0 h0 w0 w1->
    (∀i' j t zs v,i'≠i->J i'=some (j,t,zs,v)->l.getD i' false=false->h2.blks[j]?=some t/\ν j=none)->
    wpAny P .any ops0 (After P O μ0 N h0 w0 a.defers k r) n (l.setIfInBounds i true) (a.put z.dst u) w1:=by
   intro ν u h2 w1 hh F' hv S' E' M' HB;subst hh
   have F2:FRel ν N ((putd z.dst v fr).low N) (a.put z.dst u).tmps:=by
    rw[kbo1 e2];cases hd:z.dst with
    | none=>exact F'
    | some t =>have:=e2 t hd;exact F'.put (by simpa[Nat.blt_eq]using this) hv
   have:=AnyA.soundR aj R Z ak ar n (a:=a.put z.dst u) C' e3 S' F2 E' M' (λi' j t zs v hj=>by
    obtain⟨g1,g2,g3,g4⟩:=HJ i' j t zs v hj;refine⟨?_,?_,g3,λG=>?_⟩
    ·have ag:∀s,z.dst=some s->s≠N+i':=λs hs=>by
      have:=e2 s hs;have h3:s<N:=by simpa[Nat.blt_eq]using this
      intro hc;rw[hc]at h3;exact absurd h3 (Nat.not_lt.2 (Nat.le_add_right N i'))
     rw[kj1 ag];exact g1
    ·cases nonEff z.op with
     | true=>exact List.mem_append_right _ g2
     | false=>exact g2
    ·by_cases W:i'=i
     ·subst W;exfalso
      have al:i'<l.size:=by
       rcases Nat.lt_or_ge i' l.size with h | h
       ·exact h
       ·rw[Array.getD_eq_getD_getElem?,Array.getElem?_eq_none h]at ac;cases ac
      rw[Array.getD_eq_getD_getElem?,Array.getElem?_setIfInBounds_self,if_pos al]at G;cases G
     ·rw[getD_set_ne false (λh=>W h.symm)]at G;exact HB i' j t zs v W hj G)
   rw[Go.Ab.put_defers]at this;exact this
  have aw:∀i' j t zs v,J i'=some (j,t,zs,v)->l.getD i' false=false->h1.blks[j]?=some t:=by
   intro i' j t zs v hj G;obtain⟨g1,g2,g3,g4⟩:=HJ i' j t zs v hj;cases ag:nonEff z.op with
   | true=>rw[(krp (i:=i) ag U).1];exact(g4 G).1
   | false =>
    have hb:(an i).testBit i'=false:=by
     cases hb:(an i).testBit i' with
     | false=>rfl
     | true =>have:=ak l C i af i' hb;rw[G]at this;cases this
    have:=(ec ag _ g2 hb).2 rfl;rw[show h1.blks[j]?=h.blks[j]? from this];exact(g4 G).1
  cases hJ:J i with
  | none =>
   rw[R.same i hJ]at aa;have bd:=Z i z aa
   have y:valA P rec ops0 z (fr.low N) h=some (v,h1):=by
    rw[<- U];have a1:valA P rec ops0 z (fr.low N) h=valA P rec ops0 z fr h:=kom λt ht=>by rw[kgp,if_pos (bd t ht)]
    rw[a1];unfold valA;simp only[R.dst]
   unfold wpOp;simp only[aa]
   have go:opX P rec z.op z.type (fr.low N) h pk=some (v,h1)->Region.wanted z (yielded ops0 a.tmps)=true->
     (if Region.wanted z (yielded ops0 a.tmps)=true then z.wp P a w (wpAny P .any ops0 (After P O μ0 N h0 w0 a.defers k r) n (l.setIfInBounds i true)) (After P O μ0 N h0 w0 a.defers k r)\/(z.asks P a w/\LetsOut (After P O μ0 N h0 w0 a.defers k r))else wpAny P .any ops0 (After P O μ0 N h0 w0 a.defers k r) n (l.setIfInBounds i true) (a.put z.dst undef) w):=by
    intro be hw;rw[if_pos hw]
    left
    obtain⟨v',bk,ax,ah⟩:=k33 aj S F be;simp only[pk,qcd,qce]at ax;obtain⟨rfl,rfl⟩:=ax;refine ah _ _ λu w' ⟨ν,g1,g2,g3,g4⟩=>?_;refine put rfl (F.mono g3.2.1) g1 g2 (E.trans g3 M.1) (M.trans E g4) λi' j t zs v W hj G=>⟨aw i' j t zs v hj G,?_⟩;obtain⟨q1,q2,q3,q4⟩:=HJ i' j t zs v hj;have al:j<h.blks.size:=(qcf.1 (q4 G).1).1;rw[g3.2.2.1 j al];exact(q4 G).2
   have skip:v=.tup []->h1=h->Region.wanted z (yielded ops0 a.tmps)=false->
     (if Region.wanted z (yielded ops0 a.tmps)=true then z.wp P a w (wpAny P .any ops0 (After P O μ0 N h0 w0 a.defers k r) n (l.setIfInBounds i true)) (After P O μ0 N h0 w0 a.defers k r)\/(z.asks P a w/\LetsOut (After P O μ0 N h0 w0 a.defers k r))else wpAny P .any ops0 (After P O μ0 N h0 w0 a.defers k r) n (l.setIfInBounds i true) (a.put z.dst undef) w):=by
    intro ad hh hw;rw[if_neg (by rw[hw];simp)];refine put (u:=undef) hh.symm F (by rw[ad];simp[VRel,undef,VRels]) S E M λi' j t zs v W hj G=>⟨?_,?_⟩
    ·exact((HJ i' j t zs v hj).2.2.2 G).1
    ·exact((HJ i' j t zs v hj).2.2.2 G).2
   unfold valA at y;split at y
   ·rename_i hg;exact go y (by simp[Region.wanted,hg])
   ·rename_i j b hg;split at y
    ·cases y
    ·rename_i t ht;split at y
     ·rename_i c I;obtain⟨u,hu,K⟩:=F.get t _ I;simp only[VRel]at K;subst K;have hy:yielded ops0 a.tmps j=some c:=by simp[yielded,ht,hu]
      have Q:Region.wanted z (yielded ops0 a.tmps)=(c==b):=by simp[Region.wanted,hg,hy]
      cases V:(c==b)with
      | true=>rw[V]at y;exact go y (Q.trans V)
      | false =>rw[V]at y;simp only[cond_false,qcd,qce]at y;exact skip y.1.symm y.2.symm (Q.trans V)
     ·rename_i I;obtain⟨u,hu,K⟩:=F.get t _ I;simp only[VRel]at K;obtain⟨us,rfl,_⟩:=K;have hy:yielded ops0 a.tmps j=none:=by simp[yielded,ht,hu]
      simp only[qcd,qce]at y;exact skip y.1.symm y.2.symm (by simp[Region.wanted,hg,hy])
     ·cases y
  | some x =>
   obtain⟨j,t,zs,hd⟩:=x;obtain⟨o,ho,ay,am,ao,bf⟩:=R.res i j t zs hd hJ;rw[bf]at aa;cases aa;obtain⟨q1,q2,q3,q4⟩:=HJ i j t zs hd hJ;obtain⟨az,hμ⟩:=q4 au;unfold wpOp;simp only[ho]
   have ae:∀e∈o.after,Region.binds .any e=true->l.getD e.on false=true:=by obtain⟨_,oi,a0,ae⟩:=mem_ready.1 hi;rw[ho]at a0;cases a0;exact ae
   obtain⟨bg,hF,kF,gF⟩:=AnyA.final (n+1) H
   have ap:∀c∈o.op.operands.toList,evO (fr.low N) c=evO fp c:=by
    intro c hc;rw[<- (kwq kF).1 c (ar i _ hJ o ho c hc)];cases c with
    | tmp s =>
     have hs:=Z i o ho s (Oper.mem_looksAt hc);show(fr.low N).get s=(bg.low N).get s;rw[kgp,kgp,if_pos hs,if_pos hs];refine(gF s λj' oj bh G ba=>?_).symm;have h0:=R.dst j';rw[bh,qbv,ba]at h0;cases hq:ops0[j']? with
     | none=>rw[hq]at h0;cases h0
     | some oq =>
      rw[hq,qbv]at h0;exact kbmr ao ae hc j' oq hq G h0.symm
    | _=>rfl
   have go:v=hd->h1=h->Region.wanted o (yielded ops0 a.tmps)=true->
     (if Region.wanted o (yielded ops0 a.tmps)=true then o.wp P a w (wpAny P .any ops0 (After P O μ0 N h0 w0 a.defers k r) n (l.setIfInBounds i true)) (After P O μ0 N h0 w0 a.defers k r)\/(o.asks P a w/\LetsOut (After P O μ0 N h0 w0 a.defers k r))else wpAny P .any ops0 (After P O μ0 N h0 w0 a.defers k r) n (l.setIfInBounds i true) (a.put o.dst undef) w):=by
    intro ad hh hw;rw[if_pos hw]
    left
    obtain⟨bj,hx,bb,hj⟩:=am;rw[<- knw ap]at bb;obtain⟨b0,hE,ah⟩:=kbev (w:=w) F ay bb
    have hz:t=b0:=by
     have h2:(hx.blks.push t)=hx.blks.push b0:=congrArg AH.blks hE;have h3:(hx.blks.push t)[hx.blks.size]?=(hx.blks.push b0)[hx.blks.size]?:=by rw[h2]
     simpa using h3
    subst hz;rw[hj]at ah;refine ah S az hμ _ _ ?_
    rintro u w' ⟨nn,hu,hS,bi,aq⟩
    refine put (ν:=Mu.set μ j ⟨w.heap.size,0,nn⟩) hh.symm (F.mono (Mu.le_set hμ)) ?_ hS (E.lay M.1 q3 hμ) ⟨qbs M.1 bi,λb hb hn=>?_⟩ λi' j' t' zs' v' W ab G=>⟨?_,?_⟩
    ·rw[ad];exact hu
    ·rw[aq b (qbt hb M.1)];exact M.2 b hb hn
    ·exact((HJ i' j' t' zs' v' ab).2.2.2 G).1
    ·unfold Mu.set;rw[if_neg]
     ·exact((HJ i' j' t' zs' v' ab).2.2.2 G).2
     ·rintro rfl
      exact W (R.inj i' i j' t' zs' v' t zs hd ab hJ)
   have skip:v=.tup []->h1=h->Region.wanted o (yielded ops0 a.tmps)=false->
     (if Region.wanted o (yielded ops0 a.tmps)=true then o.wp P a w (wpAny P .any ops0 (After P O μ0 N h0 w0 a.defers k r) n (l.setIfInBounds i true)) (After P O μ0 N h0 w0 a.defers k r)\/(o.asks P a w/\LetsOut (After P O μ0 N h0 w0 a.defers k r))else wpAny P .any ops0 (After P O μ0 N h0 w0 a.defers k r) n (l.setIfInBounds i true) (a.put o.dst undef) w):=by
    intro ad hh hw;rw[if_neg (by rw[hw];simp)];refine put (u:=undef) hh.symm F (by rw[ad];simp[VRel,undef,VRels]) S E M λi' j' t' zs' v' W ab G=>⟨?_,?_⟩
    ·exact((HJ i' j' t' zs' v' ab).2.2.2 G).1
    ·exact((HJ i' j' t' zs' v' ab).2.2.2 G).2
   have mv:opX P rec (.move (.tmp (N+i))) o.type fr h pk=some (v,h1)->v=hd/\h1=h:=by intro hk;rw[k4a rfl]at hk;simp only[opK,evO,kkf,q1,qbv,pk,qcd,qce]at hk;exact⟨hk.1.symm,hk.2.symm⟩
   have ai:=Z i o ho;unfold valA at U;dsimp only at U;split at U
   ·rename_i hg;obtain⟨k1,k2⟩:=mv U;exact go k1 k2 (by simp[Region.wanted,hg])
   ·rename_i jj b hg;rw[R.dst]at U;split at U
    ·cases U
    ·rename_i tt ht;have bc:tt<N:=ai tt (by simp[Oper.looksAt,hg,ht]);split at U
     ·rename_i c I;obtain⟨u,hu,K⟩:=F.get tt _ (by rw[kgp,if_pos bc];exact I);simp only[VRel]at K;subst K;have hy:yielded ops0 a.tmps jj=some c:=by simp[yielded,ht,hu]
      have Q:Region.wanted o (yielded ops0 a.tmps)=(c==b):=by simp[Region.wanted,hg,hy]
      cases V:(c==b)with
      | true =>
       rw[V]at U;obtain⟨k1,k2⟩:=mv U;exact go k1 k2 (Q.trans V)
      | false =>rw[V]at U;simp only[cond_false,qcd,qce]at U;exact skip U.1.symm U.2.symm (Q.trans V)
     ·rename_i I;obtain⟨u,hu,K⟩:=F.get tt _ (by rw[kgp,if_pos bc];exact I);simp only[VRel]at K;obtain⟨us,rfl,_⟩:=K;have hy:yielded ops0 a.tmps jj=none:=by simp[yielded,ht,hu]
      simp only[qcd,qce]at U;exact skip U.1.symm U.2.symm (by simp[Region.wanted,hg,hy])
     ·cases U
theorem kx6{rec:Rec}(ab:RecOk P O rec){I:List Nat}{k:Fr->AH->Option (AV×AH)}{r:AV×AH}(hk:∀(a b:Fr)(h:AH),a.same b->k a h=k b h)(ac:∀(i:Nat)(o:Oper),ops0[i]?=some o->∀t∈Oper.looksAt ops0 o,t<N)
  {μ:Mu} {h0:AH} {w:World} {a:Act} (S0:Sim P O μ h0 w):∀(is:List Nat){cs:List Operand}{ops:Array Oper}{ps:List Look}{fr:Fr}{h:AH}{J:Nat->Option (Nat×ABlk×Unit×AV)},ResOps P N ops0 ops J fp->(∀i x,J i=some x->∀o,ops0[i]?=some o->∀c∈o.op.operands.toList,c∈cs)->Sim P O μ h w->FRel μ N (fr.low N) a.tmps->h0.blks.size<=h.blks.size->(∀i,i<h0.blks.size->h.blks[i]?=h0.blks[i]?)->
  (∀i j t zs v,J i=some (j,t,zs,v)->fr.get (N+i)=some v/\(⟨i,.new j 0,0⟩:Look)∈ps/\h0.blks.size<=j/\j<h.blks.size/\h.blks[j]?=some t)->
  drawR P rec N I fp is cs ops ps fr h k=some r->wpAny P .any ops0 (After P O μ N h0 w a.defers k r) ops0.size (Array.replicate ops0.size false) a w
 | [],cs,ops,ps,fr,h,J,R,ad,S,F,hs,hb,HJ,H=>by
  simp only[drawR]at H;cases ae:Nat.beq I.length ops.size with
  | false=>rw[ae]at H;cases H
  | true =>
   rw[ae,cond_true]at H
   have ak:∀(a b:Fr)(h:AH),a.same b->(λ(fr:Fr) (h:AH)=>finK cs (fr.low N) fp (k (fr.low N) h)) a h=(λ(fr:Fr) (h:AH)=>finK cs (fr.low N) fp (k (fr.low N) h)) b h:=λa b h e=>by show finK cs (a.low N) fp (k (a.low N) h)=finK cs (b.low N) fp (k (b.low N) h);rw[hk _ _ _ (e.low N),kt8 (e.low N) (Fr.same.refl fp)]
   have C0:Closed ops (Array.replicate ops.size false):=⟨by simp,λj o hj=>by rw[Array.getD_eq_getD_getElem?,Array.getElem?_replicate]at hj;split at hj<;>simp at hj⟩
   have any:=kof (l:=Array.replicate ops.size false) ak I ⟨by simp,λj=>by simp[Array.getElem?_replicate];split<;>rfl⟩ C0 H;rw[Nat.eq_of_beq_eq_true ae]at any
   have U:∀j,h0.blks.size<=j->μ j=none:=λj hj=>by
    cases hq:μ j with
    | none=>rfl
    | some L=>have:=S0.dom _ _ hq;omega
   have E:Ext μ h0 w μ h:=⟨hs,Mu.le_refl μ,λ_ _=>rfl,λi hi hl b Z=>hl b (by rw[hb i hi];exact Z),λi L h1 h2 W=>by rw[U i h1]at W;cases W⟩
   have:=AnyA.soundR ab R ac anc_ok ad (μ0:=μ) (h0:=h0) (w0:=w) ops.size C0 any S F E ⟨qbr _,λ_ _ _=>rfl⟩ (λi j t zs v hj=>by obtain⟨g1,g2,g3,g4,g5⟩:=HJ i j t zs v hj;exact⟨g1,g2,g3,λ_=>⟨g5,U j g3⟩⟩)
   rw[R.size]at this;exact this
 | i::is,cs,ops,ps,fr,h,J,R,ad,S,F,hs,hb,HJ,H=>by
  simp only[drawR]at H;split at H
  ·rename_i o ho;obtain⟨ah,H⟩:=kr H;rw[qcb]at ah;obtain⟨V,af⟩:=ah;rw[kkq,qbw]at H;obtain⟨⟨v,h1⟩,ai,H⟩:=H;dsimp only at H;obtain⟨zs,t,rfl⟩:=k7u V ai
   have al:J i=none:=by
    cases hq:J i with
    | none=>rfl
    | some x =>obtain⟨j,t',zs',v'⟩:=x;obtain⟨o2,_,_,_,_,h4⟩:=R.res i j t' zs' v' hq;rw[h4]at ho;cases ho;cases V
   have aj:ops0[i]?=some o:=by rw[<- R.same i al];exact ho
   have am:i<ops.size:=(qcf.1 ho).1
   have aa:heldB ops0 o=true:=by rw[<- af];unfold heldB;rw[R.size];simp only[R.dst]
   refine kx6 ab hk ac S0 is (J:=λx=>if x=i then some (h.blks.size,t,zs,v)else J x) ?_ ?_ ?_ ?_ ?_ ?_ ?_ H
   ·refine⟨by simpa using R.size,λx G=>?_,λx j t' zs' v' G=>?_,λx x' j t1 z1 v1 t2 z2 v2 G Q=>?_⟩
    ·by_cases z:x=i
     ·rw[if_pos z]at G;cases G
     ·rw[if_neg z]at G;rw[Array.getElem?_setIfInBounds_ne (λh=>z h.symm)];exact R.same x G
    ·by_cases z:x=i
     ·subst z;rw[if_pos rfl]at G;cases G;exact⟨o,aj,V,⟨rec,h,ai,rfl⟩,aa,by rw[Array.getElem?_setIfInBounds_self,if_pos am]⟩
     ·rw[if_neg z]at G;obtain⟨o2,h1,h2,h3,h4,h5⟩:=R.res x j t' zs' v' G;exact⟨o2,h1,h2,h3,h4,by rw[Array.getElem?_setIfInBounds_ne (λh=>z h.symm)];exact h5⟩
    ·by_cases z:x=i<;>by_cases K:x'=i
     ·rw[z,K]
     ·rw[if_pos z]at G;rw[if_neg K]at Q;cases G;have:=(HJ x' _ t2 z2 v2 Q).2.2.2.1;omega
     ·rw[if_neg z]at G;rw[if_pos K]at Q;cases Q;have:=(HJ x _ t1 z1 v1 G).2.2.2.1;omega
     ·rw[if_neg z]at G;rw[if_neg K]at Q;exact R.inj x x' j t1 z1 v1 t2 z2 v2 G Q
   ·intro x y G ox ag c hc;by_cases z:x=i
    ·subst z;rw[aj]at ag;cases ag;exact List.mem_append_left _ hc
    ·rw[if_neg z]at G;exact List.mem_append_right _ (ad x y G ox ag c hc)
   ·
    refine{old:=S.old,os:=S.os,tape:=S.tape,output:=S.output,base:=S.base,keep:=S.keep,dom:=λx L W=>?_,place:=S.place,blk:=λx L b W Z=>?_,inj:=λx y L M W hM lx ly he=>?_}
    ·have:=S.dom x L W;simp;omega
    ·have G:=S.dom x L W;refine S.blk x L b W ?_;simp only[Array.getElem?_push]at Z;rwa[if_neg (by omega)]at Z
    ·have G:=S.dom x L W;have hy:=S.dom y M hM;exact S.inj x y L M W hM (khf (by omega) lx) (khf (by omega) ly) he
   ·have:Fr.low N ((N+i,v)::fr)=fr.low N:=by
     show List.filter _ (_::fr)=_;rw[List.filter_cons];dsimp only
     rw[show Nat.blt (N+i) N=false from by
      cases hq:Nat.blt (N+i) N with
      | false=>rfl
      | true =>
       have:N+i<N:=by simpa[Nat.blt_eq]using hq
       omega]
     rfl
    rw[this];exact F
   ·simp;omega
   ·intro x G;simp only[Array.getElem?_push];rw[if_neg (by omega)];exact hb x G
   ·intro x j t' zs' v' G;by_cases z:x=i
    ·subst z;rw[if_pos rfl]at G;cases G;exact⟨by rw[get_cons,if_pos rfl],List.mem_cons_self ..,hs,by simp,by simp⟩
    ·rw[if_neg z]at G;obtain⟨g1,g2,g3,g4,g5⟩:=HJ x j t' zs' v' G;refine⟨?_,List.mem_cons_of_mem _ g2,g3,by simp;omega,?_⟩
     ·rw[get_cons,if_neg (by omega)];exact g1
     ·simp only[Array.getElem?_push];rw[if_neg (by omega)];exact g5
  ·cases H
theorem kx9{rec:Rec}(z:RecOk P O rec){ops:Array Oper}{G H K:List Nat}{fr:Fr}{h:AH}{k:Fr->AH->Option (AV×AH)}{r:AV×AH}(hk:∀(a b:Fr)(h:AH),a.same b->k a h=k b h)
  (y:drawX P rec N ops G H K fr h k=some r) {μ:Mu} {w:World} {a:Act} (S:Sim P O μ h w) (F:FRel μ N fr a.tmps):wpAny P .any ops (After P O μ N h w a.defers k r) ops.size (Array.replicate ops.size false) a {w with drawn:=w.drawn+1}:=by
 unfold drawX at y;split at y
 ·exact kbdl z hk y S F
 ·rename_i i is;cases hb:lowB N ops with
  | false=>rw[hb]at y;cases y
  | true =>
   rw[hb,cond_true,kwe,qbw]at y;obtain⟨⟨fp,W⟩,-,y⟩:=y;dsimp only at y
   have I:∀(i:Nat)(o:Oper),ops[i]?=some o->∀t∈Oper.looksAt ops o,t<N:=by
    intro i o Q t U;unfold lowB at hb;rw[List.all_eq_true]at hb;have:=hb o (by rw[Array.mem_toList_iff];exact Array.mem_of_getElem? Q);rw[List.all_eq_true]at this
    simpa[Nat.blt_eq]using this t U
   have V:FRel μ N (fr.low N) a.tmps:=⟨F.size,λt v hv=>by
    rw[kgp]at hv;split at hv
    ·exact F.get t v hv
    ·cases hv⟩
   exact kx6 z hk I (h0:=h) (w:=w.drew) (S.drew) (i::is) (J:=λ_=>none) ⟨rfl,λ_ _=>rfl,λ_ _ _ _ _ h=>(by cases h),λ_ _ _ _ _ _ _ _ _ h=>(by cases h)⟩ (λ_ _ h=>(by cases h)) (S.drew) V (qbr _) (λ_ _=>rfl) (λ_ _ _ _ _ h=>(by cases h)) y
theorem kbee(I:P.follows .mixedOrders=true){rec:Rec}(z:RecOk P O rec){id:Nat}{ops:Array Oper}{y G H:List Nat}{fr:Fr}{h:AH}{k:Fr->AH->Option (AV×AH)}{r:AV×AH}(hk:∀(a b:Fr)(h:AH),a.same b->k a h=k b h)
  (K:drawX P rec N ops y G H fr h k=some r) {μ:Mu} {w:World} {a:Act} (S:Sim P O μ h w) (F:FRel μ N fr a.tmps):(Code.region id ops true).wp P (After P O μ N h w a.defers k r) a w :=
 wp_region_any I (kx9 z hk K S F)
end
theorem kmf{rec:Rec}{N:Nat}{ops:Array Oper}{R:Type}{k:Fr->AH->Option R}(hk:∀(a b:Fr)(h:AH),a.same b->k a h=k b h):∀(is:List Nat){a b:Fr}{h:AH},a.same b->opsK P rec N ops is a h k=opsK P rec N ops is b h k
 | [],a,b,h,e=>hk a b h e
 | i::is,a,b,h,e=>by
  have put:∀(d:Option Tmp)(v:AV){a b:Fr}(h:AH),a.same b->(putT N d v a λy=>opsK P rec N ops is y h k)=putT N d v b λy=>opsK P rec N ops is y h k:=by
   intro d v a b h e;simp only[ki1];cases d with
   | none=>exact kmf hk is e
   | some t=>dsimp only;rw[kmf hk is (e.putd (some t) v)]
  have go:∀(o:Oper){a b:Fr},a.same b->(opX P rec o.op o.type a h λv h'=>putT N o.dst v a λy=>opsK P rec N ops is y h' k)=opX P rec o.op o.type b h λv h'=>putT N o.dst v b λy=>opsK P rec N ops is y h' k:=by intro o a b e;rw[knw (b:=b) λx _=>kde λt _=>e t];congr 1;funext v h';exact put _ _ _ e
  have learn:∀(t:Tmp)(v:AV),Fr.same ((t,v)::a) ((t,v)::b):=λt v=>e.putd (some t) v;simp only[opsK];cases z:ops[i]? with
  | none=>rfl
  | some o =>
   dsimp only;cases F:o.guard with
   | none=>exact go o e
   | some jb =>
    obtain⟨j,b'⟩:=jb;dsimp only;cases G:(ops[j]?).bind (·.dst)with
    | none=>rfl
    | some t =>dsimp only;rw[e t,go o (learn t (.bool true)),go o (learn t (.bool false)),put o.dst (.tup []) h (learn t (.bool true)),put o.dst (.tup []) h (learn t (.bool false)),put o.dst (.tup []) h e]
theorem kth{a b:Fr}(e:a.same b):∀xs:List Operand,evs a xs=evs b xs
 | []=>rfl
 | x::xs=>by simp only[evs,kde (a:=a) (b:=b) (x:=x) λt _=>e t,kth e xs]
theorem kv5{rec:Rec}{o:Op}{ty:TypeId}{a b:Fr}{h:AH}{R:Type}{k:AV->AH->Option R}(e:a.same b):opM P rec o ty a h k=opM P rec o ty b h k:=by
 have y:∀x,evO a x=evO b x:=λx=>kde λt _=>e t;have ok:opK P rec o ty a h k=opK P rec o ty b h k:=kpl (b:=b) λx _=>y x;unfold opM;split
 ·rfl
 ·rw[y,y,y]
 ·rw[y,y,y]
 ·rw[y,y]
 ·rw[y,y]
 ·rw[y,y,y]
 ·rw[kth e,ok]
 ·exact ok
theorem k75{rec:Rec}{o:Op}{ty:TypeId}{a b:Fr}{h:AH}{R:Type}{k:AV->AH->Option R}(e:a.same b):opP P rec o ty a h k=opP P rec o ty b h k:=by
 have y:∀x,evO a x=evO b x:=λx=>kde λt _=>e t;unfold opP;split
 ·rw[y,y,y,kv5 e]
 ·rw[y,y,kv5 e]
 ·exact kv5 e
theorem kbko{rec:Rec}{o:Op}{ty:TypeId}{a b:Fr}{h:AH}{R:Type}{k:AV->AH->Option R}(e:a.same b):opY P rec o ty a h k=opY P rec o ty b h k:=by
 have y:kj5 o a=kj5 o b:=by
  unfold kj5;split
  ·rename_i c;rw[kth e];split
   ·rename_i f xs _ _;rw[kde (a:=a) (b:=b) (x:=f) λt _=>e t]
   ·rfl
  ·rfl
 have z:∀x,evO a x=evO b x:=λx=>kde λt _=>e t;have ok:opK P rec o ty a h k=opK P rec o ty b h k:=kpl (b:=b) λx _=>z x;unfold opY;rw[y];split
 ·rfl
 ·exact k75 e
theorem ktb{rec:Rec}{N:Nat}{ops:Array Oper}{R:Type}{k:Fr->AH->Option R}(hk:∀(a b:Fr)(h:AH),a.same b->k a h=k b h):∀(is:List Nat){a b:Fr}{h:AH},a.same b->opsY P rec N ops is a h k=opsY P rec N ops is b h k
 | [],a,b,h,e=>hk a b h e
 | i::is,a,b,h,e=>by
  have put:∀(d:Option Tmp)(v:AV){a b:Fr}(h:AH),a.same b->(putT N d v a λy=>opsY P rec N ops is y h k)=putT N d v b λy=>opsY P rec N ops is y h k:=by
   intro d v a b h e;simp only[ki1];cases d with
   | none=>exact ktb hk is e
   | some t=>dsimp only;rw[ktb hk is (e.putd (some t) v)]
  have go:∀(o:Oper){a b:Fr},a.same b->(opY P rec o.op o.type a h λv h'=>putT N o.dst v a λy=>opsY P rec N ops is y h' k)=opY P rec o.op o.type b h λv h'=>putT N o.dst v b λy=>opsY P rec N ops is y h' k:=by intro o a b e;rw[kbko e];congr 1;funext v h';exact put _ _ _ e
  have learn:∀(t:Tmp)(v:AV),Fr.same ((t,v)::a) ((t,v)::b):=λt v=>e.putd (some t) v;simp only[opsY];cases z:ops[i]? with
  | none=>rfl
  | some o =>
   dsimp only;cases F:o.guard with
   | none=>exact go o e
   | some jb =>
    obtain⟨j,b'⟩:=jb;dsimp only;cases G:(ops[j]?).bind (·.dst)with
    | none=>rfl
    | some t =>dsimp only;rw[e t,go o (learn t (.bool true)),go o (learn t (.bool false)),put o.dst (.tup []) h (learn t (.bool true)),put o.dst (.tup []) h (learn t (.bool false)),put o.dst (.tup []) h e]
theorem kqq{rec:Rec}{N:Nat}{ops:Array Oper}{y z:List Nat}{R:Type}{k:Fr->AH->Option R}(hk:∀(a b:Fr)(h:AH),a.same b->k a h=k b h):∀(c:List Nat){m:Nat}{ps:List Look}{a b:Fr}{h:AH},a.same b->opsD P rec N ops y z c m ps a h k=opsD P rec N ops y z c m ps b h k
 | [],m,ps,a,b,h,e=>by simp only[opsD,hk a b h e]
 | i::c,m,ps,a,b,h,e=>by
  simp only[opsD];split
  ·rename_i o an H G;have l:kb0 P i o.op a=kb0 P i o.op b:=kn2 (ops:=ops) λt _=>e t;rw[l];rw[kmf (b:=b) (k:=λF h'=>opsD P rec N ops y z c (m|||1 <<< i) (kb0 P i o.op b++ps) F h' k) (λa b h e=>kqq hk c e) [i] e];rw[kmf (b:=b) (k:=λF h'=>checkP an h h' (opsD P rec N ops y z c (m|||1 <<< i) ps F h' k) ps) (λa b h' e=>by rw[kqq hk c e]) [i] e]
  ·rfl
theorem kxg{rec:Rec}{N:Nat}{z:List Nat}{R:Type}{k:Fr->AH->Option R}(hk:∀(a b:Fr)(h:AH),a.same b->k a h=k b h){fp G:Fr}(H:fp.same G):∀(is:List Nat){cs:List Operand}{ops:Array Oper}{ps:List Look}{a b:Fr}{h:AH},a.same b->drawR P rec N z fp is cs ops ps a h k=drawR P rec N z G is cs ops ps b h k
 | [],cs,ops,ps,a,b,h,e=>by
  simp only[drawR];have h1:∀(F:Fr)(h':AH),finK cs (F.low N) fp (k (F.low N) h')=finK cs (F.low N) G (k (F.low N) h'):=λF h'=>kt8 (Fr.same.refl _) H;simp only[h1]
  rw[kqq (k:=λF h'=>finK cs (F.low N) G (k (F.low N) h')) (λx y h e=>by
   show finK cs (x.low N) G (k (x.low N) h)=finK cs (y.low N) G (k (y.low N) h);rw[hk _ _ _ (e.low N),kt8 (e.low N) (Fr.same.refl G)]) z e]
 | i::is,cs,ops,ps,a,b,h,e=>by
  simp only[drawR];split
  ·rename_i o I
   have h1:∀(v:AV)(h':AH),drawR P rec N z fp is (o.op.operands.toList++cs) (ops.setIfInBounds i {o with op:=.move (.tmp (N+i))}) (⟨i,h.next,0⟩::ps) ((N+i,v)::a) h' k=drawR P rec N z G is (o.op.operands.toList++cs) (ops.setIfInBounds i {o with op:=.move (.tmp (N+i))}) (⟨i,h.next,0⟩::ps) ((N+i,v)::b) h' k:=λv h'=>kxg hk H is λt=>by rw[get_cons,get_cons,e t]
   simp only[h1];rw[knw (a:=fp) (b:=G) λx _=>kde λt _=>H t]
  ·rfl
theorem kup{a b:Fr}(e:a.same b):∀(L:List Nat),a.keep L=b.keep L
 | []=>rfl
 | t::L=>by simp only[Fr.keep,e t,kup e L]
theorem kxd{a b:Fr}{h:AH}(e:a.same b):∀(y:List ResultVar)(k:List AV->Option (AV×AH)),resK P a h y k=resK P b h y k
 | [],k=>rfl
 | .tmp t::y,k=>by simp only[resK,e t,kxd e y]
 | .cell x t::y,k=>by simp only[resK,e x,kxd e y]
theorem k2l{a b:Fr}(e:a.same b)(c:Operand)(t:Bool):(learn c t a).same (learn c t b):=by
 cases c with
 | tmp s=>exact e.putd (some s) _
 | _=>exact e
theorem kfi{K:Keep}{rec:Rec}{ro:Option Nat}{f:FuncId}{fn:Func}:∀(n:Nat){fresh:Bool}{todo:List Item}(a b:Fr)(h:AH),a.same b->execA P K rec ro f fn n fresh todo a h=execA P K rec ro f fn n fresh todo b h
 | 0,fresh,todo,a,b,h,e=>rfl
 | n+1,fresh,todo,a,b,h,e=>by
  have H:=λ{fresh:Bool} {todo:List Item}=>kfi (K:=K) (rec:=rec) (ro:=ro) (f:=f) (fn:=fn) n (fresh:=fresh) (todo:=todo) a b h e
  have res:∀F,leaveA P fn ro F a h=leaveA P fn ro F b h:=λF=>by unfold leaveA;have:kio P fn a h=kio P fn b h:=kxd e _ _;rw[this]
  unfold execA
  try simp only[kd4]
  have ops:∀(ops:Array Oper)(is:List Nat)(k:List Item),(opsY P rec fn.ntmps ops is a h λz h'=>execA P K rec ro f fn n false k z h')=opsY P rec fn.ntmps ops is b h λz h'=>execA P K rec ro f fn n false k z h':=λops is k=>ktb (λx y h e=>kfi n x y h e) is e
  have I:∀(ops:Array Oper)(is G ls:List Nat)(k:List Item),(drawX P rec fn.ntmps ops is G ls a h λz h'=>execA P K rec ro f fn n false k z h')=drawX P rec fn.ntmps ops is G ls b h λz h'=>execA P K rec ro f fn n false k z h':=λops is G ls k=>by
   unfold drawX drawK;rw[kqq (λx y h e=>kfi n x y h e) is e];split
   ·rfl
   ·rename_i i G
    have h1:∀(fp:Fr)(Q:AH),drawR P rec fn.ntmps is fp (i::G) [] ops [] a h (λz h'=>execA P K rec ro f fn n false k z h')=drawR P rec fn.ntmps is fp (i::G) [] ops [] b h (λz h'=>execA P K rec ro f fn n false k z h'):=λfp Q=>kxg (λx y h e=>kfi n x y h e) (Fr.same.refl fp) _ e
    have h2:(opsK P rec fn.ntmps ops ls a h λfp _=>drawR P rec fn.ntmps is fp (i::G) [] ops [] a h (λz h'=>execA P K rec ro f fn n false k z h'))=opsK P rec fn.ntmps ops ls a h λfp _=>drawR P rec fn.ntmps is fp (i::G) [] ops [] b h (λz h'=>execA P K rec ro f fn n false k z h'):=by congr 1;funext fp Q;exact h1 fp Q
    rw[h2,kmf (λx y h0 W=>kxg (λx y h e=>kfi n x y h e) W _ (Fr.same.refl b)) ls e]
  split
  all_goals first
   | exact res _
   | exact H
   | skip
  ·rename_i c x y k;rw[kde (a:=a) (b:=b) λt _=>e t];split
   ·rw[kfi n _ _ h (k2l e c true),kfi n _ _ h (k2l e c false)]
   ·rfl
  ·split
   ·exact H
   ·exact res _
  ·split
   ·exact H
   ·exact res _
  ·rename_i id U V k;rw[ops,I];simp only[kup e]
  ·split
   ·congr 1;funext h';exact kfi n _ _ h' e
   ·rfl
  ·rename_i g ps as bd k;split
   ·rfl
   ·rw[kde (a:=a) (b:=b) λt _=>e t,kup e]
  ·rfl
end Go.Ab
namespace Go.Ab
variable{P:Program}{O:World}
def resGet(tmps:Array Value):ResultVar->Sem Value
 | .tmp t=>pure (tmps.getD t undef)
 | .cell a t=>do loadVar t (<- asAddr (tmps.getD a undef))
theorem kbgn(fn:Func)(tmps:Array Value):results fn tmps=(do
  let vs <- fn.results.mapM (resGet tmps)
  pure (if h:vs.size=1 then vs[0]else .tuple vs)):=rfl
theorem kt2{μ:Mu}{fr:Fr}{N:Nat}{tmps:Array Value}{h:AH}{w:World}(S:Sim P O μ h w)(F:FRel μ N fr tmps):∀(z:List ResultVar)(k:List AV->Option (AV×AH))(res:AV×AH),resK P fr h z k=some res->
  ∃vs us,k vs=some res/\(z.mapM (resGet tmps)).run P w=.ok us w/\VRels μ vs us/\us.length=z.length
 | [],k,res,h=>⟨[],[],h,rfl,qb,rfl⟩
 | .tmp t::z,k,res,h=>by
  simp only[resK,qbw]at h;obtain⟨v,hv,hk⟩:=h;obtain⟨vs,us,h0,h1,h2,G⟩:=kt2 S F z _ _ hk;obtain⟨u,H,y⟩:=F.get t v hv;refine⟨v::vs,u::us,h0,?_,qc y h2,by simp[G]⟩;rw[List.mapM_cons];have:tmps.getD t undef=u:=by simp[Array.getD_eq_getD_getElem?,H]
  simp only[Sem.run_bind,resGet,Sem.run_pure,Result.andThen_ok,h1,this]
 | .cell a t::z,k,res,h=>by
  simp only[resK]at h;split at h
  ·rename_i r K;obtain⟨u,H,y⟩:=F.get a _ K;simp only[VRel]at y;obtain⟨Q,I,rfl⟩:=y;obtain⟨v,U,hk,hv,V⟩:=ksx S I h;obtain⟨vs,us,h0,h1,h2,G⟩:=kt2 S F z _ _ hk;refine⟨v::vs,U::us,h0,?_,qc hv h2,by simp[G]⟩;rw[List.mapM_cons];have:tmps.getD a undef=.pointer (some Q):=by simp[Array.getD_eq_getD_getElem?,H]
   simp only[Sem.run_bind,resGet,Sem.run_pure,Result.andThen_ok,h1,this,asAddr,V]
  ·cases h
theorem kym{μ:Mu}{fn:Func}{fr:Fr}{h:AH}{v:AV}{h':AH}{N:Nat}{tmps:Array Value}{w:World}(S:Sim P O μ h w)(I:kio P fn fr h=some (v,h'))(F:FRel μ N fr tmps) :
  h'=h/\∃u,(results fn tmps).run P w=.ok u w/\VRel μ v u:=by
 rw[kbgn];unfold kio at I;obtain⟨vs,us,h0,h1,h2,Q⟩:=kt2 S F _ _ _ I;simp only[Array.mapM_eq_mapM_toList,Sem.run_bind,Sem.run_map,h1,Result.andThen_ok,Sem.run_pure];split at h0
 ·rename_i x;cases h0;simp only[VRels]at h2;obtain⟨y,ys,rfl,K,rfl⟩:=h2;exact⟨rfl,y,by simp,K⟩
 ·rename_i G;cases h0;refine⟨rfl,.tuple us.toArray,?_,by simp only[VRel];exact⟨us.toArray,rfl,by simpa using h2⟩⟩
  have H:us.length≠1:=by
   intro H;have z:=h2.length;rw[H]at z
   match vs,z with
   | [x],_=>exact G x rfl
   | [],z=>simp at z
   | _::_::_,z=>simp at z
  rw[dif_neg (by simpa using H)]
def RoundOf(μ:Mu)(ro:Option Nat)(b:Frame)(ds:List Nat):Prop :=
 match ro with
 | none=>b.roundOf=none
 | some l=>ds=[]/\∃L,μ l=some L/\b.roundOf=some L.block
theorem RoundOf.mono{μ ν:Mu}(y:Mu.le μ ν){ro:Option Nat}{b:Frame}{ds:List Nat}(h:RoundOf μ ro b ds):RoundOf ν ro b ds:=by
 cases ro with
 | none=>exact h
 | some l =>obtain⟨h1,L,h2,z⟩:=h;exact⟨h1,L,y _ _ h2,z⟩
theorem k8f{μ:Mu}{h:AH}{w:World}(S:Sim P O μ h w){l:Nat}{L:Loc}(F:μ l=some L){y:Option Code}{v:AV}{h':AH}(z:kcq l y h=some (v,h')) :
  ∃u w',(Instr.endRound L.block y).run P w=.ok u w'/\GoodX P O [] μ h w v h' u w':=by
 unfold kcq at z;split at z
 ·rename_i U V f fr ps as bd d hb;cases z;obtain⟨tmps,I,K,Q⟩:=S.blk l L _ F hb;have G:=(S.place l L F).2;refine⟨_,_,run_endRound y K,?_⟩;have H:(if y.isNone=true then LoopState.ready else LoopState.done)=cond y.isNone .ready .done:=by cases y.isNone<;>rfl
  obtain⟨s1,s2,s3⟩:=kqw S F hb (by simp) (b':=.loop (cond y.isNone .ready .done) y f fr ps as bd d) (o:=.loop {state:=if y.isNone then .ready else .done,pending:=y,fn:=f,tmps,params:=ps,assign:=as,body:=bd,defers:=I}) ⟨tmps,I,by rw[World.putObj_heap_same G,H],Q⟩;exact⟨μ,by simp[VRel],s1,s2,s3.1,λb hb W=>s3.2 b hb⟩
 ·cases z
theorem kbji{μ:Mu}{h h':AH}{w:World}(S:Sim P O μ h w){l:Nat}{L:Loc}(z:μ l=some L)(y:beginA l h=some h'):∃w',(Instr.beginRound L.block).run P w=.ok () w'/\Sim P O μ h' w'/\Ext μ h w μ h'/\Frm μ h w w':=by
 unfold beginA at y;split at y
 ·rename_i G f fr ps as bd d hb;cases y;obtain⟨tmps,H,I,K⟩:=S.blk l L _ z hb;have F:=(S.place l L z).2;refine⟨_,run_beginRound I rfl,?_⟩;exact kqw S z hb (by simp) (b':=.loop .busy G f fr ps as bd d) ⟨tmps,H,by rw[World.putObj_heap_same F],K⟩
 ·cases y
theorem kbcc{μ:Mu}{h h':AH}{w:World}(S:Sim P O μ h w){l:Nat}{L:Loc}(F:μ l=some L){G:Option Code}(y:kdd l h=some (G,h')):∃w',(Instr.endLoop L.block).run P w=.ok G w'/\Sim P O μ h' w'/\Ext μ h w μ h'/\Frm μ h w w':=by
 unfold kdd at y;split at y
 ·rename_i H I f fr ps as bd d hb;rcases kb5 y with⟨_,y⟩ | ⟨z,y⟩
  ·cases y
  ·cases y;obtain⟨tmps,Q,K,U⟩:=S.blk l L _ F hb;refine⟨_,run_endLoop K (by cases H<;>simp at z|-),?_⟩;exact kqw S F hb (by simp) (b':=.dead) trivial
 ·cases y
theorem krq{fn:Func}{ro:Option Nat}{y:Option Code}{fr:Fr}{h:AH}{v:AV}{h':AH}(hk:leaveA P fn ro y fr h=some (v,h')){μ:Mu}{w:World}{b:Frame}{a:Act}{ds:List Nat}(H:P.funcs[b.fn]?=some fn)(z:b.kind=.normal)(G:RoundOf μ ro b ds)(Q:a.defers=ds.map mark)(M:Marks O μ h w ds)(S:Sim P O μ h w)(F:FRel μ fn.ntmps fr a.tmps)
  {todo:List Item} (hs:b.roundOf=none->(y=none\/y=some .ret)->∀cs,step P (lone (b.atR a todo) cs w)=.next (lone {b.atR a todo with mode:=.returning} cs w))
  (U:∀{l:Nat}{u:Value}{w':World},b.roundOf=some l->(Instr.endRound l y).run P w=.ok u w'->∀c cs,step P (lone (b.atR a todo) (c::cs) w)=.next (lone (c.finish u) cs w')):Fin P ro b todo a w (GoodX P O ds μ h w v h'):=by
 cases ro with
 | none =>
  have I:(y=none\/y=some .ret)/\kio P fn fr h=some (v,h'):=by
   unfold leaveA at hk;split at hk
   ·rename_i e;cases e
   ·split at hk
    ·exact⟨.inl rfl,hk⟩
    ·exact⟨.inr rfl,hk⟩
    ·cases hk
  intro cs;obtain⟨rfl,_,_,_⟩:=kym S I.2 F
  obtain⟨u,w',K,g,V,W,Z⟩:=returns (fn:=fn) (v:=v) (h:=h') ds {b.atR a todo with mode:=.returning} H z rfl Q S M (λw' S'=>by obtain⟨_,u,h1,h2⟩:=kym S' I.2 F;exact⟨u,h1,h2⟩) cs
  exact⟨u,w',K,g,Steps.head (hs G I.1 cs) V,W,Z⟩
 | some l =>obtain⟨rfl,L,hL,hb⟩:=G;intro c cs;obtain⟨u,w',h1,g⟩:=k8f S hL (show kcq l y h=some (v,h')from hk);exact⟨u,w',g,Steps.one (U hb h1 c cs)⟩
theorem k4m{b:Frame}{a:Act}{g:Operand}{ps:Array Tmp}{as bd:Code}{k:List Item}{w w':World}{G:FuncId}{x y args:Array Value}{n:Next}(hb:b.roundOf=none)(U:a.eval g=.func (.func G) x y)
  (Q:(callFunc G ((x++#[.func (.yield (w.heap.size+1)) #[] #[]])++y)).run P ((w.alloc (.deferred (some []))).alloc (.loop {state:=.ready,pending:=none,fn:=b.fn,tmps:=a.tmps,params:=ps,assign:=as,body:=bd,defers:=w.heap.size}))=.ok n w') (cs:List Frame) :
  (∀f args,n=.enter f args->step P (lone (b.atR a (.code (.rangeFunc g ps as bd)::k)) cs w)=.next (lone (Frame.enter P f args .normal) (b.atR {a with defers:=mark w.heap.size::a.defers} (.inRangeFunc (w.heap.size+1)::k)::cs) w'))/\
  (∀u,n=.value u->step P (lone (b.atR a (.code (.rangeFunc g ps as bd)::k)) cs w)=.next (lone (b.atR {a with defers:=mark w.heap.size::a.defers} (.endRangeFunc (w.heap.size+1)::k)) cs w')):=by
 have H:=congrFun (Frame.eval_atR b {a with defers:=mark w.heap.size::a.defers} (.inRangeFunc (w.heap.size+1)::k)) g;have I:({tmps:=a.tmps,defers:=mark w.heap.size::a.defers}:Act).eval g=a.eval g:=by cases g<;>rfl
 rw[I,U]at H;simp only[Frame.atR]at H
 have F:∀(ρ:Operand->Value),ρ g=.func (.func G) x y->(∀v,ρ (.const v)=v)->∀W,(do let d <- resolve ρ {callee:=.value g,args:=#[.const (.func (.yield (w.heap.size+1)) #[] #[])],argTypes:=#[]} 0;invoke d.target d.args:Sem Next).run P W=(callFunc G ((x++#[.func (.yield (w.heap.size+1)) #[] #[]])++y)).run P W:=by intro ρ h1 h2 W;simp[resolve,h1,h2,Deferred.ofValue,invoke,Sem.run_bind,Result.andThen_ok]
 constructor
 ·intro f args K;subst K;refine step_lone_go ?_;have z:=F (Frame.eval {fn:=b.fn,tmps:=a.tmps,todo:=.inRangeFunc (w.heap.size+1)::k,defers:=mark w.heap.size::a.defers,mode:=.run,kind:=b.kind,roundOf:=b.roundOf}) H (λ_=>rfl) ((w.alloc (.deferred (some []))).alloc (.loop {state:=.ready,pending:=none,fn:=b.fn,tmps:=a.tmps,params:=ps,assign:=as,body:=bd,defers:=w.heap.size}));rw[Q]at z;simp only[hb]at z;simp[stepG,stepG.exec,stepG.apply,Frame.atR,hb,Sem.runT_eq,run_enterLoop_outer,mark]at z|-;rw[z];simp
 ·intro u K;subst K;refine step_lone_go ?_;have z:=F (Frame.eval {fn:=b.fn,tmps:=a.tmps,todo:=.inRangeFunc (w.heap.size+1)::k,defers:=mark w.heap.size::a.defers,mode:=.run,kind:=b.kind,roundOf:=b.roundOf}) H (λ_=>rfl) ((w.alloc (.deferred (some []))).alloc (.loop {state:=.ready,pending:=none,fn:=b.fn,tmps:=a.tmps,params:=ps,assign:=as,body:=bd,defers:=w.heap.size}));rw[Q]at z;simp only[hb]at z;simp[stepG,stepG.exec,stepG.apply,Frame.atR,hb,Sem.runT_eq,run_enterLoop_outer,mark,Frame.finish]at z|-;rw[z];simp
theorem k8k{b:Frame}{a:Act}{l:Nat}{k:List Item}{w w':World}{y:Option Code}(z:(Instr.endLoop l).run P w=.ok y w')(cs:List Frame) :
  step P (lone (b.atR a (.endRangeFunc l::k)) cs w)=.next (lone (b.atR a ((y.map Item.code).toList++k)) cs w') :=
 step_lone_go (by simp[stepG,stepG.exec,Frame.atR,Sem.runT_eq,z])
theorem kkd{K:Keep}(hm:P.follows .mixedOrders=true){rec:Rec}(Q:RecOk P O rec){ro:Option Nat}{f:FuncId}{fn:Func}(V:P.funcs[f]?=some fn){v:AV}{h':AH}:∀(n:Nat)(fresh:Bool){todo:List Item}{fr:Fr}{h:AH},
  execA P K rec ro f fn n fresh todo fr h=some (v,h')->∀(μ:Mu)(w:World)(b:Frame)(a:Act)(ds:List Nat),b.fn=f->b.kind=.normal->RoundOf μ ro b ds->a.defers=ds.map mark->Marks O μ h w ds->Sim P O μ h w->FRel μ fn.ntmps fr a.tmps->
  Fin P ro b todo a w (GoodX P O ds μ h w v h')
 | 0,fresh,todo,fr,h,hk=>by simp[execA]at hk
 | n+1,fresh,todo,fr,h,hk=>by
  intro μ w b a ds hb z U hd M S F;have IH:=λ(fresh:Bool) {todo:List Item} {fr:Fr} (hk:execA P K rec ro f fn n fresh todo fr h=some (v,h')) (F:FRel μ fn.ntmps fr a.tmps)=>kkd hm Q V n fresh hk μ w b a ds hb z U hd M S F;have ah:P.funcs[b.fn]?=some fn:=by rw[hb];exact V
  have next:∀(fresh:Bool){todo:List Item}{fr:Fr}{h1:AH}{ν:Mu}{w1:World}{a1:Act},execA P K rec ro f fn n fresh todo fr h1=some (v,h')->Sim P O ν h1 w1->Ext μ h w ν h1->Frm μ h w w1->FRel ν fn.ntmps fr a1.tmps->a1.defers=a.defers->Fin P ro b todo a1 w1 (GoodX P O ds μ h w v h'):=by intro fresh todo fr h1 ν w1 a1 hk S1 e f F1 bf;exact(kkd hm Q V n fresh hk ν w1 b a1 ds hb z (U.mono e.2.1) (bf.trans hd) (M.step S S1 e f) S1 F1).mono λu w2 g=>g.trans e f λr H=>.inl H
  unfold execA at hk
  try simp only[kd4]at hk
  split at hk
  ·exact krq hk ah z U hd M S F (λhn _ cs=>stepR_end hn) (λW H c cs=>stepR_round_end W z H)
  ·exact krq hk ah z U hd M S F (λhn _ cs=>stepR_ret hn) (λW H c cs=>stepR_round_ret W z H)
  ·exact(IH _ hk F).of_steps λcs=>Steps.one stepR_skip
  ·exact(IH _ hk F).of_steps λcs=>Steps.one stepR_label
  ·exact(IH _ hk F).of_steps λcs=>Steps.one stepR_inBlock
  ·exact(IH _ hk F).of_steps λcs=>Steps.one kbkq
  ·exact(IH _ hk F).of_steps λcs=>Steps.one stepR_seq
  ·rename_i c x y k;split at hk
   ·rename_i t ht;have hv:=kw F ht;simp only[VRel]at hv
    have Fl:∀t',t=t'->FRel μ fn.ntmps (learn c t' fr) a.tmps:=by
     intro t' bg;subst bg;unfold learn;split
     ·rename_i s;exact F.learn ht λ_ h=>h
     ·exact F
    rcases kb5 hk with⟨rfl,G⟩ | ⟨rfl,G⟩
    ·exact(IH _ G (Fl _ rfl)).of_steps λcs=>Steps.one (stepR_cond hv)
    ·exact(IH _ G (Fl _ rfl)).of_steps λcs=>Steps.one (stepR_cond hv)
   ·cases hk
  ·exact(IH _ hk F).of_steps λcs=>Steps.one stepR_block
  ·exact(IH _ hk F).of_steps λcs=>Steps.one stepR_loop
  ·exact(IH _ hk F).of_steps λcs=>Steps.one stepR_inLoop
  ·exact(IH _ hk F).of_steps λcs=>Steps.one kbcu
  ·split at hk
   ·rename_i k' Z;exact(IH _ hk F).of_steps λcs=>Steps.one (stepR_exit Z)
   ·rename_i Z;exact krq hk ah z U hd M S F (λhn hj cs=>by rcases hj with e | e<;>cases e) (λW H c cs=>stepR_round_exit W z Z H)
  ·split at hk
   ·rename_i k' Z;exact(IH _ hk F).of_steps λcs=>Steps.one (stepR_goto Z)
   ·rename_i Z;exact krq hk ah z U hd M S F (λhn hj cs=>by rcases hj with e | e<;>cases e) (λW H c cs=>stepR_round_goto W z Z H)
  ·rename_i id ops al k
   have aq:(cond al (cond (ro.isSome&&kh1 ops) none (drawX P rec fn.ntmps ops (kwy K f id ops.size) (resvOf K f id) (preOf K f id) fr h λI h'=>execA P K rec ro f fn n false k I h')) (opsY P rec fn.ntmps ops (List.range ops.size) fr h λI h'=>execA P K rec ro f fn n false k I h'))=some (v,h')->Fin P ro b (.code (.region id ops al)::k) a w (GoodX P O ds μ h w v h'):=by
    intro hk
    have ad:∀(a':Act)(w':World),After P O μ fn.ntmps h w a.defers (λI h'=>execA P K rec ro f fn n false k I h') (v,h') .normal a' w'->Fin P ro b k a' w' (GoodX P O ds μ h w v h'):=by
     rintro a' w' ⟨_,ae,I,h1,ν,g1,g2,g3,g4,g5⟩
     exact next false g1 g2 g4 g5 g3 ae
    rcases kb5 hk with⟨rfl,G⟩ | ⟨rfl,G⟩
    ·rcases kb5 G with⟨_,ab⟩ | ⟨am,ab⟩
     ·cases ab
     ·cases ro with
      | some l =>
       have ar:=kx9 Q (λx y h e=>kfi n x y h e) ab S F;have ae:kh1 ops=false:=by simpa using am
       refine Fin.of_some (X:=λa' w'=>After P O μ fn.ntmps h w a.defers (λI h'=>execA P K rec (some l) f fn n false k I h') (v,h') .normal a' w') (λcs=>?_) ad;have au:=wpAny_sound ops.size (w.tape w.drawn (.order b.fn id)) _ _ _ ar;have hs:=stepR_region_draw (P:=P) (b:=b) (a:=a) (k:=k) (cs:=cs) (w:=w) (ops:=ops) (id:=id);simp only[Region.schedule,hm,Bool.true_or,if_true]at hs;obtain⟨a',w',hA,st⟩:=kie (λ_ _ _ q=>q.1) ae _ _ _ au (λa' w' q=>by rw[q.2.1];exact qbr _) b k cs;exact⟨a',w',hA,.head hs st⟩
      | none =>have hw:=kbee hm Q (id:=id) (λx y h e=>kfi n x y h e) ab S F;have ac:b.roundOf=none:=U;refine Fin.of_some (X:=λa' w'=>After P O μ fn.ntmps h w a.defers (λI h'=>execA P K rec none f fn n false k I h') (v,h') .normal a' w') (λcs=>?_) ad;obtain⟨e,a',w',hq,aa⟩:=hw b k cs;have he:e=.normal:=hq.1;subst he;refine⟨a',w',hq,?_⟩;rw[Frame.atR_of_none ac,Frame.atR_of_none ac];exact aa
    ·refine Fin.of_some (X:=λa' w'=>After P O μ fn.ntmps h w a.defers (λI h'=>execA P K rec ro f fn n false k I h') (v,h') .normal a' w') (λcs=>?_) ad;obtain⟨a',w',hA,st⟩:=kw8 Q _ G S F b k cs;exact⟨a',w',hA,.head stepR_region st⟩
   rcases kb5 hk with⟨rfl,G⟩ | ⟨rfl,G⟩
   ·exact aq G
   ·split at G
    ·cases ro with
     | none=>exact Q.pt G V hb z U hd M S (F.keep _)
     | some l =>obtain⟨rfl,L,hL,an⟩:=U;exact Q.rpt G V hb z hL an hd S (F.keep _)
    ·exact aq G
  ·rename_i k;cases ro with
   | none=>cases hk
   | some l =>obtain⟨h1,he,G⟩:=qbw.1 hk;have aw:=U;obtain⟨bv,L,hL,an⟩:=aw;obtain⟨w1,H,S1,e1,f1⟩:=kbji S hL he;refine(next fresh G S1 e1 f1 F rfl).of_steps (a':=a) (w':=w1) λcs=>Steps.one (stepR_beginRound an H)
  ·rename_i g ps as bd k;cases ro with
   | some l=>cases hk
   | none =>
    have ac:b.roundOf=none:=U;split at hk
    ·cases hk
    ·rcases kb5 hk with⟨rfl,hk⟩ | ⟨rfl,hk⟩
     case inr=>exact Q.pt hk V hb z U hd M S (F.keep _)
     split at hk
     ·rename_i gf first captured hg
      obtain⟨q,hq,G⟩:=qbw.1 hk;obtain⟨p,hp,ab⟩:=qbw.1 G;obtain⟨qv,qh⟩:=q;obtain⟨pe,ph⟩:=p;have ax:=kw F hg;simp only[VRel]at ax;obtain⟨g',x,y,he,ay,bh,bi⟩:=ax;simp only[FnRel]at ay;subst ay;obtain⟨S1,e1,f1⟩:=k78 S (.deferred (some []))
      obtain⟨S2,e2,f2⟩:=k0q S1 (b:=.loop .ready none f (fr.keep (List.range fn.ntmps)) ps as bd 0) (n:=0) (o:=.loop {state:=.ready,pending:=none,fn:=b.fn,tmps:=a.tmps,params:=ps,assign:=as,body:=bd,defers:=w.heap.size}) (λν af=>by
       refine⟨a.tmps,w.heap.size,?_,λbw az=>?_⟩
       ·rw[kks,hb]
       ·rw[V]at az;cases az;exact(F.keep _).mono af)
      have bj:(w.alloc (.deferred (some []))).heap.size=w.heap.size+1:=by simp
      rw[bj]at S2 e2;have M2:=M.step S S2 (e1.trans e2 f1.1) (f1.trans e1 f2);generalize hμ2:Mu.set μ h.blks.size ⟨w.heap.size+1,0,0⟩=μ2 at S2 e2 M2;have a0:μ2 h.blks.size=some ⟨w.heap.size+1,0,0⟩:=by rw[<- hμ2];exact kdz _ _ _
      generalize ai:(w.alloc (.deferred (some []))).alloc (.loop {state:=.ready,pending:=none,fn:=b.fn,tmps:=a.tmps,params:=ps,assign:=as,body:=bd,defers:=w.heap.size})=w2 at S2 f2 M2
      have bk:w2.heap[w.heap.size]?=some (.deferred (some [])):=by rw[<- ai,kdb _ _ _ (by simp),kks]
      have ao:w2.heap.size=w.heap.size+2:=by rw[<- ai];simp
      have bn:Marks O μ2 (h.alloc (.loop .ready none f (fr.keep (List.range fn.ntmps)) ps as bd 0)) w2 (w.heap.size::ds):=by
       refine⟨List.nodup_cons.2 ⟨λhm=>?_,M2.nodup⟩,λr H=>?_,λr H=>?_,λr H i L hl hL=>?_⟩
       ·have:=(M.old _ hm).2;omega
       ·rcases qb8.1 H with rfl | H
        ·have:=S.base;omega
        ·exact M2.old r H
       ·rcases qb8.1 H with rfl | H
        ·exact bk
        ·exact M2.has r H
       ·rcases qb8.1 H with rfl | H
        ·intro bq;rw[<- hμ2]at hL;unfold Mu.set at hL;split at hL
         ·cases hL;simp at bq
         ·have:=(S.place i L hL).2;omega
        ·exact M2.free r H i L hl hL
      have br:VRels μ2 (first++[.func (.yield h.blks.size) [] []]++captured) (x.toList++[.func (.yield (w.heap.size+1)) #[] #[]]++y.toList):=by have af:=(e1.trans e2 f1.1).2.1;have mono:∀{vs:List AV}{us:List Value},VRels μ vs us->VRels μ2 vs us:=λh=>VRels.mono af h;refine((mono bh).append ?_).append (mono bi);refine qc ?_ qb;simp only[VRel];exact⟨.yield (w.heap.size+1),#[],#[],rfl,⟨_,a0,rfl⟩,qb,qb⟩
      have aa:(x.toList++[Value.func (.yield (w.heap.size+1)) #[] #[]]++y.toList).toArray=(x++#[.func (.yield (w.heap.size+1)) #[] #[]])++y:=by apply Array.ext';simp
      have ag:∀(u:Value)(w3:World),Good P O μ2 (h.alloc (.loop .ready none f (fr.keep (List.range fn.ntmps)) ps as bd 0)) w2 qv qh u w3->
        Fin P none b (.endRangeFunc (w.heap.size+1)::k) {a with defers:=mark w.heap.size::a.defers} w3 (GoodX P O ds μ h w v h'):=by
       rintro u w3 ⟨ν,g1,g2,g3,g4⟩
       have bu:ν h.blks.size=some ⟨w.heap.size+1,0,0⟩:=g3.2.1 _ _ a0;obtain⟨w4,ba,S4,e4,f4⟩:=kbcc g2 bu hp;have M3:=bn.step S2 g2 g3 g4;have M4:=M3.step g2 S4 e4 f4;have af:=(e1.trans e2 f1.1).2.1;have bb:=Q.pt ab V hb z ac (a:={a with defers:=mark w.heap.size::a.defers}) (by simp[hd]) M4 S4 (((F.mono af).mono (Mu.le_trans g3.2.1 e4.2.1)).keep _)
       have bc:Ext μ h w ν ph:=by have:=((e1.trans e2 f1.1).trans g3 (by rw[ao];omega)).trans e4 (qbs (by rw[ao];omega) g4.1);exact this
       have be:Frm μ h w w4:=((f1.trans e1 f2).trans (e1.trans e2 f1.1) g4).trans ((e1.trans e2 f1.1).trans g3 (by rw[ao];omega)) f4;refine Fin.of_steps (a':={a with defers:=mark w.heap.size::a.defers}) (w':=w4) (todo':=(pe.map Item.code).toList++k) (λcs=>Steps.one (k8k ba cs)) ?_
       exact bb.mono λu w5 g=>g.trans bc be λr H=>by
        rcases qb8.1 H with rfl | H
        ·exact .inr (qbr _)
        ·exact .inl H
      rcases kxl Q hq S2 br with⟨H,hc⟩ | ⟨u,H,g⟩
      ·rw[aa]at H hc;intro cs;have ap:=(k4m (P:=P) (b:=b) (a:=a) (k:=k) (as:=as) (bd:=bd) (ps:=ps) (args:=#[]) ac he (by rw[ai];exact H) cs).1 _ _ rfl;obtain⟨e,w3,bx,hR,aj,_,ak⟩:=hc (b.atR {a with defers:=mark w.heap.size::a.defers} (.inRangeFunc (w.heap.size+1)::k)::cs);obtain⟨u,rfl,g⟩:=hR;obtain⟨u',w',I,h1,h2,h3⟩:=ag u w3 g cs;refine⟨u',w',I,h1,.head ap (Steps.trans aj (.head (step_leave_returned ak) ?_)),h3⟩;exact h2
      ·rw[aa]at H;intro cs;have ap:=(k4m (P:=P) (b:=b) (a:=a) (k:=k) (as:=as) (bd:=bd) (ps:=ps) (args:=#[]) ac he (by rw[ai];exact H) cs).2 _ rfl;obtain⟨u',w',I,h1,h2,h3⟩:=ag u w2 g cs;exact⟨u',w',I,h1,.head ap h2,h3⟩
     ·cases hk
  ·cases hk
theorem kbqr(vs:List AV):∀(i t:Nat)(v:AV),(kj9 i vs).get t=some v->i<=t/\vs[t-i]?=some v:=by
 induction vs with
 | nil=>intro i t v h;simp[kj9,Fr.get]at h
 | cons x vs ih =>
  intro i t v h;simp only[kj9]at h;rw[Fr.get_cons]at h;split at h
  ·rename_i y;subst y;cases h;simp
  ·obtain⟨h1,h2⟩:=ih (i+1) t v h;refine⟨by omega,?_⟩;rw[show t-i=(t-(i+1))+1 from by omega]
   simpa using h2
theorem kz7{μ:Mu}{N:Nat}:∀(y:List Tmp){vs:List AV}{us:List Value}{fr:Fr}{tmps:Array Value},FRel μ N fr tmps->VRels μ vs us->(y.all λt=>Nat.blt t N)=true->FRel μ N (handed y vs fr) ((y.zip us).foldl (λtmps p=>tmps.setIfInBounds p.1 p.2) tmps)
 | [],vs,us,fr,tmps,F,V,h=>by cases vs<;>simpa[handed]using F
 | t::y,[],us,fr,tmps,F,V,h=>by
  rw[V.nil_inv]
  simpa[handed]using F
 | t::y,v::vs,us,fr,tmps,F,V,h=>by
  obtain⟨u,us',rfl,hv,z⟩:=V.cons_inv;rw[List.all_cons,qcb]at h
  have G:FRel μ N ((t,v)::fr) (tmps.setIfInBounds t u):=by have:=FRel.put (a:={tmps,defers:=[]}) F (t:=t) (by simpa[Nat.blt_eq]using h.1) hv;exact this
  have:=kz7 y G z h.2
  simpa[handed]using this
theorem kbc5{f:FuncId}{fn:Func}(z:P.funcs[f]?=some fn){μ:Mu}{h h':AH}{w:World}{v:AV}{us:List Value}{c:Code}(F:fn.body=some c)
  (G:Fin P none {(default:Frame)with fn:=f,kind:=.normal} [.code c] {tmps:=us.toArray++Array.replicate (fn.ntmps-us.toArray.size) undef,defers:=[]} w (GoodX P O [] μ h w v h')):Calls P f us.toArray w (Ends (Good P O μ h w v h')):=by
 intro cs;obtain⟨u,w',fr,g,H,I,K⟩:=G cs
 have y:Frame.enter P f us.toArray .normal=Frame.atR {(default:Frame)with fn:=f,kind:=.normal} {tmps:=us.toArray++Array.replicate (fn.ntmps-us.toArray.size) undef,defers:=[]} [.code c]:=by simp[Frame.enter,Frame.atR,z,F];rfl
 refine⟨.returned u,w',fr,⟨u,rfl,g.nil⟩,?_,I,K⟩;rw[y];exact H
theorem k61{K:Keep}(hm:P.follows .mixedOrders=true){rec:Rec}(H:RecOk P O rec):RecOk P O (stepA P K rec):=by
 refine⟨?_,?_,?_,?_⟩
 ·intro f xs h v h' hk μ w us S U;simp only[stepA,kd4]at hk;split at hk
  ·rename_i fn z;split at hk
   ·rename_i c V;obtain⟨W,I⟩:=kr hk;have W:=Nat.le_of_ble_eq_true W;have Z:=U.length
    have F:FRel μ fn.ntmps (kj9 0 xs) (us.toArray++Array.replicate (fn.ntmps-us.toArray.size) undef):=by
     refine⟨by simp;omega,λt y hy=>?_⟩;obtain⟨_,h2⟩:=kbqr xs 0 t y hy;obtain⟨u,hu,aa⟩:=U.get _ y h2;simp only[Nat.sub_zero]at hu
     have ab:t<us.length:=by
      rcases Nat.lt_or_ge t us.length with h' | h'
      ·exact h'
      ·rw[List.getElem?_eq_none h']at hu;cases hu
     refine⟨u,?_,aa⟩;rw[Array.getElem?_append_left (by simpa using ab)]
     simpa using hu
    exact kbc5 z V (kkd hm H z 4000 false I μ w {(default:Frame)with fn:=f,kind:=.normal} {tmps:=us.toArray++Array.replicate (fn.ntmps-us.toArray.size) undef,defers:=[]} [] rfl rfl (show RoundOf μ none _ _ from rfl) rfl Marks.nil S F)
   ·cases hk
  ·cases hk
 ·intro f todo fr h v h' hk fn z μ w b a ds hb G ac hd M S F;simp only[stepA,kd4]at hk;rw[z]at hk;exact kkd hm H z 4000 true hk μ w b a ds hb G ac hd M S F
 ·intro l xs h v h' hk μ w us L S U hL;simp only[stepA,kd4]at hk;split at hk
  ·rename_i st pe f fr ps as bd d hb;split at hk
   ·rename_i fn z;obtain⟨V,I⟩:=kr hk;rw[qcb]at V;obtain⟨tmps,dd,hw,hF⟩:=S.blk l L _ hL hb;have Z:ps.size=xs.length:=Nat.eq_of_beq_eq_true V.1;have ae:=U.length;refine⟨f,_,as,bd,run_yield hw (by simp only;rw[List.size_toArray];omega),λc cs=>?_⟩
    have Q:(ps.zip us.toArray).foldl (λtmps x=>match x with | (t,a)=>tmps.setIfInBounds t a) tmps=(ps.toList.zip us).foldl (λtmps p=>tmps.setIfInBounds p.1 p.2) tmps:=by rw[<- Array.foldl_toList,Array.toList_zip]
    have F:=kz7 ps.toList (hF fn z) U V.2;have:=kkd hm H z 4000 false I μ w {(default:Frame)with fn:=f,kind:=.normal,roundOf:=some L.block} {tmps:=(ps.toList.zip us).foldl (λtmps p=>tmps.setIfInBounds p.1 p.2) tmps,defers:=[]} [] rfl rfl (show RoundOf μ (some l) _ _ from⟨rfl,L,hL,rfl⟩) rfl Marks.nil S F;obtain⟨u,w',g,st⟩:=this c cs;refine⟨u,w',g.nil,?_⟩;simp only[Q];exact st
   ·cases hk
  ·cases hk
 ·intro l f todo fr h v h' hk fn z μ w b a L hb G hL ad hd S F;simp only[stepA,kd4]at hk;rw[z]at hk;exact kkd hm H z 4000 true hk μ w b a [] hb G (show RoundOf μ (some l) b []from⟨rfl,L,hL,ad⟩) hd Marks.nil S F
theorem km0(K:Keep)(y:P.follows .mixedOrders=true):∀n,RecOk P O (runF P K n)
 | 0=>⟨λh=>by simp[runF]at h,λh=>by simp[runF]at h,λh=>by simp[runF]at h,λh=>by simp[runF]at h⟩
 | n+1=>k61 y (km0 K y n)
theorem kjc{K:Keep}{key:Key}{h:AH}{r:AV×AH}(y:run P K key h=some r):∃n,runF P K n key h=some r:=by
 unfold run at y;split at y
 ·rename_i z;have:=Classical.choose_spec (Classical.choose_spec z);cases y;exact⟨_,this⟩
 ·cases y
theorem run_ok(K:Keep)(z:P.follows .mixedOrders=true):RecOk P O (run P K):=⟨λh=>let ⟨n,y⟩:=kjc h;(km0 K z n).fn y,λh=>let ⟨n,y⟩:=kjc h;(km0 K z n).pt y,λh=>let ⟨n,y⟩:=kjc h;(km0 K z n).round y,λh=>let ⟨n,y⟩:=kjc h;(km0 K z n).rpt y⟩
end Go.Ab
namespace Go.Ab
variable{P:Program}
structure Ask where
 key:Key
 h:AH
 r:AV×AH
def Agree(rec:Rec)(l:List Ask):Prop:=∀x∈l,rec x.key x.h=some x.r
def Hangs{A:Type}(f:Rec->Option A):Prop:=∀rec r,f rec=some r->∃l,Agree rec l/\∀y,Agree y l->f y=some r
theorem Agree.append{rec:Rec}{l m:List Ask}(h:Agree rec l)(k:Agree rec m):Agree rec (l++m):=λx y=>by
 rcases qb7.1 y with y | y
 ·exact h x y
 ·exact k x y
theorem Agree.left{rec:Rec}{l m:List Ask}(h:Agree rec (l++m)):Agree rec l:=λx y=>h x (qb7.2 (.inl y))
theorem Agree.right{rec:Rec}{l m:List Ask}(h:Agree rec (l++m)):Agree rec m:=λx y=>h x (qb7.2 (.inr y))
theorem Hangs.const{A:Type}(x:Option A):Hangs (λ_=>x):=λrec r h=>⟨[],λ_ y=>by simp at y,λ_ _=>h⟩
abbrev qg:=@Hangs.const
theorem Hangs.ask(key:Key)(h:AH):Hangs (λrec=>rec key h):=λrec r F=>⟨[⟨key,h,r⟩],λx y=>by simp at y;subst y;exact F,λz h'=>h' ⟨key,h,r⟩ (by simp)⟩
theorem Hangs.bind{A B:Type}{f:Rec->Option A}{g:Rec->A->Option B}(z:Hangs f)(F:∀a,Hangs (λrec=>g rec a)):Hangs (λrec=>(f rec).bind (g rec)):=λrec r h=>by rw[qbw]at h;obtain⟨a,G,hb⟩:=h;obtain⟨l,h1,h2⟩:=z rec a G;obtain⟨m,H,I⟩:=F a rec r hb;exact⟨l++m,h1.append H,λy h'=>by dsimp only;rw[h2 y h'.left];exact I y h'.right⟩
theorem Hangs.cond{A:Type}{c:Bool}{f g:Rec->Option A}(y:Hangs f)(z:Hangs g):Hangs (λrec=>cond c (f rec) (g rec)):=by
 cases c
 ·exact z
 ·exact y
abbrev qi:=@Hangs.cond
theorem kvc(f:FuncId)(args:List AV)(h:AH):Hangs (λrec=>callF P rec f args h):=by
 unfold callF;split
 ·refine qi (qg _) ?_;split
  ·exact Hangs.ask _ _
  ·exact qg _
 ·exact qg _
theorem kbly(v:AV)(args:List AV)(h:AH):Hangs (λrec=>callV P rec v args h):=by
 unfold callV;split
 ·exact kvc _ _ _
 ·exact qg _
theorem kbmc(c:Call)(ty:TypeId)(fr:Fr)(h:AH):Hangs (λrec=>callK P rec c ty fr h pk):=by
 unfold callK;split
 ·exact qg _
 ·split
  ·exact qg _
  ·split
   ·exact(kbly _ _ _).bind λq=>qg _
   ·exact qg _
  ·split
   ·rename_i v _;cases v.asIface with
    | none=>exact qg _
    | some p =>
     obtain⟨g,e⟩:=k0j;simp only[qbv,e];cases g P p.1 _ p.2 h with
     | none=>exact qg _
     | some q=>exact(kvc _ _ _).bind λq=>qg _
   ·exact qg _
theorem kux(o:Op)(ty:TypeId)(fr:Fr)(h:AH):Hangs (λrec=>opK P rec o ty fr h pk):=by
 cases o<;>first
  | exact kbmc _ _ _ _
  | exact qg _
theorem ksi(o:Op)(ty:TypeId)(fr:Fr)(h:AH):Hangs (λrec=>opM P rec o ty fr h pk):=by
 unfold opM;split
 ·exact qg _
 ·exact qg _
 ·exact qg _
 ·exact qg _
 ·exact qg _
 ·exact qg _
 ·split
  ·exact qg _
  ·exact qg _
  ·exact qg _
  ·exact kux _ _ _ _
 ·exact kux _ _ _ _
theorem kzs(o:Op)(ty:TypeId)(fr:Fr)(h:AH):Hangs (λrec=>opP P rec o ty fr h pk):=by
 unfold opP;split
 ·split
  ·exact qg _
  ·exact ksi _ _ _ _
 ·split
  ·exact qg _
  ·exact ksi _ _ _ _
 ·exact ksi _ _ _ _
theorem k3t(o:Op)(ty:TypeId)(fr:Fr)(h:AH):Hangs (λrec=>opX P rec o ty fr h pk):=qi (kux _ _ _ _) (kzs _ _ _ _)
theorem klh{N:Nat}{ops:Array Oper}{k:Rec->Fr->AH->Option (AV×AH)}(hk:∀fr h,Hangs (λrec=>k rec fr h)):∀(is:List Nat)(fr:Fr)(h:AH),Hangs (λrec=>opsK P rec N ops is fr h (k rec))
 | [],fr,h=>hk fr h
 | i::is,fr,h=>by
  have put:∀(d:Option Tmp)(v:AV)(fr:Fr)(h:AH),Hangs (λrec=>putT N d v fr λy=>opsK P rec N ops is y h (k rec)):=by
   intro d v fr h;simp only[ki1];split
   ·exact klh hk is _ _
   ·exact qi (klh hk is _ _) (qg _)
  have go:∀(o:Oper)(fr:Fr),Hangs (λrec=>opX P rec o.op o.type fr h λv h'=>putT N o.dst v fr λy=>opsK P rec N ops is y h' (k rec)):=by
   intro o fr
   have:(λrec=>opX P rec o.op o.type fr h λv h'=>putT N o.dst v fr λy=>opsK P rec N ops is y h' (k rec))=(λrec=>(opX P rec o.op o.type fr h pk).bind λp=>putT N o.dst p.1 fr λy=>opsK P rec N ops is y p.2 (k rec)):=by funext rec;exact kkq rec o.op o.type fr h _ _
   rw[this];exact(k3t _ _ _ _).bind λp=>put _ _ _ _
  simp only[opsK];split
  ·exact qg _
  ·rename_i o z;split
   ·exact go o fr
   ·split
    ·exact qg _
    ·split
     ·exact qi (qi (go o _) (put _ _ _ _)) (qi (put _ _ _ _) (go o _))
     ·exact put _ _ _ _
     ·exact qg _
theorem kbfv(rec:Rec)(o:Op)(ty:TypeId)(fr:Fr)(h:AH)(R:Type)(k:AV->AH->Option R):opY P rec o ty fr h k=(opY P rec o ty fr h pk).bind λp=>k p.1 p.2:=by
 unfold opY;split
 ·obtain⟨g,e⟩:=kxv;simp only[e];simp[pk,Option.bind_assoc]
 ·exact kyc rec o ty fr h R k
theorem kbpx(o:Op)(ty:TypeId)(fr:Fr)(h:AH):Hangs (λrec=>opY P rec o ty fr h pk):=by
 unfold opY;split
 ·exact(Hangs.ask _ _).bind λq=>qg _
 ·exact kzs _ _ _ _
theorem kqo{N:Nat}{ops:Array Oper}{k:Rec->Fr->AH->Option (AV×AH)}(hk:∀fr h,Hangs (λrec=>k rec fr h)):∀(is:List Nat)(fr:Fr)(h:AH),Hangs (λrec=>opsY P rec N ops is fr h (k rec))
 | [],fr,h=>hk fr h
 | i::is,fr,h=>by
  have put:∀(d:Option Tmp)(v:AV)(fr:Fr)(h:AH),Hangs (λrec=>putT N d v fr λy=>opsY P rec N ops is y h (k rec)):=by
   intro d v fr h;simp only[ki1];split
   ·exact kqo hk is _ _
   ·exact qi (kqo hk is _ _) (qg _)
  have go:∀(o:Oper)(fr:Fr),Hangs (λrec=>opY P rec o.op o.type fr h λv h'=>putT N o.dst v fr λy=>opsY P rec N ops is y h' (k rec)):=by
   intro o fr
   have:(λrec=>opY P rec o.op o.type fr h λv h'=>putT N o.dst v fr λy=>opsY P rec N ops is y h' (k rec))=(λrec=>(opY P rec o.op o.type fr h pk).bind λp=>putT N o.dst p.1 fr λy=>opsY P rec N ops is y p.2 (k rec)):=by funext rec;exact kbfv rec o.op o.type fr h _ _
   rw[this];exact(kbpx _ _ _ _).bind λp=>put _ _ _ _
  simp only[opsY];split
  ·exact qg _
  ·rename_i o z;split
   ·exact go o fr
   ·split
    ·exact qg _
    ·split
     ·exact qi (qi (go o _) (put _ _ _ _)) (qi (put _ _ _ _) (go o _))
     ·exact put _ _ _ _
     ·exact qg _
theorem kbmo{A:Type}{p:Prop}{f:Rec->Option A}(y:Hangs f):Hangs (λrec=>whenK p (f rec)):=by
 unfold whenK;split
 ·exact y
 ·exact qg _
theorem kvj{A:Type}{m:Nat}{h h':AH}{f:Rec->Option A}(y:Hangs f):∀(ps:List Look),Hangs (λrec=>checkP m h h' (f rec) ps)
 | []=>y
 | p::ps=>qi (kvj y ps) (kbmo (kvj y ps))
theorem krv{N:Nat}{ops:Array Oper}{z F:List Nat}{k:Rec->Fr->AH->Option (AV×AH)}(hk:∀fr h,Hangs (λrec=>k rec fr h)):∀(c:List Nat)(m:Nat)(ps:List Look)(fr:Fr)(h:AH),Hangs (λrec=>opsD P rec N ops z F c m ps fr h (k rec))
 | [],m,ps,fr,h=>qi (hk fr h) (qg _)
 | i::c,m,ps,fr,h=>by
  simp only[opsD];split
  ·refine qi (qi (qi ?_ (qg _)) (qi ?_ (qg _))) (qg _)
   ·exact klh (k:=λrec y h'=>opsD P rec N ops z F c _ _ y h' (k rec)) (λy h'=>krv hk c _ _ y h') _ _ _
   ·exact klh (k:=λrec y h'=>checkP _ h h' (opsD P rec N ops z F c _ ps y h' (k rec)) ps) (λy h'=>kvj (krv hk c _ _ y h') _) _ _ _
  ·exact qg _
theorem kbow{N:Nat}{ops:Array Oper}{y:List Nat}{k:Rec->Fr->AH->Option (AV×AH)}(hk:∀fr h,Hangs (λrec=>k rec fr h))(fr:Fr)(h:AH):Hangs (λrec=>drawK P rec N ops y fr h (k rec)):=qi (krv hk _ _ _ _ _) (qg _)
theorem kbgg{cs:List Operand}{a b:Fr}{x:Rec->Option (AV×AH)}(y:Hangs x):Hangs (λrec=>finK cs a b (x rec)):=by
 unfold finK;split
 ·exact y
 ·unfold whenK;split
  ·exact y
  ·exact qg _
theorem k02{N:Nat}{y:List Nat}{fp:Fr}{k:Rec->Fr->AH->Option (AV×AH)}(hk:∀fr h,Hangs (λrec=>k rec fr h)):∀(is:List Nat)(cs:List Operand)(ops:Array Oper)(ps:List Look)(fr:Fr)(h:AH),Hangs (λrec=>drawR P rec N y fp is cs ops ps fr h (k rec))
 | [],cs,ops,ps,fr,h=>qi (krv (k:=λrec z h'=>finK cs (z.low N) fp (k rec (z.low N) h')) (λfr h=>kbgg (hk _ _)) _ _ _ _ _) (qg _)
 | i::is,cs,ops,ps,fr,h=>by
  simp only[drawR];split
  ·rename_i o F;refine qi ?_ (qg _)
   have:(λrec=>opX P rec o.op o.type fp h λv h'=>drawR P rec N y fp is (o.op.operands.toList++cs) (ops.setIfInBounds i {o with op:=.move (.tmp (N+i))}) (⟨i,h.next,0⟩::ps) ((N+i,v)::fr) h' (k rec))=λrec=>(opX P rec o.op o.type fp h pk).bind λp=>drawR P rec N y fp is (o.op.operands.toList++cs) (ops.setIfInBounds i {o with op:=.move (.tmp (N+i))}) (⟨i,h.next,0⟩::ps) ((N+i,p.1)::fr) p.2 (k rec):=by funext rec;exact kkq rec o.op o.type fp h _ _
   rw[this];exact(k3t _ _ _ _).bind λp=>k02 hk is _ _ _ _ _
  ·exact qg _
theorem kboa{N:Nat}{ops:Array Oper}{y z F:List Nat}{k:Rec->Fr->AH->Option (AV×AH)}(hk:∀fr h,Hangs (λrec=>k rec fr h))(fr:Fr)(h:AH):Hangs (λrec=>drawX P rec N ops y z F fr h (k rec)):=by
 unfold drawX;split
 ·exact kbow hk fr h
 ·rename_i i is;refine qi ?_ (qg _);exact klh (k:=λrec fp _=>drawR P rec N y fp (i::is) [] ops [] fr h (k rec)) (λfp _=>k02 hk _ _ _ _ _ _) _ _ _
theorem knb{K:Keep}{ro:Option Nat}{f:FuncId}{fn:Func}:∀(n:Nat)(fresh:Bool)(todo:List Item)(fr:Fr)(h:AH),Hangs (λrec=>execA P K rec ro f fn n fresh todo fr h)
 | 0,fresh,todo,fr,h=>qg _
 | n+1,fresh,todo,fr,h=>by
  unfold execA
  try simp only[kd4]
  have y:=knb (K:=K) (ro:=ro) (f:=f) (fn:=fn) n;have F:∀(ops:Array Oper)(is G ls:List Nat)(k:List Item)(fr:Fr)(h:AH),Hangs (λrec=>cond (ro.isSome&&kh1 ops) none (drawX P rec fn.ntmps ops is G ls fr h λz h'=>execA P K rec ro f fn n false k z h')):=λops is G ls k fr h=>qi (qg _) (kboa (λz h'=>y false _ z h') _ _);split
  ·exact qg _
  ·exact qg _
  ·exact y _ _ _ _
  ·exact y _ _ _ _
  ·exact y _ _ _ _
  ·exact y _ _ _ _
  ·exact y _ _ _ _
  ·split
   ·exact qi (y _ _ _ _) (y _ _ _ _)
   ·exact qg _
  ·exact y _ _ _ _
  ·exact y _ _ _ _
  ·exact y _ _ _ _
  ·exact y _ _ _ _
  ·split
   ·exact y _ _ _ _
   ·exact qg _
  ·split
   ·exact y _ _ _ _
   ·exact qg _
  ·refine qi ?_ ?_
   ·exact qi (F _ _ _ _ _ _ _) (kqo (λz h'=>y false _ z h') _ _ _)
   ·split
    ·split
     ·exact Hangs.ask _ _
     ·exact Hangs.ask _ _
    ·exact qi (F _ _ _ _ _ _ _) (kqo (λz h'=>y false _ z h') _ _ _)
  ·split
   ·exact(qg _).bind λh'=>y _ _ _ _
   ·exact qg _
  ·split
   ·exact qg _
   ·refine qi ?_ (Hangs.ask _ _);split
    ·exact(kvc _ _ _).bind λq=>(qg _).bind λp=>Hangs.ask _ _
    ·exact qg _
  ·exact qg _
theorem ku5(K:Keep)(key:Key)(h:AH):Hangs (λrec=>stepA P K rec key h):=by
 unfold stepA
 try simp only[kd4]
 split
 ·split
  ·split
   ·exact qi (knb _ _ _ _ _) (qg _)
   ·exact qg _
  ·exact qg _
 ·split
  ·exact knb _ _ _ _ _
  ·exact qg _
 ·split
  ·split
   ·exact qi (knb _ _ _ _ _) (qg _)
   ·exact qg _
  ·exact qg _
 ·split
  ·exact knb _ _ _ _ _
  ·exact qg _
theorem k23(K:Keep):∀(n:Nat){key:Key}{h:AH}{r:AV×AH},runF P K n key h=some r->runF P K (n+1) key h=some r
 | 0,key,h,r,y=>by simp[runF]at y
 | n+1,key,h,r,y=>by obtain⟨l,h1,h2⟩:=ku5 (P:=P) K key h (runF P K n) r y;exact h2 (runF P K (n+1)) λx z=>k23 K n (h1 x z)
theorem kql(K:Keep){n m:Nat}(y:n<=m){key:Key}{h:AH}{r:AV×AH}(z:runF P K n key h=some r):runF P K m key h=some r:=by
 induction y with
 | refl=>exact z
 | step _ ih=>exact k23 K _ ih
theorem k2d{K:Keep}{n:Nat}{key:Key}{h:AH}{r:AV×AH}(z:runF P K n key h=some r):run P K key h=some r:=by
 cases hq:run P K key h with
 | none =>
  unfold run at hq;split at hq
  ·cases hq
  ·rename_i y;exact absurd ⟨n,r,z⟩ y
 | some G =>obtain⟨m,F⟩:=kjc hq;have h1:=kql K (Nat.le_max_left n m) z;have h2:=kql K (Nat.le_max_right n m) F;rw[h1]at h2;exact h2.symm
theorem k0n(K:Keep):∀(l:List Ask),Agree (run P K) l->∃n,Agree (runF P K n) l
 | [],_=>⟨0,λ_ F=>by simp at F⟩
 | x::l,h=>by
  obtain⟨n,G⟩:=k0n K l λy z=>h y (by simp[z]);obtain⟨m,H⟩:=kjc (h x (by simp));refine⟨max n m,λy z=>?_⟩;rcases qb8.1 z with rfl | z
  ·exact kql K (Nat.le_max_right n m) H
  ·exact kql K (Nat.le_max_left n m) (G y z)
theorem kbm0(K:Keep)(key:Key)(h:AH):run P K key h=stepA P K (run P K) key h:=by
 cases hq:stepA P K (run P K) key h with
 | some r =>
  obtain⟨l,h1,h2⟩:=ku5 (P:=P) K key h _ r hq;obtain⟨n,y⟩:=k0n K l h1;exact k2d (n:=n+1) (h2 _ y)
 | none =>
  cases z:run P K key h with
  | none=>rfl
  | some r =>
   obtain⟨n,y⟩:=kjc z;cases n with
   | zero=>simp[runF]at y
   | succ n =>obtain⟨l,h1,h2⟩:=ku5 (P:=P) K key h (runF P K n) r y;have:=h2 (run P K) λx F=>k2d (h1 x F);dsimp only at this;rw[hq]at this;cases this
end Go.Ab
namespace Go.Ab
def newK{R:Type}(h:AH)(b:ABlk)(k:Ref->AH->R):R:=k h.next (h.alloc b)
def newM{R:Type}(h:AH)(b:ABlk)(k:Nat->AH->R):R:=k h.blks.size (h.alloc b)
def kbcr(v:AV)(xs:List AV):Option (Nat×List AV):=match v with
 | .func (.yield l) [] []=>some (l,xs)
 | _=>none
def yieldK{R:Type}(v:AV)(xs:List AV)(a:Nat×List AV->R)(b:R):R:=match kbcr v xs with
 | some p=>a p
 | none=>b
def funcK{R:Type}(v:AV)(k:FuncId->List AV->List AV->Option R):Option R:=match v with
 | .func (.func f) first captured=>k f first captured
 | _=>none
def loopIn:Nat->Code->List Item->Nat×Option (Array Tmp×Code×Code×List Item)
 | r,.seq a b,k=>match loopIn r a (.code b::k)with
  | (y,none)=>loopIn y b k
  | x=>x
 | r,.cond _ a b,k=>match loopIn r a k with
  | (y,none)=>loopIn y b k
  | x=>x
 | r,.block id b,k=>loopIn r b (.inBlock id::k)
 | r,.loop b,k=>loopIn r b (.inLoop b::k)
 | r,.scope b,k=>loopIn r b (.inScope b::k)
 | 0,.rangeFunc _ ps a b,k=>(0,some (ps,a,b,k))
 | r+1,.rangeFunc _ _ _ _,_=>(r,none)
 | r,_,_=>(r,none)
def loopAt(fn:Func)(r:Nat):Array Tmp×Code×Code×List Item :=
 match fn.body with
 | some c=>((loopIn r c []).2).getD (#[],.skip,.skip,[])
 | none=>(#[],.skip,.skip,[])
def krj(fn:Func)(r:Nat)(g:Operand):List Item:=.code (.rangeFunc g (loopAt fn r).1 (loopAt fn r).2.1 (loopAt fn r).2.2.1)::(loopAt fn r).2.2.2
def kdn(fn:Func)(f:FuncId)(r:Nat)(y:LoopState)(z:Option Code)(fr:Fr):ABlk:=.loop y z f fr (loopAt fn r).1 (loopAt fn r).2.1 (loopAt fn r).2.2.1 0
theorem krb{P:Program}{K:Keep}{rec:Rec}{l:Nat}{args:List AV}{h:AH}{y:LoopState}{z:Option Code}{f:FuncId}{fr:Fr}{ps:Array Tmp}{bs bd:Code}{d:Nat}(hb:h.blks[l]?=some (.loop y z f fr ps bs bd d)) :
  stepA P K rec (.round l args) h=match P.funcs[f]? with
   | some fn=>cond (Nat.beq ps.size args.length&&ps.toList.all λt=>Nat.blt t fn.ntmps) (execA P K rec (some l) f fn 4000 false [.code bs,.beginRound,.code bd] (handed ps.toList args fr) h) none
   | none=>none:=by
 simp only[stepA,hb];rfl
def keepOf:List (Nat×Nat×List Nat)->Keep
 | [],_,_=>none
 | (f,r,l)::t,g,q=>cond (Nat.beq f g&&Nat.beq r q) (some l) (keepOf t g q)
def todoIn(r:Nat):Code->List Item->Option (List Item)
 | .region id ops draw,k=>cond (Nat.beq id r) (some (.code (.region id ops draw)::k)) none
 | .seq a b,k=>match todoIn r a (.code b::k)with
  | some t=>some t
  | none=>todoIn r b k
 | .cond _ a b,k=>match todoIn r a k with
  | some t=>some t
  | none=>todoIn r b k
 | .block id b,k=>todoIn r b (.inBlock id::k)
 | .loop b,k=>todoIn r b (.inLoop b::k)
 | .scope b,k=>todoIn r b (.inScope b::k)
 | .rangeFunc _ _ a b,k=>match todoIn r a [.beginRound,.code b]with
  | some t=>some t
  | none=>todoIn r b []
 | _,_=>none
def todoAt(fn:Func)(r:Nat):List Item :=
 match fn.body with
 | some c=>(todoIn r c []).getD []
 | none=>[]
variable{P:Program}
theorem Sim.begin(W:World):Sim P W (λ_=>none) ⟨W.heap,#[]⟩ W:=⟨rfl,rfl,rfl,rfl,qbr _,λ_ _=>rfl,λ_ _ h=>by simp at h,λ_ _ h=>by simp at h,λ_ _ _ h=>by simp at h,λ_ _ _ _ h=>by simp at h⟩
theorem start(y:P.follows .mixedOrders=true){K:Keep}{f:FuncId}{xs:List AV}{b:Bool}{W:World}{h':AH}(z:run P K (.fn f xs) ⟨W.heap,#[]⟩=some (.bool b,h')){args:Array Value}(F:VRels (λ_=>none) xs args.toList) :
  Calls P f args W λe w'=>e=.returned (.bool b)/\Go.RowKit.Below W.heap.size W w':=by
 have:=(run_ok (P:=P) (O:=W) K y).fn z (Sim.begin W) F;rw[Array.toArray_toList]at this;refine this.mono ?_
 rintro e w' ⟨u,rfl,ν,hv,S,-,-⟩
 simp only[VRel]at hv;subst hv;exact⟨rfl,S.os,S.tape,S.output,S.base,S.keep⟩
end Go.Ab
namespace Go.Ab
open Go.WideShapes
variable{P:Program}
def ArgC(P:Program)(h:AH):Nat->TypeId->List AV->Prop
 | 0,_,_=>False
 | n+1,t,cs=>match P.underlying t with
  | some (.int k)=>∃x,cs=[.int k x]/\(Lit.int k x).wf=true
  | some .bool=>∃b,cs=[.bool b]
  | some .string=>∃s,cs=[.str s]/\s.size<=maxLen
  | some (.pointer e)=>cs=[.ptr none]\/∃a es,cs=[.ptr (some (.old a))]/\h.gets (.old a) (P.cellsOf e)=some es/\ArgC P h n e es
  | some (.slice e)=>cs=[.slice none 0 (.is 0)]\/∃a len cap,cs=[.slice (some (.old a)) len (.is cap)]/\len<=cap/\cap<=maxLen/\len*P.bytesOf e<=reachBytes/\
    ∀i,i<len->∃es,h.gets (.old (a.add (i*P.cellsOf e))) (P.cellsOf e)=some es/\ArgC P h n e es
  | some (.struct fs)=>cs.length=P.cellsOf t/\∀f∈fs.toList,ArgC P h n f.type ((cs.drop f.offset).take (P.cellsOf f.type))
  | some (.array m e)=>cs.length=P.cellsOf t/\∀i,i<m->ArgC P h n e ((cs.drop (i*P.cellsOf e)).take (P.cellsOf e))
  | _=>True
def ArgT(P:Program)(h:AH)(t:TypeId)(cs:List AV):Prop:=∃n,ArgC P h n t cs
def tiles(P:Program)(total:Nat):List Field->Nat->Bool
 | [],n=>Nat.beq n total
 | f::fs,n=>Nat.beq f.offset n&&tiles P total fs (n+P.cellsOf f.type)
def argTy(P:Program):Nat->TypeId->Bool
 | 0,_=>false
 | d+1,t=>match P.underlying t with
  | some (.int _) | some .bool | some .string=>true
  | some (.pointer e)=>argTy P d e
  | some (.slice e)=>argTy P d e
  | some (.struct fs)=>fs.toList.all (λf=>argTy P d f.type)&&tiles P (P.cellsOf t) fs.toList 0
  | some (.array m e)=>argTy P d e&&Nat.beq (P.cellsOf t) (m*P.cellsOf e)
  | _=>false
theorem ksp:∀{us:List Value}{vs:List AV},AV.ofCells us=some vs->vs.length=us.length/\∀(i:Nat)(u:Value),us[i]?=some u->∃v,vs[i]?=some v/\AV.ofCell u=some v
 | [],vs,h=>by simp[AV.ofCells]at h;subst h;simp
 | u::us,vs,h=>by
  simp only[AV.ofCells]at h;split at h
  ·rename_i x xs F y;cases h;obtain⟨h1,h2⟩:=ksp y;refine⟨by simp[h1],λi w z=>?_⟩;cases i with
   | zero=>simp at z;subst z;exact⟨x,by simp,F⟩
   | succ i=>simpa using h2 i w (by simpa using z)
  ·cases h
theorem ksf:∀{us:List Value}{vs:List AV}(n:Nat),AV.ofCells us=some vs->AV.ofCells (us.take n)=some (vs.take n)
 | _,_,0,h=>by simp[AV.ofCells]
 | [],vs,n+1,h=>by simp[AV.ofCells]at h;subst h;simp[AV.ofCells]
 | u::us,vs,n+1,h=>by
  simp only[AV.ofCells]at h;split at h
  ·rename_i x xs z y;cases h;simp[AV.ofCells,z,ksf n y]
  ·cases h
theorem kuc:∀{us:List Value}{vs:List AV}(n:Nat),AV.ofCells us=some vs->AV.ofCells (us.drop n)=some (vs.drop n)
 | _,_,0,h=>by simpa using h
 | [],vs,n+1,h=>by simp[AV.ofCells]at h;subst h;simp[AV.ofCells]
 | u::us,vs,n+1,h=>by
  simp only[AV.ofCells]at h;split at h
  ·rename_i x xs z y;cases h
   simpa using kuc n y
  ·cases h
theorem cell_old{w:World}{a:Addr}{u:Value}(h:w.cell? a=some u):AH.cell ⟨w.heap,#[]⟩ (.old a)=AV.ofCell u:=by
 simp only[World.cell?]at h;simp only[AH.cell];split at h
 ·rename_i c e k hb;rw[hb];dsimp only;split at h
  ·cases h
  ·rename_i hs;rw[if_neg hs,h];rfl
 ·cases h
theorem k5v{w:World}:∀(n:Nat){r:Ref}{us:List Value}{vs:List AV},us.length=n->(∀(i:Nat)(u:Value),us[i]?=some u->AH.cell ⟨w.heap,#[]⟩ (r.add i)=AV.ofCell u)->AV.ofCells us=some vs->AH.gets ⟨w.heap,#[]⟩ r n=some vs
 | 0,r,us,vs,y,z,hv=>by
  have:us=[]:=List.length_eq_zero_iff.1 y;subst this;simp[AV.ofCells]at hv;subst hv;rfl
 | n+1,r,u::us,vs,y,z,hv=>by
  simp only[AV.ofCells]at hv;split at hv
  ·rename_i x xs H F;cases hv;have h0:=z 0 u (by simp);have I:r.add 0=r:=by cases r<;>simp[Ref.add,Addr.add]
   rw[I]at h0
   have K:∀i,(r.add 1).add i=r.add (i+1):=by
    intro i;cases r with
    | old a =>
     simp only[Ref.add,Addr.add];by_cases G:i=0
     ·subst G;simp
     ·simp[G,Nat.add_assoc,Nat.add_comm 1 i]
    | new j o=>simp only[Ref.add];congr 1;omega
   have:=k5v n (r:=r.add 1) (us:=us) (by simpa using y) (λi Q U=>by rw[K];exact z (i+1) Q (by simpa using U)) F
   simp only[AH.gets,h0,H,qbv,this,Option.map_some]
  ·cases hv
theorem kbem{w:World}{base n:Nat}{a:Addr}{cs:List Value}(h:w.cells? base a n=some cs):cs.length=n/\∀(i:Nat)(u:Value),cs[i]?=some u->w.cell? (a.add i)=some u:=by
 unfold World.cells? at h;split at h
 ·have z:=mapM_some_length h;simp at z;refine⟨z,λi u y=>?_⟩
  have F:i<n:=by
   rcases Nat.lt_or_ge i n with h' | h'
   ·exact h'
   ·rw[List.getElem?_eq_none (by omega)]at y;cases y
  have:=mapM_some_get h i i (by simp[F]);rw[this,y]
 ·cases h
theorem k1e{w:World}{base n:Nat}{a:Addr}{cs:List Value}{vs:List AV}(h:w.cells? base a n=some cs)(hv:AV.ofCells cs=some vs):AH.gets ⟨w.heap,#[]⟩ (.old a) n=some vs:=by obtain⟨h1,h2⟩:=kbem h;exact k5v n h1 (λi u y=>cell_old (h2 i u y)) hv
theorem kz5{us xs:List Value}{vs ys:List AV}(h:AV.ofCells us=some vs)(k:AV.ofCells xs=some ys):AV.ofCells (us++xs)=some (vs++ys):=by
 induction us generalizing vs with
 | nil=>simp[AV.ofCells]at h;subst h;simpa using k
 | cons u us ih =>
  simp only[AV.ofCells]at h;split at h
  ·rename_i a as y has;cases h;simp[AV.ofCells,y,ih has]
  ·cases h
theorem k58{P:Program}{cs:List Value}{total:Nat}(F:cs.length=total):∀(z:List Field)(n:Nat),tiles P total z n=true->(∀f∈z,∃vs,AV.ofCells ((cs.drop f.offset).take (P.cellsOf f.type))=some vs)->∃vs,AV.ofCells (cs.drop n)=some vs
 | [],n,y,h=>by
  simp only[tiles]at y;have:=Nat.eq_of_beq_eq_true y;exact⟨[],by rw[List.drop_of_length_le (by omega)];rfl⟩
 | f::z,n,y,h=>by simp only[tiles,qcb]at y;have h1:=Nat.eq_of_beq_eq_true y.1;obtain⟨vs,hv⟩:=h f (by simp);obtain⟨G,H⟩:=k58 F z _ y.2 λg I=>h g (by simp[I]);refine⟨vs++G,?_⟩;rw[h1]at hv;rw[<- List.take_append_drop (P.cellsOf f.type) (cs.drop n),List.drop_drop];exact kz5 hv H
theorem kzy{cs:List Value}{c:Nat}:∀(m n:Nat),cs.length=(n+m)*c->(∀i,n<=i->i<n+m->∃vs,AV.ofCells ((cs.drop (i*c)).take c)=some vs)->∃vs,AV.ofCells (cs.drop (n*c))=some vs
 | 0,n,y,h=>⟨[],by rw[List.drop_of_length_le (by simp at y;omega)];rfl⟩
 | m+1,n,y,h=>by obtain⟨vs,hv⟩:=h n (qbr _) (by omega);obtain⟨F,z⟩:=kzy m (n+1) (by rw[y];congr 1;omega) λi h1 h2=>h i (by omega) (by omega);refine⟨vs++F,?_⟩;rw[<- List.take_append_drop c (cs.drop (n*c)),List.drop_drop];rw[Nat.succ_mul]at z;exact kz5 hv z
theorem kto{H:Type}{e:TypeId}{d:DataW H}{n:Nat}(y:n∈d.weights P e):∀{l:List (DataW H)},d∈l->n∈DataW.weightsAll P e l
 | x::l,h=>by
  simp only[DataW.weightsAll];rcases qb8.1 h with rfl | h
  ·exact qb7.2 (.inl y)
  ·exact qb7.2 (.inr (kto y h))
theorem kna{H:Type}{aa:TypeId×Value->H}{w:World}{base:Nat}{Q:Nat->Bool}{W:Bool}:∀(n d:Nat){t:TypeId}{cs:List Value}{x:DataW H×List MemPlace},
  argTy P d t=true->DataW.trod aa P w base Q W n t cs=some x->(∀m∈DataW.weights P t x.1,m<=reachBytes)->∃vs,AV.ofCells cs=some vs/\ArgC P ⟨w.heap,#[]⟩ n t vs
 | 0,d,t,cs,x,I,h,hw=>by simp[DataW.trod]at h
 | n+1,0,t,cs,x,I,h,hw=>by simp[argTy]at I
 | n+1,d+1,t,cs,x,I,h,hw=>by
  simp only[argTy]at I;simp only[ArgC];split at I
  ·rename_i k F
   have:∃z,cs=[.int k z]/\(Lit.int k z).wf=true:=by unfold DataW.trod at h;rw[F]at h;split at h<;>simp_all
   obtain⟨z,rfl,hz⟩:=this;exact⟨[.int k z],rfl,z,rfl,hz⟩
  ·rename_i F
   have:∃z,cs=[.bool z]:=by unfold DataW.trod at h;rw[F]at h;split at h<;>simp_all
   obtain⟨z,rfl⟩:=this;exact⟨[.bool z],rfl,z,rfl⟩
  ·rename_i F
   have:∃z,cs=[.string z]/\z.size<=maxLen:=by unfold DataW.trod at h;rw[F]at h;split at h<;>simp_all
   obtain⟨z,rfl,hz⟩:=this;exact⟨[.str z],rfl,z,rfl,hz⟩
  ·rename_i e F;rcases DataW.trod_pointer F h with⟨rfl,-⟩ | ⟨a,cs',y,m,hm,rfl,rfl,hc,U⟩
   ·exact⟨[.ptr none],rfl,.inl rfl⟩
   ·cases hm;obtain⟨es,h1,h2⟩:=kna n d I U λq hq=>hw q (by simp only[DataW.weights,F];exact hq);exact⟨[.ptr (some (.old a))],rfl,.inr ⟨a,es,rfl,k1e hc h1,h2⟩⟩
  ·rename_i e F;rcases DataW.trod_slice F h with⟨rfl,-⟩ | ⟨a,len,cap,G,rest,m,hm,rfl,rfl,-,Z,hc,ae,V,-,-⟩
   ·exact⟨[.slice none 0 (.is 0)],rfl,.inl rfl⟩
   ·cases hm;refine⟨[.slice (some (.old a)) len (.is cap)],by simp[AV.ofCells,AV.ofCell,Nat.ble_eq_true_of_le Z],.inr ⟨a,len,cap,rfl,Z,hc,?_,λi ab=>?_⟩⟩
    ·have:=hw ((G.length+rest.length)*P.bytesOf e) (by simp only[DataW.weights,F,qb3];exact List.mem_cons_self);exact qbs (Nat.mul_le_mul_right _ (by omega)) this
    have h1:=V i ab;have:∃y,G[i]?=some y:=⟨G[i]'(by omega),by simp⟩;obtain⟨y,U⟩:=this;rw[U,qbw]at h1;obtain⟨cs',h2,h3⟩:=h1
    obtain⟨es,h4,h5⟩:=kna n d I h3 λq hq=>hw q (by simp only[DataW.weights,F];exact List.mem_cons_of_mem _ (qb7.2 (.inl (kto hq (List.mem_map.2 ⟨y,List.mem_of_getElem? U,rfl⟩)))))
    exact⟨es,k1e h2 h4,h5⟩
  ·rename_i fs F;simp only[qcb,List.all_eq_true]at I;obtain⟨xs,m,hm,rfl,Z,hx,hf⟩:=DataW.trod_struct F h;cases hm
   have key:∀f∈fs.toList,∃vs,AV.ofCells ((cs.drop f.offset).take (P.cellsOf f.type))=some vs/\ArgC P ⟨w.heap,#[]⟩ n f.type vs:=by intro f K;obtain⟨i,V,rfl⟩:=List.getElem_of_mem K;have h1:=hf i fs.toList[i] (by simp);have:∃y,xs[i]?=some y:=⟨xs[i]'(by simp at V;omega),by simp⟩;obtain⟨y,U⟩:=this;rw[U]at h1;refine kna n d (I.1 _ K) h1 λq hq=>hw q ?_;simp only[DataW.weights,F];exact DataW.weights_mem_each (j:=i) (by simp at V;simp[V]) (by simp[U]) q hq
   obtain⟨vs,hv⟩:=k58 (P:=P) Z fs.toList 0 I.2 λf K=>(key f K).imp λ_ h=>h.1;rw[List.drop_zero]at hv;refine⟨vs,hv,by rw[(ksp hv).1,Z],λf K=>?_⟩;obtain⟨ws,h1,h2⟩:=key f K;have:=ksf (P.cellsOf f.type) (kuc f.offset hv);rw[h1]at this;cases this;exact h2
  ·rename_i m e F;simp only[qcb]at I;have ac:=Nat.eq_of_beq_eq_true I.2;unfold DataW.trod at h;rw[F]at h
   have h:(if cs.length=P.cellsOf t then((List.range m).mapM λi=>DataW.trod aa P w base Q W n e ((cs.drop (i*P.cellsOf e)).take (P.cellsOf e))).map λxs=>((.agg (xs.map (·.1)),xs.flatMap (·.2)):DataW H×List MemPlace)else none)=some x:=by split at h<;>simp_all
   split at h
   ·rename_i Z;simp only[Option.map_eq_some_iff]at h;obtain⟨xs,h1,rfl⟩:=h;have ad:=mapM_some_length h1;simp at ad
    have key:∀i,i<m->∃vs,AV.ofCells ((cs.drop (i*P.cellsOf e)).take (P.cellsOf e))=some vs/\ArgC P ⟨w.heap,#[]⟩ n e vs:=by intro i V;have h2:=mapM_some_get h1 i i (by simp[V]);have:∃y,xs[i]?=some y:=⟨xs[i]'(by omega),by simp⟩;obtain⟨y,U⟩:=this;rw[U]at h2;refine kna n d I.1 h2 λq hq=>hw q ?_;simp only[DataW.weights,F];exact kto hq (List.mem_map.2 ⟨y,List.mem_of_getElem? U,rfl⟩)
    obtain⟨vs,hv⟩:=kzy (c:=P.cellsOf e) m 0 (by rw[Z,ac,Nat.zero_add]) λi _ V=>(key i (by omega)).imp λ_ h=>h.1;rw[Nat.zero_mul,List.drop_zero]at hv;refine⟨vs,hv,by rw[(ksp hv).1,Z],λi V=>?_⟩;obtain⟨ws,h2,h3⟩:=key i V;have:=ksf (P.cellsOf e) (kuc (i*P.cellsOf e) hv);rw[h2]at this;cases this;exact h3
   ·cases h
  ·cases I
def ArgV(P:Program)(h:AH)(t:TypeId)(x:AV):Prop :=
 match P.underlying t with
 | some (.struct _) | some (.array _ _)=>∃cs,x=.agg cs/\ArgT P h t cs
 | _=>ArgT P h t [x]
theorem arg_open{H:Type}{V:TypeId×Value->H}{W:World}{base I:Nat}{K:Nat->Bool}{Q:Bool}{t:TypeId}{v:Value}{d:DataW H}{ps:List MemPlace}{Z:Reach}(d':Nat)(U:argTy P (d'+1) t=true)
  (hv:Value.okWide P W Z base t v) (h:DataW.Trod V P W I K Q t v d ps) (hw:∀m∈d.weights P t,m<=reachBytes):∃x,VRel (λ_=>none) x v/\ArgV P ⟨W.heap,#[]⟩ t x:=by
 obtain⟨n,hn⟩:=h;obtain⟨vs,h1,h2⟩:=kna n (d'+1) U hn hw
 have agg:∀cs:Array Value,v=.agg cs->∃x,VRel (λ_=>none) x v/\∃cs',x=.agg cs'/\ArgT P ⟨W.heap,#[]⟩ t cs':=by
  rintro cs rfl
  obtain⟨h3,h4⟩:=VRels.ofCells (μ:=λ_=>none) h1;exact⟨.agg vs,by simp only[VRel];exact⟨cs,rfl,h3,h4⟩,vs,rfl,n,h2⟩
 have cell:∀u,v.cells.toList=[u]->v=u->∃x,VRel (λ_=>none) x v/\ArgT P ⟨W.heap,#[]⟩ t [x]:=by
  rintro u hc rfl
  rw[hc]at h1;simp only[AV.ofCells]at h1;split at h1
  ·rename_i x xs hx aa;cases h1;cases aa;exact⟨x,(VRel.ofCell hx).1,n,h2⟩
  ·cases h1
 have F:(∀cs,v≠.agg cs)->∃x,VRel (λ_=>none) x v/\ArgT P ⟨W.heap,#[]⟩ t [x]:=by intro ab;refine cell v ?_ rfl;cases v<;>first | rfl | exact absurd rfl (ab _)
 simp only[argTy]at U;unfold ArgV;split at U
 ·rename_i k G;simp only[G];obtain⟨z,rfl,-⟩:=okWide_int G hv;exact F λcs y=>by cases y
 ·rename_i G;simp only[G];obtain⟨z,rfl⟩:=okWide_bool G hv;exact F λcs y=>by cases y
 ·rename_i G;simp only[G];obtain⟨z,rfl⟩:=okWide_string G hv;exact F λcs y=>by cases y
 ·rename_i e G;simp only[G];obtain⟨z,rfl⟩:=okWide_pointer G hv;exact F λcs y=>by cases y
 ·rename_i e G;simp only[G];obtain⟨z,l,c,rfl⟩:=okWide_slice G hv;exact F λcs y=>by cases y
 ·rename_i fs G;simp only[G];obtain⟨cs,y,-⟩:=okWide_struct G hv;exact agg cs y
 ·rename_i m e G;simp only[G];unfold Value.okWide at hv;rw[G]at hv;obtain⟨cs,y,-⟩:=hv;exact agg cs y
 ·cases U
theorem ArgT.int{h:AH}{t:TypeId}{k:IntKind}{cs:List AV}(y:P.underlying t=some (.int k))(a:ArgT P h t cs):∃x,cs=[.int k x]/\(Lit.int k x).wf=true:=by
 obtain⟨n,a⟩:=a;cases n with
 | zero=>simp[ArgC]at a
 | succ n=>simpa[ArgC,y]using a
theorem ArgT.slice{h:AH}{t e:TypeId}{cs:List AV}(y:P.underlying t=some (.slice e))(a:ArgT P h t cs):cs=[.slice none 0 (.is 0)]\/∃a len cap,cs=[.slice (some (.old a)) len (.is cap)]/\len<=cap/\cap<=maxLen/\
    ∀i,i<len->∃es,h.gets (.old (a.add (i*P.cellsOf e))) (P.cellsOf e)=some es/\ArgT P h e es:=by
 obtain⟨n,a⟩:=a;cases n with
 | zero=>simp[ArgC]at a
 | succ n =>
  simp only[ArgC,y]at a;rcases a with a | ⟨a,len,cap,h1,h2,z,-,F⟩
  ·exact .inl a
  ·exact .inr ⟨a,len,cap,h1,h2,z,λi G=>(F i G).imp λes h=>⟨h.1,n,h.2⟩⟩
theorem ArgT.struct{h:AH}{t:TypeId}{y:Array Field}{cs:List AV}(z:P.underlying t=some (.struct y))(a:ArgT P h t cs):cs.length=P.cellsOf t/\∀f∈y.toList,ArgT P h f.type ((cs.drop f.offset).take (P.cellsOf f.type)):=by
 obtain⟨n,a⟩:=a;cases n with
 | zero=>simp[ArgC]at a
 | succ n =>simp only[ArgC,z]at a;exact⟨a.1,λf F=>⟨n,a.2 f F⟩⟩
theorem ArgT.array{h:AH}{t e:TypeId}{m:Nat}{cs:List AV}(y:P.underlying t=some (.array m e))(a:ArgT P h t cs):cs.length=P.cellsOf t/\∀i,i<m->ArgT P h e ((cs.drop (i*P.cellsOf e)).take (P.cellsOf e)):=by
 obtain⟨n,a⟩:=a;cases n with
 | zero=>simp[ArgC]at a
 | succ n =>simp only[ArgC,y]at a;exact⟨a.1,λi z=>⟨n,a.2 i z⟩⟩
end Go.Ab
namespace Go.Ab
def AH.push(h:AH)(b:ABlk):AH:=h.alloc b
@[simp] theorem kcn{R:Type}(h:AH)(b:ABlk)(k:Ref->AH->R):newK h b k=k (.new h.blks.size 0) (h.push b):=rfl
@[simp] theorem kc(k:IntKind)(n:Int):AV.asInt k (.int k n)=some n:=by simp[AV.asInt]
abbrev qcr{k:IntKind}{n:Int}:=kc k n
@[simp] theorem kc9(b:Bool):AV.asBool (.bool b)=some b:=rfl
@[simp] theorem asStr_str(s:ByteArray):AV.asStr (.str s)=some s:=rfl
@[simp] theorem asPtr_ptr(r:Option Ref):AV.asPtr (.ptr r)=some r:=rfl
@[simp] theorem asMap_map(r:Option Nat):AV.asMap (.map r)=some r:=rfl
@[simp] theorem asSl_slice(r:Option Ref)(n:Nat)(c:Cap):AV.asSl (.slice r n c)=some ⟨r,n,c⟩:=rfl
@[simp] theorem asSl_v(s:Sl):AV.asSl s.v=some s:=rfl
abbrev qcq{s:Sl}:=asSl_v s
@[simp] theorem asAgg_agg(cs:List AV):AV.asAgg (.agg cs)=some cs:=rfl
@[simp] theorem asIface_iface(t:TypeId)(v:AV):AV.asIface (.iface t v)=some (t,v):=rfl
@[simp] theorem asTup0_tup:AV.asTup0 (.tup [])=some ():=rfl
@[simp] theorem kgf(a b:AV):AV.asTup2 (.tup [a,b])=some (a,b):=rfl
@[simp] theorem kbiu(a b c:AV):AV.asTup3 (.tup [a,b,c])=some (a,b,c):=rfl
@[simp] theorem asTup4_tup(a b c d:AV):AV.asTup4 (.tup [a,b,c,d])=some (a,b,c,d):=rfl
attribute [simp] Ref.add_zero
@[simp] theorem Ref.add_new(i o n:Nat):(Ref.new i o).add n=.new i (o+n):=rfl
abbrev qj:=@Ref.add_new
@[simp] theorem AH.push_size(h:AH)(b:ABlk):(h.push b).blks.size=h.blks.size+1:=by simp[AH.push,AH.alloc]
def Ref.inn(h:AH):Ref->Prop
 | .old _=>True
 | .new i _=>i<h.blks.size
structure Grow(h h':AH):Prop where
 old:h'.old=h.old
 size:h.blks.size<=h'.blks.size
 blk:∀i,i<h.blks.size->h'.blks[i]?=h.blks[i]?
theorem Grow.refl(h:AH):Grow h h:=⟨rfl,qbr _,λ_ _=>rfl⟩
abbrev qk:=@Grow.refl
theorem Grow.trans{a b c:AH}(x:Grow a b)(y:Grow b c):Grow a c:=⟨y.old.trans x.old,qbs x.size y.size,λi z=>(y.blk i (qbt z x.size)).trans (x.blk i z)⟩
theorem Grow.push(h:AH)(b:ABlk):Grow h (h.push b):=⟨rfl,by simp,λi y=>by simp[AH.push,AH.alloc,Array.getElem?_push,Nat.ne_of_lt y]⟩
abbrev ql:=@Grow.push
theorem Grow.cell{h h':AH}(g:Grow h h'){r:Ref}(y:r.inn h):h'.cell r=h.cell r:=by
 cases r with
 | old a=>simp only[AH.cell,g.old]
 | new i o=>simp only[AH.cell,g.blk i y]
theorem AH.cell_inn{h:AH}{r:Ref}{v:AV}(y:h.cell r=some v):r.inn h:=by
 cases r with
 | old a=>trivial
 | new i o =>
  simp only[AH.cell]at y;rcases Nat.lt_or_ge i h.blks.size with z | F
  ·exact z
  ·rw[Array.getElem?_eq_none F]at y;cases y
theorem Grow.cell_some{h h':AH}(g:Grow h h'){r:Ref}{v:AV}(y:h.cell r=some v):h'.cell r=some v:=by rw[g.cell (AH.cell_inn y),y]
@[simp] theorem AH.cell_push(h:AH)(cs:List AV)(e:TypeId)(o:Nat):(h.push (.cells cs e)).cell (.new h.blks.size o)=cs[o]?:=by simp[AH.cell,AH.push,AH.alloc]
@[simp] theorem keq(r:Ref)(len:Nat)(i:Int)(size:Nat)(h0:0<=i)(h1:i<(len:Int)):idx (some r) len i size=some (r.add (i.toNat*size)):=by simp[idx,h0,h1]
theorem kci{A:Type}{b:Bool}{x y z:A}(h1:b=true->x=z)(h2:b=false->y=z):cond b x y=z:=by
 cases b
 ·exact h2 rfl
 ·exact h1 rfl
theorem wrap64{n:Int}(h1:-9223372036854775808<=n)(h2:n<=9223372036854775807):IntKind.wrap .i64 n=n:=by simp[IntKind.wrap,IntKind.bits,IntKind.signed];omega
theorem wrapU(n:Int):IntKind.wrap .u64 n=n%18446744073709551616:=by simp[IntKind.wrap,IntKind.bits,IntKind.signed]
theorem k0u(a b:Int):imin a b=min a b:=by unfold imin;by_cases h:b<a<;>simp[h]<;>omega
theorem kbmy(a b:Int):imax a b=max a b:=by unfold imax;by_cases h:a<b<;>simp[h]<;>omega
end Go.Ab
namespace Go.Ab
def AH.upd(h:AH)(i:Nat)(cs:List AV)(e:TypeId):AH:={h with blks:=h.blks.setIfInBounds i (.cells cs e)}
@[reducible] def AH.has(h:AH)(i:Nat)(cs:List AV)(e:TypeId):Prop:=h.blks[i]?=some (.cells cs e)
theorem AH.has.lt{h:AH}{i:Nat}{cs:List AV}{e:TypeId}(b:h.has i cs e):i<h.blks.size:=(qcf.1 b).1
theorem AH.has.cell{h:AH}{i:Nat}{cs:List AV}{e:TypeId}(b:h.has i cs e)(o:Nat):h.cell (.new i o)=cs[o]?:=by simp only[AH.cell,show h.blks[i]?=_ from b]
theorem AH.has.inn{h:AH}{i:Nat}{cs:List AV}{e:TypeId}(b:h.has i cs e)(o:Nat):(Ref.new i o).inn h:=b.lt
theorem AH.has_push(h:AH)(cs:List AV)(e:TypeId):(h.push (.cells cs e)).has h.blks.size cs e:=by simp[AH.has,AH.push,AH.alloc]
abbrev qm:=@AH.has_push
theorem Grow.has{h h':AH}(g:Grow h h'){i:Nat}{cs:List AV}{e:TypeId}(b:h.has i cs e):h'.has i cs e:=(g.blk i b.lt).trans b
theorem AH.has_upd{h:AH}{i:Nat}{cs:List AV}{e:TypeId}(b:h.has i cs e)(cs':List AV)(y:TypeId):(h.upd i cs' y).has i cs' y:=by simp[AH.has,AH.upd,b.lt]
abbrev qo:=@AH.has_upd
theorem AH.cell_upd{h:AH}{i:Nat}{cs:List AV}{e:TypeId}(b:h.has i cs e)(cs':List AV)(y:TypeId)(o:Nat):(h.upd i cs' y).cell (.new i o)=cs'[o]?:=(qo b cs' y).cell o
theorem Grow.upd{h h':AH}(g:Grow h h'){i:Nat}(z:h.blks.size<=i)(cs:List AV)(e:TypeId):Grow h (h'.upd i cs e) :=
 ⟨g.old,by simpa[AH.upd]using g.size,λj y=>by show(h'.blks.setIfInBounds i (.cells cs e))[j]?=_;rw[Array.getElem?_setIfInBounds_ne (by omega)];exact g.blk j y⟩
theorem AH.has.put{h:AH}{i:Nat}{cs:List AV}{e:TypeId}(b:h.has i cs e){o:Nat}{v:AV}(y:o<cs.length):h.put (.new i o) v=some (h.upd i (cs.set o v) e):=by simp only[AH.put,show h.blks[i]?=_ from b,if_pos y,AH.upd]
theorem AH.upd_upd(h:AH)(i:Nat)(cs cs':List AV)(e y:TypeId):(h.upd i cs e).upd i cs' y=h.upd i cs' y:=by simp[AH.upd]
theorem AH.has.puts{h:AH}{i:Nat}{e:TypeId}:∀{vs:List AV}{o:Nat}{cs:List AV},h.has i cs e->o+vs.length<=cs.length->h.puts (.new i o) vs=some (h.upd i (cs.take o++vs++cs.drop (o+vs.length)) e)
 | [],o,cs,b,_=>by
  simp only[AH.puts,List.append_nil,List.length_nil,Nat.add_zero,List.take_append_drop,qcd];have hb:h.blks[i]?=some (.cells cs e):=b
  have:h.blks.setIfInBounds i (.cells cs e)=h.blks:=by
   apply Array.ext
   ·simp
   ·intro j h1 h2;rw[Array.getElem_setIfInBounds (by simpa using h1)];split
    ·rename_i y;subst y;have:=Array.getElem?_eq_getElem h2;rw[this]at hb;exact(Option.some.inj hb).symm
    ·rfl
  cases h;simp only[AH.upd]at this|-;rw[this]
 | v::vs,o,cs,b,F=>by
  simp only[qb4]at F;simp only[AH.puts];rw[b.put (by omega),qbv,qj,AH.has.puts (qo b _ e) (by simp;omega),AH.upd_upd]
  have G:(cs.set o v).take (o+1)=cs.take o++[v]:=by
   apply List.ext_getElem?;intro i;rw[List.getElem?_take];by_cases H:i<o
   ·rw[if_pos (by omega),List.getElem?_set_ne (by omega),List.getElem?_append_left (by simp;omega),List.getElem?_take,if_pos H]
   ·by_cases z:i=o
    ·subst z;rw[if_pos (by omega),List.getElem?_set_self (by omega),List.getElem?_append_right (by simp;omega)];simp[Nat.min_eq_left (show i<=cs.length by omega)]
    ·rw[if_neg (by omega),List.getElem?_eq_none (by simp;omega)]
  have I:(cs.set o v).drop (o+1+vs.length)=cs.drop (o+(vs.length+1)):=by rw[List.drop_set_of_lt (by omega)];congr 1;omega
  rw[G,I];simp
theorem AH.has.puts_all{h:AH}{i:Nat}{e:TypeId}{cs vs:List AV}(b:h.has i cs e)(y:vs.length=cs.length):h.puts (.new i 0) vs=some (h.upd i vs e):=by rw[b.puts (by omega)];simp[y]
theorem Grow.same{h h':AH}(g:Grow h h'){i:Nat}{cs:List AV}{e:TypeId}(b:h.has i cs e)(o n:Nat):SameAt h h' (.new i o) n:=⟨λj _=>by rw[qj];exact g.cell (b.inn _),λ_=>g.blk i b.lt⟩
@[simp] theorem kwz{R:Type}{p:Prop}{x:Option R}(hp:p):whenK p x=x:=by unfold whenK;rw[if_pos hp]
def Sl.fit(s:Sl)(n:Nat):Prop:=match s.cap with
 | .is c=>s.len<=c
 | .opn z=>z=n
structure Cells(h:AH)(s:Sl)(n:Nat)(flat:List AV):Prop where
 fit:s.fit n
 len:s.len*n=flat.length
 get:∀(i:Nat)(v:AV),flat[i]?=some v->∃r,s.ref=some r/\h.cell (r.add i)=some v
theorem Cells.grow{h h':AH}(g:Grow h h'){s:Sl}{n:Nat}{flat:List AV}(c:Cells h s n flat):Cells h' s n flat :=
 ⟨c.fit,c.len,λi v hv=>by obtain⟨r,y,z⟩:=c.get i v hv;exact⟨r,y,g.cell_some z⟩⟩
theorem Cells.nil(h:AH)(n:Nat):Cells h ⟨none,0,.is 0⟩ n []:=⟨qbr _,by simp,λi v hv=>by simp at hv⟩
theorem Cells.of_has{h:AH}{i n m:Nat}{cs:List AV}{e:TypeId}(b:h.has i cs e)(y:m*n=cs.length):Cells h ⟨some (.new i 0),m,.is m⟩ n cs:=⟨qbr _,y,λj v hv=>⟨_,rfl,by rw[qj,Nat.zero_add,b.cell];exact hv⟩⟩
abbrev qp:=@Cells.of_has
theorem Cells.gets{h:AH}{s:Sl}{n:Nat}{flat:List AV}(c:Cells h s n flat):h.getsO s.ref (s.len*n)=some flat:=by
 rw[c.len];unfold AH.getsO;cases F:s.ref with
 | none =>
  have:flat=[]:=by
   cases flat with
   | nil=>rfl
   | cons v vs =>obtain⟨r,z,_⟩:=c.get 0 v rfl;rw[F]at z;cases z
  rw[this]
 | some r =>
  have key:∀(vs:List AV)(r:Ref),(∀i v,vs[i]?=some v->h.cell (r.add i)=some v)->h.gets r vs.length=some vs:=by
   intro vs
   induction vs with
   | nil=>intro r _;rfl
   | cons v vs ih =>
    intro r y;have h0:=y 0 v rfl;rw[Ref.add_zero]at h0
    have h1:=ih (r.add 1) λi x G=>by rw[Ref.add_add,Nat.add_comm];exact y (i+1) x (by simpa using G)
    simp only[qb4,AH.gets,h0,qbv,h1,Option.map_some]
  exact key flat r λi v hv=>by obtain⟨I,z,H⟩:=c.get i v hv;rw[F]at z;cases z;exact H
def Own(h:AH)(s:Sl):Prop:=∀r,s.ref=some r->∃i o,r=.new i o/\h.blks.size<=i
theorem AH.cell_upd_ne{h:AH}{i:Nat}{cs:List AV}{e:TypeId}{r:Ref}(z:∀o,r≠.new i o):(h.upd i cs e).cell r=h.cell r:=by
 cases r with
 | old a=>rfl
 | new j o =>have:i≠j:=λy=>z o (by rw[y]);simp only[AH.cell,AH.upd];rw[Array.getElem?_setIfInBounds_ne this]
theorem Cells.upd{h h0:AH}{s:Sl}{n:Nat}{flat:List AV}(c:Cells h s n flat)(z:Own h0 s){i:Nat}(H:i<h0.blks.size)(cs:List AV)(e:TypeId):Cells (h.upd i cs e) s n flat :=
 ⟨c.fit,c.len,λk v hv=>by
  obtain⟨r,y,F⟩:=c.get k v hv;refine⟨r,y,?_⟩;obtain⟨j,o,rfl,I⟩:=z r y;rw[AH.cell_upd_ne]
  ·exact F
  ·intro K G;simp only[qj,Ref.new.injEq]at G;omega⟩
theorem Own.of_le{h h0:AH}(g:Grow h h0){s:Sl}(o:Own h0 s):Own h s:=λr y=>by obtain⟨i,k,h1,h2⟩:=o r y;exact⟨i,k,h1,qbs g.size h2⟩
theorem Own.nil(h:AH){n:Nat}{c:Cap}:Own h ⟨none,n,c⟩:=λr y=>by cases y
abbrev qr:=@Own.nil
theorem Cells.cut{h:AH}{s:Sl}{m:Nat}{flat:List AV}(c:Cells h s m flat){l n:Nat}(h1:l<=n)(h2:n<=s.len):∃s',cutSl s (l:Int) (n:Int) m=some s'/\s'.len=n-l/\
  Cells h s' m ((flat.drop (l*m)).take ((n-l)*m))/\∀h0,Own h0 s->Own h0 s':=by
 have hm:n*m<=s.len*m:=Nat.mul_le_mul_right m h2;have V:l*m<=n*m:=Nat.mul_le_mul_right m h1;have Q:(n-l)*m=n*m-l*m:=Nat.sub_mul _ _ _
 have cell:∀(ref:Option Ref),(∀r,s.ref=some r->n≠l->ref=some (r.add (l*m)))->∀(i:Nat)(v:AV),((flat.drop (l*m)).take ((n-l)*m))[i]?=some v->∃r,ref=some r/\h.cell (r.add i)=some v:=by
  intro ref y i v hv;rw[List.getElem?_take]at hv;split at hv
  ·rename_i W;rw[List.getElem?_drop]at hv;obtain⟨r,H,Z⟩:=c.get _ v hv
   have F:n≠l:=by
    rintro rfl
    simp at W
   exact⟨_,y r H F,by rw[Ref.add_add];exact Z⟩
  ·cases hv
 have len:((flat.drop (l*m)).take ((n-l)*m)).length=(n-l)*m:=by rw[qci,qch,<- c.len];omega
 have own:∀(ref:Option Ref)(k:Nat)(G:Cap),(ref=s.ref\/ref=s.ref.map (·.add (l*m)))->∀h0,Own h0 s->Own h0 ⟨ref,k,G⟩:=by
  intro ref k G y h0 U r e;dsimp only at e;rcases y with rfl | rfl
  ·exact U r e
  ·rw[Option.map_eq_some_iff]at e;obtain⟨r0,H,rfl⟩:=e;obtain⟨i,o,rfl,h3⟩:=U r0 H;exact⟨i,_,rfl,h3⟩
 have I:=c.fit;unfold Sl.fit at I;unfold cutSl;split at I
 ·rename_i G K;simp only[K];rw[show(decide (0<=(l:Int)/\(l:Int)<=(n:Int)/\(n:Int)<=(G:Int)))=true from by simp;omega];refine⟨_,rfl,by simp,⟨?_,by rw[len];simp,cell _ ?_⟩,own _ _ _ ?_⟩
  ·show(n:Int).toNat-(l:Int).toNat<=G-(l:Int).toNat;simp;omega
  ·intro r y F;simp only[Int.toNat_natCast];rw[if_neg (by omega),y];rfl
  ·split
   ·exact .inl rfl
   ·exact .inr (by simp)
 ·rename_i z hz;simp only[hz];subst I;rw[show Nat.beq z z=true from Nat.beq_refl z,show(decide (0<=(l:Int)/\(l:Int)<=(n:Int)/\(n:Int)<=(s.len:Int)))=true from by simp;omega];refine⟨_,rfl,by simp,⟨?_,by rw[len];simp,cell _ ?_⟩,own _ _ _ (.inr (by simp))⟩
  ·exact rfl
  ·intro r y F;simp[y]
@[reducible] def u64(x:Nat):AV:=.int .u64 (x:Int)
structure Nats(h:AH)(s:Sl)(xs:List Nat):Prop where
 cells:Cells h s 1 (xs.map u64)
 lt:∀x∈xs,x<18446744073709551616
 short:xs.length<=9223372036854775807
theorem Nats.len{h:AH}{s:Sl}{xs:List Nat}(n:Nats h s xs):s.len=xs.length:=by
 have:=n.cells.len
 simpa using this
theorem Nats.grow{h h':AH}(g:Grow h h'){s:Sl}{xs:List Nat}(n:Nats h s xs):Nats h' s xs:=⟨n.cells.grow g,n.lt,n.short⟩
theorem Nats.nil(h:AH):Nats h ⟨none,0,.is 0⟩ []:=⟨Cells.nil h 1,by simp,by simp⟩
abbrev qu:=@Nats.nil
theorem Nats.upd{h h0:AH}{s:Sl}{xs:List Nat}(c:Nats h s xs)(y:Own h0 s){i:Nat}(z:i<h0.blks.size)(cs:List AV)(e:TypeId):Nats (h.upd i cs e) s xs:=⟨c.cells.upd y z cs e,c.lt,c.short⟩
theorem Nats.at{h:AH}{s:Sl}{xs:List Nat}(n:Nats h s xs){i:Nat}(y:i<xs.length):∃r,idx s.ref s.len (i:Int) 1=some r/\h.cell r=some (.int .u64 ((xs[i]:Nat):Int)):=by obtain⟨r,z,F⟩:=n.cells.get i (u64 xs[i]) (by simp[y]);refine⟨r.add i,?_,F⟩;rw[z,keq _ _ _ _ (by omega) (by rw[n.len];omega)];simp
theorem Nats.cut{h:AH}{s:Sl}{xs:List Nat}(c:Nats h s xs){l n:Nat}(h1:l<=n)(h2:n<=xs.length):∃s',cutSl s (l:Int) (n:Int) 1=some s'/\Nats h s' ((xs.drop l).take (n-l))/\∀h0,Own h0 s->Own h0 s':=by obtain⟨s',y,H,z,F⟩:=c.cells.cut h1 (by rw[c.len];exact h2);refine⟨s',y,⟨by simpa[List.map_drop,List.map_take]using z,λx G=>c.lt x (List.mem_of_mem_drop (List.mem_of_mem_take G)),?_⟩,F⟩;have:=c.short;rw[qci,qch];omega
theorem kbe{i:Nat}(h:i<=9223372036854775807):IntKind.wrap .i64 (i:Int)=(i:Int):=wrap64 (by omega) (by omega)
theorem ki{i:Nat}(h:i<9223372036854775807):IntKind.wrap .i64 ((i:Int)+1)=((i+1:Nat):Int):=by rw[wrap64 (by omega) (by omega)];omega
theorem km3{i:Nat}(h:i<9223372036854775807):IntKind.wrap .i64 (((i+1:Nat):Int)-1)=(i:Int):=by rw[wrap64 (by omega) (by omega)];omega
variable{P:Program}
theorem kih{h:AH}{s:Sl}{elem:TypeId}{flat:List AV}(c:Cells h s (P.cellsOf elem) flat):kbb P elem s.v h=some (flat,s.len):=by show(h.getsO s.ref (s.len*P.cellsOf elem)).map (λcs=>(cs,s.len))=_;rw[c.gets];rfl
theorem kiy{h:AH}{s:Sl}{c n m:Nat}{elem:TypeId}{cs old:List AV}(hs:s.cap=.is c)(F:c<s.len+n)(y:growOk P (s.len+n) elem m=true)(z:Cells h s m old) :
  kx P s cs n elem m h=some (Sl.v ⟨some (.new h.blks.size 0),s.len+n,.opn m⟩,h.push (.cells (old++cs) elem)):=by
 unfold kx;simp only[hs]
 rw[show Nat.ble (s.len+n) c=false from by
  cases hb:Nat.ble (s.len+n) c with
  | false=>rfl
  | true=>have:=Nat.le_of_ble_eq_true hb;omega]
 simp only[cond_false,y,cond_true,z.gets,qbv];rfl
theorem k4u{h:AH}{s:Sl}{m:Nat}{elem:TypeId}{old:List AV}(hm:0<m)(y:Cells h s m old):∃s',kx P s [] 0 elem m h=some (s'.v,h)/\Cells h s' m old/\∀h0,Own h0 s->Own h0 s':=by
 have G:=y.fit;unfold Sl.fit at G;unfold kx;split at G
 ·rename_i c V;simp only[V];rw[show Nat.ble (s.len+0) c=true from Nat.ble_eq_true_of_le (by omega)];cases H:s.ref with
  | none =>
   refine⟨⟨none,0,.is 0⟩,rfl,?_,λh0 _=>qr h0⟩
   have W:old=[]:=by
    cases old with
    | nil=>rfl
    | cons v vs =>obtain⟨r,F,_⟩:=y.get 0 v rfl;rw[H]at F;cases F
   rw[W];exact Cells.nil h m
  | some r =>refine⟨⟨some r,s.len,.is c⟩,rfl,⟨G,y.len,λi v hv=>?_⟩,λh0 I K Q=>I K (by rw[H];exact Q)⟩;obtain⟨K,F,Z⟩:=y.get i v hv;rw[H]at F;exact⟨K,F,Z⟩
 ·rename_i z U;simp only[U];refine⟨s,by simp[Sl.v,U],y,λh0 I=>I⟩
structure Mine(h0 h:AH)(s:Sl)(elem:TypeId)(m:Nat)(flat:List AV):Prop where
 grow:Grow h0 h
 cells:Cells h s m flat
 own:s=⟨none,0,.is 0⟩\/∃i bs,s.ref=some (.new i 0)/\s.cap=.opn m/\h0.blks.size<=i/\h.has i bs elem
theorem Mine.nil(h:AH)(elem:TypeId)(m:Nat):Mine h h ⟨none,0,.is 0⟩ elem m []:=⟨qk h,Cells.nil h m,.inl rfl⟩
theorem Mine.grow'{h0 h h':AH}{s:Sl}{elem:TypeId}{m:Nat}{flat:List AV}(M:Mine h0 h s elem m flat)(g:Grow h h'):Mine h0 h' s elem m flat:=⟨M.grow.trans g,M.cells.grow g,M.own.imp id λ⟨i,bs,y,z,F,G⟩=>⟨i,bs,y,z,F,g.has G⟩⟩
theorem Grow.kill{h h':AH}(g:Grow h h'){i:Nat}(z:h.blks.size<=i):Grow h (h'.kill (some (.new i 0))) :=
 ⟨g.old,by simpa[AH.kill]using g.size,λj y=>by show(h'.blks.setIfInBounds i .dead)[j]?=_;rw[Array.getElem?_setIfInBounds_ne (by omega)];exact g.blk j y⟩
theorem Mine.append{h0 h:AH}{s:Sl}{elem:TypeId}{m n:Nat}{flat cs:List AV}(M:Mine h0 h s elem m flat)(Q:0<n)(U:cs.length=n*m)(H:growOk P (s.len+n) elem m=true) :
  ∃s' h',kx P s cs n elem m h=some (s'.v,h')/\s'.len=s.len+n/\Mine h0 h' s' elem m (flat++cs)/\∀(j:Nat)(bs:List AV)(e:TypeId),h.has j bs e->s.ref≠some (.new j 0)->h'.has j bs e:=by
 have I:(s.len+n)*m=(flat++cs).length:=by rw[Nat.add_mul,M.cells.len,qb2,U]
 rcases M.own with rfl | ⟨i,bs,z,V,W,Z⟩
 ·rw[kiy (c:=0) rfl (by simpa using Q) H M.cells];refine⟨_,_,rfl,rfl,⟨M.grow.trans (ql _ _),⟨rfl,I,λj v hv=>⟨_,rfl,by simpa using hv⟩⟩,.inr ⟨_,_,rfl,rfl,M.grow.size,qm _ _ _⟩⟩,λj bs e hb _=>(ql _ _).has hb⟩
 ·have:kx P s cs n elem m h=some (Sl.v ⟨some (.new h.blks.size 0),s.len+n,.opn m⟩,(h.kill s.ref).push (.cells (flat++cs) elem)):=by
   unfold kx;simp only[V]
   rw[show Nat.beq n 0=false from by
    cases hb:Nat.beq n 0 with
    | false=>rfl
    | true=>have:=Nat.eq_of_beq_eq_true hb;omega,show Nat.beq m m=true from Nat.beq_refl m]
   simp only[cond_false,H,Bool.and_true,cond_true,z,show h.blks[i]?=_ from Z];have y:=M.cells.gets;rw[z]at y;simp only[cond_true,y,qbv];have:(AH.kill h (some (Ref.new i 0))).blks.size=h.blks.size:=by simp[AH.kill]
   simp[AH.next,this,Sl.v];rfl
  rw[this,z];have K:(h.kill (some (.new i 0))).blks.size=h.blks.size:=by simp[AH.kill]
  refine⟨_,_,rfl,rfl,⟨(M.grow.kill W).trans (ql _ _),⟨rfl,I,λj v hv=>⟨_,rfl,?_⟩⟩,.inr ⟨h.blks.size,flat++cs,rfl,rfl,M.grow.size,?_⟩⟩,λj aa e hb F=>?_⟩
  ·rw[<- K]
   simpa using hv
  ·have:=qm (h.kill (some (.new i 0))) (flat++cs) elem;rw[K]at this;exact this
  ·refine(ql _ _).has ?_
   have G:i≠j:=by
    rintro rfl
    exact F rfl
   show(h.blks.setIfInBounds i .dead)[j]?=_;rw[Array.getElem?_setIfInBounds_ne G];exact hb
theorem Mine.own_of{h0 h:AH}{s:Sl}{elem:TypeId}{m:Nat}{flat:List AV}(M:Mine h0 h s elem m flat):Own h0 s:=by
 rcases M.own with rfl | ⟨i,bs,z,G,F,H⟩
 ·exact qr h0
 ·intro r y;rw[z]at y;cases y;exact⟨i,0,rfl,F⟩
theorem kxk{l c:Int}{elem:TypeId}{bytes n:Nat}{zs:List AV}{h:AH}(h1:l=(n:Int))(h2:c=(n:Int))(z:n*bytes<=70368744177664)(F:n<=70368744177664) :
  kbm l c elem bytes zs h=some (⟨some (.new h.blks.size 0),n,.is n⟩,h.push (.cells (repC zs n) elem)):=by
 subst h1 h2;unfold kbm;have y:((n*bytes:Nat):Int)<=70368744177664:=by omega
 rw[show(decide (0<=(n:Int)/\(n:Int)<=(n:Int)/\(n:Int)<=(ky:Int)/\(n:Int)*(bytes:Int)<=(ky:Int)))=true from by rw[qby];simp only[ky];rw[Int.natCast_mul]at y;omega]
 simp;rfl
theorem ktv(v:AV)(n:Nat):repC [v] n=List.replicate n v:=by
 induction n with
 | zero=>rfl
 | succ n ih=>simp[repC,ih,List.replicate_succ]
end Go.Ab
