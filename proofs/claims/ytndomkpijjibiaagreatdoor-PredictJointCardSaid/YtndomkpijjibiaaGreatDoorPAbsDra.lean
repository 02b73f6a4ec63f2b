/- Words and laws that the last text joins. -/
import Derived.Test.YtndomkpijjibiaaGreatDoorPAbsI
import Derived.Below
import Derived.ProofKit
import Derived.SizedLaws
set_option linter.unusedVariables false
set_option linter.unusedSimpArgs false
set_option linter.unusedSectionVars false
namespace Go.Ab
variable{P:Program}
def Fr.same(fr fr':Fr):Prop:=∀t,fr.get t=fr'.get t
theorem Fr.same.refl(fr:Fr):fr.same fr:=fun _=>rfl
@[reducible] def putd(d:Option Tmp)(v:AV)(fr:Fr):Fr:=match d with
 | none=>fr
 | some t=>(t,v)::fr
theorem get_cons(s t:Nat)(v:AV)(fr:Fr):Fr.get ((s,v)::fr) t=if s=t then some v else fr.get t:=by
 simp only[Fr.get];by_cases h:s=t
 ·subst h;simp
 ·rw[if_neg h]
  have:Nat.beq s t=false:=by
   cases hb:Nat.beq s t with
   | false=>rfl
   | true=>exact absurd (Nat.eq_of_beq_eq_true hb) h
  rw[this];rfl
theorem Fr.same.putd{a b:Fr}(h:a.same b)(d:Option Tmp)(v:AV):(putd d v a).same (putd d v b):=by
 intro t;cases d with
 | none=>exact h t
 | some s=>simp only[Go.Ab.putd,get_cons,h t]
theorem kh0{d:Option Tmp}{v:AV}{fr:Fr}{t:Tmp}(h:∀s,d=some s→s≠t):(putd d v fr).get t=fr.get t:=by
 cases d with
 | none=>rfl
 | some s=>simp only[putd,get_cons,if_neg (h s rfl)]
theorem k89{x y:Option Tmp}{v u:AV}{fr:Fr}(h:∀d,x=some d→y≠some d):(putd x v (putd y u fr)).same (putd y u (putd x v fr)):=by
 intro t;cases x with
 | none=>rfl
 | some d =>
  cases y with
  | none=>rfl
  | some e =>
   have:d≠e:=fun he=>h d rfl (he▸rfl);simp only[putd,get_cons];by_cases h1:d=t<;>by_cases h2:e=t<;>simp[h1,h2];exact absurd (h1.trans h2.symm) this
theorem kcf{a b:Fr}{x:Operand}(h:∀t,x=.tmp t→a.get t=b.get t):evO a x=evO b x:=by
 cases x with
 | tmp t=>exact h t rfl
 | _=>rfl
theorem kg7{a b:Fr}:∀{xs:List Operand},(∀x∈xs,evO a x=evO b x)→evs a xs=evs b xs
 | [],_=>rfl
 | x::xs,h=>by simp only[evs,h x (by simp),kg7 (xs:=xs) fun y hy=>h y (by simp[hy])]
theorem kon{a b:Fr}{R:Type}{x:Option Operand}{d:Int}{k:Int→Option R}(h:∀y,x=some y→evO a y=evO b y):boundK a x d k=boundK b x d k:=by
 cases x with
 | none=>rfl
 | some y=>simp only[boundK,h y rfl]
theorem kl5{rec:Rec}{a b:Fr}{o:Op}{ty:TypeId}{h:AH}{R:Type}{k:AV→AH→Option R}(e:∀x∈o.operands.toList,evO a x=evO b x):opK P rec o ty a h k=opK P rec o ty b h k:=by
 cases o<;>simp only[Op.operands]at e<;>simp only[opK]
 case build t ps=>rw[kg7 (a:=a) (b:=b) fun x hx=>e x (by simpa using hx)]
 case buildSlice t n ps=>rw[kg7 (a:=a) (b:=b) fun x hx=>e x (by simpa using hx)]
 case makeFunc f first captured =>
  rw[kg7 (a:=a) (b:=b) (xs:=first.toList) fun x hx=>e x (by simp at hx⊢;exact .inl hx),kg7 (a:=a) (b:=b) (xs:=captured.toList) fun x hx=>e x (by simp at hx⊢;exact .inr hx)]
 case call c =>
  unfold callK;rw[kg7 (a:=a) (b:=b) (xs:=c.args.toList) fun x hx=>e x (by simp only[Call.operands];simp at hx⊢;exact .inr hx)];cases hc:c.callee with
  | value f=>simp only[e f (by simp[Call.operands,hc])]
  | invoke r m=>simp only[e r (by simp[Call.operands,hc])]
  | builtin bb=>rfl
 case slice t x lo hi mx =>
  rw[e x (by simp)];have h1:∀(d:Int)(k:Int→Option R),boundK a lo d k=boundK b lo d k:=fun d k=>kon fun y hy=>e y (by subst hy;simp);have h2:∀(d:Int)(k:Int→Option R),boundK a hi d k=boundK b hi d k:=fun d k=>kon fun y hy=>e y (by subst hy;simp);have h3:∀(m:Operand),mx=some m→∀(d:Int)(k:Int→Option R),boundK a (some m) d k=boundK b (some m) d k:=fun m hm d k=>kon fun y hy=>by cases hy;exact e m (by subst hm;simp)
  cases evO b x with
  | none=>rfl
  | some u =>
   simp only[sliceK];cases mx with
   | none=>simp only[h1,h2]
   | some m=>simp only[h1,h2,h3 m rfl]
 all_goals first
  | rfl
  | (simp at e;simp only[e])
theorem kns{rec:Rec}{o:Op}{ty:TypeId}{a b:Fr}{h:AH}{R:Type}{k:AV→AH→Option R}(e:∀x∈o.operands.toList,evO a x=evO b x):opM P rec o ty a h k=opM P rec o ty b h k:=by
 have ok:opK P rec o ty a h k=opK P rec o ty b h k:=kl5 e;unfold opM;split
 ·rfl
 ·rw[e _ (by simp[Op.operands];done),e _ (by simp[Op.operands];done),e _ (by simp[Op.operands];done)]
 ·rw[e _ (by simp[Op.operands];done),e _ (by simp[Op.operands];done),e _ (by simp[Op.operands];done)]
 ·rw[e _ (by simp[Op.operands];done),e _ (by simp[Op.operands];done)]
 ·rw[e _ (by simp[Op.operands];done),e _ (by simp[Op.operands];done)]
 ·rw[e _ (by simp[Op.operands];done),e _ (by simp[Op.operands];done),e _ (by simp[Op.operands];done)]
 ·rw[e _ (by simp[Op.operands];done)]
 ·rw[e _ (by simp[Op.operands];done)]
 ·rw[e _ (by simp[Op.operands];done)]
 ·rename_i c;rw[kg7 (a:=a) (b:=b) (xs:=c.args.toList) fun x hx=>e x (by simp only[Op.operands,Call.operands];simp at hx⊢;exact .inr hx),ok]
 ·exact ok
theorem kjw{rec:Rec}{o:Op}{ty:TypeId}{a b:Fr}{h:AH}{R:Type}{k:AV→AH→Option R}(e:∀x∈o.operands.toList,evO a x=evO b x):opX P rec o ty a h k=opX P rec o ty b h k:=by
 unfold opX;rw[kl5 e];congr 1;unfold opP;split
 ·rw[e _ (by simp[Op.operands];done),e _ (by simp[Op.operands];done),e _ (by simp[Op.operands];done),kns e]
 ·rw[e _ (by simp[Op.operands];done),e _ (by simp[Op.operands];done),kns e]
 ·exact kns e
noncomputable def valA(P:Program)(rec:Rec)(ops:Array Oper)(o:Oper)(fr:Fr)(h:AH):Option (AV×AH) :=
 match o.guard with
 | none=>opX P rec o.op o.type fr h pk
 | some (j,b)=>match ((ops[j]?).bind (·.dst))with
  | none=>none
  | some t=>match fr.get t with
   | some (.bool c)=>cond (c==b) (opX P rec o.op o.type fr h pk) (some (.tup [],h))
   | some (.tup [])=>some (.tup [],h)
   | _=>none
def fitsN(N:Nat)(d:Option Tmp):Prop:=∀t,d=some t→Nat.blt t N=true
theorem kr0{N:Nat}{d:Option Tmp}{v:AV}{fr:Fr}{R:Type}{k:Fr→Option R}{r:R}:putT N d v fr k=some r↔fitsN N d∧k (putd d v fr)=some r:=by
 simp only[kgl];cases d with
 | none=>simp[fitsN]
 | some t =>
  simp only[fitsN,Option.some.injEq,forall_eq'];cases hb:Nat.blt t N<;>simp
theorem kld{fr:Fr}{t:Tmp}{v:AV}(h:fr.get t=some v):Fr.same ((t,v)::fr) fr:=fun s=>by
 rw[get_cons];split
 ·rename_i e;subst e;exact h.symm
 ·rfl
noncomputable def step1(P:Program)(rec:Rec)(N:Nat)(ops:Array Oper)(i:Nat)(fr:Fr)(h:AH):Option (Fr×AH):=opsK P rec N ops [i] fr h pf
theorem krn{rec:Rec}{N:Nat}{ops:Array Oper}{i:Nat}{o:Oper}(ho:ops[i]?=some o){fr:Fr}{h:AH}{fr1:Fr}{h1:AH} :
  step1 P rec N ops i fr h=some (fr1,h1)→∃v,valA P rec ops o fr h=some (v,h1)∧fitsN N o.dst∧fr1.same (putd o.dst v fr):=by
 intro hs;simp only[step1,opsK,ho]at hs
 have go:∀{fr':Fr},fr'.same fr→(opX P rec o.op o.type fr' h fun v h'=>putT N o.dst v fr' fun fr''=>pf fr'' h')=some (fr1,h1)→∃v,opX P rec o.op o.type fr h pk=some (v,h1)∧fitsN N o.dst∧fr1.same (putd o.dst v fr):=by
  intro fr' hsame hk;rw[kg9,Option.bind_eq_some_iff]at hk;obtain⟨⟨v,h'⟩,e1,e2⟩:=hk;obtain⟨e3,e4⟩:=kr0.1 e2;simp only[pf,Option.some.injEq,Prod.mk.injEq]at e4;obtain⟨rfl,rfl⟩:=e4;rw[kjw (b:=fr) fun x _=>kcf fun t _=>hsame t]at e1;exact⟨v,e1,e3,hsame.putd _ _⟩
 have skip:∀{fr':Fr},fr'.same fr→(putT N o.dst (.tup []) fr' fun fr''=>pf fr'' h)=some (fr1,h1)→h1=h∧fitsN N o.dst∧fr1.same (putd o.dst (.tup []) fr):=by
  intro fr' hsame hk;obtain⟨e3,e4⟩:=kr0.1 hk;simp only[pf,Option.some.injEq,Prod.mk.injEq]at e4;obtain⟨rfl,rfl⟩:=e4;exact⟨rfl,e3,hsame.putd _ _⟩
 unfold valA;split at hs
 ·rename_i hg;rw[hg];exact go (Fr.same.refl _) hs
 ·rename_i j b hg;rw[hg];split at hs
  ·cases hs
  ·rename_i t ht;simp only[ht];split at hs
   ·rename_i c hc;simp only[hc];cases c<;>cases b<;>simp only[cond_true,cond_false]at hs
    ·exact go (kld hc) hs
    ·obtain⟨rfl,e1,e2⟩:=skip (kld hc) hs;exact⟨_,rfl,e1,e2⟩
    ·obtain⟨rfl,e1,e2⟩:=skip (kld hc) hs;exact⟨_,rfl,e1,e2⟩
    ·exact go (kld hc) hs
   ·rename_i hc;simp only[hc];obtain⟨rfl,e1,e2⟩:=skip (Fr.same.refl _) hs;exact⟨_,rfl,e1,e2⟩
   ·cases hs
theorem kmh{rec:Rec}{ops:Array Oper}{o:Oper}{a b:Fr}{h:AH}(e:∀t∈o.looksAt ops,a.get t=b.get t):valA P rec ops o a h=valA P rec ops o b h:=by
 have e1:opX P rec o.op o.type a h pk=opX P rec o.op o.type b h pk:=kjw fun x hx=>kcf fun t ht=>e t (by
  subst ht;exact List.mem_append_left _ (List.mem_filterMap.2 ⟨_,hx,rfl⟩))
 unfold valA;cases hg:o.guard with
 | none=>exact e1
 | some jb =>
  obtain⟨j,b'⟩:=jb;dsimp only;cases ht:(ops[j]?).bind (·.dst)with
  | none=>rfl
  | some t =>
   have:=e t (by simp[Oper.looksAt,hg,ht]);simp only[this,e1]
theorem kmd{ops:Array Oper}{o:Oper}{a b:Fr}{i:Nat}(e:∀t∈o.looksAt ops,a.get t=b.get t):kbk P i o.op a=kbk P i o.op b:=by
 unfold kbk;split
 ·rename_i t x hx
  rw[kcf (a:=a) (b:=b) fun s hs=>e s (by
   subst hs;exact List.mem_append_left _ (List.mem_filterMap.2 ⟨.tmp s,by rw[hx];simp[Op.operands],rfl⟩))]
 ·rfl
theorem kvl{R:Type}{f g:Nat→Option AV}:∀{ls:List Leaf}{i:Nat}{k:List AV→Option R},(∀j,i≤j→j<i+ls.length→f j=g j)→kdb f ls i k=kdb g ls i k
 | [],i,k,h=>rfl
 | l::ls,i,k,h=>by
  simp only[kdb];rw[h i (Nat.le_refl _) (by simp)];congr 1;funext v;exact kvl fun j h1 h2=>h j (by omega) (by simp at h2⊢;omega)
theorem k5g{R:Type}{t:TypeId}{r:Ref}{h h':AH}{k:AV→Option R}{d:TypeDesc}(hd:P.underlying t=some d)(e:SameAt h h' r (cond (isAggD d) (P.cellsOf t) 1)):loadK P t r h' k=loadK P t r h k:=by
 unfold loadK;simp only[hd];cases ha:isAggD d with
 | true =>
  rw[ha]at e;simp only[cond_true]at e⊢;cases hl:leaves P 20 t with
  | none=>rfl
  | some ls =>
   dsimp only;cases hb:Nat.beq ls.length (P.cellsOf t)with
   | false=>rfl
   | true =>
    simp only[cond_true];have:=Nat.eq_of_beq_eq_true hb;exact kvl fun j h1 h2=>e.1 j (by omega)
 | false =>
  rw[ha]at e;simp only[cond_false]at e⊢;have:=e.1 0 (by omega);rw[Ref.add_zero]at this;rw[this]
theorem kt8{rec:Rec}{i:Nat}{o:Op}{ty:TypeId}{fr:Fr}{h:AH}{v:AV}{h1:AH}(hn:nonEff o=true)(hk:opK P rec o ty fr h pk=some (v,h1)) :
  h1=h∧∀h2,(∀p∈kbk P i o fr,SameAt h h2 p.ref p.size)→opK P rec o ty fr h2 pk=some (v,h2):=by
 obtain⟨g1,e1⟩:=km8;obtain⟨g2,e2⟩:=kn5;obtain⟨g3,e3⟩:=kq0;obtain⟨g4,e4⟩:=kvi;obtain⟨g5,e5⟩:=kuy;obtain⟨g6,e6⟩:=kxi;obtain⟨g7,e7⟩:=ksp;obtain⟨g8,e8⟩:=kwr;obtain⟨g9,e9⟩:=kwk;obtain⟨g10,e10⟩:=kgi
 have key:(∃x:Option AV,∀h,opK P rec o ty fr h pk=x.bind fun v=>some (v,h))→h1=h∧∀h2,(∀p∈kbk P i o fr,SameAt h h2 p.ref p.size)→opK P rec o ty fr h2 pk=some (v,h2):=by
  rintro ⟨x,hx⟩
  rw[hx,Option.bind_eq_some_iff]at hk;obtain⟨u,hu,hq⟩:=hk;simp only[Option.some.injEq,Prod.mk.injEq]at hq;obtain⟨rfl,rfl⟩:=hq;exact⟨rfl,fun h2 _=>by rw[hx,hu];rfl⟩
 have key':(∀h,opK P rec o ty fr h pk=(opK P rec o ty fr ⟨#[],#[]⟩ (fun v _=>some v):Option AV).bind fun v=>some (v,h))→h1=h∧∀h2,(∀p∈kbk P i o fr,SameAt h h2 p.ref p.size)→opK P rec o ty fr h2 pk=some (v,h2):=fun hh=>key ⟨_,hh⟩;cases o<;>simp only[nonEff]at hn<;>try (cases hn;done)
 case load t a =>
  simp only[opK]at hk;split at hk
  ·rename_i r hr;rw[e3,Option.bind_eq_some_iff]at hk;obtain⟨u,hu,hq⟩:=hk;simp only[pk,Option.some.injEq,Prod.mk.injEq]at hq;obtain⟨rfl,rfl⟩:=hq;refine⟨rfl,fun h2 hs=>?_⟩;cases hd:P.underlying t with
   | none =>
    have:loadK P t r h some=none:=by unfold loadK;rw[hd]
    rw[e3,hu]at this;cases this
   | some d =>
    have:=hs ⟨i,r,cond (isAggD d) (P.cellsOf t) 1⟩ (by simp[kbk,hr,hd]);simp only[opK,hr];rw[k5g hd this,e3,hu];rfl
  ·cases hk
  ·cases hk
 case call c =>
  split at hn
  ·rename_i hc;refine key' fun h=>?_;simp only[opK,callK,hc,ke4]
   repeat' split
   all_goals first | contradiction | simp[e8,pk]
  ·rename_i hc;refine key' fun h=>?_;simp only[opK,callK,hc,ke4]
   repeat' split
   all_goals first | contradiction | simp[pk]
  ·rename_i hc;refine key' fun h=>?_;simp only[opK,callK,hc,ke4]
   repeat' split
   all_goals first | contradiction | simp[pk]
  ·cases hn
 all_goals
  refine key' fun h=>?_;simp only[opK,e1,e2,e4,e5,e6,e7,e9,e10]
  repeat' split
  all_goals simp[pk,kc1,kh9,kx,Option.bind_assoc]
theorem ksg{rec:Rec}{o:Op}{ty:TypeId}{fr:Fr}{h:AH}{R:Type}{k:AV→AH→Option R}(hn:nonEff o=true):opX P rec o ty fr h k=opK P rec o ty fr h k:=by
 unfold opX;rw[hn];rfl
theorem kke{rec:Rec}{ops:Array Oper}{i:Nat}{o:Oper}{fr:Fr}{h:AH}{v:AV}{h1:AH}(hn:nonEff o.op=true)(hv:valA P rec ops o fr h=some (v,h1)) :
  h1=h∧∀h2,(∀p∈kbk P i o.op fr,SameAt h h2 p.ref p.size)→valA P rec ops o fr h2=some (v,h2):=by
 unfold valA at hv⊢;simp only[ksg hn]at hv⊢;split at hv
 ·rename_i hg
  try simp only[hg]
  exact kt8 hn hv
 ·rename_i j b hg
  try simp only[hg]
  split at hv
  ·cases hv
  ·rename_i t ht
   try simp only[ht]
   split at hv
   ·rename_i c hc
    try simp only[hc]
    cases hcb:(c==b)with
    | true =>
     rw[hcb]at hv;exact kt8 hn hv
    | false =>
     rw[hcb]at hv;simp only[cond_false,Option.some.injEq,Prod.mk.injEq]at hv;exact⟨hv.2.symm,fun h2 _=>by simp[hv.1]⟩
   ·rename_i hc;simp only[Option.some.injEq,Prod.mk.injEq]at hv;exact⟨hv.2.symm,fun h2 _=>by simp[hv.1]⟩
   ·cases hv
section
variable{rec:Rec}{N:Nat}{ops:Array Oper}{an:Nat→Nat}{k:Fr→AH→Option (AV×AH)}{r:AV×AH}
theorem SameBlk.refl(h:AH):∀r,SameBlk h h r
 | .new _ _=>rfl
 | .old _=>True.intro
def chk(m:Nat)(h h':AH)(ps:List Look):Prop:=∀p∈ps,m.testBit p.at_=false→SameAt h h' p.ref p.size
def AnyA(P:Program)(rec:Rec)(N:Nat)(ops:Array Oper)(an:Nat→Nat)(k:Fr→AH→Option (AV×AH))(r:AV×AH):Nat→Array Bool→List Look→Fr→AH→Prop
 | 0,l,_,fr,h=>Region.ready .any ops l=[]∧k fr h=some r
 | n+1,l,ps,fr,h=>(Region.ready .any ops l=[]→k fr h=some r)∧∀i∈Region.ready .any ops l,∀o,ops[i]?=some o→∃v h1,valA P rec ops o fr h=some (v,h1)∧fitsN N o.dst∧
   (nonEff o.op=false→chk (an i) h h1 ps)∧AnyA P rec N ops an k r n (l.setIfInBounds i true) (cond (nonEff o.op) (kbk P i o.op fr++ps) ps) (putd o.dst v fr) h1
theorem AnyA.same(hk:∀(a b:Fr)(h:AH),a.same b→k a h=k b h):∀{n:Nat}{l:Array Bool}{ps ps':List Look}{a b:Fr}{h:AH},a.same b→(∀p∈ps',p∈ps)→AnyA P rec N ops an k r n l ps a h→AnyA P rec N ops an k r n l ps' b h
 | 0,l,ps,ps',a,b,h,e,hp,H=>⟨H.1,by rw[← hk _ _ _ e];exact H.2⟩
 | n+1,l,ps,ps',a,b,h,e,hp,H=>by
  refine⟨fun h0=>by rw[← hk _ _ _ e];exact H.1 h0,fun i hi o ho=>?_⟩;obtain⟨v,h1,h2,h3,h4,h5⟩:=H.2 i hi o ho;refine⟨v,h1,by rw[← kmh fun t _=>e t];exact h2,h3,fun hn p hp'=>h4 hn p (hp p hp'),AnyA.same hk (e.putd _ _) ?_ h5⟩;rw[kmd (ops:=ops) (a:=b) (b:=a) fun t _=>(e t).symm];intro p hp';cases hq:nonEff o.op with
  | true =>
   simp only[hq,cond_true,List.mem_append]at hp'⊢;exact hp'.imp id (hp p)
  | false =>
   simp only[hq,cond_false]at hp'⊢;exact hp p hp'
def Closed(ops:Array Oper)(l:Array Bool):Prop:=l.size=ops.size∧∀(j:Nat)(o:Oper),l.getD j false=true→ops[j]?=some o→∀e∈o.after,Region.binds .any e=true→l.getD e.on false=true
theorem Closed.set{l:Array Bool}{i:Nat}(hc:Closed ops l)(hi:i∈Region.ready .any ops l):Closed ops (l.setIfInBounds i true):=by
 refine⟨by simpa using hc.1,?_⟩;intro j o hj ho e he hb;obtain⟨h0,oi,hoi,hall⟩:=mem_ready.1 hi;by_cases hij:i=j
 ·subst hij;rw[hoi]at ho;cases ho;exact getD_set_true (hall e he hb)
 ·rw[getD_set_ne false hij]at hj;exact getD_set_true (hc.2 j o hj ho e he hb)
theorem chk.mono{m:Nat}{h h':AH}{ps qs:List Look}(hq:∀p∈qs,p∈ps)(c:chk m h h' ps):chk m h h' qs:=fun p hp=>c p (hq p hp)
theorem AnyA.first(hk:∀(a b:Fr)(h:AH),a.same b→k a h=k b h)(hanc:∀l,Closed ops l→∀j∈Region.ready .any ops l,∀i,(an j).testBit i=true→l.getD i false=true)
  {i:Nat} {oi:Oper} {vi:AV} (hi:ops[i]?=some oi) (hne:nonEff oi.op=true) (hfit:fitsN N oi.dst) :
  ∀(n:Nat){l:Array Bool}{ps:List Look}{fr:Fr}{h:AH},Closed ops l→(∀j oj,ops[j]?=some oj→j≠i→l.getD j true=false→(∀e∈oj.after,Region.binds .any e=true→e.on≠i)→oi.apart ops oj=true)→
   i∈Region.ready .any ops l→valA P rec ops oi fr h=some (vi,h)→AnyA P rec N ops an k r n (l.setIfInBounds i true) (kbk P i oi.op fr++ps) (putd oi.dst vi fr) h→AnyA P rec N ops an k r (n+1) l ps fr h
 | 0,l,ps,fr,h,hc,hfree,hr,hv,H=>by
  refine⟨fun h0=>(by rw[h0]at hr;cases hr),fun j hj oj hoj=>?_⟩;by_cases hji:j=i
  ·subst hji;rw[hi]at hoj;cases hoj;exact⟨vi,h,hv,hfit,(fun hn=>by rw[hne]at hn;cases hn),by rw[hne];exact H⟩
  ·have:=ready_mono hj hji;rw[H.1]at this;cases this
 | n+1,l,ps,fr,h,hc,hfree,hr,hv,H=>by
  refine⟨fun h0=>(by rw[h0]at hr;cases hr),fun j hj oj hoj=>?_⟩;by_cases hji:j=i
  ·subst hji;rw[hi]at hoj;cases hoj;exact⟨vi,h,hv,hfit,(fun hn=>by rw[hne]at hn;cases hn),by rw[hne];exact H⟩
  ·obtain⟨vj,h2,e1,e2,e3,e4⟩:=H.2 j (ready_mono hj hji) oj hoj;obtain⟨hjun,oj',hoj',hall⟩:=mem_ready.1 hj;rw[hoj]at hoj';cases hoj';have hiun:=(mem_ready.1 hr).1
   have hnot:∀e∈oj.after,Region.binds .any e=true→e.on≠i:=fun e he hb heq=>by
    have h1:=hall e he hb;rw[heq]at h1;rcases Nat.lt_or_ge i l.size with h' | h'
    ·simp[h']at hiun h1;rw[hiun]at h1;cases h1
    ·simp[Array.getElem?_eq_none h']at h1
   obtain⟨a1,a2,a3⟩:=Oper.apart_spec (hfree j oj hoj hji hjun hnot)
   have b1:valA P rec ops oj fr h=some (vj,h2):=by
    rw[← e1];exact kmh fun t ht=>(kh0 fun s hs he=>a1 s hs (he▸ht)).symm
   have anc:(an j).testBit i=false:=by
    cases hb:(an j).testBit i with
    | false=>rfl
    | true =>
     have:=hanc l hc j hj i hb;rcases Nat.lt_or_ge i l.size with h' | h'
     ·simp[h']at hiun this;rw[hiun]at this;cases this
     ·simp[Array.getElem?_eq_none h']at this
   have b2:valA P rec ops oi (putd oj.dst vj fr) h2=some (vi,h2):=by
    have:∀p∈kbk P i oi.op fr,SameAt h h2 p.ref p.size:=by
     intro p hp;cases hnj:nonEff oj.op with
     | true =>
      have:=(kke (i:=j) hnj b1).1;subst this;exact⟨fun _ _=>rfl,fun _=>SameBlk.refl _ _⟩
     | false =>
      refine e3 hnj p (by simp[hp]) ?_
      have:p.at_=i:=by
       unfold kbk at hp;split at hp
       ·split at hp
        ·split at hp<;>simp at hp;subst hp;rfl
        ·simp at hp
       ·simp at hp
      rw[this];exact anc
    rw[kmh (b:=fr) fun t ht=>kh0 fun s hs he=>a3 s hs (he▸ht)];exact(kke hne hv).2 h2 this
   refine⟨vj,h2,b1,e2,fun hnj=>(e3 hnj).mono fun p hp=>by simp[hp],?_⟩
   have hfree':∀k' ok,ops[k']?=some ok→k'≠i→(l.setIfInBounds j true).getD k' true=false→(∀e∈ok.after,Region.binds .any e=true→e.on≠i)→oi.apart ops ok=true:=fun k' ok hk' hki hun hno=>by
    refine hfree k' ok hk' hki ?_ hno;by_cases hjk:j=k'
    ·subst hjk;exact hjun
    ·rw[getD_set_ne true hjk]at hun;exact hun
   refine AnyA.first hk hanc hi hne hfit n (hc.set hj) hfree' (ready_mono hr (Ne.symm hji)) b2 ?_;rw[Array.setIfInBounds_comm _ _ hji];refine AnyA.same hk (k89 fun d hd=>?_) (fun p hp=>?_) e4
   ·intro hd';exact a2 d hd' hd
   ·have l1:kbk P i oi.op (putd oj.dst vj fr)=kbk P i oi.op fr:=kmd (ops:=ops) fun t ht=>kh0 fun s hs he=>a3 s hs (he▸ht);have l2:kbk P j oj.op (putd oi.dst vi fr)=kbk P j oj.op fr:=kmd (ops:=ops) fun t ht=>kh0 fun s hs he=>a1 s hs (he▸ht);rw[l1]at hp;rw[l2];cases hq:nonEff oj.op<;>simp only[hq,cond_true,cond_false,List.mem_append]at hp⊢
    ·exact hp
    ·rcases hp with hp | hp | hp
     ·exact .inr (.inl hp)
     ·exact .inl hp
     ·exact .inr (.inr hp)
def Rel(ops:Array Oper)(l:Array Bool)(m:Nat):Prop:=l.size=ops.size∧∀j,l.getD j false=m.testBit j
theorem Rel.getD_true{l:Array Bool}{m:Nat}(R:Rel ops l m){j:Nat}:l.getD j true=false↔j<ops.size∧m.testBit j=false:=by
 rw[← R.2 j];rcases Nat.lt_or_ge j l.size with h | h
 ·simp[h,show j<ops.size from R.1▸h]
 ·simp[Array.getElem?_eq_none h,show¬j<ops.size from by have:=R.1;omega]
theorem Rel.set{l:Array Bool}{m i:Nat}(R:Rel ops l m)(hi:i<ops.size):Rel ops (l.setIfInBounds i true) (m|||1 <<< i):=by
 refine⟨by simp[R.1],fun j=>?_⟩;rw[Nat.testBit_or,← R.2 j,Nat.one_shiftLeft,Nat.testBit_two_pow];by_cases hij:i=j
 ·subst hij;simp[show i<l.size from R.1▸hi]
 ·rw[getD_set_ne false hij];simp[hij]
theorem kbaz(es:List Edge):∀(m j:Nat),(es.foldl (fun m e=>cond (Region.binds .any e) (m|||1 <<< e.on) m) m).testBit j=true↔m.testBit j=true∨∃e∈es,Region.binds .any e=true∧e.on=j:=by
 induction es with
 | nil=>simp
 | cons e es ih =>
  intro m j;rw[List.foldl_cons,ih];cases hb:Region.binds .any e with
  | false=>simp[hb]
  | true =>
   simp only[cond_true,Nat.testBit_or,Nat.one_shiftLeft,Nat.testBit_two_pow,Bool.or_eq_true,decide_eq_true_eq,List.mem_cons,exists_eq_or_imp,hb,true_and];constructor
   ·rintro ((h | h) | h)
    ·exact .inl h
    ·exact .inr (.inl h)
    ·exact .inr (.inr h)
   ·rintro (h | h | h)
    ·exact .inl (.inl h)
    ·exact .inl (.inr h)
    ·exact .inr h
theorem kju{o:Oper}{j:Nat}:(depsOf o).testBit j=true↔∃e∈o.after,Region.binds .any e=true∧e.on=j:=by
 unfold depsOf;rw[kbaz];simp
theorem kko(i:Nat):(ops.toList.map depsOf)[i]?=(ops[i]?).map depsOf:=by simp
theorem k1l{d m:Nat}:Nat.beq (d&&&m) d=true↔∀j,d.testBit j=true→m.testBit j=true:=by
 constructor
 ·intro h j hj;have:=Nat.eq_of_beq_eq_true h;rw[← this,Nat.testBit_and]at hj;simp at hj;exact hj.2
 ·intro h
  have:d&&&m=d:=Nat.eq_of_testBit_eq fun j=>by
   rw[Nat.testBit_and];cases hj:d.testBit j with
   | false=>rfl
   | true=>rw[h j hj];rfl
  rw[this];simp
theorem ksu{l:Array Bool}{m i:Nat}(R:Rel ops l m):readyB (ops.toList.map depsOf) m i=true↔i∈Region.ready .any ops l:=by
 rw[mem_ready,R.getD_true];unfold readyB;rw[kko];cases ho:ops[i]? with
 | none=>simp
 | some o =>
  have hlt:i<ops.size:=(Array.getElem?_eq_some_iff.1 ho).1;simp only[Option.map_some,Bool.and_eq_true,k1l,kju,Bool.not_eq_true',hlt,true_and,Option.some.injEq,exists_eq_left'];constructor
  ·rintro ⟨h1,h2⟩
   exact⟨h2,fun e he hb=>by rw[R.2];exact h1 _ ⟨e,he,hb,rfl⟩⟩
  ·rintro ⟨h1,h2⟩
   exact⟨fun j ⟨e,he,hb,hj⟩=>by rw[← hj,← R.2];exact h2 e he hb,h1⟩
theorem kv0{d x:Nat}:∀{as:List Nat}{i:Nat},(orBits d as i).testBit x=true→∃j a,as[j]?=some a∧d.testBit (i+j)=true∧a.testBit x=true
 | [],i,h=>by simp[orBits]at h
 | a::as,i,h=>by
  simp only[orBits]at h
  have tail:(orBits d as (i+1)).testBit x=true→∃j b,(a::as)[j]?=some b∧d.testBit (i+j)=true∧b.testBit x=true:=fun h=>by
   obtain⟨j,b,h1,h2,h3⟩:=kv0 h;exact⟨j+1,b,by simpa using h1,by rw[← h2];congr 1;omega,h3⟩
  cases hb:d.testBit i with
  | false=>rw[hb]at h;exact tail h
  | true =>
   rw[hb,cond_true,Nat.testBit_or,Bool.or_eq_true]at h;rcases h with h | h
   ·exact⟨0,a,rfl,by simpa using hb,h⟩
   ·exact tail h
theorem kv8{m:Nat}:∀(ds acc:List Nat),(∀(j a d:Nat),acc[j]?=some a→(ops.toList.map depsOf)[j]?=some d→(∀x,d.testBit x=true→m.testBit x=true)→∀x,a.testBit x=true→m.testBit x=true)→
  (∀(j d:Nat),m.testBit j=true→(ops.toList.map depsOf)[j]?=some d→∀x,d.testBit x=true→m.testBit x=true)→
  (∀(j d:Nat),ds[j]?=some d→(ops.toList.map depsOf)[acc.length+j]?=some d)→acc.length+ds.length=ops.size→
  ∀(j a d:Nat),(ancsOf acc ds)[j]?=some a→(ops.toList.map depsOf)[j]?=some d→(∀x,d.testBit x=true→m.testBit x=true)→∀x,a.testBit x=true→m.testBit x=true
 | [],acc,hacc,hc,hd,hl=>by simpa[ancsOf]using hacc
 | d0::ds,acc,hacc,hc,hd,hl=>by
  simp only[ancsOf];refine kv8 ds _ ?_ hc (fun j d hj=>?_) (by simp at hl⊢;omega)
  ·intro j a d hj hdj hsub x hx;rcases Nat.lt_trichotomy j acc.length with hlt | rfl | hgt
   ·rw[List.getElem?_append_left hlt]at hj;exact hacc j a d hj hdj hsub x hx
   ·rw[List.getElem?_append_right (Nat.le_refl _)]at hj;simp at hj;have e0:=hd 0 d0 (by simp);rw[Nat.add_zero,hdj]at e0;cases e0;rw[← hj,Nat.testBit_or,Bool.or_eq_true]at hx;rcases hx with hx | hx
    ·exact hsub x hx
    ·obtain⟨y,b,h1,h2,h3⟩:=kv0 hx;rw[Nat.zero_add]at h2;have hm:=hsub y h2
     have hy:y<acc.length:=by
      rcases Nat.lt_or_ge y acc.length with h | h
      ·exact h
      ·rw[List.getElem?_eq_none h]at h1;cases h1
     have:∃dy,(ops.toList.map depsOf)[y]?=some dy:=⟨_,List.getElem?_eq_getElem (by simp at hl⊢;omega)⟩;obtain⟨dy,hdy⟩:=this;exact hacc y b dy h1 hdy (hc y dy hm hdy) x h3
   ·rw[List.getElem?_eq_none (by simp;omega)]at hj;cases hj
  ·have:=hd (j+1) d (by simpa using hj);rw[← this];congr 1;simp;omega
theorem Rel.closed{l:Array Bool}{m:Nat}(R:Rel ops l m)(hc:Closed ops l):∀j d,m.testBit j=true→(ops.toList.map depsOf)[j]?=some d→∀x,d.testBit x=true→m.testBit x=true:=by
 intro j d hj hd x hx;rw[kko]at hd;cases ho:ops[j]? with
 | none=>rw[ho]at hd;cases hd
 | some o =>
  rw[ho]at hd;simp only[Option.map_some,Option.some.injEq]at hd;subst hd;obtain⟨e,he,hb,rfl⟩:=kju.1 hx;rw[← R.2];exact hc.2 j o (by rw[R.2];exact hj) ho e he hb
def maskOf(l:List Bool):Nat:=match l with
 | []=>0
 | b::bs=>cond b 1 0+2*maskOf bs
theorem kth:∀(l:List Bool)(j:Nat),(maskOf l).testBit j=(l[j]?).getD false
 | [],j=>by simp[maskOf]
 | b::bs,0=>by
  simp only[maskOf,Nat.testBit_zero];cases b<;>simp<;>omega
 | b::bs,j+1=>by
  simp only[maskOf,Nat.testBit_succ];have:(cond b 1 0+2*maskOf bs)/2=maskOf bs:=by cases b<;>simp<;>omega
  rw[this,kth bs j];simp
theorem k7c{l:Array Bool}(hl:l.size=ops.size):Rel ops l (maskOf l.toList):=⟨hl,fun j=>by rw[kth];simp⟩
theorem anc_ok:∀l,Closed ops l→∀j∈Region.ready .any ops l,∀i,(((ancsOf [] (ops.toList.map depsOf))[j]?).getD 0).testBit i=true→l.getD i false=true:=by
 intro l hc j hj i hb;have R:=k7c hc.1;cases ha:(ancsOf [] (ops.toList.map depsOf))[j]? with
 | none=>rw[ha]at hb;simp at hb
 | some a =>
  rw[ha,Option.getD_some]at hb;obtain⟨h0,o,ho,hall⟩:=mem_ready.1 hj;rw[R.2];refine kv8 (m:=maskOf l.toList) (ops.toList.map depsOf) [] (fun j a d hj=>by simp at hj) (R.closed hc) (fun j d hj=>by simpa using hj) (by simp) j a (depsOf o) ha (by rw[kko,ho];rfl) ?_ i hb;intro x hx;obtain⟨e,he,hbd,rfl⟩:=kju.1 hx;rw[← R.2];exact hall e he hbd
theorem knn{m:Nat}{h h':AH}{R:Type}{x:Option R}{res:R}:∀{ps:List Look},checkP m h h' x ps=some res→chk m h h' ps∧x=some res
 | [],hk=>⟨fun p hp=>by simp at hp,hk⟩
 | p::ps,hk=>by
  simp only[checkP]at hk;cases hb:m.testBit p.at_ with
  | true =>
   rw[hb]at hk;obtain⟨h1,h2⟩:=knn hk;refine⟨fun q hq hq'=>?_,h2⟩;rcases List.mem_cons.1 hq with rfl | hq
   ·rw[hb]at hq';cases hq'
   ·exact h1 q hq hq'
  | false =>
   rw[hb]at hk;simp only[cond_false,whenK]at hk;split at hk
   ·rename_i hs;obtain⟨h1,h2⟩:=knn hk;refine⟨fun q hq hq'=>?_,h2⟩;rcases List.mem_cons.1 hq with rfl | hq
    ·exact hs
    ·exact h1 q hq hq'
   ·cases hk
theorem kvy{R:Type}{i:Nat}{fr:Fr}{h:AH}{k':Fr→AH→Option R}{res:R}(hk:opsK P rec N ops [i] fr h k'=some res):∃fr1 h1,step1 P rec N ops i fr h=some (fr1,h1)∧k' fr1 h1=some res:=by
 rw[kor,Option.bind_eq_some_iff]at hk;obtain⟨⟨fr1,h1⟩,e1,e2⟩:=hk;exact⟨fr1,h1,e1,e2⟩
@[reducible] def anOf(ops:Array Oper):Nat→Nat:=fun j=>((ancsOf [] (ops.toList.map depsOf))[j]?).getD 0
theorem kkf(hk:∀(a b:Fr)(h:AH),a.same b→k a h=k b h):∀(c:List Nat){l:Array Bool}{m:Nat}{ps:List Look}{fr:Fr}{h:AH},Rel ops l m→Closed ops l→
  opsD P rec N ops (ops.toList.map depsOf) (ancsOf [] (ops.toList.map depsOf)) c m ps fr h k=some r→AnyA P rec N ops (anOf ops) k r c.length l ps fr h
 | [],l,m,ps,fr,h,R,hc,hd=>by
  simp only[opsD]at hd;cases hb:Nat.beq m (2^ops.size-1)with
  | false=>rw[hb]at hd;cases hd
  | true =>
   rw[hb]at hd;have hm:=Nat.eq_of_beq_eq_true hb;refine⟨?_,hd⟩;cases hr:Region.ready .any ops l with
   | nil=>rfl
   | cons j js =>
    have hj:j∈Region.ready .any ops l:=by rw[hr];simp
    obtain⟨h0,-⟩:=mem_ready.1 hj;obtain⟨h1,h2⟩:=R.getD_true.1 h0;rw[hm,Nat.testBit_two_pow_sub_one]at h2;simp[h1]at h2
 | i::c,l,m,ps,fr,h,R,hc,hd=>by
  simp only[opsD]at hd;split at hd
  ·rename_i o an ho han;have hlt:i<ops.size:=(Array.getElem?_eq_some_iff.1 ho).1;cases hb:readyB (ops.toList.map depsOf) m i with
   | false=>rw[hb]at hd;cases hd
   | true =>
    rw[hb,cond_true]at hd;have hi:=(ksu R).1 hb;cases hne:nonEff o.op with
    | true =>
     rw[hne,cond_true]at hd;cases hf:freeB ops (ops.toList.map depsOf) m i o with
     | false=>rw[hf]at hd;cases hd
     | true =>
      rw[hf,cond_true]at hd;obtain⟨fr1,h1,e1,e2⟩:=kvy hd;obtain⟨v,e3,e4,e5⟩:=krn ho e1;obtain⟨rfl,-⟩:=kke (i:=i) hne e3;have IH:=kkf hk c (R.set hlt) (hc.set hi) e2;refine AnyA.first hk anc_ok ho hne e4 c.length hc ?_ hi e3 (IH.same hk e5 fun p hp=>hp);intro j oj hj hji hun hno;have hjl:j<ops.size:=(Array.getElem?_eq_some_iff.1 hj).1;have:=List.all_eq_true.1 hf j (List.mem_range.2 hjl);rw[kko,hj]at this;simp only[Option.map_some,Bool.or_eq_true]at this;rcases this with((h1 | h1) | h1) | h1
      ·exact absurd (Nat.eq_of_beq_eq_true h1) hji
      ·rw[(R.getD_true.1 hun).2]at h1;cases h1
      ·obtain⟨e,he,hbd,hon⟩:=kju.1 h1;exact absurd hon (hno e he hbd)
      ·exact h1
    | false =>
     rw[hne,cond_false]at hd;cases hf:onlyB ops.size (ops.toList.map depsOf) m i with
     | false=>rw[hf]at hd;cases hd
     | true =>
      rw[hf,cond_true]at hd;obtain⟨fr1,h1,e1,e2⟩:=kvy hd;obtain⟨v,e3,e4,e5⟩:=krn ho e1;obtain⟨e6,e7⟩:=knn e2;have IH:=kkf hk c (R.set hlt) (hc.set hi) e7;refine⟨fun h0=>(by rw[h0]at hi;cases hi),fun j hj oj hoj=>?_⟩
      have hji:j=i:=by
       have hjl:j<ops.size:=(Array.getElem?_eq_some_iff.1 hoj).1;have:=List.all_eq_true.1 hf j (List.mem_range.2 hjl);simp only[Bool.or_eq_true]at this;rcases this with h1 | h1
       ·exact Nat.eq_of_beq_eq_true h1
       ·rw[(ksu R).2 hj]at h1;cases h1
      subst hji;rw[ho]at hoj;cases hoj;refine⟨v,h1,e3,e4,fun _=>by rw[anOf,han];exact e6,?_⟩;rw[hne];exact IH.same hk e5 fun p hp=>hp
  ·cases hd
theorem k9w(hk:∀(a b:Fr)(h:AH),a.same b→k a h=k b h){order:List Nat}{fr:Fr}{h:AH}(hd:drawK P rec N ops order fr h k=some r) :
  AnyA P rec N ops (anOf ops) k r ops.size (Array.replicate ops.size false) [] fr h:=by
 unfold drawK at hd;cases hb:Nat.beq order.length ops.size with
 | false=>rw[hb]at hd;cases hd
 | true =>
  rw[hb,cond_true]at hd
  have:=kkf (l:=Array.replicate ops.size false) hk order ⟨by simp,fun j=>by simp[Array.getElem?_replicate];split<;>rfl⟩ ⟨by simp,fun j o hj=>by
   rw[Array.getD_eq_getD_getElem?,Array.getElem?_replicate]at hj;split at hj<;>simp at hj⟩ hd
  rw[Nat.eq_of_beq_eq_true hb]at this;exact this
end
section
variable{O:World}
theorem AnyA.sound{rec:Rec}(hrec:RecOk P O rec){N:Nat}{ops:Array Oper}{an:Nat→Nat}{k:Fr→AH→Option (AV×AH)}{r:AV×AH}{μ0:Mu}{h0:AH}{w0:World}:∀(n:Nat){l:Array Bool}{ps:List Look}{fr:Fr}{h:AH}{μ:Mu}{w:World}{a:Act},
  AnyA P rec N ops an k r n l ps fr h→Sim P O μ h w→FRel μ N fr a.tmps→Ext μ0 h0 w0 μ h→Frm μ0 h0 w0 w→wpAny P .any ops (After P O μ0 N h0 w0 a.defers k r) n l a w
 | 0,l,ps,fr,h,μ,w,a,H,S,F,E,M=>⟨H.1,rfl,rfl,fr,h,μ,H.2,S,F,E,M⟩
 | n+1,l,ps,fr,h,μ,w,a,H,S,F,E,M=>by
  refine⟨fun hr=>⟨rfl,rfl,fr,h,μ,H.1 hr,S,F,E,M⟩,fun i hi=>?_⟩;obtain⟨-,o,ho,-⟩:=mem_ready.1 hi;obtain⟨v,h1,e1,e2,-,e3⟩:=H.2 i hi o ho;unfold wpOp;simp only[ho]
  have put:∀{ν:Mu}{u:Value}{h1:AH}{w1:World},FRel ν N fr a.tmps→VRel ν v u→Sim P O ν h1 w1→Ext μ0 h0 w0 ν h1→Frm μ0 h0 w0 w1→AnyA P rec N ops an k r n (l.setIfInBounds i true) (cond (nonEff o.op) (kbk P i o.op fr++ps) ps) (putd o.dst v fr) h1→
    wpAny P .any ops (After P O μ0 N h0 w0 a.defers k r) n (l.setIfInBounds i true) (a.put o.dst u) w1:=by
   intro ν u h1 w1 F' hv S' E' M' H'
   have F2:FRel ν N (putd o.dst v fr) (a.put o.dst u).tmps:=by
    cases hd:o.dst with
    | none=>exact F'
    | some t =>
     have:=e2 t hd;exact F'.put (by simpa[Nat.blt_eq]using this) hv
   have:=AnyA.sound hrec n (a:=a.put o.dst u) H' S' F2 E' M';rw[Go.Ab.put_defers]at this;exact this
  have go:opX P rec o.op o.type fr h pk=some (v,h1)→Region.wanted o (yielded ops a.tmps)=true→
    (if Region.wanted o (yielded ops a.tmps)=true then o.wp P a w (wpAny P .any ops (After P O μ0 N h0 w0 a.defers k r) n (l.setIfInBounds i true)) (After P O μ0 N h0 w0 a.defers k r)∨(o.asks P a w∧LetsOut (After P O μ0 N h0 w0 a.defers k r))else wpAny P .any ops (After P O μ0 N h0 w0 a.defers k r) n (l.setIfInBounds i true) (a.put o.dst undef) w):=by
   intro hop hw;rw[if_pos hw]
   left
   obtain⟨v',h1',hk1,hgo⟩:=ktq hrec S F hop;simp only[pk,Option.some.injEq,Prod.mk.injEq]at hk1;obtain⟨rfl,rfl⟩:=hk1;refine hgo _ _ fun u w' ⟨ν,g1,g2,g3,g4⟩=>?_;exact put (F.mono g3.2.1) g1 g2 (E.trans g3 M.1) (M.trans E g4) e3
  have skip:v=.tup []→h1=h→Region.wanted o (yielded ops a.tmps)=false→
    (if Region.wanted o (yielded ops a.tmps)=true then o.wp P a w (wpAny P .any ops (After P O μ0 N h0 w0 a.defers k r) n (l.setIfInBounds i true)) (After P O μ0 N h0 w0 a.defers k r)∨(o.asks P a w∧LetsOut (After P O μ0 N h0 w0 a.defers k r))else wpAny P .any ops (After P O μ0 N h0 w0 a.defers k r) n (l.setIfInBounds i true) (a.put o.dst undef) w):=by
   rintro rfl rfl hw
   rw[if_neg (by rw[hw];simp)];exact put (u:=undef) F (by simp[VRel,undef,VRels]) S E M e3
  unfold valA at e1;split at e1
  ·rename_i hg;exact go e1 (by simp[Region.wanted,hg])
  ·rename_i j b hg;split at e1
   ·cases e1
   ·rename_i t ht;split at e1
    ·rename_i c hget;obtain⟨u,hu,hvu⟩:=F.get t _ hget;simp only[VRel]at hvu;subst hvu;have hy:yielded ops a.tmps j=some c:=by simp[yielded,ht,hu]
     have hwant:Region.wanted o (yielded ops a.tmps)=(c==b):=by simp[Region.wanted,hg,hy]
     cases hcb:(c==b)with
     | true=>rw[hcb]at e1;exact go e1 (hwant.trans hcb)
     | false =>
      rw[hcb]at e1;simp only[cond_false,Option.some.injEq,Prod.mk.injEq]at e1;exact skip e1.1.symm e1.2.symm (hwant.trans hcb)
    ·rename_i hget;obtain⟨u,hu,hvu⟩:=F.get t _ hget;simp only[VRel]at hvu;obtain⟨us,rfl,_⟩:=hvu;have hy:yielded ops a.tmps j=none:=by simp[yielded,ht,hu]
     simp only[Option.some.injEq,Prod.mk.injEq]at e1;exact skip e1.1.symm e1.2.symm (by simp[Region.wanted,hg,hy])
    ·cases e1
theorem kbbf{rec:Rec}(hrec:RecOk P O rec){N:Nat}{ops:Array Oper}{order:List Nat}{fr:Fr}{h:AH}{k:Fr→AH→Option (AV×AH)}{r:AV×AH}(hk:∀(a b:Fr)(h:AH),a.same b→k a h=k b h)
  (hd:drawK P rec N ops order fr h k=some r) {μ:Mu} {w:World} {a:Act} (S:Sim P O μ h w) (F:FRel μ N fr a.tmps):wpAny P .any ops (After P O μ N h w a.defers k r) ops.size (Array.replicate ops.size false) a {w with drawn:=w.drawn+1} :=
 (k9w hk hd).sound hrec _ (S.drew) F (Ext.refl _ _ _) ⟨Nat.le_refl _,fun _ _ _=>rfl⟩
end
theorem kew(N:Nat):∀(fr:Fr)(t:Nat),(fr.low N).get t=if t<N then fr.get t else none
 | [],t=>by simp[Fr.low,Fr.get]
 | (s,v)::fr,t=>by
  have ih:=kew N fr t;unfold Fr.low at ih⊢;rw[List.filter_cons];dsimp only;cases hb:Nat.blt s N with
  | true =>
   have hs:s<N:=by simpa[Nat.blt_eq]using hb
   simp only[if_true,get_cons,ih];by_cases h:s=t
   ·subst h;simp[hs]
   ·simp only[if_neg h]
  | false =>
   have hs:¬s<N:=by
    intro h;rw[show Nat.blt s N=true from by simpa[Nat.blt_eq]using h]at hb;cases hb
   simp only[Bool.false_eq_true,if_false,get_cons,ih];by_cases h:s=t
   ·subst h;simp[hs]
   ·simp only[if_neg h]
theorem Fr.same.low{a b:Fr}(h:a.same b)(N:Nat):(a.low N).same (b.low N):=fun t=>by rw[kew,kew,h t]
theorem kzm{N:Nat}{d:Option Tmp}{v:AV}{fr:Fr}(hd:fitsN N d):((Go.Ab.putd d v fr).low N)=Go.Ab.putd d v (fr.low N):=by
 cases d with
 | none=>rfl
 | some t =>
  have:=hd t rfl;show((t,v)::fr).filter _=_;rw[List.filter_cons];dsimp only;rw[this];rfl
theorem kbbi{rec:Rec}{μ:Mu}{N:Nat}{fr:Fr}{h:AH}{w:World}{o:Oper}{a:Act}(F:FRel μ N fr a.tmps){t:TypeId}{n:Nat}{parts:Array (Nat×Operand)}(ho:o.op=.buildSlice t n parts){v:AV}{h1:AH}
  (hk:opK P rec o.op o.type fr h pk=some (v,h1)):∃cs e us,h1=h.alloc (.cells cs e)∧VRels μ cs us∧cs.all AV.one=true∧OpGoes P o a w fun u w'=>VRel (Mu.set μ h.blks.size ⟨w.heap.size,0,us.length⟩) v u∧w'=w.alloc (.cells us.toArray e):=by
 obtain⟨dst,op,type,pos,after,guard⟩:=o;dsimp only at hk ho;subst ho;simp only[opK]at hk;have hex:execOp a.eval ⟨dst,.buildSlice t n parts,type,pos,after,guard⟩=(do pure (.value (← Instr.buildSlice t n (parts.map fun(i,x)=>(i,a.eval x))))):=rfl
 have hzip:(parts.map fun(i,x)=>(i,a.eval x)).toList=(parts.toList.map (·.1)).zip ((parts.toList.map (·.2)).map a.eval):=by
  simp only[Array.toList_map,List.map_map];generalize parts.toList=l
  induction l with
  | nil=>rfl
  | cons p l ih=>simp[ih]
 split at hk
 ·rename_i vs e hvs hd;split at hk
  ·rename_i zs hz;obtain⟨hb,hk2⟩:=ki hk;simp only[Bool.and_eq_true]at hb;have hb1:n*P.cellsOf e≤16777216:=Nat.le_of_ble_eq_true hb.1;have hb2:zs.length=P.cellsOf e:=Nat.eq_of_beq_eq_true hb.2;obtain⟨z,ti,hti,hz0,h2,h3⟩:=kgh (μ:=μ) hz;have hsz:z.cells.size=P.cellsOf e:=by have:=h2.length;simp at this;omega
   have hlen:=(kcs F hvs).length;simp only[List.length_map]at hlen;have m1:((parts.toList.map (·.1)).zip vs).map (·.1)=parts.toList.map (·.1):=List.map_fst_zip (by rw[List.length_map];exact Nat.le_of_eq hlen);have m2:((parts.toList.map (·.1)).zip vs).map (·.2)=vs:=List.map_snd_zip (by rw[List.length_map];exact Nat.le_of_eq hlen.symm)
   have harr:((Array.range (n*P.cellsOf e)).map (z.cells[· % z.cells.size]!)).toList=(List.replicate n z.cells.toList).flatten:=by
    by_cases h0:P.cellsOf e=0
    ·have:z.cells.toList=[]:=by apply List.eq_nil_of_length_eq_zero;rw[Array.length_toList];omega
     rw[h0,this];simp[Array.range_zero']
    ·rw[← hsz];exact kmc n z.cells (by omega)
   obtain⟨cs,out,hk3,f1,f2,f3,f4⟩:=kip (μ:=μ) (rp:=fun i=>some (i*P.cellsOf e,P.cellsOf e)) (fun i off t' hi=>by simp at hi⊢;exact⟨hi.1,by rw[hi.2]⟩) hk2 (us:=(parts.toList.map (·.2)).map a.eval) (arr:=(Array.range (n*P.cellsOf e)).map (z.cells[· % z.cells.size]!))
    (by rw[m2];exact kcs F hvs) (by rw[harr,kj4];exact h2.rep n) (km1 h3 n)
   rw[m1,← hzip]at f1;simp only[pk,Option.some.injEq,Prod.mk.injEq]at hk3;refine⟨cs,e,out.toList,hk3.2.symm,f2,f3,OpGoes.of_sem hex (w':=w.alloc (.cells out e)) (u:=.slice (some ⟨w.heap.size,0,none⟩) n n) ?_ ⟨by rw[← hk3.1];exact kt1 rfl n,by simp⟩⟩;have hs:(sizeOf e).run P w=.ok (P.cellsOf e) w:=by simp[sizeOf,typeInfo,hti,Program.cellsOf]
   have hgt:¬(16777216<n*P.cellsOf e):=by omega
   by_cases h0:n*P.cellsOf e=0
   ·have hz':∀f g:Nat→Value,(Array.range (n*P.cellsOf e)).map f=(Array.range (n*P.cellsOf e)).map g:=fun f g=>by rw[h0];simp[Array.range_zero']
    rw[hz' (z.cells[· % z.cells.size]!) ((#[]:Array Value)[· % (#[]:Array Value).size]!)]at f1;simp only[Instr.buildSlice,Sem.run_bind,run_underlying hd,Result.andThen_ok,hs,Sem.run_ite,if_neg hgt,h0,if_true,Sem.run_pure];rw[h0]at f1;simp only[f1,newRow,Sem.run_bind,run_newObj,Result.andThen_ok,Sem.run_pure];rfl
   ·simp only[Instr.buildSlice,Sem.run_bind,run_underlying hd,Result.andThen_ok,hs,Sem.run_ite,if_neg hgt,if_neg h0,zeroValue,typeInfo,run_program,hti,hz0,Sem.run_pure,f1,newRow,run_newObj];rfl
  ·cases hk
 ·cases hk
theorem k5w{rec:Rec}{μ:Mu}{N:Nat}{fr:Fr}{h:AH}{w:World}{o:Oper}{a:Act}(F:FRel μ N fr a.tmps){t:TypeId}{l c:Operand}(ho:o.op=.makeSlice t l c){v:AV}{h1:AH}
  (hk:opK P rec o.op o.type fr h pk=some (v,h1)):∃cs e us,h1=h.alloc (.cells cs e)∧VRels μ cs us∧cs.all AV.one=true∧OpGoes P o a w fun u w'=>VRel (Mu.set μ h.blks.size ⟨w.heap.size,0,us.length⟩) v u∧w'=w.alloc (.cells us.toArray e):=by
 obtain⟨dst,op,type,pos,after,guard⟩:=o;dsimp only at hk ho;subst ho;simp only[opK]at hk;split at hk
 ·rename_i k1 l' k2 c' e hl hc hd;split at hk
  ·rename_i zs hz;obtain⟨hb,hk2⟩:=ki hk;have hb:=Nat.eq_of_beq_eq_true hb;rw[Option.bind_eq_some_iff]at hk2;obtain⟨q,hq,hk3⟩:=hk2;unfold kbg at hq;obtain⟨hq1,hq2⟩:=ki hq;simp only[decide_eq_true_eq]at hq1;obtain⟨b1,b2,b3,b4⟩:=hq1;simp only[Option.some.injEq]at hq2;subst hq2;simp only[pk,Option.some.injEq,Prod.mk.injEq]at hk3;obtain⟨hk3,hk4⟩:=hk3;obtain⟨z,ti,hti,hz0,h2,h3⟩:=kgh (μ:=μ) hz;have hsz:z.cells.size=ti.size:=by have:=h2.length;simp[Program.cellsOf,hti]at this hb;omega
   have hvl:=kp F hl;have hvc:=kp F hc;simp only[VRel]at hvl hvc;have hm:(kg:Int)=70368744177664:=rfl;rw[hm]at b3 b4
   have hby:(ti.bytes:Int)*c'≤281474976710656:=by
    have hbe:P.bytesOf e=ti.bytes:=by simp[Program.bytesOf,hti]
    rw[hbe,Int.mul_comm]at b4;omega
   have hrun:=run_make (P:=P) w t e ti z hd hti hz0 k1 k2 l' c' b1 b2 hby (by omega)
   have harr:(madeCells z.cells (c'.toNat*ti.size)).toList=(List.replicate c'.toNat z.cells.toList).flatten:=by
    unfold madeCells;by_cases h0:ti.size=0
    ·have:z.cells.toList=[]:=by apply List.eq_nil_of_length_eq_zero;rw[Array.length_toList];omega
     rw[h0,this];simp[Array.range_zero']
    ·rw[← hsz];exact kmc _ z.cells (by omega)
   refine⟨repC zs c'.toNat,e,(madeCells z.cells (c'.toNat*ti.size)).toList,hk4.symm,by rw[harr,kj4];exact h2.rep _,km1 h3 _,OpGoes.of_sem (s:=Instr.makeSlice t (a.eval l) (a.eval c)) rfl (by rw[hvl,hvc];exact hrun) ⟨?_,by rw[Array.toArray_toList]⟩⟩;rw[← hk3];simp only[VRel,Sl.v];exact⟨_,_,rfl,.inr ⟨_,kdc _ _ _,by simp⟩,by omega,rfl⟩
  ·cases hk
 ·cases hk
def layC:Op→Bool
 | .alloc _ | .box _ _ | .buildSlice _ _ _ | .makeSlice _ _ _=>true
 | _=>false
theorem kun{o:Op}(h:layB o=true):(∃t,o=.makeMap t none)∨layC o=true:=by
 cases o<;>simp_all [layB,layC];rename_i t x;cases x<;>simp_all
theorem kwl{rec:Rec}{o:Op}{ty:TypeId}{fr:Fr}{h:AH}{R:Type}{k:AV→AH→Option R}(hl:layC o=true):opX P rec o ty fr h k=opK P rec o ty fr h k:=by
 cases o<;>simp[layC]at hl<;>rfl
theorem k0a{rec:Rec}{μ:Mu}{N:Nat}{fr:Fr}{h:AH}{w:World}{o:Oper}{a:Act}(F:FRel μ N fr a.tmps)(hl:layC o.op=true){v:AV}{h1:AH}
  (hk:opK P rec o.op o.type fr h pk=some (v,h1)):∃cs e us,h1=h.alloc (.cells cs e)∧VRels μ cs us∧cs.all AV.one=true∧OpGoes P o a w fun u w'=>VRel (Mu.set μ h.blks.size ⟨w.heap.size,0,us.length⟩) v u∧w'=w.alloc (.cells us.toArray e):=by
 have ho:(∃t,o.op=.alloc t)∨(∃t x,o.op=.box t x)∨(∃t n ps,o.op=.buildSlice t n ps)∨∃t l c,o.op=.makeSlice t l c:=by
  revert hl;cases o.op<;>simp[layC]
 rcases ho with⟨t,ho⟩ | ⟨t,x,ho⟩ | ⟨t,n,ps,ho⟩ | ⟨t,l,c,ho⟩
 ·obtain⟨dst,op,type,pos,after,guard⟩:=o;dsimp only at hk ho;subst ho;simp only[opK]at hk;split at hk
  ·rename_i zs hz;simp only[pk,Option.some.injEq,Prod.mk.injEq]at hk;obtain⟨z,h1',h2,h3⟩:=kr8 (μ:=μ) hz w;refine⟨zs,t,_,hk.2.symm,h2,h3,OpGoes.of_sem (s:=Instr.alloc t true (.tuple #[])) rfl (w':=w.alloc (.cells _ t)) (u:=.pointer (some ⟨w.heap.size,0,none⟩)) ?_ ⟨?_,rfl⟩⟩
   ·simp[Instr.alloc,h1',newVar,newRow]
   ·rw[← hk.1];simp only[VRel];exact⟨_,⟨_,kdc _ _ _,by simp⟩,rfl⟩
  ·cases hk
 ·obtain⟨dst,op,type,pos,after,guard⟩:=o;dsimp only at hk ho;subst ho;simp only[opK]at hk;rw[Option.bind_eq_some_iff]at hk;obtain⟨v',hv,hk⟩:=hk;obtain⟨cs,hk,h1',h2,h3,_⟩:=klb hk (kp F hv);simp only[pk,Option.some.injEq,Prod.mk.injEq]at hk;refine⟨cs,t,_,hk.2.symm,h1',h2,OpGoes.of_sem (s:=Instr.box t (a.eval x)) rfl (w':=w.alloc (.cells _ t)) (u:=.pointer (some ⟨w.heap.size,0,none⟩)) ?_ ⟨?_,rfl⟩⟩
  ·simp[Instr.box,newVar,newRow]
  ·rw[← hk.1];simp only[VRel];exact⟨_,⟨_,kdc _ _ _,by simp⟩,rfl⟩
 ·exact kbbi F ho hk
 ·exact k5w F ho hk
theorem ky0{rec:Rec}{fr:Fr}{h:AH}{o:Op}{ty:TypeId}(hl:layC o=true){v:AV}{h1:AH}(hk:opK P rec o ty fr h pk=some (v,h1)):∃cs e,h1=h.alloc (.cells cs e):=by
 have ho:(∃t,o=.alloc t)∨(∃t x,o=.box t x)∨(∃t n ps,o=.buildSlice t n ps)∨∃t l c,o=.makeSlice t l c:=by
  revert hl;cases o<;>simp[layC]
 rcases ho with⟨t,rfl⟩ | ⟨t,x,rfl⟩ | ⟨t,n,ps,rfl⟩ | ⟨t,l,c,rfl⟩
 ·simp only[opK]at hk;split at hk
  ·simp only[pk,Option.some.injEq,Prod.mk.injEq]at hk;exact⟨_,_,hk.2.symm⟩
  ·cases hk
 ·simp only[opK]at hk;rw[Option.bind_eq_some_iff]at hk;obtain⟨v',hv,hk⟩:=hk;obtain⟨g,e⟩:=km8;rw[e,Option.bind_eq_some_iff]at hk;obtain⟨cs,_,hk⟩:=hk;simp only[pk,Option.some.injEq,Prod.mk.injEq]at hk;exact⟨_,_,hk.2.symm⟩
 ·simp only[opK]at hk;split at hk
  ·split at hk
   ·obtain⟨hb,hk2⟩:=ki hk;obtain⟨g,e⟩:=kn5;rw[e,Option.bind_eq_some_iff]at hk2;obtain⟨cs,_,hk2⟩:=hk2;simp only[pk,Option.some.injEq,Prod.mk.injEq]at hk2;exact⟨_,_,hk2.2.symm⟩
   ·cases hk
  ·cases hk
 ·simp only[opK]at hk;split at hk
  ·split at hk
   ·obtain⟨hb,hk2⟩:=ki hk;rw[Option.bind_eq_some_iff]at hk2;obtain⟨q,hq,hk3⟩:=hk2;unfold kbg at hq;obtain⟨hq1,hq2⟩:=ki hq;simp only[Option.some.injEq]at hq2;subst hq2;simp only[pk,Option.some.injEq,Prod.mk.injEq]at hk3;exact⟨_,_,hk3.2.symm⟩
   ·cases hk
  ·cases hk
theorem k3a{rec:Rec}{fr:Fr}{h:AH}{o:Op}{ty:TypeId}(hl:layB o=true){v:AV}{h1:AH}(hk:opX P rec o ty fr h pk=some (v,h1)):∃(_:Unit)(b:ABlk),h1=h.alloc b:=by
 rcases kun hl with⟨t,rfl⟩ | hc
 ·have hk:some ((AV.map (some h.blks.size)),h.alloc (.map [] 0))=some (v,h1):=hk;cases hk;exact⟨(),_,rfl⟩
 ·rw[kwl hc]at hk;obtain⟨cs,e,q⟩:=ky0 hc hk;exact⟨(),_,q⟩
theorem AnyA.final{rec:Rec}{N:Nat}{ops:Array Oper}{an:Nat→Nat}{k:Fr→AH→Option (AV×AH)}{r:AV×AH}:∀(n:Nat){l:Array Bool}{ps:List Look}{fr:Fr}{h:AH},AnyA P rec N ops an k r n l ps fr h→
  ∃fr' h',k fr' h'=some r∧∀t,(∀j o,ops[j]?=some o→l.getD j false=false→o.dst≠some t)→fr'.get t=fr.get t
 | 0,l,ps,fr,h,H=>⟨fr,h,H.2,fun _ _=>rfl⟩
 | n+1,l,ps,fr,h,H=>by
  by_cases hr:Region.ready .any ops l=[]
  ·exact⟨fr,h,H.1 hr,fun _ _=>rfl⟩
  ·obtain⟨i,hi⟩:=List.exists_mem_of_ne_nil _ hr;obtain⟨hun,o,ho,-⟩:=mem_ready.1 hi
   have hun':l.getD i false=false:=by
    rw[Array.getD_eq_getD_getElem?]at hun⊢;cases hq:l[i]? with
    | none=>rfl
    | some b=>rw[hq]at hun;simpa using hun
   obtain⟨v,h1,e1,e2,ec,e3⟩:=H.2 i hi o ho;obtain⟨fr',h',k1,k2⟩:=AnyA.final n e3;refine⟨fr',h',k1,fun t ht=>?_⟩
   rw[k2 t fun j oj hoj hl=>ht j oj hoj (by
    by_cases hij:i=j
    ·subst hij;exact hun'
    ·rwa[getD_set_ne false hij]at hl),kh0]
   intro s hs hst;exact ht i o ho hun' (by rw[hs,hst])
section
variable{O:World}{N:Nat}{ops0 ops:Array Oper}{J:Nat→Option (Nat×ABlk×Unit×AV)}{fp:Fr}
def Laid(P:Program)(o:Oper)(fp:Fr)(j:Nat)(t:ABlk)(zs:Unit)(v:AV):Prop:=∃(rec:Rec)(h:AH),opX P rec o.op o.type fp h pk=some (v,h.alloc t)∧h.blks.size=j
structure ResOps(P:Program)(N:Nat)(ops0 ops:Array Oper)(J:Nat→Option (Nat×ABlk×Unit×AV))(fp:Fr):Prop where
 size:ops.size=ops0.size
 same:∀i,J i=none→ops[i]?=ops0[i]?
 res:∀i j t zs v,J i=some (j,t,zs,v)→∃o,ops0[i]?=some o∧layB o.op=true∧Laid P o fp j t zs v∧heldB ops0 o=true∧ops[i]?=some {o with op:=.move (.tmp (N+i))}
 inj:∀i i' j t zs v t' zs' v',J i=some (j,t,zs,v)→J i'=some (j,t',zs',v')→i=i'
theorem ResOps.dst(R:ResOps P N ops0 ops J fp)(j:Nat):(ops[j]?).bind (·.dst)=(ops0[j]?).bind (·.dst):=by
 cases hJ:J j with
 | none=>rw[R.same j hJ]
 | some x =>
  obtain⟨id,t,zs,v⟩:=x;obtain⟨o,h1,_,_,_,h4⟩:=R.res j id t zs v hJ;rw[h1,h4];rfl
theorem ResOps.ready_iff(R:ResOps P N ops0 ops J fp){l:Array Bool}{i:Nat}:i∈Region.ready .any ops l↔i∈Region.ready .any ops0 l:=by
 rw[mem_ready,mem_ready];cases hJ:J i with
 | none=>rw[R.same i hJ]
 | some x =>
  obtain⟨id,t,zs,v⟩:=x;obtain⟨o,h1,_,_,_,h4⟩:=R.res i id t zs v hJ;rw[h1,h4];simp
theorem ResOps.ready_nil(R:ResOps P N ops0 ops J fp){l:Array Bool}:Region.ready .any ops l=[]↔Region.ready .any ops0 l=[]:=by
 constructor<;>intro h<;>rw[List.eq_nil_iff_forall_not_mem]at h⊢<;>intro i hi
 ·exact h i (R.ready_iff.2 hi)
 ·exact h i (R.ready_iff.1 hi)
theorem k4x{o:Oper}(hh:heldB ops0 o=true){l:Array Bool}(hd:∀e∈o.after,Region.binds .any e=true→l.getD e.on false=true){t:Tmp}(ht:.tmp t∈o.op.operands.toList) :
  ∀j oj,ops0[j]?=some oj→l.getD j false=false→oj.dst≠some t:=by
 intro j oj hoj hl hdst;unfold heldB at hh;rw[List.all_eq_true]at hh;have hj:j<ops0.size:=(Array.getElem?_eq_some_iff.1 hoj).1;have:=hh j (List.mem_range.2 hj);rw[hoj,Option.bind_some,hdst]at this;dsimp only at this
 have hany:o.op.operands.toList.any (isTmp t)=true:=by
  rw[List.any_eq_true];exact⟨_,ht,by simp[isTmp]⟩
 rw[hany,Bool.not_true,Bool.false_or,kju]at this;obtain⟨e,he,hb,hon⟩:=this;have:=hd e he hb;rw[hon,hl]at this;cases this
theorem Sim.lay{μ:Mu}{h:AH}{w:World}(S:Sim P O μ h w){j n:Nat}{bb:ABlk}{ob:Obj}(hj:h.blks[j]?=some bb)(hμ:μ j=none)(hB:∀ν,Mu.le μ ν→BRel P ν ⟨w.heap.size,0,n⟩ (w.alloc ob) bb) :
  Sim P O (Mu.set μ j ⟨w.heap.size,0,n⟩) h (w.alloc ob):=by
 have hle:=Mu.le_set (L:=⟨w.heap.size,0,n⟩) hμ;have hjs:j<h.blks.size:=(Array.getElem?_eq_some_iff.1 hj).1;refine{old:=S.old,os:=S.os,tape:=S.tape,output:=S.output,base:=by have:=S.base;simp;omega,dom:=fun i L hL=>?_,keep:=fun b hb=>?_,place:=fun i L hL=>?_,blk:=fun i L b hL hb=>?_,inj:=fun i k L M hL hM li lk he=>?_}
 ·rw[kch _ _ _ (Nat.lt_of_lt_of_le hb S.base)];exact S.keep b hb
 ·unfold Mu.set at hL;split at hL
  ·subst_vars;exact hjs
  ·exact S.dom i L hL
 ·unfold Mu.set at hL;split at hL
  ·cases hL;have:=S.base;simp;omega
  ·have:=S.place i L hL;simp;omega
 ·unfold Mu.set at hL;split at hL
  ·rename_i hi;subst hi;cases hL;rw[hj]at hb;cases hb;exact hB _ hle
  ·exact(S.blk i L b hL hb).step hle fun _=>kch _ _ _ (S.place i L hL).2
 ·unfold Mu.set at hL hM;split at hL<;>split at hM
  ·omega
  ·cases hL;have:=S.place k M hM;simp at he;omega
  ·cases hM;have:=S.place i L hL;simp at he;omega
  ·exact S.inj i k L M hL hM li lk he
theorem k4f{rec:Rec}{μ:Mu}{N:Nat}{fr:Fr}{h:AH}{w:World}{o:Oper}{a:Act}(F:FRel μ N fr a.tmps)(hl:layB o.op=true){v:AV}{h1:AH}
  (hk:opX P rec o.op o.type fr h pk=some (v,h1)):∃b,h1=h.alloc b∧∀{hc:AH},Sim P O μ hc w→hc.blks[h.blks.size]?=some b→μ h.blks.size=none→
   OpGoes P o a w fun u w'=>∃n,VRel (Mu.set μ h.blks.size ⟨w.heap.size,0,n⟩) v u∧Sim P O (Mu.set μ h.blks.size ⟨w.heap.size,0,n⟩) hc w'∧w.heap.size≤w'.heap.size∧∀b,b<w.heap.size→w'.heap[b]?=w.heap[b]?:=by
 rcases kun hl with⟨t,ho⟩ | hc
 ·rw[ho]at hk;have hk:some ((AV.map (some h.blks.size)),h.alloc (.map [] 0))=some (v,h1):=hk;cases hk;refine⟨_,rfl,fun{hc} S hj hμ=>?_⟩;refine OpGoes.of_sem (s:=Instr.makeMap t none) (u:=.map (some w.heap.size)) (w':=w.alloc (.map #[] 0)) (by simp[execOp,ho]) ?_ ⟨0,?_,S.lay hj hμ fun ν hle=>⟨#[],ke9 _ _,rfl,by simp⟩,by simp,fun b hb=>kch _ _ _ hb⟩
  ·simp[Instr.makeMap,run_newObj_alloc,Result.andThen]
  ·simp only[VRel];exact⟨_,kdc _ _ _,rfl⟩
 ·rw[kwl hc]at hk;obtain⟨cs,e,us,hE,hv,hone,hgo⟩:=k0a (w:=w) F hc hk;refine⟨_,hE,fun{hcur} S hj hμ=>?_⟩;intro K Q hK;refine hgo K Q fun u w' ⟨hu,hw⟩=>hK u w' ?_;subst hw;refine⟨us.length,hu,S.lay hj hμ fun ν hle=>⟨⟨_,ke9 _ _,by simp,by simp;have:=hv.length;omega,fun k v hk=>?_⟩,hone⟩,by simp,fun b hb=>kch _ _ _ hb⟩;obtain⟨u,hu,huv⟩:=hv.get k v hk;exact⟨u,by simpa using hu,huv.mono hle⟩
theorem Ext.lay{μ0 μ:Mu}{h0 h:AH}{w0 w:World}(E:Ext μ0 h0 w0 μ h)(hw:w0.heap.size≤w.heap.size){j:Nat}(hj0:h0.blks.size≤j)(hμ:μ j=none){b t:Nat}:Ext μ0 h0 w0 (Mu.set μ j ⟨w.heap.size,b,t⟩) h:=by
 obtain⟨e1,e2,e3,e4,e5⟩:=E;refine⟨e1,Mu.le_trans e2 (Mu.le_set hμ),fun i hi=>?_,e4,fun i L h1 h2 hL=>?_⟩
 ·unfold Mu.set;rw[if_neg (by omega),e3 i hi]
 ·unfold Mu.set at hL;split at hL
  ·cases hL;exact .inl hw
  ·exact e5 i L h1 h2 hL
theorem kq3{R:Type}{cs:List Operand}{a b:Fr}{x:Option R}{r:R}(h:finK cs a b x=some r):(∀c∈cs,evO a c=evO b c)∧x=some r:=by
 unfold finK at h;split at h
 ·exact⟨fun _ hc=>(by cases hc),h⟩
 ·rename_i c cs;unfold whenK at h;split at h
  ·rename_i he;refine⟨fun y hy=>?_,h⟩;exact List.map_inj_left.1 he y hy
  ·cases h
theorem kqa{R:Type}{cs:List Operand}{a a' b b':Fr}(e:a.same a')(f:b.same b'){x:Option R}:finK cs a b x=finK cs a' b' x:=by
 have h1:∀c,evO a c=evO a' c:=fun c=>kcf fun t _=>e t;have h2:∀c,evO b c=evO b' c:=fun c=>kcf fun t _=>f t;unfold finK;split
 ·rfl
 ·rw[funext h1,funext h2]
theorem Oper.mem_looksAt{ops:Array Oper}{o:Oper}{s:Tmp}(h:.tmp s∈o.op.operands.toList):s∈Oper.looksAt ops o:=by
 unfold Oper.looksAt;exact List.mem_append_left _ (List.mem_filterMap.2 ⟨_,h,rfl⟩)
theorem AnyA.soundR{rec:Rec}(hrec:RecOk P O rec)(R:ResOps P N ops0 ops J fp)(hlow:∀(i:Nat)(o:Oper),ops0[i]?=some o→∀t∈Oper.looksAt ops0 o,t<N){an:Nat→Nat}
  (hanc:∀l,Closed ops l→∀j∈Region.ready .any ops l,∀i,(an j).testBit i=true→l.getD i false=true)
  {k:Fr→AH→Option (AV×AH)} {cs:List Operand} (hcs:∀i x,J i=some x→∀o,ops0[i]?=some o→∀c∈o.op.operands.toList,c∈cs) {r:AV×AH} {μ0:Mu} {h0:AH} {w0:World}:∀(n:Nat){l:Array Bool}{ps:List Look}{fr:Fr}{h:AH}{μ:Mu}{w:World}{a:Act},Closed ops l→
  AnyA P rec N ops an (fun fr h=>finK cs (fr.low N) fp (k (fr.low N) h)) r n l ps fr h→Sim P O μ h w→FRel μ N (fr.low N) a.tmps→Ext μ0 h0 w0 μ h→Frm μ0 h0 w0 w→
  (∀i j t zs v,J i=some (j,t,zs,v)→fr.get (N+i)=some v∧(⟨i,.new j 0,0⟩:Look)∈ps∧h0.blks.size≤j∧(l.getD i false=false→h.blks[j]?=some t∧μ j=none))→
  wpAny P .any ops0 (After P O μ0 N h0 w0 a.defers k r) n l a w
 | 0,l,ps,fr,h,μ,w,a,C,H,S,F,E,M,HJ=>⟨R.ready_nil.1 H.1,rfl,rfl,fr.low N,h,μ,(kq3 H.2).2,S,F,E,M⟩
 | n+1,l,ps,fr,h,μ,w,a,C,H,S,F,E,M,HJ=>by
  refine⟨fun hr=>⟨rfl,rfl,fr.low N,h,μ,(kq3 (H.1 (R.ready_nil.2 hr))).2,S,F,E,M⟩,fun i hi=>?_⟩;have hi':=R.ready_iff.2 hi;obtain⟨hun,o',ho',-⟩:=mem_ready.1 hi';obtain⟨v,h1,e1,e2,ec,e3⟩:=H.2 i hi' o' ho'
  have hun':l.getD i false=false:=by
   rw[Array.getD_eq_getD_getElem?]at hun⊢;cases hq:l[i]? with
   | none=>rfl
   | some b=>rw[hq]at hun;simpa using hun
  have C':=C.set hi'
  have put:∀{ν:Mu}{u:Value}{h2:AH}{w1:World},h2=h1→FRel ν N (fr.low N) a.tmps→VRel ν v u→Sim P O ν h2 w1→Ext μ0 h0 w0 ν h2→Frm μ0 h0 w0 w1→
    (∀i' j t zs v,i'≠i→J i'=some (j,t,zs,v)→l.getD i' false=false→h2.blks[j]?=some t∧ν j=none)→
    wpAny P .any ops0 (After P O μ0 N h0 w0 a.defers k r) n (l.setIfInBounds i true) (a.put o'.dst u) w1:=by
   intro ν u h2 w1 hh F' hv S' E' M' HB;subst hh
   have F2:FRel ν N ((putd o'.dst v fr).low N) (a.put o'.dst u).tmps:=by
    rw[kzm e2];cases hd:o'.dst with
    | none=>exact F'
    | some t =>
     have:=e2 t hd;exact F'.put (by simpa[Nat.blt_eq]using this) hv
   have:=AnyA.soundR hrec R hlow hanc hcs n (a:=a.put o'.dst u) C' e3 S' F2 E' M' (fun i' j t zs v hj=>by
    obtain⟨g1,g2,g3,g4⟩:=HJ i' j t zs v hj;refine⟨?_,?_,g3,fun hl=>?_⟩
    ·have hne:∀s,o'.dst=some s→s≠N+i':=fun s hs=>by
      have:=e2 s hs;have h3:s<N:=by simpa[Nat.blt_eq]using this
      intro hc;rw[hc]at h3;exact absurd h3 (Nat.not_lt.2 (Nat.le_add_right N i'))
     rw[kh0 hne];exact g1
    ·cases nonEff o'.op with
     | true=>exact List.mem_append_right _ g2
     | false=>exact g2
    ·by_cases hii:i'=i
     ·subst hii;exfalso
      have hlt:i'<l.size:=by
       rcases Nat.lt_or_ge i' l.size with h | h
       ·exact h
       ·rw[Array.getD_eq_getD_getElem?,Array.getElem?_eq_none h]at hun;cases hun
      rw[Array.getD_eq_getD_getElem?,Array.getElem?_setIfInBounds_self,if_pos hlt]at hl;cases hl
     ·rw[getD_set_ne false (fun h=>hii h.symm)]at hl;exact HB i' j t zs v hii hj hl)
   rw[Go.Ab.put_defers]at this;exact this
  have stay:∀i' j t zs v,J i'=some (j,t,zs,v)→l.getD i' false=false→h1.blks[j]?=some t:=by
   intro i' j t zs v hj hl;obtain⟨g1,g2,g3,g4⟩:=HJ i' j t zs v hj;cases hne:nonEff o'.op with
   | true=>rw[(kke (i:=i) hne e1).1];exact(g4 hl).1
   | false =>
    have hb:(an i).testBit i'=false:=by
     cases hb:(an i).testBit i' with
     | false=>rfl
     | true =>
      have:=hanc l C i hi' i' hb;rw[hl]at this;cases this
    have:=(ec hne _ g2 hb).2 rfl;rw[show h1.blks[j]?=h.blks[j]? from this];exact(g4 hl).1
  cases hJ:J i with
  | none =>
   rw[R.same i hJ]at ho';have hlo:=hlow i o' ho'
   have e1':valA P rec ops0 o' (fr.low N) h=some (v,h1):=by
    rw[← e1];have a1:valA P rec ops0 o' (fr.low N) h=valA P rec ops0 o' fr h:=kmh fun t ht=>by rw[kew,if_pos (hlo t ht)]
    rw[a1];unfold valA;simp only[R.dst]
   unfold wpOp;simp only[ho']
   have go:opX P rec o'.op o'.type (fr.low N) h pk=some (v,h1)→Region.wanted o' (yielded ops0 a.tmps)=true→
     (if Region.wanted o' (yielded ops0 a.tmps)=true then o'.wp P a w (wpAny P .any ops0 (After P O μ0 N h0 w0 a.defers k r) n (l.setIfInBounds i true)) (After P O μ0 N h0 w0 a.defers k r)∨(o'.asks P a w∧LetsOut (After P O μ0 N h0 w0 a.defers k r))else wpAny P .any ops0 (After P O μ0 N h0 w0 a.defers k r) n (l.setIfInBounds i true) (a.put o'.dst undef) w):=by
    intro hop hw;rw[if_pos hw]
    left
    obtain⟨v',h1',hk1,hgo⟩:=ktq hrec S F hop;simp only[pk,Option.some.injEq,Prod.mk.injEq]at hk1;obtain⟨rfl,rfl⟩:=hk1;refine hgo _ _ fun u w' ⟨ν,g1,g2,g3,g4⟩=>?_;refine put rfl (F.mono g3.2.1) g1 g2 (E.trans g3 M.1) (M.trans E g4) fun i' j t zs v hii hj hl=>⟨stay i' j t zs v hj hl,?_⟩;obtain⟨q1,q2,q3,q4⟩:=HJ i' j t zs v hj;have hlt:j<h.blks.size:=(Array.getElem?_eq_some_iff.1 (q4 hl).1).1;rw[g3.2.2.1 j hlt];exact(q4 hl).2
   have skip:v=.tup []→h1=h→Region.wanted o' (yielded ops0 a.tmps)=false→
     (if Region.wanted o' (yielded ops0 a.tmps)=true then o'.wp P a w (wpAny P .any ops0 (After P O μ0 N h0 w0 a.defers k r) n (l.setIfInBounds i true)) (After P O μ0 N h0 w0 a.defers k r)∨(o'.asks P a w∧LetsOut (After P O μ0 N h0 w0 a.defers k r))else wpAny P .any ops0 (After P O μ0 N h0 w0 a.defers k r) n (l.setIfInBounds i true) (a.put o'.dst undef) w):=by
    intro hv0 hh hw;rw[if_neg (by rw[hw];simp)];refine put (u:=undef) hh.symm F (by rw[hv0];simp[VRel,undef,VRels]) S E M fun i' j t zs v hii hj hl=>⟨?_,?_⟩
    ·exact((HJ i' j t zs v hj).2.2.2 hl).1
    ·exact((HJ i' j t zs v hj).2.2.2 hl).2
   unfold valA at e1';split at e1'
   ·rename_i hg;exact go e1' (by simp[Region.wanted,hg])
   ·rename_i j b hg;split at e1'
    ·cases e1'
    ·rename_i t ht;split at e1'
     ·rename_i c hget;obtain⟨u,hu,hvu⟩:=F.get t _ hget;simp only[VRel]at hvu;subst hvu;have hy:yielded ops0 a.tmps j=some c:=by simp[yielded,ht,hu]
      have hwant:Region.wanted o' (yielded ops0 a.tmps)=(c==b):=by simp[Region.wanted,hg,hy]
      cases hcb:(c==b)with
      | true=>rw[hcb]at e1';exact go e1' (hwant.trans hcb)
      | false =>
       rw[hcb]at e1';simp only[cond_false,Option.some.injEq,Prod.mk.injEq]at e1';exact skip e1'.1.symm e1'.2.symm (hwant.trans hcb)
     ·rename_i hget;obtain⟨u,hu,hvu⟩:=F.get t _ hget;simp only[VRel]at hvu;obtain⟨us,rfl,_⟩:=hvu;have hy:yielded ops0 a.tmps j=none:=by simp[yielded,ht,hu]
      simp only[Option.some.injEq,Prod.mk.injEq]at e1';exact skip e1'.1.symm e1'.2.symm (by simp[Region.wanted,hg,hy])
     ·cases e1'
  | some x =>
   obtain⟨j,t,zs,hd⟩:=x;obtain⟨o,ho,hlay,hlaid,hheld,ho2⟩:=R.res i j t zs hd hJ;rw[ho2]at ho';cases ho';obtain⟨q1,q2,q3,q4⟩:=HJ i j t zs hd hJ;obtain⟨hblk,hμ⟩:=q4 hun';unfold wpOp;simp only[ho]
   have hall:∀e∈o.after,Region.binds .any e=true→l.getD e.on false=true:=by
    obtain⟨_,oi,hoi,hall⟩:=mem_ready.1 hi;rw[ho]at hoi;cases hoi;exact hall
   obtain⟨frF,hF,kF,gF⟩:=AnyA.final (n+1) H
   have hsame:∀c∈o.op.operands.toList,evO (fr.low N) c=evO fp c:=by
    intro c hc;rw[← (kq3 kF).1 c (hcs i _ hJ o ho c hc)];cases c with
    | tmp s =>
     have hs:=hlow i o ho s (Oper.mem_looksAt hc);show(fr.low N).get s=(frF.low N).get s;rw[kew,kew,if_pos hs,if_pos hs];refine(gF s fun j' oj hoj hl hdst=>?_).symm;have h0:=R.dst j';rw[hoj,Option.bind_some,hdst]at h0;cases hq:ops0[j']? with
     | none=>rw[hq]at h0;cases h0
     | some oq =>
      rw[hq,Option.bind_some]at h0;exact k4x hheld hall hc j' oq hq hl h0.symm
    | _=>rfl
   have go:v=hd→h1=h→Region.wanted o (yielded ops0 a.tmps)=true→
     (if Region.wanted o (yielded ops0 a.tmps)=true then o.wp P a w (wpAny P .any ops0 (After P O μ0 N h0 w0 a.defers k r) n (l.setIfInBounds i true)) (After P O μ0 N h0 w0 a.defers k r)∨(o.asks P a w∧LetsOut (After P O μ0 N h0 w0 a.defers k r))else wpAny P .any ops0 (After P O μ0 N h0 w0 a.defers k r) n (l.setIfInBounds i true) (a.put o.dst undef) w):=by
    intro hv0 hh hw;rw[if_pos hw]
    left
    obtain⟨rec',hx,hk',hj⟩:=hlaid;rw[← kjw hsame]at hk';obtain⟨b0,hE,hgo⟩:=k4f (w:=w) F hlay hk'
    have hz:t=b0:=by
     have h2:(hx.blks.push t)=hx.blks.push b0:=congrArg AH.blks hE;have h3:(hx.blks.push t)[hx.blks.size]?=(hx.blks.push b0)[hx.blks.size]?:=by rw[h2]
     simpa using h3
    subst hz;rw[hj]at hgo;refine hgo S hblk hμ _ _ ?_
    rintro u w' ⟨nn,hu,hS,hle,hkeep⟩
    refine put (ν:=Mu.set μ j ⟨w.heap.size,0,nn⟩) hh.symm (F.mono (Mu.le_set hμ)) ?_ hS (E.lay M.1 q3 hμ) ⟨Nat.le_trans M.1 hle,fun b hb hn=>?_⟩ fun i' j' t' zs' v' hii hj' hl=>⟨?_,?_⟩
    ·rw[hv0];exact hu
    ·rw[hkeep b (Nat.lt_of_lt_of_le hb M.1)];exact M.2 b hb hn
    ·exact((HJ i' j' t' zs' v' hj').2.2.2 hl).1
    ·unfold Mu.set;rw[if_neg]
     ·exact((HJ i' j' t' zs' v' hj').2.2.2 hl).2
     ·rintro rfl
      exact hii (R.inj i' i j' t' zs' v' t zs hd hj' hJ)
   have skip:v=.tup []→h1=h→Region.wanted o (yielded ops0 a.tmps)=false→
     (if Region.wanted o (yielded ops0 a.tmps)=true then o.wp P a w (wpAny P .any ops0 (After P O μ0 N h0 w0 a.defers k r) n (l.setIfInBounds i true)) (After P O μ0 N h0 w0 a.defers k r)∨(o.asks P a w∧LetsOut (After P O μ0 N h0 w0 a.defers k r))else wpAny P .any ops0 (After P O μ0 N h0 w0 a.defers k r) n (l.setIfInBounds i true) (a.put o.dst undef) w):=by
    intro hv0 hh hw;rw[if_neg (by rw[hw];simp)];refine put (u:=undef) hh.symm F (by rw[hv0];simp[VRel,undef,VRels]) S E M fun i' j' t' zs' v' hii hj' hl=>⟨?_,?_⟩
    ·exact((HJ i' j' t' zs' v' hj').2.2.2 hl).1
    ·exact((HJ i' j' t' zs' v' hj').2.2.2 hl).2
   have mv:opX P rec (.move (.tmp (N+i))) o.type fr h pk=some (v,h1)→v=hd∧h1=h:=by
    intro hk;rw[ksg rfl]at hk;simp only[opK,evO,kh9,q1,Option.bind_some,pk,Option.some.injEq,Prod.mk.injEq]at hk;exact⟨hk.1.symm,hk.2.symm⟩
   have hguard:=hlow i o ho;unfold valA at e1;dsimp only at e1;split at e1
   ·rename_i hg;obtain⟨k1,k2⟩:=mv e1;exact go k1 k2 (by simp[Region.wanted,hg])
   ·rename_i jj b hg;rw[R.dst]at e1;split at e1
    ·cases e1
    ·rename_i tt ht;have htN:tt<N:=hguard tt (by simp[Oper.looksAt,hg,ht]);split at e1
     ·rename_i c hget;obtain⟨u,hu,hvu⟩:=F.get tt _ (by rw[kew,if_pos htN];exact hget);simp only[VRel]at hvu;subst hvu;have hy:yielded ops0 a.tmps jj=some c:=by simp[yielded,ht,hu]
      have hwant:Region.wanted o (yielded ops0 a.tmps)=(c==b):=by simp[Region.wanted,hg,hy]
      cases hcb:(c==b)with
      | true =>
       rw[hcb]at e1;obtain⟨k1,k2⟩:=mv e1;exact go k1 k2 (hwant.trans hcb)
      | false =>
       rw[hcb]at e1;simp only[cond_false,Option.some.injEq,Prod.mk.injEq]at e1;exact skip e1.1.symm e1.2.symm (hwant.trans hcb)
     ·rename_i hget;obtain⟨u,hu,hvu⟩:=F.get tt _ (by rw[kew,if_pos htN];exact hget);simp only[VRel]at hvu;obtain⟨us,rfl,_⟩:=hvu;have hy:yielded ops0 a.tmps jj=none:=by simp[yielded,ht,hu]
      simp only[Option.some.injEq,Prod.mk.injEq]at e1;exact skip e1.1.symm e1.2.symm (by simp[Region.wanted,hg,hy])
     ·cases e1
theorem kuq{rec:Rec}(hrec:RecOk P O rec){order:List Nat}{k:Fr→AH→Option (AV×AH)}{r:AV×AH}(hk:∀(a b:Fr)(h:AH),a.same b→k a h=k b h)(hlow:∀(i:Nat)(o:Oper),ops0[i]?=some o→∀t∈Oper.looksAt ops0 o,t<N)
  {μ:Mu} {h0:AH} {w:World} {a:Act} (S0:Sim P O μ h0 w):∀(is:List Nat){cs:List Operand}{ops:Array Oper}{ps:List Look}{fr:Fr}{h:AH}{J:Nat→Option (Nat×ABlk×Unit×AV)},ResOps P N ops0 ops J fp→(∀i x,J i=some x→∀o,ops0[i]?=some o→∀c∈o.op.operands.toList,c∈cs)→Sim P O μ h w→FRel μ N (fr.low N) a.tmps→h0.blks.size≤h.blks.size→(∀i,i<h0.blks.size→h.blks[i]?=h0.blks[i]?)→
  (∀i j t zs v,J i=some (j,t,zs,v)→fr.get (N+i)=some v∧(⟨i,.new j 0,0⟩:Look)∈ps∧h0.blks.size≤j∧j<h.blks.size∧h.blks[j]?=some t)→
  drawR P rec N order fp is cs ops ps fr h k=some r→wpAny P .any ops0 (After P O μ N h0 w a.defers k r) ops0.size (Array.replicate ops0.size false) a w
 | [],cs,ops,ps,fr,h,J,R,hcs,S,F,hs,hb,HJ,hd=>by
  simp only[drawR]at hd;cases hbq:Nat.beq order.length ops.size with
  | false=>rw[hbq]at hd;cases hd
  | true =>
   rw[hbq,cond_true]at hd
   have hk':∀(a b:Fr)(h:AH),a.same b→(fun(fr:Fr) (h:AH)=>finK cs (fr.low N) fp (k (fr.low N) h)) a h=(fun(fr:Fr) (h:AH)=>finK cs (fr.low N) fp (k (fr.low N) h)) b h:=fun a b h e=>by
    show finK cs (a.low N) fp (k (a.low N) h)=finK cs (b.low N) fp (k (b.low N) h);rw[hk _ _ _ (e.low N),kqa (e.low N) (Fr.same.refl fp)]
   have C0:Closed ops (Array.replicate ops.size false):=⟨by simp,fun j o hj=>by
    rw[Array.getD_eq_getD_getElem?,Array.getElem?_replicate]at hj;split at hj<;>simp at hj⟩
   have any:=kkf (l:=Array.replicate ops.size false) hk' order ⟨by simp,fun j=>by simp[Array.getElem?_replicate];split<;>rfl⟩ C0 hd;rw[Nat.eq_of_beq_eq_true hbq]at any
   have hnone:∀j,h0.blks.size≤j→μ j=none:=fun j hj=>by
    cases hq:μ j with
    | none=>rfl
    | some L=>have:=S0.dom _ _ hq;omega
   have E:Ext μ h0 w μ h:=⟨hs,Mu.le_refl μ,fun _ _=>rfl,fun i hi hl b hbb=>hl b (by rw[hb i hi];exact hbb),fun i L h1 h2 hL=>by rw[hnone i h1]at hL;cases hL⟩
   have:=AnyA.soundR hrec R hlow anc_ok hcs (μ0:=μ) (h0:=h0) (w0:=w) ops.size C0 any S F E ⟨Nat.le_refl _,fun _ _ _=>rfl⟩ (fun i j t zs v hj=>by
    obtain⟨g1,g2,g3,g4,g5⟩:=HJ i j t zs v hj;exact⟨g1,g2,g3,fun _=>⟨g5,hnone j g3⟩⟩)
   rw[R.size]at this;exact this
 | i::is,cs,ops,ps,fr,h,J,R,hcs,S,F,hs,hb,HJ,hd=>by
  simp only[drawR]at hd;split at hd
  ·rename_i o ho;obtain⟨hlb,hd⟩:=ki hd;rw[Bool.and_eq_true]at hlb;obtain⟨hlay,hheld⟩:=hlb;rw[kg9,Option.bind_eq_some_iff]at hd;obtain⟨⟨v,h1⟩,hop,hd⟩:=hd;dsimp only at hd;obtain⟨zs,t,rfl⟩:=k3a hlay hop
   have hJi:J i=none:=by
    cases hq:J i with
    | none=>rfl
    | some x =>
     obtain⟨j,t',zs',v'⟩:=x;obtain⟨o2,_,_,_,_,h4⟩:=R.res i j t' zs' v' hq;rw[h4]at ho;cases ho;cases hlay
   have ho0:ops0[i]?=some o:=by rw[← R.same i hJi];exact ho
   have hsz:i<ops.size:=(Array.getElem?_eq_some_iff.1 ho).1
   have hheld0:heldB ops0 o=true:=by
    rw[← hheld];unfold heldB;rw[R.size];simp only[R.dst]
   refine kuq hrec hk hlow S0 is (J:=fun x=>if x=i then some (h.blks.size,t,zs,v)else J x) ?_ ?_ ?_ ?_ ?_ ?_ ?_ hd
   ·refine⟨by simpa using R.size,fun x hx=>?_,fun x j t' zs' v' hx=>?_,fun x x' j t1 z1 v1 t2 z2 v2 hx hx'=>?_⟩
    ·by_cases hxi:x=i
     ·rw[if_pos hxi]at hx;cases hx
     ·rw[if_neg hxi]at hx;rw[Array.getElem?_setIfInBounds_ne (fun h=>hxi h.symm)];exact R.same x hx
    ·by_cases hxi:x=i
     ·subst hxi;rw[if_pos rfl]at hx;cases hx;exact⟨o,ho0,hlay,⟨rec,h,hop,rfl⟩,hheld0,by rw[Array.getElem?_setIfInBounds_self,if_pos hsz]⟩
     ·rw[if_neg hxi]at hx;obtain⟨o2,h1,h2,h3,h4,h5⟩:=R.res x j t' zs' v' hx;exact⟨o2,h1,h2,h3,h4,by rw[Array.getElem?_setIfInBounds_ne (fun h=>hxi h.symm)];exact h5⟩
    ·by_cases hxi:x=i<;>by_cases hxi':x'=i
     ·rw[hxi,hxi']
     ·rw[if_pos hxi]at hx;rw[if_neg hxi']at hx';cases hx;have:=(HJ x' _ t2 z2 v2 hx').2.2.2.1;omega
     ·rw[if_neg hxi]at hx;rw[if_pos hxi']at hx';cases hx';have:=(HJ x _ t1 z1 v1 hx).2.2.2.1;omega
     ·rw[if_neg hxi]at hx;rw[if_neg hxi']at hx';exact R.inj x x' j t1 z1 v1 t2 z2 v2 hx hx'
   ·intro x y hx ox hox c hc;by_cases hxi:x=i
    ·subst hxi;rw[ho0]at hox;cases hox;exact List.mem_append_left _ hc
    ·rw[if_neg hxi]at hx;exact List.mem_append_right _ (hcs x y hx ox hox c hc)
   ·
    refine{old:=S.old,os:=S.os,tape:=S.tape,output:=S.output,base:=S.base,keep:=S.keep,dom:=fun x L hL=>?_,place:=S.place,blk:=fun x L b hL hbb=>?_,inj:=fun x y L M hL hM lx ly he=>?_}
    ·have:=S.dom x L hL;simp;omega
    ·have hx:=S.dom x L hL;refine S.blk x L b hL ?_;simp only[Array.getElem?_push]at hbb;rwa[if_neg (by omega)]at hbb
    ·have hx:=S.dom x L hL;have hy:=S.dom y M hM;exact S.inj x y L M hL hM (kfm (by omega) lx) (kfm (by omega) ly) he
   ·have:Fr.low N ((N+i,v)::fr)=fr.low N:=by
     show List.filter _ (_::fr)=_;rw[List.filter_cons];dsimp only
     rw[show Nat.blt (N+i) N=false from by
      cases hq:Nat.blt (N+i) N with
      | false=>rfl
      | true =>
       have:N+i<N:=by simpa[Nat.blt_eq]using hq
       omega]
     rfl
    rw[this];exact F
   ·simp;omega
   ·intro x hx;simp only[Array.getElem?_push];rw[if_neg (by omega)];exact hb x hx
   ·intro x j t' zs' v' hx;by_cases hxi:x=i
    ·subst hxi;rw[if_pos rfl]at hx;cases hx;exact⟨by rw[get_cons,if_pos rfl],List.mem_cons_self ..,hs,by simp,by simp⟩
    ·rw[if_neg hxi]at hx;obtain⟨g1,g2,g3,g4,g5⟩:=HJ x j t' zs' v' hx;refine⟨?_,List.mem_cons_of_mem _ g2,g3,by simp;omega,?_⟩
     ·rw[get_cons,if_neg (by omega)];exact g1
     ·simp only[Array.getElem?_push];rw[if_neg (by omega)];exact g5
  ·cases hd
theorem ktx{rec:Rec}(hrec:RecOk P O rec){ops:Array Oper}{order resv pre:List Nat}{fr:Fr}{h:AH}{k:Fr→AH→Option (AV×AH)}{r:AV×AH}(hk:∀(a b:Fr)(h:AH),a.same b→k a h=k b h)
  (hd:drawX P rec N ops order resv pre fr h k=some r) {μ:Mu} {w:World} {a:Act} (S:Sim P O μ h w) (F:FRel μ N fr a.tmps):wpAny P .any ops (After P O μ N h w a.defers k r) ops.size (Array.replicate ops.size false) a {w with drawn:=w.drawn+1}:=by
 unfold drawX at hd;split at hd
 ·exact kbbf hrec hk hd S F
 ·rename_i i is;cases hb:lowB N ops with
  | false=>rw[hb]at hd;cases hd
  | true =>
   rw[hb,cond_true,kor,Option.bind_eq_some_iff]at hd;obtain⟨⟨fp,hx⟩,-,hd⟩:=hd;dsimp only at hd
   have hlow:∀(i:Nat)(o:Oper),ops[i]?=some o→∀t∈Oper.looksAt ops o,t<N:=by
    intro i o ho t ht;unfold lowB at hb;rw[List.all_eq_true]at hb;have:=hb o (by rw[Array.mem_toList_iff];exact Array.mem_of_getElem? ho);rw[List.all_eq_true]at this
    simpa[Nat.blt_eq]using this t ht
   have F':FRel μ N (fr.low N) a.tmps:=⟨F.size,fun t v hv=>by
    rw[kew]at hv;split at hv
    ·exact F.get t v hv
    ·cases hv⟩
   exact kuq hrec hk hlow (h0:=h) (w:=w.drew) (S.drew) (i::is) (J:=fun _=>none) ⟨rfl,fun _ _=>rfl,fun _ _ _ _ _ h=>(by cases h),fun _ _ _ _ _ _ _ _ _ h=>(by cases h)⟩ (fun _ _ h=>(by cases h)) (S.drew) F' (Nat.le_refl _) (fun _ _=>rfl) (fun _ _ _ _ _ h=>(by cases h)) hd
theorem kbeq(hm:P.follows .mixedOrders=true){rec:Rec}(hrec:RecOk P O rec){id:Nat}{ops:Array Oper}{order resv pre:List Nat}{fr:Fr}{h:AH}{k:Fr→AH→Option (AV×AH)}{r:AV×AH}(hk:∀(a b:Fr)(h:AH),a.same b→k a h=k b h)
  (hd:drawX P rec N ops order resv pre fr h k=some r) {μ:Mu} {w:World} {a:Act} (S:Sim P O μ h w) (F:FRel μ N fr a.tmps):(Code.region id ops true).wp P (After P O μ N h w a.defers k r) a w :=
 wp_region_any hm (ktx hrec hk hd S F)
end
theorem kjq{rec:Rec}{N:Nat}{ops:Array Oper}{R:Type}{k:Fr→AH→Option R}(hk:∀(a b:Fr)(h:AH),a.same b→k a h=k b h):∀(is:List Nat){a b:Fr}{h:AH},a.same b→opsK P rec N ops is a h k=opsK P rec N ops is b h k
 | [],a,b,h,e=>hk a b h e
 | i::is,a,b,h,e=>by
  have put:∀(d:Option Tmp)(v:AV){a b:Fr}(h:AH),a.same b→(putT N d v a fun fr'=>opsK P rec N ops is fr' h k)=putT N d v b fun fr'=>opsK P rec N ops is fr' h k:=by
   intro d v a b h e;simp only[kgl];cases d with
   | none=>exact kjq hk is e
   | some t=>dsimp only;rw[kjq hk is (e.putd (some t) v)]
  have go:∀(o:Oper){a b:Fr},a.same b→(opX P rec o.op o.type a h fun v h'=>putT N o.dst v a fun fr'=>opsK P rec N ops is fr' h' k)=opX P rec o.op o.type b h fun v h'=>putT N o.dst v b fun fr'=>opsK P rec N ops is fr' h' k:=by
   intro o a b e;rw[kjw (b:=b) fun x _=>kcf fun t _=>e t];congr 1;funext v h';exact put _ _ _ e
  have learn:∀(t:Tmp)(v:AV),Fr.same ((t,v)::a) ((t,v)::b):=fun t v=>e.putd (some t) v;simp only[opsK];cases ho:ops[i]? with
  | none=>rfl
  | some o =>
   dsimp only;cases hg:o.guard with
   | none=>exact go o e
   | some jb =>
    obtain⟨j,b'⟩:=jb;dsimp only;cases ht:(ops[j]?).bind (·.dst)with
    | none=>rfl
    | some t =>
     dsimp only;rw[e t,go o (learn t (.bool true)),go o (learn t (.bool false)),put o.dst (.tup []) h (learn t (.bool true)),put o.dst (.tup []) h (learn t (.bool false)),put o.dst (.tup []) h e]
theorem koh{a b:Fr}(e:a.same b):∀xs:List Operand,evs a xs=evs b xs
 | []=>rfl
 | x::xs=>by simp only[evs,kcf (a:=a) (b:=b) (x:=x) fun t _=>e t,koh e xs]
theorem knq{rec:Rec}{o:Op}{ty:TypeId}{a b:Fr}{h:AH}{R:Type}{k:AV→AH→Option R}(e:a.same b):opM P rec o ty a h k=opM P rec o ty b h k:=by
 have ev:∀x,evO a x=evO b x:=fun x=>kcf fun t _=>e t;have ok:opK P rec o ty a h k=opK P rec o ty b h k:=kl5 (b:=b) fun x _=>ev x;unfold opM;split
 ·rfl
 ·rw[ev,ev,ev]
 ·rw[ev,ev,ev]
 ·rw[ev,ev]
 ·rw[ev,ev]
 ·rw[ev,ev,ev]
 ·rw[ev]
 ·rw[ev]
 ·rw[ev]
 ·rw[koh e,ok]
 ·exact ok
theorem k5z{rec:Rec}{o:Op}{ty:TypeId}{a b:Fr}{h:AH}{R:Type}{k:AV→AH→Option R}(e:a.same b):opP P rec o ty a h k=opP P rec o ty b h k:=by
 have ev:∀x,evO a x=evO b x:=fun x=>kcf fun t _=>e t;unfold opP;split
 ·rw[ev,ev,ev,knq e]
 ·rw[ev,ev,knq e]
 ·exact knq e
theorem kzn{rec:Rec}{o:Op}{ty:TypeId}{a b:Fr}{h:AH}{R:Type}{k:AV→AH→Option R}(e:a.same b):opY P rec o ty a h k=opY P rec o ty b h k:=by
 have hy:khk o a=khk o b:=by
  unfold khk;split
  ·rename_i c;rw[koh e];split
   ·rename_i f xs _ _;rw[kcf (a:=a) (b:=b) (x:=f) fun t _=>e t]
   ·rfl
  ·rfl
 have ev:∀x,evO a x=evO b x:=fun x=>kcf fun t _=>e t;have ok:opK P rec o ty a h k=opK P rec o ty b h k:=kl5 (b:=b) fun x _=>ev x;unfold opY;rw[hy];split
 ·rfl
 ·exact k5z e
theorem kn7{rec:Rec}{N:Nat}{ops:Array Oper}{R:Type}{k:Fr→AH→Option R}(hk:∀(a b:Fr)(h:AH),a.same b→k a h=k b h):∀(is:List Nat){a b:Fr}{h:AH},a.same b→opsY P rec N ops is a h k=opsY P rec N ops is b h k
 | [],a,b,h,e=>hk a b h e
 | i::is,a,b,h,e=>by
  have put:∀(d:Option Tmp)(v:AV){a b:Fr}(h:AH),a.same b→(putT N d v a fun fr'=>opsY P rec N ops is fr' h k)=putT N d v b fun fr'=>opsY P rec N ops is fr' h k:=by
   intro d v a b h e;simp only[kgl];cases d with
   | none=>exact kn7 hk is e
   | some t=>dsimp only;rw[kn7 hk is (e.putd (some t) v)]
  have go:∀(o:Oper){a b:Fr},a.same b→(opY P rec o.op o.type a h fun v h'=>putT N o.dst v a fun fr'=>opsY P rec N ops is fr' h' k)=opY P rec o.op o.type b h fun v h'=>putT N o.dst v b fun fr'=>opsY P rec N ops is fr' h' k:=by
   intro o a b e;rw[kzn e];congr 1;funext v h';exact put _ _ _ e
  have learn:∀(t:Tmp)(v:AV),Fr.same ((t,v)::a) ((t,v)::b):=fun t v=>e.putd (some t) v;simp only[opsY];cases ho:ops[i]? with
  | none=>rfl
  | some o =>
   dsimp only;cases hg:o.guard with
   | none=>exact go o e
   | some jb =>
    obtain⟨j,b'⟩:=jb;dsimp only;cases ht:(ops[j]?).bind (·.dst)with
    | none=>rfl
    | some t =>
     dsimp only;rw[e t,go o (learn t (.bool true)),go o (learn t (.bool false)),put o.dst (.tup []) h (learn t (.bool true)),put o.dst (.tup []) h (learn t (.bool false)),put o.dst (.tup []) h e]
theorem kmt{rec:Rec}{N:Nat}{ops:Array Oper}{deps ancs:List Nat}{R:Type}{k:Fr→AH→Option R}(hk:∀(a b:Fr)(h:AH),a.same b→k a h=k b h):∀(c:List Nat){m:Nat}{ps:List Look}{a b:Fr}{h:AH},a.same b→opsD P rec N ops deps ancs c m ps a h k=opsD P rec N ops deps ancs c m ps b h k
 | [],m,ps,a,b,h,e=>by simp only[opsD,hk a b h e]
 | i::c,m,ps,a,b,h,e=>by
  simp only[opsD];split
  ·rename_i o an ho han;have l:kbk P i o.op a=kbk P i o.op b:=kmd (ops:=ops) fun t _=>e t;rw[l];rw[kjq (b:=b) (k:=fun fr' h'=>opsD P rec N ops deps ancs c (m|||1 <<< i) (kbk P i o.op b++ps) fr' h' k) (fun a b h e=>kmt hk c e) [i] e];rw[kjq (b:=b) (k:=fun fr' h'=>checkP an h h' (opsD P rec N ops deps ancs c (m|||1 <<< i) ps fr' h' k) ps) (fun a b h' e=>by rw[kmt hk c e]) [i] e]
  ·rfl
theorem kra{rec:Rec}{N:Nat}{order:List Nat}{R:Type}{k:Fr→AH→Option R}(hk:∀(a b:Fr)(h:AH),a.same b→k a h=k b h){fp gp:Fr}(ep:fp.same gp):∀(is:List Nat){cs:List Operand}{ops:Array Oper}{ps:List Look}{a b:Fr}{h:AH},a.same b→drawR P rec N order fp is cs ops ps a h k=drawR P rec N order gp is cs ops ps b h k
 | [],cs,ops,ps,a,b,h,e=>by
  simp only[drawR];have h1:∀(fr':Fr)(h':AH),finK cs (fr'.low N) fp (k (fr'.low N) h')=finK cs (fr'.low N) gp (k (fr'.low N) h'):=fun fr' h'=>kqa (Fr.same.refl _) ep;simp only[h1]
  rw[kmt (k:=fun fr' h'=>finK cs (fr'.low N) gp (k (fr'.low N) h')) (fun x y h e=>by
   show finK cs (x.low N) gp (k (x.low N) h)=finK cs (y.low N) gp (k (y.low N) h);rw[hk _ _ _ (e.low N),kqa (e.low N) (Fr.same.refl gp)]) order e]
 | i::is,cs,ops,ps,a,b,h,e=>by
  simp only[drawR];split
  ·rename_i o ho
   have h1:∀(v:AV)(h':AH),drawR P rec N order fp is (o.op.operands.toList++cs) (ops.setIfInBounds i {o with op:=.move (.tmp (N+i))}) (⟨i,h.next,0⟩::ps) ((N+i,v)::a) h' k=drawR P rec N order gp is (o.op.operands.toList++cs) (ops.setIfInBounds i {o with op:=.move (.tmp (N+i))}) (⟨i,h.next,0⟩::ps) ((N+i,v)::b) h' k :=
    fun v h'=>kra hk ep is fun t=>by rw[get_cons,get_cons,e t]
   simp only[h1];rw[kjw (a:=fp) (b:=gp) fun x _=>kcf fun t _=>ep t]
  ·rfl
theorem kn1{a b:Fr}(e:a.same b):∀(L:List Nat),a.keep L=b.keep L
 | []=>rfl
 | t::L=>by simp only[Fr.keep,e t,kn1 e L]
theorem kno{a b:Fr}{h:AH}(e:a.same b):∀(rs:List ResultVar)(k:List AV→Option (AV×AH)),resK P a h rs k=resK P b h rs k
 | [],k=>rfl
 | .tmp t::rs,k=>by simp only[resK,e t,kno e rs]
 | .cell x t::rs,k=>by simp only[resK,e x,kno e rs]
theorem ku4{a b:Fr}(e:a.same b)(c:Operand)(t:Bool):(learn c t a).same (learn c t b):=by
 cases c with
 | tmp s=>exact e.putd (some s) _
 | _=>exact e
theorem kdy{K:Keep}{rec:Rec}{ro:Option Nat}{f:FuncId}{fn:Func}:∀(n:Nat){fresh:Bool}{todo:List Item}(a b:Fr)(h:AH),a.same b→execA P K rec ro f fn n fresh todo a h=execA P K rec ro f fn n fresh todo b h
 | 0,fresh,todo,a,b,h,e=>rfl
 | n+1,fresh,todo,a,b,h,e=>by
  have IH:=fun{fresh:Bool} {todo:List Item}=>kdy (K:=K) (rec:=rec) (ro:=ro) (f:=f) (fn:=fn) n (fresh:=fresh) (todo:=todo) a b h e
  have res:∀jump,leaveA P fn ro jump a h=leaveA P fn ro jump b h:=fun jump=>by
   unfold leaveA;have:kf2 P fn a h=kf2 P fn b h:=kno e _ _;rw[this]
  unfold execA
  try simp only[kc1]
  have ops:∀(ops:Array Oper)(is:List Nat)(k:List Item),(opsY P rec fn.ntmps ops is a h fun fr' h'=>execA P K rec ro f fn n false k fr' h')=opsY P rec fn.ntmps ops is b h fun fr' h'=>execA P K rec ro f fn n false k fr' h':=fun ops is k=>kn7 (fun x y h e=>kdy n x y h e) is e
  have drs:∀(ops:Array Oper)(is js ls:List Nat)(k:List Item),(drawX P rec fn.ntmps ops is js ls a h fun fr' h'=>execA P K rec ro f fn n false k fr' h')=drawX P rec fn.ntmps ops is js ls b h fun fr' h'=>execA P K rec ro f fn n false k fr' h':=fun ops is js ls k=>by
   unfold drawX drawK;rw[kmt (fun x y h e=>kdy n x y h e) is e];split
   ·rfl
   ·rename_i i js
    have h1:∀(fp:Fr)(hx:AH),drawR P rec fn.ntmps is fp (i::js) [] ops [] a h (fun fr' h'=>execA P K rec ro f fn n false k fr' h')=drawR P rec fn.ntmps is fp (i::js) [] ops [] b h (fun fr' h'=>execA P K rec ro f fn n false k fr' h') :=
     fun fp hx=>kra (fun x y h e=>kdy n x y h e) (Fr.same.refl fp) _ e
    have h2:(opsK P rec fn.ntmps ops ls a h fun fp _=>drawR P rec fn.ntmps is fp (i::js) [] ops [] a h (fun fr' h'=>execA P K rec ro f fn n false k fr' h'))=opsK P rec fn.ntmps ops ls a h fun fp _=>drawR P rec fn.ntmps is fp (i::js) [] ops [] b h (fun fr' h'=>execA P K rec ro f fn n false k fr' h'):=by
     congr 1;funext fp hx;exact h1 fp hx
    rw[h2,kjq (fun x y h0 ee=>kra (fun x y h e=>kdy n x y h e) ee _ (Fr.same.refl b)) ls e]
  split
  all_goals first
   | exact res _
   | exact IH
   | skip
  ·rename_i c x y k;rw[kcf (a:=a) (b:=b) fun t _=>e t];split
   ·rw[kdy n _ _ h (ku4 e c true),kdy n _ _ h (ku4 e c false)]
   ·rfl
  ·split
   ·exact IH
   ·exact res _
  ·split
   ·exact IH
   ·exact res _
  ·rename_i id ops' draw k;rw[ops,drs];simp only[kn1 e]
  ·split
   ·congr 1;funext h';exact kdy n _ _ h' e
   ·rfl
  ·rename_i g ps as bd k;split
   ·rfl
   ·rw[kcf (a:=a) (b:=b) fun t _=>e t,kn1 e]
  ·rfl
end Go.Ab
namespace Go.Ab
variable{P:Program}{O:World}
def resGet(tmps:Array Value):ResultVar→Sem Value
 | .tmp t=>pure (tmps.getD t undef)
 | .cell a t=>do loadVar t (← asAddr (tmps.getD a undef))
theorem k3o(fn:Func)(tmps:Array Value):results fn tmps=(do
  let vs ← fn.results.mapM (resGet tmps)
  pure (if h:vs.size=1 then vs[0]else .tuple vs)):=rfl
theorem ko7{μ:Mu}{fr:Fr}{N:Nat}{tmps:Array Value}{h:AH}{w:World}(S:Sim P O μ h w)(F:FRel μ N fr tmps):∀(rs:List ResultVar)(k:List AV→Option (AV×AH))(res:AV×AH),resK P fr h rs k=some res→
  ∃vs us,k vs=some res∧(rs.mapM (resGet tmps)).run P w=.ok us w∧VRels μ vs us∧us.length=rs.length
 | [],k,res,h=>⟨[],[],h,rfl,VRels.nil,rfl⟩
 | .tmp t::rs,k,res,h=>by
  simp only[resK,Option.bind_eq_some_iff]at h;obtain⟨v,hv,hk⟩:=h;obtain⟨vs,us,h0,h1,h2,h3⟩:=ko7 S F rs _ _ hk;obtain⟨u,hu,hvu⟩:=F.get t v hv;refine⟨v::vs,u::us,h0,?_,VRels.cons hvu h2,by simp[h3]⟩;rw[List.mapM_cons];have:tmps.getD t undef=u:=by simp[Array.getD_eq_getD_getElem?,hu]
  simp only[Sem.run_bind,resGet,Sem.run_pure,Result.andThen_ok,h1,this]
 | .cell a t::rs,k,res,h=>by
  simp only[resK]at h;split at h
  ·rename_i r hr;obtain⟨u,hu,hvu⟩:=F.get a _ hr;simp only[VRel]at hvu;obtain⟨ad,hra,rfl⟩:=hvu;obtain⟨v,uv,hk,hv,hl⟩:=kq9 S hra h;obtain⟨vs,us,h0,h1,h2,h3⟩:=ko7 S F rs _ _ hk;refine⟨v::vs,uv::us,h0,?_,VRels.cons hv h2,by simp[h3]⟩;rw[List.mapM_cons];have:tmps.getD a undef=.pointer (some ad):=by simp[Array.getD_eq_getD_getElem?,hu]
   simp only[Sem.run_bind,resGet,Sem.run_pure,Result.andThen_ok,h1,this,asAddr,hl]
  ·cases h
theorem kwn{μ:Mu}{fn:Func}{fr:Fr}{h:AH}{v:AV}{h':AH}{N:Nat}{tmps:Array Value}{w:World}(S:Sim P O μ h w)(hr:kf2 P fn fr h=some (v,h'))(F:FRel μ N fr tmps) :
  h'=h∧∃u,(results fn tmps).run P w=.ok u w∧VRel μ v u:=by
 rw[k3o];unfold kf2 at hr;obtain⟨vs,us,h0,h1,h2,h3⟩:=ko7 S F _ _ _ hr;simp only[Array.mapM_eq_mapM_toList,Sem.run_bind,Sem.run_map,h1,Result.andThen_ok,Sem.run_pure];split at h0
 ·rename_i x;cases h0;simp only[VRels]at h2;obtain⟨y,ys,rfl,hy,rfl⟩:=h2;exact⟨rfl,y,by simp,hy⟩
 ·rename_i hno;cases h0;refine⟨rfl,.tuple us.toArray,?_,by simp only[VRel];exact⟨us.toArray,rfl,by simpa using h2⟩⟩
  have hl:us.length≠1:=by
   intro hl;have h4:=h2.length;rw[hl]at h4
   match vs,h4 with
   | [x],_=>exact hno x rfl
   | [],h4=>simp at h4
   | _::_::_,h4=>simp at h4
  rw[dif_neg (by simpa using hl)]
def RoundOf(μ:Mu)(ro:Option Nat)(b:Frame)(ds:List Nat):Prop :=
 match ro with
 | none=>b.roundOf=none
 | some l=>ds=[]∧∃L,μ l=some L∧b.roundOf=some L.block
theorem RoundOf.mono{μ ν:Mu}(hle:Mu.le μ ν){ro:Option Nat}{b:Frame}{ds:List Nat}(h:RoundOf μ ro b ds):RoundOf ν ro b ds:=by
 cases ro with
 | none=>exact h
 | some l =>
  obtain⟨h1,L,h2,h3⟩:=h;exact⟨h1,L,hle _ _ h2,h3⟩
theorem k7b{μ:Mu}{h:AH}{w:World}(S:Sim P O μ h w){l:Nat}{L:Loc}(hL:μ l=some L){jump:Option Code}{v:AV}{h':AH}(he:kcj l jump h=some (v,h')) :
  ∃u w',(Instr.endRound L.block jump).run P w=.ok u w'∧GoodX P O [] μ h w v h' u w':=by
 unfold kcj at he;split at he
 ·rename_i st pe f fr ps as bd d hb;cases he;obtain⟨tmps,dd,hw,hF⟩:=S.blk l L _ hL hb;have hlt:=(S.place l L hL).2;refine⟨_,_,run_endRound jump hw,?_⟩;have hst:(if jump.isNone=true then LoopState.ready else LoopState.done)=cond jump.isNone .ready .done:=by cases jump.isNone<;>rfl
  obtain⟨s1,s2,s3⟩:=kjv S hL hb (by simp) (b':=.loop (cond jump.isNone .ready .done) jump f fr ps as bd d) (o:=.loop {state:=if jump.isNone then .ready else .done,pending:=jump,fn:=f,tmps,params:=ps,assign:=as,body:=bd,defers:=dd}) ⟨tmps,dd,by rw[World.putObj_heap_same hlt,hst],hF⟩;exact⟨μ,by simp[VRel],s1,s2,s3.1,fun b hb hn=>s3.2 b hb⟩
 ·cases he
theorem k57{μ:Mu}{h h':AH}{w:World}(S:Sim P O μ h w){l:Nat}{L:Loc}(hL:μ l=some L)(he:beginA l h=some h'):∃w',(Instr.beginRound L.block).run P w=.ok () w'∧Sim P O μ h' w'∧Ext μ h w μ h'∧Frm μ h w w':=by
 unfold beginA at he;split at he
 ·rename_i pe f fr ps as bd d hb;cases he;obtain⟨tmps,dd,hw,hF⟩:=S.blk l L _ hL hb;have hlt:=(S.place l L hL).2;refine⟨_,run_beginRound hw rfl,?_⟩;exact kjv S hL hb (by simp) (b':=.loop .busy pe f fr ps as bd d) ⟨tmps,dd,by rw[World.putObj_heap_same hlt],hF⟩
 ·cases he
theorem k4d{μ:Mu}{h h':AH}{w:World}(S:Sim P O μ h w){l:Nat}{L:Loc}(hL:μ l=some L){pe:Option Code}(he:kff l h=some (pe,h')):∃w',(Instr.endLoop L.block).run P w=.ok pe w'∧Sim P O μ h' w'∧Ext μ h w μ h'∧Frm μ h w w':=by
 unfold kff at he;split at he
 ·rename_i st pe' f fr ps as bd d hb;rcases kbt he with⟨_,he⟩ | ⟨hst,he⟩
  ·cases he
  ·cases he;obtain⟨tmps,dd,hw,hF⟩:=S.blk l L _ hL hb;refine⟨_,run_endLoop hw (by cases st<;>simp at hst⊢),?_⟩;exact kjv S hL hb (by simp) (b':=.dead) trivial
 ·cases he
theorem kl9{fn:Func}{ro:Option Nat}{jump:Option Code}{fr:Fr}{h:AH}{v:AV}{h':AH}(hk:leaveA P fn ro jump fr h=some (v,h')){μ:Mu}{w:World}{b:Frame}{a:Act}{ds:List Nat}(hfn:P.funcs[b.fn]?=some fn)(hkind:b.kind=.normal)(hro:RoundOf μ ro b ds)(hd:a.defers=ds.map mark)(M:Marks O μ h w ds)(S:Sim P O μ h w)(F:FRel μ fn.ntmps fr a.tmps)
  {todo:List Item} (hs:b.roundOf=none→(jump=none∨jump=some .ret)→∀cs,step P (lone (b.atR a todo) cs w)=.next (lone {b.atR a todo with mode:=.returning} cs w))
  (hr:∀{l:Nat}{u:Value}{w':World},b.roundOf=some l→(Instr.endRound l jump).run P w=.ok u w'→∀c cs,step P (lone (b.atR a todo) (c::cs) w)=.next (lone (c.finish u) cs w')):Fin P ro b todo a w (GoodX P O ds μ h w v h'):=by
 cases ro with
 | none =>
  have hj:(jump=none∨jump=some .ret)∧kf2 P fn fr h=some (v,h'):=by
   unfold leaveA at hk;split at hk
   ·rename_i e;cases e
   ·split at hk
    ·exact⟨.inl rfl,hk⟩
    ·exact⟨.inr rfl,hk⟩
    ·cases hk
  intro cs;obtain⟨rfl,_,_,_⟩:=kwn S hj.2 F
  obtain⟨u,w',fr',g,st,e1,e2⟩:=returns (fn:=fn) (v:=v) (h:=h') ds {b.atR a todo with mode:=.returning} hfn hkind rfl hd S M (fun w' S'=>by
   obtain⟨_,u,h1,h2⟩:=kwn S' hj.2 F;exact⟨u,h1,h2⟩) cs
  exact⟨u,w',fr',g,Steps.head (hs hro hj.1 cs) st,e1,e2⟩
 | some l =>
  obtain⟨rfl,L,hL,hb⟩:=hro;intro c cs;obtain⟨u,w',h1,g⟩:=k7b S hL (show kcj l jump h=some (v,h')from hk);exact⟨u,w',g,Steps.one (hr hb h1 c cs)⟩
theorem kvf{b:Frame}{a:Act}{g:Operand}{ps:Array Tmp}{as bd:Code}{k:List Item}{w w':World}{gf:FuncId}{x y args:Array Value}{n:Next}(hb:b.roundOf=none)(hg:a.eval g=.func (.func gf) x y)
  (hr:(callFunc gf ((x++#[.func (.yield (w.heap.size+1)) #[] #[]])++y)).run P ((w.alloc (.deferred (some []))).alloc (.loop {state:=.ready,pending:=none,fn:=b.fn,tmps:=a.tmps,params:=ps,assign:=as,body:=bd,defers:=w.heap.size}))=.ok n w') (cs:List Frame) :
  (∀f args,n=.enter f args→step P (lone (b.atR a (.code (.rangeFunc g ps as bd)::k)) cs w)=.next (lone (Frame.enter P f args .normal) (b.atR {a with defers:=mark w.heap.size::a.defers} (.inRangeFunc (w.heap.size+1)::k)::cs) w'))∧
  (∀u,n=.value u→step P (lone (b.atR a (.code (.rangeFunc g ps as bd)::k)) cs w)=.next (lone (b.atR {a with defers:=mark w.heap.size::a.defers} (.endRangeFunc (w.heap.size+1)::k)) cs w')):=by
 have he:=congrFun (Frame.eval_atR b {a with defers:=mark w.heap.size::a.defers} (.inRangeFunc (w.heap.size+1)::k)) g;have hev:({tmps:=a.tmps,defers:=mark w.heap.size::a.defers}:Act).eval g=a.eval g:=by cases g<;>rfl
 rw[hev,hg]at he;simp only[Frame.atR]at he
 have hres:∀(ρ:Operand→Value),ρ g=.func (.func gf) x y→(∀v,ρ (.const v)=v)→∀W,(do let d ← resolve ρ {callee:=.value g,args:=#[.const (.func (.yield (w.heap.size+1)) #[] #[])],argTypes:=#[]} 0;invoke d.target d.args:Sem Next).run P W=(callFunc gf ((x++#[.func (.yield (w.heap.size+1)) #[] #[]])++y)).run P W:=by
  intro ρ h1 h2 W;simp[resolve,h1,h2,Deferred.ofValue,invoke,Sem.run_bind,Result.andThen_ok]
 constructor
 ·intro f args hn;subst hn;refine step_lone_go ?_;have h3:=hres (Frame.eval {fn:=b.fn,tmps:=a.tmps,todo:=.inRangeFunc (w.heap.size+1)::k,defers:=mark w.heap.size::a.defers,mode:=.run,kind:=b.kind,roundOf:=b.roundOf}) he (fun _=>rfl) ((w.alloc (.deferred (some []))).alloc (.loop {state:=.ready,pending:=none,fn:=b.fn,tmps:=a.tmps,params:=ps,assign:=as,body:=bd,defers:=w.heap.size}));rw[hr]at h3;simp only[hb]at h3;simp[stepG,stepG.exec,stepG.apply,Frame.atR,hb,Sem.runT_eq,run_enterLoop_outer,mark]at h3⊢;rw[h3];simp
 ·intro u hn;subst hn;refine step_lone_go ?_;have h3:=hres (Frame.eval {fn:=b.fn,tmps:=a.tmps,todo:=.inRangeFunc (w.heap.size+1)::k,defers:=mark w.heap.size::a.defers,mode:=.run,kind:=b.kind,roundOf:=b.roundOf}) he (fun _=>rfl) ((w.alloc (.deferred (some []))).alloc (.loop {state:=.ready,pending:=none,fn:=b.fn,tmps:=a.tmps,params:=ps,assign:=as,body:=bd,defers:=w.heap.size}));rw[hr]at h3;simp only[hb]at h3;simp[stepG,stepG.exec,stepG.apply,Frame.atR,hb,Sem.runT_eq,run_enterLoop_outer,mark,Frame.finish]at h3⊢;rw[h3];simp
theorem k6z{b:Frame}{a:Act}{l:Nat}{k:List Item}{w w':World}{pe:Option Code}(hr:(Instr.endLoop l).run P w=.ok pe w')(cs:List Frame) :
  step P (lone (b.atR a (.endRangeFunc l::k)) cs w)=.next (lone (b.atR a ((pe.map Item.code).toList++k)) cs w') :=
 step_lone_go (by simp[stepG,stepG.exec,Frame.atR,Sem.runT_eq,hr])
theorem khb{K:Keep}(hm:P.follows .mixedOrders=true){rec:Rec}(hrec:RecOk P O rec){ro:Option Nat}{f:FuncId}{fn:Func}(hfn:P.funcs[f]?=some fn){v:AV}{h':AH}:∀(n:Nat)(fresh:Bool){todo:List Item}{fr:Fr}{h:AH},
  execA P K rec ro f fn n fresh todo fr h=some (v,h')→∀(μ:Mu)(w:World)(b:Frame)(a:Act)(ds:List Nat),b.fn=f→b.kind=.normal→RoundOf μ ro b ds→a.defers=ds.map mark→Marks O μ h w ds→Sim P O μ h w→FRel μ fn.ntmps fr a.tmps→
  Fin P ro b todo a w (GoodX P O ds μ h w v h')
 | 0,fresh,todo,fr,h,hk=>by simp[execA]at hk
 | n+1,fresh,todo,fr,h,hk=>by
  intro μ w b a ds hb hkind hro hd M S F;have IH:=fun(fresh:Bool) {todo:List Item} {fr:Fr} (hk:execA P K rec ro f fn n fresh todo fr h=some (v,h')) (F:FRel μ fn.ntmps fr a.tmps)=>khb hm hrec hfn n fresh hk μ w b a ds hb hkind hro hd M S F;have hfb:P.funcs[b.fn]?=some fn:=by rw[hb];exact hfn
  have next:∀(fresh:Bool){todo:List Item}{fr:Fr}{h1:AH}{ν:Mu}{w1:World}{a1:Act},execA P K rec ro f fn n fresh todo fr h1=some (v,h')→Sim P O ν h1 w1→Ext μ h w ν h1→Frm μ h w w1→FRel ν fn.ntmps fr a1.tmps→a1.defers=a.defers→Fin P ro b todo a1 w1 (GoodX P O ds μ h w v h'):=by
   intro fresh todo fr h1 ν w1 a1 hk S1 e f F1 hd1;exact(khb hm hrec hfn n fresh hk ν w1 b a1 ds hb hkind (hro.mono e.2.1) (hd1.trans hd) (M.step S S1 e f) S1 F1).mono fun u w2 g=>g.trans e f fun r hr=>.inl hr
  unfold execA at hk
  try simp only[kc1]at hk
  split at hk
  ·exact kl9 hk hfb hkind hro hd M S F (fun hn _ cs=>stepR_end hn) (fun hb' hr c cs=>stepR_round_end hb' hkind hr)
  ·exact kl9 hk hfb hkind hro hd M S F (fun hn _ cs=>stepR_ret hn) (fun hb' hr c cs=>stepR_round_ret hb' hkind hr)
  ·exact(IH _ hk F).of_steps fun cs=>Steps.one stepR_skip
  ·exact(IH _ hk F).of_steps fun cs=>Steps.one stepR_label
  ·exact(IH _ hk F).of_steps fun cs=>Steps.one stepR_inBlock
  ·exact(IH _ hk F).of_steps fun cs=>Steps.one k47
  ·exact(IH _ hk F).of_steps fun cs=>Steps.one stepR_seq
  ·rename_i c x y k;split at hk
   ·rename_i t ht;have hv:=kp F ht;simp only[VRel]at hv
    have Fl:∀t',t=t'→FRel μ fn.ntmps (learn c t' fr) a.tmps:=by
     intro t' htt;subst htt;unfold learn;split
     ·rename_i s;exact F.learn ht fun _ h=>h
     ·exact F
    rcases kbt hk with⟨rfl,hk2⟩ | ⟨rfl,hk2⟩
    ·exact(IH _ hk2 (Fl _ rfl)).of_steps fun cs=>Steps.one (stepR_cond hv)
    ·exact(IH _ hk2 (Fl _ rfl)).of_steps fun cs=>Steps.one (stepR_cond hv)
   ·cases hk
  ·exact(IH _ hk F).of_steps fun cs=>Steps.one stepR_block
  ·exact(IH _ hk F).of_steps fun cs=>Steps.one stepR_loop
  ·exact(IH _ hk F).of_steps fun cs=>Steps.one stepR_inLoop
  ·exact(IH _ hk F).of_steps fun cs=>Steps.one kbc1
  ·split at hk
   ·rename_i k' hk';exact(IH _ hk F).of_steps fun cs=>Steps.one (stepR_exit hk')
   ·rename_i hk';exact kl9 hk hfb hkind hro hd M S F (fun hn hj cs=>by rcases hj with e | e<;>cases e) (fun hb' hr c cs=>stepR_round_exit hb' hkind hk' hr)
  ·split at hk
   ·rename_i k' hk';exact(IH _ hk F).of_steps fun cs=>Steps.one (stepR_goto hk')
   ·rename_i hk';exact kl9 hk hfb hkind hro hd M S F (fun hn hj cs=>by rcases hj with e | e<;>cases e) (fun hb' hr c cs=>stepR_round_goto hb' hkind hk' hr)
  ·rename_i id ops draw k
   have reg:(cond draw (cond (ro.isSome&&kg0 ops) none (drawX P rec fn.ntmps ops (kn9 K f id ops.size) (resvOf K f id) (preOf K f id) fr h fun fr' h'=>execA P K rec ro f fn n false k fr' h')) (opsY P rec fn.ntmps ops (List.range ops.size) fr h fun fr' h'=>execA P K rec ro f fn n false k fr' h'))=some (v,h')→Fin P ro b (.code (.region id ops draw)::k) a w (GoodX P O ds μ h w v h'):=by
    intro hk
    have back:∀(a':Act)(w':World),After P O μ fn.ntmps h w a.defers (fun fr' h'=>execA P K rec ro f fn n false k fr' h') (v,h') .normal a' w'→Fin P ro b k a' w' (GoodX P O ds μ h w v h'):=by
     rintro a' w' ⟨_,hdef,fr',h1,ν,g1,g2,g3,g4,g5⟩
     exact next false g1 g2 g4 g5 g3 hdef
    rcases kbt hk with⟨rfl,hk2⟩ | ⟨rfl,hk2⟩
    ·rcases kbt hk2 with⟨_,hk3⟩ | ⟨hnone,hk3⟩
     ·cases hk3
     ·cases ro with
      | some l =>
       have hany:=ktx hrec (fun x y h e=>kdy n x y h e) hk3 S F;have hdef:kg0 ops=false:=by simpa using hnone
       refine Fin.of_some (X:=fun a' w'=>After P O μ fn.ntmps h w a.defers (fun fr' h'=>execA P K rec (some l) f fn n false k fr' h') (v,h') .normal a' w') (fun cs=>?_) back;have hops:=wpAny_sound ops.size (w.tape w.drawn (.order b.fn id)) _ _ _ hany;have hs:=stepR_region_draw (P:=P) (b:=b) (a:=a) (k:=k) (cs:=cs) (w:=w) (ops:=ops) (id:=id);simp only[Region.schedule,hm,Bool.true_or,if_true]at hs;obtain⟨a',w',hA,st⟩:=kgv (fun _ _ _ q=>q.1) hdef _ _ _ hops (fun a' w' q=>by rw[q.2.1];exact Nat.le_refl _) b k cs;exact⟨a',w',hA,.head hs st⟩
      | none =>
       have hw:=kbeq hm hrec (id:=id) (fun x y h e=>kdy n x y h e) hk3 S F;have hrn:b.roundOf=none:=hro;refine Fin.of_some (X:=fun a' w'=>After P O μ fn.ntmps h w a.defers (fun fr' h'=>execA P K rec none f fn n false k fr' h') (v,h') .normal a' w') (fun cs=>?_) back;obtain⟨e,a',w',hq,harr⟩:=hw b k cs;have he:e=.normal:=hq.1;subst he;refine⟨a',w',hq,?_⟩;rw[Frame.atR_of_none hrn,Frame.atR_of_none hrn];exact harr
    ·refine Fin.of_some (X:=fun a' w'=>After P O μ fn.ntmps h w a.defers (fun fr' h'=>execA P K rec ro f fn n false k fr' h') (v,h') .normal a' w') (fun cs=>?_) back;obtain⟨a',w',hA,st⟩:=kqk hrec _ hk2 S F b k cs;exact⟨a',w',hA,.head stepR_region st⟩
   rcases kbt hk with⟨rfl,hk2⟩ | ⟨rfl,hk2⟩
   ·exact reg hk2
   ·split at hk2
    ·cases ro with
     | none=>exact hrec.pt hk2 hfn hb hkind hro hd M S (F.keep _)
     | some l =>
      obtain⟨rfl,L,hL,hbr⟩:=hro;exact hrec.rpt hk2 hfn hb hkind hL hbr hd S (F.keep _)
    ·exact reg hk2
  ·rename_i k;cases ro with
   | none=>cases hk
   | some l =>
    obtain⟨h1,he,hk2⟩:=Option.bind_eq_some_iff.1 hk;have hro':=hro;obtain⟨hds,L,hL,hbr⟩:=hro';obtain⟨w1,hr,S1,e1,f1⟩:=k57 S hL he;refine(next fresh hk2 S1 e1 f1 F rfl).of_steps (a':=a) (w':=w1) fun cs=>Steps.one (stepR_beginRound hbr hr)
  ·rename_i g ps as bd k;cases ro with
   | some l=>cases hk
   | none =>
    have hrn:b.roundOf=none:=hro;split at hk
    ·cases hk
    ·rcases kbt hk with⟨rfl,hk⟩ | ⟨rfl,hk⟩
     case inr=>exact hrec.pt hk hfn hb hkind hro hd M S (F.keep _)
     split at hk
     ·rename_i gf first captured hg
      obtain⟨q,hq,hk2⟩:=Option.bind_eq_some_iff.1 hk;obtain⟨p,hp,hk3⟩:=Option.bind_eq_some_iff.1 hk2;obtain⟨qv,qh⟩:=q;obtain⟨pe,ph⟩:=p;have hvg:=kp F hg;simp only[VRel]at hvg;obtain⟨g',x,y,he,hgf,hxx,hyy⟩:=hvg;simp only[FnRel]at hgf;subst hgf;obtain⟨S1,e1,f1⟩:=k3h S (.deferred (some []))
      obtain⟨S2,e2,f2⟩:=kqv S1 (b:=.loop .ready none f (fr.keep (List.range fn.ntmps)) ps as bd 0) (n:=0) (o:=.loop {state:=.ready,pending:=none,fn:=b.fn,tmps:=a.tmps,params:=ps,assign:=as,body:=bd,defers:=w.heap.size}) (fun ν hle=>by
       refine⟨a.tmps,w.heap.size,?_,fun fn' hf'=>?_⟩
       ·rw[ke9,hb]
       ·rw[hfn]at hf';cases hf';exact(F.keep _).mono hle)
      have hsz:(w.alloc (.deferred (some []))).heap.size=w.heap.size+1:=by simp
      rw[hsz]at S2 e2;have M2:=M.step S S2 (e1.trans e2 f1.1) (f1.trans e1 f2);generalize hμ2:Mu.set μ h.blks.size ⟨w.heap.size+1,0,0⟩=μ2 at S2 e2 M2;have hL2:μ2 h.blks.size=some ⟨w.heap.size+1,0,0⟩:=by rw[← hμ2];exact kdc _ _ _
      generalize hw2:(w.alloc (.deferred (some []))).alloc (.loop {state:=.ready,pending:=none,fn:=b.fn,tmps:=a.tmps,params:=ps,assign:=as,body:=bd,defers:=w.heap.size})=w2 at S2 f2 M2
      have hr2:w2.heap[w.heap.size]?=some (.deferred (some [])):=by
       rw[← hw2,kch _ _ _ (by simp),ke9]
      have hs2:w2.heap.size=w.heap.size+2:=by rw[← hw2];simp
      have M2':Marks O μ2 (h.alloc (.loop .ready none f (fr.keep (List.range fn.ntmps)) ps as bd 0)) w2 (w.heap.size::ds):=by
       refine⟨List.nodup_cons.2 ⟨fun hm=>?_,M2.nodup⟩,fun r hr=>?_,fun r hr=>?_,fun r hr i L hl hL=>?_⟩
       ·have:=(M.old _ hm).2;omega
       ·rcases List.mem_cons.1 hr with rfl | hr
        ·have:=S.base;omega
        ·exact M2.old r hr
       ·rcases List.mem_cons.1 hr with rfl | hr
        ·exact hr2
        ·exact M2.has r hr
       ·rcases List.mem_cons.1 hr with rfl | hr
        ·intro hLr;rw[← hμ2]at hL;unfold Mu.set at hL;split at hL
         ·cases hL;simp at hLr
         ·have:=(S.place i L hL).2;omega
        ·exact M2.free r hr i L hl hL
      have hxs:VRels μ2 (first++[.func (.yield h.blks.size) [] []]++captured) (x.toList++[.func (.yield (w.heap.size+1)) #[] #[]]++y.toList):=by
       have hle:=(e1.trans e2 f1.1).2.1;have mono:∀{vs:List AV}{us:List Value},VRels μ vs us→VRels μ2 vs us:=fun h=>VRels.mono hle h;refine((mono hxx).append ?_).append (mono hyy);refine VRels.cons ?_ VRels.nil;simp only[VRel];exact⟨.yield (w.heap.size+1),#[],#[],rfl,⟨_,hL2,rfl⟩,VRels.nil,VRels.nil⟩
      have harr:(x.toList++[Value.func (.yield (w.heap.size+1)) #[] #[]]++y.toList).toArray=(x++#[.func (.yield (w.heap.size+1)) #[] #[]])++y:=by apply Array.ext';simp
      have after:∀(u:Value)(w3:World),Good P O μ2 (h.alloc (.loop .ready none f (fr.keep (List.range fn.ntmps)) ps as bd 0)) w2 qv qh u w3→
        Fin P none b (.endRangeFunc (w.heap.size+1)::k) {a with defers:=mark w.heap.size::a.defers} w3 (GoodX P O ds μ h w v h'):=by
       rintro u w3 ⟨ν,g1,g2,g3,g4⟩
       have hL3:ν h.blks.size=some ⟨w.heap.size+1,0,0⟩:=g3.2.1 _ _ hL2;obtain⟨w4,hend,S4,e4,f4⟩:=k4d g2 hL3 hp;have M3:=M2'.step S2 g2 g3 g4;have M4:=M3.step g2 S4 e4 f4;have hle:=(e1.trans e2 f1.1).2.1;have hfin:=hrec.pt hk3 hfn hb hkind hrn (a:={a with defers:=mark w.heap.size::a.defers}) (by simp[hd]) M4 S4 (((F.mono hle).mono (Mu.le_trans g3.2.1 e4.2.1)).keep _)
       have etot:Ext μ h w ν ph:=by
        have:=((e1.trans e2 f1.1).trans g3 (by rw[hs2];omega)).trans e4 (Nat.le_trans (by rw[hs2];omega) g4.1);exact this
       have ftot:Frm μ h w w4:=((f1.trans e1 f2).trans (e1.trans e2 f1.1) g4).trans ((e1.trans e2 f1.1).trans g3 (by rw[hs2];omega)) f4;refine Fin.of_steps (a':={a with defers:=mark w.heap.size::a.defers}) (w':=w4) (todo':=(pe.map Item.code).toList++k) (fun cs=>Steps.one (k6z hend cs)) ?_
       exact hfin.mono fun u w5 g=>g.trans etot ftot fun r hr=>by
        rcases List.mem_cons.1 hr with rfl | hr
        ·exact .inr (Nat.le_refl _)
        ·exact .inl hr
      rcases kpe hrec hq S2 hxs with⟨hr,hc⟩ | ⟨u,hr,g⟩
      ·rw[harr]at hr hc;intro cs;have hst:=(kvf (P:=P) (b:=b) (a:=a) (k:=k) (as:=as) (bd:=bd) (ps:=ps) (args:=#[]) hrn he (by rw[hw2];exact hr) cs).1 _ _ rfl;obtain⟨e,w3,fr3,hR,hsteps,_,hleave⟩:=hc (b.atR {a with defers:=mark w.heap.size::a.defers} (.inRangeFunc (w.heap.size+1)::k)::cs);obtain⟨u,rfl,g⟩:=hR;obtain⟨u',w',fr',h1,h2,h3⟩:=after u w3 g cs;refine⟨u',w',fr',h1,.head hst (Steps.trans hsteps (.head (step_leave_returned hleave) ?_)),h3⟩;exact h2
      ·rw[harr]at hr;intro cs;have hst:=(kvf (P:=P) (b:=b) (a:=a) (k:=k) (as:=as) (bd:=bd) (ps:=ps) (args:=#[]) hrn he (by rw[hw2];exact hr) cs).2 _ rfl;obtain⟨u',w',fr',h1,h2,h3⟩:=after u w2 g cs;exact⟨u',w',fr',h1,.head hst h2,h3⟩
     ·cases hk
  ·cases hk
theorem k41(vs:List AV):∀(i t:Nat)(v:AV),(khl i vs).get t=some v→i≤t∧vs[t-i]?=some v:=by
 induction vs with
 | nil=>intro i t v h;simp[khl,Fr.get]at h
 | cons x vs ih =>
  intro i t v h;simp only[khl]at h;rw[Fr.get_cons]at h;split at h
  ·rename_i hit;subst hit;cases h;simp
  ·obtain⟨h1,h2⟩:=ih (i+1) t v h;refine⟨by omega,?_⟩;rw[show t-i=(t-(i+1))+1 from by omega]
   simpa using h2
theorem kwi{μ:Mu}{N:Nat}:∀(ts:List Tmp){vs:List AV}{us:List Value}{fr:Fr}{tmps:Array Value},FRel μ N fr tmps→VRels μ vs us→(ts.all fun t=>Nat.blt t N)=true→FRel μ N (handed ts vs fr) ((ts.zip us).foldl (fun tmps p=>tmps.setIfInBounds p.1 p.2) tmps)
 | [],vs,us,fr,tmps,F,V,h=>by cases vs<;>simpa[handed]using F
 | t::ts,[],us,fr,tmps,F,V,h=>by
  rw[V.nil_inv]
  simpa[handed]using F
 | t::ts,v::vs,us,fr,tmps,F,V,h=>by
  obtain⟨u,us',rfl,hv,V'⟩:=V.cons_inv;rw[List.all_cons,Bool.and_eq_true]at h
  have F':FRel μ N ((t,v)::fr) (tmps.setIfInBounds t u):=by
   have:=FRel.put (a:={tmps,defers:=[]}) F (t:=t) (by simpa[Nat.blt_eq]using h.1) hv;exact this
  have:=kwi ts F' V' h.2
  simpa[handed]using this
theorem kbb1{f:FuncId}{fn:Func}(hfn:P.funcs[f]?=some fn){μ:Mu}{h h':AH}{w:World}{v:AV}{us:List Value}{c:Code}(hc:fn.body=some c)
  (hf:Fin P none {(default:Frame)with fn:=f,kind:=.normal} [.code c] {tmps:=us.toArray++Array.replicate (fn.ntmps-us.toArray.size) undef,defers:=[]} w (GoodX P O [] μ h w v h')):Calls P f us.toArray w (Ends (Good P O μ h w v h')):=by
 intro cs;obtain⟨u,w',fr,g,st,e1,e2⟩:=hf cs
 have henter:Frame.enter P f us.toArray .normal=Frame.atR {(default:Frame)with fn:=f,kind:=.normal} {tmps:=us.toArray++Array.replicate (fn.ntmps-us.toArray.size) undef,defers:=[]} [.code c]:=by
  simp[Frame.enter,Frame.atR,hfn,hc];rfl
 refine⟨.returned u,w',fr,⟨u,rfl,g.nil⟩,?_,e1,e2⟩;rw[henter];exact st
theorem k2f{K:Keep}(hm:P.follows .mixedOrders=true){rec:Rec}(hrec:RecOk P O rec):RecOk P O (stepA P K rec):=by
 refine⟨?_,?_,?_,?_⟩
 ·intro f xs h v h' hk μ w us S hx;simp only[stepA,kc1]at hk;split at hk
  ·rename_i fn hfn;split at hk
   ·rename_i c hc;obtain⟨hle,hk2⟩:=ki hk;have hle:=Nat.le_of_ble_eq_true hle;have hlen:=hx.length
    have F:FRel μ fn.ntmps (khl 0 xs) (us.toArray++Array.replicate (fn.ntmps-us.toArray.size) undef):=by
     refine⟨by simp;omega,fun t y hy=>?_⟩;obtain⟨_,h2⟩:=k41 xs 0 t y hy;obtain⟨u,hu,hvu⟩:=hx.get _ y h2;simp only[Nat.sub_zero]at hu
     have hlt:t<us.length:=by
      rcases Nat.lt_or_ge t us.length with h' | h'
      ·exact h'
      ·rw[List.getElem?_eq_none h']at hu;cases hu
     refine⟨u,?_,hvu⟩;rw[Array.getElem?_append_left (by simpa using hlt)]
     simpa using hu
    exact kbb1 hfn hc (khb hm hrec hfn 4000 false hk2 μ w {(default:Frame)with fn:=f,kind:=.normal} {tmps:=us.toArray++Array.replicate (fn.ntmps-us.toArray.size) undef,defers:=[]} [] rfl rfl (show RoundOf μ none _ _ from rfl) rfl Marks.nil S F)
   ·cases hk
  ·cases hk
 ·intro f todo fr h v h' hk fn hfn μ w b a ds hb hkind hro hd M S F;simp only[stepA,kc1]at hk;rw[hfn]at hk;exact khb hm hrec hfn 4000 true hk μ w b a ds hb hkind hro hd M S F
 ·intro l xs h v h' hk μ w us L S hx hL;simp only[stepA,kc1]at hk;split at hk
  ·rename_i st pe f fr ps as bd d hb;split at hk
   ·rename_i fn hfn;obtain⟨hc,hk2⟩:=ki hk;rw[Bool.and_eq_true]at hc;obtain⟨tmps,dd,hw,hF⟩:=S.blk l L _ hL hb;have hlen:ps.size=xs.length:=Nat.eq_of_beq_eq_true hc.1;have hus:=hx.length;refine⟨f,_,as,bd,run_yield hw (by simp only;rw[List.size_toArray];omega),fun c cs=>?_⟩
    have hfold:(ps.zip us.toArray).foldl (fun tmps x=>match x with | (t,a)=>tmps.setIfInBounds t a) tmps=(ps.toList.zip us).foldl (fun tmps p=>tmps.setIfInBounds p.1 p.2) tmps:=by
     rw[← Array.foldl_toList,Array.toList_zip]
    have F:=kwi ps.toList (hF fn hfn) hx hc.2;have:=khb hm hrec hfn 4000 false hk2 μ w {(default:Frame)with fn:=f,kind:=.normal,roundOf:=some L.block} {tmps:=(ps.toList.zip us).foldl (fun tmps p=>tmps.setIfInBounds p.1 p.2) tmps,defers:=[]} [] rfl rfl (show RoundOf μ (some l) _ _ from⟨rfl,L,hL,rfl⟩) rfl Marks.nil S F;obtain⟨u,w',g,st⟩:=this c cs;refine⟨u,w',g.nil,?_⟩;simp only[hfold];exact st
   ·cases hk
  ·cases hk
 ·intro l f todo fr h v h' hk fn hfn μ w b a L hb hkind hL hbr hd S F;simp only[stepA,kc1]at hk;rw[hfn]at hk;exact khb hm hrec hfn 4000 true hk μ w b a [] hb hkind (show RoundOf μ (some l) b []from⟨rfl,L,hL,hbr⟩) hd Marks.nil S F
theorem kij(K:Keep)(hm:P.follows .mixedOrders=true):∀n,RecOk P O (runF P K n)
 | 0=>⟨fun h=>by simp[runF]at h,fun h=>by simp[runF]at h,fun h=>by simp[runF]at h,fun h=>by simp[runF]at h⟩
 | n+1=>k2f hm (kij K hm n)
theorem kg1{K:Keep}{key:Key}{h:AH}{r:AV×AH}(hr:run P K key h=some r):∃n,runF P K n key h=some r:=by
 unfold run at hr;split at hr
 ·rename_i hh;have:=Classical.choose_spec (Classical.choose_spec hh);cases hr;exact⟨_,this⟩
 ·cases hr
theorem run_ok(K:Keep)(hm:P.follows .mixedOrders=true):RecOk P O (run P K) :=
 ⟨fun h=>let ⟨n,hn⟩:=kg1 h;(kij K hm n).fn hn,fun h=>let ⟨n,hn⟩:=kg1 h;(kij K hm n).pt hn,fun h=>let ⟨n,hn⟩:=kg1 h;(kij K hm n).round hn,fun h=>let ⟨n,hn⟩:=kg1 h;(kij K hm n).rpt hn⟩
end Go.Ab
namespace Go.Ab
variable{P:Program}
structure Ask where
 key:Key
 h:AH
 r:AV×AH
def Agree(rec:Rec)(l:List Ask):Prop:=∀x∈l,rec x.key x.h=some x.r
def Hangs{A:Type}(f:Rec→Option A):Prop:=∀rec r,f rec=some r→∃l,Agree rec l∧∀rec',Agree rec' l→f rec'=some r
theorem Agree.append{rec:Rec}{l m:List Ask}(h:Agree rec l)(k:Agree rec m):Agree rec (l++m):=fun x hx=>by
 rcases List.mem_append.1 hx with hx | hx
 ·exact h x hx
 ·exact k x hx
theorem Agree.left{rec:Rec}{l m:List Ask}(h:Agree rec (l++m)):Agree rec l:=fun x hx=>h x (List.mem_append.2 (.inl hx))
theorem Agree.right{rec:Rec}{l m:List Ask}(h:Agree rec (l++m)):Agree rec m:=fun x hx=>h x (List.mem_append.2 (.inr hx))
theorem Hangs.const{A:Type}(x:Option A):Hangs (fun _=>x):=fun rec r h=>⟨[],fun _ hx=>by simp at hx,fun _ _=>h⟩
theorem Hangs.ask(key:Key)(h:AH):Hangs (fun rec=>rec key h):=fun rec r hr=>⟨[⟨key,h,r⟩],fun x hx=>by simp at hx;subst hx;exact hr,fun rec' h'=>h' ⟨key,h,r⟩ (by simp)⟩
theorem Hangs.bind{A B:Type}{f:Rec→Option A}{g:Rec→A→Option B}(hf:Hangs f)(hg:∀a,Hangs (fun rec=>g rec a)):Hangs (fun rec=>(f rec).bind (g rec)):=fun rec r h=>by
 rw[Option.bind_eq_some_iff]at h;obtain⟨a,ha,hb⟩:=h;obtain⟨l,h1,h2⟩:=hf rec a ha;obtain⟨m,h3,h4⟩:=hg a rec r hb;exact⟨l++m,h1.append h3,fun rec' h'=>by dsimp only;rw[h2 rec' h'.left];exact h4 rec' h'.right⟩
theorem Hangs.cond{A:Type}{c:Bool}{f g:Rec→Option A}(hf:Hangs f)(hg:Hangs g):Hangs (fun rec=>cond c (f rec) (g rec)):=by
 cases c
 ·exact hg
 ·exact hf
theorem ko2(f:FuncId)(args:List AV)(h:AH):Hangs (fun rec=>callF P rec f args h):=by
 unfold callF;split
 ·refine Hangs.cond (Hangs.const _) ?_;split
  ·exact Hangs.ask _ _
  ·exact Hangs.const _
 ·exact Hangs.const _
theorem kz6(v:AV)(args:List AV)(h:AH):Hangs (fun rec=>callV P rec v args h):=by
 unfold callV;split
 ·exact ko2 _ _ _
 ·exact Hangs.const _
theorem kbbt(c:Call)(ty:TypeId)(fr:Fr)(h:AH):Hangs (fun rec=>callK P rec c ty fr h pk):=by
 unfold callK;split
 ·exact Hangs.const _
 ·split
  ·exact Hangs.const _
  ·split
   ·exact(kz6 _ _ _).bind fun q=>Hangs.const _
   ·exact Hangs.const _
  ·split
   ·rename_i v _;cases v.asIface with
    | none=>exact Hangs.const _
    | some p =>
     obtain⟨g,e⟩:=kwd;simp only[Option.bind_some,e];cases g P p.1 _ p.2 h with
     | none=>exact Hangs.const _
     | some q=>exact(ko2 _ _ _).bind fun q=>Hangs.const _
   ·exact Hangs.const _
theorem knv(o:Op)(ty:TypeId)(fr:Fr)(h:AH):Hangs (fun rec=>opK P rec o ty fr h pk):=by
 cases o<;>first
  | exact kbbt _ _ _ _
  | exact Hangs.const _
theorem kpw(o:Op)(ty:TypeId)(fr:Fr)(h:AH):Hangs (fun rec=>opM P rec o ty fr h pk):=by
 unfold opM;split
 ·exact Hangs.const _
 ·exact Hangs.const _
 ·exact Hangs.const _
 ·exact Hangs.const _
 ·exact Hangs.const _
 ·exact Hangs.const _
 ·exact Hangs.const _
 ·exact Hangs.const _
 ·exact Hangs.const _
 ·split
  ·exact Hangs.const _
  ·exact Hangs.const _
  ·exact Hangs.const _
  ·exact knv _ _ _ _
 ·exact knv _ _ _ _
theorem kti(o:Op)(ty:TypeId)(fr:Fr)(h:AH):Hangs (fun rec=>opP P rec o ty fr h pk):=by
 unfold opP;split
 ·split
  ·exact Hangs.const _
  ·exact kpw _ _ _ _
 ·split
  ·exact Hangs.const _
  ·exact kpw _ _ _ _
 ·exact kpw _ _ _ _
theorem kvj(o:Op)(ty:TypeId)(fr:Fr)(h:AH):Hangs (fun rec=>opX P rec o ty fr h pk):=Hangs.cond (knv _ _ _ _) (kti _ _ _ _)
theorem ki6{N:Nat}{ops:Array Oper}{k:Rec→Fr→AH→Option (AV×AH)}(hk:∀fr h,Hangs (fun rec=>k rec fr h)):∀(is:List Nat)(fr:Fr)(h:AH),Hangs (fun rec=>opsK P rec N ops is fr h (k rec))
 | [],fr,h=>hk fr h
 | i::is,fr,h=>by
  have put:∀(d:Option Tmp)(v:AV)(fr:Fr)(h:AH),Hangs (fun rec=>putT N d v fr fun fr'=>opsK P rec N ops is fr' h (k rec)):=by
   intro d v fr h;simp only[kgl];split
   ·exact ki6 hk is _ _
   ·exact Hangs.cond (ki6 hk is _ _) (Hangs.const _)
  have go:∀(o:Oper)(fr:Fr),Hangs (fun rec=>opX P rec o.op o.type fr h fun v h'=>putT N o.dst v fr fun fr'=>opsK P rec N ops is fr' h' (k rec)):=by
   intro o fr
   have:(fun rec=>opX P rec o.op o.type fr h fun v h'=>putT N o.dst v fr fun fr'=>opsK P rec N ops is fr' h' (k rec))=(fun rec=>(opX P rec o.op o.type fr h pk).bind fun p=>putT N o.dst p.1 fr fun fr'=>opsK P rec N ops is fr' p.2 (k rec)):=by
    funext rec;exact kg9 rec o.op o.type fr h _ _
   rw[this];exact(kvj _ _ _ _).bind fun p=>put _ _ _ _
  simp only[opsK];split
  ·exact Hangs.const _
  ·rename_i o ho;split
   ·exact go o fr
   ·split
    ·exact Hangs.const _
    ·split
     ·exact Hangs.cond (Hangs.cond (go o _) (put _ _ _ _)) (Hangs.cond (put _ _ _ _) (go o _))
     ·exact put _ _ _ _
     ·exact Hangs.const _
theorem kz8(rec:Rec)(o:Op)(ty:TypeId)(fr:Fr)(h:AH)(R:Type)(k:AV→AH→Option R):opY P rec o ty fr h k=(opY P rec o ty fr h pk).bind fun p=>k p.1 p.2:=by
 unfold opY;split
 ·obtain⟨g,e⟩:=ku0;simp only[e];simp[pk,Option.bind_assoc]
 ·exact kw3 rec o ty fr h R k
theorem kbcb(o:Op)(ty:TypeId)(fr:Fr)(h:AH):Hangs (fun rec=>opY P rec o ty fr h pk):=by
 unfold opY;split
 ·exact(Hangs.ask _ _).bind fun q=>Hangs.const _
 ·exact kti _ _ _ _
theorem kmq{N:Nat}{ops:Array Oper}{k:Rec→Fr→AH→Option (AV×AH)}(hk:∀fr h,Hangs (fun rec=>k rec fr h)):∀(is:List Nat)(fr:Fr)(h:AH),Hangs (fun rec=>opsY P rec N ops is fr h (k rec))
 | [],fr,h=>hk fr h
 | i::is,fr,h=>by
  have put:∀(d:Option Tmp)(v:AV)(fr:Fr)(h:AH),Hangs (fun rec=>putT N d v fr fun fr'=>opsY P rec N ops is fr' h (k rec)):=by
   intro d v fr h;simp only[kgl];split
   ·exact kmq hk is _ _
   ·exact Hangs.cond (kmq hk is _ _) (Hangs.const _)
  have go:∀(o:Oper)(fr:Fr),Hangs (fun rec=>opY P rec o.op o.type fr h fun v h'=>putT N o.dst v fr fun fr'=>opsY P rec N ops is fr' h' (k rec)):=by
   intro o fr
   have:(fun rec=>opY P rec o.op o.type fr h fun v h'=>putT N o.dst v fr fun fr'=>opsY P rec N ops is fr' h' (k rec))=(fun rec=>(opY P rec o.op o.type fr h pk).bind fun p=>putT N o.dst p.1 fr fun fr'=>opsY P rec N ops is fr' p.2 (k rec)):=by
    funext rec;exact kz8 rec o.op o.type fr h _ _
   rw[this];exact(kbcb _ _ _ _).bind fun p=>put _ _ _ _
  simp only[opsY];split
  ·exact Hangs.const _
  ·rename_i o ho;split
   ·exact go o fr
   ·split
    ·exact Hangs.const _
    ·split
     ·exact Hangs.cond (Hangs.cond (go o _) (put _ _ _ _)) (Hangs.cond (put _ _ _ _) (go o _))
     ·exact put _ _ _ _
     ·exact Hangs.const _
theorem k9r{A:Type}{p:Prop}{f:Rec→Option A}(hf:Hangs f):Hangs (fun rec=>whenK p (f rec)):=by
 unfold whenK;split
 ·exact hf
 ·exact Hangs.const _
theorem kpp{A:Type}{m:Nat}{h h':AH}{f:Rec→Option A}(hf:Hangs f):∀(ps:List Look),Hangs (fun rec=>checkP m h h' (f rec) ps)
 | []=>hf
 | p::ps=>Hangs.cond (kpp hf ps) (k9r (kpp hf ps))
theorem kmn{N:Nat}{ops:Array Oper}{deps ancs:List Nat}{k:Rec→Fr→AH→Option (AV×AH)}(hk:∀fr h,Hangs (fun rec=>k rec fr h)):∀(c:List Nat)(m:Nat)(ps:List Look)(fr:Fr)(h:AH),Hangs (fun rec=>opsD P rec N ops deps ancs c m ps fr h (k rec))
 | [],m,ps,fr,h=>Hangs.cond (hk fr h) (Hangs.const _)
 | i::c,m,ps,fr,h=>by
  simp only[opsD];split
  ·refine Hangs.cond (Hangs.cond (Hangs.cond ?_ (Hangs.const _)) (Hangs.cond ?_ (Hangs.const _))) (Hangs.const _)
   ·exact ki6 (k:=fun rec fr' h'=>opsD P rec N ops deps ancs c _ _ fr' h' (k rec)) (fun fr' h'=>kmn hk c _ _ fr' h') _ _ _
   ·exact ki6 (k:=fun rec fr' h'=>checkP _ h h' (opsD P rec N ops deps ancs c _ ps fr' h' (k rec)) ps) (fun fr' h'=>kpp (kmn hk c _ _ fr' h') _) _ _ _
  ·exact Hangs.const _
theorem kbex{N:Nat}{ops:Array Oper}{order:List Nat}{k:Rec→Fr→AH→Option (AV×AH)}(hk:∀fr h,Hangs (fun rec=>k rec fr h))(fr:Fr)(h:AH):Hangs (fun rec=>drawK P rec N ops order fr h (k rec)) :=
 Hangs.cond (kmn hk _ _ _ _ _) (Hangs.const _)
theorem k52{cs:List Operand}{a b:Fr}{x:Rec→Option (AV×AH)}(hx:Hangs x):Hangs (fun rec=>finK cs a b (x rec)):=by
 unfold finK;split
 ·exact hx
 ·unfold whenK;split
  ·exact hx
  ·exact Hangs.const _
theorem kxy{N:Nat}{order:List Nat}{fp:Fr}{k:Rec→Fr→AH→Option (AV×AH)}(hk:∀fr h,Hangs (fun rec=>k rec fr h)):∀(is:List Nat)(cs:List Operand)(ops:Array Oper)(ps:List Look)(fr:Fr)(h:AH),Hangs (fun rec=>drawR P rec N order fp is cs ops ps fr h (k rec))
 | [],cs,ops,ps,fr,h=>Hangs.cond (kmn (k:=fun rec fr' h'=>finK cs (fr'.low N) fp (k rec (fr'.low N) h')) (fun fr h=>k52 (hk _ _)) _ _ _ _ _) (Hangs.const _)
 | i::is,cs,ops,ps,fr,h=>by
  simp only[drawR];split
  ·rename_i o ho;refine Hangs.cond ?_ (Hangs.const _)
   have:(fun rec=>opX P rec o.op o.type fp h fun v h'=>drawR P rec N order fp is (o.op.operands.toList++cs) (ops.setIfInBounds i {o with op:=.move (.tmp (N+i))}) (⟨i,h.next,0⟩::ps) ((N+i,v)::fr) h' (k rec))=fun rec=>(opX P rec o.op o.type fp h pk).bind fun p=>drawR P rec N order fp is (o.op.operands.toList++cs) (ops.setIfInBounds i {o with op:=.move (.tmp (N+i))}) (⟨i,h.next,0⟩::ps) ((N+i,p.1)::fr) p.2 (k rec):=by
    funext rec;exact kg9 rec o.op o.type fp h _ _
   rw[this];exact(kvj _ _ _ _).bind fun p=>kxy hk is _ _ _ _ _
  ·exact Hangs.const _
theorem k2a{N:Nat}{ops:Array Oper}{order resv pre:List Nat}{k:Rec→Fr→AH→Option (AV×AH)}(hk:∀fr h,Hangs (fun rec=>k rec fr h))(fr:Fr)(h:AH):Hangs (fun rec=>drawX P rec N ops order resv pre fr h (k rec)):=by
 unfold drawX;split
 ·exact kbex hk fr h
 ·rename_i i is;refine Hangs.cond ?_ (Hangs.const _);exact ki6 (k:=fun rec fp _=>drawR P rec N order fp (i::is) [] ops [] fr h (k rec)) (fun fp _=>kxy hk _ _ _ _ _ _) _ _ _
theorem kio{K:Keep}{ro:Option Nat}{f:FuncId}{fn:Func}:∀(n:Nat)(fresh:Bool)(todo:List Item)(fr:Fr)(h:AH),Hangs (fun rec=>execA P K rec ro f fn n fresh todo fr h)
 | 0,fresh,todo,fr,h=>Hangs.const _
 | n+1,fresh,todo,fr,h=>by
  unfold execA
  try simp only[kc1]
  have IH:=kio (K:=K) (ro:=ro) (f:=f) (fn:=fn) n;have dr:∀(ops:Array Oper)(is js ls:List Nat)(k:List Item)(fr:Fr)(h:AH),Hangs (fun rec=>cond (ro.isSome&&kg0 ops) none (drawX P rec fn.ntmps ops is js ls fr h fun fr' h'=>execA P K rec ro f fn n false k fr' h')):=fun ops is js ls k fr h=>Hangs.cond (Hangs.const _) (k2a (fun fr' h'=>IH false _ fr' h') _ _);split
  ·exact Hangs.const _
  ·exact Hangs.const _
  ·exact IH _ _ _ _
  ·exact IH _ _ _ _
  ·exact IH _ _ _ _
  ·exact IH _ _ _ _
  ·exact IH _ _ _ _
  ·split
   ·exact Hangs.cond (IH _ _ _ _) (IH _ _ _ _)
   ·exact Hangs.const _
  ·exact IH _ _ _ _
  ·exact IH _ _ _ _
  ·exact IH _ _ _ _
  ·exact IH _ _ _ _
  ·split
   ·exact IH _ _ _ _
   ·exact Hangs.const _
  ·split
   ·exact IH _ _ _ _
   ·exact Hangs.const _
  ·refine Hangs.cond ?_ ?_
   ·exact Hangs.cond (dr _ _ _ _ _ _ _) (kmq (fun fr' h'=>IH false _ fr' h') _ _ _)
   ·split
    ·split
     ·exact Hangs.ask _ _
     ·exact Hangs.ask _ _
    ·exact Hangs.cond (dr _ _ _ _ _ _ _) (kmq (fun fr' h'=>IH false _ fr' h') _ _ _)
  ·split
   ·exact(Hangs.const _).bind fun h'=>IH _ _ _ _
   ·exact Hangs.const _
  ·split
   ·exact Hangs.const _
   ·refine Hangs.cond ?_ (Hangs.ask _ _);split
    ·exact(ko2 _ _ _).bind fun q=>(Hangs.const _).bind fun p=>Hangs.ask _ _
    ·exact Hangs.const _
  ·exact Hangs.const _
theorem knr(K:Keep)(key:Key)(h:AH):Hangs (fun rec=>stepA P K rec key h):=by
 unfold stepA
 try simp only[kc1]
 split
 ·split
  ·split
   ·exact Hangs.cond (kio _ _ _ _ _) (Hangs.const _)
   ·exact Hangs.const _
  ·exact Hangs.const _
 ·split
  ·exact kio _ _ _ _ _
  ·exact Hangs.const _
 ·split
  ·split
   ·exact Hangs.cond (kio _ _ _ _ _) (Hangs.const _)
   ·exact Hangs.const _
  ·exact Hangs.const _
 ·split
  ·exact kio _ _ _ _ _
  ·exact Hangs.const _
theorem kw0(K:Keep):∀(n:Nat){key:Key}{h:AH}{r:AV×AH},runF P K n key h=some r→runF P K (n+1) key h=some r
 | 0,key,h,r,hr=>by simp[runF]at hr
 | n+1,key,h,r,hr=>by
  obtain⟨l,h1,h2⟩:=knr (P:=P) K key h (runF P K n) r hr;exact h2 (runF P K (n+1)) fun x hx=>kw0 K n (h1 x hx)
theorem klj(K:Keep){n m:Nat}(hle:n≤m){key:Key}{h:AH}{r:AV×AH}(hr:runF P K n key h=some r):runF P K m key h=some r:=by
 induction hle with
 | refl=>exact hr
 | step _ ih=>exact kw0 K _ ih
theorem krv{K:Keep}{n:Nat}{key:Key}{h:AH}{r:AV×AH}(hr:runF P K n key h=some r):run P K key h=some r:=by
 cases hq:run P K key h with
 | none =>
  unfold run at hq;split at hq
  ·cases hq
  ·rename_i hno;exact absurd ⟨n,r,hr⟩ hno
 | some r' =>
  obtain⟨m,hm⟩:=kg1 hq;have h1:=klj K (Nat.le_max_left n m) hr;have h2:=klj K (Nat.le_max_right n m) hm;rw[h1]at h2;exact h2.symm
theorem kwt(K:Keep):∀(l:List Ask),Agree (run P K) l→∃n,Agree (runF P K n) l
 | [],_=>⟨0,fun _ hx=>by simp at hx⟩
 | x::l,h=>by
  obtain⟨n,hn⟩:=kwt K l fun y hy=>h y (by simp[hy]);obtain⟨m,hm⟩:=kg1 (h x (by simp));refine⟨max n m,fun y hy=>?_⟩;rcases List.mem_cons.1 hy with rfl | hy
  ·exact klj K (Nat.le_max_right n m) hm
  ·exact klj K (Nat.le_max_left n m) (hn y hy)
theorem k5b(K:Keep)(key:Key)(h:AH):run P K key h=stepA P K (run P K) key h:=by
 cases hq:stepA P K (run P K) key h with
 | some r =>
  obtain⟨l,h1,h2⟩:=knr (P:=P) K key h _ r hq;obtain⟨n,hn⟩:=kwt K l h1;exact krv (n:=n+1) (h2 _ hn)
 | none =>
  cases hr:run P K key h with
  | none=>rfl
  | some r =>
   obtain⟨n,hn⟩:=kg1 hr;cases n with
   | zero=>simp[runF]at hn
   | succ n =>
    obtain⟨l,h1,h2⟩:=knr (P:=P) K key h (runF P K n) r hn;have:=h2 (run P K) fun x hx=>krv (h1 x hx);dsimp only at this;rw[hq]at this;cases this
end Go.Ab
namespace Go.Ab
def newK{R:Type}(h:AH)(b:ABlk)(k:Ref→AH→R):R:=k h.next (h.alloc b)
def newM{R:Type}(h:AH)(b:ABlk)(k:Nat→AH→R):R:=k h.blks.size (h.alloc b)
def kbdl(v:AV)(xs:List AV):Option (Nat×List AV):=match v with
 | .func (.yield l) [] []=>some (l,xs)
 | _=>none
def yieldK{R:Type}(v:AV)(xs:List AV)(a:Nat×List AV→R)(b:R):R:=match kbdl v xs with
 | some p=>a p
 | none=>b
def funcK{R:Type}(v:AV)(k:FuncId→List AV→List AV→Option R):Option R:=match v with
 | .func (.func f) first captured=>k f first captured
 | _=>none
def loopIn:Nat→Code→List Item→Nat×Option (Array Tmp×Code×Code×List Item)
 | r,.seq a b,k=>match loopIn r a (.code b::k)with
  | (r',none)=>loopIn r' b k
  | x=>x
 | r,.cond _ a b,k=>match loopIn r a k with
  | (r',none)=>loopIn r' b k
  | x=>x
 | r,.block id b,k=>loopIn r b (.inBlock id::k)
 | r,.loop b,k=>loopIn r b (.inLoop b::k)
 | r,.scope b,k=>loopIn r b (.inScope b::k)
 | 0,.rangeFunc _ ps a b,k=>(0,some (ps,a,b,k))
 | r+1,.rangeFunc _ _ _ _,_=>(r,none)
 | r,_,_=>(r,none)
def loopAt(fn:Func)(r:Nat):Array Tmp×Code×Code×List Item :=
 match fn.body with
 | some c=>((loopIn r c []).2).getD (#[],.skip,.skip,[])
 | none=>(#[],.skip,.skip,[])
def koa(fn:Func)(r:Nat)(g:Operand):List Item:=.code (.rangeFunc g (loopAt fn r).1 (loopAt fn r).2.1 (loopAt fn r).2.2.1)::(loopAt fn r).2.2.2
def kec(fn:Func)(f:FuncId)(r:Nat)(st:LoopState)(pe:Option Code)(fr:Fr):ABlk:=.loop st pe f fr (loopAt fn r).1 (loopAt fn r).2.1 (loopAt fn r).2.2.1 0
theorem kpz{P:Program}{K:Keep}{rec:Rec}{l:Nat}{args:List AV}{h:AH}{st:LoopState}{pe:Option Code}{f:FuncId}{fr:Fr}{ps:Array Tmp}{bs bd:Code}{d:Nat}(hb:h.blks[l]?=some (.loop st pe f fr ps bs bd d)) :
  stepA P K rec (.round l args) h=match P.funcs[f]? with
   | some fn=>cond (Nat.beq ps.size args.length&&ps.toList.all fun t=>Nat.blt t fn.ntmps) (execA P K rec (some l) f fn 4000 false [.code bs,.beginRound,.code bd] (handed ps.toList args fr) h) none
   | none=>none:=by
 simp only[stepA,hb];rfl
def keepOf:List (Nat×Nat×List Nat)→Keep
 | [],_,_=>none
 | (f,r,l)::t,g,q=>cond (Nat.beq f g&&Nat.beq r q) (some l) (keepOf t g q)
def todoIn(r:Nat):Code→List Item→Option (List Item)
 | .region id ops draw,k=>cond (Nat.beq id r) (some (.code (.region id ops draw)::k)) none
 | .seq a b,k=>match todoIn r a (.code b::k)with
  | some t=>some t
  | none=>todoIn r b k
 | .cond _ a b,k=>match todoIn r a k with
  | some t=>some t
  | none=>todoIn r b k
 | .block id b,k=>todoIn r b (.inBlock id::k)
 | .loop b,k=>todoIn r b (.inLoop b::k)
 | .scope b,k=>todoIn r b (.inScope b::k)
 | .rangeFunc _ _ a b,k=>match todoIn r a [.beginRound,.code b]with
  | some t=>some t
  | none=>todoIn r b []
 | _,_=>none
def todoAt(fn:Func)(r:Nat):List Item :=
 match fn.body with
 | some c=>(todoIn r c []).getD []
 | none=>[]
variable{P:Program}
theorem Sim.begin(W:World):Sim P W (fun _=>none) ⟨W.heap,#[]⟩ W :=
 ⟨rfl,rfl,rfl,rfl,Nat.le_refl _,fun _ _=>rfl,fun _ _ h=>by simp at h,fun _ _ h=>by simp at h,fun _ _ _ h=>by simp at h,fun _ _ _ _ h=>by simp at h⟩
theorem start(hm:P.follows .mixedOrders=true){K:Keep}{f:FuncId}{xs:List AV}{b:Bool}{W:World}{h':AH}(hr:run P K (.fn f xs) ⟨W.heap,#[]⟩=some (.bool b,h')){args:Array Value}(hx:VRels (fun _=>none) xs args.toList) :
  Calls P f args W fun e w'=>e=.returned (.bool b)∧Go.RowKit.Below W.heap.size W w':=by
 have:=(run_ok (P:=P) (O:=W) K hm).fn hr (Sim.begin W) hx;rw[Array.toArray_toList]at this;refine this.mono ?_
 rintro e w' ⟨u,rfl,ν,hv,S,-,-⟩
 simp only[VRel]at hv;subst hv;exact⟨rfl,S.os,S.tape,S.output,S.base,S.keep⟩
end Go.Ab
namespace Go.Ab
open Go.WideShapes
variable{P:Program}
def ArgC(P:Program)(h:AH):Nat→TypeId→List AV→Prop
 | 0,_,_=>False
 | n+1,t,cs=>match P.underlying t with
  | some (.int k)=>∃x,cs=[.int k x]∧(Lit.int k x).wf=true
  | some .bool=>∃b,cs=[.bool b]
  | some .string=>∃s,cs=[.str s]∧s.size≤maxLen
  | some (.pointer e)=>cs=[.ptr none]∨∃a es,cs=[.ptr (some (.old a))]∧h.gets (.old a) (P.cellsOf e)=some es∧ArgC P h n e es
  | some (.slice e)=>cs=[.slice none 0 (.is 0)]∨∃a len cap,cs=[.slice (some (.old a)) len (.is cap)]∧len≤cap∧cap≤maxLen∧len*P.bytesOf e≤reachBytes∧
    ∀i,i<len→∃es,h.gets (.old (a.add (i*P.cellsOf e))) (P.cellsOf e)=some es∧ArgC P h n e es
  | some (.struct fs)=>cs.length=P.cellsOf t∧∀f∈fs.toList,ArgC P h n f.type ((cs.drop f.offset).take (P.cellsOf f.type))
  | some (.array m e)=>cs.length=P.cellsOf t∧∀i,i<m→ArgC P h n e ((cs.drop (i*P.cellsOf e)).take (P.cellsOf e))
  | _=>True
def ArgT(P:Program)(h:AH)(t:TypeId)(cs:List AV):Prop:=∃n,ArgC P h n t cs
def tiles(P:Program)(total:Nat):List Field→Nat→Bool
 | [],n=>Nat.beq n total
 | f::fs,n=>Nat.beq f.offset n&&tiles P total fs (n+P.cellsOf f.type)
def argTy(P:Program):Nat→TypeId→Bool
 | 0,_=>false
 | d+1,t=>match P.underlying t with
  | some (.int _) | some .bool | some .string=>true
  | some (.pointer e)=>argTy P d e
  | some (.slice e)=>argTy P d e
  | some (.struct fs)=>fs.toList.all (fun f=>argTy P d f.type)&&tiles P (P.cellsOf t) fs.toList 0
  | some (.array m e)=>argTy P d e&&Nat.beq (P.cellsOf t) (m*P.cellsOf e)
  | _=>false
theorem kqh:∀{us:List Value}{vs:List AV},AV.ofCells us=some vs→vs.length=us.length∧∀(i:Nat)(u:Value),us[i]?=some u→∃v,vs[i]?=some v∧AV.ofCell u=some v
 | [],vs,h=>by simp[AV.ofCells]at h;subst h;simp
 | u::us,vs,h=>by
  simp only[AV.ofCells]at h;split at h
  ·rename_i x xs hx hxs;cases h;obtain⟨h1,h2⟩:=kqh hxs;refine⟨by simp[h1],fun i w hw=>?_⟩;cases i with
   | zero=>simp at hw;subst hw;exact⟨x,by simp,hx⟩
   | succ i=>simpa using h2 i w (by simpa using hw)
  ·cases h
theorem kqd:∀{us:List Value}{vs:List AV}(n:Nat),AV.ofCells us=some vs→AV.ofCells (us.take n)=some (vs.take n)
 | _,_,0,h=>by simp[AV.ofCells]
 | [],vs,n+1,h=>by simp[AV.ofCells]at h;subst h;simp[AV.ofCells]
 | u::us,vs,n+1,h=>by
  simp only[AV.ofCells]at h;split at h
  ·rename_i x xs hx hxs;cases h;simp[AV.ofCells,hx,kqd n hxs]
  ·cases h
theorem kp1:∀{us:List Value}{vs:List AV}(n:Nat),AV.ofCells us=some vs→AV.ofCells (us.drop n)=some (vs.drop n)
 | _,_,0,h=>by simpa using h
 | [],vs,n+1,h=>by simp[AV.ofCells]at h;subst h;simp[AV.ofCells]
 | u::us,vs,n+1,h=>by
  simp only[AV.ofCells]at h;split at h
  ·rename_i x xs hx hxs;cases h
   simpa using kp1 n hxs
  ·cases h
theorem cell_old{w:World}{a:Addr}{u:Value}(h:w.cell? a=some u):AH.cell ⟨w.heap,#[]⟩ (.old a)=AV.ofCell u:=by
 simp only[World.cell?]at h;simp only[AH.cell];split at h
 ·rename_i c e k hb;rw[hb];dsimp only;split at h
  ·cases h
  ·rename_i hs;rw[if_neg hs,h];rfl
 ·cases h
theorem ksq{w:World}:∀(n:Nat){r:Ref}{us:List Value}{vs:List AV},us.length=n→(∀(i:Nat)(u:Value),us[i]?=some u→AH.cell ⟨w.heap,#[]⟩ (r.add i)=AV.ofCell u)→AV.ofCells us=some vs→AH.gets ⟨w.heap,#[]⟩ r n=some vs
 | 0,r,us,vs,hl,hc,hv=>by
  have:us=[]:=List.length_eq_zero_iff.1 hl;subst this;simp[AV.ofCells]at hv;subst hv;rfl
 | n+1,r,u::us,vs,hl,hc,hv=>by
  simp only[AV.ofCells]at hv;split at hv
  ·rename_i x xs hx hxs;cases hv;have h0:=hc 0 u (by simp);have e0:r.add 0=r:=by cases r<;>simp[Ref.add,Addr.add]
   rw[e0]at h0
   have e1:∀i,(r.add 1).add i=r.add (i+1):=by
    intro i;cases r with
    | old a =>
     simp only[Ref.add,Addr.add];by_cases hi:i=0
     ·subst hi;simp
     ·simp[hi,Nat.add_assoc,Nat.add_comm 1 i]
    | new j o=>simp only[Ref.add];congr 1;omega
   have:=ksq n (r:=r.add 1) (us:=us) (by simpa using hl) (fun i u' hu=>by
    rw[e1];exact hc (i+1) u' (by simpa using hu)) hxs
   simp only[AH.gets,h0,hx,Option.bind_some,this,Option.map_some]
  ·cases hv
theorem kba0{w:World}{base n:Nat}{a:Addr}{cs:List Value}(h:w.cells? base a n=some cs):cs.length=n∧∀(i:Nat)(u:Value),cs[i]?=some u→w.cell? (a.add i)=some u:=by
 unfold World.cells? at h;split at h
 ·have hl:=mapM_some_length h;simp at hl;refine⟨hl,fun i u hu=>?_⟩
  have hi:i<n:=by
   rcases Nat.lt_or_ge i n with h' | h'
   ·exact h'
   ·rw[List.getElem?_eq_none (by omega)]at hu;cases hu
  have:=mapM_some_get h i i (by simp[hi]);rw[this,hu]
 ·cases h
theorem ktk{w:World}{base n:Nat}{a:Addr}{cs:List Value}{vs:List AV}(h:w.cells? base a n=some cs)(hv:AV.ofCells cs=some vs):AH.gets ⟨w.heap,#[]⟩ (.old a) n=some vs:=by
 obtain⟨h1,h2⟩:=kba0 h;exact ksq n h1 (fun i u hu=>cell_old (h2 i u hu)) hv
theorem kr3{us xs:List Value}{vs ys:List AV}(h:AV.ofCells us=some vs)(k:AV.ofCells xs=some ys):AV.ofCells (us++xs)=some (vs++ys):=by
 induction us generalizing vs with
 | nil=>simp[AV.ofCells]at h;subst h;simpa using k
 | cons u us ih =>
  simp only[AV.ofCells]at h;split at h
  ·rename_i a as ha has;cases h;simp[AV.ofCells,ha,ih has]
  ·cases h
theorem kw5{P:Program}{cs:List Value}{total:Nat}(hl:cs.length=total):∀(fs:List Field)(n:Nat),tiles P total fs n=true→(∀f∈fs,∃vs,AV.ofCells ((cs.drop f.offset).take (P.cellsOf f.type))=some vs)→∃vs,AV.ofCells (cs.drop n)=some vs
 | [],n,ht,h=>by
  simp only[tiles]at ht;have:=Nat.eq_of_beq_eq_true ht;exact⟨[],by rw[List.drop_of_length_le (by omega)];rfl⟩
 | f::fs,n,ht,h=>by
  simp only[tiles,Bool.and_eq_true]at ht;have h1:=Nat.eq_of_beq_eq_true ht.1;obtain⟨vs,hv⟩:=h f (by simp);obtain⟨ws,hw⟩:=kw5 hl fs _ ht.2 fun g hg=>h g (by simp[hg]);refine⟨vs++ws,?_⟩;rw[h1]at hv;rw[← List.take_append_drop (P.cellsOf f.type) (cs.drop n),List.drop_drop];exact kr3 hv hw
theorem kt6{cs:List Value}{c:Nat}:∀(m n:Nat),cs.length=(n+m)*c→(∀i,n≤i→i<n+m→∃vs,AV.ofCells ((cs.drop (i*c)).take c)=some vs)→∃vs,AV.ofCells (cs.drop (n*c))=some vs
 | 0,n,hl,h=>⟨[],by rw[List.drop_of_length_le (by simp at hl;omega)];rfl⟩
 | m+1,n,hl,h=>by
  obtain⟨vs,hv⟩:=h n (Nat.le_refl _) (by omega);obtain⟨ws,hw⟩:=kt6 m (n+1) (by rw[hl];congr 1;omega) fun i h1 h2=>h i (by omega) (by omega);refine⟨vs++ws,?_⟩;rw[← List.take_append_drop c (cs.drop (n*c)),List.drop_drop];rw[Nat.succ_mul]at hw;exact kr3 hv hw
theorem kqj{H:Type}{e:TypeId}{d:DataW H}{n:Nat}(hn:n∈d.weights P e):∀{l:List (DataW H)},d∈l→n∈DataW.weightsAll P e l
 | x::l,h=>by
  simp only[DataW.weightsAll];rcases List.mem_cons.1 h with rfl | h
  ·exact List.mem_append.2 (.inl hn)
  ·exact List.mem_append.2 (.inr (kqj hn h))
theorem kit{H:Type}{enc:TypeId×Value→H}{w:World}{base:Nat}{spare:Nat→Bool}{held:Bool}:∀(n d:Nat){t:TypeId}{cs:List Value}{x:DataW H×List MemPlace},
  argTy P d t=true→DataW.trod enc P w base spare held n t cs=some x→(∀m∈DataW.weights P t x.1,m≤reachBytes)→∃vs,AV.ofCells cs=some vs∧ArgC P ⟨w.heap,#[]⟩ n t vs
 | 0,d,t,cs,x,ha,h,hw=>by simp[DataW.trod]at h
 | n+1,0,t,cs,x,ha,h,hw=>by simp[argTy]at ha
 | n+1,d+1,t,cs,x,ha,h,hw=>by
  simp only[argTy]at ha;simp only[ArgC];split at ha
  ·rename_i k hu
   have:∃z,cs=[.int k z]∧(Lit.int k z).wf=true:=by
    unfold DataW.trod at h;rw[hu]at h;split at h<;>simp_all
   obtain⟨z,rfl,hz⟩:=this;exact⟨[.int k z],rfl,z,rfl,hz⟩
  ·rename_i hu
   have:∃z,cs=[.bool z]:=by
    unfold DataW.trod at h;rw[hu]at h;split at h<;>simp_all
   obtain⟨z,rfl⟩:=this;exact⟨[.bool z],rfl,z,rfl⟩
  ·rename_i hu
   have:∃z,cs=[.string z]∧z.size≤maxLen:=by
    unfold DataW.trod at h;rw[hu]at h;split at h<;>simp_all
   obtain⟨z,rfl,hz⟩:=this;exact⟨[.str z],rfl,z,rfl,hz⟩
  ·rename_i e hu;rcases DataW.trod_pointer hu h with⟨rfl,-⟩ | ⟨a,cs',y,m,hm,rfl,rfl,hc,hy⟩
   ·exact⟨[.ptr none],rfl,.inl rfl⟩
   ·cases hm;obtain⟨es,h1,h2⟩:=kit n d ha hy fun q hq=>hw q (by simp only[DataW.weights,hu];exact hq);exact⟨[.ptr (some (.old a))],rfl,.inr ⟨a,es,rfl,ktk hc h1,h2⟩⟩
  ·rename_i e hu;rcases DataW.trod_slice hu h with⟨rfl,-⟩ | ⟨a,len,cap,elems,rest,m,hm,rfl,rfl,-,hl,hc,hel,hi,-,-⟩
   ·exact⟨[.slice none 0 (.is 0)],rfl,.inl rfl⟩
   ·cases hm;refine⟨[.slice (some (.old a)) len (.is cap)],by simp[AV.ofCells,AV.ofCell,Nat.ble_eq_true_of_le hl],.inr ⟨a,len,cap,rfl,hl,hc,?_,fun i hlt=>?_⟩⟩
    ·have:=hw ((elems.length+rest.length)*P.bytesOf e) (by simp only[DataW.weights,hu,List.length_map];exact List.mem_cons_self);exact Nat.le_trans (Nat.mul_le_mul_right _ (by omega)) this
    have h1:=hi i hlt;have:∃y,elems[i]?=some y:=⟨elems[i]'(by omega),by simp⟩;obtain⟨y,hy⟩:=this;rw[hy,Option.bind_eq_some_iff]at h1;obtain⟨cs',h2,h3⟩:=h1
    obtain⟨es,h4,h5⟩:=kit n d ha h3 fun q hq=>hw q (by
     simp only[DataW.weights,hu];exact List.mem_cons_of_mem _ (List.mem_append.2 (.inl (kqj hq (List.mem_map.2 ⟨y,List.mem_of_getElem? hy,rfl⟩)))))
    exact⟨es,ktk h2 h4,h5⟩
  ·rename_i fs hu;simp only[Bool.and_eq_true,List.all_eq_true]at ha;obtain⟨xs,m,hm,rfl,hl,hx,hf⟩:=DataW.trod_struct hu h;cases hm
   have key:∀f∈fs.toList,∃vs,AV.ofCells ((cs.drop f.offset).take (P.cellsOf f.type))=some vs∧ArgC P ⟨w.heap,#[]⟩ n f.type vs:=by
    intro f hf';obtain⟨i,hi,rfl⟩:=List.getElem_of_mem hf';have h1:=hf i fs.toList[i] (by simp);have:∃y,xs[i]?=some y:=⟨xs[i]'(by simp at hi;omega),by simp⟩;obtain⟨y,hy⟩:=this;rw[hy]at h1;refine kit n d (ha.1 _ hf') h1 fun q hq=>hw q ?_;simp only[DataW.weights,hu];exact DataW.weights_mem_each (j:=i) (by simp at hi;simp[hi]) (by simp[hy]) q hq
   obtain⟨vs,hv⟩:=kw5 (P:=P) hl fs.toList 0 ha.2 fun f hf'=>(key f hf').imp fun _ h=>h.1;rw[List.drop_zero]at hv;refine⟨vs,hv,by rw[(kqh hv).1,hl],fun f hf'=>?_⟩;obtain⟨ws,h1,h2⟩:=key f hf';have:=kqd (P.cellsOf f.type) (kp1 f.offset hv);rw[h1]at this;cases this;exact h2
  ·rename_i m e hu;simp only[Bool.and_eq_true]at ha;have hce:=Nat.eq_of_beq_eq_true ha.2;unfold DataW.trod at h;rw[hu]at h
   have h:(if cs.length=P.cellsOf t then((List.range m).mapM fun i=>DataW.trod enc P w base spare held n e ((cs.drop (i*P.cellsOf e)).take (P.cellsOf e))).map fun xs=>((.agg (xs.map (·.1)),xs.flatMap (·.2)):DataW H×List MemPlace)else none)=some x:=by
    split at h<;>simp_all
   split at h
   ·rename_i hl;simp only[Option.map_eq_some_iff]at h;obtain⟨xs,h1,rfl⟩:=h;have hxl:=mapM_some_length h1;simp at hxl
    have key:∀i,i<m→∃vs,AV.ofCells ((cs.drop (i*P.cellsOf e)).take (P.cellsOf e))=some vs∧ArgC P ⟨w.heap,#[]⟩ n e vs:=by
     intro i hi;have h2:=mapM_some_get h1 i i (by simp[hi]);have:∃y,xs[i]?=some y:=⟨xs[i]'(by omega),by simp⟩;obtain⟨y,hy⟩:=this;rw[hy]at h2;refine kit n d ha.1 h2 fun q hq=>hw q ?_;simp only[DataW.weights,hu];exact kqj hq (List.mem_map.2 ⟨y,List.mem_of_getElem? hy,rfl⟩)
    obtain⟨vs,hv⟩:=kt6 (c:=P.cellsOf e) m 0 (by rw[hl,hce,Nat.zero_add]) fun i _ hi=>(key i (by omega)).imp fun _ h=>h.1;rw[Nat.zero_mul,List.drop_zero]at hv;refine⟨vs,hv,by rw[(kqh hv).1,hl],fun i hi=>?_⟩;obtain⟨ws,h2,h3⟩:=key i hi;have:=kqd (P.cellsOf e) (kp1 (i*P.cellsOf e) hv);rw[h2]at this;cases this;exact h3
   ·cases h
  ·cases ha
def ArgV(P:Program)(h:AH)(t:TypeId)(x:AV):Prop :=
 match P.underlying t with
 | some (.struct _) | some (.array _ _)=>∃cs,x=.agg cs∧ArgT P h t cs
 | _=>ArgT P h t [x]
theorem arg_open{H:Type}{enc:TypeId×Value→H}{W:World}{base base':Nat}{spare:Nat→Bool}{held:Bool}{t:TypeId}{v:Value}{d:DataW H}{ps:List MemPlace}{rch:Reach}(d':Nat)(ha:argTy P (d'+1) t=true)
  (hv:Value.okWide P W rch base t v) (h:DataW.Trod enc P W base' spare held t v d ps) (hw:∀m∈d.weights P t,m≤reachBytes):∃x,VRel (fun _=>none) x v∧ArgV P ⟨W.heap,#[]⟩ t x:=by
 obtain⟨n,hn⟩:=h;obtain⟨vs,h1,h2⟩:=kit n (d'+1) ha hn hw
 have agg:∀cs:Array Value,v=.agg cs→∃x,VRel (fun _=>none) x v∧∃cs',x=.agg cs'∧ArgT P ⟨W.heap,#[]⟩ t cs':=by
  rintro cs rfl
  obtain⟨h3,h4⟩:=VRels.ofCells (μ:=fun _=>none) h1;exact⟨.agg vs,by simp only[VRel];exact⟨cs,rfl,h3,h4⟩,vs,rfl,n,h2⟩
 have cell:∀u,v.cells.toList=[u]→v=u→∃x,VRel (fun _=>none) x v∧ArgT P ⟨W.heap,#[]⟩ t [x]:=by
  rintro u hc rfl
  rw[hc]at h1;simp only[AV.ofCells]at h1;split at h1
  ·rename_i x xs hx hxs;cases h1;cases hxs;exact⟨x,(VRel.ofCell hx).1,n,h2⟩
  ·cases h1
 have cell':(∀cs,v≠.agg cs)→∃x,VRel (fun _=>none) x v∧ArgT P ⟨W.heap,#[]⟩ t [x]:=by
  intro hne;refine cell v ?_ rfl;cases v<;>first | rfl | exact absurd rfl (hne _)
 simp only[argTy]at ha;unfold ArgV;split at ha
 ·rename_i k hu;simp only[hu];obtain⟨z,rfl,-⟩:=okWide_int hu hv;exact cell' fun cs hcs=>by cases hcs
 ·rename_i hu;simp only[hu];obtain⟨z,rfl⟩:=okWide_bool hu hv;exact cell' fun cs hcs=>by cases hcs
 ·rename_i hu;simp only[hu];obtain⟨z,rfl⟩:=okWide_string hu hv;exact cell' fun cs hcs=>by cases hcs
 ·rename_i e hu;simp only[hu];obtain⟨z,rfl⟩:=okWide_pointer hu hv;exact cell' fun cs hcs=>by cases hcs
 ·rename_i e hu;simp only[hu];obtain⟨z,l,c,rfl⟩:=okWide_slice hu hv;exact cell' fun cs hcs=>by cases hcs
 ·rename_i fs hu;simp only[hu];obtain⟨cs,hcs,-⟩:=okWide_struct hu hv;exact agg cs hcs
 ·rename_i m e hu;simp only[hu];unfold Value.okWide at hv;rw[hu]at hv;obtain⟨cs,hcs,-⟩:=hv;exact agg cs hcs
 ·cases ha
theorem ArgT.int{h:AH}{t:TypeId}{k:IntKind}{cs:List AV}(hu:P.underlying t=some (.int k))(a:ArgT P h t cs):∃x,cs=[.int k x]∧(Lit.int k x).wf=true:=by
 obtain⟨n,a⟩:=a;cases n with
 | zero=>simp[ArgC]at a
 | succ n=>simpa[ArgC,hu]using a
theorem ArgT.bool{h:AH}{t:TypeId}{cs:List AV}(hu:P.underlying t=some .bool)(a:ArgT P h t cs):∃x,cs=[.bool x]:=by
 obtain⟨n,a⟩:=a;cases n with
 | zero=>simp[ArgC]at a
 | succ n=>simpa[ArgC,hu]using a
theorem ArgT.slice{h:AH}{t e:TypeId}{cs:List AV}(hu:P.underlying t=some (.slice e))(a:ArgT P h t cs):cs=[.slice none 0 (.is 0)]∨∃a len cap,cs=[.slice (some (.old a)) len (.is cap)]∧len≤cap∧cap≤maxLen∧
    ∀i,i<len→∃es,h.gets (.old (a.add (i*P.cellsOf e))) (P.cellsOf e)=some es∧ArgT P h e es:=by
 obtain⟨n,a⟩:=a;cases n with
 | zero=>simp[ArgC]at a
 | succ n =>
  simp only[ArgC,hu]at a;rcases a with a | ⟨a,len,cap,h1,h2,h3,-,h4⟩
  ·exact .inl a
  ·exact .inr ⟨a,len,cap,h1,h2,h3,fun i hi=>(h4 i hi).imp fun es h=>⟨h.1,n,h.2⟩⟩
theorem ArgT.struct{h:AH}{t:TypeId}{fs:Array Field}{cs:List AV}(hu:P.underlying t=some (.struct fs))(a:ArgT P h t cs):cs.length=P.cellsOf t∧∀f∈fs.toList,ArgT P h f.type ((cs.drop f.offset).take (P.cellsOf f.type)):=by
 obtain⟨n,a⟩:=a;cases n with
 | zero=>simp[ArgC]at a
 | succ n =>
  simp only[ArgC,hu]at a;exact⟨a.1,fun f hf=>⟨n,a.2 f hf⟩⟩
end Go.Ab
namespace Go.Ab
def AH.push(h:AH)(b:ABlk):AH:=h.alloc b
@[simp] theorem kkb{R:Type}(h:AH)(b:ABlk)(k:Ref→AH→R):newK h b k=k (.new h.blks.size 0) (h.push b):=rfl
@[simp] theorem kc(k:IntKind)(n:Int):AV.asInt k (.int k n)=some n:=by simp[AV.asInt]
@[simp] theorem khz(b:Bool):AV.asBool (.bool b)=some b:=rfl
@[simp] theorem asStr_str(s:ByteArray):AV.asStr (.str s)=some s:=rfl
@[simp] theorem asPtr_ptr(r:Option Ref):AV.asPtr (.ptr r)=some r:=rfl
@[simp] theorem asMap_map(r:Option Nat):AV.asMap (.map r)=some r:=rfl
@[simp] theorem asSl_slice(r:Option Ref)(n:Nat)(c:Cap):AV.asSl (.slice r n c)=some ⟨r,n,c⟩:=rfl
@[simp] theorem asSl_v(s:Sl):AV.asSl s.v=some s:=rfl
@[simp] theorem asAgg_agg(cs:List AV):AV.asAgg (.agg cs)=some cs:=rfl
@[simp] theorem asIface_iface(t:TypeId)(v:AV):AV.asIface (.iface t v)=some (t,v):=rfl
@[simp] theorem asTup0_tup:AV.asTup0 (.tup [])=some ():=rfl
@[simp] theorem khq(a b:AV):AV.asTup2 (.tup [a,b])=some (a,b):=rfl
@[simp] theorem asTup3_tup(a b c:AV):AV.asTup3 (.tup [a,b,c])=some (a,b,c):=rfl
@[simp] theorem asTup4_tup(a b c d:AV):AV.asTup4 (.tup [a,b,c,d])=some (a,b,c,d):=rfl
attribute [simp] Ref.add_zero
@[simp] theorem Ref.add_new(i o n:Nat):(Ref.new i o).add n=.new i (o+n):=rfl
@[simp] theorem AH.push_size(h:AH)(b:ABlk):(h.push b).blks.size=h.blks.size+1:=by simp[AH.push,AH.alloc]
def Ref.inn(h:AH):Ref→Prop
 | .old _=>True
 | .new i _=>i<h.blks.size
structure Grow(h h':AH):Prop where
 old:h'.old=h.old
 size:h.blks.size≤h'.blks.size
 blk:∀i,i<h.blks.size→h'.blks[i]?=h.blks[i]?
theorem Grow.refl(h:AH):Grow h h:=⟨rfl,Nat.le_refl _,fun _ _=>rfl⟩
theorem Grow.trans{a b c:AH}(x:Grow a b)(y:Grow b c):Grow a c :=
 ⟨y.old.trans x.old,Nat.le_trans x.size y.size,fun i hi=>(y.blk i (Nat.lt_of_lt_of_le hi x.size)).trans (x.blk i hi)⟩
theorem Grow.push(h:AH)(b:ABlk):Grow h (h.push b) :=
 ⟨rfl,by simp,fun i hi=>by simp[AH.push,AH.alloc,Array.getElem?_push,Nat.ne_of_lt hi]⟩
theorem Grow.cell{h h':AH}(g:Grow h h'){r:Ref}(hr:r.inn h):h'.cell r=h.cell r:=by
 cases r with
 | old a=>simp only[AH.cell,g.old]
 | new i o=>simp only[AH.cell,g.blk i hr]
theorem AH.cell_inn{h:AH}{r:Ref}{v:AV}(hc:h.cell r=some v):r.inn h:=by
 cases r with
 | old a=>trivial
 | new i o =>
  simp only[AH.cell]at hc;rcases Nat.lt_or_ge i h.blks.size with hlt | hge
  ·exact hlt
  ·rw[Array.getElem?_eq_none hge]at hc;cases hc
theorem Grow.cell_some{h h':AH}(g:Grow h h'){r:Ref}{v:AV}(hc:h.cell r=some v):h'.cell r=some v:=by
 rw[g.cell (AH.cell_inn hc),hc]
@[simp] theorem AH.cell_push(h:AH)(cs:List AV)(e:TypeId)(o:Nat):(h.push (.cells cs e)).cell (.new h.blks.size o)=cs[o]?:=by
 simp[AH.cell,AH.push,AH.alloc]
@[simp] theorem kd8(r:Ref)(len:Nat)(i:Int)(size:Nat)(h0:0≤i)(h1:i<(len:Int)):idx (some r) len i size=some (r.add (i.toNat*size)):=by
 simp[idx,h0,h1]
theorem kq2{A:Type}{b:Bool}{x y z:A}(h1:b=true→x=z)(h2:b=false→y=z):cond b x y=z:=by
 cases b
 ·exact h2 rfl
 ·exact h1 rfl
theorem wrap64{n:Int}(h1:-9223372036854775808≤n)(h2:n≤9223372036854775807):IntKind.wrap .i64 n=n:=by
 simp[IntKind.wrap,IntKind.bits,IntKind.signed];omega
theorem wrapU(n:Int):IntKind.wrap .u64 n=n%18446744073709551616:=by
 simp[IntKind.wrap,IntKind.bits,IntKind.signed]
theorem ktg(a b:Int):imin a b=min a b:=by
 unfold imin;by_cases h:b<a<;>simp[h]<;>omega
theorem k1u(a b:Int):imax a b=max a b:=by
 unfold imax;by_cases h:a<b<;>simp[h]<;>omega
end Go.Ab
namespace Go.Ab
def AH.upd(h:AH)(i:Nat)(cs:List AV)(e:TypeId):AH:={h with blks:=h.blks.setIfInBounds i (.cells cs e)}
@[reducible] def AH.has(h:AH)(i:Nat)(cs:List AV)(e:TypeId):Prop:=h.blks[i]?=some (.cells cs e)
theorem AH.has.lt{h:AH}{i:Nat}{cs:List AV}{e:TypeId}(b:h.has i cs e):i<h.blks.size:=(Array.getElem?_eq_some_iff.1 b).1
theorem AH.has.cell{h:AH}{i:Nat}{cs:List AV}{e:TypeId}(b:h.has i cs e)(o:Nat):h.cell (.new i o)=cs[o]?:=by
 simp only[AH.cell,show h.blks[i]?=_ from b]
theorem AH.has.inn{h:AH}{i:Nat}{cs:List AV}{e:TypeId}(b:h.has i cs e)(o:Nat):(Ref.new i o).inn h:=b.lt
theorem AH.has_push(h:AH)(cs:List AV)(e:TypeId):(h.push (.cells cs e)).has h.blks.size cs e:=by simp[AH.has,AH.push,AH.alloc]
theorem Grow.has{h h':AH}(g:Grow h h'){i:Nat}{cs:List AV}{e:TypeId}(b:h.has i cs e):h'.has i cs e:=(g.blk i b.lt).trans b
theorem AH.has_upd{h:AH}{i:Nat}{cs:List AV}{e:TypeId}(b:h.has i cs e)(cs':List AV)(e':TypeId):(h.upd i cs' e').has i cs' e':=by
 simp[AH.has,AH.upd,b.lt]
theorem Grow.upd{h h':AH}(g:Grow h h'){i:Nat}(hi:h.blks.size≤i)(cs:List AV)(e:TypeId):Grow h (h'.upd i cs e) :=
 ⟨g.old,by simpa[AH.upd]using g.size,fun j hj=>by
  show(h'.blks.setIfInBounds i (.cells cs e))[j]?=_;rw[Array.getElem?_setIfInBounds_ne (by omega)];exact g.blk j hj⟩
theorem AH.has.put{h:AH}{i:Nat}{cs:List AV}{e:TypeId}(b:h.has i cs e){o:Nat}{v:AV}(ho:o<cs.length):h.put (.new i o) v=some (h.upd i (cs.set o v) e):=by
 simp only[AH.put,show h.blks[i]?=_ from b,if_pos ho,AH.upd]
theorem AH.upd_upd(h:AH)(i:Nat)(cs cs':List AV)(e e':TypeId):(h.upd i cs e).upd i cs' e'=h.upd i cs' e':=by
 simp[AH.upd]
theorem AH.has.puts{h:AH}{i:Nat}{e:TypeId}:∀{vs:List AV}{o:Nat}{cs:List AV},h.has i cs e→o+vs.length≤cs.length→h.puts (.new i o) vs=some (h.upd i (cs.take o++vs++cs.drop (o+vs.length)) e)
 | [],o,cs,b,_=>by
  simp only[AH.puts,List.append_nil,List.length_nil,Nat.add_zero,List.take_append_drop,Option.some.injEq];have hb:h.blks[i]?=some (.cells cs e):=b
  have:h.blks.setIfInBounds i (.cells cs e)=h.blks:=by
   apply Array.ext
   ·simp
   ·intro j h1 h2;rw[Array.getElem_setIfInBounds (by simpa using h1)];split
    ·rename_i hij;subst hij;have:=Array.getElem?_eq_getElem h2;rw[this]at hb;exact(Option.some.inj hb).symm
    ·rfl
  cases h;simp only[AH.upd]at this⊢;rw[this]
 | v::vs,o,cs,b,ho=>by
  simp only[List.length_cons]at ho;simp only[AH.puts];rw[b.put (by omega),Option.bind_some,Ref.add_new,AH.has.puts (AH.has_upd b _ e) (by simp;omega),AH.upd_upd]
  have e1:(cs.set o v).take (o+1)=cs.take o++[v]:=by
   apply List.ext_getElem?;intro i;rw[List.getElem?_take];by_cases hi:i<o
   ·rw[if_pos (by omega),List.getElem?_set_ne (by omega),List.getElem?_append_left (by simp;omega),List.getElem?_take,if_pos hi]
   ·by_cases hi2:i=o
    ·subst hi2;rw[if_pos (by omega),List.getElem?_set_self (by omega),List.getElem?_append_right (by simp;omega)];simp[Nat.min_eq_left (show i≤cs.length by omega)]
    ·rw[if_neg (by omega),List.getElem?_eq_none (by simp;omega)]
  have e2:(cs.set o v).drop (o+1+vs.length)=cs.drop (o+(vs.length+1)):=by
   rw[List.drop_set_of_lt (by omega)];congr 1;omega
  rw[e1,e2];simp
theorem AH.has.puts_all{h:AH}{i:Nat}{e:TypeId}{cs vs:List AV}(b:h.has i cs e)(hl:vs.length=cs.length):h.puts (.new i 0) vs=some (h.upd i vs e):=by
 rw[b.puts (by omega)];simp[hl]
theorem Grow.same{h h':AH}(g:Grow h h'){i:Nat}{cs:List AV}{e:TypeId}(b:h.has i cs e)(o n:Nat):SameAt h h' (.new i o) n:=⟨fun j _=>by
 rw[Ref.add_new];exact g.cell (b.inn _),fun _=>g.blk i b.lt⟩
@[simp] theorem k4h{R:Type}{p:Prop}{x:Option R}(hp:p):whenK p x=x:=by
 unfold whenK;rw[if_pos hp]
def Sl.fit(s:Sl)(n:Nat):Prop:=match s.cap with
 | .is c=>s.len≤c
 | .opn z=>z=n
structure Cells(h:AH)(s:Sl)(n:Nat)(flat:List AV):Prop where
 fit:s.fit n
 len:s.len*n=flat.length
 get:∀(i:Nat)(v:AV),flat[i]?=some v→∃r,s.ref=some r∧h.cell (r.add i)=some v
theorem Cells.grow{h h':AH}(g:Grow h h'){s:Sl}{n:Nat}{flat:List AV}(c:Cells h s n flat):Cells h' s n flat :=
 ⟨c.fit,c.len,fun i v hv=>by
  obtain⟨r,e1,e2⟩:=c.get i v hv;exact⟨r,e1,g.cell_some e2⟩⟩
theorem Cells.nil(h:AH)(n:Nat):Cells h ⟨none,0,.is 0⟩ n []:=⟨Nat.le_refl _,by simp,fun i v hv=>by simp at hv⟩
theorem Cells.of_has{h:AH}{i n m:Nat}{cs:List AV}{e:TypeId}(b:h.has i cs e)(hm:m*n=cs.length):Cells h ⟨some (.new i 0),m,.is m⟩ n cs :=
 ⟨Nat.le_refl _,hm,fun j v hv=>⟨_,rfl,by rw[Ref.add_new,Nat.zero_add,b.cell];exact hv⟩⟩
theorem Cells.gets{h:AH}{s:Sl}{n:Nat}{flat:List AV}(c:Cells h s n flat):h.getsO s.ref (s.len*n)=some flat:=by
 rw[c.len];unfold AH.getsO;cases hr:s.ref with
 | none =>
  have:flat=[]:=by
   cases flat with
   | nil=>rfl
   | cons v vs =>
    obtain⟨r,e1,_⟩:=c.get 0 v rfl;rw[hr]at e1;cases e1
  rw[this]
 | some r =>
  have key:∀(vs:List AV)(r:Ref),(∀i v,vs[i]?=some v→h.cell (r.add i)=some v)→h.gets r vs.length=some vs:=by
   intro vs
   induction vs with
   | nil=>intro r _;rfl
   | cons v vs ih =>
    intro r hall;have h0:=hall 0 v rfl;rw[Ref.add_zero]at h0
    have h1:=ih (r.add 1) fun i x hx=>by
     rw[Ref.add_add,Nat.add_comm];exact hall (i+1) x (by simpa using hx)
    simp only[List.length_cons,AH.gets,h0,Option.bind_some,h1,Option.map_some]
  exact key flat r fun i v hv=>by
   obtain⟨r',e1,e2⟩:=c.get i v hv;rw[hr]at e1;cases e1;exact e2
def Own(h:AH)(s:Sl):Prop:=∀r,s.ref=some r→∃i o,r=.new i o∧h.blks.size≤i
theorem Own.of_le{h h0:AH}(g:Grow h h0){s:Sl}(o:Own h0 s):Own h s:=fun r hr=>by
 obtain⟨i,k,h1,h2⟩:=o r hr;exact⟨i,k,h1,Nat.le_trans g.size h2⟩
theorem Own.nil(h:AH){n:Nat}{c:Cap}:Own h ⟨none,n,c⟩:=fun r hr=>by cases hr
theorem Cells.cut{h:AH}{s:Sl}{m:Nat}{flat:List AV}(c:Cells h s m flat){l n:Nat}(h1:l≤n)(h2:n≤s.len):∃s',cutSl s (l:Int) (n:Int) m=some s'∧s'.len=n-l∧
  Cells h s' m ((flat.drop (l*m)).take ((n-l)*m))∧∀h0,Own h0 s→Own h0 s':=by
 have hm:n*m≤s.len*m:=Nat.mul_le_mul_right m h2;have hlm:l*m≤n*m:=Nat.mul_le_mul_right m h1;have hsub:(n-l)*m=n*m-l*m:=Nat.sub_mul _ _ _
 have cell:∀(ref:Option Ref),(∀r,s.ref=some r→n≠l→ref=some (r.add (l*m)))→∀(i:Nat)(v:AV),((flat.drop (l*m)).take ((n-l)*m))[i]?=some v→∃r,ref=some r∧h.cell (r.add i)=some v:=by
  intro ref hr i v hv;rw[List.getElem?_take]at hv;split at hv
  ·rename_i hi;rw[List.getElem?_drop]at hv;obtain⟨r,e1,e2⟩:=c.get _ v hv
   have hne:n≠l:=by
    rintro rfl
    simp at hi
   exact⟨_,hr r e1 hne,by rw[Ref.add_add];exact e2⟩
  ·cases hv
 have len:((flat.drop (l*m)).take ((n-l)*m)).length=(n-l)*m:=by
  rw[List.length_take,List.length_drop,← c.len];omega
 have own:∀(ref:Option Ref)(k:Nat)(cp:Cap),(ref=s.ref∨ref=s.ref.map (·.add (l*m)))→∀h0,Own h0 s→Own h0 ⟨ref,k,cp⟩:=by
  intro ref k cp hr h0 ho r e;dsimp only at e;rcases hr with rfl | rfl
  ·exact ho r e
  ·rw[Option.map_eq_some_iff]at e;obtain⟨r0,e1,rfl⟩:=e;obtain⟨i,o,rfl,h3⟩:=ho r0 e1;exact⟨i,_,rfl,h3⟩
 have hf:=c.fit;unfold Sl.fit at hf;unfold cutSl;split at hf
 ·rename_i cp hcp;simp only[hcp];rw[show(decide (0≤(l:Int)∧(l:Int)≤(n:Int)∧(n:Int)≤(cp:Int)))=true from by simp;omega];refine⟨_,rfl,by simp,⟨?_,by rw[len];simp,cell _ ?_⟩,own _ _ _ ?_⟩
  ·show(n:Int).toNat-(l:Int).toNat≤cp-(l:Int).toNat;simp;omega
  ·intro r hr hne;simp only[Int.toNat_natCast];rw[if_neg (by omega),hr];rfl
  ·split
   ·exact .inl rfl
   ·exact .inr (by simp)
 ·rename_i z hz;simp only[hz];subst hf;rw[show Nat.beq z z=true from Nat.beq_refl z,show(decide (0≤(l:Int)∧(l:Int)≤(n:Int)∧(n:Int)≤(s.len:Int)))=true from by simp;omega];refine⟨_,rfl,by simp,⟨?_,by rw[len];simp,cell _ ?_⟩,own _ _ _ (.inr (by simp))⟩
  ·exact rfl
  ·intro r hr hne;simp[hr]
@[reducible] def u64(x:Nat):AV:=.int .u64 (x:Int)
structure Nats(h:AH)(s:Sl)(xs:List Nat):Prop where
 cells:Cells h s 1 (xs.map u64)
 lt:∀x∈xs,x<18446744073709551616
 short:xs.length≤9223372036854775807
theorem Nats.len{h:AH}{s:Sl}{xs:List Nat}(n:Nats h s xs):s.len=xs.length:=by
 have:=n.cells.len
 simpa using this
theorem Nats.grow{h h':AH}(g:Grow h h'){s:Sl}{xs:List Nat}(n:Nats h s xs):Nats h' s xs:=⟨n.cells.grow g,n.lt,n.short⟩
theorem Nats.nil(h:AH):Nats h ⟨none,0,.is 0⟩ []:=⟨Cells.nil h 1,by simp,by simp⟩
theorem Nats.at{h:AH}{s:Sl}{xs:List Nat}(n:Nats h s xs){i:Nat}(hi:i<xs.length):∃r,idx s.ref s.len (i:Int) 1=some r∧h.cell r=some (.int .u64 ((xs[i]:Nat):Int)):=by
 obtain⟨r,e1,e2⟩:=n.cells.get i (u64 xs[i]) (by simp[hi]);refine⟨r.add i,?_,e2⟩;rw[e1,kd8 _ _ _ _ (by omega) (by rw[n.len];omega)];simp
theorem Nats.cut{h:AH}{s:Sl}{xs:List Nat}(c:Nats h s xs){l n:Nat}(h1:l≤n)(h2:n≤xs.length):∃s',cutSl s (l:Int) (n:Int) 1=some s'∧Nats h s' ((xs.drop l).take (n-l))∧∀h0,Own h0 s→Own h0 s':=by
 obtain⟨s',e1,e2,e3,e4⟩:=c.cells.cut h1 (by rw[c.len];exact h2);refine⟨s',e1,⟨by simpa[List.map_drop,List.map_take]using e3,fun x hx=>c.lt x (List.mem_of_mem_drop (List.mem_of_mem_take hx)),?_⟩,e4⟩;have:=c.short;rw[List.length_take,List.length_drop];omega
theorem kbz{i:Nat}(h:i≤9223372036854775807):IntKind.wrap .i64 (i:Int)=(i:Int):=wrap64 (by omega) (by omega)
theorem kf{i:Nat}(h:i<9223372036854775807):IntKind.wrap .i64 ((i:Int)+1)=((i+1:Nat):Int):=by
 rw[wrap64 (by omega) (by omega)];omega
theorem kqp{i:Nat}(h:i<9223372036854775807):IntKind.wrap .i64 (((i+1:Nat):Int)-1)=(i:Int):=by
 rw[wrap64 (by omega) (by omega)];omega
end Go.Ab
