/- Words and laws that the last text joins. -/
import Derived.Test.YtomiakonamgbhaaGreatDoorPAbsJ
import Derived.Below
import Derived.ProofKit
import Derived.SizedLaws
set_option linter.unusedVariables false
set_option linter.unusedSimpArgs false
set_option linter.unusedSectionVars false
namespace Go.Ab
variable{P:Program}{O:World}
def resGet(tmps:Array Value):ResultVar->Sem Value
 | .tmp t=>pure (tmps.getD t undef)
 | .cell a t=>do loadVar t (<- asAddr (tmps.getD a undef))
theorem kba2(fn:Func)(tmps:Array Value):results fn tmps=(do
  let vs <- fn.results.mapM (resGet tmps)
  pure (if h:vs.size=1 then vs[0]else .tuple vs)):=rfl
theorem ktu{μ:Mu}{fr:Fr}{N:Nat}{tmps:Array Value}{h:AH}{w:World}(S:Sim P O μ h w)(F:FRel μ N fr tmps):∀(C:List ResultVar)(k:List AV->Option (AV×AH))(res:AV×AH),resK P fr h C k=some res->
  ∃vs us,k vs=some res/\(C.mapM (resGet tmps)).run P w=.ok us w/\VRels μ vs us/\us.length=C.length
 | [],k,res,h=>⟨[],[],h,rfl,qb,rfl⟩
 | .tmp t::C,k,res,h=>by
  simp only[resK,qbs]at h;obtain⟨v,hv,hk⟩:=h;obtain⟨vs,us,h0,H,I,K⟩:=ktu S F C _ _ hk;obtain⟨u,Q,y⟩:=F.get t v hv;refine⟨v::vs,u::us,h0,?_,qc y I,by simp[K]⟩;rw[List.mapM_cons];have:tmps.getD t undef=u:=by simp[Array.getD_eq_getD_getElem?,Q]
  simp only[Sem.run_bind,resGet,Sem.run_pure,Result.andThen_ok,H,this]
 | .cell a t::C,k,res,h=>by
  simp only[resK]at h;split at h
  ·rename_i r V;obtain⟨u,Q,y⟩:=F.get a _ V;simp only[VRel]at y;obtain⟨W,U,rfl⟩:=y;obtain⟨v,Z,hk,hv,hl⟩:=kum S U h;obtain⟨vs,us,h0,H,I,K⟩:=ktu S F C _ _ hk;refine⟨v::vs,Z::us,h0,?_,qc hv I,by simp[K]⟩;rw[List.mapM_cons];have:tmps.getD a undef=.pointer (some W):=by simp[Array.getD_eq_getD_getElem?,Q]
   simp only[Sem.run_bind,resGet,Sem.run_pure,Result.andThen_ok,H,this,asAddr,hl]
  ·cases h
theorem kwc{μ:Mu}{fn:Func}{fr:Fr}{h:AH}{v:AV}{h':AH}{N:Nat}{tmps:Array Value}{w:World}(S:Sim P O μ h w)(Q:khn P fn fr h=some (v,h'))(F:FRel μ N fr tmps) :
  h'=h/\∃u,(results fn tmps).run P w=.ok u w/\VRel μ v u:=by
 rw[kba2];unfold khn at Q;obtain⟨vs,us,h0,U,H,W⟩:=ktu S F _ _ _ Q;simp only[Array.mapM_eq_mapM_toList,Sem.run_bind,Sem.run_map,U,Result.andThen_ok,Sem.run_pure];split at h0
 ·rename_i x;cases h0;simp only[VRels]at H;obtain⟨y,ys,rfl,V,rfl⟩:=H;exact⟨rfl,y,by simp,V⟩
 ·rename_i I;cases h0;refine⟨rfl,.tuple us.toArray,?_,by simp only[VRel];exact⟨us.toArray,rfl,by simpa using H⟩⟩
  have K:us.length≠1:=by
   intro K;have C:=H.length;rw[K]at C
   match vs,C with
   | [x],_=>exact I x rfl
   | [],C=>simp at C
   | _::_::_,C=>simp at C
  rw[dif_neg (by simpa using K)]
def RoundOf(μ:Mu)(ro:Option Nat)(b:Frame)(ds:List Nat):Prop :=
 match ro with
 | none=>b.roundOf=none
 | some l=>ds=[]/\∃L,μ l=some L/\b.roundOf=some L.block
theorem RoundOf.mono{μ ν:Mu}(y:Mu.le μ ν){ro:Option Nat}{b:Frame}{ds:List Nat}(h:RoundOf μ ro b ds):RoundOf ν ro b ds:=by
 cases ro with
 | none=>exact h
 | some l =>obtain⟨C,L,F,H⟩:=h;exact⟨C,L,y _ _ F,H⟩
theorem kbf9{μ:Mu}{h:AH}{w:World}(S:Sim P O μ h w){l:Nat}{L:Loc}(H:μ l=some L){y:Option Code}{v:AV}{h':AH}(C:kci l y h=some (v,h')) :
  ∃u w',(Instr.endRound L.block y).run P w=.ok u w'/\GoodX P O [] μ h w v h' u w':=by
 unfold kci at C;split at C
 ·rename_i st W f fr ps as bd d F;cases C;obtain⟨tmps,Q,U,V⟩:=S.blk l L _ H F;have I:=(S.place l L H).2;refine⟨_,_,run_endRound y U,?_⟩;have K:(if y.isNone=true then LoopState.ready else LoopState.done)=cond y.isNone .ready .done:=by cases y.isNone<;>rfl
  obtain⟨s1,s2,s3⟩:=knp S H F (by simp) (b':=.loop (cond y.isNone .ready .done) y f fr ps as bd d) (o:=.loop {state:=if y.isNone then .ready else .done,pending:=y,fn:=f,tmps,params:=ps,assign:=as,body:=bd,defers:=Q}) ⟨tmps,Q,by rw[World.putObj_heap_same I,K],V⟩;exact⟨μ,by simp[VRel],s1,s2,s3.1,λb F Z=>s3.2 b F⟩
 ·cases C
theorem k4y{μ:Mu}{h h':AH}{w:World}(S:Sim P O μ h w){l:Nat}{L:Loc}(C:μ l=some L)(y:beginA l h=some h'):∃w',(Instr.beginRound L.block).run P w=.ok () w'/\Sim P O μ h' w'/\Ext μ h w μ h'/\Frm μ h w w':=by
 unfold beginA at y;split at y
 ·rename_i I f fr ps as bd d H;cases y;obtain⟨tmps,K,Q,U⟩:=S.blk l L _ C H;have F:=(S.place l L C).2;refine⟨_,run_beginRound Q rfl,?_⟩;exact knp S C H (by simp) (b':=.loop .busy I f fr ps as bd d) ⟨tmps,K,by rw[World.putObj_heap_same F],U⟩
 ·cases y
theorem k9b{μ:Mu}{h h':AH}{w:World}(S:Sim P O μ h w){l:Nat}{L:Loc}(F:μ l=some L){H:Option Code}(y:kc0 l h=some (H,h')):∃w',(Instr.endLoop L.block).run P w=.ok H w'/\Sim P O μ h' w'/\Ext μ h w μ h'/\Frm μ h w w':=by
 unfold kc0 at y;split at y
 ·rename_i st K f fr ps as bd d I;rcases kch y with⟨_,y⟩ | ⟨C,y⟩
  ·cases y
  ·cases y;obtain⟨tmps,U,Q,V⟩:=S.blk l L _ F I;refine⟨_,run_endLoop Q (by cases st<;>simp at C|-),?_⟩;exact knp S F I (by simp) (b':=.dead) trivial
 ·cases y
theorem kpi{fn:Func}{ro:Option Nat}{y:Option Code}{fr:Fr}{h:AH}{v:AV}{h':AH}(hk:leaveA P fn ro y fr h=some (v,h')){μ:Mu}{w:World}{b:Frame}{a:Act}{ds:List Nat}(I:P.funcs[b.fn]?=some fn)(C:b.kind=.normal)(H:RoundOf μ ro b ds)(V:a.defers=ds.map mark)(M:Marks O μ h w ds)(S:Sim P O μ h w)(F:FRel μ fn.ntmps fr a.tmps)
  {todo:List Item} (hs:b.roundOf=none->(y=none\/y=some .ret)->∀cs,step P (lone (b.atR a todo) cs w)=.next (lone {b.atR a todo with mode:=.returning} cs w))
  (W:∀{l:Nat}{u:Value}{w':World},b.roundOf=some l->(Instr.endRound l y).run P w=.ok u w'->∀c cs,step P (lone (b.atR a todo) (c::cs) w)=.next (lone (c.finish u) cs w')):Fin P ro b todo a w (GoodX P O ds μ h w v h'):=by
 cases ro with
 | none =>
  have K:(y=none\/y=some .ret)/\khn P fn fr h=some (v,h'):=by
   unfold leaveA at hk;split at hk
   ·rename_i e;cases e
   ·split at hk
    ·exact⟨.inl rfl,hk⟩
    ·exact⟨.inr rfl,hk⟩
    ·cases hk
  intro cs;obtain⟨rfl,_,_,_⟩:=kwc S K.2 F
  obtain⟨u,w',Q,g,st,Z,e2⟩:=returns (fn:=fn) (v:=v) (h:=h') ds {b.atR a todo with mode:=.returning} I C rfl V S M (λw' S'=>by obtain⟨_,u,U,h2⟩:=kwc S' K.2 F;exact⟨u,U,h2⟩) cs
  exact⟨u,w',Q,g,Steps.head (hs H K.1 cs) st,Z,e2⟩
 | some l =>obtain⟨rfl,L,hL,hb⟩:=H;intro c cs;obtain⟨u,w',U,g⟩:=kbf9 S hL (show kci l y h=some (v,h')from hk);exact⟨u,w',g,Steps.one (W hb U c cs)⟩
theorem k0j{b:Frame}{a:Act}{g:Operand}{ps:Array Tmp}{as bd:Code}{k:List Item}{w w':World}{H:FuncId}{x y args:Array Value}{n:Next}(I:b.roundOf=none)(Z:a.eval g=.func (.func H) x y)
  (V:(callFunc H ((x++#[.func (.yield (w.heap.size+1)) #[] #[]])++y)).run P ((w.alloc (.deferred (some []))).alloc (.loop {state:=.ready,pending:=none,fn:=b.fn,tmps:=a.tmps,params:=ps,assign:=as,body:=bd,defers:=w.heap.size}))=.ok n w') (cs:List Frame) :
  (∀f args,n=.enter f args->step P (lone (b.atR a (.code (.rangeFunc g ps as bd)::k)) cs w)=.next (lone (Frame.enter P f args .normal) (b.atR {a with defers:=mark w.heap.size::a.defers} (.inRangeFunc (w.heap.size+1)::k)::cs) w'))/\
  (∀u,n=.value u->step P (lone (b.atR a (.code (.rangeFunc g ps as bd)::k)) cs w)=.next (lone (b.atR {a with defers:=mark w.heap.size::a.defers} (.endRangeFunc (w.heap.size+1)::k)) cs w')):=by
 have K:=congrFun (Frame.eval_atR b {a with defers:=mark w.heap.size::a.defers} (.inRangeFunc (w.heap.size+1)::k)) g;have Q:({tmps:=a.tmps,defers:=mark w.heap.size::a.defers}:Act).eval g=a.eval g:=by cases g<;>rfl
 rw[Q,Z]at K;simp only[Frame.atR]at K
 have F:∀(ρ:Operand->Value),ρ g=.func (.func H) x y->(∀v,ρ (.const v)=v)->∀W,(do let d <- resolve ρ {callee:=.value g,args:=#[.const (.func (.yield (w.heap.size+1)) #[] #[])],argTypes:=#[]} 0;invoke d.target d.args:Sem Next).run P W=(callFunc H ((x++#[.func (.yield (w.heap.size+1)) #[] #[]])++y)).run P W:=by intro ρ h1 h2 W;simp[resolve,h1,h2,Deferred.ofValue,invoke,Sem.run_bind,Result.andThen_ok]
 constructor
 ·intro f args U;subst U;refine step_lone_go ?_;have C:=F (Frame.eval {fn:=b.fn,tmps:=a.tmps,todo:=.inRangeFunc (w.heap.size+1)::k,defers:=mark w.heap.size::a.defers,mode:=.run,kind:=b.kind,roundOf:=b.roundOf}) K (λ_=>rfl) ((w.alloc (.deferred (some []))).alloc (.loop {state:=.ready,pending:=none,fn:=b.fn,tmps:=a.tmps,params:=ps,assign:=as,body:=bd,defers:=w.heap.size}));rw[V]at C;simp only[I]at C;simp[stepG,stepG.exec,stepG.apply,Frame.atR,I,Sem.runT_eq,run_enterLoop_outer,mark]at C|-;rw[C];simp
 ·intro u U;subst U;refine step_lone_go ?_;have C:=F (Frame.eval {fn:=b.fn,tmps:=a.tmps,todo:=.inRangeFunc (w.heap.size+1)::k,defers:=mark w.heap.size::a.defers,mode:=.run,kind:=b.kind,roundOf:=b.roundOf}) K (λ_=>rfl) ((w.alloc (.deferred (some []))).alloc (.loop {state:=.ready,pending:=none,fn:=b.fn,tmps:=a.tmps,params:=ps,assign:=as,body:=bd,defers:=w.heap.size}));rw[V]at C;simp only[I]at C;simp[stepG,stepG.exec,stepG.apply,Frame.atR,I,Sem.runT_eq,run_enterLoop_outer,mark,Frame.finish]at C|-;rw[C];simp
theorem kba6{b:Frame}{a:Act}{l:Nat}{k:List Item}{w w':World}{y:Option Code}(C:(Instr.endLoop l).run P w=.ok y w')(cs:List Frame) :
  step P (lone (b.atR a (.endRangeFunc l::k)) cs w)=.next (lone (b.atR a ((y.map Item.code).toList++k)) cs w') :=
 step_lone_go (by simp[stepG,stepG.exec,Frame.atR,Sem.runT_eq,C])
theorem kj0{K:Keep}(hm:P.follows .mixedOrders=true){rec:Rec}(U:RecOk P O rec){ro:Option Nat}{f:FuncId}{fn:Func}(W:P.funcs[f]?=some fn){v:AV}{h':AH}:∀(n:Nat)(fresh:Bool){todo:List Item}{fr:Fr}{h:AH},
  execA P K rec ro f fn n fresh todo fr h=some (v,h')->∀(μ:Mu)(w:World)(b:Frame)(a:Act)(ds:List Nat),b.fn=f->b.kind=.normal->RoundOf μ ro b ds->a.defers=ds.map mark->Marks O μ h w ds->Sim P O μ h w->FRel μ fn.ntmps fr a.tmps->
  Fin P ro b todo a w (GoodX P O ds μ h w v h')
 | 0,fresh,todo,fr,h,hk=>by simp[execA]at hk
 | n+1,fresh,todo,fr,h,hk=>by
  intro μ w b a ds hb C V hd M S F;have IH:=λ(fresh:Bool) {todo:List Item} {fr:Fr} (hk:execA P K rec ro f fn n fresh todo fr h=some (v,h')) (F:FRel μ fn.ntmps fr a.tmps)=>kj0 hm U W n fresh hk μ w b a ds hb C V hd M S F;have aj:P.funcs[b.fn]?=some fn:=by rw[hb];exact W
  have next:∀(fresh:Bool){todo:List Item}{fr:Fr}{h1:AH}{ν:Mu}{w1:World}{a1:Act},execA P K rec ro f fn n fresh todo fr h1=some (v,h')->Sim P O ν h1 w1->Ext μ h w ν h1->Frm μ h w w1->FRel ν fn.ntmps fr a1.tmps->a1.defers=a.defers->Fin P ro b todo a1 w1 (GoodX P O ds μ h w v h'):=by intro fresh todo fr h1 ν w1 a1 hk S1 e f F1 bi;exact(kj0 hm U W n fresh hk ν w1 b a1 ds hb C (V.mono e.2.1) (bi.trans hd) (M.step S S1 e f) S1 F1).mono λu w2 g=>g.trans e f λr I=>.inl I
  unfold execA at hk
  try simp only[kdy]at hk
  split at hk
  ·exact kpi hk aj C V hd M S F (λhn _ cs=>stepR_end hn) (λZ I c cs=>stepR_round_end Z C I)
  ·exact kpi hk aj C V hd M S F (λhn _ cs=>stepR_ret hn) (λZ I c cs=>stepR_round_ret Z C I)
  ·exact(IH _ hk F).of_steps λcs=>Steps.one stepR_skip
  ·exact(IH _ hk F).of_steps λcs=>Steps.one stepR_label
  ·exact(IH _ hk F).of_steps λcs=>Steps.one stepR_inBlock
  ·exact(IH _ hk F).of_steps λcs=>Steps.one kba0
  ·exact(IH _ hk F).of_steps λcs=>Steps.one stepR_seq
  ·rename_i c x y k;split at hk
   ·rename_i t ht;have hv:=ks F ht;simp only[VRel]at hv
    have Fl:∀t',t=t'->FRel μ fn.ntmps (learn c t' fr) a.tmps:=by
     intro t' bj;subst bj;unfold learn;split
     ·rename_i s;exact F.learn ht λ_ h=>h
     ·exact F
    rcases kch hk with⟨rfl,H⟩ | ⟨rfl,H⟩
    ·exact(IH _ H (Fl _ rfl)).of_steps λcs=>Steps.one (stepR_cond hv)
    ·exact(IH _ H (Fl _ rfl)).of_steps λcs=>Steps.one (stepR_cond hv)
   ·cases hk
  ·exact(IH _ hk F).of_steps λcs=>Steps.one stepR_block
  ·exact(IH _ hk F).of_steps λcs=>Steps.one stepR_loop
  ·exact(IH _ hk F).of_steps λcs=>Steps.one stepR_inLoop
  ·exact(IH _ hk F).of_steps λcs=>Steps.one kbhb
  ·split at hk
   ·rename_i k' aa;exact(IH _ hk F).of_steps λcs=>Steps.one (stepR_exit aa)
   ·rename_i aa;exact kpi hk aj C V hd M S F (λhn hj cs=>by rcases hj with e | e<;>cases e) (λZ I c cs=>stepR_round_exit Z C aa I)
  ·split at hk
   ·rename_i k' aa;exact(IH _ hk F).of_steps λcs=>Steps.one (stepR_goto aa)
   ·rename_i aa;exact kpi hk aj C V hd M S F (λhn hj cs=>by rcases hj with e | e<;>cases e) (λZ I c cs=>stepR_round_goto Z C aa I)
  ·rename_i id ops an k
   have aw:(cond an (cond (ro.isSome&&khi ops) none (drawX P rec fn.ntmps ops (ksr K f id ops.size) (resvOf K f id) (preOf K f id) fr h λQ h'=>execA P K rec ro f fn n false k Q h')) (opsY P rec fn.ntmps ops (List.range ops.size) fr h λQ h'=>execA P K rec ro f fn n false k Q h'))=some (v,h')->Fin P ro b (.code (.region id ops an)::k) a w (GoodX P O ds μ h w v h'):=by
    intro hk
    have af:∀(a':Act)(w':World),After P O μ fn.ntmps h w a.defers (λQ h'=>execA P K rec ro f fn n false k Q h') (v,h') .normal a' w'->Fin P ro b k a' w' (GoodX P O ds μ h w v h'):=by
     rintro a' w' ⟨_,ag,Q,h1,ν,g1,g2,g3,g4,g5⟩
     exact next false g1 g2 g4 g5 g3 ag
    rcases kch hk with⟨rfl,H⟩ | ⟨rfl,H⟩
    ·rcases kch H with⟨_,ad⟩ | ⟨ap,ad⟩
     ·cases ad
     ·cases ro with
      | some l =>
       have ax:=kxx U (λx y h e=>ke7 n x y h e) ad S F;have ag:khi ops=false:=by simpa using ap
       refine Fin.of_some (X:=λa' w'=>After P O μ fn.ntmps h w a.defers (λQ h'=>execA P K rec (some l) f fn n false k Q h') (v,h') .normal a' w') (λcs=>?_) af;have ay:=wpAny_sound ops.size (w.tape w.drawn (.order b.fn id)) _ _ _ ax;have hs:=stepR_region_draw (P:=P) (b:=b) (a:=a) (k:=k) (cs:=cs) (w:=w) (ops:=ops) (id:=id);simp only[Region.schedule,hm,Bool.true_or,if_true]at hs;obtain⟨a',w',hA,st⟩:=kir (λ_ _ _ q=>q.1) ag _ _ _ ay (λa' w' q=>by rw[q.2.1];exact qbn _) b k cs;exact⟨a',w',hA,.head hs st⟩
      | none =>have hw:=kbb3 hm U (id:=id) (λx y h e=>ke7 n x y h e) ad S F;have ae:b.roundOf=none:=V;refine Fin.of_some (X:=λa' w'=>After P O μ fn.ntmps h w a.defers (λQ h'=>execA P K rec none f fn n false k Q h') (v,h') .normal a' w') (λcs=>?_) af;obtain⟨e,a',w',hq,ac⟩:=hw b k cs;have he:e=.normal:=hq.1;subst he;refine⟨a',w',hq,?_⟩;rw[Frame.atR_of_none ae,Frame.atR_of_none ae];exact ac
    ·refine Fin.of_some (X:=λa' w'=>After P O μ fn.ntmps h w a.defers (λQ h'=>execA P K rec ro f fn n false k Q h') (v,h') .normal a' w') (λcs=>?_) af;obtain⟨a',w',hA,st⟩:=ksp U _ H S F b k cs;exact⟨a',w',hA,.head stepR_region st⟩
   rcases kch hk with⟨rfl,H⟩ | ⟨rfl,H⟩
   ·exact aw H
   ·split at H
    ·cases ro with
     | none=>exact U.pt H W hb C V hd M S (F.keep _)
     | some l =>obtain⟨rfl,L,hL,aq⟩:=V;exact U.rpt H W hb C hL aq hd S (F.keep _)
    ·exact aw H
  ·rename_i k;cases ro with
   | none=>cases hk
   | some l =>obtain⟨h1,he,H⟩:=qbs.1 hk;have az:=V;obtain⟨bv,L,hL,aq⟩:=az;obtain⟨w1,I,S1,e1,f1⟩:=k4y S hL he;refine(next fresh H S1 e1 f1 F rfl).of_steps (a':=a) (w':=w1) λcs=>Steps.one (stepR_beginRound aq I)
  ·rename_i g ps as bd k;cases ro with
   | some l=>cases hk
   | none =>
    have ae:b.roundOf=none:=V;split at hk
    ·cases hk
    ·rcases kch hk with⟨rfl,hk⟩ | ⟨rfl,hk⟩
     case inr=>exact U.pt hk W hb C V hd M S (F.keep _)
     split at hk
     ·rename_i gf first captured hg
      obtain⟨q,hq,H⟩:=qbs.1 hk;obtain⟨p,hp,ad⟩:=qbs.1 H;obtain⟨qv,qh⟩:=q;obtain⟨pe,ph⟩:=p;have a0:=ks F hg;simp only[VRel]at a0;obtain⟨g',x,y,he,ba,bk,bm⟩:=a0;simp only[FnRel]at ba;subst ba;obtain⟨S1,e1,f1⟩:=k59 S (.deferred (some []))
      obtain⟨S2,e2,f2⟩:=kyy S1 (b:=.loop .ready none f (fr.keep (List.range fn.ntmps)) ps as bd 0) (n:=0) (o:=.loop {state:=.ready,pending:=none,fn:=b.fn,tmps:=a.tmps,params:=ps,assign:=as,body:=bd,defers:=w.heap.size}) (λν ah=>by
       refine⟨a.tmps,w.heap.size,?_,λbw bb=>?_⟩
       ·rw[kmy,hb]
       ·rw[W]at bb;cases bb;exact(F.keep _).mono ah)
      have bn:(w.alloc (.deferred (some []))).heap.size=w.heap.size+1:=by simp
      rw[bn]at S2 e2;have M2:=M.step S S2 (e1.trans e2 f1.1) (f1.trans e1 f2);generalize hμ2:Mu.set μ h.blks.size ⟨w.heap.size+1,0,0⟩=μ2 at S2 e2 M2;have bc:μ2 h.blks.size=some ⟨w.heap.size+1,0,0⟩:=by rw[<- hμ2];exact keb _ _ _
      generalize ak:(w.alloc (.deferred (some []))).alloc (.loop {state:=.ready,pending:=none,fn:=b.fn,tmps:=a.tmps,params:=ps,assign:=as,body:=bd,defers:=w.heap.size})=w2 at S2 f2 M2
      have bp:w2.heap[w.heap.size]?=some (.deferred (some [])):=by rw[<- ak,kdh _ _ _ (by simp),kmy]
      have ar:w2.heap.size=w.heap.size+2:=by rw[<- ak];simp
      have bq:Marks O μ2 (h.alloc (.loop .ready none f (fr.keep (List.range fn.ntmps)) ps as bd 0)) w2 (w.heap.size::ds):=by
       refine⟨List.nodup_cons.2 ⟨λhm=>?_,M2.nodup⟩,λr I=>?_,λr I=>?_,λr I i L hl hL=>?_⟩
       ·have:=(M.old _ hm).2;omega
       ·rcases qb3.1 I with rfl | I
        ·have:=S.base;omega
        ·exact M2.old r I
       ·rcases qb3.1 I with rfl | I
        ·exact bp
        ·exact M2.has r I
       ·rcases qb3.1 I with rfl | I
        ·intro br;rw[<- hμ2]at hL;unfold Mu.set at hL;split at hL
         ·cases hL;simp at br
         ·have:=(S.place i L hL).2;omega
        ·exact M2.free r I i L hl hL
      have bt:VRels μ2 (first++[.func (.yield h.blks.size) [] []]++captured) (x.toList++[.func (.yield (w.heap.size+1)) #[] #[]]++y.toList):=by have ah:=(e1.trans e2 f1.1).2.1;have mono:∀{vs:List AV}{us:List Value},VRels μ vs us->VRels μ2 vs us:=λh=>VRels.mono ah h;refine((mono bk).append ?_).append (mono bm);refine qc ?_ qb;simp only[VRel];exact⟨.yield (w.heap.size+1),#[],#[],rfl,⟨_,bc,rfl⟩,qb,qb⟩
      have ac:(x.toList++[Value.func (.yield (w.heap.size+1)) #[] #[]]++y.toList).toArray=(x++#[.func (.yield (w.heap.size+1)) #[] #[]])++y:=by apply Array.ext';simp
      have ai:∀(u:Value)(w3:World),Good P O μ2 (h.alloc (.loop .ready none f (fr.keep (List.range fn.ntmps)) ps as bd 0)) w2 qv qh u w3->
        Fin P none b (.endRangeFunc (w.heap.size+1)::k) {a with defers:=mark w.heap.size::a.defers} w3 (GoodX P O ds μ h w v h'):=by
       rintro u w3 ⟨ν,g1,g2,g3,g4⟩
       have bu:ν h.blks.size=some ⟨w.heap.size+1,0,0⟩:=g3.2.1 _ _ bc;obtain⟨w4,be,S4,e4,f4⟩:=k9b g2 bu hp;have M3:=bq.step S2 g2 g3 g4;have M4:=M3.step g2 S4 e4 f4;have ah:=(e1.trans e2 f1.1).2.1;have bf:=U.pt ad W hb C ae (a:={a with defers:=mark w.heap.size::a.defers}) (by simp[hd]) M4 S4 (((F.mono ah).mono (Mu.le_trans g3.2.1 e4.2.1)).keep _)
       have bg:Ext μ h w ν ph:=by have:=((e1.trans e2 f1.1).trans g3 (by rw[ar];omega)).trans e4 (qbo (by rw[ar];omega) g4.1);exact this
       have bh:Frm μ h w w4:=((f1.trans e1 f2).trans (e1.trans e2 f1.1) g4).trans ((e1.trans e2 f1.1).trans g3 (by rw[ar];omega)) f4;refine Fin.of_steps (a':={a with defers:=mark w.heap.size::a.defers}) (w':=w4) (todo':=(pe.map Item.code).toList++k) (λcs=>Steps.one (kba6 be cs)) ?_
       exact bf.mono λu w5 g=>g.trans bg bh λr I=>by
        rcases qb3.1 I with rfl | I
        ·exact .inr (qbn _)
        ·exact .inl I
      rcases kve U hq S2 bt with⟨I,hc⟩ | ⟨u,I,g⟩
      ·rw[ac]at I hc;intro cs;have au:=(k0j (P:=P) (b:=b) (a:=a) (k:=k) (as:=as) (bd:=bd) (ps:=ps) (args:=#[]) ae he (by rw[ak];exact I) cs).1 _ _ rfl;obtain⟨e,w3,bx,hR,al,_,am⟩:=hc (b.atR {a with defers:=mark w.heap.size::a.defers} (.inRangeFunc (w.heap.size+1)::k)::cs);obtain⟨u,rfl,g⟩:=hR;obtain⟨u',w',Q,h1,h2,h3⟩:=ai u w3 g cs;refine⟨u',w',Q,h1,.head au (Steps.trans al (.head (step_leave_returned am) ?_)),h3⟩;exact h2
      ·rw[ac]at I;intro cs;have au:=(k0j (P:=P) (b:=b) (a:=a) (k:=k) (as:=as) (bd:=bd) (ps:=ps) (args:=#[]) ae he (by rw[ak];exact I) cs).2 _ rfl;obtain⟨u',w',Q,h1,h2,h3⟩:=ai u w2 g cs;exact⟨u',w',Q,h1,.head au h2,h3⟩
     ·cases hk
  ·cases hk
theorem kbg7(vs:List AV):∀(i t:Nat)(v:AV),(kj7 i vs).get t=some v->i<=t/\vs[t-i]?=some v:=by
 induction vs with
 | nil=>intro i t v h;simp[kj7,Fr.get]at h
 | cons x vs ih =>
  intro i t v h;simp only[kj7]at h;rw[Fr.get_cons]at h;split at h
  ·rename_i y;subst y;cases h;simp
  ·obtain⟨F,C⟩:=ih (i+1) t v h;refine⟨by omega,?_⟩;rw[show t-i=(t-(i+1))+1 from by omega]
   simpa using C
theorem k0h{μ:Mu}{N:Nat}:∀(y:List Tmp){vs:List AV}{us:List Value}{fr:Fr}{tmps:Array Value},FRel μ N fr tmps->VRels μ vs us->(y.all λt=>Nat.blt t N)=true->FRel μ N (handed y vs fr) ((y.zip us).foldl (λtmps p=>tmps.setIfInBounds p.1 p.2) tmps)
 | [],vs,us,fr,tmps,F,V,h=>by cases vs<;>simpa[handed]using F
 | t::y,[],us,fr,tmps,F,V,h=>by
  rw[V.nil_inv]
  simpa[handed]using F
 | t::y,v::vs,us,fr,tmps,F,V,h=>by
  obtain⟨u,us',rfl,hv,C⟩:=V.cons_inv;rw[List.all_cons,qb6]at h
  have H:FRel μ N ((t,v)::fr) (tmps.setIfInBounds t u):=by have:=FRel.put (a:={tmps,defers:=[]}) F (t:=t) (by simpa[Nat.blt_eq]using h.1) hv;exact this
  have:=k0h y H C h.2
  simpa[handed]using this
theorem k34{f:FuncId}{fn:Func}(C:P.funcs[f]?=some fn){μ:Mu}{h h':AH}{w:World}{v:AV}{us:List Value}{c:Code}(F:fn.body=some c)
  (H:Fin P none {(default:Frame)with fn:=f,kind:=.normal} [.code c] {tmps:=us.toArray++Array.replicate (fn.ntmps-us.toArray.size) undef,defers:=[]} w (GoodX P O [] μ h w v h')):Calls P f us.toArray w (Ends (Good P O μ h w v h')):=by
 intro cs;obtain⟨u,w',fr,g,st,I,K⟩:=H cs
 have y:Frame.enter P f us.toArray .normal=Frame.atR {(default:Frame)with fn:=f,kind:=.normal} {tmps:=us.toArray++Array.replicate (fn.ntmps-us.toArray.size) undef,defers:=[]} [.code c]:=by simp[Frame.enter,Frame.atR,C,F];rfl
 refine⟨.returned u,w',fr,⟨u,rfl,g.nil⟩,?_,I,K⟩;rw[y];exact st
theorem kbb7{K:Keep}(hm:P.follows .mixedOrders=true){rec:Rec}(I:RecOk P O rec):RecOk P O (stepA P K rec):=by
 refine⟨?_,?_,?_,?_⟩
 ·intro f xs h v h' hk μ w us S V;simp only[stepA,kdy]at hk;split at hk
  ·rename_i fn C;split at hk
   ·rename_i c W;obtain⟨Z,Q⟩:=kp hk;have Z:=Nat.le_of_ble_eq_true Z;have aa:=V.length
    have F:FRel μ fn.ntmps (kj7 0 xs) (us.toArray++Array.replicate (fn.ntmps-us.toArray.size) undef):=by
     refine⟨by simp;omega,λt y hy=>?_⟩;obtain⟨_,h2⟩:=kbg7 xs 0 t y hy;obtain⟨u,hu,ac⟩:=V.get _ y h2;simp only[Nat.sub_zero]at hu
     have ad:t<us.length:=by
      rcases Nat.lt_or_ge t us.length with h' | h'
      ·exact h'
      ·rw[List.getElem?_eq_none h']at hu;cases hu
     refine⟨u,?_,ac⟩;rw[Array.getElem?_append_left (by simpa using ad)]
     simpa using hu
    exact k34 C W (kj0 hm I C 4000 false Q μ w {(default:Frame)with fn:=f,kind:=.normal} {tmps:=us.toArray++Array.replicate (fn.ntmps-us.toArray.size) undef,defers:=[]} [] rfl rfl (show RoundOf μ none _ _ from rfl) rfl Marks.nil S F)
   ·cases hk
  ·cases hk
 ·intro f todo fr h v h' hk fn C μ w b a ds hb H ae hd M S F;simp only[stepA,kdy]at hk;rw[C]at hk;exact kj0 hm I C 4000 true hk μ w b a ds hb H ae hd M S F
 ·intro l xs h v h' hk μ w us L S V hL;simp only[stepA,kdy]at hk;split at hk
  ·rename_i st pe f fr ps as bd d hb;split at hk
   ·rename_i fn C;obtain⟨W,Q⟩:=kp hk;rw[qb6]at W;obtain⟨tmps,dd,hw,hF⟩:=S.blk l L _ hL hb;have aa:ps.size=xs.length:=Nat.eq_of_beq_eq_true W.1;have ag:=V.length;refine⟨f,_,as,bd,run_yield hw (by simp only;rw[List.size_toArray];omega),λc cs=>?_⟩
    have U:(ps.zip us.toArray).foldl (λtmps x=>match x with | (t,a)=>tmps.setIfInBounds t a) tmps=(ps.toList.zip us).foldl (λtmps p=>tmps.setIfInBounds p.1 p.2) tmps:=by rw[<- Array.foldl_toList,Array.toList_zip]
    have F:=k0h ps.toList (hF fn C) V W.2;have:=kj0 hm I C 4000 false Q μ w {(default:Frame)with fn:=f,kind:=.normal,roundOf:=some L.block} {tmps:=(ps.toList.zip us).foldl (λtmps p=>tmps.setIfInBounds p.1 p.2) tmps,defers:=[]} [] rfl rfl (show RoundOf μ (some l) _ _ from⟨rfl,L,hL,rfl⟩) rfl Marks.nil S F;obtain⟨u,w',g,st⟩:=this c cs;refine⟨u,w',g.nil,?_⟩;simp only[U];exact st
   ·cases hk
  ·cases hk
 ·intro l f todo fr h v h' hk fn C μ w b a L hb H hL af hd S F;simp only[stepA,kdy]at hk;rw[C]at hk;exact kj0 hm I C 4000 true hk μ w b a [] hb H (show RoundOf μ (some l) b []from⟨rfl,L,hL,af⟩) hd Marks.nil S F
theorem kku(K:Keep)(y:P.follows .mixedOrders=true):∀n,RecOk P O (runF P K n)
 | 0=>⟨λh=>by simp[runF]at h,λh=>by simp[runF]at h,λh=>by simp[runF]at h,λh=>by simp[runF]at h⟩
 | n+1=>kbb7 y (kku K y n)
theorem kho{K:Keep}{key:Key}{h:AH}{r:AV×AH}(y:run P K key h=some r):∃n,runF P K n key h=some r:=by
 unfold run at y;split at y
 ·rename_i C;have:=Classical.choose_spec (Classical.choose_spec C);cases y;exact⟨_,this⟩
 ·cases y
theorem run_ok(K:Keep)(C:P.follows .mixedOrders=true):RecOk P O (run P K):=⟨λh=>let ⟨n,y⟩:=kho h;(kku K C n).fn y,λh=>let ⟨n,y⟩:=kho h;(kku K C n).pt y,λh=>let ⟨n,y⟩:=kho h;(kku K C n).round y,λh=>let ⟨n,y⟩:=kho h;(kku K C n).rpt y⟩
end Go.Ab
namespace Go.Ab
variable{P:Program}
structure Ask where
 key:Key
 h:AH
 r:AV×AH
def Agree(rec:Rec)(l:List Ask):Prop:=∀x∈l,rec x.key x.h=some x.r
def Hangs{A:Type}(f:Rec->Option A):Prop:=∀rec r,f rec=some r->∃l,Agree rec l/\∀y,Agree y l->f y=some r
theorem Agree.append{rec:Rec}{l m:List Ask}(h:Agree rec l)(k:Agree rec m):Agree rec (l++m):=λx y=>by
 rcases qb2.1 y with y | y
 ·exact h x y
 ·exact k x y
theorem Agree.left{rec:Rec}{l m:List Ask}(h:Agree rec (l++m)):Agree rec l:=λx y=>h x (qb2.2 (.inl y))
theorem Agree.right{rec:Rec}{l m:List Ask}(h:Agree rec (l++m)):Agree rec m:=λx y=>h x (qb2.2 (.inr y))
theorem Hangs.const{A:Type}(x:Option A):Hangs (λ_=>x):=λrec r h=>⟨[],λ_ y=>by simp at y,λ_ _=>h⟩
abbrev qg:=@Hangs.const
theorem Hangs.ask(key:Key)(h:AH):Hangs (λrec=>rec key h):=λrec r F=>⟨[⟨key,h,r⟩],λx y=>by simp at y;subst y;exact F,λC h'=>h' ⟨key,h,r⟩ (by simp)⟩
theorem Hangs.bind{A B:Type}{f:Rec->Option A}{g:Rec->A->Option B}(C:Hangs f)(F:∀a,Hangs (λrec=>g rec a)):Hangs (λrec=>(f rec).bind (g rec)):=λrec r h=>by rw[qbs]at h;obtain⟨a,H,I⟩:=h;obtain⟨l,K,Q⟩:=C rec a H;obtain⟨m,U,V⟩:=F a rec r I;exact⟨l++m,K.append U,λy h'=>by dsimp only;rw[Q y h'.left];exact V y h'.right⟩
theorem Hangs.cond{A:Type}{c:Bool}{f g:Rec->Option A}(y:Hangs f)(C:Hangs g):Hangs (λrec=>cond c (f rec) (g rec)):=by
 cases c
 ·exact C
 ·exact y
abbrev qi:=@Hangs.cond
theorem kvt(f:FuncId)(args:List AV)(h:AH):Hangs (λrec=>callF P rec f args h):=by
 unfold callF;split
 ·refine qi (qg _) ?_;split
  ·exact Hangs.ask _ _
  ·exact qg _
 ·exact qg _
theorem k98(v:AV)(args:List AV)(h:AH):Hangs (λrec=>callV P rec v args h):=by
 unfold callV;split
 ·exact kvt _ _ _
 ·exact qg _
theorem kbe1(c:Call)(ty:TypeId)(fr:Fr)(h:AH):Hangs (λrec=>callK P rec c ty fr h pk):=by
 unfold callK;split
 ·exact qg _
 ·split
  ·exact qg _
  ·split
   ·exact(k98 _ _ _).bind λq=>qg _
   ·exact qg _
  ·split
   ·rename_i v _;cases v.asIface with
    | none=>exact qg _
    | some p =>
     obtain⟨g,e⟩:=kxt;simp only[qbr,e];cases g P p.1 _ p.2 h with
     | none=>exact qg _
     | some q=>exact(kvt _ _ _).bind λq=>qg _
   ·exact qg _
theorem ko1(o:Op)(ty:TypeId)(fr:Fr)(h:AH):Hangs (λrec=>opK P rec o ty fr h pk):=by
 cases o<;>first
  | exact kbe1 _ _ _ _
  | exact qg _
theorem km0{N:Nat}{ops:Array Oper}{k:Rec->Fr->AH->Option (AV×AH)}(hk:∀fr h,Hangs (λrec=>k rec fr h)):∀(is:List Nat)(fr:Fr)(h:AH),Hangs (λrec=>opsK P rec N ops is fr h (k rec))
 | [],fr,h=>hk fr h
 | i::is,fr,h=>by
  have put:∀(d:Option Tmp)(v:AV)(fr:Fr)(h:AH),Hangs (λrec=>putT N d v fr λy=>opsK P rec N ops is y h (k rec)):=by
   intro d v fr h;simp only[khx];split
   ·exact km0 hk is _ _
   ·exact qi (km0 hk is _ _) (qg _)
  have go:∀(o:Oper)(fr:Fr),Hangs (λrec=>opK P rec o.op o.type fr h λv h'=>putT N o.dst v fr λy=>opsK P rec N ops is y h' (k rec)):=by
   intro o fr
   have:(λrec=>opK P rec o.op o.type fr h λv h'=>putT N o.dst v fr λy=>opsK P rec N ops is y h' (k rec))=(λrec=>(opK P rec o.op o.type fr h pk).bind λp=>putT N o.dst p.1 fr λy=>opsK P rec N ops is y p.2 (k rec)):=by funext rec;exact khq rec P o.op o.type fr h _ _
   rw[this];exact(ko1 _ _ _ _).bind λp=>put _ _ _ _
  simp only[opsK];split
  ·exact qg _
  ·rename_i o C;split
   ·exact go o fr
   ·split
    ·exact qg _
    ·split
     ·exact qi (qi (go o _) (put _ _ _ _)) (qi (put _ _ _ _) (go o _))
     ·exact put _ _ _ _
     ·exact qg _
theorem k5i(rec:Rec)(o:Op)(ty:TypeId)(fr:Fr)(h:AH)(R:Type)(k:AV->AH->Option R):opM P rec o ty fr h k=(opM P rec o ty fr h pk).bind λp=>k p.1 p.2:=by
 have y:=khq rec P o ty fr h R k;unfold opM;split
 ·rfl
 ·(repeat' split)<;>simp[pk,kbl,Option.bind_assoc]
 ·(repeat' split)<;>simp[pk,kbl,Option.bind_assoc]
 ·obtain⟨g,e⟩:=kjf
  (repeat' split)<;>simp[e,pk,kbl,Option.bind_assoc]
 ·obtain⟨g,e⟩:=kjf
  (repeat' split)<;>simp[e,pk,kbl,Option.bind_assoc]
 ·(repeat' split)<;>simp[pk,kbl,Option.bind_assoc]
 ·(repeat' split)<;>first | exact y | simp[pk,kbl,Option.bind_assoc]
 ·exact y
theorem k6j(o:Op)(ty:TypeId)(fr:Fr)(h:AH):Hangs (λrec=>opM P rec o ty fr h pk):=by
 unfold opM;split
 ·exact qg _
 ·exact qg _
 ·exact qg _
 ·exact qg _
 ·exact qg _
 ·exact qg _
 ·split
  ·exact qg _
  ·exact qg _
  ·exact qg _
  ·exact ko1 _ _ _ _
 ·exact ko1 _ _ _ _
theorem kbi8(rec:Rec)(o:Op)(ty:TypeId)(fr:Fr)(h:AH)(R:Type)(k:AV->AH->Option R):opY P rec o ty fr h k=(opY P rec o ty fr h pk).bind λp=>k p.1 p.2:=by
 unfold opY;split
 ·obtain⟨g,e⟩:=kzi;simp only[e];simp[pk,Option.bind_assoc]
 ·exact k5i rec o ty fr h R k
theorem kbjh(o:Op)(ty:TypeId)(fr:Fr)(h:AH):Hangs (λrec=>opY P rec o ty fr h pk):=by
 unfold opY;split
 ·exact(Hangs.ask _ _).bind λq=>qg _
 ·exact k6j _ _ _ _
theorem kqd{N:Nat}{ops:Array Oper}{k:Rec->Fr->AH->Option (AV×AH)}(hk:∀fr h,Hangs (λrec=>k rec fr h)):∀(is:List Nat)(fr:Fr)(h:AH),Hangs (λrec=>opsY P rec N ops is fr h (k rec))
 | [],fr,h=>hk fr h
 | i::is,fr,h=>by
  have put:∀(d:Option Tmp)(v:AV)(fr:Fr)(h:AH),Hangs (λrec=>putT N d v fr λy=>opsY P rec N ops is y h (k rec)):=by
   intro d v fr h;simp only[khx];split
   ·exact kqd hk is _ _
   ·exact qi (kqd hk is _ _) (qg _)
  have go:∀(o:Oper)(fr:Fr),Hangs (λrec=>opY P rec o.op o.type fr h λv h'=>putT N o.dst v fr λy=>opsY P rec N ops is y h' (k rec)):=by
   intro o fr
   have:(λrec=>opY P rec o.op o.type fr h λv h'=>putT N o.dst v fr λy=>opsY P rec N ops is y h' (k rec))=(λrec=>(opY P rec o.op o.type fr h pk).bind λp=>putT N o.dst p.1 fr λy=>opsY P rec N ops is y p.2 (k rec)):=by funext rec;exact kbi8 rec o.op o.type fr h _ _
   rw[this];exact(kbjh _ _ _ _).bind λp=>put _ _ _ _
  simp only[opsY];split
  ·exact qg _
  ·rename_i o C;split
   ·exact go o fr
   ·split
    ·exact qg _
    ·split
     ·exact qi (qi (go o _) (put _ _ _ _)) (qi (put _ _ _ _) (go o _))
     ·exact put _ _ _ _
     ·exact qg _
theorem kbg9{A:Type}{p:Prop}{f:Rec->Option A}(y:Hangs f):Hangs (λrec=>whenK p (f rec)):=by
 unfold whenK;split
 ·exact y
 ·exact qg _
theorem kuq{A:Type}{m:Nat}{h h':AH}{f:Rec->Option A}(y:Hangs f):∀(ps:List Look),Hangs (λrec=>checkP m h h' (f rec) ps)
 | []=>y
 | p::ps=>qi (kuq y ps) (kbg9 (kuq y ps))
theorem kpe{N:Nat}{ops:Array Oper}{C F:List Nat}{k:Rec->Fr->AH->Option (AV×AH)}(hk:∀fr h,Hangs (λrec=>k rec fr h)):∀(c:List Nat)(m:Nat)(ps:List Look)(fr:Fr)(h:AH),Hangs (λrec=>opsD P rec N ops C F c m ps fr h (k rec))
 | [],m,ps,fr,h=>qi (hk fr h) (qg _)
 | i::c,m,ps,fr,h=>by
  simp only[opsD];split
  ·refine qi (qi (qi ?_ (qg _)) (qi ?_ (qg _))) (qg _)
   ·exact km0 (k:=λrec y h'=>opsD P rec N ops C F c _ _ y h' (k rec)) (λy h'=>kpe hk c _ _ y h') _ _ _
   ·exact km0 (k:=λrec y h'=>checkP _ h h' (opsD P rec N ops C F c _ ps y h' (k rec)) ps) (λy h'=>kuq (kpe hk c _ _ y h') _) _ _ _
  ·exact qg _
theorem kbgr{N:Nat}{ops:Array Oper}{y:List Nat}{k:Rec->Fr->AH->Option (AV×AH)}(hk:∀fr h,Hangs (λrec=>k rec fr h))(fr:Fr)(h:AH):Hangs (λrec=>drawK P rec N ops y fr h (k rec)):=qi (kpe hk _ _ _ _ _) (qg _)
theorem kbhe{cs:List Operand}{a b:Fr}{x:Rec->Option (AV×AH)}(y:Hangs x):Hangs (λrec=>finK cs a b (x rec)):=by
 unfold finK;split
 ·exact y
 ·unfold whenK;split
  ·exact y
  ·exact qg _
theorem k2p{N:Nat}{y:List Nat}{fp:Fr}{k:Rec->Fr->AH->Option (AV×AH)}(hk:∀fr h,Hangs (λrec=>k rec fr h)):∀(is:List Nat)(cs:List Operand)(ops:Array Oper)(ps:List Look)(fr:Fr)(h:AH),Hangs (λrec=>drawR P rec N y fp is cs ops ps fr h (k rec))
 | [],cs,ops,ps,fr,h=>qi (kpe (k:=λrec C h'=>finK cs (C.low N) fp (k rec (C.low N) h')) (λfr h=>kbhe (hk _ _)) _ _ _ _ _) (qg _)
 | i::is,cs,ops,ps,fr,h=>by
  simp only[drawR];split
  ·rename_i o F;refine qi ?_ (qg _)
   have:(λrec=>opK P rec o.op o.type fp h λv h'=>drawR P rec N y fp is (o.op.operands.toList++cs) (ops.setIfInBounds i {o with op:=.move (.tmp (N+i))}) (⟨i,h.next,0⟩::ps) ((N+i,v)::fr) h' (k rec))=λrec=>(opK P rec o.op o.type fp h pk).bind λp=>drawR P rec N y fp is (o.op.operands.toList++cs) (ops.setIfInBounds i {o with op:=.move (.tmp (N+i))}) (⟨i,h.next,0⟩::ps) ((N+i,p.1)::fr) p.2 (k rec):=by funext rec;exact khq rec P o.op o.type fp h _ _
   rw[this];exact(ko1 _ _ _ _).bind λp=>k2p hk is _ _ _ _ _
  ·exact qg _
theorem kbe2{N:Nat}{ops:Array Oper}{y C F:List Nat}{k:Rec->Fr->AH->Option (AV×AH)}(hk:∀fr h,Hangs (λrec=>k rec fr h))(fr:Fr)(h:AH):Hangs (λrec=>drawX P rec N ops y C F fr h (k rec)):=by
 unfold drawX;split
 ·exact kbgr hk fr h
 ·rename_i i is;refine qi ?_ (qg _);exact km0 (k:=λrec fp _=>drawR P rec N y fp (i::is) [] ops [] fr h (k rec)) (λfp _=>k2p hk _ _ _ _ _ _) _ _ _
theorem kmo{K:Keep}{ro:Option Nat}{f:FuncId}{fn:Func}:∀(n:Nat)(fresh:Bool)(todo:List Item)(fr:Fr)(h:AH),Hangs (λrec=>execA P K rec ro f fn n fresh todo fr h)
 | 0,fresh,todo,fr,h=>qg _
 | n+1,fresh,todo,fr,h=>by
  unfold execA
  try simp only[kdy]
  have y:=kmo (K:=K) (ro:=ro) (f:=f) (fn:=fn) n;have F:∀(ops:Array Oper)(is H ls:List Nat)(k:List Item)(fr:Fr)(h:AH),Hangs (λrec=>cond (ro.isSome&&khi ops) none (drawX P rec fn.ntmps ops is H ls fr h λC h'=>execA P K rec ro f fn n false k C h')):=λops is H ls k fr h=>qi (qg _) (kbe2 (λC h'=>y false _ C h') _ _);split
  ·exact qg _
  ·exact qg _
  ·exact y _ _ _ _
  ·exact y _ _ _ _
  ·exact y _ _ _ _
  ·exact y _ _ _ _
  ·exact y _ _ _ _
  ·split
   ·exact qi (y _ _ _ _) (y _ _ _ _)
   ·exact qg _
  ·exact y _ _ _ _
  ·exact y _ _ _ _
  ·exact y _ _ _ _
  ·exact y _ _ _ _
  ·split
   ·exact y _ _ _ _
   ·exact qg _
  ·split
   ·exact y _ _ _ _
   ·exact qg _
  ·refine qi ?_ ?_
   ·exact qi (F _ _ _ _ _ _ _) (kqd (λC h'=>y false _ C h') _ _ _)
   ·split
    ·split
     ·exact Hangs.ask _ _
     ·exact Hangs.ask _ _
    ·exact qi (F _ _ _ _ _ _ _) (kqd (λC h'=>y false _ C h') _ _ _)
  ·split
   ·exact(qg _).bind λh'=>y _ _ _ _
   ·exact qg _
  ·split
   ·exact qg _
   ·refine qi ?_ (Hangs.ask _ _);split
    ·exact(kvt _ _ _).bind λq=>(qg _).bind λp=>Hangs.ask _ _
    ·exact qg _
  ·exact qg _
theorem kre(K:Keep)(key:Key)(h:AH):Hangs (λrec=>stepA P K rec key h):=by
 unfold stepA
 try simp only[kdy]
 split
 ·split
  ·split
   ·exact qi (kmo _ _ _ _ _) (qg _)
   ·exact qg _
  ·exact qg _
 ·split
  ·exact kmo _ _ _ _ _
  ·exact qg _
 ·split
  ·split
   ·exact qi (kmo _ _ _ _ _) (qg _)
   ·exact qg _
  ·exact qg _
 ·split
  ·exact kmo _ _ _ _ _
  ·exact qg _
theorem k3o(K:Keep):∀(n:Nat){key:Key}{h:AH}{r:AV×AH},runF P K n key h=some r->runF P K (n+1) key h=some r
 | 0,key,h,r,y=>by simp[runF]at y
 | n+1,key,h,r,y=>by obtain⟨l,C,F⟩:=kre (P:=P) K key h (runF P K n) r y;exact F (runF P K (n+1)) λx H=>k3o K n (C x H)
theorem koe(K:Keep){n m:Nat}(y:n<=m){key:Key}{h:AH}{r:AV×AH}(C:runF P K n key h=some r):runF P K m key h=some r:=by
 induction y with
 | refl=>exact C
 | step _ ih=>exact k3o K _ ih
theorem k0q{K:Keep}{n:Nat}{key:Key}{h:AH}{r:AV×AH}(C:runF P K n key h=some r):run P K key h=some r:=by
 cases hq:run P K key h with
 | none =>
  unfold run at hq;split at hq
  ·cases hq
  ·rename_i y;exact absurd ⟨n,r,C⟩ y
 | some Q =>obtain⟨m,H⟩:=kho hq;have I:=koe K (Nat.le_max_left n m) C;have F:=koe K (Nat.le_max_right n m) H;rw[I]at F;exact F.symm
theorem kyg(K:Keep):∀(l:List Ask),Agree (run P K) l->∃n,Agree (runF P K n) l
 | [],_=>⟨0,λ_ F=>by simp at F⟩
 | x::l,h=>by
  obtain⟨n,H⟩:=kyg K l λy C=>h y (by simp[C]);obtain⟨m,I⟩:=kho (h x (by simp));refine⟨max n m,λy C=>?_⟩;rcases qb3.1 C with rfl | C
  ·exact koe K (Nat.le_max_right n m) I
  ·exact koe K (Nat.le_max_left n m) (H y C)
theorem kbgn(K:Keep)(key:Key)(h:AH):run P K key h=stepA P K (run P K) key h:=by
 cases hq:stepA P K (run P K) key h with
 | some r =>
  obtain⟨l,C,F⟩:=kre (P:=P) K key h _ r hq;obtain⟨n,y⟩:=kyg K l C;exact k0q (n:=n+1) (F _ y)
 | none =>
  cases H:run P K key h with
  | none=>rfl
  | some r =>
   obtain⟨n,y⟩:=kho H;cases n with
   | zero=>simp[runF]at y
   | succ n =>obtain⟨l,C,F⟩:=kre (P:=P) K key h (runF P K n) r y;have:=F (run P K) λx I=>k0q (C x I);dsimp only at this;rw[hq]at this;cases this
end Go.Ab
namespace Go.Ab
def newK{R:Type}(h:AH)(b:ABlk)(k:Ref->AH->R):R:=k h.next (h.alloc b)
def newM{R:Type}(h:AH)(b:ABlk)(k:Nat->AH->R):R:=k h.blks.size (h.alloc b)
def k4h(v:AV)(xs:List AV):Option (Nat×List AV):=match v with
 | .func (.yield l) [] []=>some (l,xs)
 | _=>none
def yieldK{R:Type}(v:AV)(xs:List AV)(a:Nat×List AV->R)(b:R):R:=match k4h v xs with
 | some p=>a p
 | none=>b
def funcK{R:Type}(v:AV)(k:FuncId->List AV->List AV->Option R):Option R:=match v with
 | .func (.func f) first captured=>k f first captured
 | _=>none
def loopIn:Nat->Code->List Item->Nat×Option (Array Tmp×Code×Code×List Item)
 | r,.seq a b,k=>match loopIn r a (.code b::k)with
  | (y,none)=>loopIn y b k
  | x=>x
 | r,.cond _ a b,k=>match loopIn r a k with
  | (y,none)=>loopIn y b k
  | x=>x
 | r,.block id b,k=>loopIn r b (.inBlock id::k)
 | r,.loop b,k=>loopIn r b (.inLoop b::k)
 | r,.scope b,k=>loopIn r b (.inScope b::k)
 | 0,.rangeFunc _ ps a b,k=>(0,some (ps,a,b,k))
 | r+1,.rangeFunc _ _ _ _,_=>(r,none)
 | r,_,_=>(r,none)
def loopAt(fn:Func)(r:Nat):Array Tmp×Code×Code×List Item :=
 match fn.body with
 | some c=>((loopIn r c []).2).getD (#[],.skip,.skip,[])
 | none=>(#[],.skip,.skip,[])
def kq4(fn:Func)(r:Nat)(g:Operand):List Item:=.code (.rangeFunc g (loopAt fn r).1 (loopAt fn r).2.1 (loopAt fn r).2.2.1)::(loopAt fn r).2.2.2
def kc9(fn:Func)(f:FuncId)(r:Nat)(st:LoopState)(y:Option Code)(fr:Fr):ABlk:=.loop st y f fr (loopAt fn r).1 (loopAt fn r).2.1 (loopAt fn r).2.2.1 0
theorem kpg{P:Program}{K:Keep}{rec:Rec}{l:Nat}{args:List AV}{h:AH}{st:LoopState}{y:Option Code}{f:FuncId}{fr:Fr}{ps:Array Tmp}{bs bd:Code}{d:Nat}(C:h.blks[l]?=some (.loop st y f fr ps bs bd d)) :
  stepA P K rec (.round l args) h=match P.funcs[f]? with
   | some fn=>cond (Nat.beq ps.size args.length&&ps.toList.all λt=>Nat.blt t fn.ntmps) (execA P K rec (some l) f fn 4000 false [.code bs,.beginRound,.code bd] (handed ps.toList args fr) h) none
   | none=>none:=by
 simp only[stepA,C];rfl
def keepOf:List (Nat×Nat×List Nat)->Keep
 | [],_,_=>none
 | (f,r,l)::t,g,q=>cond (Nat.beq f g&&Nat.beq r q) (some l) (keepOf t g q)
def todoIn(r:Nat):Code->List Item->Option (List Item)
 | .region id ops draw,k=>cond (Nat.beq id r) (some (.code (.region id ops draw)::k)) none
 | .seq a b,k=>match todoIn r a (.code b::k)with
  | some t=>some t
  | none=>todoIn r b k
 | .cond _ a b,k=>match todoIn r a k with
  | some t=>some t
  | none=>todoIn r b k
 | .block id b,k=>todoIn r b (.inBlock id::k)
 | .loop b,k=>todoIn r b (.inLoop b::k)
 | .scope b,k=>todoIn r b (.inScope b::k)
 | .rangeFunc _ _ a b,k=>match todoIn r a [.beginRound,.code b]with
  | some t=>some t
  | none=>todoIn r b []
 | _,_=>none
def todoAt(fn:Func)(r:Nat):List Item :=
 match fn.body with
 | some c=>(todoIn r c []).getD []
 | none=>[]
variable{P:Program}
theorem Sim.begin(W:World):Sim P W (λ_=>none) ⟨W.heap,#[]⟩ W:=⟨rfl,rfl,rfl,rfl,qbn _,λ_ _=>rfl,λ_ _ h=>by simp at h,λ_ _ h=>by simp at h,λ_ _ _ h=>by simp at h,λ_ _ _ _ h=>by simp at h⟩
theorem start(y:P.follows .mixedOrders=true){K:Keep}{f:FuncId}{xs:List AV}{b:Bool}{W:World}{h':AH}(C:run P K (.fn f xs) ⟨W.heap,#[]⟩=some (.bool b,h')){args:Array Value}(F:VRels (λ_=>none) xs args.toList) :
  Calls P f args W λe w'=>e=.returned (.bool b)/\Go.RowKit.Below W.heap.size W w':=by
 have:=(run_ok (P:=P) (O:=W) K y).fn C (Sim.begin W) F;rw[Array.toArray_toList]at this;refine this.mono ?_
 rintro e w' ⟨u,rfl,ν,hv,S,-,-⟩
 simp only[VRel]at hv;subst hv;exact⟨rfl,S.os,S.tape,S.output,S.base,S.keep⟩
end Go.Ab
namespace Go.Ab
open Go.WideShapes
variable{P:Program}
def ArgC(P:Program)(h:AH):Nat->TypeId->List AV->Prop
 | 0,_,_=>False
 | n+1,t,cs=>match P.underlying t with
  | some (.int k)=>∃x,cs=[.int k x]/\(Lit.int k x).wf=true
  | some .bool=>∃b,cs=[.bool b]
  | some .string=>∃s,cs=[.str s]/\s.size<=maxLen
  | some (.pointer e)=>cs=[.ptr none]\/∃a es,cs=[.ptr (some (.old a))]/\h.gets (.old a) (P.cellsOf e)=some es/\ArgC P h n e es
  | some (.slice e)=>cs=[.slice none 0 (.is 0)]\/∃a len cap,cs=[.slice (some (.old a)) len (.is cap)]/\len<=cap/\cap<=maxLen/\len*P.bytesOf e<=reachBytes/\
    ∀i,i<len->∃es,h.gets (.old (a.add (i*P.cellsOf e))) (P.cellsOf e)=some es/\ArgC P h n e es
  | some (.struct fs)=>cs.length=P.cellsOf t/\∀f∈fs.toList,ArgC P h n f.type ((cs.drop f.offset).take (P.cellsOf f.type))
  | some (.array m e)=>cs.length=P.cellsOf t/\∀i,i<m->ArgC P h n e ((cs.drop (i*P.cellsOf e)).take (P.cellsOf e))
  | _=>True
def ArgT(P:Program)(h:AH)(t:TypeId)(cs:List AV):Prop:=∃n,ArgC P h n t cs
def tiles(P:Program)(total:Nat):List Field->Nat->Bool
 | [],n=>Nat.beq n total
 | f::fs,n=>Nat.beq f.offset n&&tiles P total fs (n+P.cellsOf f.type)
def argTy(P:Program):Nat->TypeId->Bool
 | 0,_=>false
 | d+1,t=>match P.underlying t with
  | some (.int _) | some .bool | some .string=>true
  | some (.pointer e)=>argTy P d e
  | some (.slice e)=>argTy P d e
  | some (.struct fs)=>fs.toList.all (λf=>argTy P d f.type)&&tiles P (P.cellsOf t) fs.toList 0
  | some (.array m e)=>argTy P d e&&Nat.beq (P.cellsOf t) (m*P.cellsOf e)
  | _=>false
theorem kuu:∀{us:List Value}{vs:List AV},AV.ofCells us=some vs->vs.length=us.length/\∀(i:Nat)(u:Value),us[i]?=some u->∃v,vs[i]?=some v/\AV.ofCell u=some v
 | [],vs,h=>by simp[AV.ofCells]at h;subst h;simp
 | u::us,vs,h=>by
  simp only[AV.ofCells]at h;split at h
  ·rename_i x xs F y;cases h;obtain⟨H,I⟩:=kuu y;refine⟨by simp[H],λi w C=>?_⟩;cases i with
   | zero=>simp at C;subst C;exact⟨x,by simp,F⟩
   | succ i=>simpa using I i w (by simpa using C)
  ·cases h
theorem krs:∀{us:List Value}{vs:List AV}(n:Nat),AV.ofCells us=some vs->AV.ofCells (us.take n)=some (vs.take n)
 | _,_,0,h=>by simp[AV.ofCells]
 | [],vs,n+1,h=>by simp[AV.ofCells]at h;subst h;simp[AV.ofCells]
 | u::us,vs,n+1,h=>by
  simp only[AV.ofCells]at h;split at h
  ·rename_i x xs C y;cases h;simp[AV.ofCells,C,krs n y]
  ·cases h
theorem kvf:∀{us:List Value}{vs:List AV}(n:Nat),AV.ofCells us=some vs->AV.ofCells (us.drop n)=some (vs.drop n)
 | _,_,0,h=>by simpa using h
 | [],vs,n+1,h=>by simp[AV.ofCells]at h;subst h;simp[AV.ofCells]
 | u::us,vs,n+1,h=>by
  simp only[AV.ofCells]at h;split at h
  ·rename_i x xs C y;cases h
   simpa using kvf n y
  ·cases h
theorem cell_old{w:World}{a:Addr}{u:Value}(h:w.cell? a=some u):AH.cell ⟨w.heap,#[]⟩ (.old a)=AV.ofCell u:=by
 simp only[World.cell?]at h;simp only[AH.cell];split at h
 ·rename_i c e k y;rw[y];dsimp only;split at h
  ·cases h
  ·rename_i hs;rw[if_neg hs,h];rfl
 ·cases h
theorem kzw{w:World}:∀(n:Nat){r:Ref}{us:List Value}{vs:List AV},us.length=n->(∀(i:Nat)(u:Value),us[i]?=some u->AH.cell ⟨w.heap,#[]⟩ (r.add i)=AV.ofCell u)->AV.ofCells us=some vs->AH.gets ⟨w.heap,#[]⟩ r n=some vs
 | 0,r,us,vs,y,C,hv=>by
  have:us=[]:=List.length_eq_zero_iff.1 y;subst this;simp[AV.ofCells]at hv;subst hv;rfl
 | n+1,r,u::us,vs,y,C,hv=>by
  simp only[AV.ofCells]at hv;split at hv
  ·rename_i x xs I F;cases hv;have h0:=C 0 u (by simp);have K:r.add 0=r:=by cases r<;>simp[Ref.add,Addr.add]
   rw[K]at h0
   have Q:∀i,(r.add 1).add i=r.add (i+1):=by
    intro i;cases r with
    | old a =>
     simp only[Ref.add,Addr.add];by_cases H:i=0
     ·subst H;simp
     ·simp[H,Nat.add_assoc,Nat.add_comm 1 i]
    | new j o=>simp only[Ref.add];congr 1;omega
   have:=kzw n (r:=r.add 1) (us:=us) (by simpa using y) (λi U V=>by rw[Q];exact C (i+1) U (by simpa using V)) F
   simp only[AH.gets,h0,I,qbr,this,Option.map_some]
  ·cases hv
theorem kbjr{w:World}{base n:Nat}{a:Addr}{cs:List Value}(h:w.cells? base a n=some cs):cs.length=n/\∀(i:Nat)(u:Value),cs[i]?=some u->w.cell? (a.add i)=some u:=by
 unfold World.cells? at h;split at h
 ·have C:=mapM_some_length h;simp at C;refine⟨C,λi u y=>?_⟩
  have F:i<n:=by
   rcases Nat.lt_or_ge i n with h' | h'
   ·exact h'
   ·rw[List.getElem?_eq_none (by omega)]at y;cases y
  have:=mapM_some_get h i i (by simp[F]);rw[this,y]
 ·cases h
theorem kww{w:World}{base n:Nat}{a:Addr}{cs:List Value}{vs:List AV}(h:w.cells? base a n=some cs)(hv:AV.ofCells cs=some vs):AH.gets ⟨w.heap,#[]⟩ (.old a) n=some vs:=by obtain⟨y,C⟩:=kbjr h;exact kzw n y (λi u F=>cell_old (C i u F)) hv
theorem kyk{us xs:List Value}{vs ys:List AV}(h:AV.ofCells us=some vs)(k:AV.ofCells xs=some ys):AV.ofCells (us++xs)=some (vs++ys):=by
 induction us generalizing vs with
 | nil=>simp[AV.ofCells]at h;subst h;simpa using k
 | cons u us ih =>
  simp only[AV.ofCells]at h;split at h
  ·rename_i a as y has;cases h;simp[AV.ofCells,y,ih has]
  ·cases h
theorem k3n{P:Program}{cs:List Value}{total:Nat}(F:cs.length=total):∀(C:List Field)(n:Nat),tiles P total C n=true->(∀f∈C,∃vs,AV.ofCells ((cs.drop f.offset).take (P.cellsOf f.type))=some vs)->∃vs,AV.ofCells (cs.drop n)=some vs
 | [],n,y,h=>by
  simp only[tiles]at y;have:=Nat.eq_of_beq_eq_true y;exact⟨[],by rw[List.drop_of_length_le (by omega)];rfl⟩
 | f::C,n,y,h=>by simp only[tiles,qb6]at y;have H:=Nat.eq_of_beq_eq_true y.1;obtain⟨vs,hv⟩:=h f (by simp);obtain⟨I,K⟩:=k3n F C _ y.2 λg Q=>h g (by simp[Q]);refine⟨vs++I,?_⟩;rw[H]at hv;rw[<- List.take_append_drop (P.cellsOf f.type) (cs.drop n),List.drop_drop];exact kyk hv K
theorem k0w{cs:List Value}{c:Nat}:∀(m n:Nat),cs.length=(n+m)*c->(∀i,n<=i->i<n+m->∃vs,AV.ofCells ((cs.drop (i*c)).take c)=some vs)->∃vs,AV.ofCells (cs.drop (n*c))=some vs
 | 0,n,y,h=>⟨[],by rw[List.drop_of_length_le (by simp at y;omega)];rfl⟩
 | m+1,n,y,h=>by obtain⟨vs,hv⟩:=h n (qbn _) (by omega);obtain⟨F,C⟩:=k0w m (n+1) (by rw[y];congr 1;omega) λi H I=>h i (by omega) (by omega);refine⟨vs++F,?_⟩;rw[<- List.take_append_drop c (cs.drop (n*c)),List.drop_drop];rw[Nat.succ_mul]at C;exact kyk hv C
theorem ksv{H:Type}{e:TypeId}{d:DataW H}{n:Nat}(y:n∈d.weights P e):∀{l:List (DataW H)},d∈l->n∈DataW.weightsAll P e l
 | x::l,h=>by
  simp only[DataW.weightsAll];rcases qb3.1 h with rfl | h
  ·exact qb2.2 (.inl y)
  ·exact qb2.2 (.inr (ksv y h))
theorem klv{H:Type}{ac:TypeId×Value->H}{w:World}{base:Nat}{U:Nat->Bool}{aa:Bool}:∀(n d:Nat){t:TypeId}{cs:List Value}{x:DataW H×List MemPlace},
  argTy P d t=true->DataW.trod ac P w base U aa n t cs=some x->(∀m∈DataW.weights P t x.1,m<=reachBytes)->∃vs,AV.ofCells cs=some vs/\ArgC P ⟨w.heap,#[]⟩ n t vs
 | 0,d,t,cs,x,I,h,hw=>by simp[DataW.trod]at h
 | n+1,0,t,cs,x,I,h,hw=>by simp[argTy]at I
 | n+1,d+1,t,cs,x,I,h,hw=>by
  simp only[argTy]at I;simp only[ArgC];split at I
  ·rename_i k C
   have:∃z,cs=[.int k z]/\(Lit.int k z).wf=true:=by unfold DataW.trod at h;rw[C]at h;split at h<;>simp_all
   obtain⟨z,rfl,hz⟩:=this;exact⟨[.int k z],rfl,z,rfl,hz⟩
  ·rename_i C
   have:∃z,cs=[.bool z]:=by unfold DataW.trod at h;rw[C]at h;split at h<;>simp_all
   obtain⟨z,rfl⟩:=this;exact⟨[.bool z],rfl,z,rfl⟩
  ·rename_i C
   have:∃z,cs=[.string z]/\z.size<=maxLen:=by unfold DataW.trod at h;rw[C]at h;split at h<;>simp_all
   obtain⟨z,rfl,hz⟩:=this;exact⟨[.str z],rfl,z,rfl,hz⟩
  ·rename_i e C;rcases DataW.trod_pointer C h with⟨rfl,-⟩ | ⟨a,cs',y,m,hm,rfl,rfl,hc,V⟩
   ·exact⟨[.ptr none],rfl,.inl rfl⟩
   ·cases hm;obtain⟨es,Q,W⟩:=klv n d I V λq hq=>hw q (by simp only[DataW.weights,C];exact hq);exact⟨[.ptr (some (.old a))],rfl,.inr ⟨a,es,rfl,kww hc Q,W⟩⟩
  ·rename_i e C;rcases DataW.trod_slice C h with⟨rfl,-⟩ | ⟨a,len,cap,F,rest,m,hm,rfl,rfl,-,hl,hc,ag,Z,-,-⟩
   ·exact⟨[.slice none 0 (.is 0)],rfl,.inl rfl⟩
   ·cases hm;refine⟨[.slice (some (.old a)) len (.is cap)],by simp[AV.ofCells,AV.ofCell,Nat.ble_eq_true_of_le hl],.inr ⟨a,len,cap,rfl,hl,hc,?_,λi ad=>?_⟩⟩
    ·have:=hw ((F.length+rest.length)*P.bytesOf e) (by simp only[DataW.weights,C,qby];exact List.mem_cons_self);exact qbo (Nat.mul_le_mul_right _ (by omega)) this
    have Q:=Z i ad;have:∃y,F[i]?=some y:=⟨F[i]'(by omega),by simp⟩;obtain⟨y,V⟩:=this;rw[V,qbs]at Q;obtain⟨cs',W,h3⟩:=Q
    obtain⟨es,h4,h5⟩:=klv n d I h3 λq hq=>hw q (by simp only[DataW.weights,C];exact List.mem_cons_of_mem _ (qb2.2 (.inl (ksv hq (List.mem_map.2 ⟨y,List.mem_of_getElem? V,rfl⟩)))))
    exact⟨es,kww W h4,h5⟩
  ·rename_i fs C;simp only[qb6,List.all_eq_true]at I;obtain⟨xs,m,hm,rfl,hl,hx,hf⟩:=DataW.trod_struct C h;cases hm
   have key:∀f∈fs.toList,∃vs,AV.ofCells ((cs.drop f.offset).take (P.cellsOf f.type))=some vs/\ArgC P ⟨w.heap,#[]⟩ n f.type vs:=by intro f K;obtain⟨i,Z,rfl⟩:=List.getElem_of_mem K;have Q:=hf i fs.toList[i] (by simp);have:∃y,xs[i]?=some y:=⟨xs[i]'(by simp at Z;omega),by simp⟩;obtain⟨y,V⟩:=this;rw[V]at Q;refine klv n d (I.1 _ K) Q λq hq=>hw q ?_;simp only[DataW.weights,C];exact DataW.weights_mem_each (j:=i) (by simp at Z;simp[Z]) (by simp[V]) q hq
   obtain⟨vs,hv⟩:=k3n (P:=P) hl fs.toList 0 I.2 λf K=>(key f K).imp λ_ h=>h.1;rw[List.drop_zero]at hv;refine⟨vs,hv,by rw[(kuu hv).1,hl],λf K=>?_⟩;obtain⟨ws,Q,W⟩:=key f K;have:=krs (P.cellsOf f.type) (kvf f.offset hv);rw[Q]at this;cases this;exact W
  ·rename_i m e C;simp only[qb6]at I;have ae:=Nat.eq_of_beq_eq_true I.2;unfold DataW.trod at h;rw[C]at h
   have h:(if cs.length=P.cellsOf t then((List.range m).mapM λi=>DataW.trod ac P w base U aa n e ((cs.drop (i*P.cellsOf e)).take (P.cellsOf e))).map λxs=>((.agg (xs.map (·.1)),xs.flatMap (·.2)):DataW H×List MemPlace)else none)=some x:=by split at h<;>simp_all
   split at h
   ·rename_i hl;simp only[Option.map_eq_some_iff]at h;obtain⟨xs,Q,rfl⟩:=h;have af:=mapM_some_length Q;simp at af
    have key:∀i,i<m->∃vs,AV.ofCells ((cs.drop (i*P.cellsOf e)).take (P.cellsOf e))=some vs/\ArgC P ⟨w.heap,#[]⟩ n e vs:=by intro i Z;have W:=mapM_some_get Q i i (by simp[Z]);have:∃y,xs[i]?=some y:=⟨xs[i]'(by omega),by simp⟩;obtain⟨y,V⟩:=this;rw[V]at W;refine klv n d I.1 W λq hq=>hw q ?_;simp only[DataW.weights,C];exact ksv hq (List.mem_map.2 ⟨y,List.mem_of_getElem? V,rfl⟩)
    obtain⟨vs,hv⟩:=k0w (c:=P.cellsOf e) m 0 (by rw[hl,ae,Nat.zero_add]) λi _ Z=>(key i (by omega)).imp λ_ h=>h.1;rw[Nat.zero_mul,List.drop_zero]at hv;refine⟨vs,hv,by rw[(kuu hv).1,hl],λi Z=>?_⟩;obtain⟨ws,W,h3⟩:=key i Z;have:=krs (P.cellsOf e) (kvf (i*P.cellsOf e) hv);rw[W]at this;cases this;exact h3
   ·cases h
  ·cases I
def ArgV(P:Program)(h:AH)(t:TypeId)(x:AV):Prop :=
 match P.underlying t with
 | some (.struct _) | some (.array _ _)=>∃cs,x=.agg cs/\ArgT P h t cs
 | _=>ArgT P h t [x]
theorem arg_open{H:Type}{Z:TypeId×Value->H}{W:World}{base I:Nat}{K:Nat->Bool}{U:Bool}{t:TypeId}{v:Value}{d:DataW H}{ps:List MemPlace}{aa:Reach}(d':Nat)(V:argTy P (d'+1) t=true)
  (hv:Value.okWide P W aa base t v) (h:DataW.Trod Z P W I K U t v d ps) (hw:∀m∈d.weights P t,m<=reachBytes):∃x,VRel (λ_=>none) x v/\ArgV P ⟨W.heap,#[]⟩ t x:=by
 obtain⟨n,hn⟩:=h;obtain⟨vs,Q,h2⟩:=klv n (d'+1) V hn hw
 have agg:∀cs:Array Value,v=.agg cs->∃x,VRel (λ_=>none) x v/\∃cs',x=.agg cs'/\ArgT P ⟨W.heap,#[]⟩ t cs':=by
  rintro cs rfl
  obtain⟨h3,h4⟩:=VRels.ofCells (μ:=λ_=>none) Q;exact⟨.agg vs,by simp only[VRel];exact⟨cs,rfl,h3,h4⟩,vs,rfl,n,h2⟩
 have cell:∀u,v.cells.toList=[u]->v=u->∃x,VRel (λ_=>none) x v/\ArgT P ⟨W.heap,#[]⟩ t [x]:=by
  rintro u hc rfl
  rw[hc]at Q;simp only[AV.ofCells]at Q;split at Q
  ·rename_i x xs hx ac;cases Q;cases ac;exact⟨x,(VRel.ofCell hx).1,n,h2⟩
  ·cases Q
 have C:(∀cs,v≠.agg cs)->∃x,VRel (λ_=>none) x v/\ArgT P ⟨W.heap,#[]⟩ t [x]:=by intro ad;refine cell v ?_ rfl;cases v<;>first | rfl | exact absurd rfl (ad _)
 simp only[argTy]at V;unfold ArgV;split at V
 ·rename_i k F;simp only[F];obtain⟨z,rfl,-⟩:=okWide_int F hv;exact C λcs y=>by cases y
 ·rename_i F;simp only[F];obtain⟨z,rfl⟩:=okWide_bool F hv;exact C λcs y=>by cases y
 ·rename_i F;simp only[F];obtain⟨z,rfl⟩:=okWide_string F hv;exact C λcs y=>by cases y
 ·rename_i e F;simp only[F];obtain⟨z,rfl⟩:=okWide_pointer F hv;exact C λcs y=>by cases y
 ·rename_i e F;simp only[F];obtain⟨z,l,c,rfl⟩:=okWide_slice F hv;exact C λcs y=>by cases y
 ·rename_i fs F;simp only[F];obtain⟨cs,y,-⟩:=okWide_struct F hv;exact agg cs y
 ·rename_i m e F;simp only[F];unfold Value.okWide at hv;rw[F]at hv;obtain⟨cs,y,-⟩:=hv;exact agg cs y
 ·cases V
theorem ArgT.int{h:AH}{t:TypeId}{k:IntKind}{cs:List AV}(y:P.underlying t=some (.int k))(a:ArgT P h t cs):∃x,cs=[.int k x]/\(Lit.int k x).wf=true:=by
 obtain⟨n,a⟩:=a;cases n with
 | zero=>simp[ArgC]at a
 | succ n=>simpa[ArgC,y]using a
theorem ArgT.slice{h:AH}{t e:TypeId}{cs:List AV}(y:P.underlying t=some (.slice e))(a:ArgT P h t cs):cs=[.slice none 0 (.is 0)]\/∃a len cap,cs=[.slice (some (.old a)) len (.is cap)]/\len<=cap/\cap<=maxLen/\
    ∀i,i<len->∃es,h.gets (.old (a.add (i*P.cellsOf e))) (P.cellsOf e)=some es/\ArgT P h e es:=by
 obtain⟨n,a⟩:=a;cases n with
 | zero=>simp[ArgC]at a
 | succ n =>
  simp only[ArgC,y]at a;rcases a with a | ⟨a,len,cap,C,F,H,-,I⟩
  ·exact .inl a
  ·exact .inr ⟨a,len,cap,C,F,H,λi K=>(I i K).imp λes h=>⟨h.1,n,h.2⟩⟩
theorem ArgT.struct{h:AH}{t:TypeId}{y:Array Field}{cs:List AV}(C:P.underlying t=some (.struct y))(a:ArgT P h t cs):cs.length=P.cellsOf t/\∀f∈y.toList,ArgT P h f.type ((cs.drop f.offset).take (P.cellsOf f.type)):=by
 obtain⟨n,a⟩:=a;cases n with
 | zero=>simp[ArgC]at a
 | succ n =>simp only[ArgC,C]at a;exact⟨a.1,λf F=>⟨n,a.2 f F⟩⟩
end Go.Ab
namespace Go.Ab
def AH.push(h:AH)(b:ABlk):AH:=h.alloc b
@[simp] theorem kcy{R:Type}(h:AH)(b:ABlk)(k:Ref->AH->R):newK h b k=k (.new h.blks.size 0) (h.push b):=rfl
@[simp] theorem kc(k:IntKind)(n:Int):AV.asInt k (.int k n)=some n:=by simp[AV.asInt]
abbrev qcl{k:IntKind}{n:Int}:=kc k n
@[simp] theorem kcl(b:Bool):AV.asBool (.bool b)=some b:=rfl
@[simp] theorem asStr_str(s:ByteArray):AV.asStr (.str s)=some s:=rfl
@[simp] theorem asPtr_ptr(r:Option Ref):AV.asPtr (.ptr r)=some r:=rfl
@[simp] theorem asMap_map(r:Option Nat):AV.asMap (.map r)=some r:=rfl
@[simp] theorem asSl_slice(r:Option Ref)(n:Nat)(c:Cap):AV.asSl (.slice r n c)=some ⟨r,n,c⟩:=rfl
@[simp] theorem asSl_v(s:Sl):AV.asSl s.v=some s:=rfl
abbrev qck{s:Sl}:=asSl_v s
@[simp] theorem asAgg_agg(cs:List AV):AV.asAgg (.agg cs)=some cs:=rfl
@[simp] theorem asIface_iface(t:TypeId)(v:AV):AV.asIface (.iface t v)=some (t,v):=rfl
@[simp] theorem asTup0_tup:AV.asTup0 (.tup [])=some ():=rfl
@[simp] theorem kf0(a b:AV):AV.asTup2 (.tup [a,b])=some (a,b):=rfl
@[simp] theorem asTup3_tup(a b c:AV):AV.asTup3 (.tup [a,b,c])=some (a,b,c):=rfl
@[simp] theorem asTup4_tup(a b c d:AV):AV.asTup4 (.tup [a,b,c,d])=some (a,b,c,d):=rfl
attribute [simp] Ref.add_zero
@[simp] theorem Ref.add_new(i o n:Nat):(Ref.new i o).add n=.new i (o+n):=rfl
abbrev qj:=@Ref.add_new
@[simp] theorem AH.push_size(h:AH)(b:ABlk):(h.push b).blks.size=h.blks.size+1:=by simp[AH.push,AH.alloc]
def Ref.inn(h:AH):Ref->Prop
 | .old _=>True
 | .new i _=>i<h.blks.size
structure Grow(h h':AH):Prop where
 old:h'.old=h.old
 size:h.blks.size<=h'.blks.size
 blk:∀i,i<h.blks.size->h'.blks[i]?=h.blks[i]?
theorem Grow.refl(h:AH):Grow h h:=⟨rfl,qbn _,λ_ _=>rfl⟩
abbrev qk:=@Grow.refl
theorem Grow.trans{a b c:AH}(x:Grow a b)(y:Grow b c):Grow a c:=⟨y.old.trans x.old,qbo x.size y.size,λi C=>(y.blk i (qbp C x.size)).trans (x.blk i C)⟩
theorem Grow.push(h:AH)(b:ABlk):Grow h (h.push b):=⟨rfl,by simp,λi y=>by simp[AH.push,AH.alloc,Array.getElem?_push,Nat.ne_of_lt y]⟩
abbrev ql:=@Grow.push
theorem Grow.cell{h h':AH}(g:Grow h h'){r:Ref}(y:r.inn h):h'.cell r=h.cell r:=by
 cases r with
 | old a=>simp only[AH.cell,g.old]
 | new i o=>simp only[AH.cell,g.blk i y]
theorem AH.cell_inn{h:AH}{r:Ref}{v:AV}(y:h.cell r=some v):r.inn h:=by
 cases r with
 | old a=>trivial
 | new i o =>
  simp only[AH.cell]at y;rcases Nat.lt_or_ge i h.blks.size with C | F
  ·exact C
  ·rw[Array.getElem?_eq_none F]at y;cases y
theorem Grow.cell_some{h h':AH}(g:Grow h h'){r:Ref}{v:AV}(y:h.cell r=some v):h'.cell r=some v:=by rw[g.cell (AH.cell_inn y),y]
@[simp] theorem AH.cell_push(h:AH)(cs:List AV)(e:TypeId)(o:Nat):(h.push (.cells cs e)).cell (.new h.blks.size o)=cs[o]?:=by simp[AH.cell,AH.push,AH.alloc]
@[simp] theorem kej(r:Ref)(len:Nat)(i:Int)(size:Nat)(h0:0<=i)(y:i<(len:Int)):idx (some r) len i size=some (r.add (i.toNat*size)):=by simp[idx,h0,y]
theorem kcx{A:Type}{b:Bool}{x y z:A}(C:b=true->x=z)(F:b=false->y=z):cond b x y=z:=by
 cases b
 ·exact F rfl
 ·exact C rfl
theorem wrap64{n:Int}(y:-9223372036854775808<=n)(C:n<=9223372036854775807):IntKind.wrap .i64 n=n:=by simp[IntKind.wrap,IntKind.bits,IntKind.signed];omega
theorem wrapU(n:Int):IntKind.wrap .u64 n=n%18446744073709551616:=by simp[IntKind.wrap,IntKind.bits,IntKind.signed]
theorem k26(a b:Int):imin a b=min a b:=by unfold imin;by_cases h:b<a<;>simp[h]<;>omega
theorem ky7(a b:Int):imax a b=max a b:=by unfold imax;by_cases h:a<b<;>simp[h]<;>omega
end Go.Ab
namespace Go.Ab
def AH.upd(h:AH)(i:Nat)(cs:List AV)(e:TypeId):AH:={h with blks:=h.blks.setIfInBounds i (.cells cs e)}
@[reducible] def AH.has(h:AH)(i:Nat)(cs:List AV)(e:TypeId):Prop:=h.blks[i]?=some (.cells cs e)
theorem AH.has.lt{h:AH}{i:Nat}{cs:List AV}{e:TypeId}(b:h.has i cs e):i<h.blks.size:=(qca.1 b).1
theorem AH.has.cell{h:AH}{i:Nat}{cs:List AV}{e:TypeId}(b:h.has i cs e)(o:Nat):h.cell (.new i o)=cs[o]?:=by simp only[AH.cell,show h.blks[i]?=_ from b]
theorem AH.has.inn{h:AH}{i:Nat}{cs:List AV}{e:TypeId}(b:h.has i cs e)(o:Nat):(Ref.new i o).inn h:=b.lt
theorem AH.has_push(h:AH)(cs:List AV)(e:TypeId):(h.push (.cells cs e)).has h.blks.size cs e:=by simp[AH.has,AH.push,AH.alloc]
abbrev qm:=@AH.has_push
theorem Grow.has{h h':AH}(g:Grow h h'){i:Nat}{cs:List AV}{e:TypeId}(b:h.has i cs e):h'.has i cs e:=(g.blk i b.lt).trans b
theorem AH.has_upd{h:AH}{i:Nat}{cs:List AV}{e:TypeId}(b:h.has i cs e)(cs':List AV)(y:TypeId):(h.upd i cs' y).has i cs' y:=by simp[AH.has,AH.upd,b.lt]
abbrev qn:=@AH.has_upd
theorem AH.cell_upd{h:AH}{i:Nat}{cs:List AV}{e:TypeId}(b:h.has i cs e)(cs':List AV)(y:TypeId)(o:Nat):(h.upd i cs' y).cell (.new i o)=cs'[o]?:=(qn b cs' y).cell o
theorem Grow.upd{h h':AH}(g:Grow h h'){i:Nat}(C:h.blks.size<=i)(cs:List AV)(e:TypeId):Grow h (h'.upd i cs e) :=
 ⟨g.old,by simpa[AH.upd]using g.size,λj y=>by show(h'.blks.setIfInBounds i (.cells cs e))[j]?=_;rw[Array.getElem?_setIfInBounds_ne (by omega)];exact g.blk j y⟩
theorem AH.has.put{h:AH}{i:Nat}{cs:List AV}{e:TypeId}(b:h.has i cs e){o:Nat}{v:AV}(y:o<cs.length):h.put (.new i o) v=some (h.upd i (cs.set o v) e):=by simp only[AH.put,show h.blks[i]?=_ from b,if_pos y,AH.upd]
theorem AH.upd_upd(h:AH)(i:Nat)(cs cs':List AV)(e y:TypeId):(h.upd i cs e).upd i cs' y=h.upd i cs' y:=by simp[AH.upd]
theorem AH.has.puts{h:AH}{i:Nat}{e:TypeId}:∀{vs:List AV}{o:Nat}{cs:List AV},h.has i cs e->o+vs.length<=cs.length->h.puts (.new i o) vs=some (h.upd i (cs.take o++vs++cs.drop (o+vs.length)) e)
 | [],o,cs,b,_=>by
  simp only[AH.puts,List.append_nil,List.length_nil,Nat.add_zero,List.take_append_drop,qb8];have F:h.blks[i]?=some (.cells cs e):=b
  have:h.blks.setIfInBounds i (.cells cs e)=h.blks:=by
   apply Array.ext
   ·simp
   ·intro j H I;rw[Array.getElem_setIfInBounds (by simpa using H)];split
    ·rename_i y;subst y;have:=Array.getElem?_eq_getElem I;rw[this]at F;exact(Option.some.inj F).symm
    ·rfl
  cases h;simp only[AH.upd]at this|-;rw[this]
 | v::vs,o,cs,b,K=>by
  simp only[qbz]at K;simp only[AH.puts];rw[b.put (by omega),qbr,qj,AH.has.puts (qn b _ e) (by simp;omega),AH.upd_upd]
  have Q:(cs.set o v).take (o+1)=cs.take o++[v]:=by
   apply List.ext_getElem?;intro i;rw[List.getElem?_take];by_cases U:i<o
   ·rw[if_pos (by omega),List.getElem?_set_ne (by omega),List.getElem?_append_left (by simp;omega),List.getElem?_take,if_pos U]
   ·by_cases C:i=o
    ·subst C;rw[if_pos (by omega),List.getElem?_set_self (by omega),List.getElem?_append_right (by simp;omega)];simp[Nat.min_eq_left (show i<=cs.length by omega)]
    ·rw[if_neg (by omega),List.getElem?_eq_none (by simp;omega)]
  have V:(cs.set o v).drop (o+1+vs.length)=cs.drop (o+(vs.length+1)):=by rw[List.drop_set_of_lt (by omega)];congr 1;omega
  rw[Q,V];simp
theorem AH.has.puts_all{h:AH}{i:Nat}{e:TypeId}{cs vs:List AV}(b:h.has i cs e)(y:vs.length=cs.length):h.puts (.new i 0) vs=some (h.upd i vs e):=by rw[b.puts (by omega)];simp[y]
theorem Grow.same{h h':AH}(g:Grow h h'){i:Nat}{cs:List AV}{e:TypeId}(b:h.has i cs e)(o n:Nat):SameAt h h' (.new i o) n:=⟨λj _=>by rw[qj];exact g.cell (b.inn _),λ_=>g.blk i b.lt⟩
@[simp] theorem kxz{R:Type}{p:Prop}{x:Option R}(hp:p):whenK p x=x:=by unfold whenK;rw[if_pos hp]
def Sl.fit(s:Sl)(n:Nat):Prop:=match s.cap with
 | .is c=>s.len<=c
 | .opn z=>z=n
structure Cells(h:AH)(s:Sl)(n:Nat)(flat:List AV):Prop where
 fit:s.fit n
 len:s.len*n=flat.length
 get:∀(i:Nat)(v:AV),flat[i]?=some v->∃r,s.ref=some r/\h.cell (r.add i)=some v
theorem Cells.grow{h h':AH}(g:Grow h h'){s:Sl}{n:Nat}{flat:List AV}(c:Cells h s n flat):Cells h' s n flat :=
 ⟨c.fit,c.len,λi v hv=>by obtain⟨r,y,C⟩:=c.get i v hv;exact⟨r,y,g.cell_some C⟩⟩
theorem Cells.nil(h:AH)(n:Nat):Cells h ⟨none,0,.is 0⟩ n []:=⟨qbn _,by simp,λi v hv=>by simp at hv⟩
theorem Cells.of_has{h:AH}{i n m:Nat}{cs:List AV}{e:TypeId}(b:h.has i cs e)(y:m*n=cs.length):Cells h ⟨some (.new i 0),m,.is m⟩ n cs:=⟨qbn _,y,λj v hv=>⟨_,rfl,by rw[qj,Nat.zero_add,b.cell];exact hv⟩⟩
abbrev qo:=@Cells.of_has
theorem Cells.gets{h:AH}{s:Sl}{n:Nat}{flat:List AV}(c:Cells h s n flat):h.getsO s.ref (s.len*n)=some flat:=by
 rw[c.len];unfold AH.getsO;cases F:s.ref with
 | none =>
  have:flat=[]:=by
   cases flat with
   | nil=>rfl
   | cons v vs =>obtain⟨r,C,_⟩:=c.get 0 v rfl;rw[F]at C;cases C
  rw[this]
 | some r =>
  have key:∀(vs:List AV)(r:Ref),(∀i v,vs[i]?=some v->h.cell (r.add i)=some v)->h.gets r vs.length=some vs:=by
   intro vs
   induction vs with
   | nil=>intro r _;rfl
   | cons v vs ih =>
    intro r y;have h0:=y 0 v rfl;rw[Ref.add_zero]at h0
    have H:=ih (r.add 1) λi x I=>by rw[Ref.add_add,Nat.add_comm];exact y (i+1) x (by simpa using I)
    simp only[qbz,AH.gets,h0,qbr,H,Option.map_some]
  exact key flat r λi v hv=>by obtain⟨Q,C,K⟩:=c.get i v hv;rw[F]at C;cases C;exact K
def Own(h:AH)(s:Sl):Prop:=∀r,s.ref=some r->∃i o,r=.new i o/\h.blks.size<=i
theorem AH.cell_upd_ne{h:AH}{i:Nat}{cs:List AV}{e:TypeId}{r:Ref}(C:∀o,r≠.new i o):(h.upd i cs e).cell r=h.cell r:=by
 cases r with
 | old a=>rfl
 | new j o =>have:i≠j:=λy=>C o (by rw[y]);simp only[AH.cell,AH.upd];rw[Array.getElem?_setIfInBounds_ne this]
theorem Cells.upd{h h0:AH}{s:Sl}{n:Nat}{flat:List AV}(c:Cells h s n flat)(C:Own h0 s){i:Nat}(I:i<h0.blks.size)(cs:List AV)(e:TypeId):Cells (h.upd i cs e) s n flat :=
 ⟨c.fit,c.len,λk v hv=>by
  obtain⟨r,y,F⟩:=c.get k v hv;refine⟨r,y,?_⟩;obtain⟨j,o,rfl,K⟩:=C r y;rw[AH.cell_upd_ne]
  ·exact F
  ·intro Q H;simp only[qj,Ref.new.injEq]at H;omega⟩
theorem Own.of_le{h h0:AH}(g:Grow h h0){s:Sl}(o:Own h0 s):Own h s:=λr y=>by obtain⟨i,k,C,F⟩:=o r y;exact⟨i,k,C,qbo g.size F⟩
theorem Own.nil(h:AH){n:Nat}{c:Cap}:Own h ⟨none,n,c⟩:=λr y=>by cases y
abbrev qp:=@Own.nil
theorem Cells.cut{h:AH}{s:Sl}{m:Nat}{flat:List AV}(c:Cells h s m flat){l n:Nat}(V:l<=n)(W:n<=s.len):∃s',cutSl s (l:Int) (n:Int) m=some s'/\s'.len=n-l/\
  Cells h s' m ((flat.drop (l*m)).take ((n-l)*m))/\∀h0,Own h0 s->Own h0 s':=by
 have hm:n*m<=s.len*m:=Nat.mul_le_mul_right m W;have Z:l*m<=n*m:=Nat.mul_le_mul_right m V;have Q:(n-l)*m=n*m-l*m:=Nat.sub_mul _ _ _
 have cell:∀(ref:Option Ref),(∀r,s.ref=some r->n≠l->ref=some (r.add (l*m)))->∀(i:Nat)(v:AV),((flat.drop (l*m)).take ((n-l)*m))[i]?=some v->∃r,ref=some r/\h.cell (r.add i)=some v:=by
  intro ref y i v hv;rw[List.getElem?_take]at hv;split at hv
  ·rename_i hi;rw[List.getElem?_drop]at hv;obtain⟨r,H,e2⟩:=c.get _ v hv
   have C:n≠l:=by
    rintro rfl
    simp at hi
   exact⟨_,y r H C,by rw[Ref.add_add];exact e2⟩
  ·cases hv
 have len:((flat.drop (l*m)).take ((n-l)*m)).length=(n-l)*m:=by rw[qcc,List.length_drop,<- c.len];omega
 have own:∀(ref:Option Ref)(k:Nat)(F:Cap),(ref=s.ref\/ref=s.ref.map (·.add (l*m)))->∀h0,Own h0 s->Own h0 ⟨ref,k,F⟩:=by
  intro ref k F y h0 U r e;dsimp only at e;rcases y with rfl | rfl
  ·exact U r e
  ·rw[Option.map_eq_some_iff]at e;obtain⟨r0,H,rfl⟩:=e;obtain⟨i,o,rfl,h3⟩:=U r0 H;exact⟨i,_,rfl,h3⟩
 have I:=c.fit;unfold Sl.fit at I;unfold cutSl;split at I
 ·rename_i F K;simp only[K];rw[show(decide (0<=(l:Int)/\(l:Int)<=(n:Int)/\(n:Int)<=(F:Int)))=true from by simp;omega];refine⟨_,rfl,by simp,⟨?_,by rw[len];simp,cell _ ?_⟩,own _ _ _ ?_⟩
  ·show(n:Int).toNat-(l:Int).toNat<=F-(l:Int).toNat;simp;omega
  ·intro r y C;simp only[Int.toNat_natCast];rw[if_neg (by omega),y];rfl
  ·split
   ·exact .inl rfl
   ·exact .inr (by simp)
 ·rename_i z hz;simp only[hz];subst I;rw[show Nat.beq z z=true from Nat.beq_refl z,show(decide (0<=(l:Int)/\(l:Int)<=(n:Int)/\(n:Int)<=(s.len:Int)))=true from by simp;omega];refine⟨_,rfl,by simp,⟨?_,by rw[len];simp,cell _ ?_⟩,own _ _ _ (.inr (by simp))⟩
  ·exact rfl
  ·intro r y C;simp[y]
@[reducible] def u64(x:Nat):AV:=.int .u64 (x:Int)
structure Nats(h:AH)(s:Sl)(xs:List Nat):Prop where
 cells:Cells h s 1 (xs.map u64)
 lt:∀x∈xs,x<18446744073709551616
 short:xs.length<=9223372036854775807
theorem Nats.len{h:AH}{s:Sl}{xs:List Nat}(n:Nats h s xs):s.len=xs.length:=by
 have:=n.cells.len
 simpa using this
theorem Nats.grow{h h':AH}(g:Grow h h'){s:Sl}{xs:List Nat}(n:Nats h s xs):Nats h' s xs:=⟨n.cells.grow g,n.lt,n.short⟩
theorem Nats.nil(h:AH):Nats h ⟨none,0,.is 0⟩ []:=⟨Cells.nil h 1,by simp,by simp⟩
abbrev qq:=@Nats.nil
theorem Nats.upd{h h0:AH}{s:Sl}{xs:List Nat}(c:Nats h s xs)(y:Own h0 s){i:Nat}(C:i<h0.blks.size)(cs:List AV)(e:TypeId):Nats (h.upd i cs e) s xs:=⟨c.cells.upd y C cs e,c.lt,c.short⟩
theorem Nats.at{h:AH}{s:Sl}{xs:List Nat}(n:Nats h s xs){i:Nat}(y:i<xs.length):∃r,idx s.ref s.len (i:Int) 1=some r/\h.cell r=some (.int .u64 ((xs[i]:Nat):Int)):=by obtain⟨r,C,F⟩:=n.cells.get i (u64 xs[i]) (by simp[y]);refine⟨r.add i,?_,F⟩;rw[C,kej _ _ _ _ (by omega) (by rw[n.len];omega)];simp
theorem Nats.cut{h:AH}{s:Sl}{xs:List Nat}(c:Nats h s xs){l n:Nat}(y:l<=n)(C:n<=xs.length):∃s',cutSl s (l:Int) (n:Int) 1=some s'/\Nats h s' ((xs.drop l).take (n-l))/\∀h0,Own h0 s->Own h0 s':=by obtain⟨s',F,K,e3,H⟩:=c.cells.cut y (by rw[c.len];exact C);refine⟨s',F,⟨by simpa[List.map_drop,List.map_take]using e3,λx I=>c.lt x (List.mem_of_mem_drop (List.mem_of_mem_take I)),?_⟩,H⟩;have:=c.short;rw[qcc,List.length_drop];omega
theorem kb0{i:Nat}(h:i<=9223372036854775807):IntKind.wrap .i64 (i:Int)=(i:Int):=wrap64 (by omega) (by omega)
theorem ko{i:Nat}(h:i<9223372036854775807):IntKind.wrap .i64 ((i:Int)+1)=((i+1:Nat):Int):=by rw[wrap64 (by omega) (by omega)];omega
theorem kop{i:Nat}(h:i<9223372036854775807):IntKind.wrap .i64 (((i+1:Nat):Int)-1)=(i:Int):=by rw[wrap64 (by omega) (by omega)];omega
variable{P:Program}
theorem ktx{h:AH}{s:Sl}{elem:TypeId}{flat:List AV}(c:Cells h s (P.cellsOf elem) flat):kcc P elem s.v h=some (flat,s.len):=by show(h.getsO s.ref (s.len*P.cellsOf elem)).map (λcs=>(cs,s.len))=_;rw[c.gets];rfl
theorem km6{h:AH}{s:Sl}{c n m:Nat}{elem:TypeId}{cs old:List AV}(hs:s.cap=.is c)(H:c<s.len+n)(y:growOk P (s.len+n) elem m=true)(C:Cells h s m old) :
  kbi P s cs n elem m h=some (Sl.v ⟨some (.new h.blks.size 0),s.len+n,.opn m⟩,h.push (.cells (old++cs) elem)):=by
 unfold kbi;simp only[hs]
 rw[show Nat.ble (s.len+n) c=false from by
  cases F:Nat.ble (s.len+n) c with
  | false=>rfl
  | true=>have:=Nat.le_of_ble_eq_true F;omega]
 simp only[cond_false,y,cond_true,C.gets,qbr];rfl
theorem k05{h:AH}{s:Sl}{m:Nat}{elem:TypeId}{old:List AV}(hm:0<m)(y:Cells h s m old):∃s',kbi P s [] 0 elem m h=some (s'.v,h)/\Cells h s' m old/\∀h0,Own h0 s->Own h0 s':=by
 have F:=y.fit;unfold Sl.fit at F;unfold kbi;split at F
 ·rename_i c V;simp only[V];rw[show Nat.ble (s.len+0) c=true from Nat.ble_eq_true_of_le (by omega)];cases H:s.ref with
  | none =>
   refine⟨⟨none,0,.is 0⟩,rfl,?_,λh0 _=>qp h0⟩
   have W:old=[]:=by
    cases old with
    | nil=>rfl
    | cons v vs =>obtain⟨r,C,_⟩:=y.get 0 v rfl;rw[H]at C;cases C
   rw[W];exact Cells.nil h m
  | some r =>refine⟨⟨some r,s.len,.is c⟩,rfl,⟨F,y.len,λi v hv=>?_⟩,λh0 I K Q=>I K (by rw[H];exact Q)⟩;obtain⟨K,C,Z⟩:=y.get i v hv;rw[H]at C;exact⟨K,C,Z⟩
 ·rename_i z U;simp only[U];refine⟨s,by simp[Sl.v,U],y,λh0 I=>I⟩
theorem kxj{l c:Int}{elem:TypeId}{bytes n:Nat}{zs:List AV}{h:AH}(C:l=(n:Int))(F:c=(n:Int))(H:n*bytes<=70368744177664)(I:n<=70368744177664) :
  kbq l c elem bytes zs h=some (⟨some (.new h.blks.size 0),n,.is n⟩,h.push (.cells (repC zs n) elem)):=by
 subst C F;unfold kbq;have y:((n*bytes:Nat):Int)<=70368744177664:=by omega
 rw[show(decide (0<=(n:Int)/\(n:Int)<=(n:Int)/\(n:Int)<=(kbb:Int)/\(n:Int)*(bytes:Int)<=(kbb:Int)))=true from by rw[qbu];simp only[kbb];rw[Int.natCast_mul]at y;omega]
 simp;rfl
theorem kx1(v:AV)(n:Nat):repC [v] n=List.replicate n v:=by
 induction n with
 | zero=>rfl
 | succ n ih=>simp[repC,ih,List.replicate_succ]
end Go.Ab
namespace Go.Ab
def Runs(x:Option (AV×AH))(P:AV->AH->Prop):Prop:=∃v h',x=some (v,h')/\P v h'
structure Upd(h h':AH)(i:Nat):Prop where
 old:h'.old=h.old
 size:h.blks.size<=h'.blks.size
 blk:∀j,j≠i->j<h.blks.size->h'.blks[j]?=h.blks[j]?
theorem AH.upd_Upd(h:AH)(i:Nat)(cs:List AV)(e:TypeId):Upd h (h.upd i cs e) i :=
 ⟨rfl,by simp[AH.upd],λj y _=>by show(h.blks.setIfInBounds i (.cells cs e))[j]?=_;rw[Array.getElem?_setIfInBounds_ne (λx=>y x.symm)]⟩
theorem Grow.updr{h y C:AH}(g:Grow h y){i:Nat}(H:h.blks.size<=i)(u:Upd y C i):Grow h C:=⟨u.old.trans g.old,qbo g.size u.size,λj F=>(u.blk j (by omega) (qbp F g.size)).trans (g.blk j F)⟩
theorem AH.has.updr{C F:AH}{j:Nat}{cs:List AV}{e:TypeId}(b:C.has j cs e){i:Nat}(y:j≠i)(u:Upd C F i):F.has j cs e:=(u.blk j y b.lt).trans b
abbrev qr:=@AH.has.updr
theorem Upd.trans{y C F:AH}{i:Nat}(u:Upd y C i)(w:Upd C F i):Upd y F i:=⟨w.old.trans u.old,qbo u.size w.size,λj H I=>(w.blk j H (qbp I u.size)).trans (u.blk j H I)⟩
theorem Grow.toUpd{y C:AH}(g:Grow y C)(i:Nat):Upd y C i:=⟨g.old,g.size,λj _ F=>g.blk j F⟩
theorem Upd.cell{C F:AH}{i:Nat}(u:Upd C F i){r:Ref}{v:AV}(y:C.cell r=some v)(H:∀o,r≠.new i o):F.cell r=some v:=by
 have I:=AH.cell_inn y;cases r with
 | old a=>simpa only[AH.cell,u.old]using y
 | new j o=>simpa only[AH.cell,u.blk j (λK=>H o (by rw[K])) I]using y
theorem Cells.updr{h0 y C:AH}{s:Sl}{n:Nat}{flat:List AV}(c:Cells y s n flat)(H:Own h0 s){i:Nat}(Q:i<h0.blks.size)(u:Upd y C i):Cells C s n flat :=
 ⟨c.fit,c.len,λk v hv=>by obtain⟨r,F,I⟩:=c.get k v hv;refine⟨r,F,?_⟩;obtain⟨j,o,rfl,U⟩:=H r F;refine u.cell I λV K=>?_;simp only[qj,Ref.new.injEq]at K;omega⟩
theorem Nats.updr{h0 y C:AH}{s:Sl}{xs:List Nat}(c:Nats y s xs)(F:Own h0 s){i:Nat}(H:i<h0.blks.size)(u:Upd y C i):Nats C s xs:=⟨c.cells.updr F H u,c.lt,c.short⟩
section
variable{P:AV->AH->Prop}
theorem Runs.ret{v:AV}{h:AH}(p:P v h):Runs (some (v,h)) P:=⟨v,h,rfl,p⟩
abbrev qu:=@Runs.ret
theorem Runs.imp{x:Option (AV×AH)}{Q:AV->AH->Prop}(r:Runs x Q)(f:∀v h,Q v h->P v h):Runs x P:=by obtain⟨v,h',e,q⟩:=r;exact⟨v,h',e,f v h' q⟩
theorem Runs.step{A:Type}{o:Option A}{a:A}{K:A->Option (AV×AH)}(e:o=some a)(H:Runs (K a) P):Runs (o.bind K) P:=by subst e;exact H
abbrev qw:=@Runs.step
theorem Runs.new{h:AH}{cs:List AV}{e:TypeId}{K:Ref->AH->Option (AV×AH)}(H:∀h',h'.has h.blks.size cs e->Grow h h'->Runs (K (.new h.blks.size 0) h') P):Runs (newK h (.cells cs e) K) P:=H _ (qm h cs e) (ql h _)
abbrev qx:=@Runs.new
theorem Runs.puts{h:AH}{i:Nat}{cs vs:List AV}{e:TypeId}{K:AH->Option (AV×AH)}(b:h.has i cs e)(y:vs.length=cs.length)(H:∀h',h'.has i vs e->Upd h h' i->Runs (K h') P):Runs ((h.puts (.new i 0) vs).bind K) P:=by rw[b.puts_all y];exact H _ (qn b vs e) (AH.upd_Upd h i vs e)
abbrev qy:=@Runs.puts
theorem Runs.ifT{c:Bool}{a b:Option (AV×AH)}(e:c=true)(H:Runs a P):Runs (cond c a b) P:=by subst e;exact H
abbrev qz:=@Runs.ifT
theorem Runs.ifF{c:Bool}{a b:Option (AV×AH)}(e:c=false)(H:Runs b P):Runs (cond c a b) P:=by subst e;exact H
abbrev q0:=@Runs.ifF
theorem Runs.cond{c:Bool}{a b:Option (AV×AH)}(y:c=true->Runs a P)(C:c=false->Runs b P):Runs (cond c a b) P:=by
 cases c
 ·exact C rfl
 ·exact y rfl
abbrev qba:=@Runs.cond
theorem Runs.when{p:Prop}{x:Option (AV×AH)}(hp:p)(H:Runs x P):Runs (whenK p x) P:=by rw[kxz hp];exact H
abbrev qbb:=@Runs.when
end
theorem AH.has.rd{A:Type}{f:AV->Option A}{h:AH}{i:Nat}{cs:List AV}{e:TypeId}(b:h.has i cs e)(k:Nat){v:AV}{x:A}(hk:cs[k]?=some v)(y:f v=some x):(h.cell ((Ref.new i 0).add k)).bind f=some x:=by rw[qj,Nat.zero_add,b.cell,hk];exact y
abbrev qbc:=@AH.has.rd
theorem AH.has.rd0{A:Type}{f:AV->Option A}{h:AH}{i:Nat}{cs:List AV}{e:TypeId}(b:h.has i cs e){v:AV}{x:A}(hk:cs[0]?=some v)(y:f v=some x):(h.cell (Ref.new i 0)).bind f=some x:=by rw[b.cell,hk];exact y
abbrev qbd:=@AH.has.rd0
theorem seen{A:Type}{f:AV->Option A}{v:AV}{x:A}(y:f v=some x):(some v).bind f=some x:=y
theorem seenAt{A:Type}{f:AV->Option A}{cs:List AV}{k:Nat}{v:AV}{x:A}(hk:cs[k]?=some v)(y:f v=some x):(cs[k]?).bind f=some x:=by rw[hk];exact y
theorem Nats.of_has{h:AH}{i:Nat}{e:TypeId}{xs:List Nat}(b:h.has i (xs.map u64) e)(y:∀x∈xs,x<18446744073709551616)(hs:xs.length<=9223372036854775807):Nats h ⟨some (.new i 0),xs.length,.is xs.length⟩ xs:=⟨qo b (by simp),y,hs⟩
theorem Own.box{h h':AH}(g:Grow h h'){n:Nat}{c:Cap}:Own h ⟨some (.new h'.blks.size 0),n,c⟩:=λr y=>by
 cases y;exact⟨_,_,rfl,g.size⟩
theorem condT{A:Type}{c:Bool}{a b:A}(e:c=true):cond c a b=a:=by subst e;rfl
theorem condF{A:Type}{c:Bool}{a b:A}(e:c=false):cond c a b=b:=by subst e;rfl
end Go.Ab
set_option maxRecDepth 10000
namespace Go.Ab
inductive Iter{S R:Type}(f:S->Option (S⊕R)):S->R->Prop
 | done {s:S} {r:R}:f s=some (.inr r)->Iter f s r
 | next {s s':S} {r:R}:f s=some (.inl s')->Iter f s' r->Iter f s r
theorem qcn{h:AH}{i:Nat}{cs:List AV}{e:TypeId}{n:Int}{K:Int->Option (AV×AH)}{P:AV->AH->Prop}(b:h.has i cs e)(k:Nat)(a:cs[k]?=some (.int .i64 n))(H:Runs (K n) P):Runs (((h.cell ((Ref.new i 0).add k)).bind (AV.asInt .i64)).bind K) P:=qw (b.rd k a (kc _ _)) H
theorem qcm{h:AH}{i:Nat}{cs:List AV}{e:TypeId}{n:Sl}{K:Sl->Option (AV×AH)}{P:AV->AH->Prop}(b:h.has i cs e)(k:Nat)(a:cs[k]?=some n.v)(H:Runs (K n) P):Runs (((h.cell ((Ref.new i 0).add k)).bind AV.asSl).bind K) P:=qw (b.rd k a (asSl_v _)) H
def GoodS{S R:Type}(A:S->Prop)(r:R):S⊕R->Prop
 | .inl s=>A s
 | .inr y=>y=r
theorem Iter.ind{S R:Type}{f:S->Option (S⊕R)}{A:S->Prop}{r:R}(H:∀s o,f s=some o->GoodS A r o->A s){s:S}(y:Iter f s r):A s:=by
 induction y with
 | done e=>exact H _ _ e rfl
 | next e _ ih=>exact H _ _ e (ih H)
abbrev qbe:=@Iter.ind
theorem Iter.det{S R:Type}{f:S->Option (S⊕R)}{s:S}{r C:R}(a:Iter f s r)(b:Iter f s C):r=C:=by
 induction a with
 | done e =>
  cases b with
  | done y=>rw[e]at y;cases y;rfl
  | next y _=>rw[e]at y;cases y
 | next e _ ih =>
  cases b with
  | done y=>rw[e]at y;cases y
  | next y b'=>rw[e]at y;cases y;exact ih b'
noncomputable def runP{S R:Type}(f:S->Option (S⊕R))(s:S):Option R:=by
 classical
 exact if h:∃r,Iter f s r then some h.choose else none
theorem kd5{S R:Type}{f:S->Option (S⊕R)}{s:S}{r:R}(q:runP f s=some r):Iter f s r:=by
 unfold runP at q;split at q
 ·rename_i h;cases q;exact h.choose_spec
 ·cases q
theorem kc4{S R:Type}{f:S->Option (S⊕R)}{s:S}{r:R}(y:Iter f s r):runP f s=some r:=by unfold runP;have h:∃r,Iter f s r:=⟨r,y⟩;rw[dif_pos h];rw[h.choose_spec.det y]
def atI(xs:List Nat)(i:Int):Option Nat:=if 0<=i then xs[i.toNat]? else none
def inI(n:Nat)(i:Int):Option Nat:=if 0<=i/\i<(n:Int)then some i.toNat else none
def mkI(l c:Int):Option Nat:=if l=c/\0<=l/\l<=8796093022208 then some l.toNat else none
def u64P(v:Int):Option Nat:=if 0<=v/\v<18446744073709551616 then some v.toNat else none
def add64P(x y c:Int):Option (Int×Int):=if 0<=x/\0<=y/\0<=c/\c<=1 then some ((x+y+c)%18446744073709551616,(x+y+c)/18446744073709551616)else none
noncomputable def need(p:Prop):Option (PLift p):=by
 classical
 exact if h:p then some ⟨h⟩else none
theorem ky{p:Prop}(h:p):need p=some ⟨h⟩:=by unfold need;rw[dif_pos h]
theorem kbhv{xs:List Nat}{i:Int}{y:Nat}(q:atI xs i=some y):∃j:Nat,i=(j:Int)/\∃H:j<xs.length,xs[j]=y:=by
 unfold atI at q;split at q
 ·rename_i h;obtain⟨C,F⟩:=qcb.1 q;exact⟨i.toNat,by omega,C,F⟩
 ·cases q
theorem kt4{n:Nat}{i:Int}{j:Nat}(q:inI n i=some j):i=(j:Int)/\j<n:=by
 unfold inI at q;split at q
 ·cases q;omega
 ·cases q
theorem kbey{l c:Int}{n:Nat}(q:mkI l c=some n):l=(n:Int)/\c=(n:Int)/\n<=8796093022208:=by
 unfold mkI at q;split at q
 ·cases q;omega
 ·cases q
theorem kuh{v:Int}{n:Nat}(q:u64P v=some n):v=(n:Int)/\n<18446744073709551616:=by
 unfold u64P at q;split at q
 ·cases q;omega
 ·cases q
theorem kb4{xs:List Nat}{i:Nat}(h:i<xs.length):atI xs (i:Int)=some xs[i]:=by unfold atI;rw[if_pos (by omega),Int.toNat_natCast,qb1 h]
theorem kx{n i:Nat}(h:i<n):inI n (i:Int)=some i:=by unfold inI;rw[if_pos (by omega),Int.toNat_natCast]
theorem kdw{n:Nat}(h:n<=8796093022208):mkI (n:Int) (n:Int)=some n:=by unfold mkI;rw[if_pos (by omega),Int.toNat_natCast]
theorem kbm{n:Nat}(h:n<18446744073709551616):u64P (n:Int)=some n:=by unfold u64P;rw[if_pos (by omega),Int.toNat_natCast]
theorem kgu(x y:Nat){c:Nat}(h:c<=1):add64P (x:Int) (y:Int) (c:Int)=some ((((x+y+c)%18446744073709551616:Nat):Int),(((x+y+c)/18446744073709551616:Nat):Int)):=by unfold add64P;rw[if_pos (by omega)];rfl
theorem ke2{x y c:Int}{p:Int×Int}{h:AH}{C F H:IntKind}(q:add64P x y c=some p):((prim "math/bits.Add64" [.int C x,.int F y,.int H c]).map λv=>(v,h))=some (.tup [.int .u64 p.1,.int .u64 p.2],h):=by
 unfold add64P at q;split at q
 ·rename_i I;cases q;show(cond (decide (0<=x/\0<=y/\0<=c/\c<=1)) (some (AV.tup [.int .u64 ((x+y+c)%18446744073709551616),.int .u64 ((x+y+c)/18446744073709551616)])) none).map _=_;rw[qbv I];rfl
 ·cases q
theorem Nats.atI{h:AH}{s:Sl}{xs:List Nat}(n:Nats h s xs){i:Int}{y:Nat}(q:Go.Ab.atI xs i=some y):∃r,idx s.ref xs.length i 1=some r/\h.cell r=some (.int .u64 (y:Int)):=by obtain⟨j,rfl,C,rfl⟩:=kbhv q;rw[<- n.len];exact n.at C
theorem rdc{A:Type}{f:AV->Option A}{h:AH}{r:Ref}{v:AV}{x:A}(y:h.cell r=some v)(C:f v=some x):(h.cell r).bind f=some x:=by rw[y];exact C
structure Vec(h:AH)(s:Sl)(i:Nat)(xs:List Nat):Prop where
 is:s=⟨some (.new i 0),xs.length,.is xs.length⟩
 has:∃e,h.has i (xs.map u64) e
 lt:∀x∈xs,x<18446744073709551616
 short:xs.length<=9223372036854775807
theorem Vec.len{h:AH}{s:Sl}{i:Nat}{xs:List Nat}(v:Vec h s i xs):s.len=xs.length:=by rw[v.is]
theorem Vec.nats{h:AH}{s:Sl}{i:Nat}{xs:List Nat}(v:Vec h s i xs):Nats h s xs:=by obtain⟨e,b⟩:=v.has;rw[v.is];exact Nats.of_has b v.lt v.short
theorem Vec.inn{h:AH}{s:Sl}{i:Nat}{xs:List Nat}(v:Vec h s i xs):i<h.blks.size:=v.has.choose_spec.lt
theorem Vec.grow{h h':AH}(g:Grow h h'){s:Sl}{i:Nat}{xs:List Nat}(v:Vec h s i xs):Vec h' s i xs:=⟨v.is,v.has.imp λ_ b=>g.has b,v.lt,v.short⟩
theorem Vec.updr{h h':AH}{s:Sl}{i:Nat}{xs:List Nat}(v:Vec h s i xs){j:Nat}(y:i≠j)(u:Upd h h' j):Vec h' s i xs:=⟨v.is,v.has.imp λ_ b=>b.updr y u,v.lt,v.short⟩
theorem Vec.own{h h0:AH}{s:Sl}{i:Nat}{xs:List Nat}(v:Vec h s i xs)(C:h0.blks.size<=i):Own h0 s:=λr y=>by rw[v.is]at y;cases y;exact⟨_,_,rfl,C⟩
theorem Vec.idx{h:AH}{s:Sl}{i:Nat}{xs:List Nat}(v:Vec h s i xs){n:Nat}(y:xs.length=n){k:Int}{j:Nat}(q:inI n k=some j):Go.Ab.idx s.ref n k 1=some (.new i j):=by subst y;obtain⟨rfl,C⟩:=kt4 q;rw[v.is,kej _ _ _ _ (by omega) (by omega)];simp
theorem Vec.rd{A:Type}{f:AV->Option A}{h:AH}{s:Sl}{i:Nat}{xs:List Nat}(v:Vec h s i xs){n:Nat}(C:xs.length=n){j:Nat}{k:Int}(q:inI n k=some j){x:A}(F:f (.int .u64 ((xs.getD j 0:Nat):Int))=some x):(h.cell (.new i j)).bind f=some x:=by
 subst C;obtain⟨e,b⟩:=v.has;have y:=(kt4 q).2;rw[b.cell,List.getElem?_map,qb1 y]
 simpa[List.getD,y]using F
section
variable{P:AV->AH->Prop}
theorem Runs.vput{h:AH}{s:Sl}{i:Nat}{xs:List Nat}{j w:Nat}{k x:Int}{K:AH->Option (AV×AH)}(v:Vec h s i xs){n:Nat}(I:xs.length=n)(q:inI n k=some j)(z:u64P x=some w)
  (H:∀h',Vec h' s i (xs.set j w)->Upd h h' i->Runs (K h') P):Runs ((h.puts (.new i j) [.int .u64 x]).bind K) P:=by
 subst I;obtain⟨e,b⟩:=v.has;have Q:=(kt4 q).2;obtain⟨rfl,U⟩:=kuh z;rw[b.puts (by simp;omega)]
 have V:(xs.map u64).take j++[AV.int .u64 (w:Int)]++(xs.map u64).drop (j+[AV.int .u64 (w:Int)].length)=(xs.set j w).map u64:=by
  apply List.ext_getElem?;intro t;rw[List.map_set];simp only[List.length_singleton];rcases Nat.lt_trichotomy t j with C | C | C
  ·rw[List.append_assoc,List.getElem?_append_left (by simp;omega),List.getElem?_take,if_pos C,List.getElem?_set_ne (by omega)]
  ·subst C;rw[List.append_assoc,List.getElem?_append_right (by simp;omega),List.getElem?_set_self (by simp;omega)];simp[Nat.min_eq_left (Nat.le_of_lt Q)]
  ·rw[List.getElem?_append_right (by simp;omega),List.getElem?_drop,List.getElem?_set_ne (by omega)]
   have:j+1+(t-(List.take j (xs.map u64)++[AV.int .u64 (w:Int)]).length)=t:=by rw[qbx,qcc,qby,List.length_singleton];omega
   rw[this]
 rw[V];refine H _ ⟨?_,⟨e,qn b _ _⟩,?_,?_⟩ (AH.upd_Upd h i _ e)
 ·rw[qb4];exact v.is
 ·intro y W;rcases List.mem_or_eq_of_mem_set W with F | F
  ·exact v.lt y F
  ·rw[F];exact U
 ·rw[qb4];exact v.short
abbrev qbf:=@Runs.vput
theorem Runs.mk{h:AH}{l c:Int}{elem:TypeId}{bytes n:Nat}{K:Sl×AH->Option (AV×AH)}(q:mkI l c=some n)(y:bytes=8)
  (H:∀s h',Vec h' s h.blks.size (List.replicate n 0)->Grow h h'->Runs (K (s,h')) P):Runs ((kbq l c elem bytes [.int .u64 0] h).bind K) P:=by
 obtain⟨C,F,Q⟩:=kbey q;subst y;rw[kxj C F (by omega) (by omega),kx1];refine H _ _ ⟨?_,⟨elem,?_⟩,?_,?_⟩ (ql h _)
 ·simp
 ·have:=qm h (List.replicate n (AV.int .u64 0)) elem;rw[List.map_replicate];exact this
 ·intro x I;rw[List.eq_of_mem_replicate I];omega
 ·simp;omega
end
def InB(s:Sl)(i:Nat):Prop:=∀r,s.ref=some r->∃o,r=.new i o
theorem Vec.inB{h:AH}{s:Sl}{i:Nat}{xs:List Nat}(v:Vec h s i xs):InB s i:=λr y=>by rw[v.is]at y;cases y;exact⟨_,rfl⟩
theorem InB.own{s:Sl}{i:Nat}(b:InB s i){h:AH}(y:h.blks.size<=i):Own h s:=λr C=>by obtain⟨o,rfl⟩:=b r C;exact⟨i,o,rfl,y⟩
theorem InB.cut{s s':Sl}{l n:Int}{m i:Nat}(b:InB s i)(e:cutSl s l n m=some s'):InB s' i:=λr F=>by
 have key:s'.ref=s.ref\/∃d,s'.ref=s.ref.map (·.add d):=by
  unfold cutSl at e;split at e
  ·cases y:decide (0<=l/\l<=n/\n<=((_:Nat):Int))with
   | true =>
    rw[y,cond_true]at e;cases e;dsimp only;split
    ·exact .inl rfl
    ·exact .inr ⟨_,rfl⟩
   | false=>rw[y,cond_false]at e;cases e
  ·cases y:decide (0<=l/\l<=n/\n<=(s.len:Int))with
   | true =>
    rename_i z _;cases C:Nat.beq z m with
    | true =>
     rw[C,y,cond_true,cond_true]at e;cases e;exact .inr ⟨_,rfl⟩
    | false=>rw[C]at e;cases e
   | false =>
    rename_i z _;cases C:Nat.beq z m with
    | true=>rw[C,y,cond_true,cond_false]at e;cases e
    | false=>rw[C]at e;cases e
 rcases key with k | ⟨d,k⟩
 ·exact b r (k▸F)
 ·rw[k,Option.map_eq_some_iff]at F;obtain⟨r0,H,rfl⟩:=F;obtain⟨o,rfl⟩:=b r0 H;exact⟨_,rfl⟩
structure Win(s:Sl)(i lo n:Nat):Prop where
 ref:s.ref=some (.new i lo)
 len:s.len=n
 fit:s.fit 1
def cutP(len:Nat)(lo y:Int):Option (Nat×Nat):=if 0<=lo/\lo<y/\y<=(len:Int)then some (lo.toNat,(y-lo).toNat)else none
theorem koj{len:Nat}{lo y:Int}{p:Nat×Nat}(q:cutP len lo y=some p):lo=(p.1:Int)/\y=((p.1+p.2:Nat):Int)/\0<p.2/\p.1+p.2<=len:=by
 unfold cutP at q;split at q
 ·cases q;dsimp only;omega
 ·cases q
theorem kv4{len lo n:Nat}(h0:0<n)(h:lo+n<=len):cutP len (lo:Int) ((lo+n:Nat):Int)=some (lo,n):=by unfold cutP;rw[if_pos (by omega),Int.toNat_natCast,show((lo+n:Nat):Int)-(lo:Int)=(n:Int)from by omega,Int.toNat_natCast]
theorem Vec.cutW{h:AH}{s:Sl}{i:Nat}{xs:List Nat}(v:Vec h s i xs){n:Nat}(C:xs.length=n){lo y:Int}{p:Nat×Nat}(q:cutP n lo y=some p):∃s',cutSl s lo y 1=some s'/\Win s' i p.1 p.2:=by
 subst C;obtain⟨rfl,rfl,F,H⟩:=koj q;rw[v.is];unfold cutSl;dsimp only;rw[show(decide (0<=(p.1:Int)/\(p.1:Int)<=((p.1+p.2:Nat):Int)/\((p.1+p.2:Nat):Int)<=(xs.length:Int)))=true from by rw[qbu];omega,cond_true];refine⟨_,rfl,?_,?_,?_⟩
 ·simp only[Int.toNat_natCast];rw[if_neg (by omega)];simp
 ·simp only[Int.toNat_natCast];omega
 ·show((p.1+p.2:Nat):Int).toNat-(p.1:Int).toNat<=xs.length-(p.1:Int).toNat;simp only[Int.toNat_natCast];omega
theorem Win.nats{h:AH}{s t:Sl}{i lo n:Nat}{xs:List Nat}(w:Win s i lo n)(v:Vec h t i xs)(H:lo+n<=xs.length):Nats h s ((xs.drop lo).take n):=by
 have F:((xs.drop lo).take n).length=n:=by simp;omega
 obtain⟨e,b⟩:=v.has;refine⟨⟨w.fit,by rw[w.len,qby,F,Nat.mul_one],λk y C=>⟨_,w.ref,?_⟩⟩,λy C=>v.lt y (List.mem_of_mem_drop (List.mem_of_mem_take C)),by have:=v.short;omega⟩;rw[qj,b.cell];rw[List.getElem?_map]at C|-;rw[List.getElem?_take]at C;split at C
 ·rwa[List.getElem?_drop]at C
 ·cases C
def setW(xs:List Nat)(lo n:Nat)(ys:List Nat):Option (List Nat):=if lo+n<=xs.length/\ys.length=n then some (xs.take lo++ys++xs.drop (lo+n))else none
theorem ky4{xs ys zs:List Nat}{lo n:Nat}(q:setW xs lo n ys=some zs):zs.length=xs.length:=by
 unfold setW at q;split at q
 ·cases q;simp;omega
 ·cases q
theorem Vec.copyW{h:AH}{s d t:Sl}{i lo n:Nat}{xs ys zs:List Nat}(v:Vec h t i xs)(w:Win d i lo n)(m:Nats h s ys)(q:setW xs lo n ys=some zs):∃h',copyH s d 1 h=some h'/\Vec h' t i zs/\Upd h h' i:=by
 have I:=ky4 q;unfold setW at q;split at q
 ·rename_i F;cases q;have H:=m.cells.gets;rw[m.len]at H;obtain⟨e,b⟩:=v.has;unfold copyH;rw[w.ref,m.len,w.len,F.2,Nat.min_self];cases hs:s.ref with
  | none =>
   have:ys=[]:=by
    cases ys with
    | nil=>rfl
    | cons y ys =>obtain⟨r,e,_⟩:=m.cells.get 0 _ rfl;rw[hs]at e;cases e
   subst this;have:n=0:=F.2.symm;subst this;exact⟨h,rfl,by simpa using v,(qk h).toUpd i⟩
  | some r =>
   rw[hs,F.2]at H;simp only[AH.getsO]at H;dsimp only;rw[H,qbr,b.puts (by simp;omega)]
   have K:(xs.map u64).take lo++ys.map u64++(xs.map u64).drop (lo+(ys.map u64).length)=(xs.take lo++ys++xs.drop (lo+n)).map u64:=by simp[List.map_take,List.map_drop,F.2]
   rw[K];refine⟨_,rfl,⟨?_,⟨e,qn b _ _⟩,?_,?_⟩,AH.upd_Upd h i _ e⟩
   ·rw[I];exact v.is
   ·intro z C;rcases qb2.1 C with C | C
    ·rcases qb2.1 C with C | C
     ·exact v.lt z (List.mem_of_mem_take C)
     ·exact m.lt z C
    ·exact v.lt z (List.mem_of_mem_drop C)
   ·rw[I];exact v.short
 ·cases q
def Av(s:Sl)(i:Nat)(xs:List Nat):Prop:=xs=[]\/∀o,s.ref≠some (.new i o)
theorem Av.of_base{h0:AH}{s:Sl}{xs:List Nat}(n:Nats h0 s xs){i:Nat}(K:h0.blks.size<=i):Av s i xs:=by
 by_cases y:xs=[]
 ·exact .inl y
 ·right
  intro o F;have H:0<xs.length:=by cases xs;exact absurd rfl y;simp
  obtain⟨r,C,I⟩:=n.cells.get 0 _ (by rw[List.getElem?_map,qb1 H];rfl);rw[F]at C;cases C;have:=AH.cell_inn I;simp only[qj,Ref.inn]at this;omega
abbrev qbg:=@Av.of_base
theorem Av.of_own{y:AH}{s:Sl}{xs:List Nat}(o:Own y s){i:Nat}(C:i<y.blks.size):Av s i xs:=.inr λk hk=>by obtain⟨j,F,e,H⟩:=o _ hk;cases e;omega
abbrev qbh:=@Av.of_own
theorem Av.of_in{s:Sl}{j:Nat}{xs:List Nat}(b:InB s j){i:Nat}(y:j≠i):Av s i xs:=.inr λk hk=>by obtain⟨o,e⟩:=b _ hk;cases e;exact y rfl
theorem Av.nil(s:Sl)(i:Nat):Av s i []:=.inl rfl
theorem Nats.upda{C F:AH}{s:Sl}{xs:List Nat}(c:Nats C s xs){i:Nat}(av:Av s i xs)(u:Upd C F i):Nats F s xs :=
 ⟨⟨c.cells.fit,c.cells.len,λk v hv=>by
  obtain⟨r,H,I⟩:=c.cells.get k v hv;refine⟨r,H,u.cell I λK y=>?_⟩;rcases av with rfl | av
  ·simp at hv
  ·cases r with
   | old a=>cases y
   | new j o =>simp only[qj,Ref.new.injEq]at y;exact av o (by rw[H,y.1])⟩,c.lt,c.short⟩
end Go.Ab
namespace Go.Ab
theorem kjg{h h':AH}{i:Nat}{cs:List AV}{e:TypeId}(b:h.has i cs e)(b':h'.has i cs e)(o n:Nat):SameAt h h' (.new i o) n:=⟨λj _=>by rw[qj,b.cell,b'.cell],λ_=>b'.trans b.symm⟩
section
variable{P:AV->AH->Prop}{K:AV×AH->Option (AV×AH)}
theorem Runs.retB{v:AV}{h:AH}(H:Runs (K (v,h)) P):Runs ((some (v,h)).bind K) P:=H
theorem Runs.stepB{A:Type}{o:Option A}{a:A}{f:A->Option (AV×AH)}(e:o=some a)(H:Runs ((f a).bind K) P):Runs ((o.bind f).bind K) P:=by subst e;exact H
abbrev qbi:=@Runs.stepB
theorem Runs.newB{h:AH}{cs:List AV}{e:TypeId}{f:Ref->AH->Option (AV×AH)}(H:∀h',h'.has h.blks.size cs e->Grow h h'->Runs ((f (.new h.blks.size 0) h').bind K) P):Runs ((newK h (.cells cs e) f).bind K) P:=H _ (qm h cs e) (ql h _)
theorem Runs.putsB{h:AH}{i:Nat}{cs vs:List AV}{e:TypeId}{f:AH->Option (AV×AH)}(b:h.has i cs e)(y:vs.length=cs.length)(H:∀h',h'.has i vs e->Upd h h' i->Runs ((f h').bind K) P):Runs (((h.puts (.new i 0) vs).bind f).bind K) P:=by rw[b.puts_all y];exact H _ (qn b vs e) (AH.upd_Upd h i vs e)
abbrev qbj:=@Runs.putsB
theorem Runs.ifTB{c:Bool}{a b:Option (AV×AH)}(e:c=true)(H:Runs (a.bind K) P):Runs ((_root_.cond c a b).bind K) P:=by subst e;exact H
theorem Runs.whenB{p:Prop}{x:Option (AV×AH)}(hp:p)(H:Runs (x.bind K) P):Runs ((whenK p x).bind K) P:=by rw[kxz hp];exact H
end
end Go.Ab
namespace Go.Num
def num(b:Nat):List Nat->Nat
 | []=>0
 | x::xs=>x+b*num b xs
def digs(b n:Nat):List Nat:=if h:b<=1\/n=0 then []else n%b::digs b (n/b)
termination_by n
decreasing_by
 have:n≠0:=λe=>h (.inr e);have:1<b:=by omega
 exact Nat.div_lt_self (by omega) this
theorem kbu(b:Nat):digs b 0=[]:=by rw[digs];simp
theorem ke9{b n:Nat}(y:2<=b)(C:n≠0):digs b n=n%b::digs b (n/b):=by rw[digs,dif_neg (by omega)]
theorem kg{b:Nat}(y:2<=b)(n:Nat):num b (digs b n)=n:=by
 induction n using Nat.strongRecOn with
 | ind n ih =>
  by_cases C:n=0
  ·subst C;simp[kbu,num]
  ·rw[ke9 y C,num,ih _ (Nat.div_lt_self (by omega) y),Nat.mod_add_div]
theorem kcf{b:Nat}(C:2<=b)(n:Nat):∀x∈digs b n,x<b:=by
 induction n using Nat.strongRecOn with
 | ind n ih =>
  by_cases F:n=0
  ·subst F;simp[kbu]
  ·rw[ke9 C F];intro x y;rcases List.mem_cons.1 y with rfl | y
   ·exact Nat.mod_lt _ (by omega)
   ·exact ih _ (Nat.div_lt_self (by omega) C) x y
theorem kfh(b:Nat)(xs ys:List Nat):num b (xs++ys)=num b xs+b^xs.length*num b ys:=by
 induction xs with
 | nil=>simp[num]
 | cons x xs ih =>simp only[List.cons_append,num,ih,List.length_cons,Nat.pow_succ,Nat.mul_add];rw[Nat.mul_comm (b^xs.length) b,Nat.mul_assoc];omega
theorem num_lt{b:Nat}(C:1<=b):∀{xs:List Nat},(∀x∈xs,x<b)->num b xs<b^xs.length
 | [],_=>by simp[num]
 | x::xs,h=>by
  have I:=h x (by simp);have F:=num_lt C (xs:=xs) λy H=>h y (by simp[H]);simp only[num,List.length_cons,Nat.pow_succ]
  calc x+b*num b xs<b+b*num b xs:=by omega
   _=b*(num b xs+1):=by rw[Nat.mul_add,Nat.mul_one,Nat.add_comm]
   _<=b*b^xs.length:=Nat.mul_le_mul_left _ F
   _=b^xs.length*b:=Nat.mul_comm _ _
def Trim(xs:List Nat):Prop:=∀h:xs≠[],xs.getLast h≠0
theorem Trim.tail{x:Nat}{xs:List Nat}(h:Trim (x::xs)):Trim xs:=λy=>by have:=h (by simp);rwa[List.getLast_cons y]at this
theorem kr5{b:Nat}(y:1<=b):∀{xs:List Nat},Trim xs->num b xs=0->xs=[]
 | [],_,_=>rfl
 | x::xs,C,h=>by
  simp only[num]at h
  have F:num b xs=0:=by
   rcases Nat.eq_zero_or_pos (num b xs)with e | e
   ·exact e
   ·have:0<b*num b xs:=Nat.mul_pos y e;omega
  have:=kr5 y C.tail F;subst this;have:=C (by simp);simp at this;omega
theorem kdd{b:Nat}(C:2<=b):∀{xs:List Nat},(∀x∈xs,x<b)->Trim xs->digs b (num b xs)=xs
 | [],_,_=>by simp[num,kbu]
 | x::xs,h,F=>by
  have H:=h x (by simp)
  have I:num b (x::xs)≠0:=λe=>by have:=kr5 (by omega) F e;cases this
  rw[ke9 C I];simp only[num]
  rw[Nat.add_mul_mod_self_left,Nat.mod_eq_of_lt H,Nat.add_mul_div_left _ _ (by omega),Nat.div_eq_of_lt H,Nat.zero_add,
   kdd C (λy K=>h y (by simp[K])) F.tail]
theorem khs{b:Nat}(C:2<=b)(n:Nat):Trim (digs b n):=by
 induction n using Nat.strongRecOn with
 | ind n ih =>
  by_cases F:n=0
  ·subst F;simp[kbu,Trim]
  ·rw[ke9 C F];intro _;by_cases y:digs b (n/b)=[]
   ·simp only[y,List.getLast_singleton]
    have:n/b=0:=by
     rcases Nat.eq_zero_or_pos (n/b)with e | e
     ·exact e
     ·rw[ke9 C (by omega)]at y;cases y
    have:=Nat.mod_add_div n b;rw[‹n/b=0›]at this;omega
   ·rw[List.getLast_cons y];exact ih _ (Nat.div_lt_self (by omega) C) y
theorem kbg{b:Nat}(C:2<=b)(n k:Nat):(digs b n).length<=k↔n<b^k:=by
 induction k generalizing n with
 | zero =>
  simp only[Nat.pow_zero,Nat.le_zero_eq];by_cases y:n=0
  ·subst y;simp[kbu]
  ·rw[ke9 C y];simp;omega
 | succ k ih =>
  by_cases y:n=0
  ·subst y;simp only[kbu,List.length_nil,Nat.zero_le,true_iff];exact Nat.pow_pos (by omega)
  ·rw[ke9 C y,List.length_cons,Nat.add_le_add_iff_right,ih,Nat.pow_succ,Nat.div_lt_iff_lt_mul (by omega)]
theorem kcr{b:Nat}(y:2<=b){n:Nat}:digs b n=[]↔n=0:=by
 constructor
 ·intro h;have:=kg y n;rw[h]at this
  simpa[num]using this.symm
 ·rintro rfl;exact kbu b
theorem kgk(b:Nat)(xs:List Nat)(k:Nat):num b (xs++List.replicate k 0)=num b xs:=by
 rw[kfh]
 have:num b (List.replicate k 0)=0:=by
  induction k with
  | zero=>rfl
  | succ k ih=>simp[List.replicate_succ,num,ih]
 rw[this];omega
theorem kbjw{b:Nat}{xs:List Nat}{n:Nat}(h:∀i,n<=i->(C:i<xs.length)->xs[i]=0):num b (xs.take n)=num b xs:=by
 have e:xs=xs.take n++xs.drop n:=(List.take_append_drop n xs).symm
 have y:xs.drop n=List.replicate (xs.length-n) 0:=by
  apply List.ext_getElem
  ·simp
  ·intro i F H;simp only[List.getElem_drop,List.getElem_replicate];exact h _ (by omega) _
 conv=>rhs;rw[e,y]
 rw[kgk]
theorem kp6{b:Nat}(F:2<=b){xs:List Nat}{n:Nat}(H:∀x∈xs,x<b)(h:∀i,n<=i->(Q:i<xs.length)->xs[i]=0)(U:n<=xs.length)(I:n=0\/∃h:n-1<xs.length,xs[n-1]≠0) :
  xs.take n=digs b (num b xs):=by
 rw[<- kbjw h];symm;refine kdd F (λx C=>H x (List.mem_of_mem_take C)) λy=>?_;rcases I with rfl | ⟨V,K⟩
 ·simp at y
 ·have:(xs.take n).getLast y=xs[n-1]:=by
   rw[List.getLast_eq_getElem];simp only[List.getElem_take,List.length_take];congr 1;omega
  rw[this];exact K
theorem ksq{b:Nat}(y:2<=b){xs ys:List Nat}(F:∀x∈xs,x<b)(H:∀x∈ys,x<b)(ty:Trim ys)(h:xs.length<ys.length):num b xs<num b ys:=by
 rw[<- kdd y H ty]at h;rcases Nat.lt_or_ge (num b xs) (num b ys)with C | C
 ·exact C
 ·exfalso;have I:=num_lt (b:=b) (by omega) F;have K:=(kbg y (num b ys) xs.length).2 (by omega);omega
def cmp(a b:Nat):Int:=if a<b then -1 else if a=b then 0 else 1
theorem kc2(b:Nat){xs:List Nat}{k:Nat}(h:k<xs.length):num b (xs.take (k+1))=num b (xs.take k)+b^k*xs[k]:=by rw[List.take_succ_eq_append_getElem h,kfh];simp[num,Nat.min_eq_left (Nat.le_of_lt h)]
theorem kbdf{b p q x y k:Nat}(hp:p<b^k)(hq:q<b^k):cmp (p+b^k*x) (q+b^k*y)=if x<y then -1 else if x=y then cmp p q else 1:=by
 have key:∀{p q x y:Nat},p<b^k->x<y->p+b^k*x<q+b^k*y:=by intro p q x y hp C;have:b^k*(x+1)<=b^k*y:=Nat.mul_le_mul_left _ C;rw[Nat.mul_add,Nat.mul_one]at this;omega
 unfold cmp;rcases Nat.lt_trichotomy x y with h | h | h
 ·have:=key (q:=q) hp h;simp[h,this]
 ·subst h;simp
 ·have:=key (q:=p) hq h;rw[if_neg (by omega),if_neg (by omega),if_neg (by omega),if_neg (by omega)]
theorem k3f{b:Nat}(y:2<=b)(m n:Nat):(digs b (m+n)).length<=max (digs b m).length (digs b n).length+1:=by rw[kbg y];have C:=(kbg y m _).1 (Nat.le_max_left (digs b m).length (digs b n).length);have F:=(kbg y n _).1 (Nat.le_max_right (digs b m).length (digs b n).length);generalize max (digs b m).length (digs b n).length=k at C F|-;rw[Nat.pow_succ];have:b^k*2<=b^k*b:=Nat.mul_le_mul_left _ y;omega
theorem ki8{b:Nat}:∀{xs:List Nat}{j:Nat}(h:j<xs.length)(w:Nat),num b (xs.set j w)+b^j*xs[j]=num b xs+b^j*w
 | x::xs,0,h,w=>by simp only[List.set_cons_zero,num,List.getElem_cons_zero,Nat.pow_zero,Nat.one_mul];omega
 | x::xs,j+1,h,w=>by
  have h':j<xs.length:=by simpa using h
  have ih:=ki8 (b:=b) (xs:=xs) (j:=j) h' w;simp only[List.set_cons_succ,num,List.getElem_cons_succ];have y:b^(j+1)*xs[j]=b*(b^j*xs[j]):=by rw[Nat.pow_succ,Nat.mul_comm (b^j) b,Nat.mul_assoc]
  have C:b^(j+1)*w=b*(b^j*w):=by rw[Nat.pow_succ,Nat.mul_comm (b^j) b,Nat.mul_assoc]
  rw[y,C];have e3:=congrArg (b * ·) ih;simp only[Nat.mul_add]at e3;omega
theorem kwi{b P n C o l c y t T:Nat}(K:C+P*o=n+P*l)(F:t+o+c=y*b+l)(Q:n+c*P=T):C+y*(P*b)=T+P*t:=by
 have e:=congrArg (P * ·) F;simp only[Nat.mul_add]at e;have H:P*(y*b)=y*(P*b):=by rw[Nat.mul_left_comm]
 have I:P*c=c*P:=Nat.mul_comm _ _;rw[H,I]at e;omega
def Row(b:Nat)(o:List Nat)(i k c x:Nat)(ys:List Nat)(T:Nat):Prop:=num b o+c*b^(i+k)=T+b^i*(x*num b (ys.take k))
theorem Row.start{b:Nat}{o:List Nat}{i x:Nat}{ys:List Nat}{T:Nat}(h:num b o=T):Row b o i 0 0 x ys T:=by unfold Row;simp[num,h]
theorem Row.step{b:Nat}{o:List Nat}{i k c x:Nat}{ys:List Nat}{T y l:Nat}(r:Row b o i k c x ys T)(hk:k<ys.length)(C:i+k<o.length)(e:x*ys[k]+o[i+k]+c=y*b+l):Row b (o.set (i+k) l) i (k+1) y x ys T:=by unfold Row at r|-;have F:=ki8 (b:=b) C l;have:=kwi F e r;rw[show i+(k+1)=i+k+1 from rfl,Nat.pow_succ,this,kc2 b hk,Nat.mul_add,Nat.mul_add,Nat.pow_add];rw[Nat.mul_assoc (b^i) (b^k),Nat.mul_left_comm (b^k) x];omega
theorem Row.stop{b:Nat}{o:List Nat}{i c x:Nat}{ys:List Nat}{T:Nat}(r:Row b o i ys.length c x ys T)(C:i+ys.length<o.length)(h0:o[i+ys.length]=0):num b (o.set (i+ys.length) c)=T+b^i*(x*num b ys):=by unfold Row at r;have y:=ki8 (b:=b) C c;rw[h0,Nat.mul_zero,Nat.add_zero]at y;rw[y,Nat.mul_comm,r,List.take_length]
theorem kbfe{b:Nat}{xs ys:List Nat}{i T:Nat}(y:i<xs.length)(h:T=num b (xs.take i)*num b ys):T+b^i*(xs[i]*num b ys)=num b (xs.take (i+1))*num b ys:=by rw[kc2 b y,Nat.add_mul,h,Nat.mul_assoc]
theorem kzl{b x y o c:Nat}(H:x<b)(I:y<b)(K:o<b)(Q:c<b):(x*y+o+c)/b<b:=by
 have C:0<b:=by omega
 rw[Nat.div_lt_iff_lt_mul C];have F:x*y<=(b-1)*(b-1):=Nat.mul_le_mul (by omega) (by omega);obtain⟨a,rfl⟩:∃a,b=a+1:=⟨b-1,by omega⟩;simp only[Nat.add_sub_cancel]at F;have:(a+1)*(a+1)=a*a+2*a+1:=by rw[Nat.add_mul,Nat.mul_add];omega
 omega
end Go.Num
namespace Go.Num
section
variable{b v1 v0 u32 u1 q r v w:Nat}
theorem kn_lt(y:u32<v)(C:u1<b)(F:w=u32*b+u1):w<v*b:=by have:(u32+1)*b<=v*b:=Nat.mul_le_mul_right _ y;rw[Nat.add_mul,Nat.one_mul]at this;omega
theorem kn_mul(hv:v=v1*b+v0):q*v=q*v1*b+q*v0:=by rw[hv,Nat.mul_add,Nat.mul_assoc]
theorem kn_hi(hv:v=v1*b+v0)(I:u32<v)(C:u1<b)(H:w=u32*b+u1)(e:q*v1+r=u32)(F:w/v<=q)(t:b<=q\/b*r+u1<q*v0):w/v<=q-1/\1<=q:=by
 have y:0<v:=by omega
 have K:=kn_lt I C H
 have Q:w/v<q:=by
  rcases t with t | t
  ·have:w/v<b:=(Nat.div_lt_iff_lt_mul y).2 (by rw[Nat.mul_comm];exact K);omega
  ·rw[Nat.div_lt_iff_lt_mul y,kn_mul hv,H,<- e,Nat.add_mul,Nat.mul_comm r b];omega
 clear F;generalize w/v=k at *
 omega
theorem kn_lo(hv:v=v1*b+v0)(H:u32<v)(F:w=u32*b+u1)(e:q*v1+r=u32)(y:w/v<=q)(t:q*v0<=b*r+u1):w/v=q:=by
 have C:0<v:=by omega
 refine Nat.le_antisymm y ?_;rw[Nat.le_div_iff_mul_le C,kn_mul hv,F,<- e,Nat.add_mul,Nat.mul_comm r b];omega
theorem kn_out(hv:v=v1*b+v0)(y:v0<b)(H:u32<v)(e:q*v1+r=u32)(C:b<=r):q*v0<=b*r+u1:=by
 have F:q*v1<b*v1:=by rw[Nat.mul_comm b v1];omega
 have I:q<b:=Nat.lt_of_mul_lt_mul_right F;have K:q*v0<=b*b:=Nat.mul_le_mul (by omega) (by omega);have Q:b*b<=b*r:=Nat.mul_le_mul_left _ C;omega
theorem kx7(y:0<v1)(hv:v=v1*b+v0)(Q:u32<v)(F:u1<b)(C:w=u32*b+u1)(U:0<b):w/v<=u32/v1:=by
 have H:0<v:=by omega
 rw[Nat.le_div_iff_mul_le y];have I:w/v*v<=w:=Nat.div_mul_le_self w v;rw[kn_mul hv,C]at I
 have K:w/v*v1*b<(u32+1)*b:=by rw[Nat.add_mul,Nat.one_mul];rw[C];omega
 have:=Nat.lt_of_mul_lt_mul_right K;omega
end
theorem kbax{b v w x:Nat}(hv:0<v)(y:x<b):(w*b+x)/v=w/v*b+(w%v*b+x)/v/\(w*b+x)%v=(w%v*b+x)%v:=by
 have e:w*b+x=v*(w/v*b)+(w%v*b+x):=by
  have:=Nat.div_add_mod w v;have h:(v*(w/v)+w%v)*b=w*b:=by rw[this]
  rw[Nat.add_mul,Nat.mul_assoc]at h;omega
 constructor
 ·rw[e,Nat.mul_add_div hv]
 ·rw[e,Nat.mul_add_mod]
end Go.Num
