/- Words and laws that the last text joins. -/
import Derived.Test.YtgfeahhgoiidiaaGreatDoorPAbsJ
import Derived.Below
import Derived.ProofKit
set_option linter.unusedVariables false
set_option linter.unusedSimpArgs false
set_option linter.unusedSectionVars false
namespace Go.Ab
variable{P:Program}{O:World}
def resGet(tmps:Array Value):ResultVar->Sem Value
 | .tmp t=>pure (tmps.getD t undef)
 | .cell a t=>do loadVar t (<- asAddr (tmps.getD a undef))
theorem kbjj(fn:Func)(tmps:Array Value):results fn tmps=(do
  let vs <- fn.results.mapM (resGet tmps)
  pure (if h:vs.size=1 then vs[0]else .tuple vs)):=rfl
theorem kvv{μ:Mu}{fr:Fr}{N:Nat}{tmps:Array Value}{h:AH}{w:World}(S:Sim P O μ h w)(F:FRel μ N fr tmps):∀(rs:List ResultVar)(k:List AV->Option (AV×AH))(res:AV×AH),resK P fr h rs k=some res->
  ∃vs us,k vs=some res/\(rs.mapM (resGet tmps)).run P w=.ok us w/\VRels μ vs us/\us.length=rs.length
 | [],k,res,h=>⟨[],[],h,rfl,qb,rfl⟩
 | .tmp t::rs,k,res,h=>by
  simp only[resK,qbu]at h;obtain⟨v,C,H⟩:=h;obtain⟨vs,us,h0,h1,I,K⟩:=kvv S F rs _ _ H;obtain⟨u,Q,A⟩:=F.get t v C;refine⟨v::vs,u::us,h0,?_,qc A I,by simp[K]⟩;rw[List.mapM_cons];have:tmps.getD t undef=u:=by simp[Array.getD_eq_getD_getElem?,Q]
  simp only[Sem.run_bind,resGet,Sem.run_pure,Result.andThen_ok,h1,this]
 | .cell a t::rs,k,res,h=>by
  simp only[resK]at h;split at h
  ·rename_i r X;obtain⟨u,Q,A⟩:=F.get a _ X;simp only[VRel]at A;obtain⟨Y,U,rfl⟩:=A;obtain⟨v,Z,H,C,hl⟩:=ksq S U h;obtain⟨vs,us,h0,h1,I,K⟩:=kvv S F rs _ _ H;refine⟨v::vs,Z::us,h0,?_,qc C I,by simp[K]⟩;rw[List.mapM_cons];have:tmps.getD a undef=.pointer (some Y):=by simp[Array.getD_eq_getD_getElem?,Q]
   simp only[Sem.run_bind,resGet,Sem.run_pure,Result.andThen_ok,h1,this,asAddr,hl]
  ·cases h
theorem k1i{μ:Mu}{fn:Func}{fr:Fr}{h:AH}{v:AV}{h':AH}{N:Nat}{tmps:Array Value}{w:World}(S:Sim P O μ h w)(K:kir P fn fr h=some (v,h'))(F:FRel μ N fr tmps) :
  h'=h/\∃u,(results fn tmps).run P w=.ok u w/\VRel μ v u:=by
 rw[kbjj];unfold kir at K;obtain⟨vs,us,h0,h1,C,U⟩:=kvv S F _ _ _ K;simp only[Array.mapM_eq_mapM_toList,Sem.run_bind,Sem.run_map,h1,Result.andThen_ok,Sem.run_pure];split at h0
 ·rename_i x;cases h0;simp only[VRels]at C;obtain⟨y,ys,rfl,Q,rfl⟩:=C;exact⟨rfl,y,by simp,Q⟩
 ·rename_i H;cases h0;refine⟨rfl,.tuple us.toArray,?_,by simp only[VRel];exact⟨us.toArray,rfl,by simpa using C⟩⟩
  have I:us.length≠1:=by
   intro I;have A:=C.length;rw[I]at A
   match vs,A with
   | [x],_=>exact H x rfl
   | [],A=>simp at A
   | _::_::_,A=>simp at A
  rw[dif_neg (by simpa using I)]
def RoundOf(μ:Mu)(ro:Option Nat)(b:Frame)(ds:List Nat):Prop :=
 match ro with
 | none=>b.roundOf=none
 | some l=>ds=[]/\∃L,μ l=some L/\b.roundOf=some L.block
theorem RoundOf.mono{μ ν:Mu}(A:Mu.le μ ν){ro:Option Nat}{b:Frame}{ds:List Nat}(h:RoundOf μ ro b ds):RoundOf ν ro b ds:=by
 cases ro with
 | none=>exact h
 | some l =>obtain⟨h1,L,C,F⟩:=h;exact⟨h1,L,A _ _ C,F⟩
theorem k7h{μ:Mu}{h:AH}{w:World}(S:Sim P O μ h w){l:Nat}{L:Loc}(H:μ l=some L){A:Option Code}{v:AV}{h':AH}(C:kh1 l A h=some (v,h')) :
  ∃u w',(Instr.endRound L.block A).run P w=.ok u w'/\GoodX P O [] μ h w v h' u w':=by
 unfold kh1 at C;split at C
 ·rename_i st Y f fr ps as bd d F;cases C;obtain⟨tmps,Q,U,X⟩:=S.blk l L _ H F;have I:=(S.place l L H).2;refine⟨_,_,run_endRound A U,?_⟩;have K:(if A.isNone=true then LoopState.ready else LoopState.done)=cond A.isNone .ready .done:=by cases A.isNone<;>rfl
  obtain⟨s1,s2,s3⟩:=kqv S H F (by simp) (b':=.loop (cond A.isNone .ready .done) A f fr ps as bd d) (o:=.loop {state:=if A.isNone then .ready else .done,pending:=A,fn:=f,tmps,params:=ps,assign:=as,body:=bd,defers:=Q}) ⟨tmps,Q,by rw[World.putObj_heap_same I,K],X⟩;exact⟨μ,by simp[VRel],s1,s2,s3.1,λb F Z=>s3.2 b F⟩
 ·cases C
theorem k66{μ:Mu}{h h':AH}{w:World}(S:Sim P O μ h w){l:Nat}{L:Loc}(C:μ l=some L)(A:beginA l h=some h'):∃w',(Instr.beginRound L.block).run P w=.ok () w'/\Sim P O μ h' w'/\Ext μ h w μ h'/\Frm μ h w w':=by
 unfold beginA at A;split at A
 ·rename_i I f fr ps as bd d H;cases A;obtain⟨tmps,K,Q,U⟩:=S.blk l L _ C H;have F:=(S.place l L C).2;refine⟨_,run_beginRound Q rfl,?_⟩;exact kqv S C H (by simp) (b':=.loop .busy I f fr ps as bd d) ⟨tmps,K,by rw[World.putObj_heap_same F],U⟩
 ·cases A
theorem kbio{μ:Mu}{h h':AH}{w:World}(S:Sim P O μ h w){l:Nat}{L:Loc}(F:μ l=some L){H:Option Code}(A:kk0 l h=some (H,h')):∃w',(Instr.endLoop L.block).run P w=.ok H w'/\Sim P O μ h' w'/\Ext μ h w μ h'/\Frm μ h w w':=by
 unfold kk0 at A;split at A
 ·rename_i st K f fr ps as bd d I;rcases kcs A with⟨_,A⟩ | ⟨C,A⟩
  ·cases A
  ·cases A;obtain⟨tmps,U,Q,X⟩:=S.blk l L _ F I;refine⟨_,run_endLoop Q (by cases st<;>simp at C|-),?_⟩;exact kqv S F I (by simp) (b':=.dead) trivial
 ·cases A
theorem kpp{fn:Func}{ro:Option Nat}{A:Option Code}{fr:Fr}{h:AH}{v:AV}{h':AH}(C:leaveA P fn ro A fr h=some (v,h')){μ:Mu}{w:World}{b:Frame}{a:Act}{ds:List Nat}(K:P.funcs[b.fn]?=some fn)(H:b.kind=.normal)(I:RoundOf μ ro b ds)(X:a.defers=ds.map mark)(M:Marks O μ h w ds)(S:Sim P O μ h w)(F:FRel μ fn.ntmps fr a.tmps)
  {todo:List Item} (Y:b.roundOf=none->(A=none\/A=some .ret)->∀cs,step P (lone (b.atR a todo) cs w)=.next (lone {b.atR a todo with mode:=.returning} cs w))
  (Z:∀{l:Nat}{u:Value}{w':World},b.roundOf=some l->(Instr.endRound l A).run P w=.ok u w'->∀c cs,step P (lone (b.atR a todo) (c::cs) w)=.next (lone (c.finish u) cs w')):Fin P ro b todo a w (GoodX P O ds μ h w v h'):=by
 cases ro with
 | none =>
  have Q:(A=none\/A=some .ret)/\kir P fn fr h=some (v,h'):=by
   unfold leaveA at C;split at C
   ·rename_i e;cases e
   ·split at C
    ·exact⟨.inl rfl,C⟩
    ·exact⟨.inr rfl,C⟩
    ·cases C
  intro cs;obtain⟨rfl,_,_,_⟩:=k1i S Q.2 F
  obtain⟨u,w',U,g,st,e1,e2⟩:=returns (fn:=fn) (v:=v) (h:=h') ds {b.atR a todo with mode:=.returning} K H rfl X S M (λw' S'=>by obtain⟨_,u,h1,h2⟩:=k1i S' Q.2 F;exact⟨u,h1,h2⟩) cs
  exact⟨u,w',U,g,Steps.head (Y I Q.1 cs) st,e1,e2⟩
 | some l =>obtain⟨rfl,L,hL,hb⟩:=I;intro c cs;obtain⟨u,w',h1,g⟩:=k7h S hL (show kh1 l A h=some (v,h')from C);exact⟨u,w',g,Steps.one (Z hb h1 c cs)⟩
theorem k1u{b:Frame}{a:Act}{g:Operand}{ps:Array Tmp}{as bd:Code}{k:List Item}{w w':World}{F:FuncId}{x y args:Array Value}{n:Next}(H:b.roundOf=none)(X:a.eval g=.func (.func F) x y)
  (U:(callFunc F ((x++#[.func (.yield (w.heap.size+1)) #[] #[]])++y)).run P ((w.alloc (.deferred (some []))).alloc (.loop {state:=.ready,pending:=none,fn:=b.fn,tmps:=a.tmps,params:=ps,assign:=as,body:=bd,defers:=w.heap.size}))=.ok n w') (cs:List Frame) :
  (∀f args,n=.enter f args->step P (lone (b.atR a (.code (.rangeFunc g ps as bd)::k)) cs w)=.next (lone (Frame.enter P f args .normal) (b.atR {a with defers:=mark w.heap.size::a.defers} (.inRangeFunc (w.heap.size+1)::k)::cs) w'))/\
  (∀u,n=.value u->step P (lone (b.atR a (.code (.rangeFunc g ps as bd)::k)) cs w)=.next (lone (b.atR {a with defers:=mark w.heap.size::a.defers} (.endRangeFunc (w.heap.size+1)::k)) cs w')):=by
 have I:=congrFun (Frame.eval_atR b {a with defers:=mark w.heap.size::a.defers} (.inRangeFunc (w.heap.size+1)::k)) g;have K:({tmps:=a.tmps,defers:=mark w.heap.size::a.defers}:Act).eval g=a.eval g:=by cases g<;>rfl
 rw[K,X]at I;simp only[Frame.atR]at I
 have C:∀(ρ:Operand->Value),ρ g=.func (.func F) x y->(∀v,ρ (.const v)=v)->∀W,(do let d <- resolve ρ {callee:=.value g,args:=#[.const (.func (.yield (w.heap.size+1)) #[] #[])],argTypes:=#[]} 0;invoke d.target d.args:Sem Next).run P W=(callFunc F ((x++#[.func (.yield (w.heap.size+1)) #[] #[]])++y)).run P W:=by intro ρ h1 Y W;simp[resolve,h1,Y,Deferred.ofValue,invoke,Sem.run_bind,Result.andThen_ok]
 constructor
 ·intro f args Q;subst Q;refine step_lone_go ?_;have A:=C (Frame.eval {fn:=b.fn,tmps:=a.tmps,todo:=.inRangeFunc (w.heap.size+1)::k,defers:=mark w.heap.size::a.defers,mode:=.run,kind:=b.kind,roundOf:=b.roundOf}) I (λ_=>rfl) ((w.alloc (.deferred (some []))).alloc (.loop {state:=.ready,pending:=none,fn:=b.fn,tmps:=a.tmps,params:=ps,assign:=as,body:=bd,defers:=w.heap.size}));rw[U]at A;simp only[H]at A;simp[stepG,stepG.exec,stepG.apply,Frame.atR,H,Sem.runT_eq,run_enterLoop_outer,mark]at A|-;rw[A];simp
 ·intro u Q;subst Q;refine step_lone_go ?_;have A:=C (Frame.eval {fn:=b.fn,tmps:=a.tmps,todo:=.inRangeFunc (w.heap.size+1)::k,defers:=mark w.heap.size::a.defers,mode:=.run,kind:=b.kind,roundOf:=b.roundOf}) I (λ_=>rfl) ((w.alloc (.deferred (some []))).alloc (.loop {state:=.ready,pending:=none,fn:=b.fn,tmps:=a.tmps,params:=ps,assign:=as,body:=bd,defers:=w.heap.size}));rw[U]at A;simp only[H]at A;simp[stepG,stepG.exec,stepG.apply,Frame.atR,H,Sem.runT_eq,run_enterLoop_outer,mark,Frame.finish]at A|-;rw[A];simp
theorem kbfn{b:Frame}{a:Act}{l:Nat}{k:List Item}{w w':World}{A:Option Code}(C:(Instr.endLoop l).run P w=.ok A w')(cs:List Frame) :
  step P (lone (b.atR a (.endRangeFunc l::k)) cs w)=.next (lone (b.atR a ((A.map Item.code).toList++k)) cs w') :=
 step_lone_go (by simp[stepG,stepG.exec,Frame.atR,Sem.runT_eq,C])
theorem kkq{K:Keep}(hm:P.follows .mixedOrders=true){rec:Rec}(U:RecOk P O rec){ro:Option Nat}{f:FuncId}{fn:Func}(Z:P.funcs[f]?=some fn){v:AV}{h':AH}:∀(n:Nat)(fresh:Bool){todo:List Item}{fr:Fr}{h:AH},
  execA P K rec ro f fn n fresh todo fr h=some (v,h')->∀(μ:Mu)(w:World)(b:Frame)(a:Act)(ds:List Nat),b.fn=f->b.kind=.normal->RoundOf μ ro b ds->a.defers=ds.map mark->Marks O μ h w ds->Sim P O μ h w->FRel μ fn.ntmps fr a.tmps->
  Fin P ro b todo a w (GoodX P O ds μ h w v h')
 | 0,fresh,todo,fr,h,C=>by simp[execA]at C
 | n+1,fresh,todo,fr,h,C=>by
  intro μ w b a ds hb A Y hd M S F;have IH:=λ(fresh:Bool) {todo:List Item} {fr:Fr} (C:execA P K rec ro f fn n fresh todo fr h=some (v,h')) (F:FRel μ fn.ntmps fr a.tmps)=>kkq hm U Z n fresh C μ w b a ds hb A Y hd M S F;have ak:P.funcs[b.fn]?=some fn:=by rw[hb];exact Z
  have next:∀(fresh:Bool){todo:List Item}{fr:Fr}{h1:AH}{ν:Mu}{w1:World}{a1:Act},execA P K rec ro f fn n fresh todo fr h1=some (v,h')->Sim P O ν h1 w1->Ext μ h w ν h1->Frm μ h w w1->FRel ν fn.ntmps fr a1.tmps->a1.defers=a.defers->Fin P ro b todo a1 w1 (GoodX P O ds μ h w v h'):=by intro fresh todo fr h1 ν w1 a1 C S1 e f F1 bj;exact(kkq hm U Z n fresh C ν w1 b a1 ds hb A (Y.mono e.2.1) (bj.trans hd) (M.step S S1 e f) S1 F1).mono λu w2 g=>g.trans e f λr I=>.inl I
  unfold execA at C
  try simp only[keb]at C
  split at C
  ·exact kpp C ak A Y hd M S F (λhn _ cs=>stepR_end hn) (λaa I c cs=>stepR_round_end aa A I)
  ·exact kpp C ak A Y hd M S F (λhn _ cs=>stepR_ret hn) (λaa I c cs=>stepR_round_ret aa A I)
  ·exact(IH _ C F).of_steps λcs=>Steps.one stepR_skip
  ·exact(IH _ C F).of_steps λcs=>Steps.one stepR_label
  ·exact(IH _ C F).of_steps λcs=>Steps.one stepR_inBlock
  ·exact(IH _ C F).of_steps λcs=>Steps.one k85
  ·exact(IH _ C F).of_steps λcs=>Steps.one stepR_seq
  ·rename_i c x y k;split at C
   ·rename_i t ht;have hv:=kbc F ht;simp only[VRel]at hv
    have Fl:∀t',t=t'->FRel μ fn.ntmps (learn c t' fr) a.tmps:=by
     intro t' bk;subst bk;unfold learn;split
     ·rename_i s;exact F.learn ht λ_ h=>h
     ·exact F
    rcases kcs C with⟨rfl,H⟩ | ⟨rfl,H⟩
    ·exact(IH _ H (Fl _ rfl)).of_steps λcs=>Steps.one (stepR_cond hv)
    ·exact(IH _ H (Fl _ rfl)).of_steps λcs=>Steps.one (stepR_cond hv)
   ·cases C
  ·exact(IH _ C F).of_steps λcs=>Steps.one stepR_block
  ·exact(IH _ C F).of_steps λcs=>Steps.one stepR_loop
  ·exact(IH _ C F).of_steps λcs=>Steps.one stepR_inLoop
  ·exact(IH _ C F).of_steps λcs=>Steps.one kbes
  ·split at C
   ·rename_i k' ac;exact(IH _ C F).of_steps λcs=>Steps.one (stepR_exit ac)
   ·rename_i ac;exact kpp C ak A Y hd M S F (λhn hj cs=>by rcases hj with e | e<;>cases e) (λaa I c cs=>stepR_round_exit aa A ac I)
  ·split at C
   ·rename_i k' ac;exact(IH _ C F).of_steps λcs=>Steps.one (stepR_goto ac)
   ·rename_i ac;exact kpp C ak A Y hd M S F (λhn hj cs=>by rcases hj with e | e<;>cases e) (λaa I c cs=>stepR_round_goto aa A ac I)
  ·rename_i id ops ap k
   have ax:(cond ap (cond (ro.isSome&&kin ops) none (drawX P rec fn.ntmps ops (kto K f id ops.size) (resvOf K f id) (preOf K f id) fr h λQ h'=>execA P K rec ro f fn n false k Q h')) (opsY P rec fn.ntmps ops (List.range ops.size) fr h λQ h'=>execA P K rec ro f fn n false k Q h'))=some (v,h')->Fin P ro b (.code (.region id ops ap)::k) a w (GoodX P O ds μ h w v h'):=by
    intro C
    have ag:∀(a':Act)(w':World),After P O μ fn.ntmps h w a.defers (λQ h'=>execA P K rec ro f fn n false k Q h') (v,h') .normal a' w'->Fin P ro b k a' w' (GoodX P O ds μ h w v h'):=by
     rintro a' w' ⟨_,ah,Q,h1,ν,g1,g2,g3,g4,g5⟩
     exact next false g1 g2 g4 g5 g3 ah
    rcases kcs C with⟨rfl,H⟩ | ⟨rfl,H⟩
    ·rcases kcs H with⟨_,ae⟩ | ⟨aq,ae⟩
     ·cases ae
     ·cases ro with
      | some l =>
       have ay:=k3v U (λx y h e=>ke4 n x y h e) ae S F;have ah:kin ops=false:=by simpa using aq
       refine Fin.of_some (X:=λa' w'=>After P O μ fn.ntmps h w a.defers (λQ h'=>execA P K rec (some l) f fn n false k Q h') (v,h') .normal a' w') (λcs=>?_) ag;have az:=wpAny_sound ops.size (w.tape w.drawn (.order b.fn id)) _ _ _ ay;have hs:=stepR_region_draw (P:=P) (b:=b) (a:=a) (k:=k) (cs:=cs) (w:=w) (ops:=ops) (id:=id);simp only[Region.schedule,hm,Bool.true_or,if_true]at hs;obtain⟨a',w',hA,st⟩:=kia (λ_ _ _ q=>q.1) ah _ _ _ az (λa' w' q=>by rw[q.2.1];exact qbp _) b k cs;exact⟨a',w',hA,.head hs st⟩
      | none =>have hw:=kbb6 hm U (id:=id) (λx y h e=>ke4 n x y h e) ae S F;have af:b.roundOf=none:=Y;refine Fin.of_some (X:=λa' w'=>After P O μ fn.ntmps h w a.defers (λQ h'=>execA P K rec none f fn n false k Q h') (v,h') .normal a' w') (λcs=>?_) ag;obtain⟨e,a',w',hq,ad⟩:=hw b k cs;have he:e=.normal:=hq.1;subst he;refine⟨a',w',hq,?_⟩;rw[Frame.atR_of_none af,Frame.atR_of_none af];exact ad
    ·refine Fin.of_some (X:=λa' w'=>After P O μ fn.ntmps h w a.defers (λQ h'=>execA P K rec ro f fn n false k Q h') (v,h') .normal a' w') (λcs=>?_) ag;obtain⟨a',w',hA,st⟩:=ktl U _ H S F b k cs;exact⟨a',w',hA,.head stepR_region st⟩
   rcases kcs C with⟨rfl,H⟩ | ⟨rfl,H⟩
   ·exact ax H
   ·split at H
    ·cases ro with
     | none=>exact U.pt H Z hb A Y hd M S (F.keep _)
     | some l =>obtain⟨rfl,L,hL,ar⟩:=Y;exact U.rpt H Z hb A hL ar hd S (F.keep _)
    ·exact ax H
  ·rename_i k;cases ro with
   | none=>cases C
   | some l =>obtain⟨h1,he,H⟩:=qbu.1 C;have a0:=Y;obtain⟨bw,L,hL,ar⟩:=a0;obtain⟨w1,I,S1,e1,f1⟩:=k66 S hL he;refine(next fresh H S1 e1 f1 F rfl).of_steps (a':=a) (w':=w1) λcs=>Steps.one (stepR_beginRound ar I)
  ·rename_i g ps as bd k;cases ro with
   | some l=>cases C
   | none =>
    have af:b.roundOf=none:=Y;split at C
    ·cases C
    ·rcases kcs C with⟨rfl,C⟩ | ⟨rfl,C⟩
     case inr=>exact U.pt C Z hb A Y hd M S (F.keep _)
     split at C
     ·rename_i gf first captured hg
      obtain⟨q,hq,H⟩:=qbu.1 C;obtain⟨p,hp,ae⟩:=qbu.1 H;obtain⟨qv,qh⟩:=q;obtain⟨pe,ph⟩:=p;have ba:=kbc F hg;simp only[VRel]at ba;obtain⟨g',x,y,he,bb,bm,bn⟩:=ba;simp only[FnRel]at bb;subst bb;obtain⟨S1,e1,f1⟩:=k7d S (.deferred (some []))
      obtain⟨S2,e2,f2⟩:=kxf S1 (b:=.loop .ready none f (fr.keep (List.range fn.ntmps)) ps as bd 0) (n:=0) (o:=.loop {state:=.ready,pending:=none,fn:=b.fn,tmps:=a.tmps,params:=ps,assign:=as,body:=bd,defers:=w.heap.size}) (λν ai=>by
       refine⟨a.tmps,w.heap.size,?_,λbx bc=>?_⟩
       ·rw[kmd,hb]
       ·rw[Z]at bc;cases bc;exact(F.keep _).mono ai)
      have bp:(w.alloc (.deferred (some []))).heap.size=w.heap.size+1:=by simp
      rw[bp]at S2 e2;have M2:=M.step S S2 (e1.trans e2 f1.1) (f1.trans e1 f2);generalize hμ2:Mu.set μ h.blks.size ⟨w.heap.size+1,0,0⟩=μ2 at S2 e2 M2;have be:μ2 h.blks.size=some ⟨w.heap.size+1,0,0⟩:=by rw[<- hμ2];exact ke5 _ _ _
      generalize al:(w.alloc (.deferred (some []))).alloc (.loop {state:=.ready,pending:=none,fn:=b.fn,tmps:=a.tmps,params:=ps,assign:=as,body:=bd,defers:=w.heap.size})=w2 at S2 f2 M2
      have bq:w2.heap[w.heap.size]?=some (.deferred (some [])):=by rw[<- al,kd1 _ _ _ (by simp),kmd]
      have au:w2.heap.size=w.heap.size+2:=by rw[<- al];simp
      have br:Marks O μ2 (h.alloc (.loop .ready none f (fr.keep (List.range fn.ntmps)) ps as bd 0)) w2 (w.heap.size::ds):=by
       refine⟨List.nodup_cons.2 ⟨λhm=>?_,M2.nodup⟩,λr I=>?_,λr I=>?_,λr I i L hl hL=>?_⟩
       ·have:=(M.old _ hm).2;omega
       ·rcases qb6.1 I with rfl | I
        ·have:=S.base;omega
        ·exact M2.old r I
       ·rcases qb6.1 I with rfl | I
        ·exact bq
        ·exact M2.has r I
       ·rcases qb6.1 I with rfl | I
        ·intro bt;rw[<- hμ2]at hL;unfold Mu.set at hL;split at hL
         ·cases hL;simp at bt
         ·have:=(S.place i L hL).2;omega
        ·exact M2.free r I i L hl hL
      have bu:VRels μ2 (first++[.func (.yield h.blks.size) [] []]++captured) (x.toList++[.func (.yield (w.heap.size+1)) #[] #[]]++y.toList):=by have ai:=(e1.trans e2 f1.1).2.1;have mono:∀{vs:List AV}{us:List Value},VRels μ vs us->VRels μ2 vs us:=λh=>VRels.mono ai h;refine((mono bm).append ?_).append (mono bn);refine qc ?_ qb;simp only[VRel];exact⟨.yield (w.heap.size+1),#[],#[],rfl,⟨_,be,rfl⟩,qb,qb⟩
      have ad:(x.toList++[Value.func (.yield (w.heap.size+1)) #[] #[]]++y.toList).toArray=(x++#[.func (.yield (w.heap.size+1)) #[] #[]])++y:=by apply Array.ext';simp
      have aj:∀(u:Value)(w3:World),Good P O μ2 (h.alloc (.loop .ready none f (fr.keep (List.range fn.ntmps)) ps as bd 0)) w2 qv qh u w3->
        Fin P none b (.endRangeFunc (w.heap.size+1)::k) {a with defers:=mark w.heap.size::a.defers} w3 (GoodX P O ds μ h w v h'):=by
       rintro u w3 ⟨ν,g1,g2,g3,g4⟩
       have bv:ν h.blks.size=some ⟨w.heap.size+1,0,0⟩:=g3.2.1 _ _ be;obtain⟨w4,bf,S4,e4,f4⟩:=kbio g2 bv hp;have M3:=br.step S2 g2 g3 g4;have M4:=M3.step g2 S4 e4 f4;have ai:=(e1.trans e2 f1.1).2.1;have bg:=U.pt ae Z hb A af (a:={a with defers:=mark w.heap.size::a.defers}) (by simp[hd]) M4 S4 (((F.mono ai).mono (Mu.le_trans g3.2.1 e4.2.1)).keep _)
       have bh:Ext μ h w ν ph:=by have:=((e1.trans e2 f1.1).trans g3 (by rw[au];omega)).trans e4 (qbq (by rw[au];omega) g4.1);exact this
       have bi:Frm μ h w w4:=((f1.trans e1 f2).trans (e1.trans e2 f1.1) g4).trans ((e1.trans e2 f1.1).trans g3 (by rw[au];omega)) f4;refine Fin.of_steps (a':={a with defers:=mark w.heap.size::a.defers}) (w':=w4) (todo':=(pe.map Item.code).toList++k) (λcs=>Steps.one (kbfn bf cs)) ?_
       exact bg.mono λu w5 g=>g.trans bh bi λr I=>by
        rcases qb6.1 I with rfl | I
        ·exact .inr (qbp _)
        ·exact .inl I
      rcases ksx U hq S2 bu with⟨I,hc⟩ | ⟨u,I,g⟩
      ·rw[ad]at I hc;intro cs;have aw:=(k1u (P:=P) (b:=b) (a:=a) (k:=k) (as:=as) (bd:=bd) (ps:=ps) (args:=#[]) af he (by rw[al];exact I) cs).1 _ _ rfl;obtain⟨e,w3,bz,hR,am,_,an⟩:=hc (b.atR {a with defers:=mark w.heap.size::a.defers} (.inRangeFunc (w.heap.size+1)::k)::cs);obtain⟨u,rfl,g⟩:=hR;obtain⟨u',w',Q,h1,h2,h3⟩:=aj u w3 g cs;refine⟨u',w',Q,h1,.head aw (Steps.trans am (.head (step_leave_returned an) ?_)),h3⟩;exact h2
      ·rw[ad]at I;intro cs;have aw:=(k1u (P:=P) (b:=b) (a:=a) (k:=k) (as:=as) (bd:=bd) (ps:=ps) (args:=#[]) af he (by rw[al];exact I) cs).2 _ rfl;obtain⟨u',w',Q,h1,h2,h3⟩:=aj u w2 g cs;exact⟨u',w',Q,h1,.head aw h2,h3⟩
     ·cases C
  ·cases C
theorem kbe2(vs:List AV):∀(i t:Nat)(v:AV),(kkr i vs).get t=some v->i<=t/\vs[t-i]?=some v:=by
 induction vs with
 | nil=>intro i t v h;simp[kkr,Fr.get]at h
 | cons x vs ih =>
  intro i t v h;simp only[kkr]at h;rw[Fr.get_cons]at h;split at h
  ·rename_i A;subst A;cases h;simp
  ·obtain⟨h1,C⟩:=ih (i+1) t v h;refine⟨by omega,?_⟩;rw[show t-i=(t-(i+1))+1 from by omega]
   simpa using C
theorem k1s{μ:Mu}{N:Nat}:∀(ts:List Tmp){vs:List AV}{us:List Value}{fr:Fr}{tmps:Array Value},FRel μ N fr tmps->VRels μ vs us->(ts.all λt=>Nat.blt t N)=true->FRel μ N (handed ts vs fr) ((ts.zip us).foldl (λtmps p=>tmps.setIfInBounds p.1 p.2) tmps)
 | [],vs,us,fr,tmps,F,V,h=>by cases vs<;>simpa[handed]using F
 | t::ts,[],us,fr,tmps,F,V,h=>by
  rw[V.nil_inv]
  simpa[handed]using F
 | t::ts,v::vs,us,fr,tmps,F,V,h=>by
  obtain⟨u,us',rfl,A,C⟩:=V.cons_inv;rw[List.all_cons,qb9]at h
  have H:FRel μ N ((t,v)::fr) (tmps.setIfInBounds t u):=by have:=FRel.put (a:={tmps,defers:=[]}) F (t:=t) (by simpa[Nat.blt_eq]using h.1) A;exact this
  have:=k1s ts H C h.2
  simpa[handed]using this
theorem k84{f:FuncId}{fn:Func}(C:P.funcs[f]?=some fn){μ:Mu}{h h':AH}{w:World}{v:AV}{us:List Value}{c:Code}(F:fn.body=some c)
  (H:Fin P none {(default:Frame)with fn:=f,kind:=.normal} [.code c] {tmps:=us.toArray++Array.replicate (fn.ntmps-us.toArray.size) undef,defers:=[]} w (GoodX P O [] μ h w v h')):Calls P f us.toArray w (Ends (Good P O μ h w v h')):=by
 intro cs;obtain⟨u,w',fr,g,st,I,K⟩:=H cs
 have A:Frame.enter P f us.toArray .normal=Frame.atR {(default:Frame)with fn:=f,kind:=.normal} {tmps:=us.toArray++Array.replicate (fn.ntmps-us.toArray.size) undef,defers:=[]} [.code c]:=by simp[Frame.enter,Frame.atR,C,F];rfl
 refine⟨.returned u,w',fr,⟨u,rfl,g.nil⟩,?_,I,K⟩;rw[A];exact st
theorem k8q{K:Keep}(hm:P.follows .mixedOrders=true){rec:Rec}(I:RecOk P O rec):RecOk P O (stepA P K rec):=by
 refine⟨?_,?_,?_,?_⟩
 ·intro f xs h v h' C μ w us S X;simp only[stepA,keb]at C;split at C
  ·rename_i fn A;split at C
   ·rename_i c Y;obtain⟨Z,Q⟩:=kz C;have Z:=Nat.le_of_ble_eq_true Z;have aa:=X.length
    have F:FRel μ fn.ntmps (kkr 0 xs) (us.toArray++Array.replicate (fn.ntmps-us.toArray.size) undef):=by
     refine⟨by simp;omega,λt y hy=>?_⟩;obtain⟨_,h2⟩:=kbe2 xs 0 t y hy;obtain⟨u,hu,ac⟩:=X.get _ y h2;simp only[Nat.sub_zero]at hu
     have ad:t<us.length:=by
      rcases Nat.lt_or_ge t us.length with h' | h'
      ·exact h'
      ·rw[List.getElem?_eq_none h']at hu;cases hu
     refine⟨u,?_,ac⟩;rw[Array.getElem?_append_left (by simpa using ad)]
     simpa using hu
    exact k84 A Y (kkq hm I A 4000 false Q μ w {(default:Frame)with fn:=f,kind:=.normal} {tmps:=us.toArray++Array.replicate (fn.ntmps-us.toArray.size) undef,defers:=[]} [] rfl rfl (show RoundOf μ none _ _ from rfl) rfl Marks.nil S F)
   ·cases C
  ·cases C
 ·intro f todo fr h v h' C fn A μ w b a ds hb H ae hd M S F;simp only[stepA,keb]at C;rw[A]at C;exact kkq hm I A 4000 true C μ w b a ds hb H ae hd M S F
 ·intro l xs h v h' C μ w us L S X hL;simp only[stepA,keb]at C;split at C
  ·rename_i st pe f fr ps as bd d hb;split at C
   ·rename_i fn A;obtain⟨Y,Q⟩:=kz C;rw[qb9]at Y;obtain⟨tmps,dd,hw,hF⟩:=S.blk l L _ hL hb;have aa:ps.size=xs.length:=Nat.eq_of_beq_eq_true Y.1;have ag:=X.length;refine⟨f,_,as,bd,run_yield hw (by simp only;rw[List.size_toArray];omega),λc cs=>?_⟩
    have U:(ps.zip us.toArray).foldl (λtmps x=>match x with | (t,a)=>tmps.setIfInBounds t a) tmps=(ps.toList.zip us).foldl (λtmps p=>tmps.setIfInBounds p.1 p.2) tmps:=by rw[<- Array.foldl_toList,Array.toList_zip]
    have F:=k1s ps.toList (hF fn A) X Y.2;have:=kkq hm I A 4000 false Q μ w {(default:Frame)with fn:=f,kind:=.normal,roundOf:=some L.block} {tmps:=(ps.toList.zip us).foldl (λtmps p=>tmps.setIfInBounds p.1 p.2) tmps,defers:=[]} [] rfl rfl (show RoundOf μ (some l) _ _ from⟨rfl,L,hL,rfl⟩) rfl Marks.nil S F;obtain⟨u,w',g,st⟩:=this c cs;refine⟨u,w',g.nil,?_⟩;simp only[U];exact st
   ·cases C
  ·cases C
 ·intro l f todo fr h v h' C fn A μ w b a L hb H hL af hd S F;simp only[stepA,keb]at C;rw[A]at C;exact kkq hm I A 4000 true C μ w b a [] hb H (show RoundOf μ (some l) b []from⟨rfl,L,hL,af⟩) hd Marks.nil S F
theorem kmg(K:Keep)(A:P.follows .mixedOrders=true):∀n,RecOk P O (runF P K n)
 | 0=>⟨λh=>by simp[runF]at h,λh=>by simp[runF]at h,λh=>by simp[runF]at h,λh=>by simp[runF]at h⟩
 | n+1=>k8q A (kmg K A n)
theorem ki0{K:Keep}{key:Key}{h:AH}{r:AV×AH}(A:run P K key h=some r):∃n,runF P K n key h=some r:=by
 unfold run at A;split at A
 ·rename_i C;have:=Classical.choose_spec (Classical.choose_spec C);cases A;exact⟨_,this⟩
 ·cases A
theorem run_ok(K:Keep)(C:P.follows .mixedOrders=true):RecOk P O (run P K):=⟨λh=>let ⟨n,A⟩:=ki0 h;(kmg K C n).fn A,λh=>let ⟨n,A⟩:=ki0 h;(kmg K C n).pt A,λh=>let ⟨n,A⟩:=ki0 h;(kmg K C n).round A,λh=>let ⟨n,A⟩:=ki0 h;(kmg K C n).rpt A⟩
end Go.Ab
namespace Go.Ab
variable{P:Program}
structure Ask where
 key:Key
 h:AH
 r:AV×AH
def Agree(rec:Rec)(l:List Ask):Prop:=∀x∈l,rec x.key x.h=some x.r
def Hangs{A:Type}(f:Rec->Option A):Prop:=∀rec r,f rec=some r->∃l,Agree rec l/\∀C,Agree C l->f C=some r
theorem Agree.append{rec:Rec}{l m:List Ask}(h:Agree rec l)(k:Agree rec m):Agree rec (l++m):=λx A=>by
 rcases qb5.1 A with A | A
 ·exact h x A
 ·exact k x A
theorem Agree.left{rec:Rec}{l m:List Ask}(h:Agree rec (l++m)):Agree rec l:=λx A=>h x (qb5.2 (.inl A))
theorem Agree.right{rec:Rec}{l m:List Ask}(h:Agree rec (l++m)):Agree rec m:=λx A=>h x (qb5.2 (.inr A))
theorem Hangs.const{A:Type}(x:Option A):Hangs (λ_=>x):=λrec r h=>⟨[],λ_ C=>by simp at C,λ_ _=>h⟩
abbrev qg:=@Hangs.const
theorem Hangs.ask(key:Key)(h:AH):Hangs (λrec=>rec key h):=λrec r F=>⟨[⟨key,h,r⟩],λx A=>by simp at A;subst A;exact F,λC h'=>h' ⟨key,h,r⟩ (by simp)⟩
theorem Hangs.bind{A B:Type}{f:Rec->Option A}{g:Rec->A->Option B}(F:Hangs f)(H:∀a,Hangs (λrec=>g rec a)):Hangs (λrec=>(f rec).bind (g rec)):=λrec r h=>by rw[qbu]at h;obtain⟨a,I,K⟩:=h;obtain⟨l,h1,Q⟩:=F rec a I;obtain⟨m,U,X⟩:=H a rec r K;exact⟨l++m,h1.append U,λC h'=>by dsimp only;rw[Q C h'.left];exact X C h'.right⟩
theorem Hangs.cond{A:Type}{c:Bool}{f g:Rec->Option A}(C:Hangs f)(F:Hangs g):Hangs (λrec=>cond c (f rec) (g rec)):=by
 cases c
 ·exact F
 ·exact C
abbrev qi:=@Hangs.cond
theorem ks9(f:FuncId)(args:List AV)(h:AH):Hangs (λrec=>callF P rec f args h):=by
 unfold callF;split
 ·refine qi (qg _) ?_;split
  ·exact Hangs.ask _ _
  ·exact qg _
 ·exact qg _
theorem kbh6(v:AV)(args:List AV)(h:AH):Hangs (λrec=>callV P rec v args h):=by
 unfold callV;split
 ·exact ks9 _ _ _
 ·exact qg _
theorem kba2(c:Call)(ty:TypeId)(fr:Fr)(h:AH):Hangs (λrec=>callK P rec c ty fr h pk):=by
 unfold callK;split
 ·exact qg _
 ·split
  ·exact qg _
  ·split
   ·exact(kbh6 _ _ _).bind λq=>qg _
   ·exact qg _
  ·split
   ·rename_i v _;cases v.asIface with
    | none=>exact qg _
    | some p =>
     obtain⟨g,e⟩:=ky3;simp only[qbt,e];cases g P p.1 _ p.2 h with
     | none=>exact qg _
     | some q=>exact(ks9 _ _ _).bind λq=>qg _
   ·exact qg _
theorem kq7(o:Op)(ty:TypeId)(fr:Fr)(h:AH):Hangs (λrec=>opK P rec o ty fr h pk):=by
 cases o<;>first
  | exact kba2 _ _ _ _
  | exact qg _
theorem kmt{N:Nat}{ops:Array Oper}{k:Rec->Fr->AH->Option (AV×AH)}(C:∀fr h,Hangs (λrec=>k rec fr h)):∀(is:List Nat)(fr:Fr)(h:AH),Hangs (λrec=>opsK P rec N ops is fr h (k rec))
 | [],fr,h=>C fr h
 | i::is,fr,h=>by
  have put:∀(d:Option Tmp)(v:AV)(fr:Fr)(h:AH),Hangs (λrec=>putT N d v fr λA=>opsK P rec N ops is A h (k rec)):=by
   intro d v fr h;simp only[ki4];split
   ·exact kmt C is _ _
   ·exact qi (kmt C is _ _) (qg _)
  have go:∀(o:Oper)(fr:Fr),Hangs (λrec=>opK P rec o.op o.type fr h λv h'=>putT N o.dst v fr λA=>opsK P rec N ops is A h' (k rec)):=by
   intro o fr
   have:(λrec=>opK P rec o.op o.type fr h λv h'=>putT N o.dst v fr λA=>opsK P rec N ops is A h' (k rec))=(λrec=>(opK P rec o.op o.type fr h pk).bind λp=>putT N o.dst p.1 fr λA=>opsK P rec N ops is A p.2 (k rec)):=by funext rec;exact kit rec P o.op o.type fr h _ _
   rw[this];exact(kq7 _ _ _ _).bind λp=>put _ _ _ _
  simp only[opsK];split
  ·exact qg _
  ·rename_i o F;split
   ·exact go o fr
   ·split
    ·exact qg _
    ·split
     ·exact qi (qi (go o _) (put _ _ _ _)) (qi (put _ _ _ _) (go o _))
     ·exact put _ _ _ _
     ·exact qg _
theorem k61(rec:Rec)(o:Op)(ty:TypeId)(fr:Fr)(h:AH)(R:Type)(k:AV->AH->Option R):opM P rec o ty fr h k=(opM P rec o ty fr h pk).bind λp=>k p.1 p.2:=by
 have ok:=kit rec P o ty fr h R k;unfold opM;split
 ·rfl
 ·(repeat' split)<;>simp[pk,kbs,Option.bind_assoc]
 ·(repeat' split)<;>simp[pk,kbs,Option.bind_assoc]
 ·obtain⟨g,e⟩:=kj0
  (repeat' split)<;>simp[e,pk,kbs,Option.bind_assoc]
 ·obtain⟨g,e⟩:=kj0
  (repeat' split)<;>simp[e,pk,kbs,Option.bind_assoc]
 ·(repeat' split)<;>simp[pk,kbs,Option.bind_assoc]
 ·(repeat' split)<;>first | exact ok | simp[pk,kbs,Option.bind_assoc]
 ·exact ok
theorem k6y(o:Op)(ty:TypeId)(fr:Fr)(h:AH):Hangs (λrec=>opM P rec o ty fr h pk):=by
 unfold opM;split
 ·exact qg _
 ·exact qg _
 ·exact qg _
 ·exact qg _
 ·exact qg _
 ·exact qg _
 ·split
  ·exact qg _
  ·exact qg _
  ·exact qg _
  ·exact kq7 _ _ _ _
 ·exact kq7 _ _ _ _
theorem k8n(rec:Rec)(o:Op)(ty:TypeId)(fr:Fr)(h:AH)(R:Type)(k:AV->AH->Option R):opY P rec o ty fr h k=(opY P rec o ty fr h pk).bind λp=>k p.1 p.2:=by
 unfold opY;split
 ·obtain⟨g,e⟩:=kx7;simp only[e];simp[pk,Option.bind_assoc]
 ·exact k61 rec o ty fr h R k
theorem k5z(o:Op)(ty:TypeId)(fr:Fr)(h:AH):Hangs (λrec=>opY P rec o ty fr h pk):=by
 unfold opY;split
 ·exact(Hangs.ask _ _).bind λq=>qg _
 ·exact k6y _ _ _ _
theorem kq0{N:Nat}{ops:Array Oper}{k:Rec->Fr->AH->Option (AV×AH)}(C:∀fr h,Hangs (λrec=>k rec fr h)):∀(is:List Nat)(fr:Fr)(h:AH),Hangs (λrec=>opsY P rec N ops is fr h (k rec))
 | [],fr,h=>C fr h
 | i::is,fr,h=>by
  have put:∀(d:Option Tmp)(v:AV)(fr:Fr)(h:AH),Hangs (λrec=>putT N d v fr λA=>opsY P rec N ops is A h (k rec)):=by
   intro d v fr h;simp only[ki4];split
   ·exact kq0 C is _ _
   ·exact qi (kq0 C is _ _) (qg _)
  have go:∀(o:Oper)(fr:Fr),Hangs (λrec=>opY P rec o.op o.type fr h λv h'=>putT N o.dst v fr λA=>opsY P rec N ops is A h' (k rec)):=by
   intro o fr
   have:(λrec=>opY P rec o.op o.type fr h λv h'=>putT N o.dst v fr λA=>opsY P rec N ops is A h' (k rec))=(λrec=>(opY P rec o.op o.type fr h pk).bind λp=>putT N o.dst p.1 fr λA=>opsY P rec N ops is A p.2 (k rec)):=by funext rec;exact k8n rec o.op o.type fr h _ _
   rw[this];exact(k5z _ _ _ _).bind λp=>put _ _ _ _
  simp only[opsY];split
  ·exact qg _
  ·rename_i o F;split
   ·exact go o fr
   ·split
    ·exact qg _
    ·split
     ·exact qi (qi (go o _) (put _ _ _ _)) (qi (put _ _ _ _) (go o _))
     ·exact put _ _ _ _
     ·exact qg _
theorem kbbo{A:Type}{p:Prop}{f:Rec->Option A}(C:Hangs f):Hangs (λrec=>whenK p (f rec)):=by
 unfold whenK;split
 ·exact C
 ·exact qg _
theorem ku2{A:Type}{m:Nat}{h h':AH}{f:Rec->Option A}(C:Hangs f):∀(ps:List Look),Hangs (λrec=>checkP m h h' (f rec) ps)
 | []=>C
 | p::ps=>qi (ku2 C ps) (kbbo (ku2 C ps))
theorem kol{N:Nat}{ops:Array Oper}{C F:List Nat}{k:Rec->Fr->AH->Option (AV×AH)}(H:∀fr h,Hangs (λrec=>k rec fr h)):∀(c:List Nat)(m:Nat)(ps:List Look)(fr:Fr)(h:AH),Hangs (λrec=>opsD P rec N ops C F c m ps fr h (k rec))
 | [],m,ps,fr,h=>qi (H fr h) (qg _)
 | i::c,m,ps,fr,h=>by
  simp only[opsD];split
  ·refine qi (qi (qi ?_ (qg _)) (qi ?_ (qg _))) (qg _)
   ·exact kmt (k:=λrec A h'=>opsD P rec N ops C F c _ _ A h' (k rec)) (λA h'=>kol H c _ _ A h') _ _ _
   ·exact kmt (k:=λrec A h'=>checkP _ h h' (opsD P rec N ops C F c _ ps A h' (k rec)) ps) (λA h'=>ku2 (kol H c _ _ A h') _) _ _ _
  ·exact qg _
theorem kbjg{N:Nat}{ops:Array Oper}{A:List Nat}{k:Rec->Fr->AH->Option (AV×AH)}(C:∀fr h,Hangs (λrec=>k rec fr h))(fr:Fr)(h:AH):Hangs (λrec=>drawK P rec N ops A fr h (k rec)):=qi (kol C _ _ _ _ _) (qg _)
theorem kbim{cs:List Operand}{a b:Fr}{x:Rec->Option (AV×AH)}(A:Hangs x):Hangs (λrec=>finK cs a b (x rec)):=by
 unfold finK;split
 ·exact A
 ·unfold whenK;split
  ·exact A
  ·exact qg _
theorem kz9{N:Nat}{A:List Nat}{fp:Fr}{k:Rec->Fr->AH->Option (AV×AH)}(F:∀fr h,Hangs (λrec=>k rec fr h)):∀(is:List Nat)(cs:List Operand)(ops:Array Oper)(ps:List Look)(fr:Fr)(h:AH),Hangs (λrec=>drawR P rec N A fp is cs ops ps fr h (k rec))
 | [],cs,ops,ps,fr,h=>qi (kol (k:=λrec C h'=>finK cs (C.low N) fp (k rec (C.low N) h')) (λfr h=>kbim (F _ _)) _ _ _ _ _) (qg _)
 | i::is,cs,ops,ps,fr,h=>by
  simp only[drawR];split
  ·rename_i o H;refine qi ?_ (qg _)
   have:(λrec=>opK P rec o.op o.type fp h λv h'=>drawR P rec N A fp is (o.op.operands.toList++cs) (ops.setIfInBounds i {o with op:=.move (.tmp (N+i))}) (⟨i,h.next,0⟩::ps) ((N+i,v)::fr) h' (k rec))=λrec=>(opK P rec o.op o.type fp h pk).bind λp=>drawR P rec N A fp is (o.op.operands.toList++cs) (ops.setIfInBounds i {o with op:=.move (.tmp (N+i))}) (⟨i,h.next,0⟩::ps) ((N+i,p.1)::fr) p.2 (k rec):=by funext rec;exact kit rec P o.op o.type fp h _ _
   rw[this];exact(kq7 _ _ _ _).bind λp=>kz9 F is _ _ _ _ _
  ·exact qg _
theorem k5g{N:Nat}{ops:Array Oper}{A C F:List Nat}{k:Rec->Fr->AH->Option (AV×AH)}(H:∀fr h,Hangs (λrec=>k rec fr h))(fr:Fr)(h:AH):Hangs (λrec=>drawX P rec N ops A C F fr h (k rec)):=by
 unfold drawX;split
 ·exact kbjg H fr h
 ·rename_i i is;refine qi ?_ (qg _);exact kmt (k:=λrec fp _=>drawR P rec N A fp (i::is) [] ops [] fr h (k rec)) (λfp _=>kz9 H _ _ _ _ _ _) _ _ _
theorem kne{K:Keep}{ro:Option Nat}{f:FuncId}{fn:Func}:∀(n:Nat)(fresh:Bool)(todo:List Item)(fr:Fr)(h:AH),Hangs (λrec=>execA P K rec ro f fn n fresh todo fr h)
 | 0,fresh,todo,fr,h=>qg _
 | n+1,fresh,todo,fr,h=>by
  unfold execA
  try simp only[keb]
  have A:=kne (K:=K) (ro:=ro) (f:=f) (fn:=fn) n;have F:∀(ops:Array Oper)(is js ls:List Nat)(k:List Item)(fr:Fr)(h:AH),Hangs (λrec=>cond (ro.isSome&&kin ops) none (drawX P rec fn.ntmps ops is js ls fr h λC h'=>execA P K rec ro f fn n false k C h')):=λops is js ls k fr h=>qi (qg _) (k5g (λC h'=>A false _ C h') _ _);split
  ·exact qg _
  ·exact qg _
  ·exact A _ _ _ _
  ·exact A _ _ _ _
  ·exact A _ _ _ _
  ·exact A _ _ _ _
  ·exact A _ _ _ _
  ·split
   ·exact qi (A _ _ _ _) (A _ _ _ _)
   ·exact qg _
  ·exact A _ _ _ _
  ·exact A _ _ _ _
  ·exact A _ _ _ _
  ·exact A _ _ _ _
  ·split
   ·exact A _ _ _ _
   ·exact qg _
  ·split
   ·exact A _ _ _ _
   ·exact qg _
  ·refine qi ?_ ?_
   ·exact qi (F _ _ _ _ _ _ _) (kq0 (λC h'=>A false _ C h') _ _ _)
   ·split
    ·split
     ·exact Hangs.ask _ _
     ·exact Hangs.ask _ _
    ·exact qi (F _ _ _ _ _ _ _) (kq0 (λC h'=>A false _ C h') _ _ _)
  ·split
   ·exact(qg _).bind λh'=>A _ _ _ _
   ·exact qg _
  ·split
   ·exact qg _
   ·refine qi ?_ (Hangs.ask _ _);split
    ·exact(ks9 _ _ _).bind λq=>(qg _).bind λp=>Hangs.ask _ _
    ·exact qg _
  ·exact qg _
theorem kt7(K:Keep)(key:Key)(h:AH):Hangs (λrec=>stepA P K rec key h):=by
 unfold stepA
 try simp only[keb]
 split
 ·split
  ·split
   ·exact qi (kne _ _ _ _ _) (qg _)
   ·exact qg _
  ·exact qg _
 ·split
  ·exact kne _ _ _ _ _
  ·exact qg _
 ·split
  ·split
   ·exact qi (kne _ _ _ _ _) (qg _)
   ·exact qg _
  ·exact qg _
 ·split
  ·exact kne _ _ _ _ _
  ·exact qg _
theorem k4v(K:Keep):∀(n:Nat){key:Key}{h:AH}{r:AV×AH},runF P K n key h=some r->runF P K (n+1) key h=some r
 | 0,key,h,r,A=>by simp[runF]at A
 | n+1,key,h,r,A=>by obtain⟨l,h1,C⟩:=kt7 (P:=P) K key h (runF P K n) r A;exact C (runF P K (n+1)) λx F=>k4v K n (h1 x F)
theorem ko1(K:Keep){n m:Nat}(A:n<=m){key:Key}{h:AH}{r:AV×AH}(C:runF P K n key h=some r):runF P K m key h=some r:=by
 induction A with
 | refl=>exact C
 | step _ ih=>exact k4v K _ ih
theorem kxc{K:Keep}{n:Nat}{key:Key}{h:AH}{r:AV×AH}(F:runF P K n key h=some r):run P K key h=some r:=by
 cases A:run P K key h with
 | none =>
  unfold run at A;split at A
  ·cases A
  ·rename_i C;exact absurd ⟨n,r,F⟩ C
 | some Q =>obtain⟨m,I⟩:=ki0 A;have h1:=ko1 K (Nat.le_max_left n m) F;have H:=ko1 K (Nat.le_max_right n m) I;rw[h1]at H;exact H.symm
theorem k2h(K:Keep):∀(l:List Ask),Agree (run P K) l->∃n,Agree (runF P K n) l
 | [],_=>⟨0,λ_ C=>by simp at C⟩
 | x::l,h=>by
  obtain⟨n,F⟩:=k2h K l λy A=>h y (by simp[A]);obtain⟨m,H⟩:=ki0 (h x (by simp));refine⟨max n m,λy A=>?_⟩;rcases qb6.1 A with rfl | A
  ·exact ko1 K (Nat.le_max_right n m) H
  ·exact ko1 K (Nat.le_max_left n m) (F y A)
theorem kbfw(K:Keep)(key:Key)(h:AH):run P K key h=stepA P K (run P K) key h:=by
 cases F:stepA P K (run P K) key h with
 | some r =>
  obtain⟨l,h1,C⟩:=kt7 (P:=P) K key h _ r F;obtain⟨n,A⟩:=k2h K l h1;exact kxc (n:=n+1) (C _ A)
 | none =>
  cases H:run P K key h with
  | none=>rfl
  | some r =>
   obtain⟨n,A⟩:=ki0 H;cases n with
   | zero=>simp[runF]at A
   | succ n =>obtain⟨l,h1,C⟩:=kt7 (P:=P) K key h (runF P K n) r A;have:=C (run P K) λx I=>kxc (h1 x I);dsimp only at this;rw[F]at this;cases this
end Go.Ab
namespace Go.Ab
def newK{R:Type}(h:AH)(b:ABlk)(k:Ref->AH->R):R:=k h.next (h.alloc b)
def newM{R:Type}(h:AH)(b:ABlk)(k:Nat->AH->R):R:=k h.blks.size (h.alloc b)
def kbmw(v:AV)(xs:List AV):Option (Nat×List AV):=match v with
 | .func (.yield l) [] []=>some (l,xs)
 | _=>none
def yieldK{R:Type}(v:AV)(xs:List AV)(a:Nat×List AV->R)(b:R):R:=match kbmw v xs with
 | some p=>a p
 | none=>b
def funcK{R:Type}(v:AV)(k:FuncId->List AV->List AV->Option R):Option R:=match v with
 | .func (.func f) first captured=>k f first captured
 | _=>none
def loopIn:Nat->Code->List Item->Nat×Option (Array Tmp×Code×Code×List Item)
 | r,.seq a b,k=>match loopIn r a (.code b::k)with
  | (A,none)=>loopIn A b k
  | x=>x
 | r,.cond _ a b,k=>match loopIn r a k with
  | (A,none)=>loopIn A b k
  | x=>x
 | r,.block id b,k=>loopIn r b (.inBlock id::k)
 | r,.loop b,k=>loopIn r b (.inLoop b::k)
 | r,.scope b,k=>loopIn r b (.inScope b::k)
 | 0,.rangeFunc _ ps a b,k=>(0,some (ps,a,b,k))
 | r+1,.rangeFunc _ _ _ _,_=>(r,none)
 | r,_,_=>(r,none)
def loopAt(fn:Func)(r:Nat):Array Tmp×Code×Code×List Item :=
 match fn.body with
 | some c=>((loopIn r c []).2).getD (#[],.skip,.skip,[])
 | none=>(#[],.skip,.skip,[])
def kbbd(fn:Func)(r:Nat)(g:Operand):List Item:=.code (.rangeFunc g (loopAt fn r).1 (loopAt fn r).2.1 (loopAt fn r).2.2.1)::(loopAt fn r).2.2.2
def kvb(fn:Func)(f:FuncId)(r:Nat)(st:LoopState)(A:Option Code)(fr:Fr):ABlk:=.loop st A f fr (loopAt fn r).1 (loopAt fn r).2.1 (loopAt fn r).2.2.1 0
theorem kbit{P:Program}{K:Keep}{rec:Rec}{l:Nat}{args:List AV}{h:AH}{st:LoopState}{A:Option Code}{f:FuncId}{fr:Fr}{ps:Array Tmp}{bs bd:Code}{d:Nat}(C:h.blks[l]?=some (.loop st A f fr ps bs bd d)) :
  stepA P K rec (.round l args) h=match P.funcs[f]? with
   | some fn=>cond (Nat.beq ps.size args.length&&ps.toList.all λt=>Nat.blt t fn.ntmps) (execA P K rec (some l) f fn 4000 false [.code bs,.beginRound,.code bd] (handed ps.toList args fr) h) none
   | none=>none:=by
 simp only[stepA,C];rfl
def keepOf:List (Nat×Nat×List Nat)->Keep
 | [],_,_=>none
 | (f,r,l)::t,g,q=>cond (Nat.beq f g&&Nat.beq r q) (some l) (keepOf t g q)
def todoIn(r:Nat):Code->List Item->Option (List Item)
 | .region id ops draw,k=>cond (Nat.beq id r) (some (.code (.region id ops draw)::k)) none
 | .seq a b,k=>match todoIn r a (.code b::k)with
  | some t=>some t
  | none=>todoIn r b k
 | .cond _ a b,k=>match todoIn r a k with
  | some t=>some t
  | none=>todoIn r b k
 | .block id b,k=>todoIn r b (.inBlock id::k)
 | .loop b,k=>todoIn r b (.inLoop b::k)
 | .scope b,k=>todoIn r b (.inScope b::k)
 | .rangeFunc _ _ a b,k=>match todoIn r a [.beginRound,.code b]with
  | some t=>some t
  | none=>todoIn r b []
 | _,_=>none
def todoAt(fn:Func)(r:Nat):List Item :=
 match fn.body with
 | some c=>(todoIn r c []).getD []
 | none=>[]
variable{P:Program}
theorem Sim.begin(W:World):Sim P W (λ_=>none) ⟨W.heap,#[]⟩ W:=⟨rfl,rfl,rfl,rfl,qbp _,λ_ _=>rfl,λ_ _ h=>by simp at h,λ_ _ h=>by simp at h,λ_ _ _ h=>by simp at h,λ_ _ _ _ h=>by simp at h⟩
theorem start(C:P.follows .mixedOrders=true){K:Keep}{f:FuncId}{xs:List AV}{b:Bool}{W:World}{h':AH}(F:run P K (.fn f xs) ⟨W.heap,#[]⟩=some (.bool b,h')){args:Array Value}(H:VRels (λ_=>none) xs args.toList) :
  Calls P f args W λe w'=>e=.returned (.bool b)/\Go.RowKit.Below W.heap.size W w':=by
 have:=(run_ok (P:=P) (O:=W) K C).fn F (Sim.begin W) H;rw[Array.toArray_toList]at this;refine this.mono ?_
 rintro e w' ⟨u,rfl,ν,A,S,-,-⟩
 simp only[VRel]at A;subst A;exact⟨rfl,S.os,S.tape,S.output,S.base,S.keep⟩
end Go.Ab
namespace Go.Ab
open Go.WideShapes
variable{P:Program}
def ArgC(P:Program)(h:AH):Nat->TypeId->List AV->Prop
 | 0,_,_=>False
 | n+1,t,cs=>match P.underlying t with
  | some (.int k)=>∃x,cs=[.int k x]/\(Lit.int k x).wf=true
  | some .bool=>∃b,cs=[.bool b]
  | some .string=>∃s,cs=[.str s]/\s.size<=maxLen
  | some (.pointer e)=>cs=[.ptr none]\/∃a es,cs=[.ptr (some (.old a))]/\h.gets (.old a) (P.cellsOf e)=some es/\ArgC P h n e es
  | some (.slice e)=>cs=[.slice none 0 (.is 0)]\/∃a len cap,cs=[.slice (some (.old a)) len (.is cap)]/\len<=cap/\cap<=maxLen/\
    ∀i,i<len->∃es,h.gets (.old (a.add (i*P.cellsOf e))) (P.cellsOf e)=some es/\ArgC P h n e es
  | some (.struct fs)=>cs.length=P.cellsOf t/\∀f∈fs.toList,ArgC P h n f.type ((cs.drop f.offset).take (P.cellsOf f.type))
  | some (.array m e)=>cs.length=P.cellsOf t/\∀i,i<m->ArgC P h n e ((cs.drop (i*P.cellsOf e)).take (P.cellsOf e))
  | _=>True
def ArgT(P:Program)(h:AH)(t:TypeId)(cs:List AV):Prop:=∃n,ArgC P h n t cs
def tiles(P:Program)(total:Nat):List Field->Nat->Bool
 | [],n=>Nat.beq n total
 | f::fs,n=>Nat.beq f.offset n&&tiles P total fs (n+P.cellsOf f.type)
def argTy(P:Program):Nat->TypeId->Bool
 | 0,_=>false
 | d+1,t=>match P.underlying t with
  | some (.int _) | some .bool | some .string=>true
  | some (.pointer e)=>argTy P d e
  | some (.slice e)=>argTy P d e
  | some (.struct fs)=>fs.toList.all (λf=>argTy P d f.type)&&tiles P (P.cellsOf t) fs.toList 0
  | some (.array m e)=>argTy P d e&&Nat.beq (P.cellsOf t) (m*P.cellsOf e)
  | _=>false
theorem ku1:∀{us:List Value}{vs:List AV},AV.ofCells us=some vs->vs.length=us.length/\∀(i:Nat)(u:Value),us[i]?=some u->∃v,vs[i]?=some v/\AV.ofCell u=some v
 | [],vs,h=>by simp[AV.ofCells]at h;subst h;simp
 | u::us,vs,h=>by
  simp only[AV.ofCells]at h;split at h
  ·rename_i x xs F A;cases h;obtain⟨h1,H⟩:=ku1 A;refine⟨by simp[h1],λi w C=>?_⟩;cases i with
   | zero=>simp at C;subst C;exact⟨x,by simp,F⟩
   | succ i=>simpa using H i w (by simpa using C)
  ·cases h
theorem kvc:∀{us:List Value}{vs:List AV}(n:Nat),AV.ofCells us=some vs->AV.ofCells (us.take n)=some (vs.take n)
 | _,_,0,h=>by simp[AV.ofCells]
 | [],vs,n+1,h=>by simp[AV.ofCells]at h;subst h;simp[AV.ofCells]
 | u::us,vs,n+1,h=>by
  simp only[AV.ofCells]at h;split at h
  ·rename_i x xs C A;cases h;simp[AV.ofCells,C,kvc n A]
  ·cases h
theorem kv1:∀{us:List Value}{vs:List AV}(n:Nat),AV.ofCells us=some vs->AV.ofCells (us.drop n)=some (vs.drop n)
 | _,_,0,h=>by simpa using h
 | [],vs,n+1,h=>by simp[AV.ofCells]at h;subst h;simp[AV.ofCells]
 | u::us,vs,n+1,h=>by
  simp only[AV.ofCells]at h;split at h
  ·rename_i x xs C A;cases h
   simpa using kv1 n A
  ·cases h
theorem cell_old{w:World}{a:Addr}{u:Value}(h:w.cell? a=some u):AH.cell ⟨w.heap,#[]⟩ (.old a)=AV.ofCell u:=by
 simp only[World.cell?]at h;simp only[AH.cell];split at h
 ·rename_i c e k A;rw[A];dsimp only;split at h
  ·cases h
  ·rename_i C;rw[if_neg C,h];rfl
 ·cases h
theorem kwc{w:World}:∀(n:Nat){r:Ref}{us:List Value}{vs:List AV},us.length=n->(∀(i:Nat)(u:Value),us[i]?=some u->AH.cell ⟨w.heap,#[]⟩ (r.add i)=AV.ofCell u)->AV.ofCells us=some vs->AH.gets ⟨w.heap,#[]⟩ r n=some vs
 | 0,r,us,vs,C,F,A=>by
  have:us=[]:=List.length_eq_zero_iff.1 C;subst this;simp[AV.ofCells]at A;subst A;rfl
 | n+1,r,u::us,vs,C,F,A=>by
  simp only[AV.ofCells]at A;split at A
  ·rename_i x xs I H;cases A;have h0:=F 0 u (by simp);have K:r.add 0=r:=by cases r<;>simp[Ref.add,Addr.add]
   rw[K]at h0
   have Q:∀i,(r.add 1).add i=r.add (i+1):=by
    intro i;cases r with
    | old a =>
     simp only[Ref.add,Addr.add];by_cases hi:i=0
     ·subst hi;simp
     ·simp[hi,Nat.add_assoc,Nat.add_comm 1 i]
    | new j o=>simp only[Ref.add];congr 1;omega
   have:=kwc n (r:=r.add 1) (us:=us) (by simpa using C) (λi U X=>by rw[Q];exact F (i+1) U (by simpa using X)) H
   simp only[AH.gets,h0,I,qbt,this,Option.map_some]
  ·cases A
theorem kbl7{w:World}{base n:Nat}{a:Addr}{cs:List Value}(h:w.cells? base a n=some cs):cs.length=n/\∀(i:Nat)(u:Value),cs[i]?=some u->w.cell? (a.add i)=some u:=by
 unfold World.cells? at h;split at h
 ·have C:=mapM_some_length h;simp at C;refine⟨C,λi u A=>?_⟩
  have hi:i<n:=by
   rcases Nat.lt_or_ge i n with h' | h'
   ·exact h'
   ·rw[List.getElem?_eq_none (by omega)]at A;cases A
  have:=mapM_some_get h i i (by simp[hi]);rw[this,A]
 ·cases h
theorem kzm{w:World}{base n:Nat}{a:Addr}{cs:List Value}{vs:List AV}(h:w.cells? base a n=some cs)(A:AV.ofCells cs=some vs):AH.gets ⟨w.heap,#[]⟩ (.old a) n=some vs:=by obtain⟨h1,C⟩:=kbl7 h;exact kwc n h1 (λi u F=>cell_old (C i u F)) A
theorem kxh{us xs:List Value}{vs ys:List AV}(h:AV.ofCells us=some vs)(k:AV.ofCells xs=some ys):AV.ofCells (us++xs)=some (vs++ys):=by
 induction us generalizing vs with
 | nil=>simp[AV.ofCells]at h;subst h;simpa using k
 | cons u us ih =>
  simp only[AV.ofCells]at h;split at h
  ·rename_i a as A has;cases h;simp[AV.ofCells,A,ih has]
  ·cases h
theorem kwr{P:Program}{cs:List Value}{total:Nat}(H:cs.length=total):∀(C:List Field)(n:Nat),tiles P total C n=true->(∀f∈C,∃vs,AV.ofCells ((cs.drop f.offset).take (P.cellsOf f.type))=some vs)->∃vs,AV.ofCells (cs.drop n)=some vs
 | [],n,A,h=>by
  simp only[tiles]at A;have:=Nat.eq_of_beq_eq_true A;exact⟨[],by rw[List.drop_of_length_le (by omega)];rfl⟩
 | f::C,n,A,h=>by simp only[tiles,qb9]at A;have h1:=Nat.eq_of_beq_eq_true A.1;obtain⟨vs,F⟩:=h f (by simp);obtain⟨ws,I⟩:=kwr H C _ A.2 λg K=>h g (by simp[K]);refine⟨vs++ws,?_⟩;rw[h1]at F;rw[<- List.take_append_drop (P.cellsOf f.type) (cs.drop n),List.drop_drop];exact kxh F I
theorem kxn{cs:List Value}{c:Nat}:∀(m n:Nat),cs.length=(n+m)*c->(∀i,n<=i->i<n+m->∃vs,AV.ofCells ((cs.drop (i*c)).take c)=some vs)->∃vs,AV.ofCells (cs.drop (n*c))=some vs
 | 0,n,A,h=>⟨[],by rw[List.drop_of_length_le (by simp at A;omega)];rfl⟩
 | m+1,n,A,h=>by obtain⟨vs,F⟩:=h n (qbp _) (by omega);obtain⟨ws,C⟩:=kxn m (n+1) (by rw[A];congr 1;omega) λi h1 H=>h i (by omega) (by omega);refine⟨vs++ws,?_⟩;rw[<- List.take_append_drop c (cs.drop (n*c)),List.drop_drop];rw[Nat.succ_mul]at C;exact kxh F C
theorem km1{H:Type}{aa:TypeId×Value->H}{w:World}{base:Nat}{I:Nat->Bool}{X:Bool}:∀(n d:Nat){t:TypeId}{cs:List Value}{x:DataW H×List MemPlace},
  argTy P d t=true->DataW.trod aa P w base I X n t cs=some x->∃vs,AV.ofCells cs=some vs/\ArgC P ⟨w.heap,#[]⟩ n t vs
 | 0,d,t,cs,x,A,h=>by simp[DataW.trod]at h
 | n+1,0,t,cs,x,A,h=>by simp[argTy]at A
 | n+1,d+1,t,cs,x,A,h=>by
  simp only[argTy]at A;simp only[ArgC];split at A
  ·rename_i k C
   have:∃z,cs=[.int k z]/\(Lit.int k z).wf=true:=by unfold DataW.trod at h;rw[C]at h;split at h<;>simp_all
   obtain⟨z,rfl,hz⟩:=this;exact⟨[.int k z],rfl,z,rfl,hz⟩
  ·rename_i C
   have:∃z,cs=[.bool z]:=by unfold DataW.trod at h;rw[C]at h;split at h<;>simp_all
   obtain⟨z,rfl⟩:=this;exact⟨[.bool z],rfl,z,rfl⟩
  ·rename_i C
   have:∃z,cs=[.string z]/\z.size<=maxLen:=by unfold DataW.trod at h;rw[C]at h;split at h<;>simp_all
   obtain⟨z,rfl,hz⟩:=this;exact⟨[.str z],rfl,z,rfl,hz⟩
  ·rename_i e C;rcases DataW.trod_pointer C h with⟨rfl,-⟩ | ⟨a,cs',y,m,hm,rfl,-,hc,Z⟩
   ·exact⟨[.ptr none],rfl,.inl rfl⟩
   ·cases hm;obtain⟨es,h1,Q⟩:=km1 n d A Z;exact⟨[.ptr (some (.old a))],rfl,.inr ⟨a,es,rfl,kzm hc h1,Q⟩⟩
  ·rename_i e C;rcases DataW.trod_slice C h with⟨rfl,-⟩ | ⟨a,len,cap,K,rest,m,hm,rfl,-,-,Y,hc,af,hi,-,-⟩
   ·exact⟨[.slice none 0 (.is 0)],rfl,.inl rfl⟩
   ·cases hm;refine⟨[.slice (some (.old a)) len (.is cap)],by simp[AV.ofCells,AV.ofCell,Nat.ble_eq_true_of_le Y],.inr ⟨a,len,cap,rfl,Y,hc,λi ac=>?_⟩⟩;have h1:=hi i ac;have:∃y,K[i]?=some y:=⟨K[i]'(by omega),by simp⟩;obtain⟨y,Z⟩:=this;rw[Z,qbu]at h1;obtain⟨cs',Q,h3⟩:=h1;obtain⟨es,h4,h5⟩:=km1 n d A h3;exact⟨es,kzm Q h4,h5⟩
  ·rename_i fs C;simp only[qb9,List.all_eq_true]at A;obtain⟨xs,m,hm,-,Y,hx,hf⟩:=DataW.trod_struct C h;cases hm
   have key:∀f∈fs.toList,∃vs,AV.ofCells ((cs.drop f.offset).take (P.cellsOf f.type))=some vs/\ArgC P ⟨w.heap,#[]⟩ n f.type vs:=by intro f F;obtain⟨i,hi,rfl⟩:=List.getElem_of_mem F;have h1:=hf i fs.toList[i] (by simp);have:∃y,xs[i]?=some y:=⟨xs[i]'(by simp at hi;omega),by simp⟩;obtain⟨y,Z⟩:=this;rw[Z]at h1;exact km1 n d (A.1 _ F) h1
   obtain⟨vs,U⟩:=kwr (P:=P) Y fs.toList 0 A.2 λf F=>(key f F).imp λ_ h=>h.1;rw[List.drop_zero]at U;refine⟨vs,U,by rw[(ku1 U).1,Y],λf F=>?_⟩;obtain⟨ws,h1,Q⟩:=key f F;have:=kvc (P.cellsOf f.type) (kv1 f.offset U);rw[h1]at this;cases this;exact Q
  ·rename_i m e C;simp only[qb9]at A;have ad:=Nat.eq_of_beq_eq_true A.2;unfold DataW.trod at h;rw[C]at h
   have h:(if cs.length=P.cellsOf t then((List.range m).mapM λi=>DataW.trod aa P w base I X n e ((cs.drop (i*P.cellsOf e)).take (P.cellsOf e))).map λxs=>((.agg (xs.map (·.1)),xs.flatMap (·.2)):DataW H×List MemPlace)else none)=some x:=by split at h<;>simp_all
   split at h
   ·rename_i Y;simp only[Option.map_eq_some_iff]at h;obtain⟨xs,h1,-⟩:=h;have ae:=mapM_some_length h1;simp at ae
    have key:∀i,i<m->∃vs,AV.ofCells ((cs.drop (i*P.cellsOf e)).take (P.cellsOf e))=some vs/\ArgC P ⟨w.heap,#[]⟩ n e vs:=by intro i hi;have Q:=mapM_some_get h1 i i (by simp[hi]);have:∃y,xs[i]?=some y:=⟨xs[i]'(by omega),by simp⟩;obtain⟨y,Z⟩:=this;rw[Z]at Q;exact km1 n d A.1 Q
    obtain⟨vs,U⟩:=kxn (c:=P.cellsOf e) m 0 (by rw[Y,ad,Nat.zero_add]) λi _ hi=>(key i (by omega)).imp λ_ h=>h.1;rw[Nat.zero_mul,List.drop_zero]at U;refine⟨vs,U,by rw[(ku1 U).1,Y],λi hi=>?_⟩;obtain⟨ws,Q,h3⟩:=key i hi;have:=kvc (P.cellsOf e) (kv1 (i*P.cellsOf e) U);rw[Q]at this;cases this;exact h3
   ·cases h
  ·cases A
def ArgV(P:Program)(h:AH)(t:TypeId)(x:AV):Prop :=
 match P.underlying t with
 | some (.struct _) | some (.array _ _)=>∃cs,x=.agg cs/\ArgT P h t cs
 | _=>ArgT P h t [x]
theorem arg_open{H:Type}{Y:TypeId×Value->H}{W:World}{base K:Nat}{Q:Nat->Bool}{U:Bool}{t:TypeId}{v:Value}{d:DataW H}{ps:List MemPlace}{Z:Reach}(d':Nat)(X:argTy P (d'+1) t=true)
  (I:Value.okWide P W Z base t v) (h:DataW.Trod Y P W K Q U t v d ps):∃x,VRel (λ_=>none) x v/\ArgV P ⟨W.heap,#[]⟩ t x:=by
 obtain⟨n,hn⟩:=h;obtain⟨vs,h1,h2⟩:=km1 n (d'+1) X hn
 have agg:∀cs:Array Value,v=.agg cs->∃x,VRel (λ_=>none) x v/\∃cs',x=.agg cs'/\ArgT P ⟨W.heap,#[]⟩ t cs':=by
  rintro cs rfl
  obtain⟨h3,h4⟩:=VRels.ofCells (μ:=λ_=>none) h1;exact⟨.agg vs,by simp only[VRel];exact⟨cs,rfl,h3,h4⟩,vs,rfl,n,h2⟩
 have cell:∀u,v.cells.toList=[u]->v=u->∃x,VRel (λ_=>none) x v/\ArgT P ⟨W.heap,#[]⟩ t [x]:=by
  rintro u hc rfl
  rw[hc]at h1;simp only[AV.ofCells]at h1;split at h1
  ·rename_i x xs hx aa;cases h1;cases aa;exact⟨x,(VRel.ofCell hx).1,n,h2⟩
  ·cases h1
 have C:(∀cs,v≠.agg cs)->∃x,VRel (λ_=>none) x v/\ArgT P ⟨W.heap,#[]⟩ t [x]:=by intro ac;refine cell v ?_ rfl;cases v<;>first | rfl | exact absurd rfl (ac _)
 simp only[argTy]at X;unfold ArgV;split at X
 ·rename_i k F;simp only[F];obtain⟨z,rfl,-⟩:=okWide_int F I;exact C λcs A=>by cases A
 ·rename_i F;simp only[F];obtain⟨z,rfl⟩:=okWide_bool F I;exact C λcs A=>by cases A
 ·rename_i F;simp only[F];obtain⟨z,rfl⟩:=okWide_string F I;exact C λcs A=>by cases A
 ·rename_i e F;simp only[F];obtain⟨z,rfl⟩:=okWide_pointer F I;exact C λcs A=>by cases A
 ·rename_i e F;simp only[F];obtain⟨z,l,c,rfl⟩:=okWide_slice F I;exact C λcs A=>by cases A
 ·rename_i fs F;simp only[F];obtain⟨cs,A,-⟩:=okWide_struct F I;exact agg cs A
 ·rename_i m e F;simp only[F];unfold Value.okWide at I;rw[F]at I;obtain⟨cs,A,-⟩:=I;exact agg cs A
 ·cases X
theorem ArgT.int{h:AH}{t:TypeId}{k:IntKind}{cs:List AV}(A:P.underlying t=some (.int k))(a:ArgT P h t cs):∃x,cs=[.int k x]/\(Lit.int k x).wf=true:=by
 obtain⟨n,a⟩:=a;cases n with
 | zero=>simp[ArgC]at a
 | succ n=>simpa[ArgC,A]using a
theorem ArgT.slice{h:AH}{t e:TypeId}{cs:List AV}(A:P.underlying t=some (.slice e))(a:ArgT P h t cs):cs=[.slice none 0 (.is 0)]\/∃a len cap,cs=[.slice (some (.old a)) len (.is cap)]/\len<=cap/\cap<=maxLen/\
    ∀i,i<len->∃es,h.gets (.old (a.add (i*P.cellsOf e))) (P.cellsOf e)=some es/\ArgT P h e es:=by
 obtain⟨n,a⟩:=a;cases n with
 | zero=>simp[ArgC]at a
 | succ n =>
  simp only[ArgC,A]at a;rcases a with a | ⟨a,len,cap,h1,C,F,H⟩
  ·exact .inl a
  ·exact .inr ⟨a,len,cap,h1,C,F,λi hi=>(H i hi).imp λes h=>⟨h.1,n,h.2⟩⟩
theorem ArgT.struct{h:AH}{t:TypeId}{A:Array Field}{cs:List AV}(C:P.underlying t=some (.struct A))(a:ArgT P h t cs):cs.length=P.cellsOf t/\∀f∈A.toList,ArgT P h f.type ((cs.drop f.offset).take (P.cellsOf f.type)):=by
 obtain⟨n,a⟩:=a;cases n with
 | zero=>simp[ArgC]at a
 | succ n =>simp only[ArgC,C]at a;exact⟨a.1,λf F=>⟨n,a.2 f F⟩⟩
end Go.Ab
namespace Go.Ab
def AH.push(h:AH)(b:ABlk):AH:=h.alloc b
@[simp] theorem kbw{R:Type}(h:AH)(b:ABlk)(k:Ref->AH->R):newK h b k=k (.new h.blks.size 0) (h.push b):=rfl
@[simp] theorem kb(k:IntKind)(n:Int):AV.asInt k (.int k n)=some n:=by simp[AV.asInt]
abbrev qcp{k:IntKind}{n:Int}:=kb k n
@[simp] theorem kbo(b:Bool):AV.asBool (.bool b)=some b:=rfl
@[simp] theorem asStr_str(s:ByteArray):AV.asStr (.str s)=some s:=rfl
@[simp] theorem asPtr_ptr(r:Option Ref):AV.asPtr (.ptr r)=some r:=rfl
@[simp] theorem asMap_map(r:Option Nat):AV.asMap (.map r)=some r:=rfl
@[simp] theorem asSl_slice(r:Option Ref)(n:Nat)(c:Cap):AV.asSl (.slice r n c)=some ⟨r,n,c⟩:=rfl
@[simp] theorem asSl_v(s:Sl):AV.asSl s.v=some s:=rfl
abbrev qco{s:Sl}:=asSl_v s
@[simp] theorem asAgg_agg(cs:List AV):AV.asAgg (.agg cs)=some cs:=rfl
@[simp] theorem asIface_iface(t:TypeId)(v:AV):AV.asIface (.iface t v)=some (t,v):=rfl
@[simp] theorem asTup0_tup:AV.asTup0 (.tup [])=some ():=rfl
@[simp] theorem kc5(a b:AV):AV.asTup2 (.tup [a,b])=some (a,b):=rfl
@[simp] theorem kbl3(a b c:AV):AV.asTup3 (.tup [a,b,c])=some (a,b,c):=rfl
@[simp] theorem asTup4_tup(a b c d:AV):AV.asTup4 (.tup [a,b,c,d])=some (a,b,c,d):=rfl
attribute [simp] Ref.add_zero
@[simp] theorem Ref.add_new(i o n:Nat):(Ref.new i o).add n=.new i (o+n):=rfl
abbrev qj:=@Ref.add_new
@[simp] theorem AH.push_size(h:AH)(b:ABlk):(h.push b).blks.size=h.blks.size+1:=by simp[AH.push,AH.alloc]
def Ref.inn(h:AH):Ref->Prop
 | .old _=>True
 | .new i _=>i<h.blks.size
structure Grow(h h':AH):Prop where
 old:h'.old=h.old
 size:h.blks.size<=h'.blks.size
 blk:∀i,i<h.blks.size->h'.blks[i]?=h.blks[i]?
theorem Grow.refl(h:AH):Grow h h:=⟨rfl,qbp _,λ_ _=>rfl⟩
abbrev ql:=@Grow.refl
theorem Grow.trans{a b c:AH}(x:Grow a b)(y:Grow b c):Grow a c:=⟨y.old.trans x.old,qbq x.size y.size,λi hi=>(y.blk i (qbr hi x.size)).trans (x.blk i hi)⟩
theorem Grow.push(h:AH)(b:ABlk):Grow h (h.push b):=⟨rfl,by simp,λi hi=>by simp[AH.push,AH.alloc,Array.getElem?_push,Nat.ne_of_lt hi]⟩
abbrev qm:=@Grow.push
theorem Grow.push'{h h':AH}{b:ABlk}(g:Grow (h.push b) h'):Grow h h':=(qm h b).trans g
theorem Grow.cell{h h':AH}(g:Grow h h'){r:Ref}(A:r.inn h):h'.cell r=h.cell r:=by
 cases r with
 | old a=>simp only[AH.cell,g.old]
 | new i o=>simp only[AH.cell,g.blk i A]
theorem AH.cell_inn{h:AH}{r:Ref}{v:AV}(A:h.cell r=some v):r.inn h:=by
 cases r with
 | old a=>trivial
 | new i o =>
  simp only[AH.cell]at A;rcases Nat.lt_or_ge i h.blks.size with C | F
  ·exact C
  ·rw[Array.getElem?_eq_none F]at A;cases A
theorem Grow.cell_some{h h':AH}(g:Grow h h'){r:Ref}{v:AV}(A:h.cell r=some v):h'.cell r=some v:=by rw[g.cell (AH.cell_inn A),A]
@[simp] theorem AH.cell_push(h:AH)(cs:List AV)(e:TypeId)(o:Nat):(h.push (.cells cs e)).cell (.new h.blks.size o)=cs[o]?:=by simp[AH.cell,AH.push,AH.alloc]
theorem Grow.cell_new{h h':AH}{cs:List AV}{e:TypeId}(g:Grow (h.push (.cells cs e)) h')(o:Nat):h'.cell (.new h.blks.size o)=cs[o]?:=by rw[g.cell (by simp[Ref.inn]),AH.cell_push]
@[simp] theorem kdq(r:Ref)(len:Nat)(i:Int)(size:Nat)(h0:0<=i)(h1:i<(len:Int)):idx (some r) len i size=some (r.add (i.toNat*size)):=by simp[idx,h0,h1]
theorem kbmg{b:Bool}{p:Prop}[Decidable p]{h:AH}(e:b=true↔p):(some (AV.bool b,h):Option (AV×AH))=some (AV.bool (decide p),h):=by
 have:b=decide p:=by cases b<;>simp_all
 rw[this]
theorem ans_eq{b b':Bool}{h:AH}(e:b=true↔b'=true):(some (AV.bool b,h):Option (AV×AH))=some (AV.bool b',h):=by
 have:b=b':=by cases b<;>cases b'<;>simp_all
 rw[this]
theorem kiw{A:Type}{p:Prop}[Decidable p]{x y z:A}(h1:p->x=z)(C:¬p->y=z):(if p then x else y)=z:=by
 split
 ·rename_i h;exact h1 h
 ·rename_i h;exact C h
theorem kft{A:Type}{b:Bool}{x y z:A}(h1:b=true->x=z)(C:b=false->y=z):cond b x y=z:=by
 cases b
 ·exact C rfl
 ·exact h1 rfl
theorem wrap64{n:Int}(h1:-9223372036854775808<=n)(A:n<=9223372036854775807):IntKind.wrap .i64 n=n:=by simp[IntKind.wrap,IntKind.bits,IntKind.signed];omega
theorem wrapU(n:Int):IntKind.wrap .u64 n=n%18446744073709551616:=by simp[IntKind.wrap,IntKind.bits,IntKind.signed]
theorem klb(a b:Int):imin a b=min a b:=by unfold imin;by_cases h:b<a<;>simp[h]<;>omega
theorem kih(a b:Int):imax a b=max a b:=by unfold imax;by_cases h:a<b<;>simp[h]<;>omega
end Go.Ab
namespace Go.Ab
def AH.upd(h:AH)(i:Nat)(cs:List AV)(e:TypeId):AH:={h with blks:=h.blks.setIfInBounds i (.cells cs e)}
@[reducible] def AH.has(h:AH)(i:Nat)(cs:List AV)(e:TypeId):Prop:=h.blks[i]?=some (.cells cs e)
theorem AH.has.lt{h:AH}{i:Nat}{cs:List AV}{e:TypeId}(b:h.has i cs e):i<h.blks.size:=(qcd.1 b).1
theorem AH.has.cell{h:AH}{i:Nat}{cs:List AV}{e:TypeId}(b:h.has i cs e)(o:Nat):h.cell (.new i o)=cs[o]?:=by simp only[AH.cell,show h.blks[i]?=_ from b]
theorem AH.has.inn{h:AH}{i:Nat}{cs:List AV}{e:TypeId}(b:h.has i cs e)(o:Nat):(Ref.new i o).inn h:=b.lt
theorem AH.has_push(h:AH)(cs:List AV)(e:TypeId):(h.push (.cells cs e)).has h.blks.size cs e:=by simp[AH.has,AH.push,AH.alloc]
abbrev qo:=@AH.has_push
theorem Grow.has{h h':AH}(g:Grow h h'){i:Nat}{cs:List AV}{e:TypeId}(b:h.has i cs e):h'.has i cs e:=(g.blk i b.lt).trans b
theorem AH.has_upd{h:AH}{i:Nat}{cs:List AV}{e:TypeId}(b:h.has i cs e)(cs':List AV)(A:TypeId):(h.upd i cs' A).has i cs' A:=by simp[AH.has,AH.upd,b.lt]
abbrev qp:=@AH.has_upd
theorem AH.cell_upd{h:AH}{i:Nat}{cs:List AV}{e:TypeId}(b:h.has i cs e)(cs':List AV)(A:TypeId)(o:Nat):(h.upd i cs' A).cell (.new i o)=cs'[o]?:=(qp b cs' A).cell o
abbrev qq:=@AH.cell_upd
theorem Grow.upd{h h':AH}(g:Grow h h'){i:Nat}(hi:h.blks.size<=i)(cs:List AV)(e:TypeId):Grow h (h'.upd i cs e) :=
 ⟨g.old,by simpa[AH.upd]using g.size,λj A=>by show(h'.blks.setIfInBounds i (.cells cs e))[j]?=_;rw[Array.getElem?_setIfInBounds_ne (by omega)];exact g.blk j A⟩
theorem AH.has.put{h:AH}{i:Nat}{cs:List AV}{e:TypeId}(b:h.has i cs e){o:Nat}{v:AV}(A:o<cs.length):h.put (.new i o) v=some (h.upd i (cs.set o v) e):=by simp only[AH.put,show h.blks[i]?=_ from b,if_pos A,AH.upd]
theorem AH.upd_upd(h:AH)(i:Nat)(cs cs':List AV)(e A:TypeId):(h.upd i cs e).upd i cs' A=h.upd i cs' A:=by simp[AH.upd]
theorem AH.has.puts{h:AH}{i:Nat}{e:TypeId}:∀{vs:List AV}{o:Nat}{cs:List AV},h.has i cs e->o+vs.length<=cs.length->h.puts (.new i o) vs=some (h.upd i (cs.take o++vs++cs.drop (o+vs.length)) e)
 | [],o,cs,b,_=>by
  simp only[AH.puts,List.append_nil,List.length_nil,Nat.add_zero,List.take_append_drop,qcb];have F:h.blks[i]?=some (.cells cs e):=b
  have:h.blks.setIfInBounds i (.cells cs e)=h.blks:=by
   apply Array.ext
   ·simp
   ·intro j h1 H;rw[Array.getElem_setIfInBounds (by simpa using h1)];split
    ·rename_i A;subst A;have:=Array.getElem?_eq_getElem H;rw[this]at F;exact(Option.some.inj F).symm
    ·rfl
  cases h;simp only[AH.upd]at this|-;rw[this]
 | v::vs,o,cs,b,I=>by
  simp only[qb2]at I;simp only[AH.puts];rw[b.put (by omega),qbt,qj,AH.has.puts (qp b _ e) (by simp;omega),AH.upd_upd]
  have K:(cs.set o v).take (o+1)=cs.take o++[v]:=by
   apply List.ext_getElem?;intro i;rw[List.getElem?_take];by_cases hi:i<o
   ·rw[if_pos (by omega),List.getElem?_set_ne (by omega),List.getElem?_append_left (by simp;omega),List.getElem?_take,if_pos hi]
   ·by_cases C:i=o
    ·subst C;rw[if_pos (by omega),List.getElem?_set_self (by omega),List.getElem?_append_right (by simp;omega)];simp[Nat.min_eq_left (show i<=cs.length by omega)]
    ·rw[if_neg (by omega),List.getElem?_eq_none (by simp;omega)]
  have Q:(cs.set o v).drop (o+1+vs.length)=cs.drop (o+(vs.length+1)):=by rw[List.drop_set_of_lt (by omega)];congr 1;omega
  rw[K,Q];simp
theorem AH.has.puts_all{h:AH}{i:Nat}{e:TypeId}{cs vs:List AV}(b:h.has i cs e)(A:vs.length=cs.length):h.puts (.new i 0) vs=some (h.upd i vs e):=by rw[b.puts (by omega)];simp[A]
theorem Grow.same{h h':AH}(g:Grow h h'){i:Nat}{cs:List AV}{e:TypeId}(b:h.has i cs e)(o n:Nat):SameAt h h' (.new i o) n:=⟨λj _=>by rw[qj];exact g.cell (b.inn _),λ_=>g.blk i b.lt⟩
@[simp] theorem kzg{R:Type}{p:Prop}{x:Option R}(A:p):whenK p x=x:=by unfold whenK;rw[if_pos A]
def Sl.fit(s:Sl)(n:Nat):Prop:=match s.cap with
 | .is c=>s.len<=c
 | .opn z=>z=n
structure Cells(h:AH)(s:Sl)(n:Nat)(flat:List AV):Prop where
 fit:s.fit n
 len:s.len*n=flat.length
 get:∀(i:Nat)(v:AV),flat[i]?=some v->∃r,s.ref=some r/\h.cell (r.add i)=some v
theorem Cells.grow{h h':AH}(g:Grow h h'){s:Sl}{n:Nat}{flat:List AV}(c:Cells h s n flat):Cells h' s n flat :=
 ⟨c.fit,c.len,λi v A=>by obtain⟨r,C,F⟩:=c.get i v A;exact⟨r,C,g.cell_some F⟩⟩
theorem Cells.nil(h:AH)(n:Nat):Cells h ⟨none,0,.is 0⟩ n []:=⟨qbp _,by simp,λi v A=>by simp at A⟩
theorem Cells.of_has{h:AH}{i n m:Nat}{cs:List AV}{e:TypeId}(b:h.has i cs e)(A:m*n=cs.length):Cells h ⟨some (.new i 0),m,.is m⟩ n cs:=⟨qbp _,A,λj v C=>⟨_,rfl,by rw[qj,Nat.zero_add,b.cell];exact C⟩⟩
abbrev qr:=@Cells.of_has
theorem Cells.gets{h:AH}{s:Sl}{n:Nat}{flat:List AV}(c:Cells h s n flat):h.getsO s.ref (s.len*n)=some flat:=by
 rw[c.len];unfold AH.getsO;cases F:s.ref with
 | none =>
  have:flat=[]:=by
   cases flat with
   | nil=>rfl
   | cons v vs =>obtain⟨r,C,_⟩:=c.get 0 v rfl;rw[F]at C;cases C
  rw[this]
 | some r =>
  have key:∀(vs:List AV)(r:Ref),(∀i v,vs[i]?=some v->h.cell (r.add i)=some v)->h.gets r vs.length=some vs:=by
   intro vs
   induction vs with
   | nil=>intro r _;rfl
   | cons v vs ih =>
    intro r A;have h0:=A 0 v rfl;rw[Ref.add_zero]at h0
    have h1:=ih (r.add 1) λi x H=>by rw[Ref.add_add,Nat.add_comm];exact A (i+1) x (by simpa using H)
    simp only[qb2,AH.gets,h0,qbt,h1,Option.map_some]
  exact key flat r λi v I=>by obtain⟨Q,C,K⟩:=c.get i v I;rw[F]at C;cases C;exact K
def Own(h:AH)(s:Sl):Prop:=∀r,s.ref=some r->∃i o,r=.new i o/\h.blks.size<=i
theorem AH.cell_upd_ne{h:AH}{i:Nat}{cs:List AV}{e:TypeId}{r:Ref}(C:∀o,r≠.new i o):(h.upd i cs e).cell r=h.cell r:=by
 cases r with
 | old a=>rfl
 | new j o =>have:i≠j:=λA=>C o (by rw[A]);simp only[AH.cell,AH.upd];rw[Array.getElem?_setIfInBounds_ne this]
theorem Cells.upd{h h0:AH}{s:Sl}{n:Nat}{flat:List AV}(c:Cells h s n flat)(C:Own h0 s){i:Nat}(hi:i<h0.blks.size)(cs:List AV)(e:TypeId):Cells (h.upd i cs e) s n flat :=
 ⟨c.fit,c.len,λk v F=>by
  obtain⟨r,A,H⟩:=c.get k v F;refine⟨r,A,?_⟩;obtain⟨j,o,rfl,K⟩:=C r A;rw[AH.cell_upd_ne]
  ·exact H
  ·intro Q I;simp only[qj,Ref.new.injEq]at I;omega⟩
theorem Own.of_le{h h0:AH}(g:Grow h h0){s:Sl}(o:Own h0 s):Own h s:=λr A=>by obtain⟨i,k,h1,C⟩:=o r A;exact⟨i,k,h1,qbq g.size C⟩
theorem Own.nil(h:AH){n:Nat}{c:Cap}:Own h ⟨none,n,c⟩:=λr A=>by cases A
abbrev qu:=@Own.nil
theorem Cells.cut{h:AH}{s:Sl}{m:Nat}{flat:List AV}(c:Cells h s m flat){l n:Nat}(h1:l<=n)(Y:n<=s.len):∃s',cutSl s (l:Int) (n:Int) m=some s'/\s'.len=n-l/\
  Cells h s' m ((flat.drop (l*m)).take ((n-l)*m))/\∀h0,Own h0 s->Own h0 s':=by
 have hm:n*m<=s.len*m:=Nat.mul_le_mul_right m Y;have Z:l*m<=n*m:=Nat.mul_le_mul_right m h1;have U:(n-l)*m=n*m-l*m:=Nat.sub_mul _ _ _
 have cell:∀(ref:Option Ref),(∀r,s.ref=some r->n≠l->ref=some (r.add (l*m)))->∀(i:Nat)(v:AV),((flat.drop (l*m)).take ((n-l)*m))[i]?=some v->∃r,ref=some r/\h.cell (r.add i)=some v:=by
  intro ref A i v F;rw[List.getElem?_take]at F;split at F
  ·rename_i hi;rw[List.getElem?_drop]at F;obtain⟨r,I,e2⟩:=c.get _ v F
   have C:n≠l:=by
    rintro rfl
    simp at hi
   exact⟨_,A r I C,by rw[Ref.add_add];exact e2⟩
  ·cases F
 have len:((flat.drop (l*m)).take ((n-l)*m)).length=(n-l)*m:=by rw[qcf,List.length_drop,<- c.len];omega
 have own:∀(ref:Option Ref)(k:Nat)(H:Cap),(ref=s.ref\/ref=s.ref.map (·.add (l*m)))->∀h0,Own h0 s->Own h0 ⟨ref,k,H⟩:=by
  intro ref k H A h0 X r e;dsimp only at e;rcases A with rfl | rfl
  ·exact X r e
  ·rw[Option.map_eq_some_iff]at e;obtain⟨r0,I,rfl⟩:=e;obtain⟨i,o,rfl,h3⟩:=X r0 I;exact⟨i,_,rfl,h3⟩
 have K:=c.fit;unfold Sl.fit at K;unfold cutSl;split at K
 ·rename_i H Q;simp only[Q];rw[show(decide (0<=(l:Int)/\(l:Int)<=(n:Int)/\(n:Int)<=(H:Int)))=true from by simp;omega];refine⟨_,rfl,by simp,⟨?_,by rw[len];simp,cell _ ?_⟩,own _ _ _ ?_⟩
  ·show(n:Int).toNat-(l:Int).toNat<=H-(l:Int).toNat;simp;omega
  ·intro r A C;simp only[Int.toNat_natCast];rw[if_neg (by omega),A];rfl
  ·split
   ·exact .inl rfl
   ·exact .inr (by simp)
 ·rename_i z hz;simp only[hz];subst K;rw[show Nat.beq z z=true from Nat.beq_refl z,show(decide (0<=(l:Int)/\(l:Int)<=(n:Int)/\(n:Int)<=(s.len:Int)))=true from by simp;omega];refine⟨_,rfl,by simp,⟨?_,by rw[len];simp,cell _ ?_⟩,own _ _ _ (.inr (by simp))⟩
  ·exact rfl
  ·intro r A C;simp[A]
@[reducible] def u64(x:Nat):AV:=.int .u64 (x:Int)
structure Nats(h:AH)(s:Sl)(xs:List Nat):Prop where
 cells:Cells h s 1 (xs.map u64)
 lt:∀x∈xs,x<18446744073709551616
 short:xs.length<=9223372036854775807
theorem Nats.len{h:AH}{s:Sl}{xs:List Nat}(n:Nats h s xs):s.len=xs.length:=by
 have:=n.cells.len
 simpa using this
theorem Nats.grow{h h':AH}(g:Grow h h'){s:Sl}{xs:List Nat}(n:Nats h s xs):Nats h' s xs:=⟨n.cells.grow g,n.lt,n.short⟩
theorem Nats.nil(h:AH):Nats h ⟨none,0,.is 0⟩ []:=⟨Cells.nil h 1,by simp,by simp⟩
abbrev qw:=@Nats.nil
theorem Nats.upd{h h0:AH}{s:Sl}{xs:List Nat}(c:Nats h s xs)(A:Own h0 s){i:Nat}(hi:i<h0.blks.size)(cs:List AV)(e:TypeId):Nats (h.upd i cs e) s xs:=⟨c.cells.upd A hi cs e,c.lt,c.short⟩
theorem Nats.at{h:AH}{s:Sl}{xs:List Nat}(n:Nats h s xs){i:Nat}(hi:i<xs.length):∃r,idx s.ref s.len (i:Int) 1=some r/\h.cell r=some (.int .u64 ((xs[i]:Nat):Int)):=by obtain⟨r,A,C⟩:=n.cells.get i (u64 xs[i]) (by simp[hi]);refine⟨r.add i,?_,C⟩;rw[A,kdq _ _ _ _ (by omega) (by rw[n.len];omega)];simp
theorem Nats.cut{h:AH}{s:Sl}{xs:List Nat}(c:Nats h s xs){l n:Nat}(h1:l<=n)(A:n<=xs.length):∃s',cutSl s (l:Int) (n:Int) 1=some s'/\Nats h s' ((xs.drop l).take (n-l))/\∀h0,Own h0 s->Own h0 s':=by obtain⟨s',C,K,F,H⟩:=c.cells.cut h1 (by rw[c.len];exact A);refine⟨s',C,⟨by simpa[List.map_drop,List.map_take]using F,λx I=>c.lt x (List.mem_of_mem_drop (List.mem_of_mem_take I)),?_⟩,H⟩;have:=c.short;rw[qcf,List.length_drop];omega
theorem kfy{i:Nat}(h:i<=9223372036854775807):IntKind.wrap .i64 (i:Int)=(i:Int):=wrap64 (by omega) (by omega)
theorem kj{i:Nat}(h:i<9223372036854775807):IntKind.wrap .i64 ((i:Int)+1)=((i+1:Nat):Int):=by rw[wrap64 (by omega) (by omega)];omega
theorem kro{i:Nat}(h:i<9223372036854775807):IntKind.wrap .i64 (((i+1:Nat):Int)-1)=(i:Int):=by rw[wrap64 (by omega) (by omega)];omega
variable{P:Program}
theorem kk5{h:AH}{s:Sl}{elem:TypeId}{flat:List AV}(c:Cells h s (P.cellsOf elem) flat):kbg P elem s.v h=some (flat,s.len):=by show(h.getsO s.ref (s.len*P.cellsOf elem)).map (λcs=>(cs,s.len))=_;rw[c.gets];rfl
theorem kfa{h:AH}{s:Sl}{c n m:Nat}{elem:TypeId}{cs old:List AV}(A:s.cap=.is c)(I:c<s.len+n)(C:growOk P (s.len+n) elem m=true)(F:Cells h s m old) :
  kv P s cs n elem m h=some (Sl.v ⟨some (.new h.blks.size 0),s.len+n,.opn m⟩,h.push (.cells (old++cs) elem)):=by
 unfold kv;simp only[A]
 rw[show Nat.ble (s.len+n) c=false from by
  cases H:Nat.ble (s.len+n) c with
  | false=>rfl
  | true=>have:=Nat.le_of_ble_eq_true H;omega]
 simp only[cond_false,C,cond_true,F.gets,qbt];rfl
theorem ksa{h:AH}{s:Sl}{m:Nat}{elem:TypeId}{old:List AV}(hm:0<m)(A:Cells h s m old):∃s',kv P s [] 0 elem m h=some (s'.v,h)/\Cells h s' m old/\∀h0,Own h0 s->Own h0 s':=by
 have F:=A.fit;unfold Sl.fit at F;unfold kv;split at F
 ·rename_i c X;simp only[X];rw[show Nat.ble (s.len+0) c=true from Nat.ble_eq_true_of_le (by omega)];cases H:s.ref with
  | none =>
   refine⟨⟨none,0,.is 0⟩,rfl,?_,λh0 _=>qu h0⟩
   have Y:old=[]:=by
    cases old with
    | nil=>rfl
    | cons v vs =>obtain⟨r,C,_⟩:=A.get 0 v rfl;rw[H]at C;cases C
   rw[Y];exact Cells.nil h m
  | some r =>refine⟨⟨some r,s.len,.is c⟩,rfl,⟨F,A.len,λi v Z=>?_⟩,λh0 I K Q=>I K (by rw[H];exact Q)⟩;obtain⟨K,C,e2⟩:=A.get i v Z;rw[H]at C;exact⟨K,C,e2⟩
 ·rename_i z U;simp only[U];refine⟨s,by simp[Sl.v,U],A,λh0 I=>I⟩
structure Mine(h0 h:AH)(s:Sl)(elem:TypeId)(m:Nat)(flat:List AV):Prop where
 grow:Grow h0 h
 cells:Cells h s m flat
 own:s=⟨none,0,.is 0⟩\/∃i bs,s.ref=some (.new i 0)/\s.cap=.opn m/\h0.blks.size<=i/\h.has i bs elem
theorem Mine.nil(h:AH)(elem:TypeId)(m:Nat):Mine h h ⟨none,0,.is 0⟩ elem m []:=⟨ql h,Cells.nil h m,.inl rfl⟩
theorem Mine.grow'{h0 h h':AH}{s:Sl}{elem:TypeId}{m:Nat}{flat:List AV}(M:Mine h0 h s elem m flat)(g:Grow h h'):Mine h0 h' s elem m flat:=⟨M.grow.trans g,M.cells.grow g,M.own.imp id λ⟨i,bs,A,C,F,H⟩=>⟨i,bs,A,C,F,g.has H⟩⟩
theorem Grow.kill{h h':AH}(g:Grow h h'){i:Nat}(hi:h.blks.size<=i):Grow h (h'.kill (some (.new i 0))) :=
 ⟨g.old,by simpa[AH.kill]using g.size,λj A=>by show(h'.blks.setIfInBounds i .dead)[j]?=_;rw[Array.getElem?_setIfInBounds_ne (by omega)];exact g.blk j A⟩
theorem Mine.append{h0 h:AH}{s:Sl}{elem:TypeId}{m n:Nat}{flat cs:List AV}(M:Mine h0 h s elem m flat)(Y:0<n)(Z:cs.length=n*m)(Q:growOk P (s.len+n) elem m=true) :
  ∃s' h',kv P s cs n elem m h=some (s'.v,h')/\s'.len=s.len+n/\Mine h0 h' s' elem m (flat++cs)/\∀(j:Nat)(bs:List AV)(e:TypeId),h.has j bs e->s.ref≠some (.new j 0)->h'.has j bs e:=by
 have U:(s.len+n)*m=(flat++cs).length:=by rw[Nat.add_mul,M.cells.len,qb0,Z]
 rcases M.own with rfl | ⟨i,bs,F,e2,e3,e4⟩
 ·rw[kfa (c:=0) rfl (by simpa using Y) Q M.cells];refine⟨_,_,rfl,rfl,⟨M.grow.trans (qm _ _),⟨rfl,U,λj v H=>⟨_,rfl,by simpa using H⟩⟩,.inr ⟨_,_,rfl,rfl,M.grow.size,qo _ _ _⟩⟩,λj bs e C _=>(qm _ _).has C⟩
 ·have:kv P s cs n elem m h=some (Sl.v ⟨some (.new h.blks.size 0),s.len+n,.opn m⟩,(h.kill s.ref).push (.cells (flat++cs) elem)):=by
   unfold kv;simp only[e2]
   rw[show Nat.beq n 0=false from by
    cases C:Nat.beq n 0 with
    | false=>rfl
    | true=>have:=Nat.eq_of_beq_eq_true C;omega,show Nat.beq m m=true from Nat.beq_refl m]
   simp only[cond_false,Q,Bool.and_true,cond_true,F,show h.blks[i]?=_ from e4];have A:=M.cells.gets;rw[F]at A;simp only[cond_true,A,qbt];have:(AH.kill h (some (Ref.new i 0))).blks.size=h.blks.size:=by simp[AH.kill]
   simp[AH.next,this,Sl.v];rfl
  rw[this,F];have X:(h.kill (some (.new i 0))).blks.size=h.blks.size:=by simp[AH.kill]
  refine⟨_,_,rfl,rfl,⟨(M.grow.kill e3).trans (qm _ _),⟨rfl,U,λj v H=>⟨_,rfl,?_⟩⟩,.inr ⟨h.blks.size,flat++cs,rfl,rfl,M.grow.size,?_⟩⟩,λj aa e C I=>?_⟩
  ·rw[<- X]
   simpa using H
  ·have:=qo (h.kill (some (.new i 0))) (flat++cs) elem;rw[X]at this;exact this
  ·refine(qm _ _).has ?_
   have K:i≠j:=by
    rintro rfl
    exact I rfl
   show(h.blks.setIfInBounds i .dead)[j]?=_;rw[Array.getElem?_setIfInBounds_ne K];exact C
theorem Mine.own_of{h0 h:AH}{s:Sl}{elem:TypeId}{m:Nat}{flat:List AV}(M:Mine h0 h s elem m flat):Own h0 s:=by
 rcases M.own with rfl | ⟨i,bs,C,H,F,I⟩
 ·exact qu h0
 ·intro r A;rw[C]at A;cases A;exact⟨i,0,rfl,F⟩
theorem kvh{l c:Int}{elem:TypeId}{bytes n:Nat}{zs:List AV}{h:AH}(h1:l=(n:Int))(C:c=(n:Int))(F:n*bytes<=70368744177664)(H:n<=70368744177664) :
  kby l c elem bytes zs h=some (⟨some (.new h.blks.size 0),n,.is n⟩,h.push (.cells (repC zs n) elem)):=by
 subst h1 C;unfold kby;have A:((n*bytes:Nat):Int)<=70368744177664:=by omega
 rw[show(decide (0<=(n:Int)/\(n:Int)<=(n:Int)/\(n:Int)<=(ks:Int)/\(n:Int)*(bytes:Int)<=(ks:Int)))=true from by rw[qbw];simp only[ks];rw[Int.natCast_mul]at A;omega]
 simp;rfl
theorem kzr(v:AV)(n:Nat):repC [v] n=List.replicate n v:=by
 induction n with
 | zero=>rfl
 | succ n ih=>simp[repC,ih,List.replicate_succ]
end Go.Ab
namespace Go.Ab
def Runs(x:Option (AV×AH))(P:AV->AH->Prop):Prop:=∃v h',x=some (v,h')/\P v h'
structure Upd(h h':AH)(i:Nat):Prop where
 old:h'.old=h.old
 size:h.blks.size<=h'.blks.size
 blk:∀j,j≠i->j<h.blks.size->h'.blks[j]?=h.blks[j]?
theorem AH.upd_Upd(h:AH)(i:Nat)(cs:List AV)(e:TypeId):Upd h (h.upd i cs e) i :=
 ⟨rfl,by simp[AH.upd],λj A _=>by show(h.blks.setIfInBounds i (.cells cs e))[j]?=_;rw[Array.getElem?_setIfInBounds_ne (λx=>A x.symm)]⟩
theorem Grow.updr{h h1 A:AH}(g:Grow h h1){i:Nat}(hi:h.blks.size<=i)(u:Upd h1 A i):Grow h A:=⟨u.old.trans g.old,qbq g.size u.size,λj C=>(u.blk j (by omega) (qbr C g.size)).trans (g.blk j C)⟩
theorem AH.has.updr{h1 C:AH}{j:Nat}{cs:List AV}{e:TypeId}(b:h1.has j cs e){i:Nat}(A:j≠i)(u:Upd h1 C i):C.has j cs e:=(u.blk j A b.lt).trans b
abbrev qx:=@AH.has.updr
theorem Upd.trans{h1 A C:AH}{i:Nat}(u:Upd h1 A i)(w:Upd A C i):Upd h1 C i:=⟨w.old.trans u.old,qbq u.size w.size,λj F H=>(w.blk j F (qbr H u.size)).trans (u.blk j F H)⟩
theorem Grow.toUpd{h1 A:AH}(g:Grow h1 A)(i:Nat):Upd h1 A i:=⟨g.old,g.size,λj _ C=>g.blk j C⟩
theorem Upd.cell{h1 C:AH}{i:Nat}(u:Upd h1 C i){r:Ref}{v:AV}(A:h1.cell r=some v)(F:∀o,r≠.new i o):C.cell r=some v:=by
 have hi:=AH.cell_inn A;cases r with
 | old a=>simpa only[AH.cell,u.old]using A
 | new j o=>simpa only[AH.cell,u.blk j (λH=>F o (by rw[H])) hi]using A
theorem Cells.updr{h0 h1 A:AH}{s:Sl}{n:Nat}{flat:List AV}(c:Cells h1 s n flat)(F:Own h0 s){i:Nat}(hi:i<h0.blks.size)(u:Upd h1 A i):Cells A s n flat :=
 ⟨c.fit,c.len,λk v H=>by obtain⟨r,C,I⟩:=c.get k v H;refine⟨r,C,?_⟩;obtain⟨j,o,rfl,Q⟩:=F r C;refine u.cell I λU K=>?_;simp only[qj,Ref.new.injEq]at K;omega⟩
theorem Nats.updr{h0 h1 A:AH}{s:Sl}{xs:List Nat}(c:Nats h1 s xs)(C:Own h0 s){i:Nat}(hi:i<h0.blks.size)(u:Upd h1 A i):Nats A s xs:=⟨c.cells.updr C hi u,c.lt,c.short⟩
section
variable{P:AV->AH->Prop}
theorem Runs.ret{v:AV}{h:AH}(p:P v h):Runs (some (v,h)) P:=⟨v,h,rfl,p⟩
abbrev qy:=@Runs.ret
theorem Runs.imp{x:Option (AV×AH)}{Q:AV->AH->Prop}(r:Runs x Q)(f:∀v h,Q v h->P v h):Runs x P:=by obtain⟨v,h',e,q⟩:=r;exact⟨v,h',e,f v h' q⟩
theorem Runs.step{A:Type}{o:Option A}{a:A}{K:A->Option (AV×AH)}(e:o=some a)(H:Runs (K a) P):Runs (o.bind K) P:=by subst e;exact H
abbrev qz:=@Runs.step
theorem Runs.new{h:AH}{cs:List AV}{e:TypeId}{K:Ref->AH->Option (AV×AH)}(H:∀h',h'.has h.blks.size cs e->Grow h h'->Runs (K (.new h.blks.size 0) h') P):Runs (newK h (.cells cs e) K) P:=H _ (qo h cs e) (qm h _)
abbrev q0:=@Runs.new
theorem Runs.puts{h:AH}{i:Nat}{cs vs:List AV}{e:TypeId}{K:AH->Option (AV×AH)}(b:h.has i cs e)(A:vs.length=cs.length)(H:∀h',h'.has i vs e->Upd h h' i->Runs (K h') P):Runs ((h.puts (.new i 0) vs).bind K) P:=by rw[b.puts_all A];exact H _ (qp b vs e) (AH.upd_Upd h i vs e)
abbrev qba:=@Runs.puts
theorem Runs.ifT{c:Bool}{a b:Option (AV×AH)}(e:c=true)(H:Runs a P):Runs (cond c a b) P:=by subst e;exact H
abbrev qbb:=@Runs.ifT
theorem Runs.ifF{c:Bool}{a b:Option (AV×AH)}(e:c=false)(H:Runs b P):Runs (cond c a b) P:=by subst e;exact H
abbrev qbc:=@Runs.ifF
theorem Runs.cond{c:Bool}{a b:Option (AV×AH)}(A:c=true->Runs a P)(C:c=false->Runs b P):Runs (cond c a b) P:=by
 cases c
 ·exact C rfl
 ·exact A rfl
abbrev qbd:=@Runs.cond
theorem Runs.when{p:Prop}{x:Option (AV×AH)}(A:p)(H:Runs x P):Runs (whenK p x) P:=by rw[kzg A];exact H
abbrev qbe:=@Runs.when
end
theorem AH.has.rd{A:Type}{f:AV->Option A}{h:AH}{i:Nat}{cs:List AV}{e:TypeId}(b:h.has i cs e)(k:Nat){v:AV}{x:A}(C:cs[k]?=some v)(F:f v=some x):(h.cell ((Ref.new i 0).add k)).bind f=some x:=by rw[qj,Nat.zero_add,b.cell,C];exact F
abbrev qbf:=@AH.has.rd
theorem AH.has.rd0{A:Type}{f:AV->Option A}{h:AH}{i:Nat}{cs:List AV}{e:TypeId}(b:h.has i cs e){v:AV}{x:A}(C:cs[0]?=some v)(F:f v=some x):(h.cell (Ref.new i 0)).bind f=some x:=by rw[b.cell,C];exact F
theorem seen{A:Type}{f:AV->Option A}{v:AV}{x:A}(C:f v=some x):(some v).bind f=some x:=C
theorem seenAt{A:Type}{f:AV->Option A}{cs:List AV}{k:Nat}{v:AV}{x:A}(C:cs[k]?=some v)(F:f v=some x):(cs[k]?).bind f=some x:=by rw[C];exact F
theorem Nats.of_has{h:AH}{i:Nat}{e:TypeId}{xs:List Nat}(b:h.has i (xs.map u64) e)(A:∀x∈xs,x<18446744073709551616)(C:xs.length<=9223372036854775807):Nats h ⟨some (.new i 0),xs.length,.is xs.length⟩ xs:=⟨qr b (by simp),A,C⟩
theorem condT{A:Type}{c:Bool}{a b:A}(e:c=true):cond c a b=a:=by subst e;rfl
theorem condF{A:Type}{c:Bool}{a b:A}(e:c=false):cond c a b=b:=by subst e;rfl
end Go.Ab
set_option maxRecDepth 10000
namespace Go.Ab
inductive Iter{S R:Type}(f:S->Option (S⊕R)):S->R->Prop
 | done {s:S} {r:R}:f s=some (.inr r)->Iter f s r
 | next {s s':S} {r:R}:f s=some (.inl s')->Iter f s' r->Iter f s r
theorem qcr{h:AH}{i:Nat}{cs:List AV}{e:TypeId}{n:Int}{K:Int->Option (AV×AH)}{P:AV->AH->Prop}(b:h.has i cs e)(k:Nat)(a:cs[k]?=some (.int .i64 n))(H:Runs (K n) P):Runs (((h.cell ((Ref.new i 0).add k)).bind (AV.asInt .i64)).bind K) P:=qz (b.rd k a (kb _ _)) H
theorem qcq{h:AH}{i:Nat}{cs:List AV}{e:TypeId}{n:Sl}{K:Sl->Option (AV×AH)}{P:AV->AH->Prop}(b:h.has i cs e)(k:Nat)(a:cs[k]?=some n.v)(H:Runs (K n) P):Runs (((h.cell ((Ref.new i 0).add k)).bind AV.asSl).bind K) P:=qz (b.rd k a (asSl_v _)) H
def GoodS{S R:Type}(A:S->Prop)(r:R):S⊕R->Prop
 | .inl s=>A s
 | .inr C=>C=r
theorem Iter.ind{S R:Type}{f:S->Option (S⊕R)}{A:S->Prop}{r:R}(H:∀s o,f s=some o->GoodS A r o->A s){s:S}(C:Iter f s r):A s:=by
 induction C with
 | done e=>exact H _ _ e rfl
 | next e _ ih=>exact H _ _ e (ih H)
abbrev qbg:=@Iter.ind
theorem Iter.det{S R:Type}{f:S->Option (S⊕R)}{s:S}{r C:R}(a:Iter f s r)(b:Iter f s C):r=C:=by
 induction a with
 | done e =>
  cases b with
  | done A=>rw[e]at A;cases A;rfl
  | next A _=>rw[e]at A;cases A
 | next e _ ih =>
  cases b with
  | done A=>rw[e]at A;cases A
  | next A b'=>rw[e]at A;cases A;exact ih b'
noncomputable def runP{S R:Type}(f:S->Option (S⊕R))(s:S):Option R:=by
 classical
 exact if h:∃r,Iter f s r then some h.choose else none
theorem ktw{S R:Type}{f:S->Option (S⊕R)}{s:S}{r:R}(q:runP f s=some r):Iter f s r:=by
 unfold runP at q;split at q
 ·rename_i h;cases q;exact h.choose_spec
 ·cases q
theorem kn3{S R:Type}{f:S->Option (S⊕R)}{s:S}{r:R}(A:Iter f s r):runP f s=some r:=by unfold runP;have h:∃r,Iter f s r:=⟨r,A⟩;rw[dif_pos h];rw[h.choose_spec.det A]
def atI(xs:List Nat)(i:Int):Option Nat:=if 0<=i then xs[i.toNat]? else none
def inI(n:Nat)(i:Int):Option Nat:=if 0<=i/\i<(n:Int)then some i.toNat else none
def mkI(l c:Int):Option Nat:=if l=c/\0<=l/\l<=8796093022208 then some l.toNat else none
def u64P(v:Int):Option Nat:=if 0<=v/\v<18446744073709551616 then some v.toNat else none
def add64P(x y c:Int):Option (Int×Int):=if 0<=x/\0<=y/\0<=c/\c<=1 then some ((x+y+c)%18446744073709551616,(x+y+c)/18446744073709551616)else none
noncomputable def need(p:Prop):Option (PLift p):=by
 classical
 exact if h:p then some ⟨h⟩else none
theorem kq{p:Prop}(h:p):need p=some ⟨h⟩:=by unfold need;rw[dif_pos h]
theorem kbiq{xs:List Nat}{i:Int}{y:Nat}(q:atI xs i=some y):∃j:Nat,i=(j:Int)/\∃C:j<xs.length,xs[j]=y:=by
 unfold atI at q;split at q
 ·rename_i h;obtain⟨h1,A⟩:=qce.1 q;exact⟨i.toNat,by omega,h1,A⟩
 ·cases q
theorem krp{n:Nat}{i:Int}{j:Nat}(q:inI n i=some j):i=(j:Int)/\j<n:=by
 unfold inI at q;split at q
 ·cases q;omega
 ·cases q
theorem kbli{l c:Int}{n:Nat}(q:mkI l c=some n):l=(n:Int)/\c=(n:Int)/\n<=8796093022208:=by
 unfold mkI at q;split at q
 ·cases q;omega
 ·cases q
theorem kms{v:Int}{n:Nat}(q:u64P v=some n):v=(n:Int)/\n<18446744073709551616:=by
 unfold u64P at q;split at q
 ·cases q;omega
 ·cases q
theorem kcw{xs:List Nat}{i:Nat}(h:i<xs.length):atI xs (i:Int)=some xs[i]:=by unfold atI;rw[if_pos (by omega),Int.toNat_natCast,qb4 h]
theorem kbi{n i:Nat}(h:i<n):inI n (i:Int)=some i:=by unfold inI;rw[if_pos (by omega),Int.toNat_natCast]
theorem kgi{n:Nat}(h:n<=8796093022208):mkI (n:Int) (n:Int)=some n:=by unfold mkI;rw[if_pos (by omega),Int.toNat_natCast]
theorem kbt{n:Nat}(h:n<18446744073709551616):u64P (n:Int)=some n:=by unfold u64P;rw[if_pos (by omega),Int.toNat_natCast]
theorem kon(x y:Nat){c:Nat}(h:c<=1):add64P (x:Int) (y:Int) (c:Int)=some ((((x+y+c)%18446744073709551616:Nat):Int),(((x+y+c)/18446744073709551616:Nat):Int)):=by unfold add64P;rw[if_pos (by omega)];rfl
theorem kki{x y c:Int}{p:Int×Int}{h:AH}{A C F:IntKind}(q:add64P x y c=some p):((prim "math/bits.Add64" [.int A x,.int C y,.int F c]).map λv=>(v,h))=some (.tup [.int .u64 p.1,.int .u64 p.2],h):=by
 unfold add64P at q;split at q
 ·rename_i H;cases q;show(cond (decide (0<=x/\0<=y/\0<=c/\c<=1)) (some (AV.tup [.int .u64 ((x+y+c)%18446744073709551616),.int .u64 ((x+y+c)/18446744073709551616)])) none).map _=_;rw[qbx H];rfl
 ·cases q
theorem Nats.atI{h:AH}{s:Sl}{xs:List Nat}(n:Nats h s xs){i:Int}{y:Nat}(q:Go.Ab.atI xs i=some y):∃r,idx s.ref xs.length i 1=some r/\h.cell r=some (.int .u64 (y:Int)):=by obtain⟨j,rfl,A,rfl⟩:=kbiq q;rw[<- n.len];exact n.at A
theorem rdc{A:Type}{f:AV->Option A}{h:AH}{r:Ref}{v:AV}{x:A}(C:h.cell r=some v)(F:f v=some x):(h.cell r).bind f=some x:=by rw[C];exact F
structure Vec(h:AH)(s:Sl)(i:Nat)(xs:List Nat):Prop where
 is:s=⟨some (.new i 0),xs.length,.is xs.length⟩
 has:∃e,h.has i (xs.map u64) e
 lt:∀x∈xs,x<18446744073709551616
 short:xs.length<=9223372036854775807
theorem Vec.len{h:AH}{s:Sl}{i:Nat}{xs:List Nat}(v:Vec h s i xs):s.len=xs.length:=by rw[v.is]
theorem Vec.nats{h:AH}{s:Sl}{i:Nat}{xs:List Nat}(v:Vec h s i xs):Nats h s xs:=by obtain⟨e,b⟩:=v.has;rw[v.is];exact Nats.of_has b v.lt v.short
theorem Vec.inn{h:AH}{s:Sl}{i:Nat}{xs:List Nat}(v:Vec h s i xs):i<h.blks.size:=v.has.choose_spec.lt
theorem Vec.grow{h h':AH}(g:Grow h h'){s:Sl}{i:Nat}{xs:List Nat}(v:Vec h s i xs):Vec h' s i xs:=⟨v.is,v.has.imp λ_ b=>g.has b,v.lt,v.short⟩
theorem Vec.updr{h h':AH}{s:Sl}{i:Nat}{xs:List Nat}(v:Vec h s i xs){j:Nat}(A:i≠j)(u:Upd h h' j):Vec h' s i xs:=⟨v.is,v.has.imp λ_ b=>b.updr A u,v.lt,v.short⟩
theorem Vec.own{h h0:AH}{s:Sl}{i:Nat}{xs:List Nat}(v:Vec h s i xs)(hi:h0.blks.size<=i):Own h0 s:=λr A=>by rw[v.is]at A;cases A;exact⟨_,_,rfl,hi⟩
theorem Vec.idx{h:AH}{s:Sl}{i:Nat}{xs:List Nat}(v:Vec h s i xs){n:Nat}(A:xs.length=n){k:Int}{j:Nat}(q:inI n k=some j):Go.Ab.idx s.ref n k 1=some (.new i j):=by subst A;obtain⟨rfl,C⟩:=krp q;rw[v.is,kdq _ _ _ _ (by omega) (by omega)];simp
theorem Vec.rd{A:Type}{f:AV->Option A}{h:AH}{s:Sl}{i:Nat}{xs:List Nat}(v:Vec h s i xs){n:Nat}(F:xs.length=n){j:Nat}{k:Int}(q:inI n k=some j){x:A}(H:f (.int .u64 ((xs.getD j 0:Nat):Int))=some x):(h.cell (.new i j)).bind f=some x:=by
 subst F;obtain⟨e,b⟩:=v.has;have C:=(krp q).2;rw[b.cell,List.getElem?_map,qb4 C]
 simpa[List.getD,C]using H
section
variable{P:AV->AH->Prop}
theorem Runs.vput{h:AH}{s:Sl}{i:Nat}{xs:List Nat}{j w:Nat}{k x:Int}{K:AH->Option (AV×AH)}(v:Vec h s i xs){n:Nat}(C:xs.length=n)(q:inI n k=some j)(z:u64P x=some w)
  (H:∀h',Vec h' s i (xs.set j w)->Upd h h' i->Runs (K h') P):Runs ((h.puts (.new i j) [.int .u64 x]).bind K) P:=by
 subst C;obtain⟨e,b⟩:=v.has;have F:=(krp q).2;obtain⟨rfl,I⟩:=kms z;rw[b.puts (by simp;omega)]
 have Q:(xs.map u64).take j++[AV.int .u64 (w:Int)]++(xs.map u64).drop (j+[AV.int .u64 (w:Int)].length)=(xs.set j w).map u64:=by
  apply List.ext_getElem?;intro t;rw[List.map_set];simp only[List.length_singleton];rcases Nat.lt_trichotomy t j with A | A | A
  ·rw[List.append_assoc,List.getElem?_append_left (by simp;omega),List.getElem?_take,if_pos A,List.getElem?_set_ne (by omega)]
  ·subst A;rw[List.append_assoc,List.getElem?_append_right (by simp;omega),List.getElem?_set_self (by simp;omega)];simp[Nat.min_eq_left (Nat.le_of_lt F)]
  ·rw[List.getElem?_append_right (by simp;omega),List.getElem?_drop,List.getElem?_set_ne (by omega)]
   have:j+1+(t-(List.take j (xs.map u64)++[AV.int .u64 (w:Int)]).length)=t:=by rw[qb0,qcf,qb1,List.length_singleton];omega
   rw[this]
 rw[Q];refine H _ ⟨?_,⟨e,qp b _ _⟩,?_,?_⟩ (AH.upd_Upd h i _ e)
 ·rw[qb7];exact v.is
 ·intro y U;rcases List.mem_or_eq_of_mem_set U with h1 | h1
  ·exact v.lt y h1
  ·rw[h1];exact I
 ·rw[qb7];exact v.short
abbrev qbh:=@Runs.vput
theorem Runs.mk{h:AH}{l c:Int}{elem:TypeId}{bytes n:Nat}{K:Sl×AH->Option (AV×AH)}(q:mkI l c=some n)(A:bytes=8)
  (H:∀s h',Vec h' s h.blks.size (List.replicate n 0)->Grow h h'->Runs (K (s,h')) P):Runs ((kby l c elem bytes [.int .u64 0] h).bind K) P:=by
 obtain⟨h1,C,I⟩:=kbli q;subst A;rw[kvh h1 C (by omega) (by omega),kzr];refine H _ _ ⟨?_,⟨elem,?_⟩,?_,?_⟩ (qm h _)
 ·simp
 ·have:=qo h (List.replicate n (AV.int .u64 0)) elem;rw[List.map_replicate];exact this
 ·intro x F;rw[List.eq_of_mem_replicate F];omega
 ·simp;omega
end
def InB(s:Sl)(i:Nat):Prop:=∀r,s.ref=some r->∃o,r=.new i o
theorem Vec.inB{h:AH}{s:Sl}{i:Nat}{xs:List Nat}(v:Vec h s i xs):InB s i:=λr A=>by rw[v.is]at A;cases A;exact⟨_,rfl⟩
theorem InB.own{s:Sl}{i:Nat}(b:InB s i){h:AH}(hi:h.blks.size<=i):Own h s:=λr A=>by obtain⟨o,rfl⟩:=b r A;exact⟨i,o,rfl,hi⟩
theorem InB.cut{s s':Sl}{l n:Int}{m i:Nat}(b:InB s i)(e:cutSl s l n m=some s'):InB s' i:=λr F=>by
 have key:s'.ref=s.ref\/∃d,s'.ref=s.ref.map (·.add d):=by
  unfold cutSl at e;split at e
  ·cases A:decide (0<=l/\l<=n/\n<=((_:Nat):Int))with
   | true =>
    rw[A,cond_true]at e;cases e;dsimp only;split
    ·exact .inl rfl
    ·exact .inr ⟨_,rfl⟩
   | false=>rw[A,cond_false]at e;cases e
  ·cases A:decide (0<=l/\l<=n/\n<=(s.len:Int))with
   | true =>
    rename_i z _;cases C:Nat.beq z m with
    | true =>
     rw[C,A,cond_true,cond_true]at e;cases e;exact .inr ⟨_,rfl⟩
    | false=>rw[C]at e;cases e
   | false =>
    rename_i z _;cases C:Nat.beq z m with
    | true=>rw[C,A,cond_true,cond_false]at e;cases e
    | false=>rw[C]at e;cases e
 rcases key with k | ⟨d,k⟩
 ·exact b r (k▸F)
 ·rw[k,Option.map_eq_some_iff]at F;obtain⟨r0,H,rfl⟩:=F;obtain⟨o,rfl⟩:=b r0 H;exact⟨_,rfl⟩
structure Win(s:Sl)(i lo n:Nat):Prop where
 ref:s.ref=some (.new i lo)
 len:s.len=n
 fit:s.fit 1
def cutP(len:Nat)(lo hi:Int):Option (Nat×Nat):=if 0<=lo/\lo<hi/\hi<=(len:Int)then some (lo.toNat,(hi-lo).toNat)else none
theorem k0w{len:Nat}{lo hi:Int}{p:Nat×Nat}(q:cutP len lo hi=some p):lo=(p.1:Int)/\hi=((p.1+p.2:Nat):Int)/\0<p.2/\p.1+p.2<=len:=by
 unfold cutP at q;split at q
 ·cases q;dsimp only;omega
 ·cases q
theorem kbd0{len lo n:Nat}(h0:0<n)(h:lo+n<=len):cutP len (lo:Int) ((lo+n:Nat):Int)=some (lo,n):=by unfold cutP;rw[if_pos (by omega),Int.toNat_natCast,show((lo+n:Nat):Int)-(lo:Int)=(n:Int)from by omega,Int.toNat_natCast]
theorem Vec.cutW{h:AH}{s:Sl}{i:Nat}{xs:List Nat}(v:Vec h s i xs){n:Nat}(A:xs.length=n){lo hi:Int}{p:Nat×Nat}(q:cutP n lo hi=some p):∃s',cutSl s lo hi 1=some s'/\Win s' i p.1 p.2:=by
 subst A;obtain⟨rfl,rfl,h1,C⟩:=k0w q;rw[v.is];unfold cutSl;dsimp only;rw[show(decide (0<=(p.1:Int)/\(p.1:Int)<=((p.1+p.2:Nat):Int)/\((p.1+p.2:Nat):Int)<=(xs.length:Int)))=true from by rw[qbw];omega,cond_true];refine⟨_,rfl,?_,?_,?_⟩
 ·simp only[Int.toNat_natCast];rw[if_neg (by omega)];simp
 ·simp only[Int.toNat_natCast];omega
 ·show((p.1+p.2:Nat):Int).toNat-(p.1:Int).toNat<=xs.length-(p.1:Int).toNat;simp only[Int.toNat_natCast];omega
theorem Win.nats{h:AH}{s t:Sl}{i lo n:Nat}{xs:List Nat}(w:Win s i lo n)(v:Vec h t i xs)(F:lo+n<=xs.length):Nats h s ((xs.drop lo).take n):=by
 have C:((xs.drop lo).take n).length=n:=by simp;omega
 obtain⟨e,b⟩:=v.has;refine⟨⟨w.fit,by rw[w.len,qb1,C,Nat.mul_one],λk y A=>⟨_,w.ref,?_⟩⟩,λy A=>v.lt y (List.mem_of_mem_drop (List.mem_of_mem_take A)),by have:=v.short;omega⟩;rw[qj,b.cell];rw[List.getElem?_map]at A|-;rw[List.getElem?_take]at A;split at A
 ·rwa[List.getElem?_drop]at A
 ·cases A
def setW(xs:List Nat)(lo n:Nat)(ys:List Nat):Option (List Nat):=if lo+n<=xs.length/\ys.length=n then some (xs.take lo++ys++xs.drop (lo+n))else none
theorem kzx{xs ys zs:List Nat}{lo n:Nat}(q:setW xs lo n ys=some zs):zs.length=xs.length:=by
 unfold setW at q;split at q
 ·cases q;simp;omega
 ·cases q
theorem Vec.copyW{h:AH}{s d t:Sl}{i lo n:Nat}{xs ys zs:List Nat}(v:Vec h t i xs)(w:Win d i lo n)(m:Nats h s ys)(q:setW xs lo n ys=some zs):∃h',copyH s d 1 h=some h'/\Vec h' t i zs/\Upd h h' i:=by
 have F:=kzx q;unfold setW at q;split at q
 ·rename_i A;cases q;have C:=m.cells.gets;rw[m.len]at C;obtain⟨e,b⟩:=v.has;unfold copyH;rw[w.ref,m.len,w.len,A.2,Nat.min_self];cases H:s.ref with
  | none =>
   have:ys=[]:=by
    cases ys with
    | nil=>rfl
    | cons y ys =>obtain⟨r,e,_⟩:=m.cells.get 0 _ rfl;rw[H]at e;cases e
   subst this;have:n=0:=A.2.symm;subst this;exact⟨h,rfl,by simpa using v,(ql h).toUpd i⟩
  | some r =>
   rw[H,A.2]at C;simp only[AH.getsO]at C;dsimp only;rw[C,qbt,b.puts (by simp;omega)]
   have I:(xs.map u64).take lo++ys.map u64++(xs.map u64).drop (lo+(ys.map u64).length)=(xs.take lo++ys++xs.drop (lo+n)).map u64:=by simp[List.map_take,List.map_drop,A.2]
   rw[I];refine⟨_,rfl,⟨?_,⟨e,qp b _ _⟩,?_,?_⟩,AH.upd_Upd h i _ e⟩
   ·rw[F];exact v.is
   ·intro z h1;rcases qb5.1 h1 with h1 | h1
    ·rcases qb5.1 h1 with h1 | h1
     ·exact v.lt z (List.mem_of_mem_take h1)
     ·exact m.lt z h1
    ·exact v.lt z (List.mem_of_mem_drop h1)
   ·rw[F];exact v.short
 ·cases q
def Av(s:Sl)(i:Nat)(xs:List Nat):Prop:=xs=[]\/∀o,s.ref≠some (.new i o)
theorem Av.of_base{h0:AH}{s:Sl}{xs:List Nat}(n:Nats h0 s xs){i:Nat}(hi:h0.blks.size<=i):Av s i xs:=by
 by_cases A:xs=[]
 ·exact .inl A
 ·right
  intro o F;have H:0<xs.length:=by cases xs;exact absurd rfl A;simp
  obtain⟨r,C,I⟩:=n.cells.get 0 _ (by rw[List.getElem?_map,qb4 H];rfl);rw[F]at C;cases C;have:=AH.cell_inn I;simp only[qj,Ref.inn]at this;omega
abbrev qbi:=@Av.of_base
theorem Av.of_own{h1:AH}{s:Sl}{xs:List Nat}(o:Own h1 s){i:Nat}(hi:i<h1.blks.size):Av s i xs:=.inr λk A=>by obtain⟨j,C,e,F⟩:=o _ A;cases e;omega
abbrev qbj:=@Av.of_own
theorem Av.of_in{s:Sl}{j:Nat}{xs:List Nat}(b:InB s j){i:Nat}(A:j≠i):Av s i xs:=.inr λk C=>by obtain⟨o,e⟩:=b _ C;cases e;exact A rfl
theorem Av.nil(s:Sl)(i:Nat):Av s i []:=.inl rfl
theorem Nats.upda{h1 C:AH}{s:Sl}{xs:List Nat}(c:Nats h1 s xs){i:Nat}(av:Av s i xs)(u:Upd h1 C i):Nats C s xs :=
 ⟨⟨c.cells.fit,c.cells.len,λk v F=>by
  obtain⟨r,H,I⟩:=c.cells.get k v F;refine⟨r,H,u.cell I λK A=>?_⟩;rcases av with rfl | av
  ·simp at F
  ·cases r with
   | old a=>cases A
   | new j o =>simp only[qj,Ref.new.injEq]at A;exact av o (by rw[H,A.1])⟩,c.lt,c.short⟩
end Go.Ab
namespace Go.Ab
theorem kwm{h h':AH}{i:Nat}{cs:List AV}{e:TypeId}(b:h.has i cs e)(b':h'.has i cs e)(o n:Nat):SameAt h h' (.new i o) n:=⟨λj _=>by rw[qj,b.cell,b'.cell],λ_=>b'.trans b.symm⟩
section
variable{P:AV->AH->Prop}{K:AV×AH->Option (AV×AH)}
theorem Runs.retB{v:AV}{h:AH}(H:Runs (K (v,h)) P):Runs ((some (v,h)).bind K) P:=H
theorem Runs.stepB{A:Type}{o:Option A}{a:A}{f:A->Option (AV×AH)}(e:o=some a)(H:Runs ((f a).bind K) P):Runs ((o.bind f).bind K) P:=by subst e;exact H
abbrev qbk:=@Runs.stepB
theorem Runs.newB{h:AH}{cs:List AV}{e:TypeId}{f:Ref->AH->Option (AV×AH)}(H:∀h',h'.has h.blks.size cs e->Grow h h'->Runs ((f (.new h.blks.size 0) h').bind K) P):Runs ((newK h (.cells cs e) f).bind K) P:=H _ (qo h cs e) (qm h _)
theorem Runs.putsB{h:AH}{i:Nat}{cs vs:List AV}{e:TypeId}{f:AH->Option (AV×AH)}(b:h.has i cs e)(A:vs.length=cs.length)(H:∀h',h'.has i vs e->Upd h h' i->Runs ((f h').bind K) P):Runs (((h.puts (.new i 0) vs).bind f).bind K) P:=by rw[b.puts_all A];exact H _ (qp b vs e) (AH.upd_Upd h i vs e)
theorem Runs.ifTB{c:Bool}{a b:Option (AV×AH)}(e:c=true)(H:Runs (a.bind K) P):Runs ((_root_.cond c a b).bind K) P:=by subst e;exact H
end
end Go.Ab
namespace Go.Num
def num(b:Nat):List Nat->Nat
 | []=>0
 | x::xs=>x+b*num b xs
def digs(b n:Nat):List Nat:=if h:b<=1\/n=0 then []else n%b::digs b (n/b)
termination_by n
decreasing_by
 have:n≠0:=λe=>h (.inr e);have:1<b:=by omega
 exact Nat.div_lt_self (by omega) this
theorem kcg(b:Nat):digs b 0=[]:=by rw[digs];simp
theorem kfc{b n:Nat}(A:2<=b)(C:n≠0):digs b n=n%b::digs b (n/b):=by rw[digs,dif_neg (by omega)]
theorem ko{b:Nat}(A:2<=b)(n:Nat):num b (digs b n)=n:=by
 induction n using Nat.strongRecOn with
 | ind n ih =>
  by_cases C:n=0
  ·subst C;simp[kcg,num]
  ·rw[kfc A C,num,ih _ (Nat.div_lt_self (by omega) A),Nat.mod_add_div]
theorem kbv{b:Nat}(C:2<=b)(n:Nat):∀x∈digs b n,x<b:=by
 induction n using Nat.strongRecOn with
 | ind n ih =>
  by_cases F:n=0
  ·subst F;simp[kcg]
  ·rw[kfc C F];intro x A;rcases List.mem_cons.1 A with rfl | A
   ·exact Nat.mod_lt _ (by omega)
   ·exact ih _ (Nat.div_lt_self (by omega) C) x A
theorem kdn(b:Nat)(xs ys:List Nat):num b (xs++ys)=num b xs+b^xs.length*num b ys:=by
 induction xs with
 | nil=>simp[num]
 | cons x xs ih =>simp only[List.cons_append,num,ih,List.length_cons,Nat.pow_succ,Nat.mul_add];rw[Nat.mul_comm (b^xs.length) b,Nat.mul_assoc];omega
theorem num_lt{b:Nat}(A:1<=b):∀{xs:List Nat},(∀x∈xs,x<b)->num b xs<b^xs.length
 | [],_=>by simp[num]
 | x::xs,h=>by
  have h1:=h x (by simp);have C:=num_lt A (xs:=xs) λy F=>h y (by simp[F]);simp only[num,List.length_cons,Nat.pow_succ]
  calc x+b*num b xs<b+b*num b xs:=by omega
   _=b*(num b xs+1):=by rw[Nat.mul_add,Nat.mul_one,Nat.add_comm]
   _<=b*b^xs.length:=Nat.mul_le_mul_left _ C
   _=b^xs.length*b:=Nat.mul_comm _ _
def Trim(xs:List Nat):Prop:=∀h:xs≠[],xs.getLast h≠0
theorem Trim.tail{x:Nat}{xs:List Nat}(h:Trim (x::xs)):Trim xs:=λA=>by have:=h (by simp);rwa[List.getLast_cons A]at this
theorem ko2{b:Nat}(A:1<=b):∀{xs:List Nat},Trim xs->num b xs=0->xs=[]
 | [],_,_=>rfl
 | x::xs,C,h=>by
  simp only[num]at h
  have h1:num b xs=0:=by
   rcases Nat.eq_zero_or_pos (num b xs)with e | e
   ·exact e
   ·have:0<b*num b xs:=Nat.mul_pos A e;omega
  have:=ko2 A C.tail h1;subst this;have:=C (by simp);simp at this;omega
theorem kfs{b:Nat}(A:2<=b):∀{xs:List Nat},(∀x∈xs,x<b)->Trim xs->digs b (num b xs)=xs
 | [],_,_=>by simp[num,kcg]
 | x::xs,h,C=>by
  have F:=h x (by simp)
  have H:num b (x::xs)≠0:=λe=>by have:=ko2 (by omega) C e;cases this
  rw[kfc A H];simp only[num]
  rw[Nat.add_mul_mod_self_left,Nat.mod_eq_of_lt F,Nat.add_mul_div_left _ _ (by omega),Nat.div_eq_of_lt F,Nat.zero_add,
   kfs A (λy I=>h y (by simp[I])) C.tail]
theorem kcn{b:Nat}(C:2<=b)(n:Nat):Trim (digs b n):=by
 induction n using Nat.strongRecOn with
 | ind n ih =>
  by_cases F:n=0
  ·subst F;simp[kcg,Trim]
  ·rw[kfc C F];intro _;by_cases A:digs b (n/b)=[]
   ·simp only[A,List.getLast_singleton]
    have:n/b=0:=by
     rcases Nat.eq_zero_or_pos (n/b)with e | e
     ·exact e
     ·rw[kfc C (by omega)]at A;cases A
    have:=Nat.mod_add_div n b;rw[‹n/b=0›]at this;omega
   ·rw[List.getLast_cons A];exact ih _ (Nat.div_lt_self (by omega) C) A
theorem kbl{b:Nat}(C:2<=b)(n k:Nat):(digs b n).length<=k↔n<b^k:=by
 induction k generalizing n with
 | zero =>
  simp only[Nat.pow_zero,Nat.le_zero_eq];by_cases A:n=0
  ·subst A;simp[kcg]
  ·rw[kfc C A];simp;omega
 | succ k ih =>
  by_cases A:n=0
  ·subst A;simp only[kcg,List.length_nil,Nat.zero_le,true_iff];exact Nat.pow_pos (by omega)
  ·rw[kfc C A,List.length_cons,Nat.add_le_add_iff_right,ih,Nat.pow_succ,Nat.div_lt_iff_lt_mul (by omega)]
theorem kgt{b:Nat}(A:2<=b){n:Nat}:digs b n=[]↔n=0:=by
 constructor
 ·intro h;have:=ko A n;rw[h]at this
  simpa[num]using this.symm
 ·rintro rfl;exact kcg b
theorem klx(b:Nat)(xs:List Nat)(k:Nat):num b (xs++List.replicate k 0)=num b xs:=by
 rw[kdn]
 have:num b (List.replicate k 0)=0:=by
  induction k with
  | zero=>rfl
  | succ k ih=>simp[List.replicate_succ,num,ih]
 rw[this];omega
theorem k7k{b:Nat}{xs:List Nat}{n:Nat}(h:∀i,n<=i->(hi:i<xs.length)->xs[i]=0):num b (xs.take n)=num b xs:=by
 have e:xs=xs.take n++xs.drop n:=(List.take_append_drop n xs).symm
 have A:xs.drop n=List.replicate (xs.length-n) 0:=by
  apply List.ext_getElem
  ·simp
  ·intro i h1 C;simp only[List.getElem_drop,List.getElem_replicate];exact h _ (by omega) _
 conv=>rhs;rw[e,A]
 rw[klx]
theorem kq1{b:Nat}(F:2<=b){xs:List Nat}{n:Nat}(H:∀x∈xs,x<b)(h:∀i,n<=i->(hi:i<xs.length)->xs[i]=0)(Q:n<=xs.length)(I:n=0\/∃h:n-1<xs.length,xs[n-1]≠0) :
  xs.take n=digs b (num b xs):=by
 rw[<- k7k h];symm;refine kfs F (λx C=>H x (List.mem_of_mem_take C)) λA=>?_;rcases I with rfl | ⟨h1,K⟩
 ·simp at A
 ·have:(xs.take n).getLast A=xs[n-1]:=by
   rw[List.getLast_eq_getElem];simp only[List.getElem_take,List.length_take];congr 1;omega
  rw[this];exact K
theorem ktj{b:Nat}(A:2<=b){xs ys:List Nat}(C:∀x∈xs,x<b)(F:∀x∈ys,x<b)(ty:Trim ys)(h:xs.length<ys.length):num b xs<num b ys:=by
 rw[<- kfs A F ty]at h;rcases Nat.lt_or_ge (num b xs) (num b ys)with h1 | h1
 ·exact h1
 ·exfalso;have H:=num_lt (b:=b) (by omega) C;have I:=(kbl A (num b ys) xs.length).2 (by omega);omega
def cmp(a b:Nat):Int:=if a<b then -1 else if a=b then 0 else 1
theorem kdt(b:Nat){xs:List Nat}{k:Nat}(h:k<xs.length):num b (xs.take (k+1))=num b (xs.take k)+b^k*xs[k]:=by rw[List.take_succ_eq_append_getElem h,kdn];simp[num,Nat.min_eq_left (Nat.le_of_lt h)]
theorem k8k{b p q x y k:Nat}(C:p<b^k)(F:q<b^k):cmp (p+b^k*x) (q+b^k*y)=if x<y then -1 else if x=y then cmp p q else 1:=by
 have key:∀{p q x y:Nat},p<b^k->x<y->p+b^k*x<q+b^k*y:=by intro p q x y C A;have:b^k*(x+1)<=b^k*y:=Nat.mul_le_mul_left _ A;rw[Nat.mul_add,Nat.mul_one]at this;omega
 unfold cmp;rcases Nat.lt_trichotomy x y with h | h | h
 ·have:=key (q:=q) C h;simp[h,this]
 ·subst h;simp
 ·have:=key (q:=p) F h;rw[if_neg (by omega),if_neg (by omega),if_neg (by omega),if_neg (by omega)]
theorem ku8{b:Nat}(A:2<=b)(m n:Nat):(digs b (m+n)).length<=max (digs b m).length (digs b n).length+1:=by rw[kbl A];have h1:=(kbl A m _).1 (Nat.le_max_left (digs b m).length (digs b n).length);have C:=(kbl A n _).1 (Nat.le_max_right (digs b m).length (digs b n).length);generalize max (digs b m).length (digs b n).length=k at h1 C|-;rw[Nat.pow_succ];have:b^k*2<=b^k*b:=Nat.mul_le_mul_left _ A;omega
theorem k6d{b c:Nat}{f:Nat->List Nat}{k:Nat}(C:c=b^k){xs:List Nat}(A:∀x∈xs,(f x).length=k/\num b (f x)=x):num b (xs.flatMap f)=num c xs:=by
 induction xs with
 | nil=>rfl
 | cons x xs ih =>obtain⟨h1,F⟩:=A x (by simp);rw[List.flatMap_cons,kdn,h1,F,ih λy H=>A y (by simp[H]),<- C];rfl
def dig4(x:Nat):List Nat:=[x%65536,x/65536%65536,x/65536/65536%65536,x/65536/65536/65536%65536]
theorem kbk2{x:Nat}(h:x<18446744073709551616):(dig4 x).length=4/\num 65536 (dig4 x)=x:=by refine⟨rfl,?_⟩;simp only[dig4,num];omega
theorem kj1{b:Nat}:∀{xs:List Nat}{j:Nat}(h:j<xs.length)(w:Nat),num b (xs.set j w)+b^j*xs[j]=num b xs+b^j*w
 | x::xs,0,h,w=>by simp only[List.set_cons_zero,num,List.getElem_cons_zero,Nat.pow_zero,Nat.one_mul];omega
 | x::xs,j+1,h,w=>by
  have h':j<xs.length:=by simpa using h
  have ih:=kj1 (b:=b) (xs:=xs) (j:=j) h' w;simp only[List.set_cons_succ,num,List.getElem_cons_succ];have A:b^(j+1)*xs[j]=b*(b^j*xs[j]):=by rw[Nat.pow_succ,Nat.mul_comm (b^j) b,Nat.mul_assoc]
  have C:b^(j+1)*w=b*(b^j*w):=by rw[Nat.pow_succ,Nat.mul_comm (b^j) b,Nat.mul_assoc]
  rw[A,C];have F:=congrArg (b * ·) ih;simp only[Nat.mul_add]at F;omega
theorem kw4{b P n C o l c A t T:Nat}(h1:C+P*o=n+P*l)(F:t+o+c=A*b+l)(K:n+c*P=T):C+A*(P*b)=T+P*t:=by
 have e:=congrArg (P * ·) F;simp only[Nat.mul_add]at e;have H:P*(A*b)=A*(P*b):=by rw[Nat.mul_left_comm]
 have I:P*c=c*P:=Nat.mul_comm _ _;rw[H,I]at e;omega
def Row(b:Nat)(o:List Nat)(i k c x:Nat)(ys:List Nat)(T:Nat):Prop:=num b o+c*b^(i+k)=T+b^i*(x*num b (ys.take k))
theorem Row.start{b:Nat}{o:List Nat}{i x:Nat}{ys:List Nat}{T:Nat}(h:num b o=T):Row b o i 0 0 x ys T:=by unfold Row;simp[num,h]
theorem Row.step{b:Nat}{o:List Nat}{i k c x:Nat}{ys:List Nat}{T A l:Nat}(r:Row b o i k c x ys T)(C:k<ys.length)(F:i+k<o.length)(e:x*ys[k]+o[i+k]+c=A*b+l):Row b (o.set (i+k) l) i (k+1) A x ys T:=by unfold Row at r|-;have h1:=kj1 (b:=b) F l;have:=kw4 h1 e r;rw[show i+(k+1)=i+k+1 from rfl,Nat.pow_succ,this,kdt b C,Nat.mul_add,Nat.mul_add,Nat.pow_add];rw[Nat.mul_assoc (b^i) (b^k),Nat.mul_left_comm (b^k) x];omega
theorem Row.stop{b:Nat}{o:List Nat}{i c x:Nat}{ys:List Nat}{T:Nat}(r:Row b o i ys.length c x ys T)(A:i+ys.length<o.length)(h0:o[i+ys.length]=0):num b (o.set (i+ys.length) c)=T+b^i*(x*num b ys):=by unfold Row at r;have h1:=kj1 (b:=b) A c;rw[h0,Nat.mul_zero,Nat.add_zero]at h1;rw[h1,Nat.mul_comm,r,List.take_length]
theorem kyj{b:Nat}{xs ys:List Nat}{i T:Nat}(hi:i<xs.length)(h:T=num b (xs.take i)*num b ys):T+b^i*(xs[i]*num b ys)=num b (xs.take (i+1))*num b ys:=by rw[kdt b hi,Nat.add_mul,h,Nat.mul_assoc]
theorem kzs{b x y o c:Nat}(C:x<b)(F:y<b)(H:o<b)(I:c<b):(x*y+o+c)/b<b:=by
 have A:0<b:=by omega
 rw[Nat.div_lt_iff_lt_mul A];have h1:x*y<=(b-1)*(b-1):=Nat.mul_le_mul (by omega) (by omega);obtain⟨a,rfl⟩:∃a,b=a+1:=⟨b-1,by omega⟩;simp only[Nat.add_sub_cancel]at h1;have:(a+1)*(a+1)=a*a+2*a+1:=by rw[Nat.add_mul,Nat.mul_add];omega
 omega
end Go.Num
namespace Go.Num
section
variable{b v1 v0 u32 u1 q r v w:Nat}
theorem kn_lt(A:u32<v)(C:u1<b)(F:w=u32*b+u1):w<v*b:=by have:(u32+1)*b<=v*b:=Nat.mul_le_mul_right _ A;rw[Nat.add_mul,Nat.one_mul]at this;omega
theorem kn_mul(A:v=v1*b+v0):q*v=q*v1*b+q*v0:=by rw[A,Nat.mul_add,Nat.mul_assoc]
theorem kn_hi(I:v=v1*b+v0)(K:u32<v)(C:u1<b)(H:w=u32*b+u1)(e:q*v1+r=u32)(F:w/v<=q)(t:b<=q\/b*r+u1<q*v0):w/v<=q-1/\1<=q:=by
 have A:0<v:=by omega
 have Q:=kn_lt K C H
 have h1:w/v<q:=by
  rcases t with t | t
  ·have:w/v<b:=(Nat.div_lt_iff_lt_mul A).2 (by rw[Nat.mul_comm];exact Q);omega
  ·rw[Nat.div_lt_iff_lt_mul A,kn_mul I,H,<- e,Nat.add_mul,Nat.mul_comm r b];omega
 clear F;generalize w/v=k at *
 omega
theorem kn_lo(F:v=v1*b+v0)(I:u32<v)(H:w=u32*b+u1)(e:q*v1+r=u32)(A:w/v<=q)(t:q*v0<=b*r+u1):w/v=q:=by
 have C:0<v:=by omega
 refine Nat.le_antisymm A ?_;rw[Nat.le_div_iff_mul_le C,kn_mul F,H,<- e,Nat.add_mul,Nat.mul_comm r b];omega
theorem kn_out(F:v=v1*b+v0)(A:v0<b)(H:u32<v)(e:q*v1+r=u32)(C:b<=r):q*v0<=b*r+u1:=by
 have h1:q*v1<b*v1:=by rw[Nat.mul_comm b v1];omega
 have I:q<b:=Nat.lt_of_mul_lt_mul_right h1;have K:q*v0<=b*b:=Nat.mul_le_mul (by omega) (by omega);have Q:b*b<=b*r:=Nat.mul_le_mul_left _ C;omega
theorem k1d(A:0<v1)(F:v=v1*b+v0)(Q:u32<v)(H:u1<b)(C:w=u32*b+u1)(U:0<b):w/v<=u32/v1:=by
 have I:0<v:=by omega
 rw[Nat.le_div_iff_mul_le A];have h1:w/v*v<=w:=Nat.div_mul_le_self w v;rw[kn_mul F,C]at h1
 have K:w/v*v1*b<(u32+1)*b:=by rw[Nat.add_mul,Nat.one_mul];rw[C];omega
 have:=Nat.lt_of_mul_lt_mul_right K;omega
end
theorem kbab{b v w x:Nat}(A:0<v)(C:x<b):(w*b+x)/v=w/v*b+(w%v*b+x)/v/\(w*b+x)%v=(w%v*b+x)%v:=by
 have e:w*b+x=v*(w/v*b)+(w%v*b+x):=by
  have:=Nat.div_add_mod w v;have h:(v*(w/v)+w%v)*b=w*b:=by rw[this]
  rw[Nat.add_mul,Nat.mul_assoc]at h;omega
 constructor
 ·rw[e,Nat.mul_add_div A]
 ·rw[e,Nat.mul_add_mod]
end Go.Num
