/- Words and laws that the last text joins. -/
import Derived.Test.YtgfeahhgoiidiaaGreatDoorPAbsA
import Derived.MapKept
import Derived.AtR
set_option linter.unusedVariables false
set_option linter.unusedSimpArgs false
set_option linter.unusedSectionVars false
namespace Go.Ab
variable{P:Program}{O:World}{R:Type}
theorem k5h{μ:Mu}{t:TypeId}{x:AV}{k:AV->Option R}{r:R}(h:lenK P t x k=some r){u:Value}(C:VRel μ x u){ts:Array TypeId}(h0:ts[0]?=some t)(ty:TypeId)(w:World) :
  ∃z a,k z=some r/\VRel μ z a/\(Builtin.len_ ts ty #[u]).run P w=.ok a w:=by
 unfold lenK at h;split at h
 ·rename_i s A;simp only[VRel]at C;subst C;exact⟨_,.int .i64 s.size,h,by simp[VRel],by simp[Builtin.len_,h0,run_underlying A,goInt]⟩
 ·rename_i n e A;exact⟨_,.int .i64 n,h,by simp[VRel],by simp[Builtin.len_,h0,run_underlying A,goInt]⟩
 ·rename_i e r n c A;obtain⟨a,cap,rfl,_⟩:=C.slice_open;exact⟨_,.int .i64 n,h,by simp[VRel],by simp[Builtin.len_,h0,run_underlying A,goInt]⟩
 ·cases h
theorem kbmz{μ:Mu}{h:AH}{w:World}(S:Sim P O μ h w){ts:Array TypeId}{ty t e:TypeId}(h0:ts[0]?=some t)(hd:P.underlying t=some (.slice e))(ac:(P.info? e).isSome=true)
  {r Q:Option Ref} {n A:Nat} {c c':Cap} {u u':Value} (X:VRel μ (.slice r n c) u) (C:VRel μ (.slice Q A c') u') {h':AH} (K:copyH ⟨Q,A,c'⟩ ⟨r,n,c⟩ (P.cellsOf e) h=some h') :
  Yields P (Builtin.copy_ ts ty #[u,u']) w (Good P O μ h w (.int .i64 ((min A n:Nat):Int)) h'):=by
 obtain⟨ie,hi⟩:=Option.isSome_iff_exists.1 ac;have hs:(sizeOf e).run P w=.ok (P.cellsOf e) w:=by simp[sizeOf,typeInfo,hi,Program.cellsOf]
 have F:(Builtin.lenOf u').run P w=.ok A w:=by obtain⟨_,_,rfl,_⟩:=C.slice_open;rfl
 unfold copyH at K;have H:min A n=Nat.min A n:=rfl;split at K
 ·rename_i rd rs Y Z;dsimp only at Y Z K;subst Y;subst Z;simp only[qbu]at K;obtain⟨cs,hg,hp⟩:=K;obtain⟨us,k1,U,k3,k4⟩:=knm S C (m:=min A n) (Nat.min_le_left _ _) (by simpa[AH.getsO]using hg);simp only[VRel]at X;obtain⟨a,cap,rfl,ad,aa⟩:=X;have ai:n<=cap:=by cases c<;>exact aa.1
  rw[H]at U;rcases ad with aj | ae
  ·have hn:n=0:=by omega
   subst hn;have I:us=[]:=List.eq_nil_of_length_eq_zero (by simpa using k1);subst I;have af:cs=[]:=List.eq_nil_of_length_eq_zero k3.length.symm;subst af;simp only[AH.puts,qcb]at hp;subst hp;refine⟨.int .i64 ((min A 0:Nat):Int),w,?_,qd S (by simp[VRel])⟩;simp[Builtin.copy_,h0,run_underlying hd,F,hs,<- H]at U|-;simp[U,storeCells,goInt]
  ·obtain⟨w',e1,e2,e3,e4⟩:=kry (i:=0) (a:=a) S (by rw[show a.add 0=a from by simp[Addr.add]];exact ae) k3 k4 hp;refine⟨.int .i64 ((min A n:Nat):Int),w',?_,μ,by simp[VRel],e2,e3,e4⟩;simp[Builtin.copy_,h0,run_underlying hd,F,hs,U,e1,goInt,H]
 ·rename_i ag;simp only[qcb]at K;subst K
  have hz:min A n=0\/False:=by
   cases r with
   | none=>simp only[VRel]at X;left;rw[X.1];simp
   | some r=>cases Q with
    | none=>simp only[VRel]at C;left;rw[C.1];simp
    | some Q=>exact absurd rfl (ag r Q rfl)
  have hz:min A n=0:=by simpa using hz
  obtain⟨us,k1,U,k3,k4⟩:=knm (size:=P.cellsOf e) S C (m:=0) (Nat.zero_le _) (by cases Q<;>simp[AH.getsO,AH.gets]<;>rfl);have I:us=[]:=List.eq_nil_of_length_eq_zero (by simpa using k1);subst I;have ah:Nat.min A n=0:=hz;refine⟨.int .i64 ((min A n:Nat):Int),w,?_,qd S (by simp[VRel])⟩;obtain⟨base,cap,rfl,_⟩:=X.slice_open;cases base<;>simp[Builtin.copy_,h0,run_underlying hd,F,hs,ah,U,storeCells,goInt,hz]
theorem kno(ρ:Operand->Value)(o:Oper)(c:Call)(A:o.op=.call c):execOp ρ o=(do let d <- resolve ρ c o.type;invoke d.target d.args):=by unfold execOp;rw[A]
theorem kbgu{v:AV}{k:AV->Option R}{r:R}(h:leafK .slice (some v) k=some r):k v=some r:=by obtain⟨x,A,C⟩:=krf h;cases A;exact C
theorem k6q{μ:Mu}{h:AH}{w:World}(S:Sim P O μ h w){b:Builtin}{ts:Array TypeId}{xs:List AV}{us:List Value}(hx:VRels μ xs us){k:AV->AH->Option R}{r:R}(K:kgo P b ts.toList xs h k=some r)(ty:TypeId)(U:Array Bool) :
  ∃v h1,k v h1=some r/\∃u w',(builtin b ts ty U us.toArray).run P w=.ok (.value u) w'/\Good P O μ h w v h1 u w':=by
 unfold kgo at K;split at K
 ·rename_i t ac x I;obtain⟨u,us',rfl,Q,C⟩:=hx.cons_inv;have:=C.nil_inv;subst this;have h0:ts[0]?=some t:=by have:=congrArg (·[0]?) I;simpa using this
  obtain⟨z,a,H,hz,hr⟩:=k5h K Q h0 ty w;exact⟨z,h,H,a,w,by simp[builtin,hr],qd S hz⟩
 ·rename_i kd a ad b;obtain⟨u,us',rfl,Q,C⟩:=hx.cons_inv;obtain⟨u2,X,rfl,F,A⟩:=C.cons_inv;have:=A.nil_inv;subst this;simp only[VRel]at Q F;subst Q;subst F;refine⟨_,h,K,.int kd (imin a b),w,?_,qd S (by simp[VRel])⟩;simp only[builtin,Builtin.min_,List.foldlM_cons,List.foldlM_nil,Builtin.min2,imin];by_cases Y:b<a<;>simp[Y]
 ·rename_i kd a ad b;obtain⟨u,us',rfl,Q,C⟩:=hx.cons_inv;obtain⟨u2,X,rfl,F,A⟩:=C.cons_inv;have:=A.nil_inv;subst this;simp only[VRel]at Q F;subst Q;subst F;refine⟨_,h,K,.int kd (imax a b),w,?_,qd S (by simp[VRel])⟩;simp only[builtin,Builtin.max_,List.foldlM_cons,List.foldlM_nil,Builtin.max2,imax];by_cases Y:a<b<;>simp[Y]
 ·rename_i t u' ac q n c x I;obtain⟨u,us',rfl,Q,C⟩:=hx.cons_inv;obtain⟨u2,X,rfl,F,A⟩:=C.cons_inv;have:=A.nil_inv;subst this;have h0:ts[0]?=some t:=by have:=congrArg (·[0]?) I;simpa using this
  have h1:ts[1]?=some u':=by have:=congrArg (·[1]?) I;simpa using this
  split at K
  ·rename_i e f hd ae;obtain⟨Z,H⟩:=kz K;simp only[qbu]at H;obtain⟨p,hp,q,hq,aa⟩:=H;obtain⟨u3,w',hr,g⟩:=kblp (ty:=ty) S h0 h1 hd ae Z Q F hp hq;exact⟨q.1,q.2,kbgu aa,u3,w',by simp[builtin,hr],g⟩
  ·cases K
 ·rename_i t ac q n c q' n' c' I;obtain⟨u,us',rfl,Q,C⟩:=hx.cons_inv;obtain⟨u2,X,rfl,F,A⟩:=C.cons_inv;have:=A.nil_inv;subst this;have h0:ts[0]?=some t:=by have:=congrArg (·[0]?) I;simpa using this
  split at K
  ·rename_i e hd;obtain⟨Z,H⟩:=kz K;simp only[qbu]at H;obtain⟨h',hc,aa⟩:=H;obtain⟨u3,w',hr,g⟩:=kbmz (ty:=ty) S h0 hd Z Q F hc;exact⟨_,h',aa,u3,w',by simp[builtin,hr],g⟩
  ·cases K
 ·cases K
theorem kq2:(Extern.allNextRows.lookup "math/bits.Add64").isSome=false/\(Extern.allNextRows.lookup "math/bits.Sub64").isSome=false/\(Extern.allNextRows.lookup "").isSome=false:=by refine⟨by kernel_rfl,by kernel_rfl,by kernel_rfl⟩
theorem k0t:(Extern.allGenericRows.lookup "math/bits.Add64").isSome=false/\(Extern.allGenericRows.lookup "math/bits.Sub64").isSome=false:=by refine⟨by kernel_rfl,by kernel_rfl⟩
theorem k1h:(Extern.allTypedRows.lookup "math/bits.Add64").isSome=false/\(Extern.allTypedRows.lookup "math/bits.Sub64").isSome=false:=by refine⟨by kernel_rfl,by kernel_rfl⟩
def addSem(args:Array Value):Sem Value:=do
 let (x,y,c) <- Extern.MathBitsCarry.three "Add64" args
 pure (Extern.MathBitsCarry.pair ((x+y+c)%Extern.MathBitsCarry.m64) ((x+y+c)/Extern.MathBitsCarry.m64))
def subSem(args:Array Value):Sem Value:=do
 let (x,y,b) <- Extern.MathBitsCarry.three "Sub64" args
 pure (Extern.MathBitsCarry.pair ((x+Extern.MathBitsCarry.m64-y-b)%Extern.MathBitsCarry.m64) (if x<y+b then 1 else 0))
theorem kbj4:Extern.allRows.lookup "math/bits.Add64" = some addSem:=by kernel_rfl
theorem kbdi:Extern.allRows.lookup "math/bits.Sub64" = some subSem:=by kernel_rfl
theorem kbeg(name:String)(x y c:Value):Extern.MathBitsCarry.three name #[x,y,c]=(do
  let c:=(<- asInt c).toNat
  if c>1 then unsupported (.noEntry ("extern/math/bits." ++ name ++ ": a carry that is neither 0 nor 1"))
  pure ((<- asInt x).toNat,(<- asInt y).toNat,c)):=rfl
theorem k0m(name:String)(A C F:IntKind)(x y c:Int)(h:¬c.toNat>1)(w:World):(Extern.MathBitsCarry.three name #[.int A x,.int C y,.int F c]).run P w=.ok (x.toNat,y.toNat,c.toNat) w:=by rw[kbeg];simp only[Sem.run_bind,kbi0,Result.andThen_ok,Sem.run_ite,if_neg h,Sem.run_pure]
theorem kgy{α:Type}{x:Option α}(h:x.isSome=false):x=none:=by cases x<;>simp at h;rfl
theorem k1l{fn:Func}(h1:Extern.allNextRows.lookup fn.name=none)(A:Extern.allNextRows.lookup fn.origin=none):Extern.findNext fn=none:=by unfold Extern.findNext;dsimp only;rw[h1,A];rfl
theorem kws{fn:Func}{s:Array Value->Sem Value}(h1:Extern.allGenericRows.lookup fn.name=none)(A:Extern.allTypedRows.lookup fn.name=none)(C:Extern.allRows.lookup fn.name=some s):Extern.find fn=some s:=by unfold Extern.find;dsimp only;rw[h1,A,C];rfl
theorem kbcq{μ:Mu}{f:FuncId}{fn:Func}(hf:P.funcs[f]?=some fn)(H:(fn.name == "runtime.NumGoroutine")=false) (hb:fn.body=none) (ho:fn.origin = "") {xs:List AV} {v:AV} (Z:prim fn.name xs=some v)
  {us:List Value} (hx:VRels μ xs us) (w:World):∃u,(callFunc f us.toArray).run P w=.ok (.value u) w/\VRel μ v u:=by
 have C:fn.name≠ "runtime.NumGoroutine" := by simpa using H
 unfold prim at Z;split at Z
 ·rename_i k1 x k2 y k3 c;obtain⟨u1,r1,rfl,v1,aa⟩:=hx.cons_inv;obtain⟨u2,r2,rfl,v2,ac⟩:=aa.cons_inv;obtain⟨u3,r3,rfl,v3,ad⟩:=ac.cons_inv;have:=ad.nil_inv;subst this;simp only[VRel]at v1 v2 v3;subst v1;subst v2;subst v3;have hm:(Extern.MathBitsCarry.m64:Nat)=18446744073709551616:=rfl;rcases kcs Z with⟨F,I⟩ | ⟨_,I⟩
  ·obtain⟨X,K⟩:=kz I;simp only[qbw]at X;simp only[beq_iff_eq]at F;cases K;obtain⟨d1,d2,d3,d4⟩:=X;have Q:Extern.findNext fn=none:=k1l (by rw[F];exact kgy kq2.1) (by rw[ho];exact kgy kq2.2.2);have U:Extern.find fn=some addSem:=kws (by rw[F];exact kgy k0t.1) (by rw[F];exact kgy k1h.1) (by rw[F];exact kbj4);have A:=k0m (P:=P) "Add64" k1 k2 k3 x y c (by omega) w;refine⟨Extern.MathBitsCarry.pair ((x.toNat+y.toNat+c.toNat)%Extern.MathBitsCarry.m64) ((x.toNat+y.toNat+c.toNat)/Extern.MathBitsCarry.m64),?_,?_⟩
   ·simp[callFunc,hf,C,hb,Q,U,addSem,A,-String.reduceAppend]
   ·simp only[VRel];refine⟨_,rfl,qc ?_ (qc ?_ qb)⟩
    ·simp only[VRel,Value.int.injEq,true_and,hm];simp;omega
    ·simp only[VRel,Value.int.injEq,true_and,hm];simp;omega
  ·obtain⟨F,K⟩:=kz I;obtain⟨X,ae⟩:=kz K;simp only[qbw]at X;simp only[beq_iff_eq]at F;cases ae;obtain⟨d1,d2,d3,d4,d5⟩:=X;have Q:Extern.findNext fn=none:=k1l (by rw[F];exact kgy kq2.2.1) (by rw[ho];exact kgy kq2.2.2);have U:Extern.find fn=some subSem:=kws (by rw[F];exact kgy k0t.2) (by rw[F];exact kgy k1h.2) (by rw[F];exact kbdi);have A:=k0m (P:=P) "Sub64" k1 k2 k3 x y c (by omega) w;refine⟨Extern.MathBitsCarry.pair ((x.toNat+Extern.MathBitsCarry.m64-y.toNat-c.toNat)%Extern.MathBitsCarry.m64) (if x.toNat<y.toNat+c.toNat then 1 else 0),?_,?_⟩
   ·simp[callFunc,hf,C,hb,Q,U,subSem,A]
   ·simp only[VRel];refine⟨_,rfl,qc ?_ (qc ?_ qb)⟩
    ·simp only[VRel,Value.int.injEq,true_and,hm];simp;omega
    ·simp only[VRel,Value.int.injEq,true_and];by_cases Y:x<y+c
     ·rw[if_pos (by omega)];simp[Y]
     ·rw[if_neg (by omega)];simp[Y]
 ·cases Z
end Go.Ab
namespace Go.Ab
open Go.MapKept
variable{P:Program}{O:World}{R:Type}
def Ents(μ:Mu)(es:List AEnt)(us:Array MapEntry):Prop:=us.size=es.length/\
 ∀(j:Nat)(e:AEnt),es[j]?=some e->∃u:MapEntry,us[j]?=some u/\VRel μ e.key u.key/\VRel μ e.val u.val/\u.born=e.born
theorem kh6{μ:Mu}{h:AH}{w:World}(S:Sim P O μ h w){i:Nat}{L:Loc}(F:μ i=some L){p:List AEnt×Nat}(A:h.mapAt i=some p):∃us,w.heap[L.block]?=some (.map us p.2)/\Ents μ p.1 us/\h.blks[i]?=some (.map p.1 p.2):=by
 unfold AH.mapAt at A;split at A
 ·rename_i es ck C;cases A;obtain⟨us,h1,H⟩:=S.blk i L _ F C;exact⟨us,h1,H,C⟩
 ·cases A
theorem knh{μ:Mu}{kd:IntKind}{n:Int}:∀{es:List AEnt}{us:List MapEntry}{i:Nat}{q:Option (Nat×AV)},(us.length=es.length/\∀(j:Nat)(e:AEnt),es[j]?=some e->∃u:MapEntry,us[j]?=some u/\VRel μ e.key u.key/\VRel μ e.val u.val/\u.born=e.born)->findA kd n es i=some q->
  match q with
  | none=>Instr.findNow (.int kd) (.int kd n) us i=some none
  | some x=>∃j u e,x.1=i+j/\es[j]?=some e/\e.key=.int kd n/\e.val=x.2/\us[j]?=some u/\u.key=.int kd n/\Instr.findNow (.int kd) (.int kd n) us i=some (some (i+j,u.val))/\VRel μ x.2 u.val/\u.born=e.born
 | [],us,i,q,h,A=>by
  simp only[findA,qcb]at A;subst A;have:us=[]:=List.length_eq_zero_iff.1 h.1;subst this;rfl
 | e::es,us,i,q,h,A=>by
  cases us with
  | nil=>simp at h
  | cons u us =>
   obtain⟨u0,K,H,X,Y⟩:=h.2 0 e rfl;cases K;have Q:us.length=es.length/\∀(j:Nat)(e:AEnt),es[j]?=some e->∃u:MapEntry,us[j]?=some u/\VRel μ e.key u.key/\VRel μ e.val u.val/\u.born=e.born:=⟨by simpa using h.1,λj e Z=>h.2 (j+1) e Z⟩;simp only[findA]at A;split at A
   ·rename_i C m F;rw[F]at H;simp only[VRel]at H;by_cases I:C=kd
    ·subst I;simp only[decide_true,cond_true]at A;by_cases U:n=m
     ·subst U;simp only[decide_true,cond_true,qcb]at A;subst A;refine⟨0,u,e,rfl,rfl,F,rfl,rfl,H,?_,X,Y⟩;simp[Instr.findNow,Instr.sameNow,H]
     ·simp only[U,decide_false,cond_false]at A;have ih:=knh Q A
      have step:Instr.findNow (.int C) (.int C n) (u::us) i=Instr.findNow (.int C) (.int C n) us (i+1):=by simp[Instr.findNow,Instr.sameNow,H,show(n==m)=false from by simp[U]]
      cases q with
      | none =>
       show Instr.findNow _ _ _ _=_;rw[step];exact ih
      | some x =>obtain⟨j,u',e',h1,h2,h3,h4,h5,h6,h7,h8,h9⟩:=ih;exact⟨j+1,u',e',by omega,h2,h3,h4,h5,h6,by rw[step,h7];congr 3;omega,h8,h9⟩
    ·simp[I]at A
   ·cases A
theorem Ents.list{μ:Mu}{es:List AEnt}{us:Array MapEntry}(e:Ents μ es us):us.toList.length=es.length/\∀(j:Nat)(x:AEnt),es[j]?=some x->∃u:MapEntry,us.toList[j]?=some u/\VRel μ x.key u.key/\VRel μ x.val u.val/\u.born=x.born:=⟨by simpa using e.1,λj x A=>by simpa using e.2 j x A⟩
theorem Ents.push{μ:Mu}{es:List AEnt}{us:Array MapEntry}(e:Ents μ es us){x:AEnt}{u:MapEntry}(C:VRel μ x.key u.key)(F:VRel μ x.val u.val)(H:u.born=x.born):Ents μ (es++[x]) (us.push u):=by
 refine⟨by simp[e.1],λj y A=>?_⟩;rcases Nat.lt_or_ge j es.length with h | h
 ·rw[List.getElem?_append_left h]at A;obtain⟨I,h1,K⟩:=e.2 j y A;exact⟨I,by rw[Array.getElem?_push,if_neg (by rw[e.1];omega)];exact h1,K⟩
 ·rw[List.getElem?_append_right h]at A
  have Q:j-es.length=0:=by
   rcases Nat.eq_zero_or_pos (j-es.length)with h0 | h0
   ·exact h0
   ·rw[List.getElem?_eq_none (by simp;omega)]at A;cases A
  rw[Q]at A;cases A;exact⟨u,by rw[Array.getElem?_push,if_pos (by rw[e.1];omega)],C,F,H⟩
theorem Ents.modify{μ:Mu}{es:List AEnt}{us:Array MapEntry}(e:Ents μ es us){i:Nat}{f:AEnt->AEnt}{g:MapEntry->MapEntry}(F:∀x u,es[i]?=some x->us[i]?=some u->VRel μ x.key u.key->VRel μ x.val u.val->u.born=x.born->VRel μ (f x).key (g u).key/\VRel μ (f x).val (g u).val/\(g u).born=(f x).born):Ents μ (es.modify i f) (us.modify i g):=by
 refine⟨by simp[e.1],λj y A=>?_⟩;rw[List.getElem?_modify]at A;simp only[Array.getElem?_modify];by_cases C:i=j
 ·subst C;simp only[if_true,Option.map_eq_map]at A|-;rw[Option.map_eq_some_iff]at A;obtain⟨x,H,rfl⟩:=A;obtain⟨u,h1,I,K,Q⟩:=e.2 i x H;exact⟨g u,by simp[h1],F x u H h1 I K Q⟩
 ·simp only[C,if_false]at A|-;exact e.2 j y (by simpa using A)
theorem Ents.erase{μ:Mu}{es:List AEnt}{us:Array MapEntry}(e:Ents μ es us){i:Nat}(hi:i<es.length):Ents μ (es.eraseIdx i) (us.eraseIdxIfInBounds i):=by
 have F:us.eraseIdxIfInBounds i=us.eraseIdx i (by rw[e.1];exact hi):=by unfold Array.eraseIdxIfInBounds;rw[dif_pos (by rw[e.1];exact hi)]
 rw[F];refine⟨by simp[List.length_eraseIdx,e.1,hi],λj y A=>?_⟩;have C:=e.list;have key:∀j,(us.eraseIdx i (by rw[e.1];exact hi))[j]?=(us.toList.eraseIdx i)[j]?:=λj=>by rw[<- Array.getElem?_toList,Array.toList_eraseIdx]
 rw[key];rw[List.getElem?_eraseIdx]at A|-;split at A
 ·rename_i h;rw[if_pos h];exact C.2 j y A
 ·rename_i h;rw[if_neg h];exact C.2 (j+1) y A
theorem k0z{μ:Mu}{t:TypeId}{z:AV}(h:zeroA P t=some z)(w:World):∃u,(zeroValue t).run P w=.ok u w/\VRel μ z u:=by unfold zeroA at h;obtain⟨i,hi,h⟩:=qbu.1 h;obtain⟨u,A,h⟩:=qbu.1 h;exact⟨u,by simp[zeroValue,typeInfo,hi,A],VRel.ofValue h⟩
theorem khm{μ:Mu}{h:AH}{w:World}(S:Sim P O μ h w){i:Nat}{L:Loc}(C:μ i=some L){es es':List AEnt}{ck ck':Nat}(F:h.blks[i]?=some (.map es ck)){us':Array MapEntry}(e:Ents μ es' us') :
  Good P O μ h w (.tup []) (h.setBlk i (.map es' ck')) undef {w with heap:=w.heap.setIfInBounds L.block (.map us' ck')}:=by
 have A:=(S.place i L C).2;obtain⟨s1,s2,s3⟩:=kqv S C F (by simp) (b':=.map es' ck') (o:=.map us' ck') ⟨us',World.putObj_heap_same A,e⟩;exact⟨μ,by simp[VRel,undef,VRels],s1,s2,s3⟩
section ops
variable{μ:Mu}{h:AH}{w:World}(S:Sim P O μ h w)
include S
theorem k8y{t Q et:TypeId}{kd:IntKind}(U:P.underlying t=some (.map Q et))(C:P.underlying Q=some (.int kd)){i:Nat}{L:Loc}(H:μ i=some L){n:Int}{v:AV}{u:Value}(X:VRel μ v u){h':AH}(hp:mapPut h i kd n v=some h') :
  ∃w',(Instr.mapUpdate t (.map (some L.block)) (.int kd n) u).run P w=.ok () w'/\Good P O μ h w (.tup []) h' undef w':=by
 obtain⟨p,h1,h2⟩:=qbu.1 hp;obtain⟨q,h3,Y⟩:=Option.map_eq_some_iff.1 h2;obtain⟨us,F,I,Z⟩:=kh6 S H h1;have hf:=knh I.list h3;have A:IsKey (.int kd) (.int kd n):=rfl;cases q with
 | none =>
  subst Y;refine⟨_,?_,khm S H Z (us':=us.push {key:=.int kd n,val:=u,born:=p.2}) (I.push (by simp[VRel]) X rfl)⟩;simp[Instr.mapUpdate,run_underlying U,MapKept.run_getObj_map F,run_checkKey C A,run_findKey C hf,MapKept.run_setObj_map _ F,Result.andThen]
 | some x =>
  subst Y;obtain⟨j,u',e,e1,e2,e3,e4,e5,e6,e7,e8,e9⟩:=hf;rw[Nat.zero_add]at e1 e7;have hj:us[j]?=some u':=by simpa using e5
  dsimp only;rw[e1];refine⟨_,?_,khm S H Z (us':=us.modify j λe=>{e with key:=.int kd n,val:=u}) (I.modify λx y _ _ _ _ K=>⟨by simp[VRel],X,K⟩)⟩;simp[Instr.mapUpdate,run_underlying U,MapKept.run_getObj_map F,run_checkKey C A,run_findKey C e7,hj,e6,run_keyThatStays A,MapKept.run_setObj_map _ F,Result.andThen]
theorem kbmj{t X Y:TypeId}{kd:IntKind}(Q:P.underlying t=some (.map X Y))(F:P.underlying X=some (.int kd)){r:Option Nat}{u:Value}(K:VRel μ (.map r) u){n:Int}{q:Option AV}(U:mapGet h r kd n=some q){z:AV}(hz:zeroA P Y=some z)(ok:Bool) :
  ∃x,(Instr.lookup t u (.int kd n) ok).run P w=.ok x w/\VRel μ (cond ok (.tup [q.getD z,.bool q.isSome]) (q.getD z)) x:=by
 have A:IsKey (.int kd) (.int kd n):=rfl;obtain⟨Z,H,I⟩:=k0z (μ:=μ) hz w
 have C:∀(x:Value)(b:Bool)(a:AV),VRel μ a x->VRel μ (cond ok (.tup [a,.bool b]) a) (if ok=true then .tuple #[x,.bool b]else x):=by
  intro x b a hx;cases ok
  ·exact hx
  ·simp[VRel,VRels,hx]
 cases r with
 | none =>
  simp only[mapGet,qcb]at U;subst U;simp only[VRel]at K;subst K;refine⟨_,?_,C Z false z I⟩;simp[Instr.lookup,run_underlying Q,run_checkKey F A,Instr.findKey,run_underlying F,Instr.findNow,H,Result.andThen]
 | some i =>
  simp only[VRel]at K;obtain⟨L,hL,rfl⟩:=K;obtain⟨p,h1,h2⟩:=qbu.1 U;obtain⟨q',h3,h4⟩:=Option.map_eq_some_iff.1 h2;subst h4;obtain⟨us,hw,he,hb⟩:=kh6 S hL h1;have hf:=knh he.list h3;cases q' with
  | none =>
   refine⟨_,?_,C Z false z I⟩;simp[Instr.lookup,run_underlying Q,MapKept.run_getObj_map hw,run_checkKey F A,run_findKey F hf,H,Result.andThen]
  | some x =>obtain⟨j,u',e,e1,e2,e3,e4,e5,e6,e7,e8,e9⟩:=hf;refine⟨_,?_,C u'.val true x.2 e8⟩;simp[Instr.lookup,run_underlying Q,MapKept.run_getObj_map hw,run_checkKey F A,run_findKey F e7,Result.andThen]
theorem kbg4{t X et ty:TypeId}{kd:IntKind}(I:P.underlying t=some (.map X et))(C:P.underlying X=some (.int kd)){r:Option Nat}{u:Value}(F:VRel μ (.map r) u){n:Int}{h':AH}(K:mapDel h r kd n=some h'){ts:Array TypeId}(h0:ts[0]?=some t) :
  ∃w',(Builtin.delete_ ts ty #[u,.int kd n]).run P w=.ok (.tuple #[]) w'/\Good P O μ h w (.tup []) h' (.tuple #[]) w':=by
 have A:IsKey (.int kd) (.int kd n):=rfl;cases r with
 | none =>
  simp only[mapDel,qcb]at K;subst K;simp only[VRel]at F;subst F;exact⟨w,by simp[Builtin.delete_,h0,run_underlying I,run_checkKey C A,Result.andThen],qd S (by simp[VRel,VRels])⟩
 | some i =>
  simp only[VRel]at F;obtain⟨L,Q,rfl⟩:=F;obtain⟨p,h1,h2⟩:=qbu.1 K;obtain⟨q',h3,Y⟩:=Option.map_eq_some_iff.1 h2;obtain⟨us,H,U,Z⟩:=kh6 S Q h1;have hf:=knh U.list h3;cases q' with
  | none =>
   subst Y;refine⟨_,?_,khm S Q Z U⟩;simp[Builtin.delete_,h0,run_underlying I,MapKept.run_getObj_map H,run_checkKey C A,run_findKey C hf,MapKept.run_setObj_map _ H,Result.andThen]
  | some x =>subst Y;obtain⟨j,u',e,e1,e2,e3,e4,e5,e6,e7,e8,e9⟩:=hf;rw[Nat.zero_add]at e1 e7;dsimp only;rw[e1];refine⟨_,?_,khm S Q Z (U.erase (qce.1 e2).1)⟩;simp[Builtin.delete_,h0,run_underlying I,MapKept.run_getObj_map H,run_checkKey C A,run_findKey C e7,MapKept.run_setObj_map _ H,Result.andThen]
theorem kbbp{t H I ty:TypeId}(F:P.underlying t=some (.map H I)){r:Option Nat}{u:Value}(A:VRel μ (.map r) u){n:Nat}(C:mapLen h r=some n){ts:Array TypeId}(h0:ts[0]?=some t) :
  (Builtin.len_ ts ty #[u]).run P w=.ok (.int .i64 (n:Int)) w:=by
 cases r with
 | none =>
  simp only[mapLen,qcb]at C;subst C;simp only[VRel]at A;subst A;simp[Builtin.len_,h0,run_underlying F,Result.andThen,goInt]
 | some i =>simp only[VRel]at A;obtain⟨L,K,rfl⟩:=A;obtain⟨p,h1,Q⟩:=Option.map_eq_some_iff.1 C;subst Q;obtain⟨us,U,X,Y⟩:=kh6 S K h1;simp[Builtin.len_,h0,run_underlying F,MapKept.run_getObj_map U,Result.andThen,goInt,X.1]
theorem kbda{t K Q ty:TypeId}(F:P.underlying t=some (.map K Q)){r:Option Nat}{u:Value}(A:VRel μ (.map r) u){h':AH}(C:ktf h r=some h'){ts:Array TypeId}(h0:ts[0]?=some t) :
  ∃w',(Builtin.clear_ ts ty #[u]).run P w=.ok (.tuple #[]) w'/\Good P O μ h w (.tup []) h' (.tuple #[]) w':=by
 cases r with
 | none =>
  simp only[ktf,qcb]at C;subst C;simp only[VRel]at A;subst A;exact⟨w,by simp[Builtin.clear_,h0,run_underlying F,Result.andThen],qd S (by simp[VRel,VRels])⟩
 | some i =>simp only[VRel]at A;obtain⟨L,H,rfl⟩:=A;obtain⟨p,h1,U⟩:=Option.map_eq_some_iff.1 C;subst U;obtain⟨us,I,Y,X⟩:=kh6 S H h1;refine⟨_,?_,khm S H X (us':=#[]) ⟨rfl,by simp⟩⟩;simp[Builtin.clear_,h0,run_underlying F,MapKept.run_getObj_map I,MapKept.run_setObj_map _ I,Result.andThen]
theorem kba0{t kt et:TypeId}{kd:IntKind}(ht:P.underlying t=some (.map kt et))(I:P.underlying kt=some (.int kd)){i:Nat}{L:Loc}(Q:μ i=some L){n:Int}{z:AV}(hz:zeroA P et=some z){q:AV×Int×AH}(hp:mapEnt h i kd n z=some q) :
  ∃u w',(Instr.mapEntry t (.map (some L.block)) (.int kd n)).run P w=.ok u w'/\Good P O μ h w (.tup [q.1,.int .i64 q.2.1]) q.2.2 u w':=by
 obtain⟨p,h1,h2⟩:=qbu.1 hp;obtain⟨q',h3,h4⟩:=qbu.1 h2;obtain⟨us,K,U,hb⟩:=kh6 S Q h1;have hf:=knh U.list h3;have A:IsKey (.int kd) (.int kd n):=rfl;obtain⟨uz,X,C⟩:=k0z (μ:=μ) hz w;cases q' with
 | none =>
  cases h4;obtain⟨ν,_,Y,F,Z⟩:=khm S Q hb (ck':=p.2+1) (us':=us.push {key:=.int kd n,val:=uz,born:=p.2}) (es':=p.1++[⟨.int kd n,z,p.2⟩]) (U.push (by simp[VRel]) C rfl);refine⟨.tuple #[uz,.int .i64 (p.2:Int)],_,?_,ν,by simp[VRel,VRels,C.mono F.2.1],Y,F,Z⟩;simp[Instr.mapEntry,run_underlying ht,MapKept.run_getObj_map K,run_checkKey I A,run_findKey I hf,X,MapKept.run_setObj_map _ K,Result.andThen,goInt]
 | some x =>
  obtain⟨j,u',e,e1,e2,e3,e4,e5,e6,e7,e8,e9⟩:=hf;rw[Nat.zero_add]at e1 e7;have hj:us[j]?=some u':=by simpa using e5
  obtain⟨e',H,hq⟩:=Option.map_eq_some_iff.1 h4;rw[e1,e2]at H;cases H;cases hq;obtain⟨ν,_,Y,F,Z⟩:=khm S Q hb (ck':=p.2) (us':=us.modify j λe=>{e with key:=.int kd n}) (es':=p.1.modify j λe=>⟨.int kd n,e.val,e.born⟩) (U.modify λx y _ _ _ hv aa=>⟨by simp[VRel],hv,aa⟩);dsimp only;rw[e1];refine⟨.tuple #[u'.val,.int .i64 (e.born:Int)],_,?_,ν,by simp[VRel,VRels,e8.mono F.2.1],Y,F,Z⟩;simp[Instr.mapEntry,run_underlying ht,MapKept.run_getObj_map K,run_checkKey I A,run_findKey I e7,hj,e6,run_keyThatStays A,MapKept.run_setObj_map _ K,Result.andThen,goInt,e9]
theorem kbiu{t:TypeId}{i:Nat}{L:Loc}(Y:μ i=some L){kd:IntKind}{n:Int}{v:AV}{u:Value}(hv:VRel μ v u){h':AH}(Z:mapSet h i n v=some h') :
  ∃w',(Instr.entryStore t (.map (some L.block)) (.int kd n) u).run P w=.ok () w'/\Good P O μ h w (.tup []) h' undef w':=by
 obtain⟨p,h1,h2⟩:=qbu.1 Z;obtain⟨j,A,h4⟩:=Option.map_eq_some_iff.1 h2;subst h4;obtain⟨us,I,K,hb⟩:=kh6 S Y h1;refine⟨_,?_,khm S Y hb (us':=us.modify j λe=>{e with val:=u}) (K.modify λx y _ _ hk _ C=>⟨hk,hv,C⟩)⟩
 have H:us.findIdx? (λe=>(e.born:Int)==n)=some j:=by
  have F:=K.list;rw[show us.findIdx? (λe=>(e.born:Int)==n)=us.toList.findIdx? (λe=>(e.born:Int)==n)from by cases us;simp];clear K hb I h1 Z h2;generalize us.toList=ul at F;generalize p.1=el at F A
  induction el generalizing ul j with
  | nil=>simp at A
  | cons x xs ih =>
   cases ul with
   | nil=>simp at F
   | cons y ys =>
    obtain⟨y0,Q,_,_,C⟩:=F.2 0 x rfl;cases Q;rw[List.findIdx?_cons]at A|-;rw[C];by_cases U:(x.born:Int)=n
    ·simp[U]at A|-;exact A
    ·simp only[U,decide_false,qcn,if_false]at A;simp only[beq_iff_eq,U,if_false];obtain⟨j',X,rfl⟩:=Option.map_eq_some_iff.1 A;rw[ih _ ys ⟨by simpa using F.1,λk z hz=>F.2 (k+1) z hz⟩ X];rfl
 simp[Instr.entryStore,MapKept.run_getObj_map I,asInt,asIntOf,H,MapKept.run_setObj_map _ I,Result.andThen]
end ops
end Go.Ab
namespace Go.Ab
variable{P:Program}{O:World}{R:Type}
def Ends(G:Value->World->Prop):Ending->World->Prop:=λe w'=>∃u,e=.returned u/\G u w'
def mark(r:Nat):Deferred:={target:=.collected r,args:=#[]}
structure Marks(O:World)(μ:Mu)(h:AH)(w:World)(ds:List Nat):Prop where
 nodup:ds.Nodup
 old:∀r∈ds,O.heap.size<=r/\r<w.heap.size
 has:∀r∈ds,w.heap[r]?=some (.deferred (some []))
 free:∀r∈ds,∀i L,Live h i->μ i=some L->L.block≠r
theorem Marks.nil{μ:Mu}{h:AH}{w:World}:Marks O μ h w []:=⟨by simp,by simp,by simp,by simp⟩
theorem Marks.step{μ ν:Mu}{h h':AH}{w w':World}{ds:List Nat}(m:Marks O μ h w ds)(S:Sim P O μ h w)(U:Sim P O ν h' w')(e:Ext μ h w ν h')(f:Frm μ h w w'):Marks O ν h' w' ds:=by
 refine⟨m.nodup,λr A=>⟨(m.old r A).1,qbr (m.old r A).2 f.1⟩,λr A=>?_,λr A i L H C Q=>?_⟩
 ·rw[f.2 r (m.old r A).2 λi L _ H C=>m.free r A i L H C];exact m.has r A
 ·obtain⟨e1,e2,X,Y,Z⟩:=e;rcases Nat.lt_or_ge i h.blks.size with F | I
  ·exact m.free r A i L (Y i F H) (by rw[<- X i F];exact C) Q
  ·rcases Z i L I (U.dom i L C) C with h1 | ⟨j,M,hj,K,hM,hb⟩
   ·have:=(m.old r A).2;omega
   ·exact m.free r A j M K hM (hb.trans Q)
def GoodX(P:Program)(O:World)(ds:List Nat)(μ:Mu)(h:AH)(w:World)(v:AV)(h':AH)(u:Value)(w':World):Prop:=∃ν,VRel ν v u/\Sim P O ν h' w'/\Ext μ h w ν h'/\w.heap.size<=w'.heap.size/\∀b,b<w.heap.size->b∉ds->(∀i L,i<h.blks.size->Live h i->μ i=some L->L.block≠b)->w'.heap[b]?=w.heap[b]?
theorem GoodX.nil{μ:Mu}{h:AH}{w:World}{v:AV}{h':AH}{u:Value}{w':World}(g:GoodX P O [] μ h w v h' u w'):Good P O μ h w v h' u w':=by obtain⟨ν,A,C,F,H,I⟩:=g;exact⟨ν,A,C,F,H,λb K Q=>I b K (by simp) Q⟩
theorem GoodX.trans{μ ν:Mu}{h h1:AH}{w U:World}{v:AV}{h':AH}{u:Value}{w':World}{ds C:List Nat}(e:Ext μ h w ν h1)(f:Frm μ h w U)(F:∀r∈C,r∈ds\/w.heap.size<=r)(g:GoodX P O C ν h1 U v h' u w'):GoodX P O ds μ h w v h' u w':=by
 obtain⟨ξ,g1,g2,g3,g4,g5⟩:=g;refine⟨ξ,g1,g2,e.trans g3 f.1,qbq f.1 g4,λk X H I=>(g5 k (qbr X f.1) ?_ λi L hi hl Y Z=>?_).trans (f.2 k X I)⟩
 ·intro hm;rcases F k hm with h1 | h1
  ·exact H h1
  ·omega
 ·obtain⟨e1,e2,e3,e4,e5⟩:=e;rcases Nat.lt_or_ge i h.blks.size with A | K
  ·exact I i L A (e4 i A hl) (by rw[<- e3 i A];exact Y) Z
  ·rcases e5 i L K hi Y with h1 | ⟨j,M,hj,Q,hM,hb⟩
   ·omega
   ·exact I j M hj Q hM (hb.trans Z)
def Fin(P:Program)(ro:Option Nat)(b:Frame)(todo:List Item)(a:Act)(w:World)(G:Value->World->Prop):Prop :=
 match ro with
 | none=>∀cs,∃u w' fr,G u w'/\Steps P (lone (b.atR a todo) cs w) (lone fr cs w')/\fr.fn=b.fn/\fr.leaving P w' (.returned u)
 | some _=>∀c cs,∃u w',G u w'/\Steps P (lone (b.atR a todo) (c::cs) w) (lone (c.finish u) cs w')
theorem Fin.of_steps{ro:Option Nat}{b:Frame}{todo todo':List Item}{a a':Act}{w w':World}{G:Value->World->Prop}(F:∀cs,Steps P (lone (b.atR a todo) cs w) (lone (b.atR a' todo') cs w'))(h:Fin P ro b todo' a' w' G):Fin P ro b todo a w G:=by
 cases ro with
 | none =>
  intro cs;obtain⟨u,A,fr,h1,C,H⟩:=h cs;exact⟨u,A,fr,h1,(F cs).trans C,H⟩
 | some l =>intro c cs;obtain⟨u,A,h1,C⟩:=h c cs;exact⟨u,A,h1,(F _).trans C⟩
theorem Fin.mono{ro:Option Nat}{b:Frame}{todo:List Item}{a:Act}{w:World}{G F:Value->World->Prop}(h:Fin P ro b todo a w G)(H:∀u w',G u w'->F u w'):Fin P ro b todo a w F:=by
 cases ro with
 | none =>
  intro cs;obtain⟨u,A,fr,h1,C⟩:=h cs;exact⟨u,A,fr,H _ _ h1,C⟩
 | some l =>intro c cs;obtain⟨u,A,h1,C⟩:=h c cs;exact⟨u,A,H _ _ h1,C⟩
theorem Fin.of_some{ro:Option Nat}{b:Frame}{todo todo':List Item}{a:Act}{w:World}{G:Value->World->Prop}{X:Act->World->Prop}(I:∀cs,∃a' w',X a' w'/\Steps P (lone (b.atR a todo) cs w) (lone (b.atR a' todo') cs w'))(h:∀a' w',X a' w'->Fin P ro b todo' a' w' G):Fin P ro b todo a w G:=by
 cases ro with
 | none =>
  intro cs;obtain⟨a',w',C,A⟩:=I cs;obtain⟨u,F,fr,h1,H,K⟩:=h a' w' C cs;exact⟨u,F,fr,h1,A.trans H,K⟩
 | some l =>intro c cs;obtain⟨a',w',C,A⟩:=I (c::cs);obtain⟨u,F,h1,H⟩:=h a' w' C c cs;exact⟨u,F,h1,A.trans H⟩
theorem k5c{fr:Frame}{cs:List Frame}{w:World}{r:Nat}{ds:List Deferred}(A:fr.mode=.returning)(C:fr.defers=mark r::ds)(F:w.heap[r]?=some (.deferred (some []))) :
  step P (lone fr cs w)=.next (lone {fr with defers:=ds} cs (w.putObj r (.deferred none))) :=
 step_lone_go (by have:=run_takeDeferred (P:=P) F;simp[stepG,unwind,A,C,mark,Sem.runT_eq,this])
theorem returns{fn:Func}{v:AV}{h:AH}:∀(ds:List Nat){μ:Mu}{w:World}(k:Frame),P.funcs[k.fn]?=some fn->k.kind=.normal->k.mode=.returning->
  k.defers=ds.map mark->Sim P O μ h w->Marks O μ h w ds->(∀w',Sim P O μ h w'->∃u,(results fn k.tmps).run P w'=.ok u w'/\VRel μ v u)->
  ∀cs,∃u w' A,GoodX P O ds μ h w v h u w'/\Steps P (lone k cs w) (lone A cs w')/\A.fn=k.fn/\A.leaving P w' (.returned u)
 | [],μ,w,k,C,U,F,X,S,M,Y,cs=>by
  obtain⟨u,h1,h2⟩:=Y w S;exact⟨u,w,k,⟨μ,h2,S,Ext.refl _ _ _,qbp _,λ_ _ _ _=>rfl⟩,Steps.refl _ _,rfl,F,by rw[X];rfl,U,fn,C,h1⟩
 | r::ds,μ,w,k,C,U,F,X,S,M,Y,cs=>by
  have I:=M.old r (by simp);have S':Sim P O μ h (w.putObj r (.deferred none)):=kbf0 S I.1 (λi L hl hL=>M.free r (by simp) i L hl hL) _;have K:=List.nodup_cons.1 M.nodup
  have M':Marks O μ h (w.putObj r (.deferred none)) ds:=⟨K.2,λx H=>by simpa using M.old x (by simp[H]),λx H=>by rw[World.putObj_heap_other (λe=>K.1 (by rw[<- e];exact H))];exact M.has x (by simp[H]),λx H=>M.free x (by simp[H])⟩
  obtain⟨u,w',A,g,st,Z,e2⟩:=returns ds {k with defers:=ds.map mark} C U F rfl S' M' Y cs;obtain⟨ν,g1,g2,g3,g4,g5⟩:=g;refine⟨u,w',A,⟨ν,g1,g2,?_,by simpa using g4,λb hb Q hn=>?_⟩,Steps.trans (Steps.one (k5c F X (M.has r (by simp)))) st,Z,e2⟩
  ·obtain⟨Z,e2,e3,e4,e5⟩:=g3;exact⟨Z,e2,e3,e4,λi L a b c=>by have:=e5 i L a b c;simpa using this⟩
  ·have aa:b≠r:=λe=>Q (by simp[e]);rw[g5 b (by simpa using hb) (λF=>Q (by simp[F])) hn,World.putObj_heap_other aa]
section steps
variable{b:Frame}{a:Act}{k:List Item}{cs:List Frame}{w:World}
theorem kbes{body:Code}:step P (lone (b.atR a (.code (.scope body)::k)) cs w)=.next (lone (b.atR a (.code body::.inScope body::k)) cs w):=step_lone_go (by simp[stepG,stepG.exec,Frame.atR])
theorem k85{body:Code}:step P (lone (b.atR a (.inScope body::k)) cs w)=.next (lone (b.atR a k) cs w):=step_lone_go (by simp[stepG,stepG.exec,Frame.atR])
end steps
def k4p(P:Program)(l:Nat)(args:Array Value)(w:World)(G:Value->World->Prop):Prop:=∃f tmps as bd,(Instr.yield l args).run P w=.ok (.round l f tmps as bd) w/\∀c cs,∃u w',G u w'/\Steps P (lone (Frame.round l f tmps as bd .normal) (c::cs) w) (lone (c.finish u) cs w')
structure RecOk(P:Program)(O:World)(rec:Rec):Prop where
 fn:∀{f:FuncId}{xs:List AV}{h:AH}{v:AV}{h':AH},rec (.fn f xs) h=some (v,h')->∀{μ:Mu}{w:World}{us:List Value},Sim P O μ h w->VRels μ xs us->
  Calls P f us.toArray w (Ends (Good P O μ h w v h'))
 pt:∀{f:FuncId}{todo:List Item}{fr:Fr}{h:AH}{v:AV}{h':AH},rec (.pt f todo fr) h=some (v,h')->∀{fn:Func},P.funcs[f]?=some fn->∀{μ:Mu}{w:World}{b:Frame}{a:Act}{ds:List Nat},b.fn=f->b.kind=.normal->b.roundOf=none->a.defers=ds.map mark->Marks O μ h w ds->
  Sim P O μ h w->FRel μ fn.ntmps fr a.tmps->Fin P none b todo a w (GoodX P O ds μ h w v h')
 round:∀{l:Nat}{xs:List AV}{h:AH}{v:AV}{h':AH},rec (.round l xs) h=some (v,h')->∀{μ:Mu}{w:World}{us:List Value}{L:Loc},Sim P O μ h w->VRels μ xs us->μ l=some L->
  k4p P L.block us.toArray w (Good P O μ h w v h')
 rpt:∀{l:Nat}{f:FuncId}{todo:List Item}{fr:Fr}{h:AH}{v:AV}{h':AH},rec (.rpt l f todo fr) h=some (v,h')->∀{fn:Func},P.funcs[f]?=some fn->∀{μ:Mu}{w:World}{b:Frame}{a:Act}{L:Loc},b.fn=f->b.kind=.normal->μ l=some L->b.roundOf=some L.block->a.defers=[]->
  Sim P O μ h w->FRel μ fn.ntmps fr a.tmps->Fin P (some l) b todo a w (GoodX P O [] μ h w v h')
theorem ksx{rec:Rec}(H:RecOk P O rec){f:FuncId}{xs:List AV}{h:AH}{v:AV}{h':AH}(K:callF P rec f xs h=some (v,h')){μ:Mu}{w:World}{us:List Value}(S:Sim P O μ h w)(X:VRels μ xs us) :
  ((callFunc f us.toArray).run P w=.ok (.enter f us.toArray) w/\Calls P f us.toArray w (Ends (Good P O μ h w v h')))\/∃u,(callFunc f us.toArray).run P w=.ok (.value u) w/\Good P O μ h w v h' u w:=by
 unfold callF at K;split at K
 ·rename_i fn Y;obtain⟨A,F⟩:=kej K;have C:fn.name≠ "runtime.NumGoroutine" := by simpa using A
  split at F
  ·rename_i c Q
   left
   refine⟨?_,H.fn F S X⟩;simp[callFunc,Y,C,Q]
  ·rename_i Q;obtain⟨Z,I⟩:=kz F;simp only[beq_iff_eq]at Z;simp only[Option.map_eq_some_iff,qcc]at I;obtain⟨x,hp,rfl,rfl⟩:=I;obtain⟨u,hu,U⟩:=kbcq Y A Q Z hp X w;exact .inr ⟨u,hu,qd S U⟩
 ·cases K
theorem kbfc(ts:Array TypeId)(t:TypeId)(A:Addr)(s m:ByteArray)(w:World):(Builtin.ssaWrapNilChk_ ts t #[.pointer (some A),.string s,.string m]).run P w=.ok (.pointer (some A)) w:=rfl
theorem kbhu{μ:Mu}{h:AH}{w:World}(S:Sim P O μ h w){t:TypeId}{name:String}{v:AV}{u:Value}(H:VRel μ v u){R:Type}{k:FuncId->AV->Option R}{r:R}(A:kjz P t name v h k=some r)(n:Nat) :
  ∃f v' F,k f v'=some r/\VRel μ v' F/\(method (n+1) t u name).run P w=.ok (f,F) w:=by
 unfold kjz at A;split at A
 ·rename_i i hi;split at A
  ·rename_i m X;obtain⟨U,A⟩:=kz A;have Y:m.path.toList=[]:=by simpa using U
   have base:∀(f:FuncId)(b:Bool),m.func=some (f,b)->(method (n+1) t u name).run P w=(do pure (f,<- receiverAt t (.val u) b (some ((name.splitOn ".").getLastD name))):Sem (FuncId×Value)).run P w:=by
    intro f b C;have I:m.path=#[]:=by simpa using U
    simp[method,typeInfo,hi,X,I,follow,C]
   split at A
   ·rename_i f e C K _;refine⟨f,_,u,A,H,?_⟩;rw[base f true C];simp only[receiverAt,Sem.run_bind,run_underlying K,Result.andThen_ok,Place.get,Sem.run_pure]
   ·rename_i f e q C K _;simp only[VRel]at H;obtain⟨ad,Z,rfl⟩:=H;obtain⟨v',F,A,Q,hl⟩:=ksq S Z A;refine⟨f,v',F,A,Q,?_⟩;rw[base f false C];simp only[receiverAt,Sem.run_bind,run_underlying K,Result.andThen_ok,Place.get,Sem.run_pure,strVal,kbfc,asAddr,hl]
   ·cases A
  ·cases A
 ·cases A
theorem k9l{rec:Rec}(X:RecOk P O rec){μ:Mu}{N:Nat}{fr:Fr}{h:AH}{w:World}{o:Oper}{a:Act}(S:Sim P O μ h w)(F:FRel μ N fr a.tmps){c:Call}(ho:o.op=.call c)
  {k:AV->AH->Option R} {r:R} (A:callK P rec c o.type fr h k=some r):OpOk P O μ h w o a k r:=by
 unfold callK at A;split at A
 ·cases A
 ·rename_i xs ac;have hx:=kdz F ac;have Y:c.args.map a.eval=(c.args.toList.map a.eval).toArray:=by apply Array.ext';simp
  split at A
  ·rename_i b hb;obtain⟨v,h1,H,u,w',hr,g⟩:=k6q S hx A o.type (c.args.map λ| .const _=>true | _=>false);refine⟨v,h1,H,qe ?_ g⟩;rw[kno _ _ _ ho];simp only[resolve,hb,Sem.run_bind,Sem.run_pure,Result.andThen_ok,invoke,Y];exact hr
  ·rename_i f I;split at A
   ·rename_i fv Z;simp only[qbu]at A;obtain⟨q,hq,H⟩:=A;have aa:=kug H;obtain⟨v,h1⟩:=q;refine⟨v,h1,aa,?_⟩;have C:=kbc F Z;unfold callV at hq;split at hq
    ·rename_i g first captured
     simp only[VRel]at C;obtain⟨g',x,y,he,hg,ad,ae⟩:=C;simp only[FnRel]at hg;subst hg;have K:VRels μ (first++xs++captured) (x.toList++c.args.toList.map a.eval++y.toList):=(ad.append hx).append ae;have Q:x++c.args.map a.eval++y=(x.toList++c.args.toList.map a.eval++y.toList).toArray:=by apply Array.ext';simp
     have U:(execOp a.eval o).run P w=(callFunc g (x.toList++c.args.toList.map a.eval++y.toList).toArray).run P w:=by rw[kno _ _ _ ho,<- Q];simp only[resolve,I,he,Deferred.ofValue,Sem.run_bind,Sem.run_pure,Result.andThen_ok,invoke]
     rcases ksx X hq S K with⟨h2,h3⟩ | ⟨u,h2,g2⟩
     ·exact OpGoes.of_call (by rw[U];exact h2) h3
     ·exact qe (by rw[U];exact h2) g2
    ·cases hq
   ·cases A
  ·rename_i rc name I;split at A
   ·rename_i fv Z;simp only[qbu]at A;obtain⟨⟨ai,y⟩,hp,A⟩:=A;have C:=kbc F Z;rw[k2p hp]at C;simp only[VRel]at C;obtain⟨uu,he,hu⟩:=C;obtain⟨n,hn⟩:∃n,P.types.size+Made.depth=n+1:=⟨P.types.size+99,rfl⟩;obtain⟨g,v',u',A,af,ag⟩:=kbhu S hu A n;simp only[qbu]at A;obtain⟨q,hq,H⟩:=A;have aa:=kug H;obtain⟨v,h1⟩:=q;refine⟨v,h1,aa,?_⟩;have K:VRels μ (v'::xs) (u'::c.args.toList.map a.eval):=qc af hx
    have U:(execOp a.eval o).run P w=(callFunc g (u'::c.args.toList.map a.eval).toArray).run P w:=by
     rw[kno _ _ _ ho];have Q:#[u']++c.args.map a.eval=(u'::c.args.toList.map a.eval).toArray:=by apply Array.ext';simp
     have ah:(#[a.eval rc]++c.args.map a.eval).extract 1 (#[a.eval rc]++c.args.map a.eval).size=c.args.map a.eval:=by apply Array.ext';simp[List.take_of_length_le]
     rw[<- Q];simp only[resolve,I,Sem.run_bind,Sem.run_pure,Result.andThen_ok,invoke,ah];have h0:(#[a.eval rc]++c.args.map a.eval)[0]?=some (a.eval rc):=by rw[Array.getElem?_append_left (by simp)];rfl
     rw[h0];simp[callMethod,he,hn,ag]
    rcases ksx X hq S K with⟨h2,h3⟩ | ⟨u,h2,g2⟩
    ·exact OpGoes.of_call (by rw[U];exact h2) h3
    ·exact qe (by rw[U];exact h2) g2
   ·cases A
theorem kow{rec:Rec}(A:RecOk P O rec){μ:Mu}{N:Nat}{fr:Fr}{h:AH}{w:World}{o:Oper}{a:Act}(S:Sim P O μ h w)(F:FRel μ N fr a.tmps)
  {k:AV->AH->Option R} {r:R} (H:opK P rec o.op o.type fr h k=some r):OpOk P O μ h w o a k r:=by
 by_cases C:∃c,o.op=.call c
 ·obtain⟨c,C⟩:=C;have:callK P rec c o.type fr h k=some r:=by rw[C]at H;exact H
  exact k9l A S F C this
 ·exact kbnf (rec:=rec) S F (λc e=>C ⟨c,e⟩) H
def After(P:Program)(O:World)(μ:Mu)(N:Nat)(h:AH)(w:World)(ds:List Deferred)(k:Fr->AH->Option (AV×AH))(r:AV×AH):Exit->Act->World->Prop:=λe a w' =>e=.normal/\a.defers=ds/\∃A h' ν,k A h'=some r/\Sim P O ν h' w'/\FRel ν N A a.tmps/\Ext μ h w ν h'/\Frm μ h w w'
theorem After.trans{μ ν:Mu}{N:Nat}{h h1:AH}{w C:World}{ds:List Deferred}{k:Fr->AH->Option (AV×AH)}{r:AV×AH}(e:Ext μ h w ν h1)(f:Frm μ h w C){x:Exit}{a:Act}{w':World}(g:After P O ν N h1 C ds k r x a w'):After P O μ N h w ds k r x a w':=by obtain⟨F,H,A,h',ξ,I,K,Q,U,X⟩:=g;exact⟨F,H,A,h',ξ,I,K,Q,e.trans U f.1,f.trans e X⟩
theorem kw1{N:Nat}{d:Option Tmp}{v:AV}{fr:Fr}{k:Fr->Option (AV×AH)}{r:AV×AH}(h:putT N d v fr k=some r){μ:Mu}{a:Act}(F:FRel μ N fr a.tmps){u:Value}(H:VRel μ v u) :
  ∃A,k A=some r/\FRel μ N A (a.put d u).tmps:=by
 rw[ki4]at h;cases d with
 | none=>exact⟨fr,h,F⟩
 | some t =>obtain⟨C,h⟩:=kz h;exact⟨_,h,F.put (by simpa[Nat.blt_eq]using C) H⟩
theorem put_defers(a:Act)(d:Option Tmp)(u:Value):(a.put d u).defers=a.defers:=by cases d<;>rfl
theorem kblv{o:Oper}{a:Act}{w:World}{G:Value->World->Prop}(hg:OpGoes P o a w G)(X:∀c,o.op≠.defer c){ops:Array Oper}{i:Nat}{rest:List Nat}(Z:ops[i]?=some o)(hw:Region.wanted o (yielded ops a.tmps)=true)(b:Frame)(k:List Item)(cs:List Frame) :
  ∃u w',G u w'/\Steps P (lone (b.atR a (.inRegion ops (i::rest)::k)) cs w) (lone (b.atR (a.put o.dst u) (.inRegion ops rest::k)) cs w'):=by
 have h:=hg (λa' w'=>∃u,G u w'/\a'=a.put o.dst u) (λ_ _ _=>False) (λu w' g=>⟨u,g,rfl⟩);have H:=stepGR_op (P:=P) (b:=b) (k:=k) (cs:=cs) (w:=w) (rest:=rest) Z hw;rw[Oper.semAt_eq _ _ _ X]at H
 have F:∀v,(b.atR a (.inRegion ops (i::rest)::k)).finish v=b.atR (a.put o.dst v) (.inRegion ops rest::k):=by intro v;rw[Frame.finish_atR,Z];rfl
 simp only[Oper.wp,Oper.upon]at h;split at h
 ·rename_i v w' K;obtain⟨u,g,e⟩:=h;refine⟨u,w',g,Steps.one (step_lone_go ?_)⟩;rw[<- e,H,<- F];simp[stepG.apply,K]
 ·rename_i w' K;obtain⟨u,g,e⟩:=h;refine⟨u,w',g,Steps.one (step_lone_go ?_)⟩;rw[<- e,H,<- F];simp[stepG.apply,K]
 ·rename_i d w' K;obtain⟨u,g,e⟩:=h;have:=congrArg Act.defers e;rw[put_defers,put_defers]at this;simp at this
 ·rename_i f args w' K;obtain⟨e,Q,fr,U,A,_,I⟩:=h (b.atR a (.inRegion ops (i::rest)::k)::cs)
  have C:step P (lone (b.atR a (.inRegion ops (i::rest)::k)) cs w)=.next (lone (Frame.enter P f args .normal) (b.atR a (.inRegion ops (i::rest)::k)::cs) w'):=step_lone_go (by rw[H];simp[stepG.apply,K,Frame.atR])
  cases e with
  | returned v =>
   obtain⟨u,g,e⟩:=U;refine⟨u,Q,g,.head C (A.trans (.one ?_))⟩;rw[<- e,<- F];exact step_leave_returned I
  | panicked chain=>exact U.elim
  | outgrown =>obtain⟨_,_,hq⟩:=U;exact hq.elim
 ·rename_i Y args w' K;obtain⟨v,Q,U,A⟩:=h (b.atR a (.inRegion ops (i::rest)::k)) cs
  have C:step P (lone (b.atR a (.inRegion ops (i::rest)::k)) cs w)=.next (lone (Frame.ofRow P Y args .normal) (b.atR a (.inRegion ops (i::rest)::k)::cs) w'):=step_lone_go (by rw[H];simp[stepG.apply,K,Frame.atR])
  obtain⟨u,g,e⟩:=U;refine⟨u,Q,g,.head C ?_⟩;rw[<- e,<- F];exact A
 ·exact h.elim
 ·exact h.elim
theorem kbgv{o:Oper}{a:Act}{w:World}{G:Value->World->Prop}{c:Call}{f:Operand}{l:Nat}(A:o.op=.call c)(I:c.callee=.value f)(K:a.eval f=.func (.yield l) #[] #[])(Q:k4p P l (c.args.map a.eval) w G){ops:Array Oper}{i:Nat}{rest:List Nat}(H:ops[i]?=some o)(U:Region.wanted o (yielded ops a.tmps)=true)(b:Frame)(k:List Item)(cs:List Frame) :
  ∃u w',G u w'/\Steps P (lone (b.atR a (.inRegion ops (i::rest)::k)) cs w) (lone (b.atR (a.put o.dst u) (.inRegion ops rest::k)) cs w'):=by
 obtain⟨fn,tmps,as,bd,X,Y⟩:=Q;have C:=stepGR_op (P:=P) (b:=b) (k:=k) (cs:=cs) (w:=w) (rest:=rest) H U;rw[Oper.semAt_eq _ _ _ (by rw[A];intro c;simp)]at C
 have F:∀v,(b.atR a (.inRegion ops (i::rest)::k)).finish v=b.atR (a.put o.dst v) (.inRegion ops rest::k):=by intro v;rw[Frame.finish_atR,H];rfl
 have Z:(execOp a.eval o).run P w=.ok (.round l fn tmps as bd) w:=by
  rw[kno _ _ _ A];simp only[resolve,I,K,Deferred.ofValue,Sem.run_bind,Sem.run_pure,Result.andThen_ok,invoke]
  simpa using X
 obtain⟨u,w',g,st⟩:=Y (b.atR a (.inRegion ops (i::rest)::k)) cs;refine⟨u,w',g,.head (m₁:=lone (Frame.round l fn tmps as bd .normal) (b.atR a (.inRegion ops (i::rest)::k)::cs) w) (step_lone_go ?_) ?_⟩
 ·rw[C];simp[stepG.apply,Z]
 ·rw[<- F];exact st
theorem kbdg{o:Op}{fr:Fr}{p:Nat×List AV}(h:kk9 o fr=some p):∃c f,o=.call c/\c.callee=.value f/\evs fr c.args.toList=some p.2/\evO fr f=some (.func (.yield p.1) [] []):=by
 unfold kk9 at h;split at h
 ·rename_i c;split at h
  ·rename_i f xs A C;split at h
   ·rename_i l F;cases h;exact⟨c,f,rfl,A,C,F⟩
   ·cases h
  ·cases h
 ·cases h
theorem kbhq{rec:Rec}(ad:RecOk P O rec){N:Nat}{μ:Mu}{fr:Fr}{h:AH}{w:World}{o:Oper}{a:Act}(S:Sim P O μ h w)(F:FRel μ N fr a.tmps)
  {k:AV->AH->Option R} {r:R} (C:opM P rec o.op o.type fr h k=some r):OpOk P O μ h w o a k r/\∀c,o.op≠.defer c:=by
 have put:∀{t:TypeId}{m x v:Operand},(execOp a.eval o=do Instr.mapUpdate t (a.eval m) (a.eval x) (a.eval v);pure .skip)->(match P.underlying t,evO fr m,evO fr x,evO fr v with
  | some (.map kt _),some (.map (some i)),some (.int kd n),some val=>match P.underlying kt with
   | some (.int K)=>cond (decide (kd=K)) ((mapPut h i kd n val).bind λh'=>k (.tup []) h') none
   | _=>none
  | _,_,_,_=>none)=some r->OpOk P O μ h w o a k r:=by
  intro t m x v he C;split at C
  ·rename_i kt et i kd n val ht hm Z hv;split at C
   ·rename_i K U;obtain⟨H,X⟩:=kz C;have H:kd=K:=by simpa using H
    subst H;obtain⟨h',hp,I⟩:=qbu.1 X;have h1:=kbc F hm;have h2:=kbc F Z;have h3:=kbc F hv;simp only[VRel]at h1 h2;obtain⟨L,hL,h1⟩:=h1;obtain⟨w',Y,g⟩:=k8y S ht U hL h3 hp;refine⟨_,h',I,OpGoes.of_skip (w':=w') ?_ g⟩;rw[he,h1,h2];simp only[Sem.run_bind,Y,Result.andThen_ok,Sem.run_pure]
   ·cases C
  ·cases C
 unfold opM at C;split at C
 ·rename_i t A;refine⟨⟨_,_,C,?_⟩,by intro c;rw[A];simp⟩;obtain⟨s1,s2,s3⟩:=kxf S (b:=.map [] 0) (n:=0) (o:=.map #[] 0) (λν aj=>⟨#[],kmd _ _,rfl,by simp⟩);refine qf (s:=Instr.makeMap t none) (u:=.map (some w.heap.size)) (w':=w.alloc (.map #[] 0)) (by simp[execOp,A]) ?_ ⟨_,?_,s1,s2,s3⟩
  ·simp[Instr.makeMap,run_newObj_alloc,Result.andThen]
  ·simp only[VRel];exact⟨_,ke5 _ _ _,rfl⟩
 ·rename_i t m x v A;exact⟨put (by simp[execOp,A]) C,by intro c;rw[A];simp⟩
 ·rename_i t m x v A;exact⟨put (by simp[execOp,A]) C,by intro c;rw[A];simp⟩
 ·rename_i t m x ok A;refine⟨?_,by intro c;rw[A];simp⟩;split at C
  ·rename_i kt et q kd n ht hm Z;split at C
   ·rename_i K z U hz;obtain⟨H,X⟩:=kz C;have H:kd=K:=by simpa using H
    subst H;obtain⟨q',hp,I⟩:=qbu.1 X;have h1:=kbc F hm;have h2:=kbc F Z;simp only[VRel]at h2;obtain⟨u,Y,hv⟩:=kbmj S ht U h1 hp hz ok;have ah:k (cond ok (.tup [q'.getD z,.bool q'.isSome]) (q'.getD z)) h=some r:=by have ai:=kdf I;cases ok<;>exact ai
    refine⟨_,h,ah,qf (s:=Instr.lookup t (a.eval m) (a.eval x) ok) (by simp[execOp,A]) ?_ (qd S hv)⟩;rw[h2];exact Y
   ·cases C
  ·cases C
 ·rename_i t m x A;refine⟨?_,by intro c;rw[A];simp⟩;split at C
  ·rename_i kt et i kd n ht hm Z;split at C
   ·rename_i K z U hz;obtain⟨H,X⟩:=kz C;have H:kd=K:=by simpa using H
    subst H;obtain⟨q',hp,I⟩:=qbu.1 X;have h1:=kbc F hm;have h2:=kbc F Z;simp only[VRel]at h1 h2;obtain⟨L,hL,h1⟩:=h1;obtain⟨u,w',Y,g⟩:=kba0 S ht U hL hz hp;refine⟨_,_,kdf I,qf (s:=Instr.mapEntry t (a.eval m) (a.eval x)) (by simp[execOp,A]) ?_ g⟩;rw[h1,h2];exact Y
   ·cases C
  ·cases C
 ·rename_i t m s v A;refine⟨?_,by intro c;rw[A];simp⟩;split at C
  ·rename_i i kd n val hm hs hv;obtain⟨h',hp,I⟩:=qbu.1 C;have h1:=kbc F hm;have h2:=kbc F hs;have h3:=kbc F hv;simp only[VRel]at h1 h2;obtain⟨L,hL,h1⟩:=h1;obtain⟨w',Y,g⟩:=kbiu S (t:=t) hL (kd:=kd) h3 hp;refine⟨_,h',I,OpGoes.of_skip (w':=w') ?_ g⟩;simp only[execOp,A,h1,h2,Sem.run_bind,Y,Result.andThen_ok,Sem.run_pure]
  ·cases C
 ·rename_i c A;refine⟨?_,by intro c;rw[A];simp⟩
  have bi:∀{b:Builtin}{xs:List AV}{v:AV}{h1:AH}{u:Value}{w':World},c.callee=.builtin b->evs fr c.args.toList=some xs->(∀{us:List Value},VRels μ xs us->∃u w',(builtin b c.argTypes o.type (c.args.map λ| .const _=>true | _=>false) us.toArray).run P w=.ok (.value u) w'/\Good P O μ h w v h1 u w')->OpGoes P o a w (Good P O μ h w v h1):=by
   intro b xs v h1 _ _ hb Z Y;have ae:c.args.map a.eval=(c.args.toList.map a.eval).toArray:=by apply Array.ext';simp
   obtain⟨u,w',Y,g⟩:=Y (kdz F Z);refine qe ?_ g;rw[kno _ _ _ A];simp only[resolve,hb,Sem.run_bind,Sem.run_pure,Result.andThen_ok,invoke,ae];exact Y
  split at C
  ·rename_i q t ts hb Z aa;have h0:c.argTypes[0]?=some t:=by have:=congrArg (·[0]?) aa;simpa using this
   split at C
   ·rename_i kt et ht;obtain⟨n,hp,I⟩:=qbu.1 C;refine⟨_,h,I,bi (u:=undef) (w':=w) hb Z λ{us} ac=>?_⟩;obtain⟨u,us',rfl,hu,Q⟩:=ac.cons_inv;have:=Q.nil_inv;subst this;have hl:=kbbp S (ty:=o.type) ht hu hp h0;exact⟨.int .i64 (n:Int),w,by simp[builtin,hl],qd S (by simp[VRel])⟩
   ·cases C
  ·rename_i q kd n t ts hb Z aa;have h0:c.argTypes[0]?=some t:=by have:=congrArg (·[0]?) aa;simpa using this
   split at C
   ·rename_i kt et ht;split at C
    ·rename_i K U;obtain⟨H,X⟩:=kz C;have H:kd=K:=by simpa using H
     subst H;obtain⟨h',hp,I⟩:=qbu.1 X;refine⟨_,h',I,bi (u:=undef) (w':=w) hb Z λ{us} ac=>?_⟩;obtain⟨u,us',rfl,hu,Q⟩:=ac.cons_inv;obtain⟨u2,ak,rfl,af,ag⟩:=Q.cons_inv;have:=ag.nil_inv;subst this;simp only[VRel]at af;subst af;obtain⟨w',Y,g⟩:=kbg4 S (ty:=o.type) ht U hu hp h0;exact⟨_,w',by simp[builtin,Y],g⟩
    ·cases C
   ·cases C
  ·rename_i q t ts hb Z aa;have h0:c.argTypes[0]?=some t:=by have:=congrArg (·[0]?) aa;simpa using this
   split at C
   ·rename_i kt et ht;obtain⟨h',hp,I⟩:=qbu.1 C;refine⟨_,h',I,bi (u:=undef) (w':=w) hb Z λ{us} ac=>?_⟩;obtain⟨u,us',rfl,hu,Q⟩:=ac.cons_inv;have:=Q.nil_inv;subst this;obtain⟨w',Y,g⟩:=kbda S (ty:=o.type) ht hu hp h0;exact⟨_,w',by simp[builtin,Y],g⟩
   ·cases C
  ·exact kow ad S F C
 ·refine⟨kow ad S F C,λc hc=>?_⟩;rw[hc]at C;simp[opK]at C
theorem k7w{rec:Rec}(A:RecOk P O rec){N:Nat}{μ:Mu}{fr:Fr}{h:AH}{w:World}{o:Oper}{a:Act}(S:Sim P O μ h w)(F:FRel μ N fr a.tmps){k:AV->AH->Option R}{r:R}(H:opY P rec o.op o.type fr h k=some r)
  {ops:Array Oper} {i:Nat} {rest:List Nat} (ho:ops[i]?=some o) (hw:Region.wanted o (yielded ops a.tmps)=true) (b:Frame) (K:List Item) :
  ∃v h1,k v h1=some r/\∀cs,∃u w',Good P O μ h w v h1 u w'/\Steps P (lone (b.atR a (.inRegion ops (i::rest)::K)) cs w) (lone (b.atR (a.put o.dst u) (.inRegion ops rest::K)) cs w'):=by
 unfold opY at H;split at H
 ·rename_i p hp;obtain⟨c,f,Q,hc,hx,hf⟩:=kbdg hp;rw[qbu]at H;obtain⟨q,hq,U⟩:=H;have X:=kug U;obtain⟨v,h1⟩:=q;refine⟨v,h1,X,λcs=>?_⟩;have I:=kbc F hf;simp only[VRel]at I;obtain⟨g',x,y,he,hg,Y,Z⟩:=I;simp only[FnRel]at hg;obtain⟨L,hL,rfl⟩:=hg;have ex:x=#[]:=Array.toList_eq_nil_iff.1 Y.nil_inv;have ey:y=#[]:=Array.toList_eq_nil_iff.1 Z.nil_inv;subst ex;subst ey;have:=A.round hq S (kdz F hx) hL;have C:(c.args.toList.map a.eval).toArray=c.args.map a.eval:=by apply Array.ext';simp
  rw[C]at this;exact kbgv Q hc he this ho hw b K cs
 ·obtain⟨⟨v,h1,aa,ac⟩,ad⟩:=kbhq A S F H;exact⟨v,h1,aa,λcs=>kblv ac ad ho hw b K cs⟩
theorem ktl{rec:Rec}(U:RecOk P O rec){N:Nat}{ops:Array Oper}{k:Fr->AH->Option (AV×AH)}{r:AV×AH}:∀(is:List Nat){fr:Fr}{h:AH}{μ:Mu}{w:World}{a:Act},
  opsY P rec N ops is fr h k=some r->Sim P O μ h w->FRel μ N fr a.tmps->∀(b:Frame)(Q:List Item)(cs:List Frame),∃a' w',After P O μ N h w a.defers k r .normal a' w'/\Steps P (lone (b.atR a (.inRegion ops is::Q)) cs w) (lone (b.atR a' Q) cs w')
 | [],fr,h,μ,w,a,C,S,F,b,Q,cs=>by
  simp only[opsY]at C;exact⟨a,w,⟨rfl,rfl,fr,h,μ,C,S,F,Ext.refl _ _ _,Frm.refl _ _ _⟩,Steps.one stepR_region_end⟩
 | i::is,fr,h,μ,w,a,C,S,F,b,Q,cs=>by
  simp only[opsY]at C;split at C
  ·cases C
  ·rename_i o ho
   have go:∀{fr:Fr},FRel μ N fr a.tmps->(opY P rec o.op o.type fr h λv h'=>putT N o.dst v fr λX=>opsY P rec N ops is X h' k)=some r->Region.wanted o (yielded ops a.tmps)=true->
     ∃a' w',After P O μ N h w a.defers k r .normal a' w'/\Steps P (lone (b.atR a (.inRegion ops (i::is)::Q)) cs w) (lone (b.atR a' Q) cs w'):=by
    intro fr F C hw;obtain⟨v,h1,aa,ac⟩:=k7w U S F C ho hw b Q (rest:=is);obtain⟨u,w',⟨ν,g1,g2,g3,g4⟩,st⟩:=ac cs;obtain⟨X,H,F'⟩:=kw1 aa (F.mono g3.2.1) g1;obtain⟨a',w2,hA,Z⟩:=ktl U is H g2 F' b Q cs;rw[put_defers]at hA;exact⟨a',w2,hA.trans g3 g4,st.trans Z⟩
   have skip:∀{fr:Fr},FRel μ N fr a.tmps->(putT N o.dst (.tup []) fr λX=>opsY P rec N ops is X h k)=some r->Region.wanted o (yielded ops a.tmps)=false->
     ∃a' w',After P O μ N h w a.defers k r .normal a' w'/\Steps P (lone (b.atR a (.inRegion ops (i::is)::Q)) cs w) (lone (b.atR a' Q) cs w'):=by
    intro fr F C hw;obtain⟨X,H,F'⟩:=kw1 (u:=undef) C F (by simp[VRel,undef,VRels]);obtain⟨a',w2,hA,Z⟩:=ktl U is H S F' b Q cs;rw[put_defers]at hA;have hs:=stepR_op_skip (P:=P) (b:=b) (a:=a) (k:=Q) (cs:=cs) (w:=w) (ops:=ops) (i:=i) (rest:=is) (by simp[ho];simpa using hw);simp only[ho,qbt]at hs;exact⟨a',w2,hA,.head hs Z⟩
   split at C
   ·rename_i hg;exact go F C (by simp[Region.wanted,hg])
   ·rename_i j b' hg;split at C
    ·cases C
    ·rename_i t ht;split at C
     ·rename_i c K;obtain⟨u,hu,Y⟩:=F.get t _ K;simp only[VRel]at Y;subst Y;have hy:yielded ops a.tmps j=some c:=by simp[yielded,ht,hu]
      have A:Region.wanted o (yielded ops a.tmps)=(c==b'):=by simp[Region.wanted,hg,hy]
      have Fl:FRel μ N ((t,.bool c)::fr) a.tmps:=F.learn K λ_ h=>h;rcases kcs C with⟨rfl,H⟩ | ⟨rfl,H⟩
      ·rcases kcs H with⟨rfl,I⟩ | ⟨rfl,I⟩
       ·exact go Fl I (by rw[A];rfl)
       ·exact skip Fl I (by rw[A];rfl)
      ·rcases kcs H with⟨rfl,I⟩ | ⟨rfl,I⟩
       ·exact skip Fl I (by rw[A];rfl)
       ·exact go Fl I (by rw[A];rfl)
     ·rename_i K;obtain⟨u,hu,Y⟩:=F.get t _ K;simp only[VRel]at Y;obtain⟨us,rfl,_⟩:=Y;have hy:yielded ops a.tmps j=none:=by simp[yielded,ht,hu]
      exact skip F C (by simp[Region.wanted,hg,hy])
     ·cases C
theorem ktm{ops:Array Oper}{Q:Exit->Act->World->Prop}(A:∀e a w,Q e a w->e=.normal):∀(is:List Nat)(a:Act)(w:World),wpOps P ops Q is a w->∃a' w',Q .normal a' w'/\a.defers.length<=a'.defers.length
 | [],a,w,h=>⟨a,w,h,qbp _⟩
 | i::rest,a,w,h=>by
  simp only[wpOps]at h
  have put:∀{a1:Act}{d:Option Tmp}{v:Value}{I:World},wpOps P ops Q rest (a1.put d v) I->a.defers.length<=a1.defers.length->∃a' w',Q .normal a' w'/\a.defers.length<=a'.defers.length:=by intro a1 d v I h1 X;obtain⟨a',w',q,l⟩:=ktm A rest _ _ h1;rw[put_defers]at l;exact⟨a',w',q,qbq X l⟩
  cases K:ops[i]? with
  | none =>
   simp only[K]at h;exact ktm A rest a w h
  | some o =>
   simp only[K]at h;by_cases U:Region.wanted o (yielded ops a.tmps)=true
   ·simp only[U,if_true]at h;have h:o.wp P a w (wpOps P ops Q rest) Q:=h.resolve_right λ⟨_,_,_,F⟩=>by cases A _ _ _ F
    simp only[Oper.wp,Oper.upon]at h;split at h
    ·exact put h (qbp _)
    ·exact put h (qbp _)
    ·exact put h (by simp)
    ·obtain⟨e,H,fr,C,_⟩:=h [];cases e with
     | returned v=>exact put C (qbp _)
     | panicked chain=>exact absurd (A _ _ _ C) (by intro h;cases h)
     | outgrown =>obtain⟨_,_,F⟩:=C;exact absurd (A _ _ _ F) (by intro h;cases h)
    ·obtain⟨v,H,C,_⟩:=h default [];exact put C (qbp _)
    ·exact absurd (A _ _ _ h) (by intro h;cases h)
    ·exact h.elim
   ·simp only[U,if_false,qcn]at h;exact put h (qbp _)
theorem kia{ops:Array Oper}{Q:Exit->Act->World->Prop}(I:∀e a w,Q e a w->e=.normal)(Y:kin ops=false):∀(is:List Nat)(a:Act)(w:World),wpOps P ops Q is a w->(∀a' w',Q .normal a' w'->a'.defers.length<=a.defers.length)->∀(b:Frame)(k:List Item)(cs:List Frame),∃a' w',Q .normal a' w'/\Steps P (lone (b.atR a (.inRegion ops is::k)) cs w) (lone (b.atR a' k) cs w')
 | [],a,w,h,hl,b,k,cs=>⟨a,w,h,Steps.one stepR_region_end⟩
 | i::rest,a,w,h,hl,b,k,cs=>by
  have K:∀(d:Option Tmp)(v:Value) a' w',Q .normal a' w'->a'.defers.length<=(a.put d v).defers.length:=λd v a' w' q=>by rw[put_defers];exact hl a' w' q
  simp only[wpOps]at h;cases Z:ops[i]? with
  | none =>
   simp only[Z]at h;obtain⟨a',w',F,st⟩:=kia I Y rest a w h hl b k cs;have hs:=stepR_op_skip (P:=P) (b:=b) (a:=a) (k:=k) (cs:=cs) (w:=w) (ops:=ops) (i:=i) (rest:=rest) (by simp[Z]);simp only[Z,Option.bind_none,Act.put]at hs;exact⟨a',w',F,.head hs st⟩
  | some o =>
   simp only[Z]at h;by_cases hw:Region.wanted o (yielded ops a.tmps)=true
   ·simp only[hw,if_true]at h;have h:o.wp P a w (wpOps P ops Q rest) Q:=h.resolve_right λ⟨_,_,_,F⟩=>by cases I _ _ _ F
    have ac:∀c,o.op≠.defer c:=by intro c hc;unfold kin at Y;rw[List.any_eq_false]at Y;have:=Y o (by rw[Array.mem_toList_iff];exact Array.mem_of_getElem? Z);rw[hc]at this;exact this rfl
    have U:=stepGR_op (P:=P) (b:=b) (k:=k) (cs:=cs) (w:=w) (rest:=rest) Z hw;rw[Oper.semAt_eq _ _ _ ac]at U
    have H:∀v,(b.atR a (.inRegion ops (i::rest)::k)).finish v=b.atR (a.put o.dst v) (.inRegion ops rest::k):=by intro v;rw[Frame.finish_atR,Z];rfl
    simp only[Oper.wp,Oper.upon]at h;split at h
    ·rename_i v w' hr;obtain⟨a',X,F,st⟩:=kia I Y rest _ _ h (K _ _) b k cs;refine⟨a',X,F,.head (step_lone_go ?_) st⟩;rw[U,<- H];simp[stepG.apply,hr]
    ·rename_i w' hr;obtain⟨a',X,F,st⟩:=kia I Y rest _ _ h (K _ _) b k cs;refine⟨a',X,F,.head (step_lone_go ?_) st⟩;rw[U,<- H];simp[stepG.apply,hr]
    ·rename_i d w' hr;obtain⟨a',w2,q,l⟩:=ktm I rest _ _ h;have:=hl _ _ q;rw[put_defers]at l;simp only[qb2]at l;omega
    ·rename_i f args w' hr;obtain⟨e,X,fr,hR,A,_,aa⟩:=h (b.atR a (.inRegion ops (i::rest)::k)::cs)
     have C:step P (lone (b.atR a (.inRegion ops (i::rest)::k)) cs w)=.next (lone (Frame.enter P f args .normal) (b.atR a (.inRegion ops (i::rest)::k)::cs) w'):=step_lone_go (by rw[U];simp[stepG.apply,hr,Frame.atR])
     cases e with
     | returned v =>
      obtain⟨a',w3,F,st⟩:=kia I Y rest _ _ hR (K _ _) b k cs;refine⟨a',w3,F,.head C (A.trans (.head ?_ st))⟩;rw[<- H];exact step_leave_returned aa
     | panicked chain=>exact absurd (I _ _ _ hR) (by intro h;cases h)
     | outgrown =>obtain⟨_,_,F⟩:=hR;exact absurd (I _ _ _ F) (by intro h;cases h)
    ·rename_i ad args w' hr;obtain⟨v,X,hR,A⟩:=h (b.atR a (.inRegion ops (i::rest)::k)) cs
     have C:step P (lone (b.atR a (.inRegion ops (i::rest)::k)) cs w)=.next (lone (Frame.ofRow P ad args .normal) (b.atR a (.inRegion ops (i::rest)::k)::cs) w'):=step_lone_go (by rw[U];simp[stepG.apply,hr,Frame.atR])
     obtain⟨a',w3,F,st⟩:=kia I Y rest _ _ hR (K _ _) b k cs;refine⟨a',w3,F,.head C (.trans ?_ st)⟩;rw[<- H];exact A
    ·exact absurd (I _ _ _ h) (by intro h;cases h)
    ·exact h.elim
   ·simp only[hw,if_false,qcn]at h;obtain⟨a',w',F,st⟩:=kia I Y rest _ _ h (K _ _) b k cs;have hs:=stepR_op_skip (P:=P) (b:=b) (a:=a) (k:=k) (cs:=cs) (w:=w) (ops:=ops) (i:=i) (rest:=rest) (by simp[Z];simpa using hw);simp only[Z,qbt]at hs;exact⟨a',w',F,.head hs st⟩
end Go.Ab
namespace Go.Ab
variable{P:Program}
theorem kbs{A B:Type}(c:Bool)(x y:Option A)(k:A->Option B):(cond c x y).bind k=cond c (x.bind k) (y.bind k):=by cases c<;>rfl
theorem kot:∃g:Leaf->Option AV->Option AV,∀(l:Leaf)(x:Option AV)(R:Type)(k:AV->Option R),leafK l x k=(g l x).bind k:=by refine⟨λl x=>leafK l x some,λl x R k=>?_⟩;cases l<;>simp[leafK,Option.bind_assoc]
theorem kxq:∃g:(Nat->Option AV)->List Leaf->Nat->Option (List AV),∀(get:Nat->Option AV)(ls:List Leaf)(i:Nat)(R:Type)(k:List AV->Option R),kd3 get ls i k=(g get ls i).bind k:=by
 obtain⟨g,e⟩:=kot;refine⟨λget ls i=>kd3 get ls i some,λget ls=>?_⟩
 induction ls with
 | nil=>intro i R k;simp[kd3]
 | cons l ls ih =>intro i R k;simp only[kd3,e];rw[Option.bind_assoc];congr 1;funext v;rw[ih (i+1) _ (λvs=>k (v::vs)),ih (i+1) _ (λvs=>some (v::vs)),Option.bind_assoc];rfl
theorem kst:∃g:Program->TypeId->Ref->AH->Option AV,∀(P:Program)(t:TypeId)(q:Ref)(h:AH)(R:Type)(k:AV->Option R),loadK P t q h k=(g P t q h).bind k:=by
 obtain⟨g,e⟩:=kot;obtain⟨f,d⟩:=kxq;refine⟨λP t q h=>loadK P t q h some,λP t q h R k=>?_⟩;dsimp only;unfold loadK;simp only[e,d];split
 ·rw[kbs];congr 1
  ·split
   ·simp[kbs,Option.bind_assoc]
   ·rfl
  ·split
   ·simp
   ·rfl
 ·rfl
theorem kj0:∃g:Program->TypeId->AV->Option AV,∀(P:Program)(t:TypeId)(v:AV)(R:Type)(k:AV->Option R),seeK P t v k=(g P t v).bind k:=by
 obtain⟨g,e⟩:=kot;obtain⟨f,d⟩:=kxq;refine⟨λP t v=>seeK P t v some,λP t v R k=>?_⟩;dsimp only;unfold seeK;simp only[e,d];split
 ·rw[kbs];congr 1
  ·split
   ·simp[kbs,Option.bind_assoc]
   ·rfl
  ·split
   ·simp
   ·rfl
 ·rfl
theorem k38:∃g:Program->TypeId->AV->Option AV,∀(P:Program)(t:TypeId)(v:AV)(R:Type)(k:AV->Option R),aggK P t v k=(g P t v).bind k:=by
 obtain⟨g,e⟩:=kj0;refine⟨λP t v=>aggK P t v some,λP t v R k=>?_⟩;dsimp only;unfold aggK;simp only[e];split
 ·rw[kbs,Option.bind_assoc];simp
 ·rfl
theorem kx7:∃g:Program->TypeId->AV->Option AV,∀(P:Program)(t:TypeId)(v:AV)(R:Type)(k:AV->Option R),khl P t v k=(g P t v).bind k:=by
 obtain⟨g,e⟩:=kj0;refine⟨λP t v=>khl P t v some,λP t v R k=>?_⟩;dsimp only;unfold khl;simp only[e];split
 ·split<;>simp[Option.bind_assoc]
 ·simp
theorem kpe:∃g:Program->TypeId->AV->Option (List AV),∀(P:Program)(t:TypeId)(v:AV)(R:Type)(k:List AV->Option R),cellsK P t v k=(g P t v).bind k:=by
 refine⟨λP t v=>cellsK P t v some,λP t v R k=>?_⟩;dsimp only;unfold cellsK;split
 ·simp[kbs,Option.bind_assoc]
 ·rfl
theorem kbei:∃g:BinOp->IntKind->Int->Int->Option AV,∀(op:BinOp)(kd:IntKind)(a b:Int)(R:Type)(k:AV->Option R),intK op kd a b k=(g op kd a b).bind k:=by refine⟨λop kd a b=>intK op kd a b some,λop kd a b R k=>?_⟩;cases op<;>simp[intK,kbs]
theorem k4b:∃g:Program->BinOp->TypeId->AV->AV->Option AV,∀(P:Program)(op:BinOp)(t:TypeId)(x y:AV)(R:Type)(k:AV->Option R),binK P op t x y k=(g P op t x y).bind k:=by obtain⟨g,e⟩:=kbei;refine⟨λP op t x y=>binK P op t x y some,λP op t x y R k=>?_⟩;dsimp only;unfold binK;simp only[e];split<;>simp[keb,kjk,kbs,Option.bind_assoc]
theorem k4q:∃g:UnOp->AV->Option AV,∀(op:UnOp)(x:AV)(R:Type)(k:AV->Option R),unK op x k=(g op x).bind k:=by refine⟨λop x=>unK op x some,λop x R k=>?_⟩;dsimp only;unfold unK;split<;>simp
theorem ks4:∃g:Program->(Nat->Option (Nat×TypeId))->List (Nat×AV)->List AV->Option (List AV),∀(P:Program)(place:Nat->Option (Nat×TypeId))(A:List (Nat×AV))(cells:List AV)(R:Type)(k:List AV->Option R),fillK P place A cells k=(g P place A cells).bind k:=by
 obtain⟨g,e⟩:=kpe;refine⟨λP place A cells=>fillK P place A cells some,λP place A=>?_⟩
 induction A with
 | nil=>intro cells R k;simp[fillK]
 | cons p A ih =>
  intro cells R k;obtain⟨i,v⟩:=p;simp only[fillK,e];split
  ·rfl
  ·rw[Option.bind_assoc];congr 1;funext cs;rw[kbs];congr 1;exact ih _ _ _
theorem kbfi:∃g:Fr->Option Operand->Int->Option Int,∀(fr:Fr)(x:Option Operand)(d:Int)(R:Type)(k:Int->Option R),boundK fr x d k=(g fr x d).bind k:=by
 refine⟨λfr x d=>boundK fr x d some,λfr x d R k=>?_⟩;dsimp only;unfold boundK;split
 ·rfl
 ·split<;>simp
theorem k3y:∃g:Program->TypeId->AV->Fr->Option Operand->Option Operand->Option Operand->Option AV,∀(P:Program)(t:TypeId)(x:AV)(fr:Fr)(lo hi A:Option Operand)(R:Type)(k:AV->Option R),sliceK P t x fr lo hi A k=(g P t x fr lo hi A).bind k:=by
 obtain⟨g,e⟩:=kbfi;refine⟨λP t x fr lo hi A=>sliceK P t x fr lo hi A some,λP t x fr lo hi A R k=>?_⟩;dsimp only;unfold sliceK;simp only[e];split
 ·split<;>simp[kbs,Option.bind_assoc]
 ·split<;>simp[kbs,Option.bind_assoc]
 ·split<;>simp[kbs,Option.bind_assoc]
 ·rfl
theorem k2w:∃g:Program->TypeId->TypeId->AV->Option AV,∀(P:Program)(s d:TypeId)(x:AV)(R:Type)(k:AV->Option R),kkc P s d x k=(g P s d x).bind k:=by refine⟨λP s d x=>kkc P s d x some,λP s d x R k=>?_⟩;dsimp only;unfold kkc;split<;>simp
theorem k1q:∃g:Program->TypeId->AV->Option AV,∀(P:Program)(t:TypeId)(x:AV)(R:Type)(k:AV->Option R),lenK P t x k=(g P t x).bind k:=by refine⟨λP t x=>lenK P t x some,λP t x R k=>?_⟩;dsimp only;unfold lenK;split<;>simp
abbrev pk(v:AV)(h:AH):Option (AV×AH):=some (v,h)
theorem k56:∃g:Program->Builtin->List TypeId->List AV->AH->Option (AV×AH),∀(P:Program)(b:Builtin)(ts:List TypeId)(xs:List AV)(h:AH)(R:Type)(k:AV->AH->Option R),kgo P b ts xs h k=(g P b ts xs h).bind λp=>k p.1 p.2:=by
 obtain⟨g,e⟩:=k1q;obtain⟨f,d⟩:=kot;refine⟨λP b ts xs h=>kgo P b ts xs h pk,λP b ts xs h R k=>?_⟩;dsimp only;unfold kgo;simp only[e,d];split
 ·simp[pk,Option.bind_assoc]
 ·simp[pk]
 ·simp[pk]
 ·split<;>simp[pk,kbs,Option.bind_assoc]
 ·split<;>simp[pk,kbs,Option.bind_assoc]
 ·rfl
theorem ky3:∃g:Program->TypeId->String->AV->AH->Option (FuncId×AV),∀(P:Program)(t:TypeId)(name:String)(v:AV)(h:AH)(R:Type)(k:FuncId->AV->Option R),kjz P t name v h k=(g P t name v h).bind λp=>k p.1 p.2:=by
 obtain⟨g,e⟩:=kst;refine⟨λP t name v h=>kjz P t name v h λf u=>some (f,u),λP t name v h R k=>?_⟩;dsimp only;unfold kjz;simp only[e]
 (repeat' split)<;>simp[kbs,Option.bind_assoc]
 all_goals (repeat' split)<;>simp[Option.bind_assoc]
theorem kbe1(rec:Rec):∃g:Program->Call->TypeId->Fr->AH->Option (AV×AH),∀(P:Program)(c:Call)(ty:TypeId)(fr:Fr)(h:AH)(R:Type)(k:AV->AH->Option R),callK P rec c ty fr h k=(g P c ty fr h).bind λp=>k p.1 p.2:=by
 obtain⟨g,e⟩:=k56;obtain⟨f,d⟩:=kx7;obtain⟨m,A⟩:=ky3;refine⟨λP c ty fr h=>callK P rec c ty fr h pk,λP c ty fr h R k=>?_⟩;dsimp only;unfold callK;simp only[e,d,A];split
 ·rfl
 ·split
  ·simp[pk,Option.bind_assoc]
  ·split<;>simp[pk,Option.bind_assoc]
  ·split<;>simp[pk,Option.bind_assoc]
theorem kit(rec:Rec):∀(P:Program)(o:Op)(ty:TypeId)(fr:Fr)(h:AH)(R:Type)(k:AV->AH->Option R),opK P rec o ty fr h k=(opK P rec o ty fr h pk).bind λp=>k p.1 p.2:=by obtain⟨g1,C⟩:=kpe;obtain⟨g2,F⟩:=ks4;obtain⟨g3,H⟩:=kst;obtain⟨g4,I⟩:=k4b;obtain⟨g5,K⟩:=k4q;obtain⟨g6,Q⟩:=k2w;obtain⟨g7,U⟩:=k3y;obtain⟨g8,X⟩:=kbe1 rec;obtain⟨g9,Y⟩:=k38;obtain⟨Z,A⟩:=kj0;intro P o ty fr h R k;cases o<;>simp only[opK,C,F,H,I,K,Q,U,X,Y,A]<;>(repeat' split)<;>simp[pk,keb,kjk,kbs,Option.bind_assoc]
theorem k4l{N:Nat}{d:Option Tmp}{v:AV}{fr:Fr}{R:Type}(k:Fr->Option R):putT N d v fr k=(putT N d v fr some).bind k:=by
 simp only[ki4];split
 ·rfl
 ·rw[kbs];rfl
@[reducible] def pf:Fr->AH->Option (Fr×AH):=λfr h=>some (fr,h)
theorem kr6(rec:Rec){N:Nat}{ops:Array Oper}{R:Type}(k:Fr->AH->Option R):∀(is:List Nat)(fr:Fr)(h:AH),opsK P rec N ops is fr h k=(opsK P rec N ops is fr h pf).bind λp=>k p.1 p.2
 | [],fr,h=>rfl
 | i::is,fr,h=>by
  have put:∀(d:Option Tmp)(v:AV)(fr:Fr)(h:AH),(putT N d v fr λA=>opsK P rec N ops is A h k)=(putT N d v fr λA=>opsK P rec N ops is A h pf).bind λp=>k p.1 p.2:=by intro d v fr h;rw[k4l,k4l (λA=>opsK P rec N ops is A h pf),Option.bind_assoc];congr 1;funext A;exact kr6 rec k is A h
  have go:∀(o:Oper)(fr:Fr),(opK P rec o.op o.type fr h λv h'=>putT N o.dst v fr λA=>opsK P rec N ops is A h' k)=(opK P rec o.op o.type fr h λv h'=>putT N o.dst v fr λA=>opsK P rec N ops is A h' pf).bind λp=>k p.1 p.2:=by intro o fr;rw[kit,kit (k:=λv h'=>putT N o.dst v fr λA=>opsK P rec N ops is A h' pf),Option.bind_assoc];congr 1;funext q;exact put _ _ _ _
  simp only[opsK];split
  ·rfl
  ·split
   ·exact go _ _
   ·split
    ·rfl
    ·split
     ·rw[kbs,kbs,kbs,go,go,put,put]
     ·exact put _ _ _ _
     ·rfl
end Go.Ab
namespace Go.Ab
variable{P:Program}
def Fr.same(fr A:Fr):Prop:=∀t,fr.get t=A.get t
theorem Fr.same.refl(fr:Fr):fr.same fr:=λ_=>rfl
@[reducible] def putd(d:Option Tmp)(v:AV)(fr:Fr):Fr:=match d with
 | none=>fr
 | some t=>(t,v)::fr
theorem get_cons(s t:Nat)(v:AV)(fr:Fr):Fr.get ((s,v)::fr) t=if s=t then some v else fr.get t:=by
 simp only[Fr.get];by_cases h:s=t
 ·subst h;simp
 ·rw[if_neg h]
  have:Nat.beq s t=false:=by
   cases A:Nat.beq s t with
   | false=>rfl
   | true=>exact absurd (Nat.eq_of_beq_eq_true A) h
  rw[this];rfl
theorem Fr.same.putd{a b:Fr}(h:a.same b)(d:Option Tmp)(v:AV):(putd d v a).same (putd d v b):=by
 intro t;cases d with
 | none=>exact h t
 | some s=>simp only[Go.Ab.putd,get_cons,h t]
theorem kju{d:Option Tmp}{v:AV}{fr:Fr}{t:Tmp}(h:∀s,d=some s->s≠t):(putd d v fr).get t=fr.get t:=by
 cases d with
 | none=>rfl
 | some s=>simp only[putd,get_cons,if_neg (h s rfl)]
theorem kblg{x y:Option Tmp}{v u:AV}{fr:Fr}(h:∀d,x=some d->y≠some d):(putd x v (putd y u fr)).same (putd y u (putd x v fr)):=by
 intro t;cases x with
 | none=>rfl
 | some d =>
  cases y with
  | none=>rfl
  | some e =>have:d≠e:=λC=>h d rfl (C▸rfl);simp only[putd,get_cons];by_cases h1:d=t<;>by_cases A:e=t<;>simp[h1,A];exact absurd (h1.trans A.symm) this
theorem ked{a b:Fr}{x:Operand}(h:∀t,x=.tmp t->a.get t=b.get t):evO a x=evO b x:=by
 cases x with
 | tmp t=>exact h t rfl
 | _=>rfl
theorem kjs{a b:Fr}:∀{xs:List Operand},(∀x∈xs,evO a x=evO b x)->evs a xs=evs b xs
 | [],_=>rfl
 | x::xs,h=>by simp only[evs,h x (by simp),kjs (xs:=xs) λy A=>h y (by simp[A])]
theorem ktk{a b:Fr}{R:Type}{x:Option Operand}{d:Int}{k:Int->Option R}(h:∀y,x=some y->evO a y=evO b y):boundK a x d k=boundK b x d k:=by
 cases x with
 | none=>rfl
 | some y=>simp only[boundK,h y rfl]
theorem kj6{rec:Rec}{a b:Fr}{o:Op}{ty:TypeId}{h:AH}{R:Type}{k:AV->AH->Option R}(e:∀x∈o.operands.toList,evO a x=evO b x):opK P rec o ty a h k=opK P rec o ty b h k:=by
 cases o<;>simp only[Op.operands]at e<;>simp only[opK]
 case build t ps=>rw[kjs (a:=a) (b:=b) λx A=>e x (by simpa using A)]
 case buildSlice t n ps=>rw[kjs (a:=a) (b:=b) λx A=>e x (by simpa using A)]
 case makeFunc f first captured =>rw[kjs (a:=a) (b:=b) (xs:=first.toList) λx A=>e x (by simp at A|-;exact .inl A),kjs (a:=a) (b:=b) (xs:=captured.toList) λx A=>e x (by simp at A|-;exact .inr A)]
 case call c =>
  unfold callK;rw[kjs (a:=a) (b:=b) (xs:=c.args.toList) λx A=>e x (by simp only[Call.operands];simp at A|-;exact .inr A)];cases F:c.callee with
  | value f=>simp only[e f (by simp[Call.operands,F])]
  | invoke r m=>simp only[e r (by simp[Call.operands,F])]
  | builtin bb=>rfl
 case slice t x lo hi mx =>
  rw[e x (by simp)];have h1:∀(d:Int)(k:Int->Option R),boundK a lo d k=boundK b lo d k:=λd k=>ktk λy C=>e y (by subst C;simp);have H:∀(d:Int)(k:Int->Option R),boundK a hi d k=boundK b hi d k:=λd k=>ktk λy C=>e y (by subst C;simp);have I:∀(m:Operand),mx=some m->∀(d:Int)(k:Int->Option R),boundK a (some m) d k=boundK b (some m) d k:=λm K d k=>ktk λy C=>by cases C;exact e m (by subst K;simp)
  cases evO b x with
  | none=>rfl
  | some u =>
   simp only[sliceK];cases mx with
   | none=>simp only[h1,H]
   | some m=>simp only[h1,H,I m rfl]
 all_goals first
  | rfl
  | (simp at e;simp only[e])
noncomputable def valA(P:Program)(rec:Rec)(ops:Array Oper)(o:Oper)(fr:Fr)(h:AH):Option (AV×AH) :=
 match o.guard with
 | none=>opK P rec o.op o.type fr h pk
 | some (j,b)=>match ((ops[j]?).bind (·.dst))with
  | none=>none
  | some t=>match fr.get t with
   | some (.bool c)=>cond (c==b) (opK P rec o.op o.type fr h pk) (some (.tup [],h))
   | some (.tup [])=>some (.tup [],h)
   | _=>none
def fitsN(N:Nat)(d:Option Tmp):Prop:=∀t,d=some t->Nat.blt t N=true
theorem k4y{N:Nat}{d:Option Tmp}{v:AV}{fr:Fr}{R:Type}{k:Fr->Option R}{r:R}:putT N d v fr k=some r↔fitsN N d/\k (putd d v fr)=some r:=by
 simp only[ki4];cases d with
 | none=>simp[fitsN]
 | some t =>simp only[fitsN,qcb,forall_eq'];cases A:Nat.blt t N<;>simp
theorem kq5{fr:Fr}{t:Tmp}{v:AV}(h:fr.get t=some v):Fr.same ((t,v)::fr) fr:=λs=>by
 rw[get_cons];split
 ·rename_i e;subst e;exact h.symm
 ·rfl
noncomputable def step1(P:Program)(rec:Rec)(N:Nat)(ops:Array Oper)(i:Nat)(fr:Fr)(h:AH):Option (Fr×AH):=opsK P rec N ops [i] fr h pf
theorem k3w{rec:Rec}{N:Nat}{ops:Array Oper}{i:Nat}{o:Oper}(ho:ops[i]?=some o){fr:Fr}{h:AH}{F:Fr}{h1:AH} :
  step1 P rec N ops i fr h=some (F,h1)->∃v,valA P rec ops o fr h=some (v,h1)/\fitsN N o.dst/\F.same (putd o.dst v fr):=by
 intro H;simp only[step1,opsK,ho]at H
 have go:∀{C:Fr},C.same fr->(opK P rec o.op o.type C h λv h'=>putT N o.dst v C λI=>pf I h')=some (F,h1)->∃v,opK P rec o.op o.type fr h pk=some (v,h1)/\fitsN N o.dst/\F.same (putd o.dst v fr):=by intro C A Y;rw[kit,qbu]at Y;obtain⟨⟨v,h'⟩,K,Q⟩:=Y;obtain⟨Z,X⟩:=k4y.1 Q;simp only[pf,qcb,qcc]at X;obtain⟨rfl,rfl⟩:=X;rw[kj6 (b:=fr) λx _=>ked λt _=>A t]at K;exact⟨v,K,Z,A.putd _ _⟩
 have skip:∀{C:Fr},C.same fr->(putT N o.dst (.tup []) C λI=>pf I h)=some (F,h1)->h1=h/\fitsN N o.dst/\F.same (putd o.dst (.tup []) fr):=by intro C A Y;obtain⟨Z,X⟩:=k4y.1 Y;simp only[pf,qcb,qcc]at X;obtain⟨rfl,rfl⟩:=X;exact⟨rfl,Z,A.putd _ _⟩
 unfold valA;split at H
 ·rename_i hg;rw[hg];exact go (Fr.same.refl _) H
 ·rename_i j b hg;rw[hg];split at H
  ·cases H
  ·rename_i t ht;simp only[ht];split at H
   ·rename_i c U;simp only[U];cases c<;>cases b<;>simp only[cond_true,cond_false]at H
    ·exact go (kq5 U) H
    ·obtain⟨rfl,K,Q⟩:=skip (kq5 U) H;exact⟨_,rfl,K,Q⟩
    ·obtain⟨rfl,K,Q⟩:=skip (kq5 U) H;exact⟨_,rfl,K,Q⟩
    ·exact go (kq5 U) H
   ·rename_i U;simp only[U];obtain⟨rfl,K,Q⟩:=skip (Fr.same.refl _) H;exact⟨_,rfl,K,Q⟩
   ·cases H
theorem kox{rec:Rec}{ops:Array Oper}{o:Oper}{a b:Fr}{h:AH}(e:∀t∈o.looksAt ops,a.get t=b.get t):valA P rec ops o a h=valA P rec ops o b h:=by
 have C:opK P rec o.op o.type a h pk=opK P rec o.op o.type b h pk:=kj6 λx F=>ked λt A=>e t (by subst A;exact List.mem_append_left _ (List.mem_filterMap.2 ⟨_,F,rfl⟩))
 unfold valA;cases H:o.guard with
 | none=>exact C
 | some jb =>
  obtain⟨j,b'⟩:=jb;dsimp only;cases A:(ops[j]?).bind (·.dst)with
  | none=>rfl
  | some t =>have:=e t (by simp[Oper.looksAt,H,A]);simp only[this,C]
theorem kqp{ops:Array Oper}{o:Oper}{a b:Fr}{i:Nat}(e:∀t∈o.looksAt ops,a.get t=b.get t):kb7 P i o.op a=kb7 P i o.op b:=by
 unfold kb7;split
 ·rename_i t x A
  rw[ked (a:=a) (b:=b) λs C=>e s (by subst C;exact List.mem_append_left _ (List.mem_filterMap.2 ⟨.tmp s,by rw[A];simp[Op.operands],rfl⟩))]
 ·rfl
theorem k1b{R:Type}{f g:Nat->Option AV}:∀{ls:List Leaf}{i:Nat}{k:List AV->Option R},(∀j,i<=j->j<i+ls.length->f j=g j)->kd3 f ls i k=kd3 g ls i k
 | [],i,k,h=>rfl
 | l::ls,i,k,h=>by simp only[kd3];rw[h i (qbp _) (by simp)];congr 1;funext v;exact k1b λj h1 A=>h j (by omega) (by simp at A|-;omega)
theorem k6w{R:Type}{t:TypeId}{r:Ref}{h h':AH}{k:AV->Option R}{d:TypeDesc}(C:P.underlying t=some d)(e:SameAt h h' r (cond (isAggD d) (P.cellsOf t) 1)):loadK P t r h' k=loadK P t r h k:=by
 unfold loadK;simp only[C];cases A:isAggD d with
 | true =>
  rw[A]at e;simp only[cond_true]at e|-;cases H:leaves P 20 t with
  | none=>rfl
  | some ls =>
   dsimp only;cases F:Nat.beq ls.length (P.cellsOf t)with
   | false=>rfl
   | true =>
    simp only[cond_true];have:=Nat.eq_of_beq_eq_true F;exact k1b λj h1 I=>e.1 j (by omega)
 | false =>rw[A]at e;simp only[cond_false]at e|-;have:=e.1 0 (by omega);rw[Ref.add_zero]at this;rw[this]
theorem k2d{rec:Rec}{i:Nat}{o:Op}{ty:TypeId}{fr:Fr}{h:AH}{v:AV}{h1:AH}(K:nonEff o=true)(F:opK P rec o ty fr h pk=some (v,h1)) :
  h1=h/\∀C,(∀p∈kb7 P i o fr,SameAt h C p.ref p.size)->opK P rec o ty fr C pk=some (v,C):=by
 obtain⟨g1,e1⟩:=kpe;obtain⟨g2,e2⟩:=ks4;obtain⟨g3,U⟩:=kst;obtain⟨g4,e4⟩:=k4b;obtain⟨g5,e5⟩:=k4q;obtain⟨g6,e6⟩:=k2w;obtain⟨g7,e7⟩:=k3y;obtain⟨g8,e8⟩:=k1q;obtain⟨g9,e9⟩:=k38;obtain⟨aa,X⟩:=kj0
 have key:(∃x:Option AV,∀h,opK P rec o ty fr h pk=x.bind λv=>some (v,h))->h1=h/\∀C,(∀p∈kb7 P i o fr,SameAt h C p.ref p.size)->opK P rec o ty fr C pk=some (v,C):=by
  rintro ⟨x,Z⟩
  rw[Z,qbu]at F;obtain⟨u,Q,H⟩:=F;simp only[qcb,qcc]at H;obtain⟨rfl,rfl⟩:=H;exact⟨rfl,λC _=>by rw[Z,Q];rfl⟩
 have A:(∀h,opK P rec o ty fr h pk=(opK P rec o ty fr ⟨#[],#[]⟩ (λv _=>some v):Option AV).bind λv=>some (v,h))->h1=h/\∀C,(∀p∈kb7 P i o fr,SameAt h C p.ref p.size)->opK P rec o ty fr C pk=some (v,C):=λhh=>key ⟨_,hh⟩;cases o<;>simp only[nonEff]at K<;>try (cases K;done)
 case load t a =>
  simp only[opK]at F;split at F
  ·rename_i r hr;rw[U,qbu]at F;obtain⟨u,Q,H⟩:=F;simp only[pk,qcb,qcc]at H;obtain⟨rfl,rfl⟩:=H;refine⟨rfl,λC hs=>?_⟩;cases Y:P.underlying t with
   | none =>
    have:loadK P t r h some=none:=by unfold loadK;rw[Y]
    rw[U,Q]at this;cases this
   | some d =>have:=hs ⟨i,r,cond (isAggD d) (P.cellsOf t) 1⟩ (by simp[kb7,hr,Y]);simp only[opK,hr];rw[k6w Y this,U,Q];rfl
  ·cases F
  ·cases F
 case call c =>
  split at K
  ·rename_i I;refine A λh=>?_;simp only[opK,callK,I,kgo]
   repeat' split
   all_goals first | contradiction | simp[e8,pk]
  ·rename_i I;refine A λh=>?_;simp only[opK,callK,I,kgo]
   repeat' split
   all_goals first | contradiction | simp[pk]
  ·rename_i I;refine A λh=>?_;simp only[opK,callK,I,kgo]
   repeat' split
   all_goals first | contradiction | simp[pk]
  ·cases K
 all_goals
  refine A λh=>?_;simp only[opK,e1,e2,e4,e5,e6,e7,e9,X]
  repeat' split
  all_goals simp[pk,keb,kjk,kbs,Option.bind_assoc]
theorem ko3{rec:Rec}{ops:Array Oper}{i:Nat}{o:Oper}{fr:Fr}{h:AH}{v:AV}{h1:AH}(I:nonEff o.op=true)(A:valA P rec ops o fr h=some (v,h1)) :
  h1=h/\∀C,(∀p∈kb7 P i o.op fr,SameAt h C p.ref p.size)->valA P rec ops o fr C=some (v,C):=by
 unfold valA at A|-;split at A
 ·rename_i H
  try simp only[H]
  exact k2d I A
 ·rename_i j b H
  try simp only[H]
  split at A
  ·cases A
  ·rename_i t Q
   try simp only[Q]
   split at A
   ·rename_i c K
    try simp only[K]
    cases F:(c==b)with
    | true =>
     rw[F]at A;exact k2d I A
    | false =>rw[F]at A;simp only[cond_false,qcb,qcc]at A;exact⟨A.2.symm,λC _=>by simp[A.1]⟩
   ·rename_i K;simp only[qcb,qcc]at A;exact⟨A.2.symm,λC _=>by simp[A.1]⟩
   ·cases A
section
variable{rec:Rec}{N:Nat}{ops:Array Oper}{an:Nat->Nat}{k:Fr->AH->Option (AV×AH)}{r:AV×AH}
theorem SameBlk.refl(h:AH):∀r,SameBlk h h r
 | .new _ _=>rfl
 | .old _=>True.intro
def chk(m:Nat)(h h':AH)(ps:List Look):Prop:=∀p∈ps,m.testBit p.at_=false->SameAt h h' p.ref p.size
def AnyA(P:Program)(rec:Rec)(N:Nat)(ops:Array Oper)(an:Nat->Nat)(k:Fr->AH->Option (AV×AH))(r:AV×AH):Nat->Array Bool->List Look->Fr->AH->Prop
 | 0,l,_,fr,h=>Region.ready .any ops l=[]/\k fr h=some r
 | n+1,l,ps,fr,h=>(Region.ready .any ops l=[]->k fr h=some r)/\∀i∈Region.ready .any ops l,∀o,ops[i]?=some o->∃v h1,valA P rec ops o fr h=some (v,h1)/\fitsN N o.dst/\
   (nonEff o.op=false->chk (an i) h h1 ps)/\AnyA P rec N ops an k r n (l.setIfInBounds i true) (cond (nonEff o.op) (kb7 P i o.op fr++ps) ps) (putd o.dst v fr) h1
theorem AnyA.same(I:∀(a b:Fr)(h:AH),a.same b->k a h=k b h):∀{n:Nat}{l:Array Bool}{ps C:List Look}{a b:Fr}{h:AH},a.same b->(∀p∈C,p∈ps)->AnyA P rec N ops an k r n l ps a h->AnyA P rec N ops an k r n l C b h
 | 0,l,ps,C,a,b,h,e,F,H=>⟨H.1,by rw[<- I _ _ _ e];exact H.2⟩
 | n+1,l,ps,C,a,b,h,e,F,H=>by
  refine⟨λh0=>by rw[<- I _ _ _ e];exact H.1 h0,λi hi o Q=>?_⟩;obtain⟨v,h1,U,X,Y,Z⟩:=H.2 i hi o Q;refine⟨v,h1,by rw[<- kox λt _=>e t];exact U,X,λhn p A=>Y hn p (F p A),AnyA.same I (e.putd _ _) ?_ Z⟩;rw[kqp (ops:=ops) (a:=b) (b:=a) λt _=>(e t).symm];intro p A;cases K:nonEff o.op with
  | true =>
   simp only[K,cond_true,qb5]at A|-;exact A.imp id (F p)
  | false =>simp only[K,cond_false]at A|-;exact F p A
def Closed(ops:Array Oper)(l:Array Bool):Prop:=l.size=ops.size/\∀(j:Nat)(o:Oper),l.getD j false=true->ops[j]?=some o->∀e∈o.after,Region.binds .any e=true->l.getD e.on false=true
theorem Closed.set{l:Array Bool}{i:Nat}(I:Closed ops l)(hi:i∈Region.ready .any ops l):Closed ops (l.setIfInBounds i true):=by
 refine⟨by simpa using I.1,?_⟩;intro j o K F e Q U;obtain⟨h0,oi,H,A⟩:=mem_ready.1 hi;by_cases C:i=j
 ·subst C;rw[H]at F;cases F;exact getD_set_true (A e Q U)
 ·rw[getD_set_ne false C]at K;exact getD_set_true (I.2 j o K F e Q U)
theorem chk.mono{m:Nat}{h h':AH}{ps qs:List Look}(A:∀p∈qs,p∈ps)(c:chk m h h' ps):chk m h h' qs:=λp C=>c p (A p C)
theorem AnyA.first(hk:∀(a b:Fr)(h:AH),a.same b->k a h=k b h)(ac:∀l,Closed ops l->∀j∈Region.ready .any ops l,∀i,(an j).testBit i=true->l.getD i false=true)
  {i:Nat} {oi:Oper} {vi:AV} (hi:ops[i]?=some oi) (U:nonEff oi.op=true) (X:fitsN N oi.dst) :
  ∀(n:Nat){l:Array Bool}{ps:List Look}{fr:Fr}{h:AH},Closed ops l->(∀j I,ops[j]?=some I->j≠i->l.getD j true=false->(∀e∈I.after,Region.binds .any e=true->e.on≠i)->oi.apart ops I=true)->
   i∈Region.ready .any ops l->valA P rec ops oi fr h=some (vi,h)->AnyA P rec N ops an k r n (l.setIfInBounds i true) (kb7 P i oi.op fr++ps) (putd oi.dst vi fr) h->AnyA P rec N ops an k r (n+1) l ps fr h
 | 0,l,ps,fr,h,hc,K,hr,hv,H=>by
  refine⟨λh0=>(by rw[h0]at hr;cases hr),λj hj I C=>?_⟩;by_cases F:j=i
  ·subst F;rw[hi]at C;cases C;exact⟨vi,h,hv,X,(λhn=>by rw[U]at hn;cases hn),by rw[U];exact H⟩
  ·have:=ready_mono hj F;rw[H.1]at this;cases this
 | n+1,l,ps,fr,h,hc,K,hr,hv,H=>by
  refine⟨λh0=>(by rw[h0]at hr;cases hr),λj hj I C=>?_⟩;by_cases F:j=i
  ·subst F;rw[hi]at C;cases C;exact⟨vi,h,hv,X,(λhn=>by rw[U]at hn;cases hn),by rw[U];exact H⟩
  ·obtain⟨vj,h2,e1,e2,e3,e4⟩:=H.2 j (ready_mono hj F) I C;obtain⟨ad,ar,ae,af⟩:=mem_ready.1 hj;rw[C]at ae;cases ae;have Q:=(mem_ready.1 hr).1
   have ag:∀e∈I.after,Region.binds .any e=true->e.on≠i:=λe Y hb aj=>by
    have h1:=af e Y hb;rw[aj]at h1;rcases Nat.lt_or_ge i l.size with h' | h'
    ·simp[h']at Q h1;rw[Q]at h1;cases h1
    ·simp[Array.getElem?_eq_none h']at h1
   obtain⟨a1,a2,a3⟩:=Oper.apart_spec (K j I C F ad ag)
   have b1:valA P rec ops I fr h=some (vj,h2):=by rw[<- e1];exact kox λt ht=>(kju λs hs Y=>a1 s hs (Y▸ht)).symm
   have ak:(an j).testBit i=false:=by
    cases hb:(an j).testBit i with
    | false=>rfl
    | true =>
     have:=ac l hc j hj i hb;rcases Nat.lt_or_ge i l.size with h' | h'
     ·simp[h']at Q this;rw[Q]at this;cases this
     ·simp[Array.getElem?_eq_none h']at this
   have b2:valA P rec ops oi (putd I.dst vj fr) h2=some (vi,h2):=by
    have:∀p∈kb7 P i oi.op fr,SameAt h h2 p.ref p.size:=by
     intro p A;cases Z:nonEff I.op with
     | true =>
      have:=(ko3 (i:=j) Z b1).1;subst this;exact⟨λ_ _=>rfl,λ_=>SameBlk.refl _ _⟩
     | false =>
      refine e3 Z p (by simp[A]) ?_
      have:p.at_=i:=by
       unfold kb7 at A;split at A
       ·split at A
        ·split at A<;>simp at A;subst A;rfl
        ·simp at A
       ·simp at A
      rw[this];exact ak
    rw[kox (b:=fr) λt ht=>kju λs hs Y=>a3 s hs (Y▸ht)];exact(ko3 U hv).2 h2 this
   refine⟨vj,h2,b1,e2,λZ=>(e3 Z).mono λp A=>by simp[A],?_⟩
   have aa:∀k' ok,ops[k']?=some ok->k'≠i->(l.setIfInBounds j true).getD k' true=false->(∀e∈ok.after,Region.binds .any e=true->e.on≠i)->oi.apart ops ok=true:=λk' ok al am ah ap=>by
    refine K k' ok al am ?_ ap;by_cases ai:j=k'
    ·subst ai;exact ad
    ·rw[getD_set_ne true ai]at ah;exact ah
   refine AnyA.first hk ac hi U X n (hc.set hj) aa (ready_mono hr (Ne.symm F)) b2 ?_;rw[Array.setIfInBounds_comm _ _ F];refine AnyA.same hk (kblg λd hd=>?_) (λp A=>?_) e4
   ·intro aq;exact a2 d aq hd
   ·have l1:kb7 P i oi.op (putd I.dst vj fr)=kb7 P i oi.op fr:=kqp (ops:=ops) λt ht=>kju λs hs Y=>a3 s hs (Y▸ht);have l2:kb7 P j I.op (putd oi.dst vi fr)=kb7 P j I.op fr:=kqp (ops:=ops) λt ht=>kju λs hs Y=>a1 s hs (Y▸ht);rw[l1]at A;rw[l2];cases hq:nonEff I.op<;>simp only[hq,cond_true,cond_false,qb5]at A|-
    ·exact A
    ·rcases A with A | A | A
     ·exact .inr (.inl A)
     ·exact .inl A
     ·exact .inr (.inr A)
def Rel(ops:Array Oper)(l:Array Bool)(m:Nat):Prop:=l.size=ops.size/\∀j,l.getD j false=m.testBit j
theorem Rel.getD_true{l:Array Bool}{m:Nat}(R:Rel ops l m){j:Nat}:l.getD j true=false↔j<ops.size/\m.testBit j=false:=by
 rw[<- R.2 j];rcases Nat.lt_or_ge j l.size with h | h
 ·simp[h,show j<ops.size from R.1▸h]
 ·simp[Array.getElem?_eq_none h,show¬j<ops.size from by have:=R.1;omega]
theorem Rel.set{l:Array Bool}{m i:Nat}(R:Rel ops l m)(hi:i<ops.size):Rel ops (l.setIfInBounds i true) (m|||1 <<< i):=by
 refine⟨by simp[R.1],λj=>?_⟩;rw[Nat.testBit_or,<- R.2 j,Nat.one_shiftLeft,Nat.testBit_two_pow];by_cases A:i=j
 ·subst A;simp[show i<l.size from R.1▸hi]
 ·rw[getD_set_ne false A];simp[A]
theorem kbd6(es:List Edge):∀(m j:Nat),(es.foldl (λm e=>cond (Region.binds .any e) (m|||1 <<< e.on) m) m).testBit j=true↔m.testBit j=true\/∃e∈es,Region.binds .any e=true/\e.on=j:=by
 induction es with
 | nil=>simp
 | cons e es ih =>
  intro m j;rw[List.foldl_cons,ih];cases A:Region.binds .any e with
  | false=>simp[A]
  | true =>
   simp only[cond_true,Nat.testBit_or,Nat.one_shiftLeft,Nat.testBit_two_pow,qca,qbw,qb6,exists_eq_or_imp,A,true_and];constructor
   ·rintro ((h | h) | h)
    ·exact .inl h
    ·exact .inr (.inl h)
    ·exact .inr (.inr h)
   ·rintro (h | h | h)
    ·exact .inl (.inl h)
    ·exact .inl (.inr h)
    ·exact .inr h
theorem knr{o:Oper}{j:Nat}:(depsOf o).testBit j=true↔∃e∈o.after,Region.binds .any e=true/\e.on=j:=by unfold depsOf;rw[kbd6];simp
theorem ko7(i:Nat):(ops.toList.map depsOf)[i]?=(ops[i]?).map depsOf:=by simp
theorem kbia{d m:Nat}:Nat.beq (d&&&m) d=true↔∀j,d.testBit j=true->m.testBit j=true:=by
 constructor
 ·intro h j A;have:=Nat.eq_of_beq_eq_true h;rw[<- this,Nat.testBit_and]at A;simp at A;exact A.2
 ·intro h
  have:d&&&m=d:=Nat.eq_of_testBit_eq λj=>by
   rw[Nat.testBit_and];cases A:d.testBit j with
   | false=>rfl
   | true=>rw[h j A];rfl
  rw[this];simp
theorem kza{l:Array Bool}{m i:Nat}(R:Rel ops l m):readyB (ops.toList.map depsOf) m i=true↔i∈Region.ready .any ops l:=by
 rw[mem_ready,R.getD_true];unfold readyB;rw[ko7];cases I:ops[i]? with
 | none=>simp
 | some o =>
  have A:i<ops.size:=(qcd.1 I).1;simp only[Option.map_some,qb9,kbia,knr,qci,A,true_and,qcb,exists_eq_left'];constructor
  ·rintro ⟨h1,C⟩
   exact⟨C,λe F H=>by rw[R.2];exact h1 _ ⟨e,F,H,rfl⟩⟩
  ·rintro ⟨h1,C⟩
   exact⟨λj ⟨e,F,H,K⟩=>by rw[<- K,<- R.2];exact C e F H,h1⟩
theorem kwo{d x:Nat}:∀{as:List Nat}{i:Nat},(orBits d as i).testBit x=true->∃j a,as[j]?=some a/\d.testBit (i+j)=true/\a.testBit x=true
 | [],i,h=>by simp[orBits]at h
 | a::as,i,h=>by
  simp only[orBits]at h
  have tail:(orBits d as (i+1)).testBit x=true->∃j b,(a::as)[j]?=some b/\d.testBit (i+j)=true/\b.testBit x=true:=λh=>by obtain⟨j,b,h1,C,F⟩:=kwo h;exact⟨j+1,b,by simpa using h1,by rw[<- C];congr 1;omega,F⟩
  cases A:d.testBit i with
  | false=>rw[A]at h;exact tail h
  | true =>
   rw[A,cond_true,Nat.testBit_or,qca]at h;rcases h with h | h
   ·exact⟨0,a,rfl,by simpa using A,h⟩
   ·exact tail h
theorem k0d{m:Nat}:∀(ds A:List Nat),(∀(j a d:Nat),A[j]?=some a->(ops.toList.map depsOf)[j]?=some d->(∀x,d.testBit x=true->m.testBit x=true)->∀x,a.testBit x=true->m.testBit x=true)->
  (∀(j d:Nat),m.testBit j=true->(ops.toList.map depsOf)[j]?=some d->∀x,d.testBit x=true->m.testBit x=true)->
  (∀(j d:Nat),ds[j]?=some d->(ops.toList.map depsOf)[A.length+j]?=some d)->A.length+ds.length=ops.size->
  ∀(j a d:Nat),(ancsOf A ds)[j]?=some a->(ops.toList.map depsOf)[j]?=some d->(∀x,d.testBit x=true->m.testBit x=true)->∀x,a.testBit x=true->m.testBit x=true
 | [],A,C,X,Y,Z=>by simpa[ancsOf]using C
 | d0::ds,A,C,X,Y,Z=>by
  simp only[ancsOf];refine k0d ds _ ?_ X (λj d H=>?_) (by simp at Z|-;omega)
  ·intro j a d H K F x I;rcases Nat.lt_trichotomy j A.length with aa | rfl | ac
   ·rw[List.getElem?_append_left aa]at H;exact C j a d H K F x I
   ·rw[List.getElem?_append_right (qbp _)]at H;simp at H;have e0:=Y 0 d0 (by simp);rw[Nat.add_zero,K]at e0;cases e0;rw[<- H,Nat.testBit_or,qca]at I;rcases I with I | I
    ·exact F x I
    ·obtain⟨y,b,h1,h2,h3⟩:=kwo I;rw[Nat.zero_add]at h2;have hm:=F y h2
     have hy:y<A.length:=by
      rcases Nat.lt_or_ge y A.length with h | h
      ·exact h
      ·rw[List.getElem?_eq_none h]at h1;cases h1
     have:∃U,(ops.toList.map depsOf)[y]?=some U:=⟨_,qb4 (by simp at Z|-;omega)⟩;obtain⟨U,Q⟩:=this;exact C y b U h1 Q (X y U hm Q) x h3
   ·rw[List.getElem?_eq_none (by simp;omega)]at H;cases H
  ·have:=Y (j+1) d (by simpa using H);rw[<- this];congr 1;simp;omega
theorem Rel.closed{l:Array Bool}{m:Nat}(R:Rel ops l m)(F:Closed ops l):∀j d,m.testBit j=true->(ops.toList.map depsOf)[j]?=some d->∀x,d.testBit x=true->m.testBit x=true:=by
 intro j d H A x I;rw[ko7]at A;cases C:ops[j]? with
 | none=>rw[C]at A;cases A
 | some o =>rw[C]at A;simp only[Option.map_some,qcb]at A;subst A;obtain⟨e,K,Q,rfl⟩:=knr.1 I;rw[<- R.2];exact F.2 j o (by rw[R.2];exact H) C e K Q
def maskOf(l:List Bool):Nat:=match l with
 | []=>0
 | b::bs=>cond b 1 0+2*maskOf bs
theorem k4u:∀(l:List Bool)(j:Nat),(maskOf l).testBit j=(l[j]?).getD false
 | [],j=>by simp[maskOf]
 | b::bs,0=>by
  simp only[maskOf,Nat.testBit_zero];cases b<;>simp<;>omega
 | b::bs,j+1=>by
  simp only[maskOf,Nat.testBit_succ];have:(cond b 1 0+2*maskOf bs)/2=maskOf bs:=by cases b<;>simp<;>omega
  rw[this,k4u bs j];simp
theorem k91{l:Array Bool}(A:l.size=ops.size):Rel ops l (maskOf l.toList):=⟨A,λj=>by rw[k4u];simp⟩
theorem anc_ok:∀l,Closed ops l->∀j∈Region.ready .any ops l,∀i,(((ancsOf [] (ops.toList.map depsOf))[j]?).getD 0).testBit i=true->l.getD i false=true:=by
 intro l K j A i F;have R:=k91 K.1;cases H:(ancsOf [] (ops.toList.map depsOf))[j]? with
 | none=>rw[H]at F;simp at F
 | some a =>rw[H,Option.getD_some]at F;obtain⟨h0,o,Q,C⟩:=mem_ready.1 A;rw[R.2];refine k0d (m:=maskOf l.toList) (ops.toList.map depsOf) [] (λj a d A=>by simp at A) (R.closed K) (λj d A=>by simpa using A) (by simp) j a (depsOf o) H (by rw[ko7,Q];rfl) ?_ i F;intro x U;obtain⟨e,X,I,rfl⟩:=knr.1 U;rw[<- R.2];exact C e X I
theorem kve{m:Nat}{h h':AH}{R:Type}{x:Option R}{res:R}:∀{ps:List Look},checkP m h h' x ps=some res->chk m h h' ps/\x=some res
 | [],C=>⟨λp K=>by simp at K,C⟩
 | p::ps,C=>by
  simp only[checkP]at C;cases H:m.testBit p.at_ with
  | true =>
   rw[H]at C;obtain⟨h1,I⟩:=kve C;refine⟨λq F A=>?_,I⟩;rcases qb6.1 F with rfl | F
   ·rw[H]at A;cases A
   ·exact h1 q F A
  | false =>
   rw[H]at C;simp only[cond_false,whenK]at C;split at C
   ·rename_i Q;obtain⟨h1,I⟩:=kve C;refine⟨λq F A=>?_,I⟩;rcases qb6.1 F with rfl | F
    ·exact Q
    ·exact h1 q F A
   ·cases C
theorem kze{R:Type}{i:Nat}{fr:Fr}{h:AH}{C:Fr->AH->Option R}{res:R}(F:opsK P rec N ops [i] fr h C=some res):∃A h1,step1 P rec N ops i fr h=some (A,h1)/\C A h1=some res:=by rw[kr6,qbu]at F;obtain⟨⟨A,h1⟩,H,I⟩:=F;exact⟨A,h1,H,I⟩
@[reducible] def anOf(ops:Array Oper):Nat->Nat:=λj=>((ancsOf [] (ops.toList.map depsOf))[j]?).getD 0
theorem kqz(X:∀(a b:Fr)(h:AH),a.same b->k a h=k b h):∀(c:List Nat){l:Array Bool}{m:Nat}{ps:List Look}{fr:Fr}{h:AH},Rel ops l m->Closed ops l->
  opsD P rec N ops (ops.toList.map depsOf) (ancsOf [] (ops.toList.map depsOf)) c m ps fr h k=some r->AnyA P rec N ops (anOf ops) k r c.length l ps fr h
 | [],l,m,ps,fr,h,R,hc,A=>by
  simp only[opsD]at A;cases F:Nat.beq m (2^ops.size-1)with
  | false=>rw[F]at A;cases A
  | true =>
   rw[F]at A;have hm:=Nat.eq_of_beq_eq_true F;refine⟨?_,A⟩;cases hr:Region.ready .any ops l with
   | nil=>rfl
   | cons j js =>
    have U:j∈Region.ready .any ops l:=by rw[hr];simp
    obtain⟨h0,-⟩:=mem_ready.1 U;obtain⟨h1,h2⟩:=R.getD_true.1 h0;rw[hm,Nat.testBit_two_pow_sub_one]at h2;simp[h1]at h2
 | i::c,l,m,ps,fr,h,R,hc,A=>by
  simp only[opsD]at A;split at A
  ·rename_i o an Y aa;have Z:i<ops.size:=(qcd.1 Y).1;cases F:readyB (ops.toList.map depsOf) m i with
   | false=>rw[F]at A;cases A
   | true =>
    rw[F,cond_true]at A;have hi:=(kza R).1 F;cases C:nonEff o.op with
    | true =>
     rw[C,cond_true]at A;cases H:freeB ops (ops.toList.map depsOf) m i o with
     | false=>rw[H]at A;cases A
     | true =>
      rw[H,cond_true]at A;obtain⟨ac,h1,e1,e2⟩:=kze A;obtain⟨v,e3,e4,e5⟩:=k3w Y e1;obtain⟨rfl,-⟩:=ko3 (i:=i) C e3;have IH:=kqz X c (R.set Z) (hc.set hi) e2;refine AnyA.first X anc_ok Y C e4 c.length hc ?_ hi e3 (IH.same X e5 λp hp=>hp);intro j oj U I ad ae;have K:j<ops.size:=(qcd.1 U).1;have:=List.all_eq_true.1 H j (qcm.2 K);rw[ko7,U]at this;simp only[Option.map_some,qca]at this;rcases this with((h1 | h1) | h1) | h1
      ·exact absurd (Nat.eq_of_beq_eq_true h1) I
      ·rw[(R.getD_true.1 ad).2]at h1;cases h1
      ·obtain⟨e,he,af,ag⟩:=knr.1 h1;exact absurd ag (ae e he af)
      ·exact h1
    | false =>
     rw[C,cond_false]at A;cases H:onlyB ops.size (ops.toList.map depsOf) m i with
     | false=>rw[H]at A;cases A
     | true =>
      rw[H,cond_true]at A;obtain⟨ac,h1,e1,e2⟩:=kze A;obtain⟨v,e3,e4,e5⟩:=k3w Y e1;obtain⟨e6,e7⟩:=kve e2;have IH:=kqz X c (R.set Z) (hc.set hi) e7;refine⟨λh0=>(by rw[h0]at hi;cases hi),λj U oj Q=>?_⟩
      have I:j=i:=by
       have K:j<ops.size:=(qcd.1 Q).1;have:=List.all_eq_true.1 H j (qcm.2 K);simp only[qca]at this;rcases this with h1 | h1
       ·exact Nat.eq_of_beq_eq_true h1
       ·rw[(kza R).2 U]at h1;cases h1
      subst I;rw[Y]at Q;cases Q;refine⟨v,h1,e3,e4,λ_=>by rw[anOf,aa];exact e6,?_⟩;rw[C];exact IH.same X e5 λp hp=>hp
  ·cases A
theorem k80(I:∀(a b:Fr)(h:AH),a.same b->k a h=k b h){A:List Nat}{fr:Fr}{h:AH}(C:drawK P rec N ops A fr h k=some r) :
  AnyA P rec N ops (anOf ops) k r ops.size (Array.replicate ops.size false) [] fr h:=by
 unfold drawK at C;cases F:Nat.beq A.length ops.size with
 | false=>rw[F]at C;cases C
 | true =>
  rw[F,cond_true]at C
  have:=kqz (l:=Array.replicate ops.size false) I A ⟨by simp,λj=>by simp[Array.getElem?_replicate];split<;>rfl⟩ ⟨by simp,λj o H=>by rw[Array.getD_eq_getD_getElem?,Array.getElem?_replicate]at H;split at H<;>simp at H⟩ C
  rw[Nat.eq_of_beq_eq_true F]at this;exact this
end
section
variable{O:World}
theorem AnyA.sound{rec:Rec}(U:RecOk P O rec){N:Nat}{ops:Array Oper}{an:Nat->Nat}{k:Fr->AH->Option (AV×AH)}{r:AV×AH}{μ0:Mu}{h0:AH}{w0:World}:∀(n:Nat){l:Array Bool}{ps:List Look}{fr:Fr}{h:AH}{μ:Mu}{w:World}{a:Act},
  AnyA P rec N ops an k r n l ps fr h->Sim P O μ h w->FRel μ N fr a.tmps->Ext μ0 h0 w0 μ h->Frm μ0 h0 w0 w->wpAny P .any ops (After P O μ0 N h0 w0 a.defers k r) n l a w
 | 0,l,ps,fr,h,μ,w,a,H,S,F,E,M=>⟨H.1,rfl,rfl,fr,h,μ,H.2,S,F,E,M⟩
 | n+1,l,ps,fr,h,μ,w,a,H,S,F,E,M=>by
  refine⟨λhr=>⟨rfl,rfl,fr,h,μ,H.1 hr,S,F,E,M⟩,λi hi=>?_⟩;obtain⟨-,o,ho,-⟩:=mem_ready.1 hi;obtain⟨v,h1,A,e2,-,e3⟩:=H.2 i hi o ho;unfold wpOp;simp only[ho]
  have put:∀{ν:Mu}{u:Value}{h1:AH}{Y:World},FRel ν N fr a.tmps->VRel ν v u->Sim P O ν h1 Y->Ext μ0 h0 w0 ν h1->Frm μ0 h0 w0 Y->AnyA P rec N ops an k r n (l.setIfInBounds i true) (cond (nonEff o.op) (kb7 P i o.op fr++ps) ps) (putd o.dst v fr) h1->
    wpAny P .any ops (After P O μ0 N h0 w0 a.defers k r) n (l.setIfInBounds i true) (a.put o.dst u) Y:=by
   intro ν u h1 Y F' hv S' E' M' H'
   have F2:FRel ν N (putd o.dst v fr) (a.put o.dst u).tmps:=by
    cases hd:o.dst with
    | none=>exact F'
    | some t =>have:=e2 t hd;exact F'.put (by simpa[Nat.blt_eq]using this) hv
   have:=AnyA.sound U n (a:=a.put o.dst u) H' S' F2 E' M';rw[Go.Ab.put_defers]at this;exact this
  have go:opK P rec o.op o.type fr h pk=some (v,h1)->Region.wanted o (yielded ops a.tmps)=true->
    (if Region.wanted o (yielded ops a.tmps)=true then o.wp P a w (wpAny P .any ops (After P O μ0 N h0 w0 a.defers k r) n (l.setIfInBounds i true)) (After P O μ0 N h0 w0 a.defers k r)\/(o.asks P a w/\LetsOut (After P O μ0 N h0 w0 a.defers k r))else wpAny P .any ops (After P O μ0 N h0 w0 a.defers k r) n (l.setIfInBounds i true) (a.put o.dst undef) w):=by
   intro aa hw;rw[if_pos hw]
   left
   obtain⟨v',ad,X,ac⟩:=kow U S F aa;simp only[pk,qcb,qcc]at X;obtain⟨rfl,rfl⟩:=X;refine ac _ _ λu w' ⟨ν,g1,g2,g3,g4⟩=>?_;exact put (F.mono g3.2.1) g1 g2 (E.trans g3 M.1) (M.trans E g4) e3
  have skip:v=.tup []->h1=h->Region.wanted o (yielded ops a.tmps)=false->
    (if Region.wanted o (yielded ops a.tmps)=true then o.wp P a w (wpAny P .any ops (After P O μ0 N h0 w0 a.defers k r) n (l.setIfInBounds i true)) (After P O μ0 N h0 w0 a.defers k r)\/(o.asks P a w/\LetsOut (After P O μ0 N h0 w0 a.defers k r))else wpAny P .any ops (After P O μ0 N h0 w0 a.defers k r) n (l.setIfInBounds i true) (a.put o.dst undef) w):=by
   rintro rfl rfl hw
   rw[if_neg (by rw[hw];simp)];exact put (u:=undef) F (by simp[VRel,undef,VRels]) S E M e3
  unfold valA at A;split at A
  ·rename_i Z;exact go A (by simp[Region.wanted,Z])
  ·rename_i j b Z;split at A
   ·cases A
   ·rename_i t ht;split at A
    ·rename_i c C;obtain⟨u,hu,I⟩:=F.get t _ C;simp only[VRel]at I;subst I;have hy:yielded ops a.tmps j=some c:=by simp[yielded,ht,hu]
     have K:Region.wanted o (yielded ops a.tmps)=(c==b):=by simp[Region.wanted,Z,hy]
     cases Q:(c==b)with
     | true=>rw[Q]at A;exact go A (K.trans Q)
     | false =>rw[Q]at A;simp only[cond_false,qcb,qcc]at A;exact skip A.1.symm A.2.symm (K.trans Q)
    ·rename_i C;obtain⟨u,hu,I⟩:=F.get t _ C;simp only[VRel]at I;obtain⟨us,rfl,_⟩:=I;have hy:yielded ops a.tmps j=none:=by simp[yielded,ht,hu]
     simp only[qcb,qcc]at A;exact skip A.1.symm A.2.symm (by simp[Region.wanted,Z,hy])
    ·cases A
theorem kbkr{rec:Rec}(C:RecOk P O rec){N:Nat}{ops:Array Oper}{A:List Nat}{fr:Fr}{h:AH}{k:Fr->AH->Option (AV×AH)}{r:AV×AH}(H:∀(a b:Fr)(h:AH),a.same b->k a h=k b h)
  (I:drawK P rec N ops A fr h k=some r) {μ:Mu} {w:World} {a:Act} (S:Sim P O μ h w) (F:FRel μ N fr a.tmps):wpAny P .any ops (After P O μ N h w a.defers k r) ops.size (Array.replicate ops.size false) a {w with drawn:=w.drawn+1} :=
 (k80 H I).sound C _ (S.drew) F (Ext.refl _ _ _) ⟨qbp _,λ_ _ _=>rfl⟩
end
theorem kgh(N:Nat):∀(fr:Fr)(t:Nat),(fr.low N).get t=if t<N then fr.get t else none
 | [],t=>by simp[Fr.low,Fr.get]
 | (s,v)::fr,t=>by
  have ih:=kgh N fr t;unfold Fr.low at ih|-;rw[List.filter_cons];dsimp only;cases A:Nat.blt s N with
  | true =>
   have C:s<N:=by simpa[Nat.blt_eq]using A
   simp only[if_true,get_cons,ih];by_cases h:s=t
   ·subst h;simp[C]
   ·simp only[if_neg h]
  | false =>
   have C:¬s<N:=by intro h;rw[show Nat.blt s N=true from by simpa[Nat.blt_eq]using h]at A;cases A
   simp only[qcn,if_false,get_cons,ih];by_cases h:s=t
   ·subst h;simp[C]
   ·simp only[if_neg h]
theorem Fr.same.low{a b:Fr}(h:a.same b)(N:Nat):(a.low N).same (b.low N):=λt=>by rw[kgh,kgh,h t]
theorem kbjh{N:Nat}{d:Option Tmp}{v:AV}{fr:Fr}(A:fitsN N d):((Go.Ab.putd d v fr).low N)=Go.Ab.putd d v (fr.low N):=by
 cases d with
 | none=>rfl
 | some t =>have:=A t rfl;show((t,v)::fr).filter _=_;rw[List.filter_cons];dsimp only;rw[this];rfl
theorem kbfy{rec:Rec}{μ:Mu}{N:Nat}{fr:Fr}{h:AH}{w:World}{o:Oper}{a:Act}(F:FRel μ N fr a.tmps){t:TypeId}{n:Nat}{A:Array (Nat×Operand)}(ho:o.op=.buildSlice t n A){v:AV}{h1:AH}
  (H:opK P rec o.op o.type fr h pk=some (v,h1)):∃cs e us,h1=h.alloc (.cells cs e)/\VRels μ cs us/\cs.all AV.one=true/\OpGoes P o a w λu w'=>VRel (Mu.set μ h.blks.size ⟨w.heap.size,0,us.length⟩) v u/\w'=w.alloc (.cells us.toArray e):=by
 obtain⟨dst,op,type,pos,I,guard⟩:=o;dsimp only at H ho;subst ho;simp only[opK]at H;have ac:execOp a.eval ⟨dst,.buildSlice t n A,type,pos,I,guard⟩=(do pure (.value (<- Instr.buildSlice t n (A.map λ(i,x)=>(i,a.eval x))))):=rfl
 have Q:(A.map λ(i,x)=>(i,a.eval x)).toList=(A.toList.map (·.1)).zip ((A.toList.map (·.2)).map a.eval):=by
  simp only[Array.toList_map,List.map_map];generalize A.toList=l
  induction l with
  | nil=>rfl
  | cons p l ih=>simp[ih]
 split at H
 ·rename_i vs e U hd;split at H
  ·rename_i zs hz;obtain⟨hb,ad⟩:=kz H;simp only[qb9]at hb;have ah:n*P.cellsOf e<=16777216:=Nat.le_of_ble_eq_true hb.1;have ai:zs.length=P.cellsOf e:=Nat.eq_of_beq_eq_true hb.2;obtain⟨z,ti,X,ae,h2,h3⟩:=kk4 (μ:=μ) hz;have af:z.cells.size=P.cellsOf e:=by have:=h2.length;simp at this;omega
   have C:=(kdz F U).length;simp only[qb1]at C;have m1:((A.toList.map (·.1)).zip vs).map (·.1)=A.toList.map (·.1):=List.map_fst_zip (by rw[qb1];exact Nat.le_of_eq C);have m2:((A.toList.map (·.1)).zip vs).map (·.2)=vs:=List.map_snd_zip (by rw[qb1];exact Nat.le_of_eq C.symm)
   have Y:((Array.range (n*P.cellsOf e)).map (z.cells[· % z.cells.size]!)).toList=(List.replicate n z.cells.toList).flatten:=by
    by_cases h0:P.cellsOf e=0
    ·have:z.cells.toList=[]:=by apply List.eq_nil_of_length_eq_zero;rw[Array.length_toList];omega
     rw[h0,this];simp[Array.range_zero']
    ·rw[<- af];exact kvo n z.cells (by omega)
   obtain⟨cs,out,K,Z,f2,f3,f4⟩:=klz (μ:=μ) (rp:=λi=>some (i*P.cellsOf e,P.cellsOf e)) (λi off t' hi=>by simp at hi|-;exact⟨hi.1,by rw[hi.2]⟩) ad (us:=(A.toList.map (·.2)).map a.eval) (arr:=(Array.range (n*P.cellsOf e)).map (z.cells[· % z.cells.size]!))
    (by rw[m2];exact kdz F U) (by rw[Y,koz];exact h2.rep n) (ks5 h3 n)
   rw[m1,<- Q]at Z;simp only[pk,qcb,qcc]at K;refine⟨cs,e,out.toList,K.2.symm,f2,f3,qf ac (w':=w.alloc (.cells out e)) (u:=.slice (some ⟨w.heap.size,0,none⟩) n n) ?_ ⟨by rw[<- K.1];exact k4r rfl n,by simp⟩⟩;have hs:(sizeOf e).run P w=.ok (P.cellsOf e) w:=by simp[sizeOf,typeInfo,X,Program.cellsOf]
   have aa:¬(16777216<n*P.cellsOf e):=by omega
   by_cases h0:n*P.cellsOf e=0
   ·have ag:∀f g:Nat->Value,(Array.range (n*P.cellsOf e)).map f=(Array.range (n*P.cellsOf e)).map g:=λf g=>by rw[h0];simp[Array.range_zero']
    rw[ag (z.cells[· % z.cells.size]!) ((#[]:Array Value)[· % (#[]:Array Value).size]!)]at Z;simp only[Instr.buildSlice,Sem.run_bind,run_underlying hd,Result.andThen_ok,hs,Sem.run_ite,if_neg aa,h0,if_true,Sem.run_pure];rw[h0]at Z;simp only[Z,newRow,Sem.run_bind,run_newObj,Result.andThen_ok,Sem.run_pure];rfl
   ·simp only[Instr.buildSlice,Sem.run_bind,run_underlying hd,Result.andThen_ok,hs,Sem.run_ite,if_neg aa,if_neg h0,zeroValue,typeInfo,run_program,X,ae,Sem.run_pure,Z,newRow,run_newObj];rfl
  ·cases H
 ·cases H
theorem k5y{rec:Rec}{μ:Mu}{N:Nat}{fr:Fr}{h:AH}{w:World}{o:Oper}{a:Act}(F:FRel μ N fr a.tmps)(U:layB o.op=true){v:AV}{h1:AH}
  (A:opK P rec o.op o.type fr h pk=some (v,h1)):∃cs e us,h1=h.alloc (.cells cs e)/\VRels μ cs us/\cs.all AV.one=true/\OpGoes P o a w λu w'=>VRel (Mu.set μ h.blks.size ⟨w.heap.size,0,us.length⟩) v u/\w'=w.alloc (.cells us.toArray e):=by
 have C:(∃t,o.op=.alloc t)\/(∃t x,o.op=.box t x)\/∃t n ps,o.op=.buildSlice t n ps:=by revert U;cases o.op<;>simp[layB]
 rcases C with⟨t,C⟩ | ⟨t,x,C⟩ | ⟨t,n,ps,C⟩
 ·obtain⟨dst,op,type,pos,H,guard⟩:=o;dsimp only at A C;subst C;simp only[opK]at A;split at A
  ·rename_i zs X;simp only[pk,qcb,qcc]at A;obtain⟨z,I,K,Q⟩:=k00 (μ:=μ) X w;refine⟨zs,t,_,A.2.symm,K,Q,qf (s:=Instr.alloc t true (.tuple #[])) rfl (w':=w.alloc (.cells _ t)) (u:=.pointer (some ⟨w.heap.size,0,none⟩)) ?_ ⟨?_,rfl⟩⟩
   ·simp[Instr.alloc,I,newVar,newRow]
   ·rw[<- A.1];simp only[VRel];exact⟨_,⟨_,ke5 _ _ _,by simp⟩,rfl⟩
  ·cases A
 ·obtain⟨dst,op,type,pos,H,guard⟩:=o;dsimp only at A C;subst C;simp only[opK]at A;rw[qbu]at A;obtain⟨v',Y,A⟩:=A;obtain⟨cs,A,I,K,Q,_⟩:=krg A (kbc F Y);simp only[pk,qcb,qcc]at A;refine⟨cs,t,_,A.2.symm,I,K,qf (s:=Instr.box t (a.eval x)) rfl (w':=w.alloc (.cells _ t)) (u:=.pointer (some ⟨w.heap.size,0,none⟩)) ?_ ⟨?_,rfl⟩⟩
  ·simp[Instr.box,newVar,newRow]
  ·rw[<- A.1];simp only[VRel];exact⟨_,⟨_,ke5 _ _ _,by simp⟩,rfl⟩
 ·exact kbfy F C A
theorem k88{rec:Rec}{fr:Fr}{h:AH}{o:Op}{ty:TypeId}(F:layB o=true){v:AV}{h1:AH}(A:opK P rec o ty fr h pk=some (v,h1)):∃cs e,h1=h.alloc (.cells cs e):=by
 have H:(∃t,o=.alloc t)\/(∃t x,o=.box t x)\/∃t n ps,o=.buildSlice t n ps:=by revert F;cases o<;>simp[layB]
 rcases H with⟨t,rfl⟩ | ⟨t,x,rfl⟩ | ⟨t,n,ps,rfl⟩
 ·simp only[opK]at A;split at A
  ·simp only[pk,qcb,qcc]at A;exact⟨_,_,A.2.symm⟩
  ·cases A
 ·simp only[opK]at A;rw[qbu]at A;obtain⟨v',I,A⟩:=A;obtain⟨g,e⟩:=kpe;rw[e,qbu]at A;obtain⟨cs,_,A⟩:=A;simp only[pk,qcb,qcc]at A;exact⟨_,_,A.2.symm⟩
 ·simp only[opK]at A;split at A
  ·split at A
   ·obtain⟨K,C⟩:=kz A;obtain⟨g,e⟩:=ks4;rw[e,qbu]at C;obtain⟨cs,_,C⟩:=C;simp only[pk,qcb,qcc]at C;exact⟨_,_,C.2.symm⟩
   ·cases A
  ·cases A
theorem AnyA.final{rec:Rec}{N:Nat}{ops:Array Oper}{an:Nat->Nat}{k:Fr->AH->Option (AV×AH)}{r:AV×AH}:∀(n:Nat){l:Array Bool}{ps:List Look}{fr:Fr}{h:AH},AnyA P rec N ops an k r n l ps fr h->
  ∃A h',k A h'=some r/\∀t,(∀j o,ops[j]?=some o->l.getD j false=false->o.dst≠some t)->A.get t=fr.get t
 | 0,l,ps,fr,h,H=>⟨fr,h,H.2,λ_ _=>rfl⟩
 | n+1,l,ps,fr,h,H=>by
  by_cases U:Region.ready .any ops l=[]
  ·exact⟨fr,h,H.1 U,λ_ _=>rfl⟩
  ·obtain⟨i,hi⟩:=List.exists_mem_of_ne_nil _ U;obtain⟨F,o,X,-⟩:=mem_ready.1 hi
   have C:l.getD i false=false:=by
    rw[Array.getD_eq_getD_getElem?]at F|-;cases Z:l[i]? with
    | none=>rfl
    | some b=>rw[Z]at F;simpa using F
   obtain⟨v,h1,e1,e2,ec,e3⟩:=H.2 i hi o X;obtain⟨A,h',k1,k2⟩:=AnyA.final n e3;refine⟨A,h',k1,λt Y=>?_⟩
   rw[k2 t λj oj K hl=>Y j oj K (by
    by_cases I:i=j
    ·subst I;exact C
    ·rwa[getD_set_ne false I]at hl),kju]
   intro s hs Q;exact Y i o X C (by rw[hs,Q])
section
variable{O:World}{N:Nat}{ops0 ops:Array Oper}{J:Nat->Option (Nat×TypeId×List AV×AV)}{fp:Fr}
def Laid(P:Program)(o:Oper)(fp:Fr)(j:Nat)(t:TypeId)(zs:List AV)(v:AV):Prop:=∃(rec:Rec)(h:AH),opK P rec o.op o.type fp h pk=some (v,h.alloc (.cells zs t))/\h.blks.size=j
structure ResOps(P:Program)(N:Nat)(ops0 ops:Array Oper)(J:Nat->Option (Nat×TypeId×List AV×AV))(fp:Fr):Prop where
 size:ops.size=ops0.size
 same:∀i,J i=none->ops[i]?=ops0[i]?
 res:∀i j t zs v,J i=some (j,t,zs,v)->∃o,ops0[i]?=some o/\layB o.op=true/\Laid P o fp j t zs v/\heldB ops0 o=true/\ops[i]?=some {o with op:=.move (.tmp (N+i))}
 inj:∀i i' j t zs v t' zs' v',J i=some (j,t,zs,v)->J i'=some (j,t',zs',v')->i=i'
theorem ResOps.dst(R:ResOps P N ops0 ops J fp)(j:Nat):(ops[j]?).bind (·.dst)=(ops0[j]?).bind (·.dst):=by
 cases A:J j with
 | none=>rw[R.same j A]
 | some x =>obtain⟨id,t,zs,v⟩:=x;obtain⟨o,h1,_,_,_,C⟩:=R.res j id t zs v A;rw[h1,C];rfl
theorem ResOps.ready_iff(R:ResOps P N ops0 ops J fp){l:Array Bool}{i:Nat}:i∈Region.ready .any ops l↔i∈Region.ready .any ops0 l:=by
 rw[mem_ready,mem_ready];cases A:J i with
 | none=>rw[R.same i A]
 | some x =>obtain⟨id,t,zs,v⟩:=x;obtain⟨o,h1,_,_,_,C⟩:=R.res i id t zs v A;rw[h1,C];simp
theorem ResOps.ready_nil(R:ResOps P N ops0 ops J fp){l:Array Bool}:Region.ready .any ops l=[]↔Region.ready .any ops0 l=[]:=by
 constructor<;>intro h<;>rw[List.eq_nil_iff_forall_not_mem]at h|-<;>intro i hi
 ·exact h i (R.ready_iff.2 hi)
 ·exact h i (R.ready_iff.1 hi)
theorem kbay{o:Oper}(H:heldB ops0 o=true){l:Array Bool}(Q:∀e∈o.after,Region.binds .any e=true->l.getD e.on false=true){t:Tmp}(U:.tmp t∈o.op.operands.toList) :
  ∀j I,ops0[j]?=some I->l.getD j false=false->I.dst≠some t:=by
 intro j I A X C;unfold heldB at H;rw[List.all_eq_true]at H;have Y:j<ops0.size:=(qcd.1 A).1;have:=H j (qcm.2 Y);rw[A,qbt,C]at this;dsimp only at this
 have F:o.op.operands.toList.any (isTmp t)=true:=by rw[List.any_eq_true];exact⟨_,U,by simp[isTmp]⟩
 rw[F,Bool.not_true,Bool.false_or,knr]at this;obtain⟨e,Z,hb,K⟩:=this;have:=Q e Z hb;rw[K,X]at this;cases this
theorem Sim.lay{μ:Mu}{h:AH}{w:World}(S:Sim P O μ h w){j:Nat}{cs:List AV}{us:List Value}{e:TypeId}(U:h.blks[j]?=some (.cells cs e))(Y:μ j=none)(X:VRels μ cs us)(h1:cs.all AV.one=true) :
  Sim P O (Mu.set μ j ⟨w.heap.size,0,us.length⟩) h (w.alloc (.cells us.toArray e)):=by
 have F:=Mu.le_set (L:=⟨w.heap.size,0,us.length⟩) Y;have I:j<h.blks.size:=(qcd.1 U).1;refine{old:=S.old,os:=S.os,tape:=S.tape,output:=S.output,base:=by have:=S.base;simp;omega,dom:=λi L A=>?_,keep:=λb C=>?_,place:=λi L A=>?_,blk:=λi L b A C=>?_,inj:=λi k L M A H Z lk K=>?_}
 ·rw[kd1 _ _ _ (qbr C S.base)];exact S.keep b C
 ·unfold Mu.set at A;split at A
  ·subst_vars;exact I
  ·exact S.dom i L A
 ·unfold Mu.set at A;split at A
  ·cases A;have:=S.base;simp;omega
  ·have:=S.place i L A;simp;omega
 ·unfold Mu.set at A;split at A
  ·rename_i hi;subst hi;cases A;rw[U]at C;cases C;refine⟨⟨_,kmd _ _,by simp,by simp;have:=X.length;omega,λk v hk=>?_⟩,h1⟩;obtain⟨u,hu,Q⟩:=X.get k v hk;exact⟨u,by simpa using hu,Q.mono F⟩
  ·exact(S.blk i L b A C).step F λ_=>kd1 _ _ _ (S.place i L A).2
 ·unfold Mu.set at A H;split at A<;>split at H
  ·omega
  ·cases A;have:=S.place k M H;simp at K;omega
  ·cases H;have:=S.place i L A;simp at K;omega
  ·exact S.inj i k L M A H Z lk K
theorem Ext.lay{μ0 μ:Mu}{h0 h:AH}{w0 w:World}(E:Ext μ0 h0 w0 μ h)(C:w0.heap.size<=w.heap.size){j:Nat}(F:h0.blks.size<=j)(H:μ j=none){b t:Nat}:Ext μ0 h0 w0 (Mu.set μ j ⟨w.heap.size,b,t⟩) h:=by
 obtain⟨I,K,Q,U,X⟩:=E;refine⟨I,Mu.le_trans K (Mu.le_set H),λi hi=>?_,U,λi L h1 Y A=>?_⟩
 ·unfold Mu.set;rw[if_neg (by omega),Q i hi]
 ·unfold Mu.set at A;split at A
  ·cases A;exact .inl C
  ·exact X i L h1 Y A
theorem kua{R:Type}{cs:List Operand}{a b:Fr}{x:Option R}{r:R}(h:finK cs a b x=some r):(∀c∈cs,evO a c=evO b c)/\x=some r:=by
 unfold finK at h;split at h
 ·exact⟨λ_ A=>(by cases A),h⟩
 ·rename_i c cs;unfold whenK at h;split at h
  ·rename_i C;refine⟨λy F=>?_,h⟩;exact List.map_inj_left.1 C y F
  ·cases h
theorem kvg{R:Type}{cs:List Operand}{a a' b b':Fr}(e:a.same a')(f:b.same b'){x:Option R}:finK cs a b x=finK cs a' b' x:=by
 have h1:∀c,evO a c=evO a' c:=λc=>ked λt _=>e t;have A:∀c,evO b c=evO b' c:=λc=>ked λt _=>f t;unfold finK;split
 ·rfl
 ·rw[funext h1,funext A]
theorem Oper.mem_looksAt{ops:Array Oper}{o:Oper}{s:Tmp}(h:.tmp s∈o.op.operands.toList):s∈Oper.looksAt ops o:=by unfold Oper.looksAt;exact List.mem_append_left _ (List.mem_filterMap.2 ⟨_,h,rfl⟩)
theorem AnyA.soundR{rec:Rec}(am:RecOk P O rec)(R:ResOps P N ops0 ops J fp)(ac:∀(i:Nat)(o:Oper),ops0[i]?=some o->∀t∈Oper.looksAt ops0 o,t<N){an:Nat->Nat}
  (ap:∀l,Closed ops l->∀j∈Region.ready .any ops l,∀i,(an j).testBit i=true->l.getD i false=true)
  {k:Fr->AH->Option (AV×AH)} {cs:List Operand} (ax:∀i x,J i=some x->∀o,ops0[i]?=some o->∀c∈o.op.operands.toList,c∈cs) {r:AV×AH} {μ0:Mu} {h0:AH} {w0:World}:∀(n:Nat){l:Array Bool}{ps:List Look}{fr:Fr}{h:AH}{μ:Mu}{w:World}{a:Act},Closed ops l->
  AnyA P rec N ops an (λfr h=>finK cs (fr.low N) fp (k (fr.low N) h)) r n l ps fr h->Sim P O μ h w->FRel μ N (fr.low N) a.tmps->Ext μ0 h0 w0 μ h->Frm μ0 h0 w0 w->
  (∀i j t zs v,J i=some (j,t,zs,v)->fr.get (N+i)=some v/\(⟨i,.new j 0,0⟩:Look)∈ps/\h0.blks.size<=j/\(l.getD i false=false->h.blks[j]?=some (.cells zs t)/\μ j=none))->
  wpAny P .any ops0 (After P O μ0 N h0 w0 a.defers k r) n l a w
 | 0,l,ps,fr,h,μ,w,a,C,H,S,F,E,M,HJ=>⟨R.ready_nil.1 H.1,rfl,rfl,fr.low N,h,μ,(kua H.2).2,S,F,E,M⟩
 | n+1,l,ps,fr,h,μ,w,a,C,H,S,F,E,M,HJ=>by
  refine⟨λhr=>⟨rfl,rfl,fr.low N,h,μ,(kua (H.1 (R.ready_nil.2 hr))).2,S,F,E,M⟩,λi hi=>?_⟩;have ai:=R.ready_iff.2 hi;obtain⟨af,I,ad,-⟩:=mem_ready.1 ai;obtain⟨v,h1,Y,e2,ec,e3⟩:=H.2 i ai I ad
  have ay:l.getD i false=false:=by
   rw[Array.getD_eq_getD_getElem?]at af|-;cases hq:l[i]? with
   | none=>rfl
   | some b=>rw[hq]at af;simpa using af
  have C':=C.set ai
  have put:∀{ν:Mu}{u:Value}{h2:AH}{w1:World},h2=h1->FRel ν N (fr.low N) a.tmps->VRel ν v u->Sim P O ν h2 w1->Ext μ0 h0 w0 ν h2->Frm μ0 h0 w0 w1->
    (∀i' j t zs v,i'≠i->J i'=some (j,t,zs,v)->l.getD i' false=false->h2.blks[j]?=some (.cells zs t)/\ν j=none)->
    wpAny P .any ops0 (After P O μ0 N h0 w0 a.defers k r) n (l.setIfInBounds i true) (a.put I.dst u) w1:=by
   intro ν u h2 w1 hh F' hv S' E' M' HB;subst hh
   have F2:FRel ν N ((putd I.dst v fr).low N) (a.put I.dst u).tmps:=by
    rw[kbjh e2];cases hd:I.dst with
    | none=>exact F'
    | some t =>have:=e2 t hd;exact F'.put (by simpa[Nat.blt_eq]using this) hv
   have:=AnyA.soundR am R ac ap ax n (a:=a.put I.dst u) C' e3 S' F2 E' M' (λi' j t zs v hj=>by
    obtain⟨g1,g2,g3,g4⟩:=HJ i' j t zs v hj;refine⟨?_,?_,g3,λK=>?_⟩
    ·have aj:∀s,I.dst=some s->s≠N+i':=λs hs=>by
      have:=e2 s hs;have h3:s<N:=by simpa[Nat.blt_eq]using this
      intro hc;rw[hc]at h3;exact absurd h3 (Nat.not_lt.2 (Nat.le_add_right N i'))
     rw[kju aj];exact g1
    ·cases nonEff I.op with
     | true=>exact List.mem_append_right _ g2
     | false=>exact g2
    ·by_cases aa:i'=i
     ·subst aa;exfalso
      have aq:i'<l.size:=by
       rcases Nat.lt_or_ge i' l.size with h | h
       ·exact h
       ·rw[Array.getD_eq_getD_getElem?,Array.getElem?_eq_none h]at af;cases af
      rw[Array.getD_eq_getD_getElem?,Array.getElem?_setIfInBounds_self,if_pos aq]at K;cases K
     ·rw[getD_set_ne false (λh=>aa h.symm)]at K;exact HB i' j t zs v aa hj K)
   rw[Go.Ab.put_defers]at this;exact this
  have az:∀i' j t zs v,J i'=some (j,t,zs,v)->l.getD i' false=false->h1.blks[j]?=some (.cells zs t):=by
   intro i' j t zs v hj K;obtain⟨g1,g2,g3,g4⟩:=HJ i' j t zs v hj;cases aj:nonEff I.op with
   | true=>rw[(ko3 (i:=i) aj Y).1];exact(g4 K).1
   | false =>
    have hb:(an i).testBit i'=false:=by
     cases hb:(an i).testBit i' with
     | false=>rfl
     | true =>have:=ap l C i ai i' hb;rw[K]at this;cases this
    have:=(ec aj _ g2 hb).2 rfl;rw[show h1.blks[j]?=h.blks[j]? from this];exact(g4 K).1
  cases hJ:J i with
  | none =>
   rw[R.same i hJ]at ad;have bh:=ac i I ad
   have A:valA P rec ops0 I (fr.low N) h=some (v,h1):=by
    rw[<- Y];have a1:valA P rec ops0 I (fr.low N) h=valA P rec ops0 I fr h:=kox λt ht=>by rw[kgh,if_pos (bh t ht)]
    rw[a1];unfold valA;simp only[R.dst]
   unfold wpOp;simp only[ad]
   have go:opK P rec I.op I.type (fr.low N) h pk=some (v,h1)->Region.wanted I (yielded ops0 a.tmps)=true->
     (if Region.wanted I (yielded ops0 a.tmps)=true then I.wp P a w (wpAny P .any ops0 (After P O μ0 N h0 w0 a.defers k r) n (l.setIfInBounds i true)) (After P O μ0 N h0 w0 a.defers k r)\/(I.asks P a w/\LetsOut (After P O μ0 N h0 w0 a.defers k r))else wpAny P .any ops0 (After P O μ0 N h0 w0 a.defers k r) n (l.setIfInBounds i true) (a.put I.dst undef) w):=by
    intro bi hw;rw[if_pos hw]
    left
    obtain⟨v',bp,a0,ak⟩:=kow am S F bi;simp only[pk,qcb,qcc]at a0;obtain⟨rfl,rfl⟩:=a0;refine ak _ _ λu w' ⟨ν,g1,g2,g3,g4⟩=>?_;refine put rfl (F.mono g3.2.1) g1 g2 (E.trans g3 M.1) (M.trans E g4) λi' j t zs v aa hj K=>⟨az i' j t zs v hj K,?_⟩;obtain⟨q1,q2,q3,q4⟩:=HJ i' j t zs v hj;have aq:j<h.blks.size:=(qcd.1 (q4 K).1).1;rw[g3.2.2.1 j aq];exact(q4 K).2
   have skip:v=.tup []->h1=h->Region.wanted I (yielded ops0 a.tmps)=false->
     (if Region.wanted I (yielded ops0 a.tmps)=true then I.wp P a w (wpAny P .any ops0 (After P O μ0 N h0 w0 a.defers k r) n (l.setIfInBounds i true)) (After P O μ0 N h0 w0 a.defers k r)\/(I.asks P a w/\LetsOut (After P O μ0 N h0 w0 a.defers k r))else wpAny P .any ops0 (After P O μ0 N h0 w0 a.defers k r) n (l.setIfInBounds i true) (a.put I.dst undef) w):=by
    intro ag hh hw;rw[if_neg (by rw[hw];simp)];refine put (u:=undef) hh.symm F (by rw[ag];simp[VRel,undef,VRels]) S E M λi' j t zs v aa hj K=>⟨?_,?_⟩
    ·exact((HJ i' j t zs v hj).2.2.2 K).1
    ·exact((HJ i' j t zs v hj).2.2.2 K).2
   unfold valA at A;split at A
   ·rename_i hg;exact go A (by simp[Region.wanted,hg])
   ·rename_i j b hg;split at A
    ·cases A
    ·rename_i t ht;split at A
     ·rename_i c Q;obtain⟨u,hu,U⟩:=F.get t _ Q;simp only[VRel]at U;subst U;have hy:yielded ops0 a.tmps j=some c:=by simp[yielded,ht,hu]
      have X:Region.wanted I (yielded ops0 a.tmps)=(c==b):=by simp[Region.wanted,hg,hy]
      cases Z:(c==b)with
      | true=>rw[Z]at A;exact go A (X.trans Z)
      | false =>rw[Z]at A;simp only[cond_false,qcb,qcc]at A;exact skip A.1.symm A.2.symm (X.trans Z)
     ·rename_i Q;obtain⟨u,hu,U⟩:=F.get t _ Q;simp only[VRel]at U;obtain⟨us,rfl,_⟩:=U;have hy:yielded ops0 a.tmps j=none:=by simp[yielded,ht,hu]
      simp only[qcb,qcc]at A;exact skip A.1.symm A.2.symm (by simp[Region.wanted,hg,hy])
     ·cases A
  | some x =>
   obtain⟨j,t,zs,hd⟩:=x;obtain⟨o,ho,ba,ar,au,bj⟩:=R.res i j t zs hd hJ;rw[bj]at ad;cases ad;obtain⟨q1,q2,q3,q4⟩:=HJ i j t zs hd hJ;obtain⟨bb,hμ⟩:=q4 ay;unfold wpOp;simp only[ho]
   have ah:∀e∈o.after,Region.binds .any e=true->l.getD e.on false=true:=by obtain⟨_,oi,bc,ah⟩:=mem_ready.1 hi;rw[ho]at bc;cases bc;exact ah
   obtain⟨bk,hF,kF,gF⟩:=AnyA.final (n+1) H
   have aw:∀c∈o.op.operands.toList,evO (fr.low N) c=evO fp c:=by
    intro c hc;rw[<- (kua kF).1 c (ax i _ hJ o ho c hc)];cases c with
    | tmp s =>
     have hs:=ac i o ho s (Oper.mem_looksAt hc);show(fr.low N).get s=(bk.low N).get s;rw[kgh,kgh,if_pos hs,if_pos hs];refine(gF s λj' oj bm K bd=>?_).symm;have h0:=R.dst j';rw[bm,qbt,bd]at h0;cases hq:ops0[j']? with
     | none=>rw[hq]at h0;cases h0
     | some oq =>
      rw[hq,qbt]at h0;exact kbay au ah hc j' oq hq K h0.symm
    | _=>rfl
   have go:v=hd->h1=h->Region.wanted o (yielded ops0 a.tmps)=true->
     (if Region.wanted o (yielded ops0 a.tmps)=true then o.wp P a w (wpAny P .any ops0 (After P O μ0 N h0 w0 a.defers k r) n (l.setIfInBounds i true)) (After P O μ0 N h0 w0 a.defers k r)\/(o.asks P a w/\LetsOut (After P O μ0 N h0 w0 a.defers k r))else wpAny P .any ops0 (After P O μ0 N h0 w0 a.defers k r) n (l.setIfInBounds i true) (a.put o.dst undef) w):=by
    intro ag hh hw;rw[if_pos hw]
    left
    obtain⟨bn,hx,be,hj⟩:=ar;rw[<- kj6 aw]at be;obtain⟨zs',t',us,hE,hv,bf,ak⟩:=k5y (w:=w) F ba be
    have hz:zs=zs'/\t=t':=by
     have h2:(hx.blks.push (.cells zs t))=hx.blks.push (.cells zs' t'):=congrArg AH.blks hE;have h3:(hx.blks.push (.cells zs t))[hx.blks.size]?=(hx.blks.push (.cells zs' t'))[hx.blks.size]?:=by rw[h2]
     simpa using h3
    obtain⟨rfl,rfl⟩:=hz;rw[hj]at ak;refine ak _ _ ?_
    rintro u w' ⟨hu,rfl⟩
    refine put (ν:=Mu.set μ j ⟨w.heap.size,0,us.length⟩) hh.symm (F.mono (Mu.le_set hμ)) ?_ (S.lay bb hμ hv bf) (E.lay M.1 q3 hμ) ⟨by have:=M.1;simp;omega,λb hb hn=>?_⟩ λi' j' t' zs' v' aa ae K=>⟨?_,?_⟩
    ·rw[ag];exact hu
    ·rw[kd1 _ _ _ (qbr hb M.1)];exact M.2 b hb hn
    ·exact((HJ i' j' t' zs' v' ae).2.2.2 K).1
    ·unfold Mu.set;rw[if_neg]
     ·exact((HJ i' j' t' zs' v' ae).2.2.2 K).2
     ·rintro rfl
      exact aa (R.inj i' i j' t' zs' v' t zs hd ae hJ)
   have skip:v=.tup []->h1=h->Region.wanted o (yielded ops0 a.tmps)=false->
     (if Region.wanted o (yielded ops0 a.tmps)=true then o.wp P a w (wpAny P .any ops0 (After P O μ0 N h0 w0 a.defers k r) n (l.setIfInBounds i true)) (After P O μ0 N h0 w0 a.defers k r)\/(o.asks P a w/\LetsOut (After P O μ0 N h0 w0 a.defers k r))else wpAny P .any ops0 (After P O μ0 N h0 w0 a.defers k r) n (l.setIfInBounds i true) (a.put o.dst undef) w):=by
    intro ag hh hw;rw[if_neg (by rw[hw];simp)];refine put (u:=undef) hh.symm F (by rw[ag];simp[VRel,undef,VRels]) S E M λi' j' t' zs' v' aa ae K=>⟨?_,?_⟩
    ·exact((HJ i' j' t' zs' v' ae).2.2.2 K).1
    ·exact((HJ i' j' t' zs' v' ae).2.2.2 K).2
   have mv:opK P rec (.move (.tmp (N+i))) o.type fr h pk=some (v,h1)->v=hd/\h1=h:=by intro hk;simp only[opK,evO,kjk,q1,qbt,pk,qcb,qcc]at hk;exact⟨hk.1.symm,hk.2.symm⟩
   have al:=ac i o ho;unfold valA at Y;dsimp only at Y;split at Y
   ·rename_i hg;obtain⟨k1,k2⟩:=mv Y;exact go k1 k2 (by simp[Region.wanted,hg])
   ·rename_i jj b hg;rw[R.dst]at Y;split at Y
    ·cases Y
    ·rename_i tt ht;have bg:tt<N:=al tt (by simp[Oper.looksAt,hg,ht]);split at Y
     ·rename_i c Q;obtain⟨u,hu,U⟩:=F.get tt _ (by rw[kgh,if_pos bg];exact Q);simp only[VRel]at U;subst U;have hy:yielded ops0 a.tmps jj=some c:=by simp[yielded,ht,hu]
      have X:Region.wanted o (yielded ops0 a.tmps)=(c==b):=by simp[Region.wanted,hg,hy]
      cases Z:(c==b)with
      | true =>
       rw[Z]at Y;obtain⟨k1,k2⟩:=mv Y;exact go k1 k2 (X.trans Z)
      | false =>rw[Z]at Y;simp only[cond_false,qcb,qcc]at Y;exact skip Y.1.symm Y.2.symm (X.trans Z)
     ·rename_i Q;obtain⟨u,hu,U⟩:=F.get tt _ (by rw[kgh,if_pos bg];exact Q);simp only[VRel]at U;obtain⟨us,rfl,_⟩:=U;have hy:yielded ops0 a.tmps jj=none:=by simp[yielded,ht,hu]
      simp only[qcb,qcc]at Y;exact skip Y.1.symm Y.2.symm (by simp[Region.wanted,hg,hy])
     ·cases Y
theorem kzt{rec:Rec}(ac:RecOk P O rec){I:List Nat}{k:Fr->AH->Option (AV×AH)}{r:AV×AH}(hk:∀(a b:Fr)(h:AH),a.same b->k a h=k b h)(ad:∀(i:Nat)(o:Oper),ops0[i]?=some o->∀t∈Oper.looksAt ops0 o,t<N)
  {μ:Mu} {h0:AH} {w:World} {a:Act} (S0:Sim P O μ h0 w):∀(is:List Nat){cs:List Operand}{ops:Array Oper}{ps:List Look}{fr:Fr}{h:AH}{J:Nat->Option (Nat×TypeId×List AV×AV)},ResOps P N ops0 ops J fp->(∀i x,J i=some x->∀o,ops0[i]?=some o->∀c∈o.op.operands.toList,c∈cs)->Sim P O μ h w->FRel μ N (fr.low N) a.tmps->h0.blks.size<=h.blks.size->(∀i,i<h0.blks.size->h.blks[i]?=h0.blks[i]?)->
  (∀i j t zs v,J i=some (j,t,zs,v)->fr.get (N+i)=some v/\(⟨i,.new j 0,0⟩:Look)∈ps/\h0.blks.size<=j/\j<h.blks.size/\h.blks[j]?=some (.cells zs t))->
  drawR P rec N I fp is cs ops ps fr h k=some r->wpAny P .any ops0 (After P O μ N h0 w a.defers k r) ops0.size (Array.replicate ops0.size false) a w
 | [],cs,ops,ps,fr,h,J,R,ae,S,F,hs,hb,HJ,H=>by
  simp only[drawR]at H;cases af:Nat.beq I.length ops.size with
  | false=>rw[af]at H;cases H
  | true =>
   rw[af,cond_true]at H
   have al:∀(a b:Fr)(h:AH),a.same b->(λ(fr:Fr) (h:AH)=>finK cs (fr.low N) fp (k (fr.low N) h)) a h=(λ(fr:Fr) (h:AH)=>finK cs (fr.low N) fp (k (fr.low N) h)) b h:=λa b h e=>by show finK cs (a.low N) fp (k (a.low N) h)=finK cs (b.low N) fp (k (b.low N) h);rw[hk _ _ _ (e.low N),kvg (e.low N) (Fr.same.refl fp)]
   have C0:Closed ops (Array.replicate ops.size false):=⟨by simp,λj o hj=>by rw[Array.getD_eq_getD_getElem?,Array.getElem?_replicate]at hj;split at hj<;>simp at hj⟩
   have any:=kqz (l:=Array.replicate ops.size false) al I ⟨by simp,λj=>by simp[Array.getElem?_replicate];split<;>rfl⟩ C0 H;rw[Nat.eq_of_beq_eq_true af]at any
   have U:∀j,h0.blks.size<=j->μ j=none:=λj hj=>by
    cases hq:μ j with
    | none=>rfl
    | some L=>have:=S0.dom _ _ hq;omega
   have E:Ext μ h0 w μ h:=⟨hs,Mu.le_refl μ,λ_ _=>rfl,λi hi hl b Z=>hl b (by rw[hb i hi];exact Z),λi L h1 h2 Y=>by rw[U i h1]at Y;cases Y⟩
   have:=AnyA.soundR ac R ad anc_ok ae (μ0:=μ) (h0:=h0) (w0:=w) ops.size C0 any S F E ⟨qbp _,λ_ _ _=>rfl⟩ (λi j t zs v hj=>by obtain⟨g1,g2,g3,g4,g5⟩:=HJ i j t zs v hj;exact⟨g1,g2,g3,λ_=>⟨g5,U j g3⟩⟩)
   rw[R.size]at this;exact this
 | i::is,cs,ops,ps,fr,h,J,R,ae,S,F,hs,hb,HJ,H=>by
  simp only[drawR]at H;split at H
  ·rename_i o ho;obtain⟨ai,H⟩:=kz H;rw[qb9]at ai;obtain⟨X,ag⟩:=ai;rw[kit,qbu]at H;obtain⟨⟨v,h1⟩,aj,H⟩:=H;dsimp only at H;obtain⟨zs,t,rfl⟩:=k88 X aj
   have am:J i=none:=by
    cases hq:J i with
    | none=>rfl
    | some x =>obtain⟨j,t',zs',v'⟩:=x;obtain⟨o2,_,_,_,_,h4⟩:=R.res i j t' zs' v' hq;rw[h4]at ho;cases ho;cases X
   have ak:ops0[i]?=some o:=by rw[<- R.same i am];exact ho
   have ap:i<ops.size:=(qcd.1 ho).1
   have aa:heldB ops0 o=true:=by rw[<- ag];unfold heldB;rw[R.size];simp only[R.dst]
   refine kzt ac hk ad S0 is (J:=λx=>if x=i then some (h.blks.size,t,zs,v)else J x) ?_ ?_ ?_ ?_ ?_ ?_ ?_ H
   ·refine⟨by simpa using R.size,λx C=>?_,λx j t' zs' v' C=>?_,λx x' j t1 z1 v1 t2 z2 v2 C Q=>?_⟩
    ·by_cases A:x=i
     ·rw[if_pos A]at C;cases C
     ·rw[if_neg A]at C;rw[Array.getElem?_setIfInBounds_ne (λh=>A h.symm)];exact R.same x C
    ·by_cases A:x=i
     ·subst A;rw[if_pos rfl]at C;cases C;exact⟨o,ak,X,⟨rec,h,aj,rfl⟩,aa,by rw[Array.getElem?_setIfInBounds_self,if_pos ap]⟩
     ·rw[if_neg A]at C;obtain⟨o2,h1,h2,h3,h4,h5⟩:=R.res x j t' zs' v' C;exact⟨o2,h1,h2,h3,h4,by rw[Array.getElem?_setIfInBounds_ne (λh=>A h.symm)];exact h5⟩
    ·by_cases A:x=i<;>by_cases K:x'=i
     ·rw[A,K]
     ·rw[if_pos A]at C;rw[if_neg K]at Q;cases C;have:=(HJ x' _ t2 z2 v2 Q).2.2.2.1;omega
     ·rw[if_neg A]at C;rw[if_pos K]at Q;cases Q;have:=(HJ x _ t1 z1 v1 C).2.2.2.1;omega
     ·rw[if_neg A]at C;rw[if_neg K]at Q;exact R.inj x x' j t1 z1 v1 t2 z2 v2 C Q
   ·intro x y C ox ah c hc;by_cases A:x=i
    ·subst A;rw[ak]at ah;cases ah;exact List.mem_append_left _ hc
    ·rw[if_neg A]at C;exact List.mem_append_right _ (ae x y C ox ah c hc)
   ·
    refine{old:=S.old,os:=S.os,tape:=S.tape,output:=S.output,base:=S.base,keep:=S.keep,dom:=λx L Y=>?_,place:=S.place,blk:=λx L b Y Z=>?_,inj:=λx y L M Y hM lx ly he=>?_}
    ·have:=S.dom x L Y;simp;omega
    ·have C:=S.dom x L Y;refine S.blk x L b Y ?_;simp only[Array.getElem?_push]at Z;rwa[if_neg (by omega)]at Z
    ·have C:=S.dom x L Y;have hy:=S.dom y M hM;exact S.inj x y L M Y hM (khe (by omega) lx) (khe (by omega) ly) he
   ·have:Fr.low N ((N+i,v)::fr)=fr.low N:=by
     show List.filter _ (_::fr)=_;rw[List.filter_cons];dsimp only
     rw[show Nat.blt (N+i) N=false from by
      cases hq:Nat.blt (N+i) N with
      | false=>rfl
      | true =>
       have:N+i<N:=by simpa[Nat.blt_eq]using hq
       omega]
     rfl
    rw[this];exact F
   ·simp;omega
   ·intro x C;simp only[Array.getElem?_push];rw[if_neg (by omega)];exact hb x C
   ·intro x j t' zs' v' C;by_cases A:x=i
    ·subst A;rw[if_pos rfl]at C;cases C;exact⟨by rw[get_cons,if_pos rfl],List.mem_cons_self ..,hs,by simp,by simp⟩
    ·rw[if_neg A]at C;obtain⟨g1,g2,g3,g4,g5⟩:=HJ x j t' zs' v' C;refine⟨?_,List.mem_cons_of_mem _ g2,g3,by simp;omega,?_⟩
     ·rw[get_cons,if_neg (by omega)];exact g1
     ·simp only[Array.getElem?_push];rw[if_neg (by omega)];exact g5
  ·cases H
theorem k3v{rec:Rec}(C:RecOk P O rec){ops:Array Oper}{H I X:List Nat}{fr:Fr}{h:AH}{k:Fr->AH->Option (AV×AH)}{r:AV×AH}(Y:∀(a b:Fr)(h:AH),a.same b->k a h=k b h)
  (A:drawX P rec N ops H I X fr h k=some r) {μ:Mu} {w:World} {a:Act} (S:Sim P O μ h w) (F:FRel μ N fr a.tmps):wpAny P .any ops (After P O μ N h w a.defers k r) ops.size (Array.replicate ops.size false) a {w with drawn:=w.drawn+1}:=by
 unfold drawX at A;split at A
 ·exact kbkr C Y A S F
 ·rename_i i is;cases K:lowB N ops with
  | false=>rw[K]at A;cases A
  | true =>
   rw[K,cond_true,kr6,qbu]at A;obtain⟨⟨fp,hx⟩,-,A⟩:=A;dsimp only at A
   have Q:∀(i:Nat)(o:Oper),ops[i]?=some o->∀t∈Oper.looksAt ops o,t<N:=by
    intro i o Z t ht;unfold lowB at K;rw[List.all_eq_true]at K;have:=K o (by rw[Array.mem_toList_iff];exact Array.mem_of_getElem? Z);rw[List.all_eq_true]at this
    simpa[Nat.blt_eq]using this t ht
   have F':FRel μ N (fr.low N) a.tmps:=⟨F.size,λt v U=>by
    rw[kgh]at U;split at U
    ·exact F.get t v U
    ·cases U⟩
   exact kzt C Y Q (h0:=h) (w:=w.drew) (S.drew) (i::is) (J:=λ_=>none) ⟨rfl,λ_ _=>rfl,λ_ _ _ _ _ h=>(by cases h),λ_ _ _ _ _ _ _ _ _ h=>(by cases h)⟩ (λ_ _ h=>(by cases h)) (S.drew) F' (qbp _) (λ_ _=>rfl) (λ_ _ _ _ _ h=>(by cases h)) A
theorem kbb6(K:P.follows .mixedOrders=true){rec:Rec}(C:RecOk P O rec){id:Nat}{ops:Array Oper}{A H I:List Nat}{fr:Fr}{h:AH}{k:Fr->AH->Option (AV×AH)}{r:AV×AH}(Q:∀(a b:Fr)(h:AH),a.same b->k a h=k b h)
  (U:drawX P rec N ops A H I fr h k=some r) {μ:Mu} {w:World} {a:Act} (S:Sim P O μ h w) (F:FRel μ N fr a.tmps):(Code.region id ops true).wp P (After P O μ N h w a.defers k r) a w :=
 wp_region_any K (k3v C Q U S F)
end
theorem knx{rec:Rec}{N:Nat}{ops:Array Oper}{R:Type}{k:Fr->AH->Option R}(C:∀(a b:Fr)(h:AH),a.same b->k a h=k b h):∀(is:List Nat){a b:Fr}{h:AH},a.same b->opsK P rec N ops is a h k=opsK P rec N ops is b h k
 | [],a,b,h,e=>C a b h e
 | i::is,a,b,h,e=>by
  have put:∀(d:Option Tmp)(v:AV){a b:Fr}(h:AH),a.same b->(putT N d v a λA=>opsK P rec N ops is A h k)=putT N d v b λA=>opsK P rec N ops is A h k:=by
   intro d v a b h e;simp only[ki4];cases d with
   | none=>exact knx C is e
   | some t=>dsimp only;rw[knx C is (e.putd (some t) v)]
  have go:∀(o:Oper){a b:Fr},a.same b->(opK P rec o.op o.type a h λv h'=>putT N o.dst v a λA=>opsK P rec N ops is A h' k)=opK P rec o.op o.type b h λv h'=>putT N o.dst v b λA=>opsK P rec N ops is A h' k:=by intro o a b e;rw[kj6 (b:=b) λx _=>ked λt _=>e t];congr 1;funext v h';exact put _ _ _ e
  have learn:∀(t:Tmp)(v:AV),Fr.same ((t,v)::a) ((t,v)::b):=λt v=>e.putd (some t) v;simp only[opsK];cases F:ops[i]? with
  | none=>rfl
  | some o =>
   dsimp only;cases H:o.guard with
   | none=>exact go o e
   | some jb =>
    obtain⟨j,b'⟩:=jb;dsimp only;cases I:(ops[j]?).bind (·.dst)with
    | none=>rfl
    | some t =>dsimp only;rw[e t,go o (learn t (.bool true)),go o (learn t (.bool false)),put o.dst (.tup []) h (learn t (.bool true)),put o.dst (.tup []) h (learn t (.bool false)),put o.dst (.tup []) h e]
theorem kvl{a b:Fr}(e:a.same b):∀xs:List Operand,evs a xs=evs b xs
 | []=>rfl
 | x::xs=>by simp only[evs,ked (a:=a) (b:=b) (x:=x) λt _=>e t,kvl e xs]
theorem k9i{rec:Rec}{o:Op}{ty:TypeId}{a b:Fr}{h:AH}{R:Type}{k:AV->AH->Option R}(e:a.same b):opY P rec o ty a h k=opY P rec o ty b h k:=by
 have C:kk9 o a=kk9 o b:=by
  unfold kk9;split
  ·rename_i c;rw[kvl e];split
   ·rename_i f xs _ _;rw[ked (a:=a) (b:=b) (x:=f) λt _=>e t]
   ·rfl
  ·rfl
 have A:∀x,evO a x=evO b x:=λx=>ked λt _=>e t;have ok:opK P rec o ty a h k=opK P rec o ty b h k:=kj6 (b:=b) λx _=>A x;unfold opY;rw[C];split
 ·rfl
 ·unfold opM;split
  ·rfl
  ·rw[A,A,A]
  ·rw[A,A,A]
  ·rw[A,A]
  ·rw[A,A]
  ·rw[A,A,A]
  ·rw[kvl e,ok]
  ·exact ok
theorem ksn{rec:Rec}{N:Nat}{ops:Array Oper}{R:Type}{k:Fr->AH->Option R}(C:∀(a b:Fr)(h:AH),a.same b->k a h=k b h):∀(is:List Nat){a b:Fr}{h:AH},a.same b->opsY P rec N ops is a h k=opsY P rec N ops is b h k
 | [],a,b,h,e=>C a b h e
 | i::is,a,b,h,e=>by
  have put:∀(d:Option Tmp)(v:AV){a b:Fr}(h:AH),a.same b->(putT N d v a λA=>opsY P rec N ops is A h k)=putT N d v b λA=>opsY P rec N ops is A h k:=by
   intro d v a b h e;simp only[ki4];cases d with
   | none=>exact ksn C is e
   | some t=>dsimp only;rw[ksn C is (e.putd (some t) v)]
  have go:∀(o:Oper){a b:Fr},a.same b->(opY P rec o.op o.type a h λv h'=>putT N o.dst v a λA=>opsY P rec N ops is A h' k)=opY P rec o.op o.type b h λv h'=>putT N o.dst v b λA=>opsY P rec N ops is A h' k:=by intro o a b e;rw[k9i e];congr 1;funext v h';exact put _ _ _ e
  have learn:∀(t:Tmp)(v:AV),Fr.same ((t,v)::a) ((t,v)::b):=λt v=>e.putd (some t) v;simp only[opsY];cases F:ops[i]? with
  | none=>rfl
  | some o =>
   dsimp only;cases H:o.guard with
   | none=>exact go o e
   | some jb =>
    obtain⟨j,b'⟩:=jb;dsimp only;cases I:(ops[j]?).bind (·.dst)with
    | none=>rfl
    | some t =>dsimp only;rw[e t,go o (learn t (.bool true)),go o (learn t (.bool false)),put o.dst (.tup []) h (learn t (.bool true)),put o.dst (.tup []) h (learn t (.bool false)),put o.dst (.tup []) h e]
theorem krc{rec:Rec}{N:Nat}{ops:Array Oper}{A C:List Nat}{R:Type}{k:Fr->AH->Option R}(H:∀(a b:Fr)(h:AH),a.same b->k a h=k b h):∀(c:List Nat){m:Nat}{ps:List Look}{a b:Fr}{h:AH},a.same b->opsD P rec N ops A C c m ps a h k=opsD P rec N ops A C c m ps b h k
 | [],m,ps,a,b,h,e=>by simp only[opsD,H a b h e]
 | i::c,m,ps,a,b,h,e=>by
  simp only[opsD];split
  ·rename_i o an K I;have l:kb7 P i o.op a=kb7 P i o.op b:=kqp (ops:=ops) λt _=>e t;rw[l];rw[knx (b:=b) (k:=λF h'=>opsD P rec N ops A C c (m|||1 <<< i) (kb7 P i o.op b++ps) F h' k) (λa b h e=>krc H c e) [i] e];rw[knx (b:=b) (k:=λF h'=>checkP an h h' (opsD P rec N ops A C c (m|||1 <<< i) ps F h' k) ps) (λa b h' e=>by rw[krc H c e]) [i] e]
  ·rfl
theorem kv6{rec:Rec}{N:Nat}{A:List Nat}{R:Type}{k:Fr->AH->Option R}(I:∀(a b:Fr)(h:AH),a.same b->k a h=k b h){fp F:Fr}(H:fp.same F):∀(is:List Nat){cs:List Operand}{ops:Array Oper}{ps:List Look}{a b:Fr}{h:AH},a.same b->drawR P rec N A fp is cs ops ps a h k=drawR P rec N A F is cs ops ps b h k
 | [],cs,ops,ps,a,b,h,e=>by
  simp only[drawR];have h1:∀(C:Fr)(h':AH),finK cs (C.low N) fp (k (C.low N) h')=finK cs (C.low N) F (k (C.low N) h'):=λC h'=>kvg (Fr.same.refl _) H;simp only[h1]
  rw[krc (k:=λC h'=>finK cs (C.low N) F (k (C.low N) h')) (λx y h e=>by
   show finK cs (x.low N) F (k (x.low N) h)=finK cs (y.low N) F (k (y.low N) h);rw[I _ _ _ (e.low N),kvg (e.low N) (Fr.same.refl F)]) A e]
 | i::is,cs,ops,ps,a,b,h,e=>by
  simp only[drawR];split
  ·rename_i o K
   have h1:∀(v:AV)(h':AH),drawR P rec N A fp is (o.op.operands.toList++cs) (ops.setIfInBounds i {o with op:=.move (.tmp (N+i))}) (⟨i,h.next,0⟩::ps) ((N+i,v)::a) h' k=drawR P rec N A F is (o.op.operands.toList++cs) (ops.setIfInBounds i {o with op:=.move (.tmp (N+i))}) (⟨i,h.next,0⟩::ps) ((N+i,v)::b) h' k:=λv h'=>kv6 I H is λt=>by rw[get_cons,get_cons,e t]
   simp only[h1];rw[kj6 (a:=fp) (b:=F) λx _=>ked λt _=>H t]
  ·rfl
theorem kuk{a b:Fr}(e:a.same b):∀(L:List Nat),a.keep L=b.keep L
 | []=>rfl
 | t::L=>by simp only[Fr.keep,e t,kuk e L]
theorem kv2{a b:Fr}{h:AH}(e:a.same b):∀(rs:List ResultVar)(k:List AV->Option (AV×AH)),resK P a h rs k=resK P b h rs k
 | [],k=>rfl
 | .tmp t::rs,k=>by simp only[resK,e t,kv2 e rs]
 | .cell x t::rs,k=>by simp only[resK,e x,kv2 e rs]
theorem kwf{a b:Fr}(e:a.same b)(c:Operand)(t:Bool):(learn c t a).same (learn c t b):=by
 cases c with
 | tmp s=>exact e.putd (some s) _
 | _=>exact e
theorem ke4{K:Keep}{rec:Rec}{ro:Option Nat}{f:FuncId}{fn:Func}:∀(n:Nat){fresh:Bool}{todo:List Item}(a b:Fr)(h:AH),a.same b->execA P K rec ro f fn n fresh todo a h=execA P K rec ro f fn n fresh todo b h
 | 0,fresh,todo,a,b,h,e=>rfl
 | n+1,fresh,todo,a,b,h,e=>by
  have F:=λ{fresh:Bool} {todo:List Item}=>ke4 (K:=K) (rec:=rec) (ro:=ro) (f:=f) (fn:=fn) n (fresh:=fresh) (todo:=todo) a b h e
  have res:∀C,leaveA P fn ro C a h=leaveA P fn ro C b h:=λC=>by unfold leaveA;have:kir P fn a h=kir P fn b h:=kv2 e _ _;rw[this]
  unfold execA
  try simp only[keb]
  have ops:∀(ops:Array Oper)(is:List Nat)(k:List Item),(opsY P rec fn.ntmps ops is a h λA h'=>execA P K rec ro f fn n false k A h')=opsY P rec fn.ntmps ops is b h λA h'=>execA P K rec ro f fn n false k A h':=λops is k=>ksn (λx y h e=>ke4 n x y h e) is e
  have H:∀(ops:Array Oper)(is js ls:List Nat)(k:List Item),(drawX P rec fn.ntmps ops is js ls a h λA h'=>execA P K rec ro f fn n false k A h')=drawX P rec fn.ntmps ops is js ls b h λA h'=>execA P K rec ro f fn n false k A h':=λops is js ls k=>by
   unfold drawX drawK;rw[krc (λx y h e=>ke4 n x y h e) is e];split
   ·rfl
   ·rename_i i js
    have h1:∀(fp:Fr)(I:AH),drawR P rec fn.ntmps is fp (i::js) [] ops [] a h (λA h'=>execA P K rec ro f fn n false k A h')=drawR P rec fn.ntmps is fp (i::js) [] ops [] b h (λA h'=>execA P K rec ro f fn n false k A h'):=λfp I=>kv6 (λx y h e=>ke4 n x y h e) (Fr.same.refl fp) _ e
    have X:(opsK P rec fn.ntmps ops ls a h λfp _=>drawR P rec fn.ntmps is fp (i::js) [] ops [] a h (λA h'=>execA P K rec ro f fn n false k A h'))=opsK P rec fn.ntmps ops ls a h λfp _=>drawR P rec fn.ntmps is fp (i::js) [] ops [] b h (λA h'=>execA P K rec ro f fn n false k A h'):=by congr 1;funext fp I;exact h1 fp I
    rw[X,knx (λx y h0 Y=>kv6 (λx y h e=>ke4 n x y h e) Y _ (Fr.same.refl b)) ls e]
  split
  all_goals first
   | exact res _
   | exact F
   | skip
  ·rename_i c x y k;rw[ked (a:=a) (b:=b) λt _=>e t];split
   ·rw[ke4 n _ _ h (kwf e c true),ke4 n _ _ h (kwf e c false)]
   ·rfl
  ·split
   ·exact F
   ·exact res _
  ·split
   ·exact F
   ·exact res _
  ·rename_i id Q U k;rw[ops,H];simp only[kuk e]
  ·split
   ·congr 1;funext h';exact ke4 n _ _ h' e
   ·rfl
  ·rename_i g ps as bd k;split
   ·rfl
   ·rw[ked (a:=a) (b:=b) λt _=>e t,kuk e]
  ·rfl
end Go.Ab
