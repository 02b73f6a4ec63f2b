/- Words and laws that the last text joins. -/
import Derived.Test.YtgfeahhgoiidiaaGreatDoorPAbsA
import Derived.MapKept
import Derived.AtR
set_option linter.unusedVariables false
set_option linter.unusedSimpArgs false
set_option linter.unusedSectionVars false
namespace Go.Ab
variable{P:Program}{O:World}{R:Type}
theorem k7o{μ:Mu}{t:TypeId}{x:AV}{k:AV->Option R}{r:R}(h:lenK P t x k=some r){u:Value}(A:VRel μ x u){ts:Array TypeId}(h0:ts[0]?=some t)(ty:TypeId)(w:World) :
  ∃z a,k z=some r/\VRel μ z a/\(Builtin.len_ ts ty #[u]).run P w=.ok a w:=by
 unfold lenK at h;split at h
 ·rename_i s y;simp only[VRel]at A;subst A;exact⟨_,.int .i64 s.size,h,by simp[VRel],by simp[Builtin.len_,h0,run_underlying y,goInt]⟩
 ·rename_i n e y;exact⟨_,.int .i64 n,h,by simp[VRel],by simp[Builtin.len_,h0,run_underlying y,goInt]⟩
 ·rename_i e r n c y;obtain⟨a,cap,rfl,_⟩:=A.slice_open;exact⟨_,.int .i64 n,h,by simp[VRel],by simp[Builtin.len_,h0,run_underlying y,goInt]⟩
 ·cases h
theorem kbk5{μ:Mu}{h:AH}{w:World}(S:Sim P O μ h w){ts:Array TypeId}{ty t e:TypeId}(h0:ts[0]?=some t)(hd:P.underlying t=some (.slice e))(aa:(P.info? e).isSome=true)
  {r K:Option Ref} {n y:Nat} {c c':Cap} {u u':Value} (U:VRel μ (.slice r n c) u) (A:VRel μ (.slice K y c') u') {h':AH} (I:copyH ⟨K,y,c'⟩ ⟨r,n,c⟩ (P.cellsOf e) h=some h') :
  Yields P (Builtin.copy_ ts ty #[u,u']) w (Good P O μ h w (.int .i64 ((min y n:Nat):Int)) h'):=by
 obtain⟨ie,hi⟩:=Option.isSome_iff_exists.1 aa;have hs:(sizeOf e).run P w=.ok (P.cellsOf e) w:=by simp[sizeOf,typeInfo,hi,Program.cellsOf]
 have C:(Builtin.lenOf u').run P w=.ok y w:=by
  obtain⟨_,_,rfl,_⟩:=A.slice_open;rfl
 unfold copyH at I;have F:min y n=Nat.min y n:=rfl;split at I
 ·rename_i rd rs V X;dsimp only at V X I;subst V;subst X;simp only[qbu]at I;obtain⟨cs,hg,hp⟩:=I;obtain⟨us,k1,Q,k3,k4⟩:=kl1 S A (m:=min y n) (Nat.min_le_left _ _) (by simpa[AH.getsO]using hg);simp only[VRel]at U;obtain⟨a,cap,rfl,ac,Y⟩:=U;have ah:n<=cap:=by cases c<;>exact Y.1
  rw[F]at Q;rcases ac with ai | ad
  ·have hn:n=0:=by omega
   subst hn;have H:us=[]:=List.eq_nil_of_length_eq_zero (by simpa using k1);subst H;have ae:cs=[]:=List.eq_nil_of_length_eq_zero k3.length.symm;subst ae;simp only[AH.puts,qca]at hp;subst hp;refine⟨.int .i64 ((min y 0:Nat):Int),w,?_,qd S (by simp[VRel])⟩;simp[Builtin.copy_,h0,run_underlying hd,C,hs,<- F]at Q|-;simp[Q,storeCells,goInt]
  ·obtain⟨w',e1,e2,e3,e4⟩:=kn8 (i:=0) (a:=a) S (by rw[show a.add 0=a from by simp[Addr.add]];exact ad) k3 k4 hp;refine⟨.int .i64 ((min y n:Nat):Int),w',?_,μ,by simp[VRel],e2,e3,e4⟩;simp[Builtin.copy_,h0,run_underlying hd,C,hs,Q,e1,goInt,F]
 ·rename_i af;simp only[qca]at I;subst I
  have Z:min y n=0\/False:=by
   cases r with
   | none=>simp only[VRel]at U;left;rw[U.1];simp
   | some r=>cases K with
    | none=>simp only[VRel]at A;left;rw[A.1];simp
    | some K=>exact absurd rfl (af r K rfl)
  have Z:min y n=0:=by simpa using Z
  obtain⟨us,k1,Q,k3,k4⟩:=kl1 (size:=P.cellsOf e) S A (m:=0) (Nat.zero_le _) (by cases K<;>simp[AH.getsO,AH.gets]<;>rfl);have H:us=[]:=List.eq_nil_of_length_eq_zero (by simpa using k1);subst H;have ag:Nat.min y n=0:=Z;refine⟨.int .i64 ((min y n:Nat):Int),w,?_,qd S (by simp[VRel])⟩;obtain⟨base,cap,rfl,_⟩:=U.slice_open;cases base<;>simp[Builtin.copy_,h0,run_underlying hd,C,hs,ag,Q,storeCells,goInt,Z]
theorem kl5(ρ:Operand->Value)(o:Oper)(c:Call)(y:o.op=.call c):execOp ρ o=(do let d <- resolve ρ c o.type;invoke d.target d.args):=by
 unfold execOp;rw[y]
theorem k74{v:AV}{k:AV->Option R}{r:R}(h:leafK .slice (some v) k=some r):k v=some r:=by
 obtain⟨x,y,A⟩:=kqr h;cases y;exact A
theorem kblc{μ:Mu}{h:AH}{w:World}(S:Sim P O μ h w){b:Builtin}{ts:Array TypeId}{xs:List AV}{us:List Value}(Z:VRels μ xs us){k:AV->AH->Option R}{r:R}(I:kf7 P b ts.toList xs h k=some r)(ty:TypeId)(Q:Array Bool) :
  ∃v h1,k v h1=some r/\∃u w',(builtin b ts ty Q us.toArray).run P w=.ok (.value u) w'/\Good P O μ h w v h1 u w':=by
 unfold kf7 at I;split at I
 ·rename_i t aa x H;obtain⟨u,us',rfl,K,A⟩:=Z.cons_inv;have:=A.nil_inv;subst this;have h0:ts[0]?=some t:=by have:=congrArg (·[0]?) H;simpa using this
  obtain⟨z,a,F,hz,hr⟩:=k7o I K h0 ty w;exact⟨z,h,F,a,w,by simp[builtin,hr],qd S hz⟩
 ·rename_i kd a ac b;obtain⟨u,us',rfl,K,A⟩:=Z.cons_inv;obtain⟨u2,U,rfl,C,y⟩:=A.cons_inv;have:=y.nil_inv;subst this;simp only[VRel]at K C;subst K;subst C;refine⟨_,h,I,.int kd (imin a b),w,?_,qd S (by simp[VRel])⟩;simp only[builtin,Builtin.min_,List.foldlM_cons,List.foldlM_nil,Builtin.min2,imin];by_cases V:b<a<;>simp[V]
 ·rename_i kd a ac b;obtain⟨u,us',rfl,K,A⟩:=Z.cons_inv;obtain⟨u2,U,rfl,C,y⟩:=A.cons_inv;have:=y.nil_inv;subst this;simp only[VRel]at K C;subst K;subst C;refine⟨_,h,I,.int kd (imax a b),w,?_,qd S (by simp[VRel])⟩;simp only[builtin,Builtin.max_,List.foldlM_cons,List.foldlM_nil,Builtin.max2,imax];by_cases V:a<b<;>simp[V]
 ·rename_i t u' aa q n c x H;obtain⟨u,us',rfl,K,A⟩:=Z.cons_inv;obtain⟨u2,U,rfl,C,y⟩:=A.cons_inv;have:=y.nil_inv;subst this;have h0:ts[0]?=some t:=by have:=congrArg (·[0]?) H;simpa using this
  have h1:ts[1]?=some u':=by have:=congrArg (·[1]?) H;simpa using this
  split at I
  ·rename_i e f hd ad;obtain⟨X,F⟩:=kz I;simp only[qbu]at F;obtain⟨p,hp,q,hq,Y⟩:=F;obtain⟨u3,w',hr,g⟩:=kbch (ty:=ty) S h0 h1 hd ad X K C hp hq;exact⟨q.1,q.2,k74 Y,u3,w',by simp[builtin,hr],g⟩
  ·cases I
 ·rename_i t aa q n c q' n' c' H;obtain⟨u,us',rfl,K,A⟩:=Z.cons_inv;obtain⟨u2,U,rfl,C,y⟩:=A.cons_inv;have:=y.nil_inv;subst this;have h0:ts[0]?=some t:=by have:=congrArg (·[0]?) H;simpa using this
  split at I
  ·rename_i e hd;obtain⟨X,F⟩:=kz I;simp only[qbu]at F;obtain⟨h',hc,Y⟩:=F;obtain⟨u3,w',hr,g⟩:=kbk5 (ty:=ty) S h0 hd X K C hc;exact⟨_,h',Y,u3,w',by simp[builtin,hr],g⟩
  ·cases I
 ·cases I
theorem ko9:(Extern.allNextRows.lookup "math/bits.Add64").isSome=false/\(Extern.allNextRows.lookup "math/bits.Sub64").isSome=false/\(Extern.allNextRows.lookup "").isSome=false:=by
 refine⟨by kernel_rfl,by kernel_rfl,by kernel_rfl⟩
theorem kv5:(Extern.allGenericRows.lookup "math/bits.Add64").isSome=false/\(Extern.allGenericRows.lookup "math/bits.Sub64").isSome=false:=by
 refine⟨by kernel_rfl,by kernel_rfl⟩
theorem kvl:(Extern.allTypedRows.lookup "math/bits.Add64").isSome=false/\(Extern.allTypedRows.lookup "math/bits.Sub64").isSome=false:=by
 refine⟨by kernel_rfl,by kernel_rfl⟩
def addSem(args:Array Value):Sem Value:=do
 let (x,y,c) <- Extern.MathBitsCarry.three "Add64" args
 pure (Extern.MathBitsCarry.pair ((x+y+c)%Extern.MathBitsCarry.m64) ((x+y+c)/Extern.MathBitsCarry.m64))
def subSem(args:Array Value):Sem Value:=do
 let (x,y,b) <- Extern.MathBitsCarry.three "Sub64" args
 pure (Extern.MathBitsCarry.pair ((x+Extern.MathBitsCarry.m64-y-b)%Extern.MathBitsCarry.m64) (if x<y+b then 1 else 0))
theorem k43:Extern.allRows.lookup "math/bits.Add64" = some addSem:=by kernel_rfl
theorem kbat:Extern.allRows.lookup "math/bits.Sub64" = some subSem:=by kernel_rfl
theorem kbd5(name:String)(x y c:Value):Extern.MathBitsCarry.three name #[x,y,c]=(do
  let c:=(<- asInt c).toNat
  if c>1 then unsupported (.noEntry ("extern/math/bits." ++ name ++ ": a carry that is neither 0 nor 1"))
  pure ((<- asInt x).toNat,(<- asInt y).toNat,c)):=rfl
theorem k3l(name:String)(A C F:IntKind)(x y c:Int)(h:¬c.toNat>1)(w:World):(Extern.MathBitsCarry.three name #[.int A x,.int C y,.int F c]).run P w=.ok (x.toNat,y.toNat,c.toNat) w:=by
 rw[kbd5];simp only[Sem.run_bind,kbdb,Result.andThen_ok,Sem.run_ite,if_neg h,Sem.run_pure]
theorem kgw{α:Type}{x:Option α}(h:x.isSome=false):x=none:=by cases x<;>simp at h;rfl
theorem kyc{fn:Func}(h1:Extern.allNextRows.lookup fn.name=none)(y:Extern.allNextRows.lookup fn.origin=none):Extern.findNext fn=none:=by
 unfold Extern.findNext;dsimp only;rw[h1,y];rfl
theorem kze{fn:Func}{s:Array Value->Sem Value}(h1:Extern.allGenericRows.lookup fn.name=none)(y:Extern.allTypedRows.lookup fn.name=none)(A:Extern.allRows.lookup fn.name=some s):Extern.find fn=some s:=by
 unfold Extern.find;dsimp only;rw[h1,y,A];rfl
theorem k5m{μ:Mu}{f:FuncId}{fn:Func}(hf:P.funcs[f]?=some fn)(H:(fn.name == "runtime.NumGoroutine")=false) (hb:fn.body=none) (ho:fn.origin = "") {xs:List AV} {v:AV} (Y:prim fn.name xs=some v)
  {us:List Value} (hx:VRels μ xs us) (w:World):∃u,(callFunc f us.toArray).run P w=.ok (.value u) w/\VRel μ v u:=by
 have C:fn.name≠ "runtime.NumGoroutine" := by simpa using H
 unfold prim at Y;split at Y
 ·rename_i k1 x k2 y k3 c;obtain⟨u1,r1,rfl,v1,Z⟩:=hx.cons_inv;obtain⟨u2,r2,rfl,v2,aa⟩:=Z.cons_inv;obtain⟨u3,r3,rfl,v3,ac⟩:=aa.cons_inv;have:=ac.nil_inv;subst this;simp only[VRel]at v1 v2 v3;subst v1;subst v2;subst v3;have hm:(Extern.MathBitsCarry.m64:Nat)=18446744073709551616:=rfl;rcases kck Y with⟨F,I⟩ | ⟨_,I⟩
  ·obtain⟨V,K⟩:=kz I;simp only[qbw]at V;simp only[beq_iff_eq]at F;cases K;obtain⟨d1,d2,d3,d4⟩:=V;have Q:Extern.findNext fn=none:=kyc (by rw[F];exact kgw ko9.1) (by rw[ho];exact kgw ko9.2.2);have U:Extern.find fn=some addSem:=kze (by rw[F];exact kgw kv5.1) (by rw[F];exact kgw kvl.1) (by rw[F];exact k43);have A:=k3l (P:=P) "Add64" k1 k2 k3 x y c (by omega) w;refine⟨Extern.MathBitsCarry.pair ((x.toNat+y.toNat+c.toNat)%Extern.MathBitsCarry.m64) ((x.toNat+y.toNat+c.toNat)/Extern.MathBitsCarry.m64),?_,?_⟩
   ·simp[callFunc,hf,C,hb,Q,U,addSem,A,-String.reduceAppend]
   ·simp only[VRel];refine⟨_,rfl,qc ?_ (qc ?_ qb)⟩
    ·simp only[VRel,Value.int.injEq,true_and,hm];simp;omega
    ·simp only[VRel,Value.int.injEq,true_and,hm];simp;omega
  ·obtain⟨F,K⟩:=kz I;obtain⟨V,ad⟩:=kz K;simp only[qbw]at V;simp only[beq_iff_eq]at F;cases ad;obtain⟨d1,d2,d3,d4,d5⟩:=V;have Q:Extern.findNext fn=none:=kyc (by rw[F];exact kgw ko9.2.1) (by rw[ho];exact kgw ko9.2.2);have U:Extern.find fn=some subSem:=kze (by rw[F];exact kgw kv5.2) (by rw[F];exact kgw kvl.2) (by rw[F];exact kbat);have A:=k3l (P:=P) "Sub64" k1 k2 k3 x y c (by omega) w;refine⟨Extern.MathBitsCarry.pair ((x.toNat+Extern.MathBitsCarry.m64-y.toNat-c.toNat)%Extern.MathBitsCarry.m64) (if x.toNat<y.toNat+c.toNat then 1 else 0),?_,?_⟩
   ·simp[callFunc,hf,C,hb,Q,U,subSem,A]
   ·simp only[VRel];refine⟨_,rfl,qc ?_ (qc ?_ qb)⟩
    ·simp only[VRel,Value.int.injEq,true_and,hm];simp;omega
    ·simp only[VRel,Value.int.injEq,true_and];by_cases X:x<y+c
     ·rw[if_pos (by omega)];simp[X]
     ·rw[if_neg (by omega)];simp[X]
 ·cases Y
end Go.Ab
namespace Go.Ab
open Go.MapKept
variable{P:Program}{O:World}{R:Type}
def Ents(μ:Mu)(es:List AEnt)(us:Array MapEntry):Prop:=us.size=es.length/\
 ∀(j:Nat)(e:AEnt),es[j]?=some e->∃u:MapEntry,us[j]?=some u/\VRel μ e.key u.key/\VRel μ e.val u.val/\u.born=e.born
theorem kiu{μ:Mu}{h:AH}{w:World}(S:Sim P O μ h w){i:Nat}{L:Loc}(C:μ i=some L){p:List AEnt×Nat}(y:h.mapAt i=some p):∃us,w.heap[L.block]?=some (.map us p.2)/\Ents μ p.1 us/\h.blks[i]?=some (.map p.1 p.2):=by
 unfold AH.mapAt at y;split at y
 ·rename_i es ck A;cases y;obtain⟨us,h1,F⟩:=S.blk i L _ C A;exact⟨us,h1,F,A⟩
 ·cases y
theorem knv{μ:Mu}{kd:IntKind}{n:Int}:∀{es:List AEnt}{us:List MapEntry}{i:Nat}{q:Option (Nat×AV)},(us.length=es.length/\∀(j:Nat)(e:AEnt),es[j]?=some e->∃u:MapEntry,us[j]?=some u/\VRel μ e.key u.key/\VRel μ e.val u.val/\u.born=e.born)->findA kd n es i=some q->
  match q with
  | none=>Instr.findNow (.int kd) (.int kd n) us i=some none
  | some x=>∃j u e,x.1=i+j/\es[j]?=some e/\e.key=.int kd n/\e.val=x.2/\us[j]?=some u/\u.key=.int kd n/\Instr.findNow (.int kd) (.int kd n) us i=some (some (i+j,u.val))/\VRel μ x.2 u.val/\u.born=e.born
 | [],us,i,q,h,y=>by
  simp only[findA,qca]at y;subst y;have:us=[]:=List.length_eq_zero_iff.1 h.1;subst this;rfl
 | e::es,us,i,q,h,y=>by
  cases us with
  | nil=>simp at h
  | cons u us =>
   obtain⟨u0,I,F,U,V⟩:=h.2 0 e rfl;cases I;have K:us.length=es.length/\∀(j:Nat)(e:AEnt),es[j]?=some e->∃u:MapEntry,us[j]?=some u/\VRel μ e.key u.key/\VRel μ e.val u.val/\u.born=e.born:=⟨by simpa using h.1,λj e X=>h.2 (j+1) e X⟩;simp only[findA]at y;split at y
   ·rename_i A m C;rw[C]at F;simp only[VRel]at F;by_cases H:A=kd
    ·subst H;simp only[decide_true,cond_true]at y;by_cases Q:n=m
     ·subst Q;simp only[decide_true,cond_true,qca]at y;subst y;refine⟨0,u,e,rfl,rfl,C,rfl,rfl,F,?_,U,V⟩;simp[Instr.findNow,Instr.sameNow,F]
     ·simp only[Q,decide_false,cond_false]at y;have ih:=knv K y
      have step:Instr.findNow (.int A) (.int A n) (u::us) i=Instr.findNow (.int A) (.int A n) us (i+1):=by
       simp[Instr.findNow,Instr.sameNow,F,show(n==m)=false from by simp[Q]]
      cases q with
      | none =>
       show Instr.findNow _ _ _ _=_;rw[step];exact ih
      | some x =>
       obtain⟨j,Y,Z,h1,h2,h3,h4,h5,h6,h7,h8,h9⟩:=ih;exact⟨j+1,Y,Z,by omega,h2,h3,h4,h5,h6,by rw[step,h7];congr 3;omega,h8,h9⟩
    ·simp[H]at y
   ·cases y
theorem Ents.list{μ:Mu}{es:List AEnt}{us:Array MapEntry}(e:Ents μ es us):us.toList.length=es.length/\∀(j:Nat)(x:AEnt),es[j]?=some x->∃u:MapEntry,us.toList[j]?=some u/\VRel μ x.key u.key/\VRel μ x.val u.val/\u.born=x.born :=
 ⟨by simpa using e.1,λj x y=>by simpa using e.2 j x y⟩
theorem Ents.push{μ:Mu}{es:List AEnt}{us:Array MapEntry}(e:Ents μ es us){x:AEnt}{u:MapEntry}(C:VRel μ x.key u.key)(F:VRel μ x.val u.val)(H:u.born=x.born):Ents μ (es++[x]) (us.push u):=by
 refine⟨by simp[e.1],λj y A=>?_⟩;rcases Nat.lt_or_ge j es.length with h | h
 ·rw[List.getElem?_append_left h]at A;obtain⟨I,h1,K⟩:=e.2 j y A;exact⟨I,by rw[Array.getElem?_push,if_neg (by rw[e.1];omega)];exact h1,K⟩
 ·rw[List.getElem?_append_right h]at A
  have Q:j-es.length=0:=by
   rcases Nat.eq_zero_or_pos (j-es.length)with h0 | h0
   ·exact h0
   ·rw[List.getElem?_eq_none (by simp;omega)]at A;cases A
  rw[Q]at A;cases A;exact⟨u,by rw[Array.getElem?_push,if_pos (by rw[e.1];omega)],C,F,H⟩
theorem Ents.modify{μ:Mu}{es:List AEnt}{us:Array MapEntry}(e:Ents μ es us){i:Nat}{f:AEnt->AEnt}{g:MapEntry->MapEntry}(F:∀x u,es[i]?=some x->us[i]?=some u->VRel μ x.key u.key->VRel μ x.val u.val->u.born=x.born->VRel μ (f x).key (g u).key/\VRel μ (f x).val (g u).val/\(g u).born=(f x).born):Ents μ (es.modify i f) (us.modify i g):=by
 refine⟨by simp[e.1],λj y A=>?_⟩;rw[List.getElem?_modify]at A;simp only[Array.getElem?_modify];by_cases C:i=j
 ·subst C;simp only[if_true,Option.map_eq_map]at A|-;rw[Option.map_eq_some_iff]at A;obtain⟨x,H,rfl⟩:=A;obtain⟨u,h1,I,K,Q⟩:=e.2 i x H;exact⟨g u,by simp[h1],F x u H h1 I K Q⟩
 ·simp only[C,if_false]at A|-;exact e.2 j y (by simpa using A)
theorem Ents.erase{μ:Mu}{es:List AEnt}{us:Array MapEntry}(e:Ents μ es us){i:Nat}(hi:i<es.length):Ents μ (es.eraseIdx i) (us.eraseIdxIfInBounds i):=by
 have F:us.eraseIdxIfInBounds i=us.eraseIdx i (by rw[e.1];exact hi):=by unfold Array.eraseIdxIfInBounds;rw[dif_pos (by rw[e.1];exact hi)]
 rw[F];refine⟨by simp[List.length_eraseIdx,e.1,hi],λj y A=>?_⟩;have C:=e.list;have key:∀j,(us.eraseIdx i (by rw[e.1];exact hi))[j]?=(us.toList.eraseIdx i)[j]?:=λj=>by rw[<- Array.getElem?_toList,Array.toList_eraseIdx]
 rw[key];rw[List.getElem?_eraseIdx]at A|-;split at A
 ·rename_i h;rw[if_pos h];exact C.2 j y A
 ·rename_i h;rw[if_neg h];exact C.2 (j+1) y A
theorem kwj{μ:Mu}{t:TypeId}{z:AV}(h:zeroA P t=some z)(w:World):∃u,(zeroValue t).run P w=.ok u w/\VRel μ z u:=by
 unfold zeroA at h;obtain⟨i,hi,h⟩:=qbu.1 h;obtain⟨u,y,h⟩:=qbu.1 h;exact⟨u,by simp[zeroValue,typeInfo,hi,y],VRel.ofValue h⟩
theorem kgr{μ:Mu}{h:AH}{w:World}(S:Sim P O μ h w){i:Nat}{L:Loc}(A:μ i=some L){es es':List AEnt}{ck ck':Nat}(C:h.blks[i]?=some (.map es ck)){us':Array MapEntry}(e:Ents μ es' us') :
  Good P O μ h w (.tup []) (h.setBlk i (.map es' ck')) undef {w with heap:=w.heap.setIfInBounds L.block (.map us' ck')}:=by
 have y:=(S.place i L A).2;obtain⟨s1,s2,s3⟩:=koc S A C (by simp) (b':=.map es' ck') (o:=.map us' ck') ⟨us',World.putObj_heap_same y,e⟩;exact⟨μ,by simp[VRel,undef,VRels],s1,s2,s3⟩
section ops
variable{μ:Mu}{h:AH}{w:World}(S:Sim P O μ h w)
include S
theorem kbk6{t Q et:TypeId}{kd:IntKind}(U:P.underlying t=some (.map Q et))(C:P.underlying Q=some (.int kd)){i:Nat}{L:Loc}(H:μ i=some L){n:Int}{v:AV}{u:Value}(V:VRel μ v u){h':AH}(hp:mapPut h i kd n v=some h') :
  ∃w',(Instr.mapUpdate t (.map (some L.block)) (.int kd n) u).run P w=.ok () w'/\Good P O μ h w (.tup []) h' undef w':=by
 obtain⟨p,h1,h2⟩:=qbu.1 hp;obtain⟨q,h3,X⟩:=Option.map_eq_some_iff.1 h2;obtain⟨us,F,I,Y⟩:=kiu S H h1;have Z:=knv I.list h3;have A:IsKey (.int kd) (.int kd n):=rfl;cases q with
 | none =>
  subst X;refine⟨_,?_,kgr S H Y (us':=us.push {key:=.int kd n,val:=u,born:=p.2}) (I.push (by simp[VRel]) V rfl)⟩;simp[Instr.mapUpdate,run_underlying U,MapKept.run_getObj_map F,run_checkKey C A,run_findKey C Z,MapKept.run_setObj_map _ F,Result.andThen]
 | some x =>
  subst X;obtain⟨j,u',e,e1,e2,e3,e4,e5,e6,e7,e8,e9⟩:=Z;rw[Nat.zero_add]at e1 e7;have hj:us[j]?=some u':=by simpa using e5
  dsimp only;rw[e1];refine⟨_,?_,kgr S H Y (us':=us.modify j λe=>{e with key:=.int kd n,val:=u}) (I.modify λx y _ _ _ _ K=>⟨by simp[VRel],V,K⟩)⟩;simp[Instr.mapUpdate,run_underlying U,MapKept.run_getObj_map F,run_checkKey C A,run_findKey C e7,hj,e6,run_keyThatStays A,MapKept.run_setObj_map _ F,Result.andThen]
theorem kbf7{t U V:TypeId}{kd:IntKind}(K:P.underlying t=some (.map U V))(C:P.underlying U=some (.int kd)){r:Option Nat}{u:Value}(I:VRel μ (.map r) u){n:Int}{q:Option AV}(Q:mapGet h r kd n=some q){z:AV}(hz:zeroA P V=some z)(ok:Bool) :
  ∃x,(Instr.lookup t u (.int kd n) ok).run P w=.ok x w/\VRel μ (cond ok (.tup [q.getD z,.bool q.isSome]) (q.getD z)) x:=by
 have y:IsKey (.int kd) (.int kd n):=rfl;obtain⟨X,F,H⟩:=kwj (μ:=μ) hz w
 have A:∀(x:Value)(b:Bool)(a:AV),VRel μ a x->VRel μ (cond ok (.tup [a,.bool b]) a) (if ok=true then .tuple #[x,.bool b]else x):=by
  intro x b a Y;cases ok
  ·exact Y
  ·simp[VRel,VRels,Y]
 cases r with
 | none =>
  simp only[mapGet,qca]at Q;subst Q;simp only[VRel]at I;subst I;refine⟨_,?_,A X false z H⟩;simp[Instr.lookup,run_underlying K,run_checkKey C y,Instr.findKey,run_underlying C,Instr.findNow,F,Result.andThen]
 | some i =>
  simp only[VRel]at I;obtain⟨L,hL,rfl⟩:=I;obtain⟨p,h1,h2⟩:=qbu.1 Q;obtain⟨q',h3,h4⟩:=Option.map_eq_some_iff.1 h2;subst h4;obtain⟨us,Z,he,hb⟩:=kiu S hL h1;have hf:=knv he.list h3;cases q' with
  | none =>
   refine⟨_,?_,A X false z H⟩;simp[Instr.lookup,run_underlying K,MapKept.run_getObj_map Z,run_checkKey C y,run_findKey C hf,F,Result.andThen]
  | some x =>
   obtain⟨j,u',e,e1,e2,e3,e4,e5,e6,e7,e8,e9⟩:=hf;refine⟨_,?_,A u'.val true x.2 e8⟩;simp[Instr.lookup,run_underlying K,MapKept.run_getObj_map Z,run_checkKey C y,run_findKey C e7,Result.andThen]
theorem k9q{t U et ty:TypeId}{kd:IntKind}(H:P.underlying t=some (.map U et))(A:P.underlying U=some (.int kd)){r:Option Nat}{u:Value}(C:VRel μ (.map r) u){n:Int}{h':AH}(I:mapDel h r kd n=some h'){ts:Array TypeId}(h0:ts[0]?=some t) :
  ∃w',(Builtin.delete_ ts ty #[u,.int kd n]).run P w=.ok (.tuple #[]) w'/\Good P O μ h w (.tup []) h' (.tuple #[]) w':=by
 have y:IsKey (.int kd) (.int kd n):=rfl;cases r with
 | none =>
  simp only[mapDel,qca]at I;subst I;simp only[VRel]at C;subst C;exact⟨w,by simp[Builtin.delete_,h0,run_underlying H,run_checkKey A y,Result.andThen],qd S (by simp[VRel,VRels])⟩
 | some i =>
  simp only[VRel]at C;obtain⟨L,K,rfl⟩:=C;obtain⟨p,h1,h2⟩:=qbu.1 I;obtain⟨q',h3,V⟩:=Option.map_eq_some_iff.1 h2;obtain⟨us,F,Q,X⟩:=kiu S K h1;have Y:=knv Q.list h3;cases q' with
  | none =>
   subst V;refine⟨_,?_,kgr S K X Q⟩;simp[Builtin.delete_,h0,run_underlying H,MapKept.run_getObj_map F,run_checkKey A y,run_findKey A Y,MapKept.run_setObj_map _ F,Result.andThen]
  | some x =>
   subst V;obtain⟨j,u',e,Z,e2,e3,e4,e5,e6,e7,e8,e9⟩:=Y;rw[Nat.zero_add]at Z e7;dsimp only;rw[Z];refine⟨_,?_,kgr S K X (Q.erase (qcd.1 e2).1)⟩;simp[Builtin.delete_,h0,run_underlying H,MapKept.run_getObj_map F,run_checkKey A y,run_findKey A e7,MapKept.run_setObj_map _ F,Result.andThen]
theorem kbkq{t F H ty:TypeId}(C:P.underlying t=some (.map F H)){r:Option Nat}{u:Value}(y:VRel μ (.map r) u){n:Nat}(A:mapLen h r=some n){ts:Array TypeId}(h0:ts[0]?=some t) :
  (Builtin.len_ ts ty #[u]).run P w=.ok (.int .i64 (n:Int)) w:=by
 cases r with
 | none =>
  simp only[mapLen,qca]at A;subst A;simp only[VRel]at y;subst y;simp[Builtin.len_,h0,run_underlying C,Result.andThen,goInt]
 | some i =>
  simp only[VRel]at y;obtain⟨L,I,rfl⟩:=y;obtain⟨p,h1,K⟩:=Option.map_eq_some_iff.1 A;subst K;obtain⟨us,Q,U,V⟩:=kiu S I h1;simp[Builtin.len_,h0,run_underlying C,MapKept.run_getObj_map Q,Result.andThen,goInt,U.1]
theorem kbj3{t I K ty:TypeId}(C:P.underlying t=some (.map I K)){r:Option Nat}{u:Value}(y:VRel μ (.map r) u){h':AH}(A:kud h r=some h'){ts:Array TypeId}(h0:ts[0]?=some t) :
  ∃w',(Builtin.clear_ ts ty #[u]).run P w=.ok (.tuple #[]) w'/\Good P O μ h w (.tup []) h' (.tuple #[]) w':=by
 cases r with
 | none =>
  simp only[kud,qca]at A;subst A;simp only[VRel]at y;subst y;exact⟨w,by simp[Builtin.clear_,h0,run_underlying C,Result.andThen],qd S (by simp[VRel,VRels])⟩
 | some i =>
  simp only[VRel]at y;obtain⟨L,F,rfl⟩:=y;obtain⟨p,h1,Q⟩:=Option.map_eq_some_iff.1 A;subst Q;obtain⟨us,H,V,U⟩:=kiu S F h1;refine⟨_,?_,kgr S F U (us':=#[]) ⟨rfl,by simp⟩⟩;simp[Builtin.clear_,h0,run_underlying C,MapKept.run_getObj_map H,MapKept.run_setObj_map _ H,Result.andThen]
theorem k9x{t kt et:TypeId}{kd:IntKind}(ht:P.underlying t=some (.map kt et))(I:P.underlying kt=some (.int kd)){i:Nat}{L:Loc}(Q:μ i=some L){n:Int}{z:AV}(hz:zeroA P et=some z){q:AV×Int×AH}(hp:mapEnt h i kd n z=some q) :
  ∃u w',(Instr.mapEntry t (.map (some L.block)) (.int kd n)).run P w=.ok u w'/\Good P O μ h w (.tup [q.1,.int .i64 q.2.1]) q.2.2 u w':=by
 obtain⟨p,h1,h2⟩:=qbu.1 hp;obtain⟨q',h3,h4⟩:=qbu.1 h2;obtain⟨us,K,U,hb⟩:=kiu S Q h1;have hf:=knv U.list h3;have A:IsKey (.int kd) (.int kd n):=rfl;obtain⟨uz,V,C⟩:=kwj (μ:=μ) hz w;cases q' with
 | none =>
  cases h4;obtain⟨ν,_,X,F,Y⟩:=kgr S Q hb (ck':=p.2+1) (us':=us.push {key:=.int kd n,val:=uz,born:=p.2}) (es':=p.1++[⟨.int kd n,z,p.2⟩]) (U.push (by simp[VRel]) C rfl);refine⟨.tuple #[uz,.int .i64 (p.2:Int)],_,?_,ν,by simp[VRel,VRels,C.mono F.2.1],X,F,Y⟩;simp[Instr.mapEntry,run_underlying ht,MapKept.run_getObj_map K,run_checkKey I A,run_findKey I hf,V,MapKept.run_setObj_map _ K,Result.andThen,goInt]
 | some x =>
  obtain⟨j,u',e,Z,e2,e3,e4,e5,e6,e7,e8,e9⟩:=hf;rw[Nat.zero_add]at Z e7;have hj:us[j]?=some u':=by simpa using e5
  obtain⟨e',H,hq⟩:=Option.map_eq_some_iff.1 h4;rw[Z,e2]at H;cases H;cases hq;obtain⟨ν,_,X,F,Y⟩:=kgr S Q hb (ck':=p.2) (us':=us.modify j λe=>{e with key:=.int kd n}) (es':=p.1.modify j λe=>⟨.int kd n,e.val,e.born⟩) (U.modify λx y _ _ _ hv aa=>⟨by simp[VRel],hv,aa⟩);dsimp only;rw[Z];refine⟨.tuple #[u'.val,.int .i64 (e.born:Int)],_,?_,ν,by simp[VRel,VRels,e8.mono F.2.1],X,F,Y⟩;simp[Instr.mapEntry,run_underlying ht,MapKept.run_getObj_map K,run_checkKey I A,run_findKey I e7,hj,e6,run_keyThatStays A,MapKept.run_setObj_map _ K,Result.andThen,goInt,e9]
theorem kbkx{t:TypeId}{i:Nat}{L:Loc}(X:μ i=some L){kd:IntKind}{n:Int}{v:AV}{u:Value}(hv:VRel μ v u){h':AH}(Y:mapSet h i n v=some h') :
  ∃w',(Instr.entryStore t (.map (some L.block)) (.int kd n) u).run P w=.ok () w'/\Good P O μ h w (.tup []) h' undef w':=by
 obtain⟨p,h1,Z⟩:=qbu.1 Y;obtain⟨j,A,h4⟩:=Option.map_eq_some_iff.1 Z;subst h4;obtain⟨us,I,K,hb⟩:=kiu S X h1;refine⟨_,?_,kgr S X hb (us':=us.modify j λe=>{e with val:=u}) (K.modify λx y _ _ hk _ C=>⟨hk,hv,C⟩)⟩
 have H:us.findIdx? (λe=>(e.born:Int)==n)=some j:=by
  have F:=K.list;rw[show us.findIdx? (λe=>(e.born:Int)==n)=us.toList.findIdx? (λe=>(e.born:Int)==n)from by cases us;simp];clear K hb I h1 Y Z;generalize us.toList=ul at F;generalize p.1=el at F A
  induction el generalizing ul j with
  | nil=>simp at A
  | cons x xs ih =>
   cases ul with
   | nil=>simp at F
   | cons y ys =>
    obtain⟨y0,Q,_,_,C⟩:=F.2 0 x rfl;cases Q;rw[List.findIdx?_cons]at A|-;rw[C];by_cases U:(x.born:Int)=n
    ·simp[U]at A|-;exact A
    ·simp only[U,decide_false,qcl,if_false]at A;simp only[beq_iff_eq,U,if_false];obtain⟨j',V,rfl⟩:=Option.map_eq_some_iff.1 A;rw[ih _ ys ⟨by simpa using F.1,λk z hz=>F.2 (k+1) z hz⟩ V];rfl
 simp[Instr.entryStore,MapKept.run_getObj_map I,asInt,asIntOf,H,MapKept.run_setObj_map _ I,Result.andThen]
end ops
end Go.Ab
namespace Go.Ab
variable{P:Program}{O:World}{R:Type}
def Ends(G:Value->World->Prop):Ending->World->Prop:=λe w'=>∃u,e=.returned u/\G u w'
def mark(r:Nat):Deferred:={target:=.collected r,args:=#[]}
structure Marks(O:World)(μ:Mu)(h:AH)(w:World)(ds:List Nat):Prop where
 nodup:ds.Nodup
 old:∀r∈ds,O.heap.size<=r/\r<w.heap.size
 has:∀r∈ds,w.heap[r]?=some (.deferred (some []))
 free:∀r∈ds,∀i L,Live h i->μ i=some L->L.block≠r
theorem Marks.nil{μ:Mu}{h:AH}{w:World}:Marks O μ h w []:=⟨by simp,by simp,by simp,by simp⟩
theorem Marks.step{μ ν:Mu}{h h':AH}{w w':World}{ds:List Nat}(m:Marks O μ h w ds)(S:Sim P O μ h w)(Q:Sim P O ν h' w')(e:Ext μ h w ν h')(f:Frm μ h w w'):Marks O ν h' w' ds:=by
 refine⟨m.nodup,λr y=>⟨(m.old r y).1,qbr (m.old r y).2 f.1⟩,λr y=>?_,λr y i L F A K=>?_⟩
 ·rw[f.2 r (m.old r y).2 λi L _ F A=>m.free r y i L F A];exact m.has r y
 ·obtain⟨e1,e2,U,V,X⟩:=e;rcases Nat.lt_or_ge i h.blks.size with C | H
  ·exact m.free r y i L (V i C F) (by rw[<- U i C];exact A) K
  ·rcases X i L H (Q.dom i L A) A with h1 | ⟨j,M,hj,I,Y,Z⟩
   ·have:=(m.old r y).2;omega
   ·exact m.free r y j M I Y (Z.trans K)
def GoodX(P:Program)(O:World)(ds:List Nat)(μ:Mu)(h:AH)(w:World)(v:AV)(h':AH)(u:Value)(w':World):Prop :=
 ∃ν,VRel ν v u/\Sim P O ν h' w'/\Ext μ h w ν h'/\w.heap.size<=w'.heap.size/\∀b,b<w.heap.size->b∉ds->(∀i L,i<h.blks.size->Live h i->μ i=some L->L.block≠b)->w'.heap[b]?=w.heap[b]?
theorem GoodX.nil{μ:Mu}{h:AH}{w:World}{v:AV}{h':AH}{u:Value}{w':World}(g:GoodX P O [] μ h w v h' u w'):Good P O μ h w v h' u w':=by
 obtain⟨ν,y,A,C,F,H⟩:=g;exact⟨ν,y,A,C,F,λb I K=>H b I (by simp) K⟩
theorem GoodX.trans{μ ν:Mu}{h h1:AH}{w Q:World}{v:AV}{h':AH}{u:Value}{w':World}{ds A:List Nat}(e:Ext μ h w ν h1)(f:Frm μ h w Q)(C:∀r∈A,r∈ds\/w.heap.size<=r)(g:GoodX P O A ν h1 Q v h' u w'):GoodX P O ds μ h w v h' u w':=by
 obtain⟨ξ,Y,Z,g3,g4,g5⟩:=g;refine⟨ξ,Y,Z,e.trans g3 f.1,qbq f.1 g4,λk U F H=>(g5 k (qbr U f.1) ?_ λi L hi hl V X=>?_).trans (f.2 k U H)⟩
 ·intro hm;rcases C k hm with h1 | h1
  ·exact F h1
  ·omega
 ·obtain⟨e1,e2,e3,e4,e5⟩:=e;rcases Nat.lt_or_ge i h.blks.size with y | I
  ·exact H i L y (e4 i y hl) (by rw[<- e3 i y];exact V) X
  ·rcases e5 i L I hi V with h1 | ⟨j,M,hj,K,hM,hb⟩
   ·omega
   ·exact H j M hj K hM (hb.trans X)
def Fin(P:Program)(ro:Option Nat)(b:Frame)(todo:List Item)(a:Act)(w:World)(G:Value->World->Prop):Prop :=
 match ro with
 | none=>∀cs,∃u w' fr,G u w'/\Steps P (lone (b.atR a todo) cs w) (lone fr cs w')/\fr.fn=b.fn/\fr.leaving P w' (.returned u)
 | some _=>∀c cs,∃u w',G u w'/\Steps P (lone (b.atR a todo) (c::cs) w) (lone (c.finish u) cs w')
theorem Fin.of_steps{ro:Option Nat}{b:Frame}{todo todo':List Item}{a a':Act}{w w':World}{G:Value->World->Prop}(C:∀cs,Steps P (lone (b.atR a todo) cs w) (lone (b.atR a' todo') cs w'))(h:Fin P ro b todo' a' w' G):Fin P ro b todo a w G:=by
 cases ro with
 | none =>
  intro cs;obtain⟨u,y,fr,h1,A,F⟩:=h cs;exact⟨u,y,fr,h1,(C cs).trans A,F⟩
 | some l =>
  intro c cs;obtain⟨u,y,h1,A⟩:=h c cs;exact⟨u,y,h1,(C _).trans A⟩
theorem Fin.mono{ro:Option Nat}{b:Frame}{todo:List Item}{a:Act}{w:World}{G C:Value->World->Prop}(h:Fin P ro b todo a w G)(F:∀u w',G u w'->C u w'):Fin P ro b todo a w C:=by
 cases ro with
 | none =>
  intro cs;obtain⟨u,y,fr,h1,A⟩:=h cs;exact⟨u,y,fr,F _ _ h1,A⟩
 | some l =>
  intro c cs;obtain⟨u,y,h1,A⟩:=h c cs;exact⟨u,y,F _ _ h1,A⟩
theorem Fin.of_some{ro:Option Nat}{b:Frame}{todo todo':List Item}{a:Act}{w:World}{G:Value->World->Prop}{X:Act->World->Prop}(H:∀cs,∃a' w',X a' w'/\Steps P (lone (b.atR a todo) cs w) (lone (b.atR a' todo') cs w'))(h:∀a' w',X a' w'->Fin P ro b todo' a' w' G):Fin P ro b todo a w G:=by
 cases ro with
 | none =>
  intro cs;obtain⟨a',w',A,y⟩:=H cs;obtain⟨u,C,fr,h1,F,I⟩:=h a' w' A cs;exact⟨u,C,fr,h1,y.trans F,I⟩
 | some l =>
  intro c cs;obtain⟨a',w',A,y⟩:=H (c::cs);obtain⟨u,C,h1,F⟩:=h a' w' A c cs;exact⟨u,C,h1,y.trans F⟩
theorem k4p{fr:Frame}{cs:List Frame}{w:World}{r:Nat}{ds:List Deferred}(y:fr.mode=.returning)(A:fr.defers=mark r::ds)(C:w.heap[r]?=some (.deferred (some []))) :
  step P (lone fr cs w)=.next (lone {fr with defers:=ds} cs (w.putObj r (.deferred none))) :=
 step_lone_go (by
  have:=run_takeDeferred (P:=P) C;simp[stepG,unwind,y,A,mark,Sem.runT_eq,this])
theorem returns{fn:Func}{v:AV}{h:AH}:∀(ds:List Nat){μ:Mu}{w:World}(k:Frame),P.funcs[k.fn]?=some fn->k.kind=.normal->k.mode=.returning->
  k.defers=ds.map mark->Sim P O μ h w->Marks O μ h w ds->(∀w',Sim P O μ h w'->∃u,(results fn k.tmps).run P w'=.ok u w'/\VRel μ v u)->
  ∀cs,∃u w' y,GoodX P O ds μ h w v h u w'/\Steps P (lone k cs w) (lone y cs w')/\y.fn=k.fn/\y.leaving P w' (.returned u)
 | [],μ,w,k,A,Q,C,U,S,M,V,cs=>by
  obtain⟨u,h1,h2⟩:=V w S;exact⟨u,w,k,⟨μ,h2,S,Ext.refl _ _ _,qbp _,λ_ _ _ _=>rfl⟩,Steps.refl _ _,rfl,C,by rw[U];rfl,Q,fn,A,h1⟩
 | r::ds,μ,w,k,A,Q,C,U,S,M,V,cs=>by
  have H:=M.old r (by simp);have S':Sim P O μ h (w.putObj r (.deferred none)):=kbgt S H.1 (λi L hl hL=>M.free r (by simp) i L hl hL) _;have I:=List.nodup_cons.1 M.nodup
  have M':Marks O μ h (w.putObj r (.deferred none)) ds:=⟨I.2,λx F=>by simpa using M.old x (by simp[F]),λx F=>by
   rw[World.putObj_heap_other (λe=>I.1 (by rw[<- e];exact F))];exact M.has x (by simp[F]),λx F=>M.free x (by simp[F])⟩
  obtain⟨u,w',y,g,st,X,Y⟩:=returns ds {k with defers:=ds.map mark} A Q C rfl S' M' V cs;obtain⟨ν,g1,g2,g3,g4,g5⟩:=g;refine⟨u,w',y,⟨ν,g1,g2,?_,by simpa using g4,λb hb K hn=>?_⟩,Steps.trans (Steps.one (k4p C U (M.has r (by simp)))) st,X,Y⟩
  ·obtain⟨X,Y,e3,e4,e5⟩:=g3;exact⟨X,Y,e3,e4,λi L a b c=>by have:=e5 i L a b c;simpa using this⟩
  ·have Z:b≠r:=λe=>K (by simp[e]);rw[g5 b (by simpa using hb) (λC=>K (by simp[C])) hn,World.putObj_heap_other Z]
section steps
variable{b:Frame}{a:Act}{k:List Item}{cs:List Frame}{w:World}
theorem kbh8{body:Code}:step P (lone (b.atR a (.code (.scope body)::k)) cs w)=.next (lone (b.atR a (.code body::.inScope body::k)) cs w) :=
 step_lone_go (by simp[stepG,stepG.exec,Frame.atR])
theorem k8m{body:Code}:step P (lone (b.atR a (.inScope body::k)) cs w)=.next (lone (b.atR a k) cs w) :=
 step_lone_go (by simp[stepG,stepG.exec,Frame.atR])
end steps
def k2m(P:Program)(l:Nat)(args:Array Value)(w:World)(G:Value->World->Prop):Prop :=
 ∃f tmps as bd,(Instr.yield l args).run P w=.ok (.round l f tmps as bd) w/\∀c cs,∃u w',G u w'/\Steps P (lone (Frame.round l f tmps as bd .normal) (c::cs) w) (lone (c.finish u) cs w')
structure RecOk(P:Program)(O:World)(rec:Rec):Prop where
 fn:∀{f:FuncId}{xs:List AV}{h:AH}{v:AV}{h':AH},rec (.fn f xs) h=some (v,h')->∀{μ:Mu}{w:World}{us:List Value},Sim P O μ h w->VRels μ xs us->
  Calls P f us.toArray w (Ends (Good P O μ h w v h'))
 pt:∀{f:FuncId}{todo:List Item}{fr:Fr}{h:AH}{v:AV}{h':AH},rec (.pt f todo fr) h=some (v,h')->∀{fn:Func},P.funcs[f]?=some fn->∀{μ:Mu}{w:World}{b:Frame}{a:Act}{ds:List Nat},b.fn=f->b.kind=.normal->b.roundOf=none->a.defers=ds.map mark->Marks O μ h w ds->
  Sim P O μ h w->FRel μ fn.ntmps fr a.tmps->Fin P none b todo a w (GoodX P O ds μ h w v h')
 round:∀{l:Nat}{xs:List AV}{h:AH}{v:AV}{h':AH},rec (.round l xs) h=some (v,h')->∀{μ:Mu}{w:World}{us:List Value}{L:Loc},Sim P O μ h w->VRels μ xs us->μ l=some L->
  k2m P L.block us.toArray w (Good P O μ h w v h')
 rpt:∀{l:Nat}{f:FuncId}{todo:List Item}{fr:Fr}{h:AH}{v:AV}{h':AH},rec (.rpt l f todo fr) h=some (v,h')->∀{fn:Func},P.funcs[f]?=some fn->∀{μ:Mu}{w:World}{b:Frame}{a:Act}{L:Loc},b.fn=f->b.kind=.normal->μ l=some L->b.roundOf=some L.block->a.defers=[]->
  Sim P O μ h w->FRel μ fn.ntmps fr a.tmps->Fin P (some l) b todo a w (GoodX P O [] μ h w v h')
theorem kuf{rec:Rec}(F:RecOk P O rec){f:FuncId}{xs:List AV}{h:AH}{v:AV}{h':AH}(I:callF P rec f xs h=some (v,h')){μ:Mu}{w:World}{us:List Value}(S:Sim P O μ h w)(U:VRels μ xs us) :
  ((callFunc f us.toArray).run P w=.ok (.enter f us.toArray) w/\Calls P f us.toArray w (Ends (Good P O μ h w v h')))\/∃u,(callFunc f us.toArray).run P w=.ok (.value u) w/\Good P O μ h w v h' u w:=by
 unfold callF at I;split at I
 ·rename_i fn V;obtain⟨y,C⟩:=kef I;have A:fn.name≠ "runtime.NumGoroutine" := by simpa using y
  split at C
  ·rename_i c K
   left
   refine⟨?_,F.fn C S U⟩;simp[callFunc,V,A,K]
  ·rename_i K;obtain⟨X,H⟩:=kz C;simp only[beq_iff_eq]at X;simp only[Option.map_eq_some_iff,qcb]at H;obtain⟨x,Y,rfl,rfl⟩:=H;obtain⟨u,Z,Q⟩:=k5m V y K X Y U w;exact .inr ⟨u,Z,qd S Q⟩
 ·cases I
theorem kbb1(ts:Array TypeId)(t:TypeId)(y:Addr)(s m:ByteArray)(w:World):(Builtin.ssaWrapNilChk_ ts t #[.pointer (some y),.string s,.string m]).run P w=.ok (.pointer (some y)) w:=rfl
theorem kbap{μ:Mu}{h:AH}{w:World}(S:Sim P O μ h w){t:TypeId}{name:String}{v:AV}{u:Value}(F:VRel μ v u){R:Type}{k:FuncId->AV->Option R}{r:R}(y:kko P t name v h k=some r)(n:Nat) :
  ∃f v' C,k f v'=some r/\VRel μ v' C/\(method (n+1) t u name).run P w=.ok (f,C) w:=by
 unfold kko at y;split at y
 ·rename_i i hi;split at y
  ·rename_i m U;obtain⟨Q,y⟩:=kz y;have V:m.path.toList=[]:=by simpa using Q
   have base:∀(f:FuncId)(b:Bool),m.func=some (f,b)->(method (n+1) t u name).run P w=(do pure (f,<- receiverAt t (.val u) b (some ((name.splitOn ".").getLastD name))):Sem (FuncId×Value)).run P w:=by
    intro f b A;have H:m.path=#[]:=by simpa using Q
    simp[method,typeInfo,hi,U,H,follow,A]
   split at y
   ·rename_i f e A I _;refine⟨f,_,u,y,F,?_⟩;rw[base f true A];simp only[receiverAt,Sem.run_bind,run_underlying I,Result.andThen_ok,Place.get,Sem.run_pure]
   ·rename_i f e q A I _;simp only[VRel]at F;obtain⟨Z,X,rfl⟩:=F;obtain⟨v',C,y,K,Y⟩:=ks5 S X y;refine⟨f,v',C,y,K,?_⟩;rw[base f false A];simp only[receiverAt,Sem.run_bind,run_underlying I,Result.andThen_ok,Place.get,Sem.run_pure,strVal,kbb1,asAddr,Y]
   ·cases y
  ·cases y
 ·cases y
theorem kbes{rec:Rec}(V:RecOk P O rec){μ:Mu}{N:Nat}{fr:Fr}{h:AH}{w:World}{o:Oper}{a:Act}(S:Sim P O μ h w)(F:FRel μ N fr a.tmps){c:Call}(ho:o.op=.call c)
  {k:AV->AH->Option R} {r:R} (A:callK P rec c o.type fr h k=some r):OpOk P O μ h w o a k r:=by
 unfold callK at A;split at A
 ·cases A
 ·rename_i xs aa;have hx:=kdp F aa;have X:c.args.map a.eval=(c.args.toList.map a.eval).toArray:=by apply Array.ext';simp
  split at A
  ·rename_i b hb;obtain⟨v,h1,H,u,w',hr,g⟩:=kblc S hx A o.type (c.args.map λ| .const _=>true | _=>false);refine⟨v,h1,H,qe ?_ g⟩;rw[kl5 _ _ _ ho];simp only[resolve,hb,Sem.run_bind,Sem.run_pure,Result.andThen_ok,invoke,X];exact hr
  ·rename_i f I;split at A
   ·rename_i fv Y;simp only[qbu]at A;obtain⟨q,hq,H⟩:=A;have Z:=ksb H;obtain⟨v,h1⟩:=q;refine⟨v,h1,Z,?_⟩;have C:=kbc F Y;unfold callV at hq;split at hq
    ·rename_i g first captured
     simp only[VRel]at C;obtain⟨g',x,y,he,hg,ac,ad⟩:=C;simp only[FnRel]at hg;subst hg;have K:VRels μ (first++xs++captured) (x.toList++c.args.toList.map a.eval++y.toList):=(ac.append hx).append ad;have Q:x++c.args.map a.eval++y=(x.toList++c.args.toList.map a.eval++y.toList).toArray:=by apply Array.ext';simp
     have U:(execOp a.eval o).run P w=(callFunc g (x.toList++c.args.toList.map a.eval++y.toList).toArray).run P w:=by
      rw[kl5 _ _ _ ho,<- Q];simp only[resolve,I,he,Deferred.ofValue,Sem.run_bind,Sem.run_pure,Result.andThen_ok,invoke]
     rcases kuf V hq S K with⟨h2,h3⟩ | ⟨u,h2,g2⟩
     ·exact OpGoes.of_call (by rw[U];exact h2) h3
     ·exact qe (by rw[U];exact h2) g2
    ·cases hq
   ·cases A
  ·rename_i rc name I;split at A
   ·rename_i fv Y;simp only[qbu]at A;obtain⟨⟨ah,y⟩,hp,A⟩:=A;have C:=kbc F Y;rw[k1n hp]at C;simp only[VRel]at C;obtain⟨uu,he,hu⟩:=C;obtain⟨n,hn⟩:∃n,P.types.size+Made.depth=n+1:=⟨P.types.size+99,rfl⟩;obtain⟨g,v',u',A,ae,af⟩:=kbap S hu A n;simp only[qbu]at A;obtain⟨q,hq,H⟩:=A;have Z:=ksb H;obtain⟨v,h1⟩:=q;refine⟨v,h1,Z,?_⟩;have K:VRels μ (v'::xs) (u'::c.args.toList.map a.eval):=qc ae hx
    have U:(execOp a.eval o).run P w=(callFunc g (u'::c.args.toList.map a.eval).toArray).run P w:=by
     rw[kl5 _ _ _ ho];have Q:#[u']++c.args.map a.eval=(u'::c.args.toList.map a.eval).toArray:=by apply Array.ext';simp
     have ag:(#[a.eval rc]++c.args.map a.eval).extract 1 (#[a.eval rc]++c.args.map a.eval).size=c.args.map a.eval:=by
      apply Array.ext';simp[List.take_of_length_le]
     rw[<- Q];simp only[resolve,I,Sem.run_bind,Sem.run_pure,Result.andThen_ok,invoke,ag];have h0:(#[a.eval rc]++c.args.map a.eval)[0]?=some (a.eval rc):=by rw[Array.getElem?_append_left (by simp)];rfl
     rw[h0];simp[callMethod,he,hn,af]
    rcases kuf V hq S K with⟨h2,h3⟩ | ⟨u,h2,g2⟩
    ·exact OpGoes.of_call (by rw[U];exact h2) h3
    ·exact qe (by rw[U];exact h2) g2
   ·cases A
theorem kqx{rec:Rec}(y:RecOk P O rec){μ:Mu}{N:Nat}{fr:Fr}{h:AH}{w:World}{o:Oper}{a:Act}(S:Sim P O μ h w)(F:FRel μ N fr a.tmps)
  {k:AV->AH->Option R} {r:R} (C:opK P rec o.op o.type fr h k=some r):OpOk P O μ h w o a k r:=by
 by_cases A:∃c,o.op=.call c
 ·obtain⟨c,A⟩:=A;have:callK P rec c o.type fr h k=some r:=by rw[A]at C;exact C
  exact kbes y S F A this
 ·exact kbbd (rec:=rec) S F (λc e=>A ⟨c,e⟩) C
def After(P:Program)(O:World)(μ:Mu)(N:Nat)(h:AH)(w:World)(ds:List Deferred)(k:Fr->AH->Option (AV×AH))(r:AV×AH):Exit->Act->World->Prop:=λe a w' =>
 e=.normal/\a.defers=ds/\∃y h' ν,k y h'=some r/\Sim P O ν h' w'/\FRel ν N y a.tmps/\Ext μ h w ν h'/\Frm μ h w w'
theorem After.trans{μ ν:Mu}{N:Nat}{h h1:AH}{w A:World}{ds:List Deferred}{k:Fr->AH->Option (AV×AH)}{r:AV×AH}(e:Ext μ h w ν h1)(f:Frm μ h w A){x:Exit}{a:Act}{w':World}(g:After P O ν N h1 A ds k r x a w'):After P O μ N h w ds k r x a w':=by
 obtain⟨C,F,y,h',ξ,H,I,K,Q,U⟩:=g;exact⟨C,F,y,h',ξ,H,I,K,e.trans Q f.1,f.trans e U⟩
theorem kzy{N:Nat}{d:Option Tmp}{v:AV}{fr:Fr}{k:Fr->Option (AV×AH)}{r:AV×AH}(h:putT N d v fr k=some r){μ:Mu}{a:Act}(F:FRel μ N fr a.tmps){u:Value}(C:VRel μ v u) :
  ∃y,k y=some r/\FRel μ N y (a.put d u).tmps:=by
 rw[kiw]at h;cases d with
 | none=>exact⟨fr,h,F⟩
 | some t =>
  obtain⟨A,h⟩:=kz h;exact⟨_,h,F.put (by simpa[Nat.blt_eq]using A) C⟩
theorem put_defers(a:Act)(d:Option Tmp)(u:Value):(a.put d u).defers=a.defers:=by cases d<;>rfl
theorem k9o{o:Oper}{a:Act}{w:World}{G:Value->World->Prop}(Y:OpGoes P o a w G)(U:∀c,o.op≠.defer c){ops:Array Oper}{i:Nat}{rest:List Nat}(X:ops[i]?=some o)(Z:Region.wanted o (yielded ops a.tmps)=true)(b:Frame)(k:List Item)(cs:List Frame) :
  ∃u w',G u w'/\Steps P (lone (b.atR a (.inRegion ops (i::rest)::k)) cs w) (lone (b.atR (a.put o.dst u) (.inRegion ops rest::k)) cs w'):=by
 have h:=Y (λa' w'=>∃u,G u w'/\a'=a.put o.dst u) (λ_ _ _=>False) (λu w' g=>⟨u,g,rfl⟩);have F:=stepGR_op (P:=P) (b:=b) (k:=k) (cs:=cs) (w:=w) (rest:=rest) X Z;rw[Oper.semAt_eq _ _ _ U]at F
 have C:∀v,(b.atR a (.inRegion ops (i::rest)::k)).finish v=b.atR (a.put o.dst v) (.inRegion ops rest::k):=by
  intro v;rw[Frame.finish_atR,X];rfl
 simp only[Oper.wp,Oper.upon]at h;split at h
 ·rename_i v w' I;obtain⟨u,g,e⟩:=h;refine⟨u,w',g,Steps.one (step_lone_go ?_)⟩;rw[<- e,F,<- C];simp[stepG.apply,I]
 ·rename_i w' I;obtain⟨u,g,e⟩:=h;refine⟨u,w',g,Steps.one (step_lone_go ?_)⟩;rw[<- e,F,<- C];simp[stepG.apply,I]
 ·rename_i d w' I;obtain⟨u,g,e⟩:=h;have:=congrArg Act.defers e;rw[put_defers,put_defers]at this;simp at this
 ·rename_i f args w' I;obtain⟨e,K,fr,Q,y,_,H⟩:=h (b.atR a (.inRegion ops (i::rest)::k)::cs)
  have A:step P (lone (b.atR a (.inRegion ops (i::rest)::k)) cs w)=.next (lone (Frame.enter P f args .normal) (b.atR a (.inRegion ops (i::rest)::k)::cs) w') :=
   step_lone_go (by rw[F];simp[stepG.apply,I,Frame.atR])
  cases e with
  | returned v =>
   obtain⟨u,g,e⟩:=Q;refine⟨u,K,g,.head A (y.trans (.one ?_))⟩;rw[<- e,<- C];exact step_leave_returned H
  | panicked chain=>exact Q.elim
  | outgrown =>
   obtain⟨_,_,hq⟩:=Q;exact hq.elim
 ·rename_i V args w' I;obtain⟨v,K,Q,y⟩:=h (b.atR a (.inRegion ops (i::rest)::k)) cs
  have A:step P (lone (b.atR a (.inRegion ops (i::rest)::k)) cs w)=.next (lone (Frame.ofRow P V args .normal) (b.atR a (.inRegion ops (i::rest)::k)::cs) w') :=
   step_lone_go (by rw[F];simp[stepG.apply,I,Frame.atR])
  obtain⟨u,g,e⟩:=Q;refine⟨u,K,g,.head A ?_⟩;rw[<- e,<- C];exact y
 ·exact h.elim
 ·exact h.elim
theorem kbcp{o:Oper}{a:Act}{w:World}{G:Value->World->Prop}{c:Call}{f:Operand}{l:Nat}(y:o.op=.call c)(H:c.callee=.value f)(I:a.eval f=.func (.yield l) #[] #[])(K:k2m P l (c.args.map a.eval) w G){ops:Array Oper}{i:Nat}{rest:List Nat}(F:ops[i]?=some o)(Q:Region.wanted o (yielded ops a.tmps)=true)(b:Frame)(k:List Item)(cs:List Frame) :
  ∃u w',G u w'/\Steps P (lone (b.atR a (.inRegion ops (i::rest)::k)) cs w) (lone (b.atR (a.put o.dst u) (.inRegion ops rest::k)) cs w'):=by
 obtain⟨fn,tmps,as,bd,U,V⟩:=K;have A:=stepGR_op (P:=P) (b:=b) (k:=k) (cs:=cs) (w:=w) (rest:=rest) F Q;rw[Oper.semAt_eq _ _ _ (by rw[y];intro c;simp)]at A
 have C:∀v,(b.atR a (.inRegion ops (i::rest)::k)).finish v=b.atR (a.put o.dst v) (.inRegion ops rest::k):=by
  intro v;rw[Frame.finish_atR,F];rfl
 have X:(execOp a.eval o).run P w=.ok (.round l fn tmps as bd) w:=by
  rw[kl5 _ _ _ y];simp only[resolve,H,I,Deferred.ofValue,Sem.run_bind,Sem.run_pure,Result.andThen_ok,invoke]
  simpa using U
 obtain⟨u,w',g,st⟩:=V (b.atR a (.inRegion ops (i::rest)::k)) cs;refine⟨u,w',g,.head (m₁:=lone (Frame.round l fn tmps as bd .normal) (b.atR a (.inRegion ops (i::rest)::k)::cs) w) (step_lone_go ?_) ?_⟩
 ·rw[A];simp[stepG.apply,X]
 ·rw[<- C];exact st
theorem kbi5{o:Op}{fr:Fr}{p:Nat×List AV}(h:kj2 o fr=some p):∃c f,o=.call c/\c.callee=.value f/\evs fr c.args.toList=some p.2/\evO fr f=some (.func (.yield p.1) [] []):=by
 unfold kj2 at h;split at h
 ·rename_i c;split at h
  ·rename_i f xs y A;split at h
   ·rename_i l C;cases h;exact⟨c,f,rfl,y,A,C⟩
   ·cases h
  ·cases h
 ·cases h
theorem kbc9{rec:Rec}(ad:RecOk P O rec){N:Nat}{μ:Mu}{fr:Fr}{h:AH}{w:World}{o:Oper}{a:Act}(S:Sim P O μ h w)(F:FRel μ N fr a.tmps)
  {k:AV->AH->Option R} {r:R} (A:opM P rec o.op o.type fr h k=some r):OpOk P O μ h w o a k r/\∀c,o.op≠.defer c:=by
 have put:∀{t:TypeId}{m x v:Operand},(execOp a.eval o=do Instr.mapUpdate t (a.eval m) (a.eval x) (a.eval v);pure .skip)->(match P.underlying t,evO fr m,evO fr x,evO fr v with
  | some (.map kt _),some (.map (some i)),some (.int kd n),some val=>match P.underlying kt with
   | some (.int I)=>cond (decide (kd=I)) ((mapPut h i kd n val).bind λh'=>k (.tup []) h') none
   | _=>none
  | _,_,_,_=>none)=some r->OpOk P O μ h w o a k r:=by
  intro t m x v he A;split at A
  ·rename_i kt et i kd n val Z hm X hv;split at A
   ·rename_i I Q;obtain⟨C,U⟩:=kz A;have C:kd=I:=by simpa using C
    subst C;obtain⟨h',Y,H⟩:=qbu.1 U;have h1:=kbc F hm;have h2:=kbc F X;have h3:=kbc F hv;simp only[VRel]at h1 h2;obtain⟨L,hL,h1⟩:=h1;obtain⟨w',V,g⟩:=kbk6 S Z Q hL h3 Y;refine⟨_,h',H,OpGoes.of_skip (w':=w') ?_ g⟩;rw[he,h1,h2];simp only[Sem.run_bind,V,Result.andThen_ok,Sem.run_pure]
   ·cases A
  ·cases A
 unfold opM at A;split at A
 ·rename_i t y;refine⟨⟨_,_,A,?_⟩,by intro c;rw[y];simp⟩;obtain⟨s1,s2,s3⟩:=kw1 S (b:=.map [] 0) (n:=0) (o:=.map #[] 0) (λν aj=>⟨#[],kl9 _ _,rfl,by simp⟩);refine qf (s:=Instr.makeMap t none) (u:=.map (some w.heap.size)) (w':=w.alloc (.map #[] 0)) (by simp[execOp,y]) ?_ ⟨_,?_,s1,s2,s3⟩
  ·simp[Instr.makeMap,run_newObj_alloc,Result.andThen]
  ·simp only[VRel];exact⟨_,kfk _ _ _,rfl⟩
 ·rename_i t m x v y;exact⟨put (by simp[execOp,y]) A,by intro c;rw[y];simp⟩
 ·rename_i t m x v y;exact⟨put (by simp[execOp,y]) A,by intro c;rw[y];simp⟩
 ·rename_i t m x ok y;refine⟨?_,by intro c;rw[y];simp⟩;split at A
  ·rename_i kt et q kd n Z hm X;split at A
   ·rename_i I z Q hz;obtain⟨C,U⟩:=kz A;have C:kd=I:=by simpa using C
    subst C;obtain⟨q',Y,H⟩:=qbu.1 U;have h1:=kbc F hm;have h2:=kbc F X;simp only[VRel]at h2;obtain⟨u,V,hv⟩:=kbf7 S Z Q h1 Y hz ok;have ah:k (cond ok (.tup [q'.getD z,.bool q'.isSome]) (q'.getD z)) h=some r:=by have ai:=kdl H;cases ok<;>exact ai
    refine⟨_,h,ah,qf (s:=Instr.lookup t (a.eval m) (a.eval x) ok) (by simp[execOp,y]) ?_ (qd S hv)⟩;rw[h2];exact V
   ·cases A
  ·cases A
 ·rename_i t m x y;refine⟨?_,by intro c;rw[y];simp⟩;split at A
  ·rename_i kt et i kd n Z hm X;split at A
   ·rename_i I z Q hz;obtain⟨C,U⟩:=kz A;have C:kd=I:=by simpa using C
    subst C;obtain⟨q',Y,H⟩:=qbu.1 U;have h1:=kbc F hm;have h2:=kbc F X;simp only[VRel]at h1 h2;obtain⟨L,hL,h1⟩:=h1;obtain⟨u,w',V,g⟩:=k9x S Z Q hL hz Y;refine⟨_,_,kdl H,qf (s:=Instr.mapEntry t (a.eval m) (a.eval x)) (by simp[execOp,y]) ?_ g⟩;rw[h1,h2];exact V
   ·cases A
  ·cases A
 ·rename_i t m s v y;refine⟨?_,by intro c;rw[y];simp⟩;split at A
  ·rename_i i kd n val hm hs hv;obtain⟨h',Y,H⟩:=qbu.1 A;have h1:=kbc F hm;have h2:=kbc F hs;have h3:=kbc F hv;simp only[VRel]at h1 h2;obtain⟨L,hL,h1⟩:=h1;obtain⟨w',V,g⟩:=kbkx S (t:=t) hL (kd:=kd) h3 Y;refine⟨_,h',H,OpGoes.of_skip (w':=w') ?_ g⟩;simp only[execOp,y,h1,h2,Sem.run_bind,V,Result.andThen_ok,Sem.run_pure]
  ·cases A
 ·rename_i c y;refine⟨?_,by intro c;rw[y];simp⟩
  have bi:∀{b:Builtin}{xs:List AV}{v:AV}{h1:AH}{u:Value}{w':World},c.callee=.builtin b->evs fr c.args.toList=some xs->(∀{us:List Value},VRels μ xs us->∃u w',(builtin b c.argTypes o.type (c.args.map λ| .const _=>true | _=>false) us.toArray).run P w=.ok (.value u) w'/\Good P O μ h w v h1 u w')->OpGoes P o a w (Good P O μ h w v h1):=by
   intro b xs v h1 _ _ hb X V;have ae:c.args.map a.eval=(c.args.toList.map a.eval).toArray:=by apply Array.ext';simp
   obtain⟨u,w',V,g⟩:=V (kdp F X);refine qe ?_ g;rw[kl5 _ _ _ y];simp only[resolve,hb,Sem.run_bind,Sem.run_pure,Result.andThen_ok,invoke,ae];exact V
  split at A
  ·rename_i q t ts hb X aa;have h0:c.argTypes[0]?=some t:=by have:=congrArg (·[0]?) aa;simpa using this
   split at A
   ·rename_i kt et Z;obtain⟨n,Y,H⟩:=qbu.1 A;refine⟨_,h,H,bi (u:=undef) (w':=w) hb X λ{us} ac=>?_⟩;obtain⟨u,us',rfl,hu,K⟩:=ac.cons_inv;have:=K.nil_inv;subst this;have hl:=kbkq S (ty:=o.type) Z hu Y h0;exact⟨.int .i64 (n:Int),w,by simp[builtin,hl],qd S (by simp[VRel])⟩
   ·cases A
  ·rename_i q kd n t ts hb X aa;have h0:c.argTypes[0]?=some t:=by have:=congrArg (·[0]?) aa;simpa using this
   split at A
   ·rename_i kt et Z;split at A
    ·rename_i I Q;obtain⟨C,U⟩:=kz A;have C:kd=I:=by simpa using C
     subst C;obtain⟨h',Y,H⟩:=qbu.1 U;refine⟨_,h',H,bi (u:=undef) (w':=w) hb X λ{us} ac=>?_⟩;obtain⟨u,us',rfl,hu,K⟩:=ac.cons_inv;obtain⟨u2,ak,rfl,af,ag⟩:=K.cons_inv;have:=ag.nil_inv;subst this;simp only[VRel]at af;subst af;obtain⟨w',V,g⟩:=k9q S (ty:=o.type) Z Q hu Y h0;exact⟨_,w',by simp[builtin,V],g⟩
    ·cases A
   ·cases A
  ·rename_i q t ts hb X aa;have h0:c.argTypes[0]?=some t:=by have:=congrArg (·[0]?) aa;simpa using this
   split at A
   ·rename_i kt et Z;obtain⟨h',Y,H⟩:=qbu.1 A;refine⟨_,h',H,bi (u:=undef) (w':=w) hb X λ{us} ac=>?_⟩;obtain⟨u,us',rfl,hu,K⟩:=ac.cons_inv;have:=K.nil_inv;subst this;obtain⟨w',V,g⟩:=kbj3 S (ty:=o.type) Z hu Y h0;exact⟨_,w',by simp[builtin,V],g⟩
   ·cases A
  ·exact kqx ad S F A
 ·refine⟨kqx ad S F A,λc hc=>?_⟩;rw[hc]at A;simp[opK]at A
theorem kba6{rec:Rec}(A:RecOk P O rec){N:Nat}{μ:Mu}{fr:Fr}{h:AH}{w:World}{o:Oper}{a:Act}(S:Sim P O μ h w)(F:FRel μ N fr a.tmps){k:AV->AH->Option R}{r:R}(H:opY P rec o.op o.type fr h k=some r)
  {ops:Array Oper} {i:Nat} {rest:List Nat} (ho:ops[i]?=some o) (hw:Region.wanted o (yielded ops a.tmps)=true) (b:Frame) (K:List Item) :
  ∃v h1,k v h1=some r/\∀cs,∃u w',Good P O μ h w v h1 u w'/\Steps P (lone (b.atR a (.inRegion ops (i::rest)::K)) cs w) (lone (b.atR (a.put o.dst u) (.inRegion ops rest::K)) cs w'):=by
 unfold opY at H;split at H
 ·rename_i p hp;obtain⟨c,f,Q,hc,hx,hf⟩:=kbi5 hp;rw[qbu]at H;obtain⟨q,hq,U⟩:=H;have V:=ksb U;obtain⟨v,h1⟩:=q;refine⟨v,h1,V,λcs=>?_⟩;have I:=kbc F hf;simp only[VRel]at I;obtain⟨g',x,y,he,hg,X,Y⟩:=I;simp only[FnRel]at hg;obtain⟨L,hL,rfl⟩:=hg;have ex:x=#[]:=Array.toList_eq_nil_iff.1 X.nil_inv;have ey:y=#[]:=Array.toList_eq_nil_iff.1 Y.nil_inv;subst ex;subst ey;have:=A.round hq S (kdp F hx) hL;have C:(c.args.toList.map a.eval).toArray=c.args.map a.eval:=by apply Array.ext';simp
  rw[C]at this;exact kbcp Q hc he this ho hw b K cs
 ·obtain⟨⟨v,h1,Z,aa⟩,ac⟩:=kbc9 A S F H;exact⟨v,h1,Z,λcs=>k9o aa ac ho hw b K cs⟩
theorem kug{rec:Rec}(Q:RecOk P O rec){N:Nat}{ops:Array Oper}{k:Fr->AH->Option (AV×AH)}{r:AV×AH}:∀(is:List Nat){fr:Fr}{h:AH}{μ:Mu}{w:World}{a:Act},
  opsY P rec N ops is fr h k=some r->Sim P O μ h w->FRel μ N fr a.tmps->∀(b:Frame)(K:List Item)(cs:List Frame),∃a' w',After P O μ N h w a.defers k r .normal a' w'/\Steps P (lone (b.atR a (.inRegion ops is::K)) cs w) (lone (b.atR a' K) cs w')
 | [],fr,h,μ,w,a,A,S,F,b,K,cs=>by
  simp only[opsY]at A;exact⟨a,w,⟨rfl,rfl,fr,h,μ,A,S,F,Ext.refl _ _ _,Frm.refl _ _ _⟩,Steps.one stepR_region_end⟩
 | i::is,fr,h,μ,w,a,A,S,F,b,K,cs=>by
  simp only[opsY]at A;split at A
  ·cases A
  ·rename_i o ho
   have go:∀{fr:Fr},FRel μ N fr a.tmps->(opY P rec o.op o.type fr h λv h'=>putT N o.dst v fr λU=>opsY P rec N ops is U h' k)=some r->Region.wanted o (yielded ops a.tmps)=true->
     ∃a' w',After P O μ N h w a.defers k r .normal a' w'/\Steps P (lone (b.atR a (.inRegion ops (i::is)::K)) cs w) (lone (b.atR a' K) cs w'):=by
    intro fr F A hw;obtain⟨v,h1,aa,ac⟩:=kba6 Q S F A ho hw b K (rest:=is);obtain⟨u,w',⟨ν,g1,g2,g3,g4⟩,st⟩:=ac cs;obtain⟨U,C,F'⟩:=kzy aa (F.mono g3.2.1) g1;obtain⟨a',w2,hA,X⟩:=kug Q is C g2 F' b K cs;rw[put_defers]at hA;exact⟨a',w2,hA.trans g3 g4,st.trans X⟩
   have skip:∀{fr:Fr},FRel μ N fr a.tmps->(putT N o.dst (.tup []) fr λU=>opsY P rec N ops is U h k)=some r->Region.wanted o (yielded ops a.tmps)=false->
     ∃a' w',After P O μ N h w a.defers k r .normal a' w'/\Steps P (lone (b.atR a (.inRegion ops (i::is)::K)) cs w) (lone (b.atR a' K) cs w'):=by
    intro fr F A hw;obtain⟨U,C,F'⟩:=kzy (u:=undef) A F (by simp[VRel,undef,VRels]);obtain⟨a',w2,hA,X⟩:=kug Q is C S F' b K cs;rw[put_defers]at hA;have hs:=stepR_op_skip (P:=P) (b:=b) (a:=a) (k:=K) (cs:=cs) (w:=w) (ops:=ops) (i:=i) (rest:=is) (by simp[ho];simpa using hw);simp only[ho,qbt]at hs;exact⟨a',w2,hA,.head hs X⟩
   split at A
   ·rename_i Y;exact go F A (by simp[Region.wanted,Y])
   ·rename_i j b' Y;split at A
    ·cases A
    ·rename_i t ht;split at A
     ·rename_i c I;obtain⟨u,hu,V⟩:=F.get t _ I;simp only[VRel]at V;subst V;have hy:yielded ops a.tmps j=some c:=by simp[yielded,ht,hu]
      have y:Region.wanted o (yielded ops a.tmps)=(c==b'):=by simp[Region.wanted,Y,hy]
      have Z:FRel μ N ((t,.bool c)::fr) a.tmps:=F.learn I λ_ h=>h;rcases kck A with⟨rfl,C⟩ | ⟨rfl,C⟩
      ·rcases kck C with⟨rfl,H⟩ | ⟨rfl,H⟩
       ·exact go Z H (by rw[y];rfl)
       ·exact skip Z H (by rw[y];rfl)
      ·rcases kck C with⟨rfl,H⟩ | ⟨rfl,H⟩
       ·exact skip Z H (by rw[y];rfl)
       ·exact go Z H (by rw[y];rfl)
     ·rename_i I;obtain⟨u,hu,V⟩:=F.get t _ I;simp only[VRel]at V;obtain⟨us,rfl,_⟩:=V;have hy:yielded ops a.tmps j=none:=by simp[yielded,ht,hu]
      exact skip F A (by simp[Region.wanted,Y,hy])
     ·cases A
theorem ksk{ops:Array Oper}{Q:Exit->Act->World->Prop}(y:∀e a w,Q e a w->e=.normal):∀(is:List Nat)(a:Act)(w:World),wpOps P ops Q is a w->∃a' w',Q .normal a' w'/\a.defers.length<=a'.defers.length
 | [],a,w,h=>⟨a,w,h,qbp _⟩
 | i::rest,a,w,h=>by
  simp only[wpOps]at h
  have put:∀{a1:Act}{d:Option Tmp}{v:Value}{H:World},wpOps P ops Q rest (a1.put d v) H->a.defers.length<=a1.defers.length->∃a' w',Q .normal a' w'/\a.defers.length<=a'.defers.length:=by
   intro a1 d v H h1 U;obtain⟨a',w',q,l⟩:=ksk y rest _ _ h1;rw[put_defers]at l;exact⟨a',w',q,qbq U l⟩
  cases I:ops[i]? with
  | none =>
   simp only[I]at h;exact ksk y rest a w h
  | some o =>
   simp only[I]at h;by_cases K:Region.wanted o (yielded ops a.tmps)=true
   ·simp only[K,if_true]at h;have h:o.wp P a w (wpOps P ops Q rest) Q:=h.resolve_right λ⟨_,_,_,C⟩=>by cases y _ _ _ C
    simp only[Oper.wp,Oper.upon]at h;split at h
    ·exact put h (qbp _)
    ·exact put h (qbp _)
    ·exact put h (by simp)
    ·obtain⟨e,F,fr,A,_⟩:=h [];cases e with
     | returned v=>exact put A (qbp _)
     | panicked chain=>exact absurd (y _ _ _ A) (by intro h;cases h)
     | outgrown =>
      obtain⟨_,_,C⟩:=A;exact absurd (y _ _ _ C) (by intro h;cases h)
    ·obtain⟨v,F,A,_⟩:=h default [];exact put A (qbp _)
    ·exact absurd (y _ _ _ h) (by intro h;cases h)
    ·exact h.elim
   ·simp only[K,if_false,qcl]at h;exact put h (qbp _)
theorem kik{ops:Array Oper}{Q:Exit->Act->World->Prop}(H:∀e a w,Q e a w->e=.normal)(V:khr ops=false):∀(is:List Nat)(a:Act)(w:World),wpOps P ops Q is a w->(∀a' w',Q .normal a' w'->a'.defers.length<=a.defers.length)->∀(b:Frame)(k:List Item)(cs:List Frame),∃a' w',Q .normal a' w'/\Steps P (lone (b.atR a (.inRegion ops is::k)) cs w) (lone (b.atR a' k) cs w')
 | [],a,w,h,hl,b,k,cs=>⟨a,w,h,Steps.one stepR_region_end⟩
 | i::rest,a,w,h,hl,b,k,cs=>by
  have I:∀(d:Option Tmp)(v:Value) a' w',Q .normal a' w'->a'.defers.length<=(a.put d v).defers.length:=λd v a' w' q=>by rw[put_defers];exact hl a' w' q
  simp only[wpOps]at h;cases X:ops[i]? with
  | none =>
   simp only[X]at h;obtain⟨a',w',C,st⟩:=kik H V rest a w h hl b k cs;have hs:=stepR_op_skip (P:=P) (b:=b) (a:=a) (k:=k) (cs:=cs) (w:=w) (ops:=ops) (i:=i) (rest:=rest) (by simp[X]);simp only[X,Option.bind_none,Act.put]at hs;exact⟨a',w',C,.head hs st⟩
  | some o =>
   simp only[X]at h;by_cases hw:Region.wanted o (yielded ops a.tmps)=true
   ·simp only[hw,if_true]at h;have h:o.wp P a w (wpOps P ops Q rest) Q:=h.resolve_right λ⟨_,_,_,C⟩=>by cases H _ _ _ C
    have aa:∀c,o.op≠.defer c:=by
     intro c hc;unfold khr at V;rw[List.any_eq_false]at V;have:=V o (by rw[Array.mem_toList_iff];exact Array.mem_of_getElem? X);rw[hc]at this;exact this rfl
    have K:=stepGR_op (P:=P) (b:=b) (k:=k) (cs:=cs) (w:=w) (rest:=rest) X hw;rw[Oper.semAt_eq _ _ _ aa]at K
    have F:∀v,(b.atR a (.inRegion ops (i::rest)::k)).finish v=b.atR (a.put o.dst v) (.inRegion ops rest::k):=by
     intro v;rw[Frame.finish_atR,X];rfl
    simp only[Oper.wp,Oper.upon]at h;split at h
    ·rename_i v w' Z;obtain⟨a',U,C,st⟩:=kik H V rest _ _ h (I _ _) b k cs;refine⟨a',U,C,.head (step_lone_go ?_) st⟩;rw[K,<- F];simp[stepG.apply,Z]
    ·rename_i w' Z;obtain⟨a',U,C,st⟩:=kik H V rest _ _ h (I _ _) b k cs;refine⟨a',U,C,.head (step_lone_go ?_) st⟩;rw[K,<- F];simp[stepG.apply,Z]
    ·rename_i d w' Z;obtain⟨a',w2,q,l⟩:=ksk H rest _ _ h;have:=hl _ _ q;rw[put_defers]at l;simp only[qb1]at l;omega
    ·rename_i f args w' Z;obtain⟨e,U,fr,hR,y,_,Y⟩:=h (b.atR a (.inRegion ops (i::rest)::k)::cs)
     have A:step P (lone (b.atR a (.inRegion ops (i::rest)::k)) cs w)=.next (lone (Frame.enter P f args .normal) (b.atR a (.inRegion ops (i::rest)::k)::cs) w') :=
      step_lone_go (by rw[K];simp[stepG.apply,Z,Frame.atR])
     cases e with
     | returned v =>
      obtain⟨a',w3,C,st⟩:=kik H V rest _ _ hR (I _ _) b k cs;refine⟨a',w3,C,.head A (y.trans (.head ?_ st))⟩;rw[<- F];exact step_leave_returned Y
     | panicked chain=>exact absurd (H _ _ _ hR) (by intro h;cases h)
     | outgrown =>
      obtain⟨_,_,C⟩:=hR;exact absurd (H _ _ _ C) (by intro h;cases h)
    ·rename_i ac args w' Z;obtain⟨v,U,hR,y⟩:=h (b.atR a (.inRegion ops (i::rest)::k)) cs
     have A:step P (lone (b.atR a (.inRegion ops (i::rest)::k)) cs w)=.next (lone (Frame.ofRow P ac args .normal) (b.atR a (.inRegion ops (i::rest)::k)::cs) w') :=
      step_lone_go (by rw[K];simp[stepG.apply,Z,Frame.atR])
     obtain⟨a',w3,C,st⟩:=kik H V rest _ _ hR (I _ _) b k cs;refine⟨a',w3,C,.head A (.trans ?_ st)⟩;rw[<- F];exact y
    ·exact absurd (H _ _ _ h) (by intro h;cases h)
    ·exact h.elim
   ·simp only[hw,if_false,qcl]at h;obtain⟨a',w',C,st⟩:=kik H V rest _ _ h (I _ _) b k cs;have hs:=stepR_op_skip (P:=P) (b:=b) (a:=a) (k:=k) (cs:=cs) (w:=w) (ops:=ops) (i:=i) (rest:=rest) (by simp[X];simpa using hw);simp only[X,qbt]at hs;exact⟨a',w',C,.head hs st⟩
end Go.Ab
namespace Go.Ab
variable{P:Program}
theorem kbs{A B:Type}(c:Bool)(x y:Option A)(k:A->Option B):(cond c x y).bind k=cond c (x.bind k) (y.bind k):=by cases c<;>rfl
theorem kqo:∃g:Leaf->Option AV->Option AV,∀(l:Leaf)(x:Option AV)(R:Type)(k:AV->Option R),leafK l x k=(g l x).bind k:=by
 refine⟨λl x=>leafK l x some,λl x R k=>?_⟩;cases l<;>simp[leafK,Option.bind_assoc]
theorem kx8:∃g:(Nat->Option AV)->List Leaf->Nat->Option (List AV),∀(get:Nat->Option AV)(ls:List Leaf)(i:Nat)(R:Type)(k:List AV->Option R),kd0 get ls i k=(g get ls i).bind k:=by
 obtain⟨g,e⟩:=kqo;refine⟨λget ls i=>kd0 get ls i some,λget ls=>?_⟩
 induction ls with
 | nil=>intro i R k;simp[kd0]
 | cons l ls ih =>
  intro i R k;simp only[kd0,e];rw[Option.bind_assoc];congr 1;funext v;rw[ih (i+1) _ (λvs=>k (v::vs)),ih (i+1) _ (λvs=>some (v::vs)),Option.bind_assoc];rfl
theorem krt:∃g:Program->TypeId->Ref->AH->Option AV,∀(P:Program)(t:TypeId)(q:Ref)(h:AH)(R:Type)(k:AV->Option R),loadK P t q h k=(g P t q h).bind k:=by
 obtain⟨g,e⟩:=kqo;obtain⟨f,d⟩:=kx8;refine⟨λP t q h=>loadK P t q h some,λP t q h R k=>?_⟩;dsimp only;unfold loadK;simp only[e,d];split
 ·rw[kbs];congr 1
  ·split
   ·simp[kbs,Option.bind_assoc]
   ·rfl
  ·split
   ·simp
   ·rfl
 ·rfl
theorem kjs:∃g:Program->TypeId->AV->Option AV,∀(P:Program)(t:TypeId)(v:AV)(R:Type)(k:AV->Option R),seeK P t v k=(g P t v).bind k:=by
 obtain⟨g,e⟩:=kqo;obtain⟨f,d⟩:=kx8;refine⟨λP t v=>seeK P t v some,λP t v R k=>?_⟩;dsimp only;unfold seeK;simp only[e,d];split
 ·rw[kbs];congr 1
  ·split
   ·simp[kbs,Option.bind_assoc]
   ·rfl
  ·split
   ·simp
   ·rfl
 ·rfl
theorem k3e:∃g:Program->TypeId->AV->Option AV,∀(P:Program)(t:TypeId)(v:AV)(R:Type)(k:AV->Option R),aggK P t v k=(g P t v).bind k:=by
 obtain⟨g,e⟩:=kjs;refine⟨λP t v=>aggK P t v some,λP t v R k=>?_⟩;dsimp only;unfold aggK;simp only[e];split
 ·rw[kbs,Option.bind_assoc];simp
 ·rfl
theorem kye:∃g:Program->TypeId->AV->Option AV,∀(P:Program)(t:TypeId)(v:AV)(R:Type)(k:AV->Option R),kg4 P t v k=(g P t v).bind k:=by
 obtain⟨g,e⟩:=kjs;refine⟨λP t v=>kg4 P t v some,λP t v R k=>?_⟩;dsimp only;unfold kg4;simp only[e];split
 ·split<;>simp[Option.bind_assoc]
 ·simp
theorem kpe:∃g:Program->TypeId->AV->Option (List AV),∀(P:Program)(t:TypeId)(v:AV)(R:Type)(k:List AV->Option R),cellsK P t v k=(g P t v).bind k:=by
 refine⟨λP t v=>cellsK P t v some,λP t v R k=>?_⟩;dsimp only;unfold cellsK;split
 ·simp[kbs,Option.bind_assoc]
 ·rfl
theorem kblu:∃g:BinOp->IntKind->Int->Int->Option AV,∀(op:BinOp)(kd:IntKind)(a b:Int)(R:Type)(k:AV->Option R),intK op kd a b k=(g op kd a b).bind k:=by
 refine⟨λop kd a b=>intK op kd a b some,λop kd a b R k=>?_⟩;cases op<;>simp[intK,kbs]
theorem k0e:∃g:Program->BinOp->TypeId->AV->AV->Option AV,∀(P:Program)(op:BinOp)(t:TypeId)(x y:AV)(R:Type)(k:AV->Option R),binK P op t x y k=(g P op t x y).bind k:=by
 obtain⟨g,e⟩:=kblu;refine⟨λP op t x y=>binK P op t x y some,λP op t x y R k=>?_⟩;dsimp only;unfold binK;simp only[e];split<;>simp[kd7,kjt,kbs,Option.bind_assoc]
theorem kxd:∃g:UnOp->AV->Option AV,∀(op:UnOp)(x:AV)(R:Type)(k:AV->Option R),unK op x k=(g op x).bind k:=by
 refine⟨λop x=>unK op x some,λop x R k=>?_⟩;dsimp only;unfold unK;split<;>simp
theorem kt2:∃g:Program->(Nat->Option (Nat×TypeId))->List (Nat×AV)->List AV->Option (List AV),∀(P:Program)(place:Nat->Option (Nat×TypeId))(y:List (Nat×AV))(cells:List AV)(R:Type)(k:List AV->Option R),fillK P place y cells k=(g P place y cells).bind k:=by
 obtain⟨g,e⟩:=kpe;refine⟨λP place y cells=>fillK P place y cells some,λP place y=>?_⟩
 induction y with
 | nil=>intro cells R k;simp[fillK]
 | cons p y ih =>
  intro cells R k;obtain⟨i,v⟩:=p;simp only[fillK,e];split
  ·rfl
  ·rw[Option.bind_assoc];congr 1;funext cs;rw[kbs];congr 1;exact ih _ _ _
theorem kbfo:∃g:Fr->Option Operand->Int->Option Int,∀(fr:Fr)(x:Option Operand)(d:Int)(R:Type)(k:Int->Option R),boundK fr x d k=(g fr x d).bind k:=by
 refine⟨λfr x d=>boundK fr x d some,λfr x d R k=>?_⟩;dsimp only;unfold boundK;split
 ·rfl
 ·split<;>simp
theorem kvx:∃g:Program->TypeId->AV->Fr->Option Operand->Option Operand->Option Operand->Option AV,∀(P:Program)(t:TypeId)(x:AV)(fr:Fr)(lo hi y:Option Operand)(R:Type)(k:AV->Option R),sliceK P t x fr lo hi y k=(g P t x fr lo hi y).bind k:=by
 obtain⟨g,e⟩:=kbfo;refine⟨λP t x fr lo hi y=>sliceK P t x fr lo hi y some,λP t x fr lo hi y R k=>?_⟩;dsimp only;unfold sliceK;simp only[e];split
 ·split<;>simp[kbs,Option.bind_assoc]
 ·split<;>simp[kbs,Option.bind_assoc]
 ·split<;>simp[kbs,Option.bind_assoc]
 ·rfl
theorem kxb:∃g:Program->TypeId->TypeId->AV->Option AV,∀(P:Program)(s d:TypeId)(x:AV)(R:Type)(k:AV->Option R),kkt P s d x k=(g P s d x).bind k:=by
 refine⟨λP s d x=>kkt P s d x some,λP s d x R k=>?_⟩;dsimp only;unfold kkt;split<;>simp
theorem kx5:∃g:Program->TypeId->AV->Option AV,∀(P:Program)(t:TypeId)(x:AV)(R:Type)(k:AV->Option R),lenK P t x k=(g P t x).bind k:=by
 refine⟨λP t x=>lenK P t x some,λP t x R k=>?_⟩;dsimp only;unfold lenK;split<;>simp
abbrev pk(v:AV)(h:AH):Option (AV×AH):=some (v,h)
theorem kbh1:∃g:Program->Builtin->List TypeId->List AV->AH->Option (AV×AH),∀(P:Program)(b:Builtin)(ts:List TypeId)(xs:List AV)(h:AH)(R:Type)(k:AV->AH->Option R),kf7 P b ts xs h k=(g P b ts xs h).bind λp=>k p.1 p.2:=by
 obtain⟨g,e⟩:=kx5;obtain⟨f,d⟩:=kqo;refine⟨λP b ts xs h=>kf7 P b ts xs h pk,λP b ts xs h R k=>?_⟩;dsimp only;unfold kf7;simp only[e,d];split
 ·simp[pk,Option.bind_assoc]
 ·simp[pk]
 ·simp[pk]
 ·split<;>simp[pk,kbs,Option.bind_assoc]
 ·split<;>simp[pk,kbs,Option.bind_assoc]
 ·rfl
theorem k3w:∃g:Program->TypeId->String->AV->AH->Option (FuncId×AV),∀(P:Program)(t:TypeId)(name:String)(v:AV)(h:AH)(R:Type)(k:FuncId->AV->Option R),kko P t name v h k=(g P t name v h).bind λp=>k p.1 p.2:=by
 obtain⟨g,e⟩:=krt;refine⟨λP t name v h=>kko P t name v h λf u=>some (f,u),λP t name v h R k=>?_⟩;dsimp only;unfold kko;simp only[e]
 (repeat' split)<;>simp[kbs,Option.bind_assoc]
 all_goals (repeat' split)<;>simp[Option.bind_assoc]
theorem k9z(rec:Rec):∃g:Program->Call->TypeId->Fr->AH->Option (AV×AH),∀(P:Program)(c:Call)(ty:TypeId)(fr:Fr)(h:AH)(R:Type)(k:AV->AH->Option R),callK P rec c ty fr h k=(g P c ty fr h).bind λp=>k p.1 p.2:=by
 obtain⟨g,e⟩:=kbh1;obtain⟨f,d⟩:=kye;obtain⟨m,y⟩:=k3w;refine⟨λP c ty fr h=>callK P rec c ty fr h pk,λP c ty fr h R k=>?_⟩;dsimp only;unfold callK;simp only[e,d,y];split
 ·rfl
 ·split
  ·simp[pk,Option.bind_assoc]
  ·split<;>simp[pk,Option.bind_assoc]
  ·split<;>simp[pk,Option.bind_assoc]
theorem ki6(rec:Rec):∀(P:Program)(o:Op)(ty:TypeId)(fr:Fr)(h:AH)(R:Type)(k:AV->AH->Option R),opK P rec o ty fr h k=(opK P rec o ty fr h pk).bind λp=>k p.1 p.2:=by
 obtain⟨Y,A⟩:=kpe;obtain⟨Z,C⟩:=kt2;obtain⟨g3,F⟩:=krt;obtain⟨g4,H⟩:=k0e;obtain⟨g5,I⟩:=kxd;obtain⟨g6,K⟩:=kxb;obtain⟨g7,Q⟩:=kvx;obtain⟨g8,U⟩:=k9z rec;obtain⟨g9,V⟩:=k3e;obtain⟨X,y⟩:=kjs;intro P o ty fr h R k;cases o<;>simp only[opK,A,C,F,H,I,K,Q,U,V,y]<;>(repeat' split)<;>simp[pk,kd7,kjt,kbs,Option.bind_assoc]
theorem kv2{N:Nat}{d:Option Tmp}{v:AV}{fr:Fr}{R:Type}(k:Fr->Option R):putT N d v fr k=(putT N d v fr some).bind k:=by
 simp only[kiw];split
 ·rfl
 ·rw[kbs];rfl
@[reducible] def pf:Fr->AH->Option (Fr×AH):=λfr h=>some (fr,h)
theorem ku6(rec:Rec){N:Nat}{ops:Array Oper}{R:Type}(k:Fr->AH->Option R):∀(is:List Nat)(fr:Fr)(h:AH),opsK P rec N ops is fr h k=(opsK P rec N ops is fr h pf).bind λp=>k p.1 p.2
 | [],fr,h=>rfl
 | i::is,fr,h=>by
  have put:∀(d:Option Tmp)(v:AV)(fr:Fr)(h:AH),(putT N d v fr λy=>opsK P rec N ops is y h k)=(putT N d v fr λy=>opsK P rec N ops is y h pf).bind λp=>k p.1 p.2:=by
   intro d v fr h;rw[kv2,kv2 (λy=>opsK P rec N ops is y h pf),Option.bind_assoc];congr 1;funext y;exact ku6 rec k is y h
  have go:∀(o:Oper)(fr:Fr),(opK P rec o.op o.type fr h λv h'=>putT N o.dst v fr λy=>opsK P rec N ops is y h' k)=(opK P rec o.op o.type fr h λv h'=>putT N o.dst v fr λy=>opsK P rec N ops is y h' pf).bind λp=>k p.1 p.2:=by
   intro o fr;rw[ki6,ki6 (k:=λv h'=>putT N o.dst v fr λy=>opsK P rec N ops is y h' pf),Option.bind_assoc];congr 1;funext q;exact put _ _ _ _
  simp only[opsK];split
  ·rfl
  ·split
   ·exact go _ _
   ·split
    ·rfl
    ·split
     ·rw[kbs,kbs,kbs,go,go,put,put]
     ·exact put _ _ _ _
     ·rfl
end Go.Ab
namespace Go.Ab
variable{P:Program}
def Fr.same(fr y:Fr):Prop:=∀t,fr.get t=y.get t
theorem Fr.same.refl(fr:Fr):fr.same fr:=λ_=>rfl
@[reducible] def putd(d:Option Tmp)(v:AV)(fr:Fr):Fr:=match d with
 | none=>fr
 | some t=>(t,v)::fr
theorem get_cons(s t:Nat)(v:AV)(fr:Fr):Fr.get ((s,v)::fr) t=if s=t then some v else fr.get t:=by
 simp only[Fr.get];by_cases h:s=t
 ·subst h;simp
 ·rw[if_neg h]
  have:Nat.beq s t=false:=by
   cases y:Nat.beq s t with
   | false=>rfl
   | true=>exact absurd (Nat.eq_of_beq_eq_true y) h
  rw[this];rfl
theorem Fr.same.putd{a b:Fr}(h:a.same b)(d:Option Tmp)(v:AV):(putd d v a).same (putd d v b):=by
 intro t;cases d with
 | none=>exact h t
 | some s=>simp only[Go.Ab.putd,get_cons,h t]
theorem kjl{d:Option Tmp}{v:AV}{fr:Fr}{t:Tmp}(h:∀s,d=some s->s≠t):(putd d v fr).get t=fr.get t:=by
 cases d with
 | none=>rfl
 | some s=>simp only[putd,get_cons,if_neg (h s rfl)]
theorem kblf{x y:Option Tmp}{v u:AV}{fr:Fr}(h:∀d,x=some d->y≠some d):(putd x v (putd y u fr)).same (putd y u (putd x v fr)):=by
 intro t;cases x with
 | none=>rfl
 | some d =>
  cases y with
  | none=>rfl
  | some e =>
   have:d≠e:=λC=>h d rfl (C▸rfl);simp only[putd,get_cons];by_cases h1:d=t<;>by_cases A:e=t<;>simp[h1,A];exact absurd (h1.trans A.symm) this
theorem keg{a b:Fr}{x:Operand}(h:∀t,x=.tmp t->a.get t=b.get t):evO a x=evO b x:=by
 cases x with
 | tmp t=>exact h t rfl
 | _=>rfl
theorem kkp{a b:Fr}:∀{xs:List Operand},(∀x∈xs,evO a x=evO b x)->evs a xs=evs b xs
 | [],_=>rfl
 | x::xs,h=>by simp only[evs,h x (by simp),kkp (xs:=xs) λy A=>h y (by simp[A])]
theorem kvb{a b:Fr}{R:Type}{x:Option Operand}{d:Int}{k:Int->Option R}(h:∀y,x=some y->evO a y=evO b y):boundK a x d k=boundK b x d k:=by
 cases x with
 | none=>rfl
 | some y=>simp only[boundK,h y rfl]
theorem kj1{rec:Rec}{a b:Fr}{o:Op}{ty:TypeId}{h:AH}{R:Type}{k:AV->AH->Option R}(e:∀x∈o.operands.toList,evO a x=evO b x):opK P rec o ty a h k=opK P rec o ty b h k:=by
 cases o<;>simp only[Op.operands]at e<;>simp only[opK]
 case build t ps=>rw[kkp (a:=a) (b:=b) λx A=>e x (by simpa using A)]
 case buildSlice t n ps=>rw[kkp (a:=a) (b:=b) λx A=>e x (by simpa using A)]
 case makeFunc f first captured =>
  rw[kkp (a:=a) (b:=b) (xs:=first.toList) λx A=>e x (by simp at A|-;exact .inl A),kkp (a:=a) (b:=b) (xs:=captured.toList) λx A=>e x (by simp at A|-;exact .inr A)]
 case call c =>
  unfold callK;rw[kkp (a:=a) (b:=b) (xs:=c.args.toList) λx A=>e x (by simp only[Call.operands];simp at A|-;exact .inr A)];cases F:c.callee with
  | value f=>simp only[e f (by simp[Call.operands,F])]
  | invoke r m=>simp only[e r (by simp[Call.operands,F])]
  | builtin bb=>rfl
 case slice t x lo hi mx =>
  rw[e x (by simp)];have h1:∀(d:Int)(k:Int->Option R),boundK a lo d k=boundK b lo d k:=λd k=>kvb λy C=>e y (by subst C;simp);have H:∀(d:Int)(k:Int->Option R),boundK a hi d k=boundK b hi d k:=λd k=>kvb λy C=>e y (by subst C;simp);have I:∀(m:Operand),mx=some m->∀(d:Int)(k:Int->Option R),boundK a (some m) d k=boundK b (some m) d k:=λm K d k=>kvb λy C=>by cases C;exact e m (by subst K;simp)
  cases evO b x with
  | none=>rfl
  | some u =>
   simp only[sliceK];cases mx with
   | none=>simp only[h1,H]
   | some m=>simp only[h1,H,I m rfl]
 all_goals first
  | rfl
  | (simp at e;simp only[e])
noncomputable def valA(P:Program)(rec:Rec)(ops:Array Oper)(o:Oper)(fr:Fr)(h:AH):Option (AV×AH) :=
 match o.guard with
 | none=>opK P rec o.op o.type fr h pk
 | some (j,b)=>match ((ops[j]?).bind (·.dst))with
  | none=>none
  | some t=>match fr.get t with
   | some (.bool c)=>cond (c==b) (opK P rec o.op o.type fr h pk) (some (.tup [],h))
   | some (.tup [])=>some (.tup [],h)
   | _=>none
def fitsN(N:Nat)(d:Option Tmp):Prop:=∀t,d=some t->Nat.blt t N=true
theorem kyg{N:Nat}{d:Option Tmp}{v:AV}{fr:Fr}{R:Type}{k:Fr->Option R}{r:R}:putT N d v fr k=some r↔fitsN N d/\k (putd d v fr)=some r:=by
 simp only[kiw];cases d with
 | none=>simp[fitsN]
 | some t =>
  simp only[fitsN,qca,forall_eq'];cases y:Nat.blt t N<;>simp
theorem krh{fr:Fr}{t:Tmp}{v:AV}(h:fr.get t=some v):Fr.same ((t,v)::fr) fr:=λs=>by
 rw[get_cons];split
 ·rename_i e;subst e;exact h.symm
 ·rfl
noncomputable def step1(P:Program)(rec:Rec)(N:Nat)(ops:Array Oper)(i:Nat)(fr:Fr)(h:AH):Option (Fr×AH):=opsK P rec N ops [i] fr h pf
theorem k1r{rec:Rec}{N:Nat}{ops:Array Oper}{i:Nat}{o:Oper}(Z:ops[i]?=some o){fr:Fr}{h:AH}{C:Fr}{h1:AH} :
  step1 P rec N ops i fr h=some (C,h1)->∃v,valA P rec ops o fr h=some (v,h1)/\fitsN N o.dst/\C.same (putd o.dst v fr):=by
 intro F;simp only[step1,opsK,Z]at F
 have go:∀{A:Fr},A.same fr->(opK P rec o.op o.type A h λv h'=>putT N o.dst v A λH=>pf H h')=some (C,h1)->∃v,opK P rec o.op o.type fr h pk=some (v,h1)/\fitsN N o.dst/\C.same (putd o.dst v fr):=by
  intro A y V;rw[ki6,qbu]at V;obtain⟨⟨v,h'⟩,I,K⟩:=V;obtain⟨X,U⟩:=kyg.1 K;simp only[pf,qca,qcb]at U;obtain⟨rfl,rfl⟩:=U;rw[kj1 (b:=fr) λx _=>keg λt _=>y t]at I;exact⟨v,I,X,y.putd _ _⟩
 have skip:∀{A:Fr},A.same fr->(putT N o.dst (.tup []) A λH=>pf H h)=some (C,h1)->h1=h/\fitsN N o.dst/\C.same (putd o.dst (.tup []) fr):=by
  intro A y V;obtain⟨X,U⟩:=kyg.1 V;simp only[pf,qca,qcb]at U;obtain⟨rfl,rfl⟩:=U;exact⟨rfl,X,y.putd _ _⟩
 unfold valA;split at F
 ·rename_i Y;rw[Y];exact go (Fr.same.refl _) F
 ·rename_i j b Y;rw[Y];split at F
  ·cases F
  ·rename_i t ht;simp only[ht];split at F
   ·rename_i c Q;simp only[Q];cases c<;>cases b<;>simp only[cond_true,cond_false]at F
    ·exact go (krh Q) F
    ·obtain⟨rfl,I,K⟩:=skip (krh Q) F;exact⟨_,rfl,I,K⟩
    ·obtain⟨rfl,I,K⟩:=skip (krh Q) F;exact⟨_,rfl,I,K⟩
    ·exact go (krh Q) F
   ·rename_i Q;simp only[Q];obtain⟨rfl,I,K⟩:=skip (Fr.same.refl _) F;exact⟨_,rfl,I,K⟩
   ·cases F
theorem kpu{rec:Rec}{ops:Array Oper}{o:Oper}{a b:Fr}{h:AH}(e:∀t∈o.looksAt ops,a.get t=b.get t):valA P rec ops o a h=valA P rec ops o b h:=by
 have A:opK P rec o.op o.type a h pk=opK P rec o.op o.type b h pk:=kj1 λx C=>keg λt y=>e t (by
  subst y;exact List.mem_append_left _ (List.mem_filterMap.2 ⟨_,C,rfl⟩))
 unfold valA;cases F:o.guard with
 | none=>exact A
 | some jb =>
  obtain⟨j,b'⟩:=jb;dsimp only;cases y:(ops[j]?).bind (·.dst)with
  | none=>rfl
  | some t =>
   have:=e t (by simp[Oper.looksAt,F,y]);simp only[this,A]
theorem kqv{ops:Array Oper}{o:Oper}{a b:Fr}{i:Nat}(e:∀t∈o.looksAt ops,a.get t=b.get t):kb4 P i o.op a=kb4 P i o.op b:=by
 unfold kb4;split
 ·rename_i t x y
  rw[keg (a:=a) (b:=b) λs A=>e s (by
   subst A;exact List.mem_append_left _ (List.mem_filterMap.2 ⟨.tmp s,by rw[y];simp[Op.operands],rfl⟩))]
 ·rfl
theorem k2g{R:Type}{f g:Nat->Option AV}:∀{ls:List Leaf}{i:Nat}{k:List AV->Option R},(∀j,i<=j->j<i+ls.length->f j=g j)->kd0 f ls i k=kd0 g ls i k
 | [],i,k,h=>rfl
 | l::ls,i,k,h=>by
  simp only[kd0];rw[h i (qbp _) (by simp)];congr 1;funext v;exact k2g λj h1 y=>h j (by omega) (by simp at y|-;omega)
theorem k6u{R:Type}{t:TypeId}{r:Ref}{h h':AH}{k:AV->Option R}{d:TypeDesc}(A:P.underlying t=some d)(e:SameAt h h' r (cond (isAggD d) (P.cellsOf t) 1)):loadK P t r h' k=loadK P t r h k:=by
 unfold loadK;simp only[A];cases y:isAggD d with
 | true =>
  rw[y]at e;simp only[cond_true]at e|-;cases F:leaves P 20 t with
  | none=>rfl
  | some ls =>
   dsimp only;cases C:Nat.beq ls.length (P.cellsOf t)with
   | false=>rfl
   | true =>
    simp only[cond_true];have:=Nat.eq_of_beq_eq_true C;exact k2g λj h1 H=>e.1 j (by omega)
 | false =>
  rw[y]at e;simp only[cond_false]at e|-;have:=e.1 0 (by omega);rw[Ref.add_zero]at this;rw[this]
theorem k00{rec:Rec}{i:Nat}{o:Op}{ty:TypeId}{fr:Fr}{h:AH}{v:AV}{h1:AH}(I:nonEff o=true)(C:opK P rec o ty fr h pk=some (v,h1)) :
  h1=h/\∀A,(∀p∈kb4 P i o fr,SameAt h A p.ref p.size)->opK P rec o ty fr A pk=some (v,A):=by
 obtain⟨g1,Z⟩:=kpe;obtain⟨g2,e2⟩:=kt2;obtain⟨g3,Q⟩:=krt;obtain⟨g4,e4⟩:=k0e;obtain⟨g5,e5⟩:=kxd;obtain⟨g6,e6⟩:=kxb;obtain⟨g7,e7⟩:=kvx;obtain⟨g8,e8⟩:=kx5;obtain⟨g9,e9⟩:=k3e;obtain⟨aa,U⟩:=kjs
 have key:(∃x:Option AV,∀h,opK P rec o ty fr h pk=x.bind λv=>some (v,h))->h1=h/\∀A,(∀p∈kb4 P i o fr,SameAt h A p.ref p.size)->opK P rec o ty fr A pk=some (v,A):=by
  rintro ⟨x,X⟩
  rw[X,qbu]at C;obtain⟨u,K,F⟩:=C;simp only[qca,qcb]at F;obtain⟨rfl,rfl⟩:=F;exact⟨rfl,λA _=>by rw[X,K];rfl⟩
 have y:(∀h,opK P rec o ty fr h pk=(opK P rec o ty fr ⟨#[],#[]⟩ (λv _=>some v):Option AV).bind λv=>some (v,h))->h1=h/\∀A,(∀p∈kb4 P i o fr,SameAt h A p.ref p.size)->opK P rec o ty fr A pk=some (v,A):=λhh=>key ⟨_,hh⟩;cases o<;>simp only[nonEff]at I<;>try (cases I;done)
 case load t a =>
  simp only[opK]at C;split at C
  ·rename_i r Y;rw[Q,qbu]at C;obtain⟨u,K,F⟩:=C;simp only[pk,qca,qcb]at F;obtain⟨rfl,rfl⟩:=F;refine⟨rfl,λA hs=>?_⟩;cases V:P.underlying t with
   | none =>
    have:loadK P t r h some=none:=by unfold loadK;rw[V]
    rw[Q,K]at this;cases this
   | some d =>
    have:=hs ⟨i,r,cond (isAggD d) (P.cellsOf t) 1⟩ (by simp[kb4,Y,V]);simp only[opK,Y];rw[k6u V this,Q,K];rfl
  ·cases C
  ·cases C
 case call c =>
  split at I
  ·rename_i H;refine y λh=>?_;simp only[opK,callK,H,kf7]
   repeat' split
   all_goals first | contradiction | simp[e8,pk]
  ·rename_i H;refine y λh=>?_;simp only[opK,callK,H,kf7]
   repeat' split
   all_goals first | contradiction | simp[pk]
  ·rename_i H;refine y λh=>?_;simp only[opK,callK,H,kf7]
   repeat' split
   all_goals first | contradiction | simp[pk]
  ·cases I
 all_goals
  refine y λh=>?_;simp only[opK,Z,e2,e4,e5,e6,e7,e9,U]
  repeat' split
  all_goals simp[pk,kd7,kjt,kbs,Option.bind_assoc]
theorem kob{rec:Rec}{ops:Array Oper}{i:Nat}{o:Oper}{fr:Fr}{h:AH}{v:AV}{h1:AH}(H:nonEff o.op=true)(y:valA P rec ops o fr h=some (v,h1)) :
  h1=h/\∀A,(∀p∈kb4 P i o.op fr,SameAt h A p.ref p.size)->valA P rec ops o fr A=some (v,A):=by
 unfold valA at y|-;split at y
 ·rename_i F
  try simp only[F]
  exact k00 H y
 ·rename_i j b F
  try simp only[F]
  split at y
  ·cases y
  ·rename_i t K
   try simp only[K]
   split at y
   ·rename_i c I
    try simp only[I]
    cases C:(c==b)with
    | true =>
     rw[C]at y;exact k00 H y
    | false =>
     rw[C]at y;simp only[cond_false,qca,qcb]at y;exact⟨y.2.symm,λA _=>by simp[y.1]⟩
   ·rename_i I;simp only[qca,qcb]at y;exact⟨y.2.symm,λA _=>by simp[y.1]⟩
   ·cases y
section
variable{rec:Rec}{N:Nat}{ops:Array Oper}{an:Nat->Nat}{k:Fr->AH->Option (AV×AH)}{r:AV×AH}
theorem SameBlk.refl(h:AH):∀r,SameBlk h h r
 | .new _ _=>rfl
 | .old _=>True.intro
def chk(m:Nat)(h h':AH)(ps:List Look):Prop:=∀p∈ps,m.testBit p.at_=false->SameAt h h' p.ref p.size
def AnyA(P:Program)(rec:Rec)(N:Nat)(ops:Array Oper)(an:Nat->Nat)(k:Fr->AH->Option (AV×AH))(r:AV×AH):Nat->Array Bool->List Look->Fr->AH->Prop
 | 0,l,_,fr,h=>Region.ready .any ops l=[]/\k fr h=some r
 | n+1,l,ps,fr,h=>(Region.ready .any ops l=[]->k fr h=some r)/\∀i∈Region.ready .any ops l,∀o,ops[i]?=some o->∃v h1,valA P rec ops o fr h=some (v,h1)/\fitsN N o.dst/\
   (nonEff o.op=false->chk (an i) h h1 ps)/\AnyA P rec N ops an k r n (l.setIfInBounds i true) (cond (nonEff o.op) (kb4 P i o.op fr++ps) ps) (putd o.dst v fr) h1
theorem AnyA.same(F:∀(a b:Fr)(h:AH),a.same b->k a h=k b h):∀{n:Nat}{l:Array Bool}{ps A:List Look}{a b:Fr}{h:AH},a.same b->(∀p∈A,p∈ps)->AnyA P rec N ops an k r n l ps a h->AnyA P rec N ops an k r n l A b h
 | 0,l,ps,A,a,b,h,e,C,H=>⟨H.1,by rw[<- F _ _ _ e];exact H.2⟩
 | n+1,l,ps,A,a,b,h,e,C,H=>by
  refine⟨λh0=>by rw[<- F _ _ _ e];exact H.1 h0,λi hi o K=>?_⟩;obtain⟨v,h1,Q,U,V,X⟩:=H.2 i hi o K;refine⟨v,h1,by rw[<- kpu λt _=>e t];exact Q,U,λY p y=>V Y p (C p y),AnyA.same F (e.putd _ _) ?_ X⟩;rw[kqv (ops:=ops) (a:=b) (b:=a) λt _=>(e t).symm];intro p y;cases I:nonEff o.op with
  | true =>
   simp only[I,cond_true,qb4]at y|-;exact y.imp id (C p)
  | false =>
   simp only[I,cond_false]at y|-;exact C p y
def Closed(ops:Array Oper)(l:Array Bool):Prop:=l.size=ops.size/\∀(j:Nat)(o:Oper),l.getD j false=true->ops[j]?=some o->∀e∈o.after,Region.binds .any e=true->l.getD e.on false=true
theorem Closed.set{l:Array Bool}{i:Nat}(H:Closed ops l)(hi:i∈Region.ready .any ops l):Closed ops (l.setIfInBounds i true):=by
 refine⟨by simpa using H.1,?_⟩;intro j o I C e K Q;obtain⟨h0,oi,F,y⟩:=mem_ready.1 hi;by_cases A:i=j
 ·subst A;rw[F]at C;cases C;exact getD_set_true (y e K Q)
 ·rw[getD_set_ne false A]at I;exact getD_set_true (H.2 j o I C e K Q)
theorem chk.mono{m:Nat}{h h':AH}{ps qs:List Look}(y:∀p∈qs,p∈ps)(c:chk m h h' ps):chk m h h' qs:=λp A=>c p (y p A)
theorem AnyA.first(hk:∀(a b:Fr)(h:AH),a.same b->k a h=k b h)(Z:∀l,Closed ops l->∀j∈Region.ready .any ops l,∀i,(an j).testBit i=true->l.getD i false=true)
  {i:Nat} {oi:Oper} {vi:AV} (hi:ops[i]?=some oi) (Q:nonEff oi.op=true) (U:fitsN N oi.dst) :
  ∀(n:Nat){l:Array Bool}{ps:List Look}{fr:Fr}{h:AH},Closed ops l->(∀j F,ops[j]?=some F->j≠i->l.getD j true=false->(∀e∈F.after,Region.binds .any e=true->e.on≠i)->oi.apart ops F=true)->
   i∈Region.ready .any ops l->valA P rec ops oi fr h=some (vi,h)->AnyA P rec N ops an k r n (l.setIfInBounds i true) (kb4 P i oi.op fr++ps) (putd oi.dst vi fr) h->AnyA P rec N ops an k r (n+1) l ps fr h
 | 0,l,ps,fr,h,hc,I,hr,hv,H=>by
  refine⟨λh0=>(by rw[h0]at hr;cases hr),λj hj F A=>?_⟩;by_cases C:j=i
  ·subst C;rw[hi]at A;cases A;exact⟨vi,h,hv,U,(λhn=>by rw[Q]at hn;cases hn),by rw[Q];exact H⟩
  ·have:=ready_mono hj C;rw[H.1]at this;cases this
 | n+1,l,ps,fr,h,hc,I,hr,hv,H=>by
  refine⟨λh0=>(by rw[h0]at hr;cases hr),λj hj F A=>?_⟩;by_cases C:j=i
  ·subst C;rw[hi]at A;cases A;exact⟨vi,h,hv,U,(λhn=>by rw[Q]at hn;cases hn),by rw[Q];exact H⟩
  ·obtain⟨vj,h2,e1,e2,e3,e4⟩:=H.2 j (ready_mono hj C) F A;obtain⟨aa,ap,ac,ad⟩:=mem_ready.1 hj;rw[A]at ac;cases ac;have K:=(mem_ready.1 hr).1
   have ae:∀e∈F.after,Region.binds .any e=true->e.on≠i:=λe V hb ah=>by
    have h1:=ad e V hb;rw[ah]at h1;rcases Nat.lt_or_ge i l.size with h' | h'
    ·simp[h']at K h1;rw[K]at h1;cases h1
    ·simp[Array.getElem?_eq_none h']at h1
   obtain⟨a1,a2,a3⟩:=Oper.apart_spec (I j F A C aa ae)
   have b1:valA P rec ops F fr h=some (vj,h2):=by
    rw[<- e1];exact kpu λt ht=>(kjl λs hs V=>a1 s hs (V▸ht)).symm
   have ai:(an j).testBit i=false:=by
    cases hb:(an j).testBit i with
    | false=>rfl
    | true =>
     have:=Z l hc j hj i hb;rcases Nat.lt_or_ge i l.size with h' | h'
     ·simp[h']at K this;rw[K]at this;cases this
     ·simp[Array.getElem?_eq_none h']at this
   have b2:valA P rec ops oi (putd F.dst vj fr) h2=some (vi,h2):=by
    have:∀p∈kb4 P i oi.op fr,SameAt h h2 p.ref p.size:=by
     intro p y;cases X:nonEff F.op with
     | true =>
      have:=(kob (i:=j) X b1).1;subst this;exact⟨λ_ _=>rfl,λ_=>SameBlk.refl _ _⟩
     | false =>
      refine e3 X p (by simp[y]) ?_
      have:p.at_=i:=by
       unfold kb4 at y;split at y
       ·split at y
        ·split at y<;>simp at y;subst y;rfl
        ·simp at y
       ·simp at y
      rw[this];exact ai
    rw[kpu (b:=fr) λt ht=>kjl λs hs V=>a3 s hs (V▸ht)];exact(kob Q hv).2 h2 this
   refine⟨vj,h2,b1,e2,λX=>(e3 X).mono λp y=>by simp[y],?_⟩
   have Y:∀k' ok,ops[k']?=some ok->k'≠i->(l.setIfInBounds j true).getD k' true=false->(∀e∈ok.after,Region.binds .any e=true->e.on≠i)->oi.apart ops ok=true:=λk' ok aj ak af al=>by
    refine I k' ok aj ak ?_ al;by_cases ag:j=k'
    ·subst ag;exact aa
    ·rw[getD_set_ne true ag]at af;exact af
   refine AnyA.first hk Z hi Q U n (hc.set hj) Y (ready_mono hr (Ne.symm C)) b2 ?_;rw[Array.setIfInBounds_comm _ _ C];refine AnyA.same hk (kblf λd hd=>?_) (λp y=>?_) e4
   ·intro am;exact a2 d am hd
   ·have l1:kb4 P i oi.op (putd F.dst vj fr)=kb4 P i oi.op fr:=kqv (ops:=ops) λt ht=>kjl λs hs V=>a3 s hs (V▸ht);have l2:kb4 P j F.op (putd oi.dst vi fr)=kb4 P j F.op fr:=kqv (ops:=ops) λt ht=>kjl λs hs V=>a1 s hs (V▸ht);rw[l1]at y;rw[l2];cases hq:nonEff F.op<;>simp only[hq,cond_true,cond_false,qb4]at y|-
    ·exact y
    ·rcases y with y | y | y
     ·exact .inr (.inl y)
     ·exact .inl y
     ·exact .inr (.inr y)
def Rel(ops:Array Oper)(l:Array Bool)(m:Nat):Prop:=l.size=ops.size/\∀j,l.getD j false=m.testBit j
theorem Rel.getD_true{l:Array Bool}{m:Nat}(R:Rel ops l m){j:Nat}:l.getD j true=false↔j<ops.size/\m.testBit j=false:=by
 rw[<- R.2 j];rcases Nat.lt_or_ge j l.size with h | h
 ·simp[h,show j<ops.size from R.1▸h]
 ·simp[Array.getElem?_eq_none h,show¬j<ops.size from by have:=R.1;omega]
theorem Rel.set{l:Array Bool}{m i:Nat}(R:Rel ops l m)(hi:i<ops.size):Rel ops (l.setIfInBounds i true) (m|||1 <<< i):=by
 refine⟨by simp[R.1],λj=>?_⟩;rw[Nat.testBit_or,<- R.2 j,Nat.one_shiftLeft,Nat.testBit_two_pow];by_cases y:i=j
 ·subst y;simp[show i<l.size from R.1▸hi]
 ·rw[getD_set_ne false y];simp[y]
theorem kbfx(es:List Edge):∀(m j:Nat),(es.foldl (λm e=>cond (Region.binds .any e) (m|||1 <<< e.on) m) m).testBit j=true↔m.testBit j=true\/∃e∈es,Region.binds .any e=true/\e.on=j:=by
 induction es with
 | nil=>simp
 | cons e es ih =>
  intro m j;rw[List.foldl_cons,ih];cases y:Region.binds .any e with
  | false=>simp[y]
  | true =>
   simp only[cond_true,Nat.testBit_or,Nat.one_shiftLeft,Nat.testBit_two_pow,qb9,qbw,qb5,exists_eq_or_imp,y,true_and];constructor
   ·rintro ((h | h) | h)
    ·exact .inl h
    ·exact .inr (.inl h)
    ·exact .inr (.inr h)
   ·rintro (h | h | h)
    ·exact .inl (.inl h)
    ·exact .inl (.inr h)
    ·exact .inr h
theorem kla{o:Oper}{j:Nat}:(depsOf o).testBit j=true↔∃e∈o.after,Region.binds .any e=true/\e.on=j:=by
 unfold depsOf;rw[kbfx];simp
theorem kpj(i:Nat):(ops.toList.map depsOf)[i]?=(ops[i]?).map depsOf:=by simp
theorem k4r{d m:Nat}:Nat.beq (d&&&m) d=true↔∀j,d.testBit j=true->m.testBit j=true:=by
 constructor
 ·intro h j y;have:=Nat.eq_of_beq_eq_true h;rw[<- this,Nat.testBit_and]at y;simp at y;exact y.2
 ·intro h
  have:d&&&m=d:=Nat.eq_of_testBit_eq λj=>by
   rw[Nat.testBit_and];cases y:d.testBit j with
   | false=>rfl
   | true=>rw[h j y];rfl
  rw[this];simp
theorem kzb{l:Array Bool}{m i:Nat}(R:Rel ops l m):readyB (ops.toList.map depsOf) m i=true↔i∈Region.ready .any ops l:=by
 rw[mem_ready,R.getD_true];unfold readyB;rw[kpj];cases H:ops[i]? with
 | none=>simp
 | some o =>
  have y:i<ops.size:=(qcc.1 H).1;simp only[Option.map_some,qb8,k4r,kla,qch,y,true_and,qca,exists_eq_left'];constructor
  ·rintro ⟨h1,A⟩
   exact⟨A,λe C F=>by rw[R.2];exact h1 _ ⟨e,C,F,rfl⟩⟩
  ·rintro ⟨h1,A⟩
   exact⟨λj ⟨e,C,F,I⟩=>by rw[<- I,<- R.2];exact A e C F,h1⟩
theorem kxl{d x:Nat}:∀{as:List Nat}{i:Nat},(orBits d as i).testBit x=true->∃j a,as[j]?=some a/\d.testBit (i+j)=true/\a.testBit x=true
 | [],i,h=>by simp[orBits]at h
 | a::as,i,h=>by
  simp only[orBits]at h
  have tail:(orBits d as (i+1)).testBit x=true->∃j b,(a::as)[j]?=some b/\d.testBit (i+j)=true/\b.testBit x=true:=λh=>by
   obtain⟨j,b,h1,A,C⟩:=kxl h;exact⟨j+1,b,by simpa using h1,by rw[<- A];congr 1;omega,C⟩
  cases y:d.testBit i with
  | false=>rw[y]at h;exact tail h
  | true =>
   rw[y,cond_true,Nat.testBit_or,qb9]at h;rcases h with h | h
   ·exact⟨0,a,rfl,by simpa using y,h⟩
   ·exact tail h
theorem kzx{m:Nat}:∀(ds A:List Nat),(∀(j a d:Nat),A[j]?=some a->(ops.toList.map depsOf)[j]?=some d->(∀x,d.testBit x=true->m.testBit x=true)->∀x,a.testBit x=true->m.testBit x=true)->
  (∀(j d:Nat),m.testBit j=true->(ops.toList.map depsOf)[j]?=some d->∀x,d.testBit x=true->m.testBit x=true)->
  (∀(j d:Nat),ds[j]?=some d->(ops.toList.map depsOf)[A.length+j]?=some d)->A.length+ds.length=ops.size->
  ∀(j a d:Nat),(ancsOf A ds)[j]?=some a->(ops.toList.map depsOf)[j]?=some d->(∀x,d.testBit x=true->m.testBit x=true)->∀x,a.testBit x=true->m.testBit x=true
 | [],A,C,V,X,Y=>by simpa[ancsOf]using C
 | d0::ds,A,C,V,X,Y=>by
  simp only[ancsOf];refine kzx ds _ ?_ V (λj d H=>?_) (by simp at Y|-;omega)
  ·intro j a d H K F x I;rcases Nat.lt_trichotomy j A.length with Z | rfl | aa
   ·rw[List.getElem?_append_left Z]at H;exact C j a d H K F x I
   ·rw[List.getElem?_append_right (qbp _)]at H;simp at H;have e0:=X 0 d0 (by simp);rw[Nat.add_zero,K]at e0;cases e0;rw[<- H,Nat.testBit_or,qb9]at I;rcases I with I | I
    ·exact F x I
    ·obtain⟨y,b,h1,h2,h3⟩:=kxl I;rw[Nat.zero_add]at h2;have hm:=F y h2
     have hy:y<A.length:=by
      rcases Nat.lt_or_ge y A.length with h | h
      ·exact h
      ·rw[List.getElem?_eq_none h]at h1;cases h1
     have:∃U,(ops.toList.map depsOf)[y]?=some U:=⟨_,qb3 (by simp at Y|-;omega)⟩;obtain⟨U,Q⟩:=this;exact C y b U h1 Q (V y U hm Q) x h3
   ·rw[List.getElem?_eq_none (by simp;omega)]at H;cases H
  ·have:=X (j+1) d (by simpa using H);rw[<- this];congr 1;simp;omega
theorem Rel.closed{l:Array Bool}{m:Nat}(R:Rel ops l m)(C:Closed ops l):∀j d,m.testBit j=true->(ops.toList.map depsOf)[j]?=some d->∀x,d.testBit x=true->m.testBit x=true:=by
 intro j d F y x H;rw[kpj]at y;cases A:ops[j]? with
 | none=>rw[A]at y;cases y
 | some o =>
  rw[A]at y;simp only[Option.map_some,qca]at y;subst y;obtain⟨e,I,K,rfl⟩:=kla.1 H;rw[<- R.2];exact C.2 j o (by rw[R.2];exact F) A e I K
def maskOf(l:List Bool):Nat:=match l with
 | []=>0
 | b::bs=>cond b 1 0+2*maskOf bs
theorem k0q:∀(l:List Bool)(j:Nat),(maskOf l).testBit j=(l[j]?).getD false
 | [],j=>by simp[maskOf]
 | b::bs,0=>by
  simp only[maskOf,Nat.testBit_zero];cases b<;>simp<;>omega
 | b::bs,j+1=>by
  simp only[maskOf,Nat.testBit_succ];have:(cond b 1 0+2*maskOf bs)/2=maskOf bs:=by cases b<;>simp<;>omega
  rw[this,k0q bs j];simp
theorem kbkv{l:Array Bool}(y:l.size=ops.size):Rel ops l (maskOf l.toList):=⟨y,λj=>by rw[k0q];simp⟩
theorem anc_ok:∀l,Closed ops l->∀j∈Region.ready .any ops l,∀i,(((ancsOf [] (ops.toList.map depsOf))[j]?).getD 0).testBit i=true->l.getD i false=true:=by
 intro l I j y i C;have R:=kbkv I.1;cases F:(ancsOf [] (ops.toList.map depsOf))[j]? with
 | none=>rw[F]at C;simp at C
 | some a =>
  rw[F,Option.getD_some]at C;obtain⟨h0,o,K,A⟩:=mem_ready.1 y;rw[R.2];refine kzx (m:=maskOf l.toList) (ops.toList.map depsOf) [] (λj a d y=>by simp at y) (R.closed I) (λj d y=>by simpa using y) (by simp) j a (depsOf o) F (by rw[kpj,K];rfl) ?_ i C;intro x Q;obtain⟨e,U,H,rfl⟩:=kla.1 Q;rw[<- R.2];exact A e U H
theorem ku5{m:Nat}{h h':AH}{R:Type}{x:Option R}{res:R}:∀{ps:List Look},checkP m h h' x ps=some res->chk m h h' ps/\x=some res
 | [],A=>⟨λp I=>by simp at I,A⟩
 | p::ps,A=>by
  simp only[checkP]at A;cases F:m.testBit p.at_ with
  | true =>
   rw[F]at A;obtain⟨h1,H⟩:=ku5 A;refine⟨λq C y=>?_,H⟩;rcases qb5.1 C with rfl | C
   ·rw[F]at y;cases y
   ·exact h1 q C y
  | false =>
   rw[F]at A;simp only[cond_false,whenK]at A;split at A
   ·rename_i K;obtain⟨h1,H⟩:=ku5 A;refine⟨λq C y=>?_,H⟩;rcases qb5.1 C with rfl | C
    ·exact K
    ·exact h1 q C y
   ·cases A
theorem k0j{R:Type}{i:Nat}{fr:Fr}{h:AH}{A:Fr->AH->Option R}{res:R}(C:opsK P rec N ops [i] fr h A=some res):∃y h1,step1 P rec N ops i fr h=some (y,h1)/\A y h1=some res:=by
 rw[ku6,qbu]at C;obtain⟨⟨y,h1⟩,F,H⟩:=C;exact⟨y,h1,F,H⟩
@[reducible] def anOf(ops:Array Oper):Nat->Nat:=λj=>((ancsOf [] (ops.toList.map depsOf))[j]?).getD 0
theorem kp1(U:∀(a b:Fr)(h:AH),a.same b->k a h=k b h):∀(c:List Nat){l:Array Bool}{m:Nat}{ps:List Look}{fr:Fr}{h:AH},Rel ops l m->Closed ops l->
  opsD P rec N ops (ops.toList.map depsOf) (ancsOf [] (ops.toList.map depsOf)) c m ps fr h k=some r->AnyA P rec N ops (anOf ops) k r c.length l ps fr h
 | [],l,m,ps,fr,h,R,Y,y=>by
  simp only[opsD]at y;cases C:Nat.beq m (2^ops.size-1)with
  | false=>rw[C]at y;cases y
  | true =>
   rw[C]at y;have hm:=Nat.eq_of_beq_eq_true C;refine⟨?_,y⟩;cases hr:Region.ready .any ops l with
   | nil=>rfl
   | cons j js =>
    have Q:j∈Region.ready .any ops l:=by rw[hr];simp
    obtain⟨h0,-⟩:=mem_ready.1 Q;obtain⟨h1,h2⟩:=R.getD_true.1 h0;rw[hm,Nat.testBit_two_pow_sub_one]at h2;simp[h1]at h2
 | i::c,l,m,ps,fr,h,R,Y,y=>by
  simp only[opsD]at y;split at y
  ·rename_i o an V aa;have X:i<ops.size:=(qcc.1 V).1;cases C:readyB (ops.toList.map depsOf) m i with
   | false=>rw[C]at y;cases y
   | true =>
    rw[C,cond_true]at y;have hi:=(kzb R).1 C;cases A:nonEff o.op with
    | true =>
     rw[A,cond_true]at y;cases F:freeB ops (ops.toList.map depsOf) m i o with
     | false=>rw[F]at y;cases y
     | true =>
      rw[F,cond_true]at y;obtain⟨ac,h1,e1,e2⟩:=k0j y;obtain⟨v,Z,e4,e5⟩:=k1r V e1;obtain⟨rfl,-⟩:=kob (i:=i) A Z;have IH:=kp1 U c (R.set X) (Y.set hi) e2;refine AnyA.first U anc_ok V A e4 c.length Y ?_ hi Z (IH.same U e5 λp hp=>hp);intro j oj Q H ad ae;have I:j<ops.size:=(qcc.1 Q).1;have:=List.all_eq_true.1 F j (qck.2 I);rw[kpj,Q]at this;simp only[Option.map_some,qb9]at this;rcases this with((h1 | h1) | h1) | h1
      ·exact absurd (Nat.eq_of_beq_eq_true h1) H
      ·rw[(R.getD_true.1 ad).2]at h1;cases h1
      ·obtain⟨e,he,af,ag⟩:=kla.1 h1;exact absurd ag (ae e he af)
      ·exact h1
    | false =>
     rw[A,cond_false]at y;cases F:onlyB ops.size (ops.toList.map depsOf) m i with
     | false=>rw[F]at y;cases y
     | true =>
      rw[F,cond_true]at y;obtain⟨ac,h1,e1,e2⟩:=k0j y;obtain⟨v,Z,e4,e5⟩:=k1r V e1;obtain⟨e6,e7⟩:=ku5 e2;have IH:=kp1 U c (R.set X) (Y.set hi) e7;refine⟨λh0=>(by rw[h0]at hi;cases hi),λj Q oj K=>?_⟩
      have H:j=i:=by
       have I:j<ops.size:=(qcc.1 K).1;have:=List.all_eq_true.1 F j (qck.2 I);simp only[qb9]at this;rcases this with h1 | h1
       ·exact Nat.eq_of_beq_eq_true h1
       ·rw[(kzb R).2 Q]at h1;cases h1
      subst H;rw[V]at K;cases K;refine⟨v,h1,Z,e4,λ_=>by rw[anOf,aa];exact e6,?_⟩;rw[A];exact IH.same U e5 λp hp=>hp
  ·cases y
theorem kbck(H:∀(a b:Fr)(h:AH),a.same b->k a h=k b h){y:List Nat}{fr:Fr}{h:AH}(A:drawK P rec N ops y fr h k=some r) :
  AnyA P rec N ops (anOf ops) k r ops.size (Array.replicate ops.size false) [] fr h:=by
 unfold drawK at A;cases C:Nat.beq y.length ops.size with
 | false=>rw[C]at A;cases A
 | true =>
  rw[C,cond_true]at A
  have:=kp1 (l:=Array.replicate ops.size false) H y ⟨by simp,λj=>by simp[Array.getElem?_replicate];split<;>rfl⟩ ⟨by simp,λj o F=>by
   rw[Array.getD_eq_getD_getElem?,Array.getElem?_replicate]at F;split at F<;>simp at F⟩ A
  rw[Nat.eq_of_beq_eq_true C]at this;exact this
end
section
variable{O:World}
theorem AnyA.sound{rec:Rec}(Q:RecOk P O rec){N:Nat}{ops:Array Oper}{an:Nat->Nat}{k:Fr->AH->Option (AV×AH)}{r:AV×AH}{μ0:Mu}{h0:AH}{w0:World}:∀(n:Nat){l:Array Bool}{ps:List Look}{fr:Fr}{h:AH}{μ:Mu}{w:World}{a:Act},
  AnyA P rec N ops an k r n l ps fr h->Sim P O μ h w->FRel μ N fr a.tmps->Ext μ0 h0 w0 μ h->Frm μ0 h0 w0 w->wpAny P .any ops (After P O μ0 N h0 w0 a.defers k r) n l a w
 | 0,l,ps,fr,h,μ,w,a,H,S,F,E,M=>⟨H.1,rfl,rfl,fr,h,μ,H.2,S,F,E,M⟩
 | n+1,l,ps,fr,h,μ,w,a,H,S,F,E,M=>by
  refine⟨λhr=>⟨rfl,rfl,fr,h,μ,H.1 hr,S,F,E,M⟩,λi hi=>?_⟩;obtain⟨-,o,ho,-⟩:=mem_ready.1 hi;obtain⟨v,h1,y,e2,-,e3⟩:=H.2 i hi o ho;unfold wpOp;simp only[ho]
  have put:∀{ν:Mu}{u:Value}{h1:AH}{V:World},FRel ν N fr a.tmps->VRel ν v u->Sim P O ν h1 V->Ext μ0 h0 w0 ν h1->Frm μ0 h0 w0 V->AnyA P rec N ops an k r n (l.setIfInBounds i true) (cond (nonEff o.op) (kb4 P i o.op fr++ps) ps) (putd o.dst v fr) h1->
    wpAny P .any ops (After P O μ0 N h0 w0 a.defers k r) n (l.setIfInBounds i true) (a.put o.dst u) V:=by
   intro ν u h1 V F' hv S' E' M' H'
   have F2:FRel ν N (putd o.dst v fr) (a.put o.dst u).tmps:=by
    cases hd:o.dst with
    | none=>exact F'
    | some t =>
     have:=e2 t hd;exact F'.put (by simpa[Nat.blt_eq]using this) hv
   have:=AnyA.sound Q n (a:=a.put o.dst u) H' S' F2 E' M';rw[Go.Ab.put_defers]at this;exact this
  have go:opK P rec o.op o.type fr h pk=some (v,h1)->Region.wanted o (yielded ops a.tmps)=true->
    (if Region.wanted o (yielded ops a.tmps)=true then o.wp P a w (wpAny P .any ops (After P O μ0 N h0 w0 a.defers k r) n (l.setIfInBounds i true)) (After P O μ0 N h0 w0 a.defers k r)\/(o.asks P a w/\LetsOut (After P O μ0 N h0 w0 a.defers k r))else wpAny P .any ops (After P O μ0 N h0 w0 a.defers k r) n (l.setIfInBounds i true) (a.put o.dst undef) w):=by
   intro Y Z;rw[if_pos Z]
   left
   obtain⟨v',ac,U,aa⟩:=kqx Q S F Y;simp only[pk,qca,qcb]at U;obtain⟨rfl,rfl⟩:=U;refine aa _ _ λu w' ⟨ν,g1,g2,g3,g4⟩=>?_;exact put (F.mono g3.2.1) g1 g2 (E.trans g3 M.1) (M.trans E g4) e3
  have skip:v=.tup []->h1=h->Region.wanted o (yielded ops a.tmps)=false->
    (if Region.wanted o (yielded ops a.tmps)=true then o.wp P a w (wpAny P .any ops (After P O μ0 N h0 w0 a.defers k r) n (l.setIfInBounds i true)) (After P O μ0 N h0 w0 a.defers k r)\/(o.asks P a w/\LetsOut (After P O μ0 N h0 w0 a.defers k r))else wpAny P .any ops (After P O μ0 N h0 w0 a.defers k r) n (l.setIfInBounds i true) (a.put o.dst undef) w):=by
   rintro rfl rfl Z
   rw[if_neg (by rw[Z];simp)];exact put (u:=undef) F (by simp[VRel,undef,VRels]) S E M e3
  unfold valA at y;split at y
  ·rename_i X;exact go y (by simp[Region.wanted,X])
  ·rename_i j b X;split at y
   ·cases y
   ·rename_i t ht;split at y
    ·rename_i c A;obtain⟨u,hu,C⟩:=F.get t _ A;simp only[VRel]at C;subst C;have hy:yielded ops a.tmps j=some c:=by simp[yielded,ht,hu]
     have I:Region.wanted o (yielded ops a.tmps)=(c==b):=by simp[Region.wanted,X,hy]
     cases K:(c==b)with
     | true=>rw[K]at y;exact go y (I.trans K)
     | false =>
      rw[K]at y;simp only[cond_false,qca,qcb]at y;exact skip y.1.symm y.2.symm (I.trans K)
    ·rename_i A;obtain⟨u,hu,C⟩:=F.get t _ A;simp only[VRel]at C;obtain⟨us,rfl,_⟩:=C;have hy:yielded ops a.tmps j=none:=by simp[yielded,ht,hu]
     simp only[qca,qcb]at y;exact skip y.1.symm y.2.symm (by simp[Region.wanted,X,hy])
    ·cases y
theorem kbb9{rec:Rec}(A:RecOk P O rec){N:Nat}{ops:Array Oper}{y:List Nat}{fr:Fr}{h:AH}{k:Fr->AH->Option (AV×AH)}{r:AV×AH}(C:∀(a b:Fr)(h:AH),a.same b->k a h=k b h)
  (H:drawK P rec N ops y fr h k=some r) {μ:Mu} {w:World} {a:Act} (S:Sim P O μ h w) (F:FRel μ N fr a.tmps):wpAny P .any ops (After P O μ N h w a.defers k r) ops.size (Array.replicate ops.size false) a {w with drawn:=w.drawn+1} :=
 (kbck C H).sound A _ (S.drew) F (Ext.refl _ _ _) ⟨qbp _,λ_ _ _=>rfl⟩
end
theorem kfx(N:Nat):∀(fr:Fr)(t:Nat),(fr.low N).get t=if t<N then fr.get t else none
 | [],t=>by simp[Fr.low,Fr.get]
 | (s,v)::fr,t=>by
  have ih:=kfx N fr t;unfold Fr.low at ih|-;rw[List.filter_cons];dsimp only;cases y:Nat.blt s N with
  | true =>
   have A:s<N:=by simpa[Nat.blt_eq]using y
   simp only[if_true,get_cons,ih];by_cases h:s=t
   ·subst h;simp[A]
   ·simp only[if_neg h]
  | false =>
   have A:¬s<N:=by
    intro h;rw[show Nat.blt s N=true from by simpa[Nat.blt_eq]using h]at y;cases y
   simp only[qcl,if_false,get_cons,ih];by_cases h:s=t
   ·subst h;simp[A]
   ·simp only[if_neg h]
theorem Fr.same.low{a b:Fr}(h:a.same b)(N:Nat):(a.low N).same (b.low N):=λt=>by rw[kfx,kfx,h t]
theorem kbg0{N:Nat}{d:Option Tmp}{v:AV}{fr:Fr}(y:fitsN N d):((Go.Ab.putd d v fr).low N)=Go.Ab.putd d v (fr.low N):=by
 cases d with
 | none=>rfl
 | some t =>
  have:=y t rfl;show((t,v)::fr).filter _=_;rw[List.filter_cons];dsimp only;rw[this];rfl
theorem k6p{rec:Rec}{μ:Mu}{N:Nat}{fr:Fr}{h:AH}{w:World}{o:Oper}{a:Act}(F:FRel μ N fr a.tmps){t:TypeId}{n:Nat}{y:Array (Nat×Operand)}(ho:o.op=.buildSlice t n y){v:AV}{h1:AH}
  (C:opK P rec o.op o.type fr h pk=some (v,h1)):∃cs e us,h1=h.alloc (.cells cs e)/\VRels μ cs us/\cs.all AV.one=true/\OpGoes P o a w λu w'=>VRel (Mu.set μ h.blks.size ⟨w.heap.size,0,us.length⟩) v u/\w'=w.alloc (.cells us.toArray e):=by
 obtain⟨dst,op,type,pos,H,guard⟩:=o;dsimp only at C ho;subst ho;simp only[opK]at C;have Z:execOp a.eval ⟨dst,.buildSlice t n y,type,pos,H,guard⟩=(do pure (.value (<- Instr.buildSlice t n (y.map λ(i,x)=>(i,a.eval x))))):=rfl
 have K:(y.map λ(i,x)=>(i,a.eval x)).toList=(y.toList.map (·.1)).zip ((y.toList.map (·.2)).map a.eval):=by
  simp only[Array.toList_map,List.map_map];generalize y.toList=l
  induction l with
  | nil=>rfl
  | cons p l ih=>simp[ih]
 split at C
 ·rename_i vs e Q hd;split at C
  ·rename_i zs hz;obtain⟨hb,aa⟩:=kz C;simp only[qb8]at hb;have af:n*P.cellsOf e<=16777216:=Nat.le_of_ble_eq_true hb.1;have ag:zs.length=P.cellsOf e:=Nat.eq_of_beq_eq_true hb.2;obtain⟨z,ti,U,ac,h2,h3⟩:=kjk (μ:=μ) hz;have ad:z.cells.size=P.cellsOf e:=by have:=h2.length;simp at this;omega
   have A:=(kdp F Q).length;simp only[qb0]at A;have m1:((y.toList.map (·.1)).zip vs).map (·.1)=y.toList.map (·.1):=List.map_fst_zip (by rw[qb0];exact Nat.le_of_eq A);have m2:((y.toList.map (·.1)).zip vs).map (·.2)=vs:=List.map_snd_zip (by rw[qb0];exact Nat.le_of_eq A.symm)
   have V:((Array.range (n*P.cellsOf e)).map (z.cells[· % z.cells.size]!)).toList=(List.replicate n z.cells.toList).flatten:=by
    by_cases h0:P.cellsOf e=0
    ·have:z.cells.toList=[]:=by apply List.eq_nil_of_length_eq_zero;rw[Array.length_toList];omega
     rw[h0,this];simp[Array.range_zero']
    ·rw[<- ad];exact ksv n z.cells (by omega)
   obtain⟨cs,out,I,X,f2,f3,f4⟩:=knj (μ:=μ) (rp:=λi=>some (i*P.cellsOf e,P.cellsOf e)) (λi off t' hi=>by simp at hi|-;exact⟨hi.1,by rw[hi.2]⟩) aa (us:=(y.toList.map (·.2)).map a.eval) (arr:=(Array.range (n*P.cellsOf e)).map (z.cells[· % z.cells.size]!))
    (by rw[m2];exact kdp F Q) (by rw[V,kol];exact h2.rep n) (kte h3 n)
   rw[m1,<- K]at X;simp only[pk,qca,qcb]at I;refine⟨cs,e,out.toList,I.2.symm,f2,f3,qf Z (w':=w.alloc (.cells out e)) (u:=.slice (some ⟨w.heap.size,0,none⟩) n n) ?_ ⟨by rw[<- I.1];exact kwp rfl n,by simp⟩⟩;have hs:(sizeOf e).run P w=.ok (P.cellsOf e) w:=by simp[sizeOf,typeInfo,U,Program.cellsOf]
   have Y:¬(16777216<n*P.cellsOf e):=by omega
   by_cases h0:n*P.cellsOf e=0
   ·have ae:∀f g:Nat->Value,(Array.range (n*P.cellsOf e)).map f=(Array.range (n*P.cellsOf e)).map g:=λf g=>by rw[h0];simp[Array.range_zero']
    rw[ae (z.cells[· % z.cells.size]!) ((#[]:Array Value)[· % (#[]:Array Value).size]!)]at X;simp only[Instr.buildSlice,Sem.run_bind,run_underlying hd,Result.andThen_ok,hs,Sem.run_ite,if_neg Y,h0,if_true,Sem.run_pure];rw[h0]at X;simp only[X,newRow,Sem.run_bind,run_newObj,Result.andThen_ok,Sem.run_pure];rfl
   ·simp only[Instr.buildSlice,Sem.run_bind,run_underlying hd,Result.andThen_ok,hs,Sem.run_ite,if_neg Y,if_neg h0,zeroValue,typeInfo,run_program,U,ac,Sem.run_pure,X,newRow,run_newObj];rfl
  ·cases C
 ·cases C
theorem kbez{rec:Rec}{μ:Mu}{N:Nat}{fr:Fr}{h:AH}{w:World}{o:Oper}{a:Act}(F:FRel μ N fr a.tmps)(Q:layB o.op=true){v:AV}{h1:AH}
  (y:opK P rec o.op o.type fr h pk=some (v,h1)):∃cs e us,h1=h.alloc (.cells cs e)/\VRels μ cs us/\cs.all AV.one=true/\OpGoes P o a w λu w'=>VRel (Mu.set μ h.blks.size ⟨w.heap.size,0,us.length⟩) v u/\w'=w.alloc (.cells us.toArray e):=by
 have A:(∃t,o.op=.alloc t)\/(∃t x,o.op=.box t x)\/∃t n ps,o.op=.buildSlice t n ps:=by
  revert Q;cases o.op<;>simp[layB]
 rcases A with⟨t,A⟩ | ⟨t,x,A⟩ | ⟨t,n,ps,A⟩
 ·obtain⟨dst,op,type,pos,C,guard⟩:=o;dsimp only at y A;subst A;simp only[opK]at y;split at y
  ·rename_i zs U;simp only[pk,qca,qcb]at y;obtain⟨z,H,I,K⟩:=kya (μ:=μ) U w;refine⟨zs,t,_,y.2.symm,I,K,qf (s:=Instr.alloc t true (.tuple #[])) rfl (w':=w.alloc (.cells _ t)) (u:=.pointer (some ⟨w.heap.size,0,none⟩)) ?_ ⟨?_,rfl⟩⟩
   ·simp[Instr.alloc,H,newVar,newRow]
   ·rw[<- y.1];simp only[VRel];exact⟨_,⟨_,kfk _ _ _,by simp⟩,rfl⟩
  ·cases y
 ·obtain⟨dst,op,type,pos,C,guard⟩:=o;dsimp only at y A;subst A;simp only[opK]at y;rw[qbu]at y;obtain⟨v',V,y⟩:=y;obtain⟨cs,y,H,I,K,_⟩:=kp9 y (kbc F V);simp only[pk,qca,qcb]at y;refine⟨cs,t,_,y.2.symm,H,I,qf (s:=Instr.box t (a.eval x)) rfl (w':=w.alloc (.cells _ t)) (u:=.pointer (some ⟨w.heap.size,0,none⟩)) ?_ ⟨?_,rfl⟩⟩
  ·simp[Instr.box,newVar,newRow]
  ·rw[<- y.1];simp only[VRel];exact⟨_,⟨_,kfk _ _ _,by simp⟩,rfl⟩
 ·exact k6p F A y
theorem k8u{rec:Rec}{fr:Fr}{h:AH}{o:Op}{ty:TypeId}(C:layB o=true){v:AV}{h1:AH}(y:opK P rec o ty fr h pk=some (v,h1)):∃cs e,h1=h.alloc (.cells cs e):=by
 have F:(∃t,o=.alloc t)\/(∃t x,o=.box t x)\/∃t n ps,o=.buildSlice t n ps:=by
  revert C;cases o<;>simp[layB]
 rcases F with⟨t,rfl⟩ | ⟨t,x,rfl⟩ | ⟨t,n,ps,rfl⟩
 ·simp only[opK]at y;split at y
  ·simp only[pk,qca,qcb]at y;exact⟨_,_,y.2.symm⟩
  ·cases y
 ·simp only[opK]at y;rw[qbu]at y;obtain⟨v',H,y⟩:=y;obtain⟨g,e⟩:=kpe;rw[e,qbu]at y;obtain⟨cs,_,y⟩:=y;simp only[pk,qca,qcb]at y;exact⟨_,_,y.2.symm⟩
 ·simp only[opK]at y;split at y
  ·split at y
   ·obtain⟨I,A⟩:=kz y;obtain⟨g,e⟩:=kt2;rw[e,qbu]at A;obtain⟨cs,_,A⟩:=A;simp only[pk,qca,qcb]at A;exact⟨_,_,A.2.symm⟩
   ·cases y
  ·cases y
theorem AnyA.final{rec:Rec}{N:Nat}{ops:Array Oper}{an:Nat->Nat}{k:Fr->AH->Option (AV×AH)}{r:AV×AH}:∀(n:Nat){l:Array Bool}{ps:List Look}{fr:Fr}{h:AH},AnyA P rec N ops an k r n l ps fr h->
  ∃y h',k y h'=some r/\∀t,(∀j o,ops[j]?=some o->l.getD j false=false->o.dst≠some t)->y.get t=fr.get t
 | 0,l,ps,fr,h,H=>⟨fr,h,H.2,λ_ _=>rfl⟩
 | n+1,l,ps,fr,h,H=>by
  by_cases Q:Region.ready .any ops l=[]
  ·exact⟨fr,h,H.1 Q,λ_ _=>rfl⟩
  ·obtain⟨i,hi⟩:=List.exists_mem_of_ne_nil _ Q;obtain⟨C,o,U,-⟩:=mem_ready.1 hi
   have A:l.getD i false=false:=by
    rw[Array.getD_eq_getD_getElem?]at C|-;cases X:l[i]? with
    | none=>rfl
    | some b=>rw[X]at C;simpa using C
   obtain⟨v,h1,e1,e2,ec,Y⟩:=H.2 i hi o U;obtain⟨y,h',Z,k2⟩:=AnyA.final n Y;refine⟨y,h',Z,λt V=>?_⟩
   rw[k2 t λj oj I hl=>V j oj I (by
    by_cases F:i=j
    ·subst F;exact A
    ·rwa[getD_set_ne false F]at hl),kjl]
   intro s hs K;exact V i o U A (by rw[hs,K])
section
variable{O:World}{N:Nat}{ops0 ops:Array Oper}{J:Nat->Option (Nat×TypeId×List AV×AV)}{fp:Fr}
def Laid(P:Program)(o:Oper)(fp:Fr)(j:Nat)(t:TypeId)(zs:List AV)(v:AV):Prop:=∃(rec:Rec)(h:AH),opK P rec o.op o.type fp h pk=some (v,h.alloc (.cells zs t))/\h.blks.size=j
structure ResOps(P:Program)(N:Nat)(ops0 ops:Array Oper)(J:Nat->Option (Nat×TypeId×List AV×AV))(fp:Fr):Prop where
 size:ops.size=ops0.size
 same:∀i,J i=none->ops[i]?=ops0[i]?
 res:∀i j t zs v,J i=some (j,t,zs,v)->∃o,ops0[i]?=some o/\layB o.op=true/\Laid P o fp j t zs v/\heldB ops0 o=true/\ops[i]?=some {o with op:=.move (.tmp (N+i))}
 inj:∀i i' j t zs v t' zs' v',J i=some (j,t,zs,v)->J i'=some (j,t',zs',v')->i=i'
theorem ResOps.dst(R:ResOps P N ops0 ops J fp)(j:Nat):(ops[j]?).bind (·.dst)=(ops0[j]?).bind (·.dst):=by
 cases y:J j with
 | none=>rw[R.same j y]
 | some x =>
  obtain⟨id,t,zs,v⟩:=x;obtain⟨o,h1,_,_,_,A⟩:=R.res j id t zs v y;rw[h1,A];rfl
theorem ResOps.ready_iff(R:ResOps P N ops0 ops J fp){l:Array Bool}{i:Nat}:i∈Region.ready .any ops l↔i∈Region.ready .any ops0 l:=by
 rw[mem_ready,mem_ready];cases y:J i with
 | none=>rw[R.same i y]
 | some x =>
  obtain⟨id,t,zs,v⟩:=x;obtain⟨o,h1,_,_,_,A⟩:=R.res i id t zs v y;rw[h1,A];simp
theorem ResOps.ready_nil(R:ResOps P N ops0 ops J fp){l:Array Bool}:Region.ready .any ops l=[]↔Region.ready .any ops0 l=[]:=by
 constructor<;>intro h<;>rw[List.eq_nil_iff_forall_not_mem]at h|-<;>intro i hi
 ·exact h i (R.ready_iff.2 hi)
 ·exact h i (R.ready_iff.1 hi)
theorem kbli{o:Oper}(F:heldB ops0 o=true){l:Array Bool}(K:∀e∈o.after,Region.binds .any e=true->l.getD e.on false=true){t:Tmp}(Q:.tmp t∈o.op.operands.toList) :
  ∀j H,ops0[j]?=some H->l.getD j false=false->H.dst≠some t:=by
 intro j H y U A;unfold heldB at F;rw[List.all_eq_true]at F;have V:j<ops0.size:=(qcc.1 y).1;have:=F j (qck.2 V);rw[y,qbt,A]at this;dsimp only at this
 have C:o.op.operands.toList.any (isTmp t)=true:=by
  rw[List.any_eq_true];exact⟨_,Q,by simp[isTmp]⟩
 rw[C,Bool.not_true,Bool.false_or,kla]at this;obtain⟨e,X,Y,I⟩:=this;have:=K e X Y;rw[I,U]at this;cases this
theorem Sim.lay{μ:Mu}{h:AH}{w:World}(S:Sim P O μ h w){j:Nat}{cs:List AV}{us:List Value}{e:TypeId}(Q:h.blks[j]?=some (.cells cs e))(V:μ j=none)(U:VRels μ cs us)(h1:cs.all AV.one=true) :
  Sim P O (Mu.set μ j ⟨w.heap.size,0,us.length⟩) h (w.alloc (.cells us.toArray e)):=by
 have C:=Mu.le_set (L:=⟨w.heap.size,0,us.length⟩) V;have H:j<h.blks.size:=(qcc.1 Q).1;refine{old:=S.old,os:=S.os,tape:=S.tape,output:=S.output,base:=by have:=S.base;simp;omega,dom:=λi L y=>?_,keep:=λb A=>?_,place:=λi L y=>?_,blk:=λi L b y A=>?_,inj:=λi k L M y F X Y I=>?_}
 ·rw[kdy _ _ _ (qbr A S.base)];exact S.keep b A
 ·unfold Mu.set at y;split at y
  ·subst_vars;exact H
  ·exact S.dom i L y
 ·unfold Mu.set at y;split at y
  ·cases y;have:=S.base;simp;omega
  ·have:=S.place i L y;simp;omega
 ·unfold Mu.set at y;split at y
  ·rename_i hi;subst hi;cases y;rw[Q]at A;cases A;refine⟨⟨_,kl9 _ _,by simp,by simp;have:=U.length;omega,λk v Z=>?_⟩,h1⟩;obtain⟨u,hu,K⟩:=U.get k v Z;exact⟨u,by simpa using hu,K.mono C⟩
  ·exact(S.blk i L b y A).step C λ_=>kdy _ _ _ (S.place i L y).2
 ·unfold Mu.set at y F;split at y<;>split at F
  ·omega
  ·cases y;have:=S.place k M F;simp at I;omega
  ·cases F;have:=S.place i L y;simp at I;omega
  ·exact S.inj i k L M y F X Y I
theorem Ext.lay{μ0 μ:Mu}{h0 h:AH}{w0 w:World}(E:Ext μ0 h0 w0 μ h)(A:w0.heap.size<=w.heap.size){j:Nat}(C:h0.blks.size<=j)(F:μ j=none){b t:Nat}:Ext μ0 h0 w0 (Mu.set μ j ⟨w.heap.size,b,t⟩) h:=by
 obtain⟨H,I,K,Q,U⟩:=E;refine⟨H,Mu.le_trans I (Mu.le_set F),λi hi=>?_,Q,λi L h1 V y=>?_⟩
 ·unfold Mu.set;rw[if_neg (by omega),K i hi]
 ·unfold Mu.set at y;split at y
  ·cases y;exact .inl A
  ·exact U i L h1 V y
theorem krz{R:Type}{cs:List Operand}{a b:Fr}{x:Option R}{r:R}(h:finK cs a b x=some r):(∀c∈cs,evO a c=evO b c)/\x=some r:=by
 unfold finK at h;split at h
 ·exact⟨λ_ A=>(by cases A),h⟩
 ·rename_i c cs;unfold whenK at h;split at h
  ·rename_i C;refine⟨λy F=>?_,h⟩;exact List.map_inj_left.1 C y F
  ·cases h
theorem ktf{R:Type}{cs:List Operand}{a a' b b':Fr}(e:a.same a')(f:b.same b'){x:Option R}:finK cs a b x=finK cs a' b' x:=by
 have h1:∀c,evO a c=evO a' c:=λc=>keg λt _=>e t;have y:∀c,evO b c=evO b' c:=λc=>keg λt _=>f t;unfold finK;split
 ·rfl
 ·rw[funext h1,funext y]
theorem Oper.mem_looksAt{ops:Array Oper}{o:Oper}{s:Tmp}(h:.tmp s∈o.op.operands.toList):s∈Oper.looksAt ops o:=by
 unfold Oper.looksAt;exact List.mem_append_left _ (List.mem_filterMap.2 ⟨_,h,rfl⟩)
theorem AnyA.soundR{rec:Rec}(ak:RecOk P O rec)(R:ResOps P N ops0 ops J fp)(Z:∀(i:Nat)(o:Oper),ops0[i]?=some o->∀t∈Oper.looksAt ops0 o,t<N){an:Nat->Nat}
  (al:∀l,Closed ops l->∀j∈Region.ready .any ops l,∀i,(an j).testBit i=true->l.getD i false=true)
  {k:Fr->AH->Option (AV×AH)} {cs:List Operand} (au:∀i x,J i=some x->∀o,ops0[i]?=some o->∀c∈o.op.operands.toList,c∈cs) {r:AV×AH} {μ0:Mu} {h0:AH} {w0:World}:∀(n:Nat){l:Array Bool}{ps:List Look}{fr:Fr}{h:AH}{μ:Mu}{w:World}{a:Act},Closed ops l->
  AnyA P rec N ops an (λfr h=>finK cs (fr.low N) fp (k (fr.low N) h)) r n l ps fr h->Sim P O μ h w->FRel μ N (fr.low N) a.tmps->Ext μ0 h0 w0 μ h->Frm μ0 h0 w0 w->
  (∀i j t zs v,J i=some (j,t,zs,v)->fr.get (N+i)=some v/\(⟨i,.new j 0,0⟩:Look)∈ps/\h0.blks.size<=j/\(l.getD i false=false->h.blks[j]?=some (.cells zs t)/\μ j=none))->
  wpAny P .any ops0 (After P O μ0 N h0 w0 a.defers k r) n l a w
 | 0,l,ps,fr,h,μ,w,a,C,H,S,F,E,M,HJ=>⟨R.ready_nil.1 H.1,rfl,rfl,fr.low N,h,μ,(krz H.2).2,S,F,E,M⟩
 | n+1,l,ps,fr,h,μ,w,a,C,H,S,F,E,M,HJ=>by
  refine⟨λhr=>⟨rfl,rfl,fr.low N,h,μ,(krz (H.1 (R.ready_nil.2 hr))).2,S,F,E,M⟩,λi hi=>?_⟩;have ag:=R.ready_iff.2 hi;obtain⟨ad,A,aa,-⟩:=mem_ready.1 ag;obtain⟨v,h1,V,e2,ec,e3⟩:=H.2 i ag A aa
  have aw:l.getD i false=false:=by
   rw[Array.getD_eq_getD_getElem?]at ad|-;cases hq:l[i]? with
   | none=>rfl
   | some b=>rw[hq]at ad;simpa using ad
  have C':=C.set ag
  have put:∀{ν:Mu}{u:Value}{h2:AH}{w1:World},h2=h1->FRel ν N (fr.low N) a.tmps->VRel ν v u->Sim P O ν h2 w1->Ext μ0 h0 w0 ν h2->Frm μ0 h0 w0 w1->
    (∀i' j t zs v,i'≠i->J i'=some (j,t,zs,v)->l.getD i' false=false->h2.blks[j]?=some (.cells zs t)/\ν j=none)->
    wpAny P .any ops0 (After P O μ0 N h0 w0 a.defers k r) n (l.setIfInBounds i true) (a.put A.dst u) w1:=by
   intro ν u h2 w1 hh F' hv S' E' M' HB;subst hh
   have F2:FRel ν N ((putd A.dst v fr).low N) (a.put A.dst u).tmps:=by
    rw[kbg0 e2];cases hd:A.dst with
    | none=>exact F'
    | some t =>
     have:=e2 t hd;exact F'.put (by simpa[Nat.blt_eq]using this) hv
   have:=AnyA.soundR ak R Z al au n (a:=a.put A.dst u) C' e3 S' F2 E' M' (λi' j t zs v hj=>by
    obtain⟨g1,g2,g3,g4⟩:=HJ i' j t zs v hj;refine⟨?_,?_,g3,λI=>?_⟩
    ·have ah:∀s,A.dst=some s->s≠N+i':=λs hs=>by
      have:=e2 s hs;have h3:s<N:=by simpa[Nat.blt_eq]using this
      intro hc;rw[hc]at h3;exact absurd h3 (Nat.not_lt.2 (Nat.le_add_right N i'))
     rw[kjl ah];exact g1
    ·cases nonEff A.op with
     | true=>exact List.mem_append_right _ g2
     | false=>exact g2
    ·by_cases Y:i'=i
     ·subst Y;exfalso
      have am:i'<l.size:=by
       rcases Nat.lt_or_ge i' l.size with h | h
       ·exact h
       ·rw[Array.getD_eq_getD_getElem?,Array.getElem?_eq_none h]at ad;cases ad
      rw[Array.getD_eq_getD_getElem?,Array.getElem?_setIfInBounds_self,if_pos am]at I;cases I
     ·rw[getD_set_ne false (λh=>Y h.symm)]at I;exact HB i' j t zs v Y hj I)
   rw[Go.Ab.put_defers]at this;exact this
  have ax:∀i' j t zs v,J i'=some (j,t,zs,v)->l.getD i' false=false->h1.blks[j]?=some (.cells zs t):=by
   intro i' j t zs v hj I;obtain⟨g1,g2,g3,g4⟩:=HJ i' j t zs v hj;cases ah:nonEff A.op with
   | true=>rw[(kob (i:=i) ah V).1];exact(g4 I).1
   | false =>
    have hb:(an i).testBit i'=false:=by
     cases hb:(an i).testBit i' with
     | false=>rfl
     | true =>
      have:=al l C i ag i' hb;rw[I]at this;cases this
    have:=(ec ah _ g2 hb).2 rfl;rw[show h1.blks[j]?=h.blks[j]? from this];exact(g4 I).1
  cases hJ:J i with
  | none =>
   rw[R.same i hJ]at aa;have bf:=Z i A aa
   have y:valA P rec ops0 A (fr.low N) h=some (v,h1):=by
    rw[<- V];have a1:valA P rec ops0 A (fr.low N) h=valA P rec ops0 A fr h:=kpu λt ht=>by rw[kfx,if_pos (bf t ht)]
    rw[a1];unfold valA;simp only[R.dst]
   unfold wpOp;simp only[aa]
   have go:opK P rec A.op A.type (fr.low N) h pk=some (v,h1)->Region.wanted A (yielded ops0 a.tmps)=true->
     (if Region.wanted A (yielded ops0 a.tmps)=true then A.wp P a w (wpAny P .any ops0 (After P O μ0 N h0 w0 a.defers k r) n (l.setIfInBounds i true)) (After P O μ0 N h0 w0 a.defers k r)\/(A.asks P a w/\LetsOut (After P O μ0 N h0 w0 a.defers k r))else wpAny P .any ops0 (After P O μ0 N h0 w0 a.defers k r) n (l.setIfInBounds i true) (a.put A.dst undef) w):=by
    intro bg hw;rw[if_pos hw]
    left
    obtain⟨v',bm,ay,ai⟩:=kqx ak S F bg;simp only[pk,qca,qcb]at ay;obtain⟨rfl,rfl⟩:=ay;refine ai _ _ λu w' ⟨ν,g1,g2,g3,g4⟩=>?_;refine put rfl (F.mono g3.2.1) g1 g2 (E.trans g3 M.1) (M.trans E g4) λi' j t zs v Y hj I=>⟨ax i' j t zs v hj I,?_⟩;obtain⟨q1,q2,q3,q4⟩:=HJ i' j t zs v hj;have am:j<h.blks.size:=(qcc.1 (q4 I).1).1;rw[g3.2.2.1 j am];exact(q4 I).2
   have skip:v=.tup []->h1=h->Region.wanted A (yielded ops0 a.tmps)=false->
     (if Region.wanted A (yielded ops0 a.tmps)=true then A.wp P a w (wpAny P .any ops0 (After P O μ0 N h0 w0 a.defers k r) n (l.setIfInBounds i true)) (After P O μ0 N h0 w0 a.defers k r)\/(A.asks P a w/\LetsOut (After P O μ0 N h0 w0 a.defers k r))else wpAny P .any ops0 (After P O μ0 N h0 w0 a.defers k r) n (l.setIfInBounds i true) (a.put A.dst undef) w):=by
    intro ae hh hw;rw[if_neg (by rw[hw];simp)];refine put (u:=undef) hh.symm F (by rw[ae];simp[VRel,undef,VRels]) S E M λi' j t zs v Y hj I=>⟨?_,?_⟩
    ·exact((HJ i' j t zs v hj).2.2.2 I).1
    ·exact((HJ i' j t zs v hj).2.2.2 I).2
   unfold valA at y;split at y
   ·rename_i hg;exact go y (by simp[Region.wanted,hg])
   ·rename_i j b hg;split at y
    ·cases y
    ·rename_i t ht;split at y
     ·rename_i c K;obtain⟨u,hu,Q⟩:=F.get t _ K;simp only[VRel]at Q;subst Q;have hy:yielded ops0 a.tmps j=some c:=by simp[yielded,ht,hu]
      have U:Region.wanted A (yielded ops0 a.tmps)=(c==b):=by simp[Region.wanted,hg,hy]
      cases X:(c==b)with
      | true=>rw[X]at y;exact go y (U.trans X)
      | false =>
       rw[X]at y;simp only[cond_false,qca,qcb]at y;exact skip y.1.symm y.2.symm (U.trans X)
     ·rename_i K;obtain⟨u,hu,Q⟩:=F.get t _ K;simp only[VRel]at Q;obtain⟨us,rfl,_⟩:=Q;have hy:yielded ops0 a.tmps j=none:=by simp[yielded,ht,hu]
      simp only[qca,qcb]at y;exact skip y.1.symm y.2.symm (by simp[Region.wanted,hg,hy])
     ·cases y
  | some x =>
   obtain⟨j,t,zs,hd⟩:=x;obtain⟨o,ho,az,ap,aq,bh⟩:=R.res i j t zs hd hJ;rw[bh]at aa;cases aa;obtain⟨q1,q2,q3,q4⟩:=HJ i j t zs hd hJ;obtain⟨a0,hμ⟩:=q4 aw;unfold wpOp;simp only[ho]
   have af:∀e∈o.after,Region.binds .any e=true->l.getD e.on false=true:=by
    obtain⟨_,oi,ba,af⟩:=mem_ready.1 hi;rw[ho]at ba;cases ba;exact af
   obtain⟨bi,hF,kF,gF⟩:=AnyA.final (n+1) H
   have ar:∀c∈o.op.operands.toList,evO (fr.low N) c=evO fp c:=by
    intro c hc;rw[<- (krz kF).1 c (au i _ hJ o ho c hc)];cases c with
    | tmp s =>
     have hs:=Z i o ho s (Oper.mem_looksAt hc);show(fr.low N).get s=(bi.low N).get s;rw[kfx,kfx,if_pos hs,if_pos hs];refine(gF s λj' oj bj I bb=>?_).symm;have h0:=R.dst j';rw[bj,qbt,bb]at h0;cases hq:ops0[j']? with
     | none=>rw[hq]at h0;cases h0
     | some oq =>
      rw[hq,qbt]at h0;exact kbli aq af hc j' oq hq I h0.symm
    | _=>rfl
   have go:v=hd->h1=h->Region.wanted o (yielded ops0 a.tmps)=true->
     (if Region.wanted o (yielded ops0 a.tmps)=true then o.wp P a w (wpAny P .any ops0 (After P O μ0 N h0 w0 a.defers k r) n (l.setIfInBounds i true)) (After P O μ0 N h0 w0 a.defers k r)\/(o.asks P a w/\LetsOut (After P O μ0 N h0 w0 a.defers k r))else wpAny P .any ops0 (After P O μ0 N h0 w0 a.defers k r) n (l.setIfInBounds i true) (a.put o.dst undef) w):=by
    intro ae hh hw;rw[if_pos hw]
    left
    obtain⟨bk,hx,bc,hj⟩:=ap;rw[<- kj1 ar]at bc;obtain⟨zs',t',us,hE,hv,bd,ai⟩:=kbez (w:=w) F az bc
    have hz:zs=zs'/\t=t':=by
     have h2:(hx.blks.push (.cells zs t))=hx.blks.push (.cells zs' t'):=congrArg AH.blks hE;have h3:(hx.blks.push (.cells zs t))[hx.blks.size]?=(hx.blks.push (.cells zs' t'))[hx.blks.size]?:=by rw[h2]
     simpa using h3
    obtain⟨rfl,rfl⟩:=hz;rw[hj]at ai;refine ai _ _ ?_
    rintro u w' ⟨hu,rfl⟩
    refine put (ν:=Mu.set μ j ⟨w.heap.size,0,us.length⟩) hh.symm (F.mono (Mu.le_set hμ)) ?_ (S.lay a0 hμ hv bd) (E.lay M.1 q3 hμ) ⟨by have:=M.1;simp;omega,λb hb hn=>?_⟩ λi' j' t' zs' v' Y ac I=>⟨?_,?_⟩
    ·rw[ae];exact hu
    ·rw[kdy _ _ _ (qbr hb M.1)];exact M.2 b hb hn
    ·exact((HJ i' j' t' zs' v' ac).2.2.2 I).1
    ·unfold Mu.set;rw[if_neg]
     ·exact((HJ i' j' t' zs' v' ac).2.2.2 I).2
     ·rintro rfl
      exact Y (R.inj i' i j' t' zs' v' t zs hd ac hJ)
   have skip:v=.tup []->h1=h->Region.wanted o (yielded ops0 a.tmps)=false->
     (if Region.wanted o (yielded ops0 a.tmps)=true then o.wp P a w (wpAny P .any ops0 (After P O μ0 N h0 w0 a.defers k r) n (l.setIfInBounds i true)) (After P O μ0 N h0 w0 a.defers k r)\/(o.asks P a w/\LetsOut (After P O μ0 N h0 w0 a.defers k r))else wpAny P .any ops0 (After P O μ0 N h0 w0 a.defers k r) n (l.setIfInBounds i true) (a.put o.dst undef) w):=by
    intro ae hh hw;rw[if_neg (by rw[hw];simp)];refine put (u:=undef) hh.symm F (by rw[ae];simp[VRel,undef,VRels]) S E M λi' j' t' zs' v' Y ac I=>⟨?_,?_⟩
    ·exact((HJ i' j' t' zs' v' ac).2.2.2 I).1
    ·exact((HJ i' j' t' zs' v' ac).2.2.2 I).2
   have mv:opK P rec (.move (.tmp (N+i))) o.type fr h pk=some (v,h1)->v=hd/\h1=h:=by
    intro hk;simp only[opK,evO,kjt,q1,qbt,pk,qca,qcb]at hk;exact⟨hk.1.symm,hk.2.symm⟩
   have aj:=Z i o ho;unfold valA at V;dsimp only at V;split at V
   ·rename_i hg;obtain⟨k1,k2⟩:=mv V;exact go k1 k2 (by simp[Region.wanted,hg])
   ·rename_i jj b hg;rw[R.dst]at V;split at V
    ·cases V
    ·rename_i tt ht;have be:tt<N:=aj tt (by simp[Oper.looksAt,hg,ht]);split at V
     ·rename_i c K;obtain⟨u,hu,Q⟩:=F.get tt _ (by rw[kfx,if_pos be];exact K);simp only[VRel]at Q;subst Q;have hy:yielded ops0 a.tmps jj=some c:=by simp[yielded,ht,hu]
      have U:Region.wanted o (yielded ops0 a.tmps)=(c==b):=by simp[Region.wanted,hg,hy]
      cases X:(c==b)with
      | true =>
       rw[X]at V;obtain⟨k1,k2⟩:=mv V;exact go k1 k2 (U.trans X)
      | false =>
       rw[X]at V;simp only[cond_false,qca,qcb]at V;exact skip V.1.symm V.2.symm (U.trans X)
     ·rename_i K;obtain⟨u,hu,Q⟩:=F.get tt _ (by rw[kfx,if_pos be];exact K);simp only[VRel]at Q;obtain⟨us,rfl,_⟩:=Q;have hy:yielded ops0 a.tmps jj=none:=by simp[yielded,ht,hu]
      simp only[qca,qcb]at V;exact skip V.1.symm V.2.symm (by simp[Region.wanted,hg,hy])
     ·cases V
theorem kzz{rec:Rec}(aa:RecOk P O rec){I:List Nat}{k:Fr->AH->Option (AV×AH)}{r:AV×AH}(hk:∀(a b:Fr)(h:AH),a.same b->k a h=k b h)(ac:∀(i:Nat)(o:Oper),ops0[i]?=some o->∀t∈Oper.looksAt ops0 o,t<N)
  {μ:Mu} {h0:AH} {w:World} {a:Act} (S0:Sim P O μ h0 w):∀(is:List Nat){cs:List Operand}{ops:Array Oper}{ps:List Look}{fr:Fr}{h:AH}{J:Nat->Option (Nat×TypeId×List AV×AV)},ResOps P N ops0 ops J fp->(∀i x,J i=some x->∀o,ops0[i]?=some o->∀c∈o.op.operands.toList,c∈cs)->Sim P O μ h w->FRel μ N (fr.low N) a.tmps->h0.blks.size<=h.blks.size->(∀i,i<h0.blks.size->h.blks[i]?=h0.blks[i]?)->
  (∀i j t zs v,J i=some (j,t,zs,v)->fr.get (N+i)=some v/\(⟨i,.new j 0,0⟩:Look)∈ps/\h0.blks.size<=j/\j<h.blks.size/\h.blks[j]?=some (.cells zs t))->
  drawR P rec N I fp is cs ops ps fr h k=some r->wpAny P .any ops0 (After P O μ N h0 w a.defers k r) ops0.size (Array.replicate ops0.size false) a w
 | [],cs,ops,ps,fr,h,J,R,ad,S,F,hs,hb,HJ,H=>by
  simp only[drawR]at H;cases ae:Nat.beq I.length ops.size with
  | false=>rw[ae]at H;cases H
  | true =>
   rw[ae,cond_true]at H
   have ak:∀(a b:Fr)(h:AH),a.same b->(λ(fr:Fr) (h:AH)=>finK cs (fr.low N) fp (k (fr.low N) h)) a h=(λ(fr:Fr) (h:AH)=>finK cs (fr.low N) fp (k (fr.low N) h)) b h:=λa b h e=>by
    show finK cs (a.low N) fp (k (a.low N) h)=finK cs (b.low N) fp (k (b.low N) h);rw[hk _ _ _ (e.low N),ktf (e.low N) (Fr.same.refl fp)]
   have C0:Closed ops (Array.replicate ops.size false):=⟨by simp,λj o hj=>by
    rw[Array.getD_eq_getD_getElem?,Array.getElem?_replicate]at hj;split at hj<;>simp at hj⟩
   have any:=kp1 (l:=Array.replicate ops.size false) ak I ⟨by simp,λj=>by simp[Array.getElem?_replicate];split<;>rfl⟩ C0 H;rw[Nat.eq_of_beq_eq_true ae]at any
   have U:∀j,h0.blks.size<=j->μ j=none:=λj hj=>by
    cases hq:μ j with
    | none=>rfl
    | some L=>have:=S0.dom _ _ hq;omega
   have E:Ext μ h0 w μ h:=⟨hs,Mu.le_refl μ,λ_ _=>rfl,λi hi hl b Y=>hl b (by rw[hb i hi];exact Y),λi L h1 h2 X=>by rw[U i h1]at X;cases X⟩
   have:=AnyA.soundR aa R ac anc_ok ad (μ0:=μ) (h0:=h0) (w0:=w) ops.size C0 any S F E ⟨qbp _,λ_ _ _=>rfl⟩ (λi j t zs v hj=>by
    obtain⟨g1,g2,g3,g4,g5⟩:=HJ i j t zs v hj;exact⟨g1,g2,g3,λ_=>⟨g5,U j g3⟩⟩)
   rw[R.size]at this;exact this
 | i::is,cs,ops,ps,fr,h,J,R,ad,S,F,hs,hb,HJ,H=>by
  simp only[drawR]at H;split at H
  ·rename_i o ho;obtain⟨ah,H⟩:=kz H;rw[qb8]at ah;obtain⟨V,af⟩:=ah;rw[ki6,qbu]at H;obtain⟨⟨v,h1⟩,ai,H⟩:=H;dsimp only at H;obtain⟨zs,t,rfl⟩:=k8u V ai
   have al:J i=none:=by
    cases hq:J i with
    | none=>rfl
    | some x =>
     obtain⟨j,t',zs',v'⟩:=x;obtain⟨o2,_,_,_,_,h4⟩:=R.res i j t' zs' v' hq;rw[h4]at ho;cases ho;cases V
   have aj:ops0[i]?=some o:=by rw[<- R.same i al];exact ho
   have am:i<ops.size:=(qcc.1 ho).1
   have Z:heldB ops0 o=true:=by
    rw[<- af];unfold heldB;rw[R.size];simp only[R.dst]
   refine kzz aa hk ac S0 is (J:=λx=>if x=i then some (h.blks.size,t,zs,v)else J x) ?_ ?_ ?_ ?_ ?_ ?_ ?_ H
   ·refine⟨by simpa using R.size,λx C=>?_,λx j t' zs' v' C=>?_,λx x' j t1 z1 v1 t2 z2 v2 C Q=>?_⟩
    ·by_cases A:x=i
     ·rw[if_pos A]at C;cases C
     ·rw[if_neg A]at C;rw[Array.getElem?_setIfInBounds_ne (λh=>A h.symm)];exact R.same x C
    ·by_cases A:x=i
     ·subst A;rw[if_pos rfl]at C;cases C;exact⟨o,aj,V,⟨rec,h,ai,rfl⟩,Z,by rw[Array.getElem?_setIfInBounds_self,if_pos am]⟩
     ·rw[if_neg A]at C;obtain⟨o2,h1,h2,h3,h4,h5⟩:=R.res x j t' zs' v' C;exact⟨o2,h1,h2,h3,h4,by rw[Array.getElem?_setIfInBounds_ne (λh=>A h.symm)];exact h5⟩
    ·by_cases A:x=i<;>by_cases K:x'=i
     ·rw[A,K]
     ·rw[if_pos A]at C;rw[if_neg K]at Q;cases C;have:=(HJ x' _ t2 z2 v2 Q).2.2.2.1;omega
     ·rw[if_neg A]at C;rw[if_pos K]at Q;cases Q;have:=(HJ x _ t1 z1 v1 C).2.2.2.1;omega
     ·rw[if_neg A]at C;rw[if_neg K]at Q;exact R.inj x x' j t1 z1 v1 t2 z2 v2 C Q
   ·intro x y C ox ag c hc;by_cases A:x=i
    ·subst A;rw[aj]at ag;cases ag;exact List.mem_append_left _ hc
    ·rw[if_neg A]at C;exact List.mem_append_right _ (ad x y C ox ag c hc)
   ·
    refine{old:=S.old,os:=S.os,tape:=S.tape,output:=S.output,base:=S.base,keep:=S.keep,dom:=λx L X=>?_,place:=S.place,blk:=λx L b X Y=>?_,inj:=λx y L M X hM lx ly he=>?_}
    ·have:=S.dom x L X;simp;omega
    ·have C:=S.dom x L X;refine S.blk x L b X ?_;simp only[Array.getElem?_push]at Y;rwa[if_neg (by omega)]at Y
    ·have C:=S.dom x L X;have hy:=S.dom y M hM;exact S.inj x y L M X hM (kgq (by omega) lx) (kgq (by omega) ly) he
   ·have:Fr.low N ((N+i,v)::fr)=fr.low N:=by
     show List.filter _ (_::fr)=_;rw[List.filter_cons];dsimp only
     rw[show Nat.blt (N+i) N=false from by
      cases hq:Nat.blt (N+i) N with
      | false=>rfl
      | true =>
       have:N+i<N:=by simpa[Nat.blt_eq]using hq
       omega]
     rfl
    rw[this];exact F
   ·simp;omega
   ·intro x C;simp only[Array.getElem?_push];rw[if_neg (by omega)];exact hb x C
   ·intro x j t' zs' v' C;by_cases A:x=i
    ·subst A;rw[if_pos rfl]at C;cases C;exact⟨by rw[get_cons,if_pos rfl],List.mem_cons_self ..,hs,by simp,by simp⟩
    ·rw[if_neg A]at C;obtain⟨g1,g2,g3,g4,g5⟩:=HJ x j t' zs' v' C;refine⟨?_,List.mem_cons_of_mem _ g2,g3,by simp;omega,?_⟩
     ·rw[get_cons,if_neg (by omega)];exact g1
     ·simp only[Array.getElem?_push];rw[if_neg (by omega)];exact g5
  ·cases H
theorem kzm{rec:Rec}(A:RecOk P O rec){ops:Array Oper}{C H U:List Nat}{fr:Fr}{h:AH}{k:Fr->AH->Option (AV×AH)}{r:AV×AH}(V:∀(a b:Fr)(h:AH),a.same b->k a h=k b h)
  (y:drawX P rec N ops C H U fr h k=some r) {μ:Mu} {w:World} {a:Act} (S:Sim P O μ h w) (F:FRel μ N fr a.tmps):wpAny P .any ops (After P O μ N h w a.defers k r) ops.size (Array.replicate ops.size false) a {w with drawn:=w.drawn+1}:=by
 unfold drawX at y;split at y
 ·exact kbb9 A V y S F
 ·rename_i i is;cases I:lowB N ops with
  | false=>rw[I]at y;cases y
  | true =>
   rw[I,cond_true,ku6,qbu]at y;obtain⟨⟨fp,hx⟩,-,y⟩:=y;dsimp only at y
   have K:∀(i:Nat)(o:Oper),ops[i]?=some o->∀t∈Oper.looksAt ops o,t<N:=by
    intro i o X t Y;unfold lowB at I;rw[List.all_eq_true]at I;have:=I o (by rw[Array.mem_toList_iff];exact Array.mem_of_getElem? X);rw[List.all_eq_true]at this
    simpa[Nat.blt_eq]using this t Y
   have Z:FRel μ N (fr.low N) a.tmps:=⟨F.size,λt v Q=>by
    rw[kfx]at Q;split at Q
    ·exact F.get t v Q
    ·cases Q⟩
   exact kzz A V K (h0:=h) (w:=w.drew) (S.drew) (i::is) (J:=λ_=>none) ⟨rfl,λ_ _=>rfl,λ_ _ _ _ _ h=>(by cases h),λ_ _ _ _ _ _ _ _ _ h=>(by cases h)⟩ (λ_ _ h=>(by cases h)) (S.drew) Z (qbp _) (λ_ _=>rfl) (λ_ _ _ _ _ h=>(by cases h)) y
theorem kbiq(I:P.follows .mixedOrders=true){rec:Rec}(A:RecOk P O rec){id:Nat}{ops:Array Oper}{y C H:List Nat}{fr:Fr}{h:AH}{k:Fr->AH->Option (AV×AH)}{r:AV×AH}(K:∀(a b:Fr)(h:AH),a.same b->k a h=k b h)
  (Q:drawX P rec N ops y C H fr h k=some r) {μ:Mu} {w:World} {a:Act} (S:Sim P O μ h w) (F:FRel μ N fr a.tmps):(Code.region id ops true).wp P (After P O μ N h w a.defers k r) a w :=
 wp_region_any I (kzm A K Q S F)
end
theorem kl6{rec:Rec}{N:Nat}{ops:Array Oper}{R:Type}{k:Fr->AH->Option R}(A:∀(a b:Fr)(h:AH),a.same b->k a h=k b h):∀(is:List Nat){a b:Fr}{h:AH},a.same b->opsK P rec N ops is a h k=opsK P rec N ops is b h k
 | [],a,b,h,e=>A a b h e
 | i::is,a,b,h,e=>by
  have put:∀(d:Option Tmp)(v:AV){a b:Fr}(h:AH),a.same b->(putT N d v a λy=>opsK P rec N ops is y h k)=putT N d v b λy=>opsK P rec N ops is y h k:=by
   intro d v a b h e;simp only[kiw];cases d with
   | none=>exact kl6 A is e
   | some t=>dsimp only;rw[kl6 A is (e.putd (some t) v)]
  have go:∀(o:Oper){a b:Fr},a.same b->(opK P rec o.op o.type a h λv h'=>putT N o.dst v a λy=>opsK P rec N ops is y h' k)=opK P rec o.op o.type b h λv h'=>putT N o.dst v b λy=>opsK P rec N ops is y h' k:=by
   intro o a b e;rw[kj1 (b:=b) λx _=>keg λt _=>e t];congr 1;funext v h';exact put _ _ _ e
  have learn:∀(t:Tmp)(v:AV),Fr.same ((t,v)::a) ((t,v)::b):=λt v=>e.putd (some t) v;simp only[opsK];cases C:ops[i]? with
  | none=>rfl
  | some o =>
   dsimp only;cases F:o.guard with
   | none=>exact go o e
   | some jb =>
    obtain⟨j,b'⟩:=jb;dsimp only;cases H:(ops[j]?).bind (·.dst)with
    | none=>rfl
    | some t =>
     dsimp only;rw[e t,go o (learn t (.bool true)),go o (learn t (.bool false)),put o.dst (.tup []) h (learn t (.bool true)),put o.dst (.tup []) h (learn t (.bool false)),put o.dst (.tup []) h e]
theorem ksf{a b:Fr}(e:a.same b):∀xs:List Operand,evs a xs=evs b xs
 | []=>rfl
 | x::xs=>by simp only[evs,keg (a:=a) (b:=b) (x:=x) λt _=>e t,ksf e xs]
theorem kbgg{rec:Rec}{o:Op}{ty:TypeId}{a b:Fr}{h:AH}{R:Type}{k:AV->AH->Option R}(e:a.same b):opY P rec o ty a h k=opY P rec o ty b h k:=by
 have A:kj2 o a=kj2 o b:=by
  unfold kj2;split
  ·rename_i c;rw[ksf e];split
   ·rename_i f xs _ _;rw[keg (a:=a) (b:=b) (x:=f) λt _=>e t]
   ·rfl
  ·rfl
 have y:∀x,evO a x=evO b x:=λx=>keg λt _=>e t;have ok:opK P rec o ty a h k=opK P rec o ty b h k:=kj1 (b:=b) λx _=>y x;unfold opY;rw[A];split
 ·rfl
 ·unfold opM;split
  ·rfl
  ·rw[y,y,y]
  ·rw[y,y,y]
  ·rw[y,y]
  ·rw[y,y]
  ·rw[y,y,y]
  ·rw[ksf e,ok]
  ·exact ok
theorem ktc{rec:Rec}{N:Nat}{ops:Array Oper}{R:Type}{k:Fr->AH->Option R}(A:∀(a b:Fr)(h:AH),a.same b->k a h=k b h):∀(is:List Nat){a b:Fr}{h:AH},a.same b->opsY P rec N ops is a h k=opsY P rec N ops is b h k
 | [],a,b,h,e=>A a b h e
 | i::is,a,b,h,e=>by
  have put:∀(d:Option Tmp)(v:AV){a b:Fr}(h:AH),a.same b->(putT N d v a λy=>opsY P rec N ops is y h k)=putT N d v b λy=>opsY P rec N ops is y h k:=by
   intro d v a b h e;simp only[kiw];cases d with
   | none=>exact ktc A is e
   | some t=>dsimp only;rw[ktc A is (e.putd (some t) v)]
  have go:∀(o:Oper){a b:Fr},a.same b->(opY P rec o.op o.type a h λv h'=>putT N o.dst v a λy=>opsY P rec N ops is y h' k)=opY P rec o.op o.type b h λv h'=>putT N o.dst v b λy=>opsY P rec N ops is y h' k:=by
   intro o a b e;rw[kbgg e];congr 1;funext v h';exact put _ _ _ e
  have learn:∀(t:Tmp)(v:AV),Fr.same ((t,v)::a) ((t,v)::b):=λt v=>e.putd (some t) v;simp only[opsY];cases C:ops[i]? with
  | none=>rfl
  | some o =>
   dsimp only;cases F:o.guard with
   | none=>exact go o e
   | some jb =>
    obtain⟨j,b'⟩:=jb;dsimp only;cases H:(ops[j]?).bind (·.dst)with
    | none=>rfl
    | some t =>
     dsimp only;rw[e t,go o (learn t (.bool true)),go o (learn t (.bool false)),put o.dst (.tup []) h (learn t (.bool true)),put o.dst (.tup []) h (learn t (.bool false)),put o.dst (.tup []) h e]
theorem kq1{rec:Rec}{N:Nat}{ops:Array Oper}{y A:List Nat}{R:Type}{k:Fr->AH->Option R}(F:∀(a b:Fr)(h:AH),a.same b->k a h=k b h):∀(c:List Nat){m:Nat}{ps:List Look}{a b:Fr}{h:AH},a.same b->opsD P rec N ops y A c m ps a h k=opsD P rec N ops y A c m ps b h k
 | [],m,ps,a,b,h,e=>by simp only[opsD,F a b h e]
 | i::c,m,ps,a,b,h,e=>by
  simp only[opsD];split
  ·rename_i o an I H;have l:kb4 P i o.op a=kb4 P i o.op b:=kqv (ops:=ops) λt _=>e t;rw[l];rw[kl6 (b:=b) (k:=λC h'=>opsD P rec N ops y A c (m|||1 <<< i) (kb4 P i o.op b++ps) C h' k) (λa b h e=>kq1 F c e) [i] e];rw[kl6 (b:=b) (k:=λC h'=>checkP an h h' (opsD P rec N ops y A c (m|||1 <<< i) ps C h' k) ps) (λa b h' e=>by rw[kq1 F c e]) [i] e]
  ·rfl
theorem kuv{rec:Rec}{N:Nat}{A:List Nat}{R:Type}{k:Fr->AH->Option R}(I:∀(a b:Fr)(h:AH),a.same b->k a h=k b h){fp F:Fr}(H:fp.same F):∀(is:List Nat){cs:List Operand}{ops:Array Oper}{ps:List Look}{a b:Fr}{h:AH},a.same b->drawR P rec N A fp is cs ops ps a h k=drawR P rec N A F is cs ops ps b h k
 | [],cs,ops,ps,a,b,h,e=>by
  simp only[drawR];have h1:∀(C:Fr)(h':AH),finK cs (C.low N) fp (k (C.low N) h')=finK cs (C.low N) F (k (C.low N) h'):=λC h'=>ktf (Fr.same.refl _) H;simp only[h1]
  rw[kq1 (k:=λC h'=>finK cs (C.low N) F (k (C.low N) h')) (λx y h e=>by
   show finK cs (x.low N) F (k (x.low N) h)=finK cs (y.low N) F (k (y.low N) h);rw[I _ _ _ (e.low N),ktf (e.low N) (Fr.same.refl F)]) A e]
 | i::is,cs,ops,ps,a,b,h,e=>by
  simp only[drawR];split
  ·rename_i o K
   have h1:∀(v:AV)(h':AH),drawR P rec N A fp is (o.op.operands.toList++cs) (ops.setIfInBounds i {o with op:=.move (.tmp (N+i))}) (⟨i,h.next,0⟩::ps) ((N+i,v)::a) h' k=drawR P rec N A F is (o.op.operands.toList++cs) (ops.setIfInBounds i {o with op:=.move (.tmp (N+i))}) (⟨i,h.next,0⟩::ps) ((N+i,v)::b) h' k :=
    λv h'=>kuv I H is λt=>by rw[get_cons,get_cons,e t]
   simp only[h1];rw[kj1 (a:=fp) (b:=F) λx _=>keg λt _=>H t]
  ·rfl
theorem ktq{a b:Fr}(e:a.same b):∀(L:List Nat),a.keep L=b.keep L
 | []=>rfl
 | t::L=>by simp only[Fr.keep,e t,ktq e L]
theorem ksj{a b:Fr}{h:AH}(e:a.same b):∀(rs:List ResultVar)(k:List AV->Option (AV×AH)),resK P a h rs k=resK P b h rs k
 | [],k=>rfl
 | .tmp t::rs,k=>by simp only[resK,e t,ksj e rs]
 | .cell x t::rs,k=>by simp only[resK,e x,ksj e rs]
theorem kxh{a b:Fr}(e:a.same b)(c:Operand)(t:Bool):(learn c t a).same (learn c t b):=by
 cases c with
 | tmp s=>exact e.putd (some s) _
 | _=>exact e
theorem kew{K:Keep}{rec:Rec}{ro:Option Nat}{f:FuncId}{fn:Func}:∀(n:Nat){fresh:Bool}{todo:List Item}(a b:Fr)(h:AH),a.same b->execA P K rec ro f fn n fresh todo a h=execA P K rec ro f fn n fresh todo b h
 | 0,fresh,todo,a,b,h,e=>rfl
 | n+1,fresh,todo,a,b,h,e=>by
  have F:=λ{fresh:Bool} {todo:List Item}=>kew (K:=K) (rec:=rec) (ro:=ro) (f:=f) (fn:=fn) n (fresh:=fresh) (todo:=todo) a b h e
  have res:∀C,leaveA P fn ro C a h=leaveA P fn ro C b h:=λC=>by
   unfold leaveA;have:kib P fn a h=kib P fn b h:=ksj e _ _;rw[this]
  unfold execA
  try simp only[kd7]
  have ops:∀(ops:Array Oper)(is:List Nat)(k:List Item),(opsY P rec fn.ntmps ops is a h λA h'=>execA P K rec ro f fn n false k A h')=opsY P rec fn.ntmps ops is b h λA h'=>execA P K rec ro f fn n false k A h':=λops is k=>ktc (λx y h e=>kew n x y h e) is e
  have H:∀(ops:Array Oper)(is js ls:List Nat)(k:List Item),(drawX P rec fn.ntmps ops is js ls a h λA h'=>execA P K rec ro f fn n false k A h')=drawX P rec fn.ntmps ops is js ls b h λA h'=>execA P K rec ro f fn n false k A h':=λops is js ls k=>by
   unfold drawX drawK;rw[kq1 (λx y h e=>kew n x y h e) is e];split
   ·rfl
   ·rename_i i js
    have h1:∀(fp:Fr)(I:AH),drawR P rec fn.ntmps is fp (i::js) [] ops [] a h (λA h'=>execA P K rec ro f fn n false k A h')=drawR P rec fn.ntmps is fp (i::js) [] ops [] b h (λA h'=>execA P K rec ro f fn n false k A h') :=
     λfp I=>kuv (λx y h e=>kew n x y h e) (Fr.same.refl fp) _ e
    have V:(opsK P rec fn.ntmps ops ls a h λfp _=>drawR P rec fn.ntmps is fp (i::js) [] ops [] a h (λA h'=>execA P K rec ro f fn n false k A h'))=opsK P rec fn.ntmps ops ls a h λfp _=>drawR P rec fn.ntmps is fp (i::js) [] ops [] b h (λA h'=>execA P K rec ro f fn n false k A h'):=by
     congr 1;funext fp I;exact h1 fp I
    rw[V,kl6 (λx y h0 X=>kuv (λx y h e=>kew n x y h e) X _ (Fr.same.refl b)) ls e]
  split
  all_goals first
   | exact res _
   | exact F
   | skip
  ·rename_i c x y k;rw[keg (a:=a) (b:=b) λt _=>e t];split
   ·rw[kew n _ _ h (kxh e c true),kew n _ _ h (kxh e c false)]
   ·rfl
  ·split
   ·exact F
   ·exact res _
  ·split
   ·exact F
   ·exact res _
  ·rename_i id Q U k;rw[ops,H];simp only[ktq e]
  ·split
   ·congr 1;funext h';exact kew n _ _ h' e
   ·rfl
  ·rename_i g ps as bd k;split
   ·rfl
   ·rw[keg (a:=a) (b:=b) λt _=>e t,ktq e]
  ·rfl
end Go.Ab
