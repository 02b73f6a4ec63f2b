/- Words and laws that the last text joins. -/
import Derived.Test.YtomiakonamgbhaaGreatDoorPAbsA
import Derived.MapKept
import Derived.AtR
set_option linter.unusedVariables false
set_option linter.unusedSimpArgs false
set_option linter.unusedSectionVars false
namespace Go.Ab
variable{P:Program}{O:World}{R:Type}
theorem kbin{μ:Mu}{t:TypeId}{x:AV}{k:AV->Option R}{r:R}(h:lenK P t x k=some r){u:Value}(C:VRel μ x u){F:Array TypeId}(h0:F[0]?=some t)(ty:TypeId)(w:World) :
  ∃z a,k z=some r/\VRel μ z a/\(Builtin.len_ F ty #[u]).run P w=.ok a w:=by
 unfold lenK at h;split at h
 ·rename_i s y;simp only[VRel]at C;subst C;exact⟨_,.int .i64 s.size,h,by simp[VRel],by simp[Builtin.len_,h0,run_underlying y,goInt]⟩
 ·rename_i n e y;exact⟨_,.int .i64 n,h,by simp[VRel],by simp[Builtin.len_,h0,run_underlying y,goInt]⟩
 ·rename_i e r n c y;obtain⟨a,cap,rfl,_⟩:=C.slice_open;exact⟨_,.int .i64 n,h,by simp[VRel],by simp[Builtin.len_,h0,run_underlying y,goInt]⟩
 ·cases h
theorem kbaz{μ:Mu}{h:AH}{w:World}(S:Sim P O μ h w){ts:Array TypeId}{ty t e:TypeId}(h0:ts[0]?=some t)(hd:P.underlying t=some (.slice e))(ac:(P.info? e).isSome=true)
  {r Q:Option Ref} {n y:Nat} {c c':Cap} {u u':Value} (V:VRel μ (.slice r n c) u) (C:VRel μ (.slice Q y c') u') {h':AH} (K:copyH ⟨Q,y,c'⟩ ⟨r,n,c⟩ (P.cellsOf e) h=some h') :
  Yields P (Builtin.copy_ ts ty #[u,u']) w (Good P O μ h w (.int .i64 ((min y n:Nat):Int)) h'):=by
 obtain⟨ie,hi⟩:=Option.isSome_iff_exists.1 ac;have hs:(sizeOf e).run P w=.ok (P.cellsOf e) w:=by simp[sizeOf,typeInfo,hi,Program.cellsOf]
 have F:(Builtin.lenOf u').run P w=.ok y w:=by obtain⟨_,_,rfl,_⟩:=C.slice_open;rfl
 unfold copyH at K;have H:min y n=Nat.min y n:=rfl;split at K
 ·rename_i rd rs W Z;dsimp only at W Z K;subst W;subst Z;simp only[qbs]at K;obtain⟨cs,hg,hp⟩:=K;obtain⟨us,k1,U,k3,k4⟩:=km2 S C (m:=min y n) (Nat.min_le_left _ _) (by simpa[AH.getsO]using hg);simp only[VRel]at V;obtain⟨a,cap,rfl,ad,aa⟩:=V;have ai:n<=cap:=by cases c<;>exact aa.1
  rw[H]at U;rcases ad with aj | ae
  ·have hn:n=0:=by omega
   subst hn;have I:us=[]:=List.eq_nil_of_length_eq_zero (by simpa using k1);subst I;have af:cs=[]:=List.eq_nil_of_length_eq_zero k3.length.symm;subst af;simp only[AH.puts,qb8]at hp;subst hp;refine⟨.int .i64 ((min y 0:Nat):Int),w,?_,qd S (by simp[VRel])⟩;simp[Builtin.copy_,h0,run_underlying hd,F,hs,<- H]at U|-;simp[U,storeCells,goInt]
  ·obtain⟨w',e1,e2,e3,e4⟩:=kng (i:=0) (a:=a) S (by rw[show a.add 0=a from by simp[Addr.add]];exact ae) k3 k4 hp;refine⟨.int .i64 ((min y n:Nat):Int),w',?_,μ,by simp[VRel],e2,e3,e4⟩;simp[Builtin.copy_,h0,run_underlying hd,F,hs,U,e1,goInt,H]
 ·rename_i ag;simp only[qb8]at K;subst K
  have hz:min y n=0\/False:=by
   cases r with
   | none=>simp only[VRel]at V;left;rw[V.1];simp
   | some r=>cases Q with
    | none=>simp only[VRel]at C;left;rw[C.1];simp
    | some Q=>exact absurd rfl (ag r Q rfl)
  have hz:min y n=0:=by simpa using hz
  obtain⟨us,k1,U,k3,k4⟩:=km2 (size:=P.cellsOf e) S C (m:=0) (Nat.zero_le _) (by cases Q<;>simp[AH.getsO,AH.gets]<;>rfl);have I:us=[]:=List.eq_nil_of_length_eq_zero (by simpa using k1);subst I;have ah:Nat.min y n=0:=hz;refine⟨.int .i64 ((min y n:Nat):Int),w,?_,qd S (by simp[VRel])⟩;obtain⟨base,cap,rfl,_⟩:=V.slice_open;cases base<;>simp[Builtin.copy_,h0,run_underlying hd,F,hs,ah,U,storeCells,goInt,hz]
theorem kl0(ρ:Operand->Value)(o:Oper)(c:Call)(y:o.op=.call c):execOp ρ o=(do let d <- resolve ρ c o.type;invoke d.target d.args):=by unfold execOp;rw[y]
theorem k64{v:AV}{k:AV->Option R}{r:R}(h:leafK .slice (some v) k=some r):k v=some r:=by obtain⟨x,y,hk⟩:=kok h;cases y;exact hk
theorem kbbq{μ:Mu}{h:AH}{w:World}(S:Sim P O μ h w){b:Builtin}{ts:Array TypeId}{xs:List AV}{us:List Value}(hx:VRels μ xs us){k:AV->AH->Option R}{r:R}(hk:kfy P b ts.toList xs h k=some r)(ty:TypeId)(Q:Array Bool) :
  ∃v h1,k v h1=some r/\∃u w',(builtin b ts ty Q us.toArray).run P w=.ok (.value u) w'/\Good P O μ h w v h1 u w':=by
 unfold kfy at hk;split at hk
 ·rename_i t aa x I;obtain⟨u,us',rfl,K,C⟩:=hx.cons_inv;have:=C.nil_inv;subst this;have h0:ts[0]?=some t:=by have:=congrArg (·[0]?) I;simpa using this
  obtain⟨z,a,H,hz,hr⟩:=kbin hk K h0 ty w;exact⟨z,h,H,a,w,by simp[builtin,hr],qd S hz⟩
 ·rename_i kd a ac b;obtain⟨u,us',rfl,K,C⟩:=hx.cons_inv;obtain⟨u2,U,rfl,F,y⟩:=C.cons_inv;have:=y.nil_inv;subst this;simp only[VRel]at K F;subst K;subst F;refine⟨_,h,hk,.int kd (imin a b),w,?_,qd S (by simp[VRel])⟩;simp only[builtin,Builtin.min_,List.foldlM_cons,List.foldlM_nil,Builtin.min2,imin];by_cases V:b<a<;>simp[V]
 ·rename_i kd a ac b;obtain⟨u,us',rfl,K,C⟩:=hx.cons_inv;obtain⟨u2,U,rfl,F,y⟩:=C.cons_inv;have:=y.nil_inv;subst this;simp only[VRel]at K F;subst K;subst F;refine⟨_,h,hk,.int kd (imax a b),w,?_,qd S (by simp[VRel])⟩;simp only[builtin,Builtin.max_,List.foldlM_cons,List.foldlM_nil,Builtin.max2,imax];by_cases V:a<b<;>simp[V]
 ·rename_i t u' aa q n c x I;obtain⟨u,us',rfl,K,C⟩:=hx.cons_inv;obtain⟨u2,U,rfl,F,y⟩:=C.cons_inv;have:=y.nil_inv;subst this;have h0:ts[0]?=some t:=by have:=congrArg (·[0]?) I;simpa using this
  have h1:ts[1]?=some u':=by have:=congrArg (·[1]?) I;simpa using this
  split at hk
  ·rename_i e f hd ad;obtain⟨W,H⟩:=kp hk;simp only[qbs]at H;obtain⟨p,hp,q,hq,Z⟩:=H;obtain⟨u3,w',hr,g⟩:=kbjg (ty:=ty) S h0 h1 hd ad W K F hp hq;exact⟨q.1,q.2,k64 Z,u3,w',by simp[builtin,hr],g⟩
  ·cases hk
 ·rename_i t aa q n c q' n' c' I;obtain⟨u,us',rfl,K,C⟩:=hx.cons_inv;obtain⟨u2,U,rfl,F,y⟩:=C.cons_inv;have:=y.nil_inv;subst this;have h0:ts[0]?=some t:=by have:=congrArg (·[0]?) I;simpa using this
  split at hk
  ·rename_i e hd;obtain⟨W,H⟩:=kp hk;simp only[qbs]at H;obtain⟨h',hc,Z⟩:=H;obtain⟨u3,w',hr,g⟩:=kbaz (ty:=ty) S h0 hd W K F hc;exact⟨_,h',Z,u3,w',by simp[builtin,hr],g⟩
  ·cases hk
 ·cases hk
theorem kph:(Extern.allNextRows.lookup "math/bits.Add64").isSome=false/\(Extern.allNextRows.lookup "math/bits.Sub64").isSome=false/\(Extern.allNextRows.lookup "").isSome=false:=by refine⟨by kernel_rfl,by kernel_rfl,by kernel_rfl⟩
theorem kx2:(Extern.allGenericRows.lookup "math/bits.Add64").isSome=false/\(Extern.allGenericRows.lookup "math/bits.Sub64").isSome=false:=by refine⟨by kernel_rfl,by kernel_rfl⟩
theorem k2m:(Extern.allTypedRows.lookup "math/bits.Add64").isSome=false/\(Extern.allTypedRows.lookup "math/bits.Sub64").isSome=false:=by refine⟨by kernel_rfl,by kernel_rfl⟩
def addSem(args:Array Value):Sem Value:=do
 let (x,y,c) <- Extern.MathBitsCarry.three "Add64" args
 pure (Extern.MathBitsCarry.pair ((x+y+c)%Extern.MathBitsCarry.m64) ((x+y+c)/Extern.MathBitsCarry.m64))
def subSem(args:Array Value):Sem Value:=do
 let (x,y,b) <- Extern.MathBitsCarry.three "Sub64" args
 pure (Extern.MathBitsCarry.pair ((x+Extern.MathBitsCarry.m64-y-b)%Extern.MathBitsCarry.m64) (if x<y+b then 1 else 0))
theorem k7x:Extern.allRows.lookup "math/bits.Add64" = some addSem:=by kernel_rfl
theorem k8v:Extern.allRows.lookup "math/bits.Sub64" = some subSem:=by kernel_rfl
theorem kbd4(name:String)(x y c:Value):Extern.MathBitsCarry.three name #[x,y,c]=(do
  let c:=(<- asInt c).toNat
  if c>1 then unsupported (.noEntry ("extern/math/bits." ++ name ++ ": a carry that is neither 0 nor 1"))
  pure ((<- asInt x).toNat,(<- asInt y).toNat,c)):=rfl
theorem k2d(name:String)(C F H:IntKind)(x y c:Int)(h:¬c.toNat>1)(w:World):(Extern.MathBitsCarry.three name #[.int C x,.int F y,.int H c]).run P w=.ok (x.toNat,y.toNat,c.toNat) w:=by rw[kbd4];simp only[Sem.run_bind,k50,Result.andThen_ok,Sem.run_ite,if_neg h,Sem.run_pure]
theorem kgz{α:Type}{x:Option α}(h:x.isSome=false):x=none:=by cases x<;>simp at h;rfl
theorem kvy{fn:Func}(y:Extern.allNextRows.lookup fn.name=none)(C:Extern.allNextRows.lookup fn.origin=none):Extern.findNext fn=none:=by unfold Extern.findNext;dsimp only;rw[y,C];rfl
theorem k0g{fn:Func}{s:Array Value->Sem Value}(y:Extern.allGenericRows.lookup fn.name=none)(C:Extern.allTypedRows.lookup fn.name=none)(F:Extern.allRows.lookup fn.name=some s):Extern.find fn=some s:=by unfold Extern.find;dsimp only;rw[y,C,F];rfl
theorem kbaq{μ:Mu}{f:FuncId}{fn:Func}(hf:P.funcs[f]?=some fn)(I:(fn.name == "runtime.NumGoroutine")=false) (hb:fn.body=none) (ho:fn.origin = "") {xs:List AV} {v:AV} (hp:prim fn.name xs=some v)
  {us:List Value} (hx:VRels μ xs us) (w:World):∃u,(callFunc f us.toArray).run P w=.ok (.value u) w/\VRel μ v u:=by
 have F:fn.name≠ "runtime.NumGoroutine" := by simpa using I
 unfold prim at hp;split at hp
 ·rename_i k1 x k2 y k3 c;obtain⟨u1,r1,rfl,v1,aa⟩:=hx.cons_inv;obtain⟨u2,r2,rfl,v2,ac⟩:=aa.cons_inv;obtain⟨u3,r3,rfl,v3,ad⟩:=ac.cons_inv;have:=ad.nil_inv;subst this;simp only[VRel]at v1 v2 v3;subst v1;subst v2;subst v3;have hm:(Extern.MathBitsCarry.m64:Nat)=18446744073709551616:=rfl;rcases kch hp with⟨H,K⟩ | ⟨_,K⟩
  ·obtain⟨W,Q⟩:=kp K;simp only[qbu]at W;simp only[beq_iff_eq]at H;cases Q;obtain⟨d1,d2,d3,d4⟩:=W;have U:Extern.findNext fn=none:=kvy (by rw[H];exact kgz kph.1) (by rw[ho];exact kgz kph.2.2);have V:Extern.find fn=some addSem:=k0g (by rw[H];exact kgz kx2.1) (by rw[H];exact kgz k2m.1) (by rw[H];exact k7x);have C:=k2d (P:=P) "Add64" k1 k2 k3 x y c (by omega) w;refine⟨Extern.MathBitsCarry.pair ((x.toNat+y.toNat+c.toNat)%Extern.MathBitsCarry.m64) ((x.toNat+y.toNat+c.toNat)/Extern.MathBitsCarry.m64),?_,?_⟩
   ·simp[callFunc,hf,F,hb,U,V,addSem,C,-String.reduceAppend]
   ·simp only[VRel];refine⟨_,rfl,qc ?_ (qc ?_ qb)⟩
    ·simp only[VRel,Value.int.injEq,true_and,hm];simp;omega
    ·simp only[VRel,Value.int.injEq,true_and,hm];simp;omega
  ·obtain⟨H,Q⟩:=kp K;obtain⟨W,ae⟩:=kp Q;simp only[qbu]at W;simp only[beq_iff_eq]at H;cases ae;obtain⟨d1,d2,d3,d4,d5⟩:=W;have U:Extern.findNext fn=none:=kvy (by rw[H];exact kgz kph.2.1) (by rw[ho];exact kgz kph.2.2);have V:Extern.find fn=some subSem:=k0g (by rw[H];exact kgz kx2.2) (by rw[H];exact kgz k2m.2) (by rw[H];exact k8v);have C:=k2d (P:=P) "Sub64" k1 k2 k3 x y c (by omega) w;refine⟨Extern.MathBitsCarry.pair ((x.toNat+Extern.MathBitsCarry.m64-y.toNat-c.toNat)%Extern.MathBitsCarry.m64) (if x.toNat<y.toNat+c.toNat then 1 else 0),?_,?_⟩
   ·simp[callFunc,hf,F,hb,U,V,subSem,C]
   ·simp only[VRel];refine⟨_,rfl,qc ?_ (qc ?_ qb)⟩
    ·simp only[VRel,Value.int.injEq,true_and,hm];simp;omega
    ·simp only[VRel,Value.int.injEq,true_and];by_cases Z:x<y+c
     ·rw[if_pos (by omega)];simp[Z]
     ·rw[if_neg (by omega)];simp[Z]
 ·cases hp
end Go.Ab
namespace Go.Ab
open Go.MapKept
variable{P:Program}{O:World}{R:Type}
def Ents(μ:Mu)(es:List AEnt)(us:Array MapEntry):Prop:=us.size=es.length/\
 ∀(j:Nat)(e:AEnt),es[j]?=some e->∃u:MapEntry,us[j]?=some u/\VRel μ e.key u.key/\VRel μ e.val u.val/\u.born=e.born
theorem kij{μ:Mu}{h:AH}{w:World}(S:Sim P O μ h w){i:Nat}{L:Loc}(C:μ i=some L){p:List AEnt×Nat}(hp:h.mapAt i=some p):∃us,w.heap[L.block]?=some (.map us p.2)/\Ents μ p.1 us/\h.blks[i]?=some (.map p.1 p.2):=by
 unfold AH.mapAt at hp;split at hp
 ·rename_i es I y;cases hp;obtain⟨us,F,H⟩:=S.blk i L _ C y;exact⟨us,F,H,y⟩
 ·cases hp
theorem kmj{μ:Mu}{kd:IntKind}{n:Int}:∀{es:List AEnt}{us:List MapEntry}{i:Nat}{q:Option (Nat×AV)},(us.length=es.length/\∀(j:Nat)(e:AEnt),es[j]?=some e->∃u:MapEntry,us[j]?=some u/\VRel μ e.key u.key/\VRel μ e.val u.val/\u.born=e.born)->findA kd n es i=some q->
  match q with
  | none=>Instr.findNow (.int kd) (.int kd n) us i=some none
  | some x=>∃j u e,x.1=i+j/\es[j]?=some e/\e.key=.int kd n/\e.val=x.2/\us[j]?=some u/\u.key=.int kd n/\Instr.findNow (.int kd) (.int kd n) us i=some (some (i+j,u.val))/\VRel μ x.2 u.val/\u.born=e.born
 | [],us,i,q,h,y=>by
  simp only[findA,qb8]at y;subst y;have:us=[]:=List.length_eq_zero_iff.1 h.1;subst this;rfl
 | e::es,us,i,q,h,y=>by
  cases us with
  | nil=>simp at h
  | cons u us =>
   obtain⟨u0,I,hk,hv,U⟩:=h.2 0 e rfl;cases I;have K:us.length=es.length/\∀(j:Nat)(e:AEnt),es[j]?=some e->∃u:MapEntry,us[j]?=some u/\VRel μ e.key u.key/\VRel μ e.val u.val/\u.born=e.born:=⟨by simpa using h.1,λj e V=>h.2 (j+1) e V⟩;simp only[findA]at y;split at y
   ·rename_i C m F;rw[F]at hk;simp only[VRel]at hk;by_cases H:C=kd
    ·subst H;simp only[decide_true,cond_true]at y;by_cases Q:n=m
     ·subst Q;simp only[decide_true,cond_true,qb8]at y;subst y;refine⟨0,u,e,rfl,rfl,F,rfl,rfl,hk,?_,hv,U⟩;simp[Instr.findNow,Instr.sameNow,hk]
     ·simp only[Q,decide_false,cond_false]at y;have ih:=kmj K y
      have step:Instr.findNow (.int C) (.int C n) (u::us) i=Instr.findNow (.int C) (.int C n) us (i+1):=by simp[Instr.findNow,Instr.sameNow,hk,show(n==m)=false from by simp[Q]]
      cases q with
      | none =>
       show Instr.findNow _ _ _ _=_;rw[step];exact ih
      | some x =>obtain⟨j,W,Z,h1,h2,h3,h4,h5,h6,h7,h8,h9⟩:=ih;exact⟨j+1,W,Z,by omega,h2,h3,h4,h5,h6,by rw[step,h7];congr 3;omega,h8,h9⟩
    ·simp[H]at y
   ·cases y
theorem Ents.list{μ:Mu}{es:List AEnt}{us:Array MapEntry}(e:Ents μ es us):us.toList.length=es.length/\∀(j:Nat)(x:AEnt),es[j]?=some x->∃u:MapEntry,us.toList[j]?=some u/\VRel μ x.key u.key/\VRel μ x.val u.val/\u.born=x.born:=⟨by simpa using e.1,λj x y=>by simpa using e.2 j x y⟩
theorem Ents.push{μ:Mu}{es:List AEnt}{us:Array MapEntry}(e:Ents μ es us){x:AEnt}{u:MapEntry}(hk:VRel μ x.key u.key)(hv:VRel μ x.val u.val)(F:u.born=x.born):Ents μ (es++[x]) (us.push u):=by
 refine⟨by simp[e.1],λj y C=>?_⟩;rcases Nat.lt_or_ge j es.length with h | h
 ·rw[List.getElem?_append_left h]at C;obtain⟨H,I,K⟩:=e.2 j y C;exact⟨H,by rw[Array.getElem?_push,if_neg (by rw[e.1];omega)];exact I,K⟩
 ·rw[List.getElem?_append_right h]at C
  have Q:j-es.length=0:=by
   rcases Nat.eq_zero_or_pos (j-es.length)with h0 | h0
   ·exact h0
   ·rw[List.getElem?_eq_none (by simp;omega)]at C;cases C
  rw[Q]at C;cases C;exact⟨u,by rw[Array.getElem?_push,if_pos (by rw[e.1];omega)],hk,hv,F⟩
theorem Ents.modify{μ:Mu}{es:List AEnt}{us:Array MapEntry}(e:Ents μ es us){i:Nat}{f:AEnt->AEnt}{g:MapEntry->MapEntry}(H:∀x u,es[i]?=some x->us[i]?=some u->VRel μ x.key u.key->VRel μ x.val u.val->u.born=x.born->VRel μ (f x).key (g u).key/\VRel μ (f x).val (g u).val/\(g u).born=(f x).born):Ents μ (es.modify i f) (us.modify i g):=by
 refine⟨by simp[e.1],λj y C=>?_⟩;rw[List.getElem?_modify]at C;simp only[Array.getElem?_modify];by_cases F:i=j
 ·subst F;simp only[if_true,Option.map_eq_map]at C|-;rw[Option.map_eq_some_iff]at C;obtain⟨x,I,rfl⟩:=C;obtain⟨u,K,Q,U,V⟩:=e.2 i x I;exact⟨g u,by simp[K],H x u I K Q U V⟩
 ·simp only[F,if_false]at C|-;exact e.2 j y (by simpa using C)
theorem Ents.erase{μ:Mu}{es:List AEnt}{us:Array MapEntry}(e:Ents μ es us){i:Nat}(C:i<es.length):Ents μ (es.eraseIdx i) (us.eraseIdxIfInBounds i):=by
 have I:us.eraseIdxIfInBounds i=us.eraseIdx i (by rw[e.1];exact C):=by unfold Array.eraseIdxIfInBounds;rw[dif_pos (by rw[e.1];exact C)]
 rw[I];refine⟨by simp[List.length_eraseIdx,e.1,C],λj y F=>?_⟩;have H:=e.list;have key:∀j,(us.eraseIdx i (by rw[e.1];exact C))[j]?=(us.toList.eraseIdx i)[j]?:=λj=>by rw[<- Array.getElem?_toList,Array.toList_eraseIdx]
 rw[key];rw[List.getElem?_eraseIdx]at F|-;split at F
 ·rename_i h;rw[if_pos h];exact H.2 j y F
 ·rename_i h;rw[if_neg h];exact H.2 (j+1) y F
theorem k0d{μ:Mu}{t:TypeId}{z:AV}(h:zeroA P t=some z)(w:World):∃u,(zeroValue t).run P w=.ok u w/\VRel μ z u:=by unfold zeroA at h;obtain⟨i,y,h⟩:=qbs.1 h;obtain⟨u,C,h⟩:=qbs.1 h;exact⟨u,by simp[zeroValue,typeInfo,y,C],VRel.ofValue h⟩
theorem kgt{μ:Mu}{h:AH}{w:World}(S:Sim P O μ h w){i:Nat}{L:Loc}(C:μ i=some L){es es':List AEnt}{F ck':Nat}(H:h.blks[i]?=some (.map es F)){us':Array MapEntry}(e:Ents μ es' us') :
  Good P O μ h w (.tup []) (h.setBlk i (.map es' ck')) undef {w with heap:=w.heap.setIfInBounds L.block (.map us' ck')}:=by
 have y:=(S.place i L C).2;obtain⟨s1,s2,s3⟩:=knp S C H (by simp) (b':=.map es' ck') (o:=.map us' ck') ⟨us',World.putObj_heap_same y,e⟩;exact⟨μ,by simp[VRel,undef,VRels],s1,s2,s3⟩
section ops
variable{μ:Mu}{h:AH}{w:World}(S:Sim P O μ h w)
include S
theorem kbfi{t Q et:TypeId}{kd:IntKind}(U:P.underlying t=some (.map Q et))(hk:P.underlying Q=some (.int kd)){i:Nat}{L:Loc}(H:μ i=some L){n:Int}{v:AV}{u:Value}(hv:VRel μ v u){h':AH}(hp:mapPut h i kd n v=some h') :
  ∃w',(Instr.mapUpdate t (.map (some L.block)) (.int kd n) u).run P w=.ok () w'/\Good P O μ h w (.tup []) h' undef w':=by
 obtain⟨p,h1,h2⟩:=qbs.1 hp;obtain⟨q,h3,V⟩:=Option.map_eq_some_iff.1 h2;obtain⟨us,F,I,W⟩:=kij S H h1;have Z:=kmj I.list h3;have C:IsKey (.int kd) (.int kd n):=rfl;cases q with
 | none =>
  subst V;refine⟨_,?_,kgt S H W (us':=us.push {key:=.int kd n,val:=u,born:=p.2}) (I.push (by simp[VRel]) hv rfl)⟩;simp[Instr.mapUpdate,run_underlying U,MapKept.run_getObj_map F,run_checkKey hk C,run_findKey hk Z,MapKept.run_setObj_map _ F,Result.andThen]
 | some x =>
  subst V;obtain⟨j,u',e,e1,e2,e3,e4,e5,e6,e7,e8,e9⟩:=Z;rw[Nat.zero_add]at e1 e7;have hj:us[j]?=some u':=by simpa using e5
  dsimp only;rw[e1];refine⟨_,?_,kgt S H W (us':=us.modify j λe=>{e with key:=.int kd n,val:=u}) (I.modify λx y _ _ _ _ K=>⟨by simp[VRel],hv,K⟩)⟩;simp[Instr.mapUpdate,run_underlying U,MapKept.run_getObj_map F,run_checkKey hk C,run_findKey hk e7,hj,e6,run_keyThatStays C,MapKept.run_setObj_map _ F,Result.andThen]
theorem k7p{t U V:TypeId}{kd:IntKind}(Q:P.underlying t=some (.map U V))(hk:P.underlying U=some (.int kd)){r:Option Nat}{u:Value}(K:VRel μ (.map r) u){n:Int}{q:Option AV}(hq:mapGet h r kd n=some q){z:AV}(hz:zeroA P V=some z)(F:Bool) :
  ∃x,(Instr.lookup t u (.int kd n) F).run P w=.ok x w/\VRel μ (cond F (.tup [q.getD z,.bool q.isSome]) (q.getD z)) x:=by
 have y:IsKey (.int kd) (.int kd n):=rfl;obtain⟨W,H,I⟩:=k0d (μ:=μ) hz w
 have C:∀(x:Value)(b:Bool)(a:AV),VRel μ a x->VRel μ (cond F (.tup [a,.bool b]) a) (if F=true then .tuple #[x,.bool b]else x):=by
  intro x b a Z;cases F
  ·exact Z
  ·simp[VRel,VRels,Z]
 cases r with
 | none =>
  simp only[mapGet,qb8]at hq;subst hq;simp only[VRel]at K;subst K;refine⟨_,?_,C W false z I⟩;simp[Instr.lookup,run_underlying Q,run_checkKey hk y,Instr.findKey,run_underlying hk,Instr.findNow,H,Result.andThen]
 | some i =>
  simp only[VRel]at K;obtain⟨L,hL,rfl⟩:=K;obtain⟨p,h1,h2⟩:=qbs.1 hq;obtain⟨q',h3,h4⟩:=Option.map_eq_some_iff.1 h2;subst h4;obtain⟨us,hw,he,hb⟩:=kij S hL h1;have hf:=kmj he.list h3;cases q' with
  | none =>
   refine⟨_,?_,C W false z I⟩;simp[Instr.lookup,run_underlying Q,MapKept.run_getObj_map hw,run_checkKey hk y,run_findKey hk hf,H,Result.andThen]
  | some x =>obtain⟨j,u',e,e1,e2,e3,e4,e5,e6,e7,e8,e9⟩:=hf;refine⟨_,?_,C u'.val true x.2 e8⟩;simp[Instr.lookup,run_underlying Q,MapKept.run_getObj_map hw,run_checkKey hk y,run_findKey hk e7,Result.andThen]
theorem kbga{t Q et ty:TypeId}{kd:IntKind}(H:P.underlying t=some (.map Q et))(hk:P.underlying Q=some (.int kd)){r:Option Nat}{u:Value}(C:VRel μ (.map r) u){n:Int}{h':AH}(hp:mapDel h r kd n=some h'){U:Array TypeId}(h0:U[0]?=some t) :
  ∃w',(Builtin.delete_ U ty #[u,.int kd n]).run P w=.ok (.tuple #[]) w'/\Good P O μ h w (.tup []) h' (.tuple #[]) w':=by
 have y:IsKey (.int kd) (.int kd n):=rfl;cases r with
 | none =>
  simp only[mapDel,qb8]at hp;subst hp;simp only[VRel]at C;subst C;exact⟨w,by simp[Builtin.delete_,h0,run_underlying H,run_checkKey hk y,Result.andThen],qd S (by simp[VRel,VRels])⟩
 | some i =>
  simp only[VRel]at C;obtain⟨L,I,rfl⟩:=C;obtain⟨p,h1,h2⟩:=qbs.1 hp;obtain⟨q',h3,V⟩:=Option.map_eq_some_iff.1 h2;obtain⟨us,F,K,W⟩:=kij S I h1;have Z:=kmj K.list h3;cases q' with
  | none =>
   subst V;refine⟨_,?_,kgt S I W K⟩;simp[Builtin.delete_,h0,run_underlying H,MapKept.run_getObj_map F,run_checkKey hk y,run_findKey hk Z,MapKept.run_setObj_map _ F,Result.andThen]
  | some x =>subst V;obtain⟨j,u',e,e1,e2,e3,e4,e5,e6,e7,e8,e9⟩:=Z;rw[Nat.zero_add]at e1 e7;dsimp only;rw[e1];refine⟨_,?_,kgt S I W (K.erase (qcb.1 e2).1)⟩;simp[Builtin.delete_,h0,run_underlying H,MapKept.run_getObj_map F,run_checkKey hk y,run_findKey hk e7,MapKept.run_setObj_map _ F,Result.andThen]
theorem k97{t H I ty:TypeId}(C:P.underlying t=some (.map H I)){r:Option Nat}{u:Value}(y:VRel μ (.map r) u){n:Nat}(hp:mapLen h r=some n){F:Array TypeId}(h0:F[0]?=some t) :
  (Builtin.len_ F ty #[u]).run P w=.ok (.int .i64 (n:Int)) w:=by
 cases r with
 | none =>
  simp only[mapLen,qb8]at hp;subst hp;simp only[VRel]at y;subst y;simp[Builtin.len_,h0,run_underlying C,Result.andThen,goInt]
 | some i =>simp only[VRel]at y;obtain⟨L,K,rfl⟩:=y;obtain⟨p,Q,U⟩:=Option.map_eq_some_iff.1 hp;subst U;obtain⟨us,V,W,Z⟩:=kij S K Q;simp[Builtin.len_,h0,run_underlying C,MapKept.run_getObj_map V,Result.andThen,goInt,W.1]
theorem kbia{t K Q ty:TypeId}(C:P.underlying t=some (.map K Q)){r:Option Nat}{u:Value}(y:VRel μ (.map r) u){h':AH}(hp:kuy h r=some h'){F:Array TypeId}(h0:F[0]?=some t) :
  ∃w',(Builtin.clear_ F ty #[u]).run P w=.ok (.tuple #[]) w'/\Good P O μ h w (.tup []) h' (.tuple #[]) w':=by
 cases r with
 | none =>
  simp only[kuy,qb8]at hp;subst hp;simp only[VRel]at y;subst y;exact⟨w,by simp[Builtin.clear_,h0,run_underlying C,Result.andThen],qd S (by simp[VRel,VRels])⟩
 | some i =>simp only[VRel]at y;obtain⟨L,H,rfl⟩:=y;obtain⟨p,U,V⟩:=Option.map_eq_some_iff.1 hp;subst V;obtain⟨us,I,Z,W⟩:=kij S H U;refine⟨_,?_,kgt S H W (us':=#[]) ⟨rfl,by simp⟩⟩;simp[Builtin.clear_,h0,run_underlying C,MapKept.run_getObj_map I,MapKept.run_setObj_map _ I,Result.andThen]
theorem k78{t kt et:TypeId}{kd:IntKind}(ht:P.underlying t=some (.map kt et))(hk:P.underlying kt=some (.int kd)){i:Nat}{L:Loc}(Q:μ i=some L){n:Int}{z:AV}(hz:zeroA P et=some z){q:AV×Int×AH}(hp:mapEnt h i kd n z=some q) :
  ∃u w',(Instr.mapEntry t (.map (some L.block)) (.int kd n)).run P w=.ok u w'/\Good P O μ h w (.tup [q.1,.int .i64 q.2.1]) q.2.2 u w':=by
 obtain⟨p,h1,h2⟩:=qbs.1 hp;obtain⟨q',h3,h4⟩:=qbs.1 h2;obtain⟨us,K,U,hb⟩:=kij S Q h1;have hf:=kmj U.list h3;have C:IsKey (.int kd) (.int kd n):=rfl;obtain⟨uz,V,F⟩:=k0d (μ:=μ) hz w;cases q' with
 | none =>
  cases h4;obtain⟨ν,_,W,H,Z⟩:=kgt S Q hb (ck':=p.2+1) (us':=us.push {key:=.int kd n,val:=uz,born:=p.2}) (es':=p.1++[⟨.int kd n,z,p.2⟩]) (U.push (by simp[VRel]) F rfl);refine⟨.tuple #[uz,.int .i64 (p.2:Int)],_,?_,ν,by simp[VRel,VRels,F.mono H.2.1],W,H,Z⟩;simp[Instr.mapEntry,run_underlying ht,MapKept.run_getObj_map K,run_checkKey hk C,run_findKey hk hf,V,MapKept.run_setObj_map _ K,Result.andThen,goInt]
 | some x =>
  obtain⟨j,u',e,e1,e2,e3,e4,e5,e6,e7,e8,e9⟩:=hf;rw[Nat.zero_add]at e1 e7;have hj:us[j]?=some u':=by simpa using e5
  obtain⟨e',I,hq⟩:=Option.map_eq_some_iff.1 h4;rw[e1,e2]at I;cases I;cases hq;obtain⟨ν,_,W,H,Z⟩:=kgt S Q hb (ck':=p.2) (us':=us.modify j λe=>{e with key:=.int kd n}) (es':=p.1.modify j λe=>⟨.int kd n,e.val,e.born⟩) (U.modify λx y _ _ _ hv aa=>⟨by simp[VRel],hv,aa⟩);dsimp only;rw[e1];refine⟨.tuple #[u'.val,.int .i64 (e.born:Int)],_,?_,ν,by simp[VRel,VRels,e8.mono H.2.1],W,H,Z⟩;simp[Instr.mapEntry,run_underlying ht,MapKept.run_getObj_map K,run_checkKey hk C,run_findKey hk e7,hj,e6,run_keyThatStays C,MapKept.run_setObj_map _ K,Result.andThen,goInt,e9]
theorem k54{t:TypeId}{i:Nat}{L:Loc}(Z:μ i=some L){kd:IntKind}{n:Int}{v:AV}{u:Value}(hv:VRel μ v u){h':AH}(hp:mapSet h i n v=some h') :
  ∃w',(Instr.entryStore t (.map (some L.block)) (.int kd n) u).run P w=.ok () w'/\Good P O μ h w (.tup []) h' undef w':=by
 obtain⟨p,h1,h2⟩:=qbs.1 hp;obtain⟨j,C,h4⟩:=Option.map_eq_some_iff.1 h2;subst h4;obtain⟨us,K,Q,hb⟩:=kij S Z h1;refine⟨_,?_,kgt S Z hb (us':=us.modify j λe=>{e with val:=u}) (Q.modify λx y _ _ hk _ F=>⟨hk,hv,F⟩)⟩
 have I:us.findIdx? (λe=>(e.born:Int)==n)=some j:=by
  have H:=Q.list;rw[show us.findIdx? (λe=>(e.born:Int)==n)=us.toList.findIdx? (λe=>(e.born:Int)==n)from by cases us;simp];clear Q hb K h1 hp h2;generalize us.toList=ul at H;generalize p.1=el at H C
  induction el generalizing ul j with
  | nil=>simp at C
  | cons x xs ih =>
   cases ul with
   | nil=>simp at H
   | cons y ys =>
    obtain⟨y0,U,_,_,F⟩:=H.2 0 x rfl;cases U;rw[List.findIdx?_cons]at C|-;rw[F];by_cases V:(x.born:Int)=n
    ·simp[V]at C|-;exact C
    ·simp only[V,decide_false,qcj,if_false]at C;simp only[beq_iff_eq,V,if_false];obtain⟨j',W,rfl⟩:=Option.map_eq_some_iff.1 C;rw[ih _ ys ⟨by simpa using H.1,λk z hz=>H.2 (k+1) z hz⟩ W];rfl
 simp[Instr.entryStore,MapKept.run_getObj_map K,asInt,asIntOf,I,MapKept.run_setObj_map _ K,Result.andThen]
end ops
end Go.Ab
namespace Go.Ab
variable{P:Program}{O:World}{R:Type}
def Ends(G:Value->World->Prop):Ending->World->Prop:=λe w'=>∃u,e=.returned u/\G u w'
def mark(r:Nat):Deferred:={target:=.collected r,args:=#[]}
structure Marks(O:World)(μ:Mu)(h:AH)(w:World)(ds:List Nat):Prop where
 nodup:ds.Nodup
 old:∀r∈ds,O.heap.size<=r/\r<w.heap.size
 has:∀r∈ds,w.heap[r]?=some (.deferred (some []))
 free:∀r∈ds,∀i L,Live h i->μ i=some L->L.block≠r
theorem Marks.nil{μ:Mu}{h:AH}{w:World}:Marks O μ h w []:=⟨by simp,by simp,by simp,by simp⟩
theorem Marks.step{μ ν:Mu}{h h':AH}{w w':World}{ds:List Nat}(m:Marks O μ h w ds)(S:Sim P O μ h w)(U:Sim P O ν h' w')(e:Ext μ h w ν h')(f:Frm μ h w w'):Marks O ν h' w' ds:=by
 refine⟨m.nodup,λr y=>⟨(m.old r y).1,qbp (m.old r y).2 f.1⟩,λr y=>?_,λr y i L H C Q=>?_⟩
 ·rw[f.2 r (m.old r y).2 λi L _ H C=>m.free r y i L H C];exact m.has r y
 ·obtain⟨e1,e2,e3,V,W⟩:=e;rcases Nat.lt_or_ge i h.blks.size with F | I
  ·exact m.free r y i L (V i F H) (by rw[<- e3 i F];exact C) Q
  ·rcases W i L I (U.dom i L C) C with h1 | ⟨j,M,hj,K,Z,hb⟩
   ·have:=(m.old r y).2;omega
   ·exact m.free r y j M K Z (hb.trans Q)
def GoodX(P:Program)(O:World)(ds:List Nat)(μ:Mu)(h:AH)(w:World)(v:AV)(h':AH)(u:Value)(w':World):Prop:=∃ν,VRel ν v u/\Sim P O ν h' w'/\Ext μ h w ν h'/\w.heap.size<=w'.heap.size/\∀b,b<w.heap.size->b∉ds->(∀i L,i<h.blks.size->Live h i->μ i=some L->L.block≠b)->w'.heap[b]?=w.heap[b]?
theorem GoodX.nil{μ:Mu}{h:AH}{w:World}{v:AV}{h':AH}{u:Value}{w':World}(g:GoodX P O [] μ h w v h' u w'):Good P O μ h w v h' u w':=by obtain⟨ν,y,C,F,H,I⟩:=g;exact⟨ν,y,C,F,H,λb K Q=>I b K (by simp) Q⟩
theorem GoodX.trans{μ ν:Mu}{h C:AH}{w V:World}{v:AV}{h':AH}{u:Value}{w':World}{ds F:List Nat}(e:Ext μ h w ν C)(f:Frm μ h w V)(H:∀r∈F,r∈ds\/w.heap.size<=r)(g:GoodX P O F ν C V v h' u w'):GoodX P O ds μ h w v h' u w':=by
 obtain⟨ξ,g1,g2,g3,g4,g5⟩:=g;refine⟨ξ,g1,g2,e.trans g3 f.1,qbo f.1 g4,λk hk I K=>(g5 k (qbp hk f.1) ?_ λi L hi hl W Z=>?_).trans (f.2 k hk K)⟩
 ·intro hm;rcases H k hm with C | C
  ·exact I C
  ·omega
 ·obtain⟨e1,e2,e3,e4,e5⟩:=e;rcases Nat.lt_or_ge i h.blks.size with y | Q
  ·exact K i L y (e4 i y hl) (by rw[<- e3 i y];exact W) Z
  ·rcases e5 i L Q hi W with C | ⟨j,M,hj,U,hM,hb⟩
   ·omega
   ·exact K j M hj U hM (hb.trans Z)
def Fin(P:Program)(ro:Option Nat)(b:Frame)(todo:List Item)(a:Act)(w:World)(G:Value->World->Prop):Prop :=
 match ro with
 | none=>∀cs,∃u w' fr,G u w'/\Steps P (lone (b.atR a todo) cs w) (lone fr cs w')/\fr.fn=b.fn/\fr.leaving P w' (.returned u)
 | some _=>∀c cs,∃u w',G u w'/\Steps P (lone (b.atR a todo) (c::cs) w) (lone (c.finish u) cs w')
theorem Fin.of_steps{ro:Option Nat}{b:Frame}{todo todo':List Item}{a a':Act}{w w':World}{G:Value->World->Prop}(hs:∀cs,Steps P (lone (b.atR a todo) cs w) (lone (b.atR a' todo') cs w'))(h:Fin P ro b todo' a' w' G):Fin P ro b todo a w G:=by
 cases ro with
 | none =>
  intro cs;obtain⟨u,y,fr,C,F,H⟩:=h cs;exact⟨u,y,fr,C,(hs cs).trans F,H⟩
 | some l =>intro c cs;obtain⟨u,y,C,F⟩:=h c cs;exact⟨u,y,C,(hs _).trans F⟩
theorem Fin.mono{ro:Option Nat}{b:Frame}{todo:List Item}{a:Act}{w:World}{G H:Value->World->Prop}(h:Fin P ro b todo a w G)(I:∀u w',G u w'->H u w'):Fin P ro b todo a w H:=by
 cases ro with
 | none =>
  intro cs;obtain⟨u,y,fr,C,F⟩:=h cs;exact⟨u,y,fr,I _ _ C,F⟩
 | some l =>intro c cs;obtain⟨u,y,C,F⟩:=h c cs;exact⟨u,y,I _ _ C,F⟩
theorem Fin.of_some{ro:Option Nat}{b:Frame}{todo todo':List Item}{a:Act}{w:World}{G:Value->World->Prop}{X:Act->World->Prop}(hs:∀cs,∃a' w',X a' w'/\Steps P (lone (b.atR a todo) cs w) (lone (b.atR a' todo') cs w'))(h:∀a' w',X a' w'->Fin P ro b todo' a' w' G):Fin P ro b todo a w G:=by
 cases ro with
 | none =>
  intro cs;obtain⟨a',w',C,y⟩:=hs cs;obtain⟨u,F,fr,H,I,K⟩:=h a' w' C cs;exact⟨u,F,fr,H,y.trans I,K⟩
 | some l =>intro c cs;obtain⟨a',w',C,y⟩:=hs (c::cs);obtain⟨u,F,H,I⟩:=h a' w' C c cs;exact⟨u,F,H,y.trans I⟩
theorem kbfr{fr:Frame}{cs:List Frame}{w:World}{r:Nat}{ds:List Deferred}(y:fr.mode=.returning)(C:fr.defers=mark r::ds)(F:w.heap[r]?=some (.deferred (some []))) :
  step P (lone fr cs w)=.next (lone {fr with defers:=ds} cs (w.putObj r (.deferred none))) :=
 step_lone_go (by have:=run_takeDeferred (P:=P) F;simp[stepG,unwind,y,C,mark,Sem.runT_eq,this])
theorem returns{fn:Func}{v:AV}{h:AH}:∀(ds:List Nat){μ:Mu}{w:World}(k:Frame),P.funcs[k.fn]?=some fn->k.kind=.normal->k.mode=.returning->
  k.defers=ds.map mark->Sim P O μ h w->Marks O μ h w ds->(∀w',Sim P O μ h w'->∃u,(results fn k.tmps).run P w'=.ok u w'/\VRel μ v u)->
  ∀cs,∃u w' y,GoodX P O ds μ h w v h u w'/\Steps P (lone k cs w) (lone y cs w')/\y.fn=k.fn/\y.leaving P w' (.returned u)
 | [],μ,w,k,C,hk,F,U,S,M,V,cs=>by
  obtain⟨u,h1,h2⟩:=V w S;exact⟨u,w,k,⟨μ,h2,S,Ext.refl _ _ _,qbn _,λ_ _ _ _=>rfl⟩,Steps.refl _ _,rfl,F,by rw[U];rfl,hk,fn,C,h1⟩
 | r::ds,μ,w,k,C,hk,F,U,S,M,V,cs=>by
  have I:=M.old r (by simp);have S':Sim P O μ h (w.putObj r (.deferred none)):=k76 S I.1 (λi L hl hL=>M.free r (by simp) i L hl hL) _;have K:=List.nodup_cons.1 M.nodup
  have M':Marks O μ h (w.putObj r (.deferred none)) ds:=⟨K.2,λx H=>by simpa using M.old x (by simp[H]),λx H=>by rw[World.putObj_heap_other (λe=>K.1 (by rw[<- e];exact H))];exact M.has x (by simp[H]),λx H=>M.free x (by simp[H])⟩
  obtain⟨u,w',y,g,st,W,Z⟩:=returns ds {k with defers:=ds.map mark} C hk F rfl S' M' V cs;obtain⟨ν,g1,g2,g3,g4,g5⟩:=g;refine⟨u,w',y,⟨ν,g1,g2,?_,by simpa using g4,λb hb Q hn=>?_⟩,Steps.trans (Steps.one (kbfr F U (M.has r (by simp)))) st,W,Z⟩
  ·obtain⟨W,Z,e3,e4,e5⟩:=g3;exact⟨W,Z,e3,e4,λi L a b c=>by have:=e5 i L a b c;simpa using this⟩
  ·have aa:b≠r:=λe=>Q (by simp[e]);rw[g5 b (by simpa using hb) (λF=>Q (by simp[F])) hn,World.putObj_heap_other aa]
section steps
variable{b:Frame}{a:Act}{k:List Item}{cs:List Frame}{w:World}
theorem kbhb{body:Code}:step P (lone (b.atR a (.code (.scope body)::k)) cs w)=.next (lone (b.atR a (.code body::.inScope body::k)) cs w):=step_lone_go (by simp[stepG,stepG.exec,Frame.atR])
theorem kba0{body:Code}:step P (lone (b.atR a (.inScope body::k)) cs w)=.next (lone (b.atR a k) cs w):=step_lone_go (by simp[stepG,stepG.exec,Frame.atR])
end steps
def k3l(P:Program)(l:Nat)(args:Array Value)(w:World)(G:Value->World->Prop):Prop:=∃f tmps as bd,(Instr.yield l args).run P w=.ok (.round l f tmps as bd) w/\∀c cs,∃u w',G u w'/\Steps P (lone (Frame.round l f tmps as bd .normal) (c::cs) w) (lone (c.finish u) cs w')
structure RecOk(P:Program)(O:World)(rec:Rec):Prop where
 fn:∀{f:FuncId}{xs:List AV}{h:AH}{v:AV}{h':AH},rec (.fn f xs) h=some (v,h')->∀{μ:Mu}{w:World}{us:List Value},Sim P O μ h w->VRels μ xs us->
  Calls P f us.toArray w (Ends (Good P O μ h w v h'))
 pt:∀{f:FuncId}{todo:List Item}{fr:Fr}{h:AH}{v:AV}{h':AH},rec (.pt f todo fr) h=some (v,h')->∀{fn:Func},P.funcs[f]?=some fn->∀{μ:Mu}{w:World}{b:Frame}{a:Act}{ds:List Nat},b.fn=f->b.kind=.normal->b.roundOf=none->a.defers=ds.map mark->Marks O μ h w ds->
  Sim P O μ h w->FRel μ fn.ntmps fr a.tmps->Fin P none b todo a w (GoodX P O ds μ h w v h')
 round:∀{l:Nat}{xs:List AV}{h:AH}{v:AV}{h':AH},rec (.round l xs) h=some (v,h')->∀{μ:Mu}{w:World}{us:List Value}{L:Loc},Sim P O μ h w->VRels μ xs us->μ l=some L->
  k3l P L.block us.toArray w (Good P O μ h w v h')
 rpt:∀{l:Nat}{f:FuncId}{todo:List Item}{fr:Fr}{h:AH}{v:AV}{h':AH},rec (.rpt l f todo fr) h=some (v,h')->∀{fn:Func},P.funcs[f]?=some fn->∀{μ:Mu}{w:World}{b:Frame}{a:Act}{L:Loc},b.fn=f->b.kind=.normal->μ l=some L->b.roundOf=some L.block->a.defers=[]->
  Sim P O μ h w->FRel μ fn.ntmps fr a.tmps->Fin P (some l) b todo a w (GoodX P O [] μ h w v h')
theorem kve{rec:Rec}(H:RecOk P O rec){f:FuncId}{xs:List AV}{h:AH}{v:AV}{h':AH}(K:callF P rec f xs h=some (v,h')){μ:Mu}{w:World}{us:List Value}(S:Sim P O μ h w)(V:VRels μ xs us) :
  ((callFunc f us.toArray).run P w=.ok (.enter f us.toArray) w/\Calls P f us.toArray w (Ends (Good P O μ h w v h')))\/∃u,(callFunc f us.toArray).run P w=.ok (.value u) w/\Good P O μ h w v h' u w:=by
 unfold callF at K;split at K
 ·rename_i fn W;obtain⟨y,F⟩:=kd2 K;have C:fn.name≠ "runtime.NumGoroutine" := by simpa using y
  split at F
  ·rename_i c Q
   left
   refine⟨?_,H.fn F S V⟩;simp[callFunc,W,C,Q]
  ·rename_i Q;obtain⟨Z,I⟩:=kp F;simp only[beq_iff_eq]at Z;simp only[Option.map_eq_some_iff,qb9]at I;obtain⟨x,hp,rfl,rfl⟩:=I;obtain⟨u,hu,U⟩:=kbaq W y Q Z hp V w;exact .inr ⟨u,hu,qd S U⟩
 ·cases K
theorem kbkd(C:Array TypeId)(t:TypeId)(y:Addr)(s m:ByteArray)(w:World):(Builtin.ssaWrapNilChk_ C t #[.pointer (some y),.string s,.string m]).run P w=.ok (.pointer (some y)) w:=rfl
theorem k8w{μ:Mu}{h:AH}{w:World}(S:Sim P O μ h w){t:TypeId}{name:String}{v:AV}{u:Value}(hv:VRel μ v u){R:Type}{k:FuncId->AV->Option R}{r:R}(hk:kkd P t name v h k=some r)(n:Nat) :
  ∃f v' C,k f v'=some r/\VRel μ v' C/\(method (n+1) t u name).run P w=.ok (f,C) w:=by
 unfold kkd at hk;split at hk
 ·rename_i i K;split at hk
  ·rename_i m Q;obtain⟨hp,hk⟩:=kp hk;have U:m.path.toList=[]:=by simpa using hp
   have base:∀(f:FuncId)(b:Bool),m.func=some (f,b)->(method (n+1) t u name).run P w=(do pure (f,<- receiverAt t (.val u) b (some ((name.splitOn ".").getLastD name))):Sem (FuncId×Value)).run P w:=by
    intro f b y;have F:m.path=#[]:=by simpa using hp
    simp[method,typeInfo,K,Q,F,follow,y]
   split at hk
   ·rename_i f e y H _;refine⟨f,_,u,hk,hv,?_⟩;rw[base f true y];simp only[receiverAt,Sem.run_bind,run_underlying H,Result.andThen_ok,Place.get,Sem.run_pure]
   ·rename_i f e q y H _;simp only[VRel]at hv;obtain⟨Z,V,rfl⟩:=hv;obtain⟨v',C,hk,I,W⟩:=kum S V hk;refine⟨f,v',C,hk,I,?_⟩;rw[base f false y];simp only[receiverAt,Sem.run_bind,run_underlying H,Result.andThen_ok,Place.get,Sem.run_pure,strVal,kbkd,asAddr,W]
   ·cases hk
  ·cases hk
 ·cases hk
theorem kbdh{rec:Rec}(V:RecOk P O rec){μ:Mu}{N:Nat}{fr:Fr}{h:AH}{w:World}{o:Oper}{a:Act}(S:Sim P O μ h w)(F:FRel μ N fr a.tmps){c:Call}(ho:o.op=.call c)
  {k:AV->AH->Option R} {r:R} (hk:callK P rec c o.type fr h k=some r):OpOk P O μ h w o a k r:=by
 unfold callK at hk;split at hk
 ·cases hk
 ·rename_i xs ac;have hx:=kdj F ac;have W:c.args.map a.eval=(c.args.toList.map a.eval).toArray:=by apply Array.ext';simp
  split at hk
  ·rename_i b hb;obtain⟨v,h1,H,u,w',hr,g⟩:=kbbq S hx hk o.type (c.args.map λ| .const _=>true | _=>false);refine⟨v,h1,H,qe ?_ g⟩;rw[kl0 _ _ _ ho];simp only[resolve,hb,Sem.run_bind,Sem.run_pure,Result.andThen_ok,invoke,W];exact hr
  ·rename_i f I;split at hk
   ·rename_i fv Z;simp only[qbs]at hk;obtain⟨q,hq,H⟩:=hk;have aa:=kry H;obtain⟨v,h1⟩:=q;refine⟨v,h1,aa,?_⟩;have C:=ks F Z;unfold callV at hq;split at hq
    ·rename_i g first captured
     simp only[VRel]at C;obtain⟨g',x,y,he,hg,ad,ae⟩:=C;simp only[FnRel]at hg;subst hg;have K:VRels μ (first++xs++captured) (x.toList++c.args.toList.map a.eval++y.toList):=(ad.append hx).append ae;have Q:x++c.args.map a.eval++y=(x.toList++c.args.toList.map a.eval++y.toList).toArray:=by apply Array.ext';simp
     have U:(execOp a.eval o).run P w=(callFunc g (x.toList++c.args.toList.map a.eval++y.toList).toArray).run P w:=by rw[kl0 _ _ _ ho,<- Q];simp only[resolve,I,he,Deferred.ofValue,Sem.run_bind,Sem.run_pure,Result.andThen_ok,invoke]
     rcases kve V hq S K with⟨h2,h3⟩ | ⟨u,h2,g2⟩
     ·exact OpGoes.of_call (by rw[U];exact h2) h3
     ·exact qe (by rw[U];exact h2) g2
    ·cases hq
   ·cases hk
  ·rename_i rc name I;split at hk
   ·rename_i fv Z;simp only[qbs]at hk;obtain⟨⟨ai,y⟩,hp,hk⟩:=hk;have C:=ks F Z;rw[kxp hp]at C;simp only[VRel]at C;obtain⟨uu,he,hu⟩:=C;obtain⟨n,hn⟩:∃n,P.types.size+Made.depth=n+1:=⟨P.types.size+99,rfl⟩;obtain⟨g,v',u',hk,af,ag⟩:=k8w S hu hk n;simp only[qbs]at hk;obtain⟨q,hq,H⟩:=hk;have aa:=kry H;obtain⟨v,h1⟩:=q;refine⟨v,h1,aa,?_⟩;have K:VRels μ (v'::xs) (u'::c.args.toList.map a.eval):=qc af hx
    have U:(execOp a.eval o).run P w=(callFunc g (u'::c.args.toList.map a.eval).toArray).run P w:=by
     rw[kl0 _ _ _ ho];have Q:#[u']++c.args.map a.eval=(u'::c.args.toList.map a.eval).toArray:=by apply Array.ext';simp
     have ah:(#[a.eval rc]++c.args.map a.eval).extract 1 (#[a.eval rc]++c.args.map a.eval).size=c.args.map a.eval:=by apply Array.ext';simp[List.take_of_length_le]
     rw[<- Q];simp only[resolve,I,Sem.run_bind,Sem.run_pure,Result.andThen_ok,invoke,ah];have h0:(#[a.eval rc]++c.args.map a.eval)[0]?=some (a.eval rc):=by rw[Array.getElem?_append_left (by simp)];rfl
     rw[h0];simp[callMethod,he,hn,ag]
    rcases kve V hq S K with⟨h2,h3⟩ | ⟨u,h2,g2⟩
    ·exact OpGoes.of_call (by rw[U];exact h2) h3
    ·exact qe (by rw[U];exact h2) g2
   ·cases hk
theorem kqu{rec:Rec}(y:RecOk P O rec){μ:Mu}{N:Nat}{fr:Fr}{h:AH}{w:World}{o:Oper}{a:Act}(S:Sim P O μ h w)(F:FRel μ N fr a.tmps)
  {k:AV->AH->Option R} {r:R} (hk:opK P rec o.op o.type fr h k=some r):OpOk P O μ h w o a k r:=by
 by_cases C:∃c,o.op=.call c
 ·obtain⟨c,C⟩:=C;have:callK P rec c o.type fr h k=some r:=by rw[C]at hk;exact hk
  exact kbdh y S F C this
 ·exact k7k (rec:=rec) S F (λc e=>C ⟨c,e⟩) hk
def After(P:Program)(O:World)(μ:Mu)(N:Nat)(h:AH)(w:World)(ds:List Deferred)(k:Fr->AH->Option (AV×AH))(r:AV×AH):Exit->Act->World->Prop:=λe a w' =>e=.normal/\a.defers=ds/\∃y h' ν,k y h'=some r/\Sim P O ν h' w'/\FRel ν N y a.tmps/\Ext μ h w ν h'/\Frm μ h w w'
theorem After.trans{μ ν:Mu}{N:Nat}{h C:AH}{w F:World}{ds:List Deferred}{k:Fr->AH->Option (AV×AH)}{r:AV×AH}(e:Ext μ h w ν C)(f:Frm μ h w F){x:Exit}{a:Act}{w':World}(g:After P O ν N C F ds k r x a w'):After P O μ N h w ds k r x a w':=by obtain⟨H,I,y,h',ξ,K,Q,U,V,W⟩:=g;exact⟨H,I,y,h',ξ,K,Q,U,e.trans V f.1,f.trans e W⟩
theorem kz1{N:Nat}{d:Option Tmp}{v:AV}{fr:Fr}{k:Fr->Option (AV×AH)}{r:AV×AH}(h:putT N d v fr k=some r){μ:Mu}{a:Act}(F:FRel μ N fr a.tmps){u:Value}(hv:VRel μ v u) :
  ∃y,k y=some r/\FRel μ N y (a.put d u).tmps:=by
 rw[khx]at h;cases d with
 | none=>exact⟨fr,h,F⟩
 | some t =>obtain⟨C,h⟩:=kp h;exact⟨_,h,F.put (by simpa[Nat.blt_eq]using C) hv⟩
theorem put_defers(a:Act)(d:Option Tmp)(u:Value):(a.put d u).defers=a.defers:=by cases d<;>rfl
theorem k8q{o:Oper}{a:Act}{w:World}{G:Value->World->Prop}(hg:OpGoes P o a w G)(V:∀c,o.op≠.defer c){ops:Array Oper}{i:Nat}{rest:List Nat}(Z:ops[i]?=some o)(hw:Region.wanted o (yielded ops a.tmps)=true)(b:Frame)(k:List Item)(cs:List Frame) :
  ∃u w',G u w'/\Steps P (lone (b.atR a (.inRegion ops (i::rest)::k)) cs w) (lone (b.atR (a.put o.dst u) (.inRegion ops rest::k)) cs w'):=by
 have h:=hg (λa' w'=>∃u,G u w'/\a'=a.put o.dst u) (λ_ _ _=>False) (λu w' g=>⟨u,g,rfl⟩);have H:=stepGR_op (P:=P) (b:=b) (k:=k) (cs:=cs) (w:=w) (rest:=rest) Z hw;rw[Oper.semAt_eq _ _ _ V]at H
 have F:∀v,(b.atR a (.inRegion ops (i::rest)::k)).finish v=b.atR (a.put o.dst v) (.inRegion ops rest::k):=by intro v;rw[Frame.finish_atR,Z];rfl
 simp only[Oper.wp,Oper.upon]at h;split at h
 ·rename_i v w' K;obtain⟨u,g,e⟩:=h;refine⟨u,w',g,Steps.one (step_lone_go ?_)⟩;rw[<- e,H,<- F];simp[stepG.apply,K]
 ·rename_i w' K;obtain⟨u,g,e⟩:=h;refine⟨u,w',g,Steps.one (step_lone_go ?_)⟩;rw[<- e,H,<- F];simp[stepG.apply,K]
 ·rename_i d w' K;obtain⟨u,g,e⟩:=h;have:=congrArg Act.defers e;rw[put_defers,put_defers]at this;simp at this
 ·rename_i f args w' K;obtain⟨e,Q,fr,U,y,_,I⟩:=h (b.atR a (.inRegion ops (i::rest)::k)::cs)
  have C:step P (lone (b.atR a (.inRegion ops (i::rest)::k)) cs w)=.next (lone (Frame.enter P f args .normal) (b.atR a (.inRegion ops (i::rest)::k)::cs) w'):=step_lone_go (by rw[H];simp[stepG.apply,K,Frame.atR])
  cases e with
  | returned v =>
   obtain⟨u,g,e⟩:=U;refine⟨u,Q,g,.head C (y.trans (.one ?_))⟩;rw[<- e,<- F];exact step_leave_returned I
  | panicked chain=>exact U.elim
  | outgrown =>obtain⟨_,_,hq⟩:=U;exact hq.elim
 ·rename_i W args w' K;obtain⟨v,Q,U,y⟩:=h (b.atR a (.inRegion ops (i::rest)::k)) cs
  have C:step P (lone (b.atR a (.inRegion ops (i::rest)::k)) cs w)=.next (lone (Frame.ofRow P W args .normal) (b.atR a (.inRegion ops (i::rest)::k)::cs) w'):=step_lone_go (by rw[H];simp[stepG.apply,K,Frame.atR])
  obtain⟨u,g,e⟩:=U;refine⟨u,Q,g,.head C ?_⟩;rw[<- e,<- F];exact y
 ·exact h.elim
 ·exact h.elim
theorem k38{o:Oper}{a:Act}{w:World}{G:Value->World->Prop}{c:Call}{f:Operand}{l:Nat}(y:o.op=.call c)(I:c.callee=.value f)(K:a.eval f=.func (.yield l) #[] #[])(Q:k3l P l (c.args.map a.eval) w G){ops:Array Oper}{i:Nat}{rest:List Nat}(H:ops[i]?=some o)(U:Region.wanted o (yielded ops a.tmps)=true)(b:Frame)(k:List Item)(cs:List Frame) :
  ∃u w',G u w'/\Steps P (lone (b.atR a (.inRegion ops (i::rest)::k)) cs w) (lone (b.atR (a.put o.dst u) (.inRegion ops rest::k)) cs w'):=by
 obtain⟨fn,tmps,as,bd,V,hs⟩:=Q;have C:=stepGR_op (P:=P) (b:=b) (k:=k) (cs:=cs) (w:=w) (rest:=rest) H U;rw[Oper.semAt_eq _ _ _ (by rw[y];intro c;simp)]at C
 have F:∀v,(b.atR a (.inRegion ops (i::rest)::k)).finish v=b.atR (a.put o.dst v) (.inRegion ops rest::k):=by intro v;rw[Frame.finish_atR,H];rfl
 have W:(execOp a.eval o).run P w=.ok (.round l fn tmps as bd) w:=by
  rw[kl0 _ _ _ y];simp only[resolve,I,K,Deferred.ofValue,Sem.run_bind,Sem.run_pure,Result.andThen_ok,invoke]
  simpa using V
 obtain⟨u,w',g,st⟩:=hs (b.atR a (.inRegion ops (i::rest)::k)) cs;refine⟨u,w',g,.head (m₁:=lone (Frame.round l fn tmps as bd .normal) (b.atR a (.inRegion ops (i::rest)::k)::cs) w) (step_lone_go ?_) ?_⟩
 ·rw[C];simp[stepG.apply,W]
 ·rw[<- F];exact st
theorem kbfu{o:Op}{fr:Fr}{p:Nat×List AV}(h:kjk o fr=some p):∃c f,o=.call c/\c.callee=.value f/\evs fr c.args.toList=some p.2/\evO fr f=some (.func (.yield p.1) [] []):=by
 unfold kjk at h;split at h
 ·rename_i c;split at h
  ·rename_i f xs y C;split at h
   ·rename_i l F;cases h;exact⟨c,f,rfl,y,C,F⟩
   ·cases h
  ·cases h
 ·cases h
theorem kbjm{rec:Rec}(ad:RecOk P O rec){N:Nat}{μ:Mu}{fr:Fr}{h:AH}{w:World}{o:Oper}{a:Act}(S:Sim P O μ h w)(F:FRel μ N fr a.tmps)
  {k:AV->AH->Option R} {r:R} (hk:opM P rec o.op o.type fr h k=some r):OpOk P O μ h w o a k r/\∀c,o.op≠.defer c:=by
 have put:∀{t:TypeId}{m x v:Operand},(execOp a.eval o=do Instr.mapUpdate t (a.eval m) (a.eval x) (a.eval v);pure .skip)->(match P.underlying t,evO fr m,evO fr x,evO fr v with
  | some (.map kt _),some (.map (some i)),some (.int kd n),some val=>match P.underlying kt with
   | some (.int K)=>cond (decide (kd=K)) ((mapPut h i kd n val).bind λh'=>k (.tup []) h') none
   | _=>none
  | _,_,_,_=>none)=some r->OpOk P O μ h w o a k r:=by
  intro t m x v he hk;split at hk
  ·rename_i kt et i kd n val ht hm Z hv;split at hk
   ·rename_i K U;obtain⟨C,V⟩:=kp hk;have C:kd=K:=by simpa using C
    subst C;obtain⟨h',hp,H⟩:=qbs.1 V;have I:=ks F hm;have h2:=ks F Z;have h3:=ks F hv;simp only[VRel]at I h2;obtain⟨L,hL,I⟩:=I;obtain⟨w',W,g⟩:=kbfi S ht U hL h3 hp;refine⟨_,h',H,OpGoes.of_skip (w':=w') ?_ g⟩;rw[he,I,h2];simp only[Sem.run_bind,W,Result.andThen_ok,Sem.run_pure]
   ·cases hk
  ·cases hk
 unfold opM at hk;split at hk
 ·rename_i t y;refine⟨⟨_,_,hk,?_⟩,by intro c;rw[y];simp⟩;obtain⟨s1,s2,s3⟩:=kyy S (b:=.map [] 0) (n:=0) (o:=.map #[] 0) (λν aj=>⟨#[],kmy _ _,rfl,by simp⟩);refine qf (s:=Instr.makeMap t none) (u:=.map (some w.heap.size)) (w':=w.alloc (.map #[] 0)) (by simp[execOp,y]) ?_ ⟨_,?_,s1,s2,s3⟩
  ·simp[Instr.makeMap,run_newObj_alloc,Result.andThen]
  ·simp only[VRel];exact⟨_,keb _ _ _,rfl⟩
 ·rename_i t m x v y;exact⟨put (by simp[execOp,y]) hk,by intro c;rw[y];simp⟩
 ·rename_i t m x v y;exact⟨put (by simp[execOp,y]) hk,by intro c;rw[y];simp⟩
 ·rename_i t m x ok y;refine⟨?_,by intro c;rw[y];simp⟩;split at hk
  ·rename_i kt et q kd n ht hm Z;split at hk
   ·rename_i K z U hz;obtain⟨C,V⟩:=kp hk;have C:kd=K:=by simpa using C
    subst C;obtain⟨q',hp,H⟩:=qbs.1 V;have I:=ks F hm;have h2:=ks F Z;simp only[VRel]at h2;obtain⟨u,W,hv⟩:=k7p S ht U I hp hz ok;have ah:k (cond ok (.tup [q'.getD z,.bool q'.isSome]) (q'.getD z)) h=some r:=by have ai:=kcz H;cases ok<;>exact ai
    refine⟨_,h,ah,qf (s:=Instr.lookup t (a.eval m) (a.eval x) ok) (by simp[execOp,y]) ?_ (qd S hv)⟩;rw[h2];exact W
   ·cases hk
  ·cases hk
 ·rename_i t m x y;refine⟨?_,by intro c;rw[y];simp⟩;split at hk
  ·rename_i kt et i kd n ht hm Z;split at hk
   ·rename_i K z U hz;obtain⟨C,V⟩:=kp hk;have C:kd=K:=by simpa using C
    subst C;obtain⟨q',hp,H⟩:=qbs.1 V;have I:=ks F hm;have h2:=ks F Z;simp only[VRel]at I h2;obtain⟨L,hL,I⟩:=I;obtain⟨u,w',W,g⟩:=k78 S ht U hL hz hp;refine⟨_,_,kcz H,qf (s:=Instr.mapEntry t (a.eval m) (a.eval x)) (by simp[execOp,y]) ?_ g⟩;rw[I,h2];exact W
   ·cases hk
  ·cases hk
 ·rename_i t m s v y;refine⟨?_,by intro c;rw[y];simp⟩;split at hk
  ·rename_i i kd n val hm hs hv;obtain⟨h',hp,H⟩:=qbs.1 hk;have I:=ks F hm;have h2:=ks F hs;have h3:=ks F hv;simp only[VRel]at I h2;obtain⟨L,hL,I⟩:=I;obtain⟨w',W,g⟩:=k54 S (t:=t) hL (kd:=kd) h3 hp;refine⟨_,h',H,OpGoes.of_skip (w':=w') ?_ g⟩;simp only[execOp,y,I,h2,Sem.run_bind,W,Result.andThen_ok,Sem.run_pure]
  ·cases hk
 ·rename_i c y;refine⟨?_,by intro c;rw[y];simp⟩
  have bi:∀{b:Builtin}{xs:List AV}{v:AV}{I:AH}{u:Value}{w':World},c.callee=.builtin b->evs fr c.args.toList=some xs->(∀{us:List Value},VRels μ xs us->∃u w',(builtin b c.argTypes o.type (c.args.map λ| .const _=>true | _=>false) us.toArray).run P w=.ok (.value u) w'/\Good P O μ h w v I u w')->OpGoes P o a w (Good P O μ h w v I):=by
   intro b xs v I _ _ hb Z W;have ae:c.args.map a.eval=(c.args.toList.map a.eval).toArray:=by apply Array.ext';simp
   obtain⟨u,w',W,g⟩:=W (kdj F Z);refine qe ?_ g;rw[kl0 _ _ _ y];simp only[resolve,hb,Sem.run_bind,Sem.run_pure,Result.andThen_ok,invoke,ae];exact W
  split at hk
  ·rename_i q t ts hb Z aa;have h0:c.argTypes[0]?=some t:=by have:=congrArg (·[0]?) aa;simpa using this
   split at hk
   ·rename_i kt et ht;obtain⟨n,hp,H⟩:=qbs.1 hk;refine⟨_,h,H,bi (u:=undef) (w':=w) hb Z λ{us} ac=>?_⟩;obtain⟨u,us',rfl,hu,Q⟩:=ac.cons_inv;have:=Q.nil_inv;subst this;have hl:=k97 S (ty:=o.type) ht hu hp h0;exact⟨.int .i64 (n:Int),w,by simp[builtin,hl],qd S (by simp[VRel])⟩
   ·cases hk
  ·rename_i q kd n t ts hb Z aa;have h0:c.argTypes[0]?=some t:=by have:=congrArg (·[0]?) aa;simpa using this
   split at hk
   ·rename_i kt et ht;split at hk
    ·rename_i K U;obtain⟨C,V⟩:=kp hk;have C:kd=K:=by simpa using C
     subst C;obtain⟨h',hp,H⟩:=qbs.1 V;refine⟨_,h',H,bi (u:=undef) (w':=w) hb Z λ{us} ac=>?_⟩;obtain⟨u,us',rfl,hu,Q⟩:=ac.cons_inv;obtain⟨u2,ak,rfl,af,ag⟩:=Q.cons_inv;have:=ag.nil_inv;subst this;simp only[VRel]at af;subst af;obtain⟨w',W,g⟩:=kbga S (ty:=o.type) ht U hu hp h0;exact⟨_,w',by simp[builtin,W],g⟩
    ·cases hk
   ·cases hk
  ·rename_i q t ts hb Z aa;have h0:c.argTypes[0]?=some t:=by have:=congrArg (·[0]?) aa;simpa using this
   split at hk
   ·rename_i kt et ht;obtain⟨h',hp,H⟩:=qbs.1 hk;refine⟨_,h',H,bi (u:=undef) (w':=w) hb Z λ{us} ac=>?_⟩;obtain⟨u,us',rfl,hu,Q⟩:=ac.cons_inv;have:=Q.nil_inv;subst this;obtain⟨w',W,g⟩:=kbia S (ty:=o.type) ht hu hp h0;exact⟨_,w',by simp[builtin,W],g⟩
   ·cases hk
  ·exact kqu ad S F hk
 ·refine⟨kqu ad S F hk,λc hc=>?_⟩;rw[hc]at hk;simp[opK]at hk
theorem kbbt{rec:Rec}(C:RecOk P O rec){N:Nat}{μ:Mu}{fr:Fr}{h:AH}{w:World}{o:Oper}{a:Act}(S:Sim P O μ h w)(F:FRel μ N fr a.tmps){k:AV->AH->Option R}{r:R}(hk:opY P rec o.op o.type fr h k=some r)
  {ops:Array Oper} {i:Nat} {rest:List Nat} (ho:ops[i]?=some o) (hw:Region.wanted o (yielded ops a.tmps)=true) (b:Frame) (Q:List Item) :
  ∃v I,k v I=some r/\∀cs,∃u w',Good P O μ h w v I u w'/\Steps P (lone (b.atR a (.inRegion ops (i::rest)::Q)) cs w) (lone (b.atR (a.put o.dst u) (.inRegion ops rest::Q)) cs w'):=by
 unfold opY at hk;split at hk
 ·rename_i p hp;obtain⟨c,f,U,hc,hx,hf⟩:=kbfu hp;rw[qbs]at hk;obtain⟨q,hq,V⟩:=hk;have W:=kry V;obtain⟨v,I⟩:=q;refine⟨v,I,W,λcs=>?_⟩;have K:=ks F hf;simp only[VRel]at K;obtain⟨g',x,y,he,hg,Z,aa⟩:=K;simp only[FnRel]at hg;obtain⟨L,hL,rfl⟩:=hg;have ex:x=#[]:=Array.toList_eq_nil_iff.1 Z.nil_inv;have ey:y=#[]:=Array.toList_eq_nil_iff.1 aa.nil_inv;subst ex;subst ey;have:=C.round hq S (kdj F hx) hL;have H:(c.args.toList.map a.eval).toArray=c.args.map a.eval:=by apply Array.ext';simp
  rw[H]at this;exact k38 U hc he this ho hw b Q cs
 ·obtain⟨⟨v,I,ac,ad⟩,ae⟩:=kbjm C S F hk;exact⟨v,I,ac,λcs=>k8q ad ae ho hw b Q cs⟩
theorem ksp{rec:Rec}(Q:RecOk P O rec){N:Nat}{ops:Array Oper}{k:Fr->AH->Option (AV×AH)}{r:AV×AH}:∀(is:List Nat){fr:Fr}{h:AH}{μ:Mu}{w:World}{a:Act},
  opsY P rec N ops is fr h k=some r->Sim P O μ h w->FRel μ N fr a.tmps->∀(b:Frame)(K:List Item)(cs:List Frame),∃a' w',After P O μ N h w a.defers k r .normal a' w'/\Steps P (lone (b.atR a (.inRegion ops is::K)) cs w) (lone (b.atR a' K) cs w')
 | [],fr,h,μ,w,a,hk,S,F,b,K,cs=>by
  simp only[opsY]at hk;exact⟨a,w,⟨rfl,rfl,fr,h,μ,hk,S,F,Ext.refl _ _ _,Frm.refl _ _ _⟩,Steps.one stepR_region_end⟩
 | i::is,fr,h,μ,w,a,hk,S,F,b,K,cs=>by
  simp only[opsY]at hk;split at hk
  ·cases hk
  ·rename_i o ho
   have go:∀{fr:Fr},FRel μ N fr a.tmps->(opY P rec o.op o.type fr h λv h'=>putT N o.dst v fr λU=>opsY P rec N ops is U h' k)=some r->Region.wanted o (yielded ops a.tmps)=true->
     ∃a' w',After P O μ N h w a.defers k r .normal a' w'/\Steps P (lone (b.atR a (.inRegion ops (i::is)::K)) cs w) (lone (b.atR a' K) cs w'):=by
    intro fr F hk hw;obtain⟨v,h1,aa,ac⟩:=kbbt Q S F hk ho hw b K (rest:=is);obtain⟨u,w',⟨ν,g1,g2,g3,g4⟩,st⟩:=ac cs;obtain⟨U,C,F'⟩:=kz1 aa (F.mono g3.2.1) g1;obtain⟨a',w2,hA,W⟩:=ksp Q is C g2 F' b K cs;rw[put_defers]at hA;exact⟨a',w2,hA.trans g3 g4,st.trans W⟩
   have skip:∀{fr:Fr},FRel μ N fr a.tmps->(putT N o.dst (.tup []) fr λU=>opsY P rec N ops is U h k)=some r->Region.wanted o (yielded ops a.tmps)=false->
     ∃a' w',After P O μ N h w a.defers k r .normal a' w'/\Steps P (lone (b.atR a (.inRegion ops (i::is)::K)) cs w) (lone (b.atR a' K) cs w'):=by
    intro fr F hk hw;obtain⟨U,C,F'⟩:=kz1 (u:=undef) hk F (by simp[VRel,undef,VRels]);obtain⟨a',w2,hA,W⟩:=ksp Q is C S F' b K cs;rw[put_defers]at hA;have hs:=stepR_op_skip (P:=P) (b:=b) (a:=a) (k:=K) (cs:=cs) (w:=w) (ops:=ops) (i:=i) (rest:=is) (by simp[ho];simpa using hw);simp only[ho,qbr]at hs;exact⟨a',w2,hA,.head hs W⟩
   split at hk
   ·rename_i Z;exact go F hk (by simp[Region.wanted,Z])
   ·rename_i j b' Z;split at hk
    ·cases hk
    ·rename_i t ht;split at hk
     ·rename_i c I;obtain⟨u,hu,V⟩:=F.get t _ I;simp only[VRel]at V;subst V;have hy:yielded ops a.tmps j=some c:=by simp[yielded,ht,hu]
      have y:Region.wanted o (yielded ops a.tmps)=(c==b'):=by simp[Region.wanted,Z,hy]
      have Fl:FRel μ N ((t,.bool c)::fr) a.tmps:=F.learn I λ_ h=>h;rcases kch hk with⟨rfl,C⟩ | ⟨rfl,C⟩
      ·rcases kch C with⟨rfl,H⟩ | ⟨rfl,H⟩
       ·exact go Fl H (by rw[y];rfl)
       ·exact skip Fl H (by rw[y];rfl)
      ·rcases kch C with⟨rfl,H⟩ | ⟨rfl,H⟩
       ·exact skip Fl H (by rw[y];rfl)
       ·exact go Fl H (by rw[y];rfl)
     ·rename_i I;obtain⟨u,hu,V⟩:=F.get t _ I;simp only[VRel]at V;obtain⟨us,rfl,_⟩:=V;have hy:yielded ops a.tmps j=none:=by simp[yielded,ht,hu]
      exact skip F hk (by simp[Region.wanted,Z,hy])
     ·cases hk
theorem kut{ops:Array Oper}{Q:Exit->Act->World->Prop}(y:∀e a w,Q e a w->e=.normal):∀(is:List Nat)(a:Act)(w:World),wpOps P ops Q is a w->∃a' w',Q .normal a' w'/\a.defers.length<=a'.defers.length
 | [],a,w,h=>⟨a,w,h,qbn _⟩
 | i::rest,a,w,h=>by
  simp only[wpOps]at h
  have put:∀{a1:Act}{d:Option Tmp}{v:Value}{H:World},wpOps P ops Q rest (a1.put d v) H->a.defers.length<=a1.defers.length->∃a' w',Q .normal a' w'/\a.defers.length<=a'.defers.length:=by intro a1 d v H U V;obtain⟨a',w',q,l⟩:=kut y rest _ _ U;rw[put_defers]at l;exact⟨a',w',q,qbo V l⟩
  cases I:ops[i]? with
  | none =>
   simp only[I]at h;exact kut y rest a w h
  | some o =>
   simp only[I]at h;by_cases K:Region.wanted o (yielded ops a.tmps)=true
   ·simp only[K,if_true]at h;have h:o.wp P a w (wpOps P ops Q rest) Q:=h.resolve_right λ⟨_,_,_,hq⟩=>by cases y _ _ _ hq
    simp only[Oper.wp,Oper.upon]at h;split at h
    ·exact put h (qbn _)
    ·exact put h (qbn _)
    ·exact put h (by simp)
    ·obtain⟨e,F,fr,C,_⟩:=h [];cases e with
     | returned v=>exact put C (qbn _)
     | panicked chain=>exact absurd (y _ _ _ C) (by intro h;cases h)
     | outgrown =>obtain⟨_,_,hq⟩:=C;exact absurd (y _ _ _ hq) (by intro h;cases h)
    ·obtain⟨v,F,C,_⟩:=h default [];exact put C (qbn _)
    ·exact absurd (y _ _ _ h) (by intro h;cases h)
    ·exact h.elim
   ·simp only[K,if_false,qcj]at h;exact put h (qbn _)
theorem kir{ops:Array Oper}{Q:Exit->Act->World->Prop}(H:∀e a w,Q e a w->e=.normal)(V:khi ops=false):∀(is:List Nat)(a:Act)(w:World),wpOps P ops Q is a w->(∀a' w',Q .normal a' w'->a'.defers.length<=a.defers.length)->∀(b:Frame)(k:List Item)(cs:List Frame),∃a' w',Q .normal a' w'/\Steps P (lone (b.atR a (.inRegion ops is::k)) cs w) (lone (b.atR a' k) cs w')
 | [],a,w,h,hl,b,k,cs=>⟨a,w,h,Steps.one stepR_region_end⟩
 | i::rest,a,w,h,hl,b,k,cs=>by
  have I:∀(d:Option Tmp)(v:Value) a' w',Q .normal a' w'->a'.defers.length<=(a.put d v).defers.length:=λd v a' w' q=>by rw[put_defers];exact hl a' w' q
  simp only[wpOps]at h;cases W:ops[i]? with
  | none =>
   simp only[W]at h;obtain⟨a',w',hq,st⟩:=kir H V rest a w h hl b k cs;have hs:=stepR_op_skip (P:=P) (b:=b) (a:=a) (k:=k) (cs:=cs) (w:=w) (ops:=ops) (i:=i) (rest:=rest) (by simp[W]);simp only[W,Option.bind_none,Act.put]at hs;exact⟨a',w',hq,.head hs st⟩
  | some o =>
   simp only[W]at h;by_cases hw:Region.wanted o (yielded ops a.tmps)=true
   ·simp only[hw,if_true]at h;have h:o.wp P a w (wpOps P ops Q rest) Q:=h.resolve_right λ⟨_,_,_,hq⟩=>by cases H _ _ _ hq
    have aa:∀c,o.op≠.defer c:=by intro c hc;unfold khi at V;rw[List.any_eq_false]at V;have:=V o (by rw[Array.mem_toList_iff];exact Array.mem_of_getElem? W);rw[hc]at this;exact this rfl
    have K:=stepGR_op (P:=P) (b:=b) (k:=k) (cs:=cs) (w:=w) (rest:=rest) W hw;rw[Oper.semAt_eq _ _ _ aa]at K
    have F:∀v,(b.atR a (.inRegion ops (i::rest)::k)).finish v=b.atR (a.put o.dst v) (.inRegion ops rest::k):=by intro v;rw[Frame.finish_atR,W];rfl
    simp only[Oper.wp,Oper.upon]at h;split at h
    ·rename_i v w' hr;obtain⟨a',U,hq,st⟩:=kir H V rest _ _ h (I _ _) b k cs;refine⟨a',U,hq,.head (step_lone_go ?_) st⟩;rw[K,<- F];simp[stepG.apply,hr]
    ·rename_i w' hr;obtain⟨a',U,hq,st⟩:=kir H V rest _ _ h (I _ _) b k cs;refine⟨a',U,hq,.head (step_lone_go ?_) st⟩;rw[K,<- F];simp[stepG.apply,hr]
    ·rename_i d w' hr;obtain⟨a',w2,q,l⟩:=kut H rest _ _ h;have:=hl _ _ q;rw[put_defers]at l;simp only[qbz]at l;omega
    ·rename_i f args w' hr;obtain⟨e,U,fr,hR,y,_,Z⟩:=h (b.atR a (.inRegion ops (i::rest)::k)::cs)
     have C:step P (lone (b.atR a (.inRegion ops (i::rest)::k)) cs w)=.next (lone (Frame.enter P f args .normal) (b.atR a (.inRegion ops (i::rest)::k)::cs) w'):=step_lone_go (by rw[K];simp[stepG.apply,hr,Frame.atR])
     cases e with
     | returned v =>
      obtain⟨a',w3,hq,st⟩:=kir H V rest _ _ hR (I _ _) b k cs;refine⟨a',w3,hq,.head C (y.trans (.head ?_ st))⟩;rw[<- F];exact step_leave_returned Z
     | panicked chain=>exact absurd (H _ _ _ hR) (by intro h;cases h)
     | outgrown =>obtain⟨_,_,hq⟩:=hR;exact absurd (H _ _ _ hq) (by intro h;cases h)
    ·rename_i ac args w' hr;obtain⟨v,U,hR,y⟩:=h (b.atR a (.inRegion ops (i::rest)::k)) cs
     have C:step P (lone (b.atR a (.inRegion ops (i::rest)::k)) cs w)=.next (lone (Frame.ofRow P ac args .normal) (b.atR a (.inRegion ops (i::rest)::k)::cs) w'):=step_lone_go (by rw[K];simp[stepG.apply,hr,Frame.atR])
     obtain⟨a',w3,hq,st⟩:=kir H V rest _ _ hR (I _ _) b k cs;refine⟨a',w3,hq,.head C (.trans ?_ st)⟩;rw[<- F];exact y
    ·exact absurd (H _ _ _ h) (by intro h;cases h)
    ·exact h.elim
   ·simp only[hw,if_false,qcj]at h;obtain⟨a',w',hq,st⟩:=kir H V rest _ _ h (I _ _) b k cs;have hs:=stepR_op_skip (P:=P) (b:=b) (a:=a) (k:=k) (cs:=cs) (w:=w) (ops:=ops) (i:=i) (rest:=rest) (by simp[W];simpa using hw);simp only[W,qbr]at hs;exact⟨a',w',hq,.head hs st⟩
end Go.Ab
namespace Go.Ab
variable{P:Program}
theorem kbl{A B:Type}(c:Bool)(x y:Option A)(k:A->Option B):(cond c x y).bind k=cond c (x.bind k) (y.bind k):=by cases c<;>rfl
theorem knj:∃g:Leaf->Option AV->Option AV,∀(l:Leaf)(x:Option AV)(R:Type)(k:AV->Option R),leafK l x k=(g l x).bind k:=by refine⟨λl x=>leafK l x some,λl x R k=>?_⟩;cases l<;>simp[leafK,Option.bind_assoc]
theorem kzv:∃g:(Nat->Option AV)->List Leaf->Nat->Option (List AV),∀(get:Nat->Option AV)(ls:List Leaf)(i:Nat)(R:Type)(k:List AV->Option R),kd9 get ls i k=(g get ls i).bind k:=by
 obtain⟨g,e⟩:=knj;refine⟨λget ls i=>kd9 get ls i some,λget ls=>?_⟩
 induction ls with
 | nil=>intro i R k;simp[kd9]
 | cons l ls ih =>intro i R k;simp only[kd9,e];rw[Option.bind_assoc];congr 1;funext v;rw[ih (i+1) _ (λvs=>k (v::vs)),ih (i+1) _ (λvs=>some (v::vs)),Option.bind_assoc];rfl
theorem kui:∃g:Program->TypeId->Ref->AH->Option AV,∀(P:Program)(t:TypeId)(q:Ref)(h:AH)(R:Type)(k:AV->Option R),loadK P t q h k=(g P t q h).bind k:=by
 obtain⟨g,e⟩:=knj;obtain⟨f,d⟩:=kzv;refine⟨λP t q h=>loadK P t q h some,λP t q h R k=>?_⟩;dsimp only;unfold loadK;simp only[e,d];split
 ·rw[kbl];congr 1
  ·split
   ·simp[kbl,Option.bind_assoc]
   ·rfl
  ·split
   ·simp
   ·rfl
 ·rfl
theorem kjf:∃g:Program->TypeId->AV->Option AV,∀(P:Program)(t:TypeId)(v:AV)(R:Type)(k:AV->Option R),seeK P t v k=(g P t v).bind k:=by
 obtain⟨g,e⟩:=knj;obtain⟨f,d⟩:=kzv;refine⟨λP t v=>seeK P t v some,λP t v R k=>?_⟩;dsimp only;unfold seeK;simp only[e,d];split
 ·rw[kbl];congr 1
  ·split
   ·simp[kbl,Option.bind_assoc]
   ·rfl
  ·split
   ·simp
   ·rfl
 ·rfl
theorem kx4:∃g:Program->TypeId->AV->Option AV,∀(P:Program)(t:TypeId)(v:AV)(R:Type)(k:AV->Option R),aggK P t v k=(g P t v).bind k:=by
 obtain⟨g,e⟩:=kjf;refine⟨λP t v=>aggK P t v some,λP t v R k=>?_⟩;dsimp only;unfold aggK;simp only[e];split
 ·rw[kbl,Option.bind_assoc];simp
 ·rfl
theorem kzi:∃g:Program->TypeId->AV->Option AV,∀(P:Program)(t:TypeId)(v:AV)(R:Type)(k:AV->Option R),kgq P t v k=(g P t v).bind k:=by
 obtain⟨g,e⟩:=kjf;refine⟨λP t v=>kgq P t v some,λP t v R k=>?_⟩;dsimp only;unfold kgq;simp only[e];split
 ·split<;>simp[Option.bind_assoc]
 ·simp
theorem kpn:∃g:Program->TypeId->AV->Option (List AV),∀(P:Program)(t:TypeId)(v:AV)(R:Type)(k:List AV->Option R),cellsK P t v k=(g P t v).bind k:=by
 refine⟨λP t v=>cellsK P t v some,λP t v R k=>?_⟩;dsimp only;unfold cellsK;split
 ·simp[kbl,Option.bind_assoc]
 ·rfl
theorem k5e:∃g:BinOp->IntKind->Int->Int->Option AV,∀(op:BinOp)(kd:IntKind)(a b:Int)(R:Type)(k:AV->Option R),intK op kd a b k=(g op kd a b).bind k:=by refine⟨λop kd a b=>intK op kd a b some,λop kd a b R k=>?_⟩;cases op<;>simp[intK,kbl]
theorem kw2:∃g:Program->BinOp->TypeId->AV->AV->Option AV,∀(P:Program)(op:BinOp)(t:TypeId)(x y:AV)(R:Type)(k:AV->Option R),binK P op t x y k=(g P op t x y).bind k:=by obtain⟨g,e⟩:=k5e;refine⟨λP op t x y=>binK P op t x y some,λP op t x y R k=>?_⟩;dsimp only;unfold binK;simp only[e];split<;>simp[kdy,kju,kbl,Option.bind_assoc]
theorem kxw:∃g:UnOp->AV->Option AV,∀(op:UnOp)(x:AV)(R:Type)(k:AV->Option R),unK op x k=(g op x).bind k:=by refine⟨λop x=>unK op x some,λop x R k=>?_⟩;dsimp only;unfold unK;split<;>simp
theorem ktn:∃g:Program->(Nat->Option (Nat×TypeId))->List (Nat×AV)->List AV->Option (List AV),∀(P:Program)(place:Nat->Option (Nat×TypeId))(y:List (Nat×AV))(cells:List AV)(R:Type)(k:List AV->Option R),fillK P place y cells k=(g P place y cells).bind k:=by
 obtain⟨g,e⟩:=kpn;refine⟨λP place y cells=>fillK P place y cells some,λP place y=>?_⟩
 induction y with
 | nil=>intro cells R k;simp[fillK]
 | cons p y ih =>
  intro cells R k;obtain⟨i,v⟩:=p;simp only[fillK,e];split
  ·rfl
  ·rw[Option.bind_assoc];congr 1;funext cs;rw[kbl];congr 1;exact ih _ _ _
theorem kbjo:∃g:Fr->Option Operand->Int->Option Int,∀(fr:Fr)(x:Option Operand)(d:Int)(R:Type)(k:Int->Option R),boundK fr x d k=(g fr x d).bind k:=by
 refine⟨λfr x d=>boundK fr x d some,λfr x d R k=>?_⟩;dsimp only;unfold boundK;split
 ·rfl
 ·split<;>simp
theorem kyd:∃g:Program->TypeId->AV->Fr->Option Operand->Option Operand->Option Operand->Option AV,∀(P:Program)(t:TypeId)(x:AV)(fr:Fr)(lo y C:Option Operand)(R:Type)(k:AV->Option R),sliceK P t x fr lo y C k=(g P t x fr lo y C).bind k:=by
 obtain⟨g,e⟩:=kbjo;refine⟨λP t x fr lo y C=>sliceK P t x fr lo y C some,λP t x fr lo y C R k=>?_⟩;dsimp only;unfold sliceK;simp only[e];split
 ·split<;>simp[kbl,Option.bind_assoc]
 ·split<;>simp[kbl,Option.bind_assoc]
 ·split<;>simp[kbl,Option.bind_assoc]
 ·rfl
theorem k25:∃g:Program->TypeId->TypeId->AV->Option AV,∀(P:Program)(s d:TypeId)(x:AV)(R:Type)(k:AV->Option R),kjp P s d x k=(g P s d x).bind k:=by refine⟨λP s d x=>kjp P s d x some,λP s d x R k=>?_⟩;dsimp only;unfold kjp;split<;>simp
theorem kz6:∃g:Program->TypeId->AV->Option AV,∀(P:Program)(t:TypeId)(x:AV)(R:Type)(k:AV->Option R),lenK P t x k=(g P t x).bind k:=by refine⟨λP t x=>lenK P t x some,λP t x R k=>?_⟩;dsimp only;unfold lenK;split<;>simp
abbrev pk(v:AV)(h:AH):Option (AV×AH):=some (v,h)
theorem kbeh:∃g:Program->Builtin->List TypeId->List AV->AH->Option (AV×AH),∀(P:Program)(b:Builtin)(y:List TypeId)(xs:List AV)(h:AH)(R:Type)(k:AV->AH->Option R),kfy P b y xs h k=(g P b y xs h).bind λp=>k p.1 p.2:=by
 obtain⟨g,e⟩:=kz6;obtain⟨f,d⟩:=knj;refine⟨λP b y xs h=>kfy P b y xs h pk,λP b y xs h R k=>?_⟩;dsimp only;unfold kfy;simp only[e,d];split
 ·simp[pk,Option.bind_assoc]
 ·simp[pk]
 ·simp[pk]
 ·split<;>simp[pk,kbl,Option.bind_assoc]
 ·split<;>simp[pk,kbl,Option.bind_assoc]
 ·rfl
theorem kxt:∃g:Program->TypeId->String->AV->AH->Option (FuncId×AV),∀(P:Program)(t:TypeId)(name:String)(v:AV)(h:AH)(R:Type)(k:FuncId->AV->Option R),kkd P t name v h k=(g P t name v h).bind λp=>k p.1 p.2:=by
 obtain⟨g,e⟩:=kui;refine⟨λP t name v h=>kkd P t name v h λf u=>some (f,u),λP t name v h R k=>?_⟩;dsimp only;unfold kkd;simp only[e]
 (repeat' split)<;>simp[kbl,Option.bind_assoc]
 all_goals (repeat' split)<;>simp[Option.bind_assoc]
theorem k66(rec:Rec):∃g:Program->Call->TypeId->Fr->AH->Option (AV×AH),∀(P:Program)(c:Call)(ty:TypeId)(fr:Fr)(h:AH)(R:Type)(k:AV->AH->Option R),callK P rec c ty fr h k=(g P c ty fr h).bind λp=>k p.1 p.2:=by
 obtain⟨g,e⟩:=kbeh;obtain⟨f,d⟩:=kzi;obtain⟨m,y⟩:=kxt;refine⟨λP c ty fr h=>callK P rec c ty fr h pk,λP c ty fr h R k=>?_⟩;dsimp only;unfold callK;simp only[e,d,y];split
 ·rfl
 ·split
  ·simp[pk,Option.bind_assoc]
  ·split<;>simp[pk,Option.bind_assoc]
  ·split<;>simp[pk,Option.bind_assoc]
theorem khq(rec:Rec):∀(P:Program)(o:Op)(ty:TypeId)(fr:Fr)(h:AH)(R:Type)(k:AV->AH->Option R),opK P rec o ty fr h k=(opK P rec o ty fr h pk).bind λp=>k p.1 p.2:=by obtain⟨Z,C⟩:=kpn;obtain⟨g2,F⟩:=ktn;obtain⟨g3,e3⟩:=kui;obtain⟨g4,H⟩:=kw2;obtain⟨g5,I⟩:=kxw;obtain⟨g6,K⟩:=k25;obtain⟨g7,Q⟩:=kyd;obtain⟨g8,U⟩:=k66 rec;obtain⟨g9,V⟩:=kx4;obtain⟨W,y⟩:=kjf;intro P o ty fr h R k;cases o<;>simp only[opK,C,F,e3,H,I,K,Q,U,V,y]<;>(repeat' split)<;>simp[pk,kdy,kju,kbl,Option.bind_assoc]
theorem kz4{N:Nat}{d:Option Tmp}{v:AV}{fr:Fr}{R:Type}(k:Fr->Option R):putT N d v fr k=(putT N d v fr some).bind k:=by
 simp only[khx];split
 ·rfl
 ·rw[kbl];rfl
@[reducible] def pf:Fr->AH->Option (Fr×AH):=λfr h=>some (fr,h)
theorem ksk(rec:Rec){N:Nat}{ops:Array Oper}{R:Type}(k:Fr->AH->Option R):∀(is:List Nat)(fr:Fr)(h:AH),opsK P rec N ops is fr h k=(opsK P rec N ops is fr h pf).bind λp=>k p.1 p.2
 | [],fr,h=>rfl
 | i::is,fr,h=>by
  have put:∀(d:Option Tmp)(v:AV)(fr:Fr)(h:AH),(putT N d v fr λy=>opsK P rec N ops is y h k)=(putT N d v fr λy=>opsK P rec N ops is y h pf).bind λp=>k p.1 p.2:=by intro d v fr h;rw[kz4,kz4 (λy=>opsK P rec N ops is y h pf),Option.bind_assoc];congr 1;funext y;exact ksk rec k is y h
  have go:∀(o:Oper)(fr:Fr),(opK P rec o.op o.type fr h λv h'=>putT N o.dst v fr λy=>opsK P rec N ops is y h' k)=(opK P rec o.op o.type fr h λv h'=>putT N o.dst v fr λy=>opsK P rec N ops is y h' pf).bind λp=>k p.1 p.2:=by intro o fr;rw[khq,khq (k:=λv h'=>putT N o.dst v fr λy=>opsK P rec N ops is y h' pf),Option.bind_assoc];congr 1;funext q;exact put _ _ _ _
  simp only[opsK];split
  ·rfl
  ·split
   ·exact go _ _
   ·split
    ·rfl
    ·split
     ·rw[kbl,kbl,kbl,go,go,put,put]
     ·exact put _ _ _ _
     ·rfl
end Go.Ab
namespace Go.Ab
variable{P:Program}
def Fr.same(fr y:Fr):Prop:=∀t,fr.get t=y.get t
theorem Fr.same.refl(fr:Fr):fr.same fr:=λ_=>rfl
@[reducible] def putd(d:Option Tmp)(v:AV)(fr:Fr):Fr:=match d with
 | none=>fr
 | some t=>(t,v)::fr
theorem get_cons(s t:Nat)(v:AV)(fr:Fr):Fr.get ((s,v)::fr) t=if s=t then some v else fr.get t:=by
 simp only[Fr.get];by_cases h:s=t
 ·subst h;simp
 ·rw[if_neg h]
  have:Nat.beq s t=false:=by
   cases y:Nat.beq s t with
   | false=>rfl
   | true=>exact absurd (Nat.eq_of_beq_eq_true y) h
  rw[this];rfl
theorem Fr.same.putd{a b:Fr}(h:a.same b)(d:Option Tmp)(v:AV):(putd d v a).same (putd d v b):=by
 intro t;cases d with
 | none=>exact h t
 | some s=>simp only[Go.Ab.putd,get_cons,h t]
theorem ki5{d:Option Tmp}{v:AV}{fr:Fr}{t:Tmp}(h:∀s,d=some s->s≠t):(putd d v fr).get t=fr.get t:=by
 cases d with
 | none=>rfl
 | some s=>simp only[putd,get_cons,if_neg (h s rfl)]
theorem kbjf{x y:Option Tmp}{v u:AV}{fr:Fr}(h:∀d,x=some d->y≠some d):(putd x v (putd y u fr)).same (putd y u (putd x v fr)):=by
 intro t;cases x with
 | none=>rfl
 | some d =>
  cases y with
  | none=>rfl
  | some e =>have:d≠e:=λH=>h d rfl (H▸rfl);simp only[putd,get_cons];by_cases C:d=t<;>by_cases F:e=t<;>simp[C,F];exact absurd (C.trans F.symm) this
theorem kdz{a b:Fr}{x:Operand}(h:∀t,x=.tmp t->a.get t=b.get t):evO a x=evO b x:=by
 cases x with
 | tmp t=>exact h t rfl
 | _=>rfl
theorem kjb{a b:Fr}:∀{xs:List Operand},(∀x∈xs,evO a x=evO b x)->evs a xs=evs b xs
 | [],_=>rfl
 | x::xs,h=>by simp only[evs,h x (by simp),kjb (xs:=xs) λy C=>h y (by simp[C])]
theorem ku1{a b:Fr}{R:Type}{x:Option Operand}{d:Int}{k:Int->Option R}(h:∀y,x=some y->evO a y=evO b y):boundK a x d k=boundK b x d k:=by
 cases x with
 | none=>rfl
 | some y=>simp only[boundK,h y rfl]
theorem ki6{rec:Rec}{a b:Fr}{o:Op}{ty:TypeId}{h:AH}{R:Type}{k:AV->AH->Option R}(e:∀x∈o.operands.toList,evO a x=evO b x):opK P rec o ty a h k=opK P rec o ty b h k:=by
 cases o<;>simp only[Op.operands]at e<;>simp only[opK]
 case build t ps=>rw[kjb (a:=a) (b:=b) λx C=>e x (by simpa using C)]
 case buildSlice t n ps=>rw[kjb (a:=a) (b:=b) λx C=>e x (by simpa using C)]
 case makeFunc f first captured =>rw[kjb (a:=a) (b:=b) (xs:=first.toList) λx C=>e x (by simp at C|-;exact .inl C),kjb (a:=a) (b:=b) (xs:=captured.toList) λx C=>e x (by simp at C|-;exact .inr C)]
 case call c =>
  unfold callK;rw[kjb (a:=a) (b:=b) (xs:=c.args.toList) λx C=>e x (by simp only[Call.operands];simp at C|-;exact .inr C)];cases H:c.callee with
  | value f=>simp only[e f (by simp[Call.operands,H])]
  | invoke r m=>simp only[e r (by simp[Call.operands,H])]
  | builtin bb=>rfl
 case slice t x lo I mx =>
  rw[e x (by simp)];have K:∀(d:Int)(k:Int->Option R),boundK a lo d k=boundK b lo d k:=λd k=>ku1 λy F=>e y (by subst F;simp);have Q:∀(d:Int)(k:Int->Option R),boundK a I d k=boundK b I d k:=λd k=>ku1 λy F=>e y (by subst F;simp);have U:∀(m:Operand),mx=some m->∀(d:Int)(k:Int->Option R),boundK a (some m) d k=boundK b (some m) d k:=λm V d k=>ku1 λy F=>by cases F;exact e m (by subst V;simp)
  cases evO b x with
  | none=>rfl
  | some u =>
   simp only[sliceK];cases mx with
   | none=>simp only[K,Q]
   | some m=>simp only[K,Q,U m rfl]
 all_goals first
  | rfl
  | (simp at e;simp only[e])
noncomputable def valA(P:Program)(rec:Rec)(ops:Array Oper)(o:Oper)(fr:Fr)(h:AH):Option (AV×AH) :=
 match o.guard with
 | none=>opK P rec o.op o.type fr h pk
 | some (j,b)=>match ((ops[j]?).bind (·.dst))with
  | none=>none
  | some t=>match fr.get t with
   | some (.bool c)=>cond (c==b) (opK P rec o.op o.type fr h pk) (some (.tup [],h))
   | some (.tup [])=>some (.tup [],h)
   | _=>none
def fitsN(N:Nat)(d:Option Tmp):Prop:=∀t,d=some t->Nat.blt t N=true
theorem kxd{N:Nat}{d:Option Tmp}{v:AV}{fr:Fr}{R:Type}{k:Fr->Option R}{r:R}:putT N d v fr k=some r↔fitsN N d/\k (putd d v fr)=some r:=by
 simp only[khx];cases d with
 | none=>simp[fitsN]
 | some t =>simp only[fitsN,qb8,forall_eq'];cases y:Nat.blt t N<;>simp
theorem kpk{fr:Fr}{t:Tmp}{v:AV}(h:fr.get t=some v):Fr.same ((t,v)::fr) fr:=λs=>by
 rw[get_cons];split
 ·rename_i e;subst e;exact h.symm
 ·rfl
noncomputable def step1(P:Program)(rec:Rec)(N:Nat)(ops:Array Oper)(i:Nat)(fr:Fr)(h:AH):Option (Fr×AH):=opsK P rec N ops [i] fr h pf
theorem k3h{rec:Rec}{N:Nat}{ops:Array Oper}{i:Nat}{o:Oper}(Z:ops[i]?=some o){fr:Fr}{h:AH}{F:Fr}{U:AH} :
  step1 P rec N ops i fr h=some (F,U)->∃v,valA P rec ops o fr h=some (v,U)/\fitsN N o.dst/\F.same (putd o.dst v fr):=by
 intro hs;simp only[step1,opsK,Z]at hs
 have go:∀{C:Fr},C.same fr->(opK P rec o.op o.type C h λv h'=>putT N o.dst v C λH=>pf H h')=some (F,U)->∃v,opK P rec o.op o.type fr h pk=some (v,U)/\fitsN N o.dst/\F.same (putd o.dst v fr):=by intro C y hk;rw[khq,qbs]at hk;obtain⟨⟨v,h'⟩,I,K⟩:=hk;obtain⟨e3,V⟩:=kxd.1 K;simp only[pf,qb8,qb9]at V;obtain⟨rfl,rfl⟩:=V;rw[ki6 (b:=fr) λx _=>kdz λt _=>y t]at I;exact⟨v,I,e3,y.putd _ _⟩
 have skip:∀{C:Fr},C.same fr->(putT N o.dst (.tup []) C λH=>pf H h)=some (F,U)->U=h/\fitsN N o.dst/\F.same (putd o.dst (.tup []) fr):=by intro C y hk;obtain⟨e3,V⟩:=kxd.1 hk;simp only[pf,qb8,qb9]at V;obtain⟨rfl,rfl⟩:=V;exact⟨rfl,e3,y.putd _ _⟩
 unfold valA;split at hs
 ·rename_i W;rw[W];exact go (Fr.same.refl _) hs
 ·rename_i j b W;rw[W];split at hs
  ·cases hs
  ·rename_i t ht;simp only[ht];split at hs
   ·rename_i c Q;simp only[Q];cases c<;>cases b<;>simp only[cond_true,cond_false]at hs
    ·exact go (kpk Q) hs
    ·obtain⟨rfl,I,K⟩:=skip (kpk Q) hs;exact⟨_,rfl,I,K⟩
    ·obtain⟨rfl,I,K⟩:=skip (kpk Q) hs;exact⟨_,rfl,I,K⟩
    ·exact go (kpk Q) hs
   ·rename_i Q;simp only[Q];obtain⟨rfl,I,K⟩:=skip (Fr.same.refl _) hs;exact⟨_,rfl,I,K⟩
   ·cases hs
theorem kpb{rec:Rec}{ops:Array Oper}{o:Oper}{a b:Fr}{h:AH}(e:∀t∈o.looksAt ops,a.get t=b.get t):valA P rec ops o a h=valA P rec ops o b h:=by
 have C:opK P rec o.op o.type a h pk=opK P rec o.op o.type b h pk:=ki6 λx F=>kdz λt y=>e t (by subst y;exact List.mem_append_left _ (List.mem_filterMap.2 ⟨_,F,rfl⟩))
 unfold valA;cases H:o.guard with
 | none=>exact C
 | some jb =>
  obtain⟨j,b'⟩:=jb;dsimp only;cases y:(ops[j]?).bind (·.dst)with
  | none=>rfl
  | some t =>have:=e t (by simp[Oper.looksAt,H,y]);simp only[this,C]
theorem kol{ops:Array Oper}{o:Oper}{a b:Fr}{i:Nat}(e:∀t∈o.looksAt ops,a.get t=b.get t):kbz P i o.op a=kbz P i o.op b:=by
 unfold kbz;split
 ·rename_i t x y
  rw[kdz (a:=a) (b:=b) λs hs=>e s (by subst hs;exact List.mem_append_left _ (List.mem_filterMap.2 ⟨.tmp s,by rw[y];simp[Op.operands],rfl⟩))]
 ·rfl
theorem kv3{R:Type}{f g:Nat->Option AV}:∀{ls:List Leaf}{i:Nat}{k:List AV->Option R},(∀j,i<=j->j<i+ls.length->f j=g j)->kd9 f ls i k=kd9 g ls i k
 | [],i,k,h=>rfl
 | l::ls,i,k,h=>by simp only[kd9];rw[h i (qbn _) (by simp)];congr 1;funext v;exact kv3 λj C y=>h j (by omega) (by simp at y|-;omega)
theorem kbab{R:Type}{t:TypeId}{r:Ref}{h h':AH}{k:AV->Option R}{d:TypeDesc}(C:P.underlying t=some d)(e:SameAt h h' r (cond (isAggD d) (P.cellsOf t) 1)):loadK P t r h' k=loadK P t r h k:=by
 unfold loadK;simp only[C];cases y:isAggD d with
 | true =>
  rw[y]at e;simp only[cond_true]at e|-;cases H:leaves P 20 t with
  | none=>rfl
  | some ls =>
   dsimp only;cases F:Nat.beq ls.length (P.cellsOf t)with
   | false=>rfl
   | true =>
    simp only[cond_true];have:=Nat.eq_of_beq_eq_true F;exact kv3 λj I K=>e.1 j (by omega)
 | false =>rw[y]at e;simp only[cond_false]at e|-;have:=e.1 0 (by omega);rw[Ref.add_zero]at this;rw[this]
theorem ky2{rec:Rec}{i:Nat}{o:Op}{ty:TypeId}{fr:Fr}{h:AH}{v:AV}{H:AH}(I:nonEff o=true)(hk:opK P rec o ty fr h pk=some (v,H)) :
  H=h/\∀C,(∀p∈kbz P i o fr,SameAt h C p.ref p.size)->opK P rec o ty fr C pk=some (v,C):=by
 obtain⟨g1,Z⟩:=kpn;obtain⟨g2,e2⟩:=ktn;obtain⟨g3,e3⟩:=kui;obtain⟨g4,e4⟩:=kw2;obtain⟨g5,e5⟩:=kxw;obtain⟨g6,e6⟩:=k25;obtain⟨g7,e7⟩:=kyd;obtain⟨g8,e8⟩:=kz6;obtain⟨g9,e9⟩:=kx4;obtain⟨aa,Q⟩:=kjf
 have key:(∃x:Option AV,∀h,opK P rec o ty fr h pk=x.bind λv=>some (v,h))->H=h/\∀C,(∀p∈kbz P i o fr,SameAt h C p.ref p.size)->opK P rec o ty fr C pk=some (v,C):=by
  rintro ⟨x,V⟩
  rw[V,qbs]at hk;obtain⟨u,K,hq⟩:=hk;simp only[qb8,qb9]at hq;obtain⟨rfl,rfl⟩:=hq;exact⟨rfl,λC _=>by rw[V,K];rfl⟩
 have y:(∀h,opK P rec o ty fr h pk=(opK P rec o ty fr ⟨#[],#[]⟩ (λv _=>some v):Option AV).bind λv=>some (v,h))->H=h/\∀C,(∀p∈kbz P i o fr,SameAt h C p.ref p.size)->opK P rec o ty fr C pk=some (v,C):=λhh=>key ⟨_,hh⟩;cases o<;>simp only[nonEff]at I<;>try (cases I;done)
 case load t a =>
  simp only[opK]at hk;split at hk
  ·rename_i r W;rw[e3,qbs]at hk;obtain⟨u,K,hq⟩:=hk;simp only[pk,qb8,qb9]at hq;obtain⟨rfl,rfl⟩:=hq;refine⟨rfl,λC hs=>?_⟩;cases U:P.underlying t with
   | none =>
    have:loadK P t r h some=none:=by unfold loadK;rw[U]
    rw[e3,K]at this;cases this
   | some d =>have:=hs ⟨i,r,cond (isAggD d) (P.cellsOf t) 1⟩ (by simp[kbz,W,U]);simp only[opK,W];rw[kbab U this,e3,K];rfl
  ·cases hk
  ·cases hk
 case call c =>
  split at I
  ·rename_i F;refine y λh=>?_;simp only[opK,callK,F,kfy]
   repeat' split
   all_goals first | contradiction | simp[e8,pk]
  ·rename_i F;refine y λh=>?_;simp only[opK,callK,F,kfy]
   repeat' split
   all_goals first | contradiction | simp[pk]
  ·rename_i F;refine y λh=>?_;simp only[opK,callK,F,kfy]
   repeat' split
   all_goals first | contradiction | simp[pk]
  ·cases I
 all_goals
  refine y λh=>?_;simp only[opK,Z,e2,e4,e5,e6,e7,e9,Q]
  repeat' split
  all_goals simp[pk,kdy,kju,kbl,Option.bind_assoc]
theorem ko2{rec:Rec}{ops:Array Oper}{i:Nat}{o:Oper}{fr:Fr}{h:AH}{v:AV}{H:AH}(I:nonEff o.op=true)(hv:valA P rec ops o fr h=some (v,H)) :
  H=h/\∀y,(∀p∈kbz P i o.op fr,SameAt h y p.ref p.size)->valA P rec ops o fr y=some (v,y):=by
 unfold valA at hv|-;split at hv
 ·rename_i F
  try simp only[F]
  exact ky2 I hv
 ·rename_i j b F
  try simp only[F]
  split at hv
  ·cases hv
  ·rename_i t Q
   try simp only[Q]
   split at hv
   ·rename_i c K
    try simp only[K]
    cases C:(c==b)with
    | true =>
     rw[C]at hv;exact ky2 I hv
    | false =>rw[C]at hv;simp only[cond_false,qb8,qb9]at hv;exact⟨hv.2.symm,λy _=>by simp[hv.1]⟩
   ·rename_i K;simp only[qb8,qb9]at hv;exact⟨hv.2.symm,λy _=>by simp[hv.1]⟩
   ·cases hv
section
variable{rec:Rec}{N:Nat}{ops:Array Oper}{an:Nat->Nat}{k:Fr->AH->Option (AV×AH)}{r:AV×AH}
theorem SameBlk.refl(h:AH):∀r,SameBlk h h r
 | .new _ _=>rfl
 | .old _=>True.intro
def chk(m:Nat)(h h':AH)(ps:List Look):Prop:=∀p∈ps,m.testBit p.at_=false->SameAt h h' p.ref p.size
def AnyA(P:Program)(rec:Rec)(N:Nat)(ops:Array Oper)(an:Nat->Nat)(k:Fr->AH->Option (AV×AH))(r:AV×AH):Nat->Array Bool->List Look->Fr->AH->Prop
 | 0,l,_,fr,h=>Region.ready .any ops l=[]/\k fr h=some r
 | n+1,l,ps,fr,h=>(Region.ready .any ops l=[]->k fr h=some r)/\∀i∈Region.ready .any ops l,∀o,ops[i]?=some o->∃v y,valA P rec ops o fr h=some (v,y)/\fitsN N o.dst/\
   (nonEff o.op=false->chk (an i) h y ps)/\AnyA P rec N ops an k r n (l.setIfInBounds i true) (cond (nonEff o.op) (kbz P i o.op fr++ps) ps) (putd o.dst v fr) y
theorem AnyA.same(hk:∀(a b:Fr)(h:AH),a.same b->k a h=k b h):∀{n:Nat}{l:Array Bool}{ps C:List Look}{a b:Fr}{h:AH},a.same b->(∀p∈C,p∈ps)->AnyA P rec N ops an k r n l ps a h->AnyA P rec N ops an k r n l C b h
 | 0,l,ps,C,a,b,h,e,hp,H=>⟨H.1,by rw[<- hk _ _ _ e];exact H.2⟩
 | n+1,l,ps,C,a,b,h,e,hp,H=>by
  refine⟨λh0=>by rw[<- hk _ _ _ e];exact H.1 h0,λi F o I=>?_⟩;obtain⟨v,K,Q,U,V,W⟩:=H.2 i F o I;refine⟨v,K,by rw[<- kpb λt _=>e t];exact Q,U,λZ p y=>V Z p (hp p y),AnyA.same hk (e.putd _ _) ?_ W⟩;rw[kol (ops:=ops) (a:=b) (b:=a) λt _=>(e t).symm];intro p y;cases hq:nonEff o.op with
  | true =>
   simp only[hq,cond_true,qb2]at y|-;exact y.imp id (hp p)
  | false =>simp only[hq,cond_false]at y|-;exact hp p y
def Closed(ops:Array Oper)(l:Array Bool):Prop:=l.size=ops.size/\∀(j:Nat)(o:Oper),l.getD j false=true->ops[j]?=some o->∀e∈o.after,Region.binds .any e=true->l.getD e.on false=true
theorem Closed.set{l:Array Bool}{i:Nat}(I:Closed ops l)(V:i∈Region.ready .any ops l):Closed ops (l.setIfInBounds i true):=by
 refine⟨by simpa using I.1,?_⟩;intro j o K F e Q U;obtain⟨h0,oi,H,y⟩:=mem_ready.1 V;by_cases C:i=j
 ·subst C;rw[H]at F;cases F;exact getD_set_true (y e Q U)
 ·rw[getD_set_ne false C]at K;exact getD_set_true (I.2 j o K F e Q U)
theorem chk.mono{m:Nat}{h h':AH}{ps y:List Look}(hq:∀p∈y,p∈ps)(c:chk m h h' ps):chk m h h' y:=λp hp=>c p (hq p hp)
theorem AnyA.first(hk:∀(a b:Fr)(h:AH),a.same b->k a h=k b h)(aa:∀l,Closed ops l->∀j∈Region.ready .any ops l,∀i,(an j).testBit i=true->l.getD i false=true)
  {i:Nat} {oi:Oper} {vi:AV} (hi:ops[i]?=some oi) (Q:nonEff oi.op=true) (U:fitsN N oi.dst) :
  ∀(n:Nat){l:Array Bool}{ps:List Look}{fr:Fr}{h:AH},Closed ops l->(∀j F,ops[j]?=some F->j≠i->l.getD j true=false->(∀e∈F.after,Region.binds .any e=true->e.on≠i)->oi.apart ops F=true)->
   i∈Region.ready .any ops l->valA P rec ops oi fr h=some (vi,h)->AnyA P rec N ops an k r n (l.setIfInBounds i true) (kbz P i oi.op fr++ps) (putd oi.dst vi fr) h->AnyA P rec N ops an k r (n+1) l ps fr h
 | 0,l,ps,fr,h,hc,I,hr,hv,H=>by
  refine⟨λh0=>(by rw[h0]at hr;cases hr),λj hj F y=>?_⟩;by_cases C:j=i
  ·subst C;rw[hi]at y;cases y;exact⟨vi,h,hv,U,(λhn=>by rw[Q]at hn;cases hn),by rw[Q];exact H⟩
  ·have:=ready_mono hj C;rw[H.1]at this;cases this
 | n+1,l,ps,fr,h,hc,I,hr,hv,H=>by
  refine⟨λh0=>(by rw[h0]at hr;cases hr),λj hj F y=>?_⟩;by_cases C:j=i
  ·subst C;rw[hi]at y;cases y;exact⟨vi,h,hv,U,(λhn=>by rw[Q]at hn;cases hn),by rw[Q];exact H⟩
  ·obtain⟨vj,h2,e1,e2,e3,e4⟩:=H.2 j (ready_mono hj C) F y;obtain⟨ac,aq,ad,ae⟩:=mem_ready.1 hj;rw[y]at ad;cases ad;have K:=(mem_ready.1 hr).1
   have af:∀e∈F.after,Region.binds .any e=true->e.on≠i:=λe V hb ai=>by
    have h1:=ae e V hb;rw[ai]at h1;rcases Nat.lt_or_ge i l.size with h' | h'
    ·simp[h']at K h1;rw[K]at h1;cases h1
    ·simp[Array.getElem?_eq_none h']at h1
   obtain⟨a1,a2,a3⟩:=Oper.apart_spec (I j F y C ac af)
   have b1:valA P rec ops F fr h=some (vj,h2):=by rw[<- e1];exact kpb λt ht=>(ki5 λs hs V=>a1 s hs (V▸ht)).symm
   have aj:(an j).testBit i=false:=by
    cases hb:(an j).testBit i with
    | false=>rfl
    | true =>
     have:=aa l hc j hj i hb;rcases Nat.lt_or_ge i l.size with h' | h'
     ·simp[h']at K this;rw[K]at this;cases this
     ·simp[Array.getElem?_eq_none h']at this
   have b2:valA P rec ops oi (putd F.dst vj fr) h2=some (vi,h2):=by
    have:∀p∈kbz P i oi.op fr,SameAt h h2 p.ref p.size:=by
     intro p hp;cases W:nonEff F.op with
     | true =>
      have:=(ko2 (i:=j) W b1).1;subst this;exact⟨λ_ _=>rfl,λ_=>SameBlk.refl _ _⟩
     | false =>
      refine e3 W p (by simp[hp]) ?_
      have:p.at_=i:=by
       unfold kbz at hp;split at hp
       ·split at hp
        ·split at hp<;>simp at hp;subst hp;rfl
        ·simp at hp
       ·simp at hp
      rw[this];exact aj
    rw[kpb (b:=fr) λt ht=>ki5 λs hs V=>a3 s hs (V▸ht)];exact(ko2 Q hv).2 h2 this
   refine⟨vj,h2,b1,e2,λW=>(e3 W).mono λp hp=>by simp[hp],?_⟩
   have Z:∀k' ok,ops[k']?=some ok->k'≠i->(l.setIfInBounds j true).getD k' true=false->(∀e∈ok.after,Region.binds .any e=true->e.on≠i)->oi.apart ops ok=true:=λk' ok ak al ag am=>by
    refine I k' ok ak al ?_ am;by_cases ah:j=k'
    ·subst ah;exact ac
    ·rw[getD_set_ne true ah]at ag;exact ag
   refine AnyA.first hk aa hi Q U n (hc.set hj) Z (ready_mono hr (Ne.symm C)) b2 ?_;rw[Array.setIfInBounds_comm _ _ C];refine AnyA.same hk (kbjf λd hd=>?_) (λp hp=>?_) e4
   ·intro ap;exact a2 d ap hd
   ·have l1:kbz P i oi.op (putd F.dst vj fr)=kbz P i oi.op fr:=kol (ops:=ops) λt ht=>ki5 λs hs V=>a3 s hs (V▸ht);have l2:kbz P j F.op (putd oi.dst vi fr)=kbz P j F.op fr:=kol (ops:=ops) λt ht=>ki5 λs hs V=>a1 s hs (V▸ht);rw[l1]at hp;rw[l2];cases hq:nonEff F.op<;>simp only[hq,cond_true,cond_false,qb2]at hp|-
    ·exact hp
    ·rcases hp with hp | hp | hp
     ·exact .inr (.inl hp)
     ·exact .inl hp
     ·exact .inr (.inr hp)
def Rel(ops:Array Oper)(l:Array Bool)(m:Nat):Prop:=l.size=ops.size/\∀j,l.getD j false=m.testBit j
theorem Rel.getD_true{l:Array Bool}{m:Nat}(R:Rel ops l m){j:Nat}:l.getD j true=false↔j<ops.size/\m.testBit j=false:=by
 rw[<- R.2 j];rcases Nat.lt_or_ge j l.size with h | h
 ·simp[h,show j<ops.size from R.1▸h]
 ·simp[Array.getElem?_eq_none h,show¬j<ops.size from by have:=R.1;omega]
theorem Rel.set{l:Array Bool}{m i:Nat}(R:Rel ops l m)(C:i<ops.size):Rel ops (l.setIfInBounds i true) (m|||1 <<< i):=by
 refine⟨by simp[R.1],λj=>?_⟩;rw[Nat.testBit_or,<- R.2 j,Nat.one_shiftLeft,Nat.testBit_two_pow];by_cases y:i=j
 ·subst y;simp[show i<l.size from R.1▸C]
 ·rw[getD_set_ne false y];simp[y]
theorem k6x(es:List Edge):∀(m j:Nat),(es.foldl (λm e=>cond (Region.binds .any e) (m|||1 <<< e.on) m) m).testBit j=true↔m.testBit j=true\/∃e∈es,Region.binds .any e=true/\e.on=j:=by
 induction es with
 | nil=>simp
 | cons e es ih =>
  intro m j;rw[List.foldl_cons,ih];cases y:Region.binds .any e with
  | false=>simp[y]
  | true =>
   simp only[cond_true,Nat.testBit_or,Nat.one_shiftLeft,Nat.testBit_two_pow,qb7,qbu,qb3,exists_eq_or_imp,y,true_and];constructor
   ·rintro ((h | h) | h)
    ·exact .inl h
    ·exact .inr (.inl h)
    ·exact .inr (.inr h)
   ·rintro (h | h | h)
    ·exact .inl (.inl h)
    ·exact .inl (.inr h)
    ·exact .inr h
theorem klk{o:Oper}{j:Nat}:(depsOf o).testBit j=true↔∃e∈o.after,Region.binds .any e=true/\e.on=j:=by unfold depsOf;rw[k6x];simp
theorem kqq(i:Nat):(ops.toList.map depsOf)[i]?=(ops[i]?).map depsOf:=by simp
theorem kbgi{d m:Nat}:Nat.beq (d&&&m) d=true↔∀j,d.testBit j=true->m.testBit j=true:=by
 constructor
 ·intro h j y;have:=Nat.eq_of_beq_eq_true h;rw[<- this,Nat.testBit_and]at y;simp at y;exact y.2
 ·intro h
  have:d&&&m=d:=Nat.eq_of_testBit_eq λj=>by
   rw[Nat.testBit_and];cases y:d.testBit j with
   | false=>rfl
   | true=>rw[h j y];rfl
  rw[this];simp
theorem k2k{l:Array Bool}{m i:Nat}(R:Rel ops l m):readyB (ops.toList.map depsOf) m i=true↔i∈Region.ready .any ops l:=by
 rw[mem_ready,R.getD_true];unfold readyB;rw[kqq];cases K:ops[i]? with
 | none=>simp
 | some o =>
  have y:i<ops.size:=(qca.1 K).1;simp only[Option.map_some,qb6,kbgi,klk,qcf,y,true_and,qb8,exists_eq_left'];constructor
  ·rintro ⟨C,F⟩
   exact⟨F,λe H I=>by rw[R.2];exact C _ ⟨e,H,I,rfl⟩⟩
  ·rintro ⟨C,F⟩
   exact⟨λj ⟨e,H,I,Q⟩=>by rw[<- Q,<- R.2];exact F e H I,C⟩
theorem k3r{d x:Nat}:∀{as:List Nat}{i:Nat},(orBits d as i).testBit x=true->∃j a,as[j]?=some a/\d.testBit (i+j)=true/\a.testBit x=true
 | [],i,h=>by simp[orBits]at h
 | a::as,i,h=>by
  simp only[orBits]at h
  have tail:(orBits d as (i+1)).testBit x=true->∃j b,(a::as)[j]?=some b/\d.testBit (i+j)=true/\b.testBit x=true:=λh=>by obtain⟨j,b,C,F,H⟩:=k3r h;exact⟨j+1,b,by simpa using C,by rw[<- F];congr 1;omega,H⟩
  cases y:d.testBit i with
  | false=>rw[y]at h;exact tail h
  | true =>
   rw[y,cond_true,Nat.testBit_or,qb7]at h;rcases h with h | h
   ·exact⟨0,a,rfl,by simpa using y,h⟩
   ·exact tail h
theorem kwb{m:Nat}:∀(ds C:List Nat),(∀(j a d:Nat),C[j]?=some a->(ops.toList.map depsOf)[j]?=some d->(∀x,d.testBit x=true->m.testBit x=true)->∀x,a.testBit x=true->m.testBit x=true)->
  (∀(j d:Nat),m.testBit j=true->(ops.toList.map depsOf)[j]?=some d->∀x,d.testBit x=true->m.testBit x=true)->
  (∀(j d:Nat),ds[j]?=some d->(ops.toList.map depsOf)[C.length+j]?=some d)->C.length+ds.length=ops.size->
  ∀(j a d:Nat),(ancsOf C ds)[j]?=some a->(ops.toList.map depsOf)[j]?=some d->(∀x,d.testBit x=true->m.testBit x=true)->∀x,a.testBit x=true->m.testBit x=true
 | [],C,F,W,Z,hl=>by simpa[ancsOf]using F
 | d0::ds,C,F,W,Z,hl=>by
  simp only[ancsOf];refine kwb ds _ ?_ W (λj d I=>?_) (by simp at hl|-;omega)
  ·intro j a d I Q H x K;rcases Nat.lt_trichotomy j C.length with aa | rfl | ac
   ·rw[List.getElem?_append_left aa]at I;exact F j a d I Q H x K
   ·rw[List.getElem?_append_right (qbn _)]at I;simp at I;have e0:=Z 0 d0 (by simp);rw[Nat.add_zero,Q]at e0;cases e0;rw[<- I,Nat.testBit_or,qb7]at K;rcases K with K | K
    ·exact H x K
    ·obtain⟨y,b,h1,h2,h3⟩:=k3r K;rw[Nat.zero_add]at h2;have hm:=H y h2
     have hy:y<C.length:=by
      rcases Nat.lt_or_ge y C.length with h | h
      ·exact h
      ·rw[List.getElem?_eq_none h]at h1;cases h1
     have:∃V,(ops.toList.map depsOf)[y]?=some V:=⟨_,qb1 (by simp at hl|-;omega)⟩;obtain⟨V,U⟩:=this;exact F y b V h1 U (W y V hm U) x h3
   ·rw[List.getElem?_eq_none (by simp;omega)]at I;cases I
  ·have:=Z (j+1) d (by simpa using I);rw[<- this];congr 1;simp;omega
theorem Rel.closed{l:Array Bool}{m:Nat}(R:Rel ops l m)(F:Closed ops l):∀j d,m.testBit j=true->(ops.toList.map depsOf)[j]?=some d->∀x,d.testBit x=true->m.testBit x=true:=by
 intro j d H y x I;rw[kqq]at y;cases C:ops[j]? with
 | none=>rw[C]at y;cases y
 | some o =>rw[C]at y;simp only[Option.map_some,qb8]at y;subst y;obtain⟨e,K,Q,rfl⟩:=klk.1 I;rw[<- R.2];exact F.2 j o (by rw[R.2];exact H) C e K Q
def maskOf(l:List Bool):Nat:=match l with
 | []=>0
 | b::bs=>cond b 1 0+2*maskOf bs
theorem k0v:∀(l:List Bool)(j:Nat),(maskOf l).testBit j=(l[j]?).getD false
 | [],j=>by simp[maskOf]
 | b::bs,0=>by
  simp only[maskOf,Nat.testBit_zero];cases b<;>simp<;>omega
 | b::bs,j+1=>by
  simp only[maskOf,Nat.testBit_succ];have:(cond b 1 0+2*maskOf bs)/2=maskOf bs:=by cases b<;>simp<;>omega
  rw[this,k0v bs j];simp
theorem k7w{l:Array Bool}(y:l.size=ops.size):Rel ops l (maskOf l.toList):=⟨y,λj=>by rw[k0v];simp⟩
theorem anc_ok:∀l,Closed ops l->∀j∈Region.ready .any ops l,∀i,(((ancsOf [] (ops.toList.map depsOf))[j]?).getD 0).testBit i=true->l.getD i false=true:=by
 intro l K j y i F;have R:=k7w K.1;cases H:(ancsOf [] (ops.toList.map depsOf))[j]? with
 | none=>rw[H]at F;simp at F
 | some a =>rw[H,Option.getD_some]at F;obtain⟨h0,o,Q,C⟩:=mem_ready.1 y;rw[R.2];refine kwb (m:=maskOf l.toList) (ops.toList.map depsOf) [] (λj a d y=>by simp at y) (R.closed K) (λj d y=>by simpa using y) (by simp) j a (depsOf o) H (by rw[kqq,Q];rfl) ?_ i F;intro x U;obtain⟨e,V,I,rfl⟩:=klk.1 U;rw[<- R.2];exact C e V I
theorem ktb{m:Nat}{h h':AH}{R:Type}{x:Option R}{res:R}:∀{ps:List Look},checkP m h h' x ps=some res->chk m h h' ps/\x=some res
 | [],hk=>⟨λp hp=>by simp at hp,hk⟩
 | p::ps,hk=>by
  simp only[checkP]at hk;cases C:m.testBit p.at_ with
  | true =>
   rw[C]at hk;obtain⟨F,H⟩:=ktb hk;refine⟨λq hq y=>?_,H⟩;rcases qb3.1 hq with rfl | hq
   ·rw[C]at y;cases y
   ·exact F q hq y
  | false =>
   rw[C]at hk;simp only[cond_false,whenK]at hk;split at hk
   ·rename_i hs;obtain⟨F,H⟩:=ktb hk;refine⟨λq hq y=>?_,H⟩;rcases qb3.1 hq with rfl | hq
    ·exact hs
    ·exact F q hq y
   ·cases hk
theorem kzu{R:Type}{i:Nat}{fr:Fr}{h:AH}{F:Fr->AH->Option R}{res:R}(hk:opsK P rec N ops [i] fr h F=some res):∃y C,step1 P rec N ops i fr h=some (y,C)/\F y C=some res:=by rw[ksk,qbs]at hk;obtain⟨⟨y,C⟩,H,I⟩:=hk;exact⟨y,C,H,I⟩
@[reducible] def anOf(ops:Array Oper):Nat->Nat:=λj=>((ancsOf [] (ops.toList.map depsOf))[j]?).getD 0
theorem knu(hk:∀(a b:Fr)(h:AH),a.same b->k a h=k b h):∀(c:List Nat){l:Array Bool}{m:Nat}{ps:List Look}{fr:Fr}{h:AH},Rel ops l m->Closed ops l->
  opsD P rec N ops (ops.toList.map depsOf) (ancsOf [] (ops.toList.map depsOf)) c m ps fr h k=some r->AnyA P rec N ops (anOf ops) k r c.length l ps fr h
 | [],l,m,ps,fr,h,R,hc,y=>by
  simp only[opsD]at y;cases H:Nat.beq m (2^ops.size-1)with
  | false=>rw[H]at y;cases y
  | true =>
   rw[H]at y;have hm:=Nat.eq_of_beq_eq_true H;refine⟨?_,y⟩;cases hr:Region.ready .any ops l with
   | nil=>rfl
   | cons j js =>
    have V:j∈Region.ready .any ops l:=by rw[hr];simp
    obtain⟨h0,-⟩:=mem_ready.1 V;obtain⟨C,h2⟩:=R.getD_true.1 h0;rw[hm,Nat.testBit_two_pow_sub_one]at h2;simp[C]at h2
 | i::c,l,m,ps,fr,h,R,hc,y=>by
  simp only[opsD]at y;split at y
  ·rename_i o an W aa;have Z:i<ops.size:=(qca.1 W).1;cases H:readyB (ops.toList.map depsOf) m i with
   | false=>rw[H]at y;cases y
   | true =>
    rw[H,cond_true]at y;have hi:=(k2k R).1 H;cases F:nonEff o.op with
    | true =>
     rw[F,cond_true]at y;cases I:freeB ops (ops.toList.map depsOf) m i o with
     | false=>rw[I]at y;cases y
     | true =>
      rw[I,cond_true]at y;obtain⟨ac,C,e1,e2⟩:=kzu y;obtain⟨v,e3,e4,e5⟩:=k3h W e1;obtain⟨rfl,-⟩:=ko2 (i:=i) F e3;have IH:=knu hk c (R.set Z) (hc.set hi) e2;refine AnyA.first hk anc_ok W F e4 c.length hc ?_ hi e3 (IH.same hk e5 λp hp=>hp);intro j oj V K ad ae;have Q:j<ops.size:=(qca.1 V).1;have:=List.all_eq_true.1 I j (qci.2 Q);rw[kqq,V]at this;simp only[Option.map_some,qb7]at this;rcases this with((C | C) | C) | C
      ·exact absurd (Nat.eq_of_beq_eq_true C) K
      ·rw[(R.getD_true.1 ad).2]at C;cases C
      ·obtain⟨e,he,af,ag⟩:=klk.1 C;exact absurd ag (ae e he af)
      ·exact C
    | false =>
     rw[F,cond_false]at y;cases I:onlyB ops.size (ops.toList.map depsOf) m i with
     | false=>rw[I]at y;cases y
     | true =>
      rw[I,cond_true]at y;obtain⟨ac,C,e1,e2⟩:=kzu y;obtain⟨v,e3,e4,e5⟩:=k3h W e1;obtain⟨e6,e7⟩:=ktb e2;have IH:=knu hk c (R.set Z) (hc.set hi) e7;refine⟨λh0=>(by rw[h0]at hi;cases hi),λj V oj U=>?_⟩
      have K:j=i:=by
       have Q:j<ops.size:=(qca.1 U).1;have:=List.all_eq_true.1 I j (qci.2 Q);simp only[qb7]at this;rcases this with C | C
       ·exact Nat.eq_of_beq_eq_true C
       ·rw[(k2k R).2 V]at C;cases C
      subst K;rw[W]at U;cases U;refine⟨v,C,e3,e4,λ_=>by rw[anOf,aa];exact e6,?_⟩;rw[F];exact IH.same hk e5 λp hp=>hp
  ·cases y
theorem k6c(hk:∀(a b:Fr)(h:AH),a.same b->k a h=k b h){y:List Nat}{fr:Fr}{h:AH}(C:drawK P rec N ops y fr h k=some r) :
  AnyA P rec N ops (anOf ops) k r ops.size (Array.replicate ops.size false) [] fr h:=by
 unfold drawK at C;cases F:Nat.beq y.length ops.size with
 | false=>rw[F]at C;cases C
 | true =>
  rw[F,cond_true]at C
  have:=knu (l:=Array.replicate ops.size false) hk y ⟨by simp,λj=>by simp[Array.getElem?_replicate];split<;>rfl⟩ ⟨by simp,λj o H=>by rw[Array.getD_eq_getD_getElem?,Array.getElem?_replicate]at H;split at H<;>simp at H⟩ C
  rw[Nat.eq_of_beq_eq_true F]at this;exact this
end
section
variable{O:World}
theorem AnyA.sound{rec:Rec}(U:RecOk P O rec){N:Nat}{ops:Array Oper}{an:Nat->Nat}{k:Fr->AH->Option (AV×AH)}{r:AV×AH}{μ0:Mu}{h0:AH}{w0:World}:∀(n:Nat){l:Array Bool}{ps:List Look}{fr:Fr}{h:AH}{μ:Mu}{w:World}{a:Act},
  AnyA P rec N ops an k r n l ps fr h->Sim P O μ h w->FRel μ N fr a.tmps->Ext μ0 h0 w0 μ h->Frm μ0 h0 w0 w->wpAny P .any ops (After P O μ0 N h0 w0 a.defers k r) n l a w
 | 0,l,ps,fr,h,μ,w,a,H,S,F,E,M=>⟨H.1,rfl,rfl,fr,h,μ,H.2,S,F,E,M⟩
 | n+1,l,ps,fr,h,μ,w,a,H,S,F,E,M=>by
  refine⟨λhr=>⟨rfl,rfl,fr,h,μ,H.1 hr,S,F,E,M⟩,λi hi=>?_⟩;obtain⟨-,o,ho,-⟩:=mem_ready.1 hi;obtain⟨v,V,y,e2,-,e3⟩:=H.2 i hi o ho;unfold wpOp;simp only[ho]
  have put:∀{ν:Mu}{u:Value}{V:AH}{Z:World},FRel ν N fr a.tmps->VRel ν v u->Sim P O ν V Z->Ext μ0 h0 w0 ν V->Frm μ0 h0 w0 Z->AnyA P rec N ops an k r n (l.setIfInBounds i true) (cond (nonEff o.op) (kbz P i o.op fr++ps) ps) (putd o.dst v fr) V->
    wpAny P .any ops (After P O μ0 N h0 w0 a.defers k r) n (l.setIfInBounds i true) (a.put o.dst u) Z:=by
   intro ν u V Z F' hv S' E' M' H'
   have F2:FRel ν N (putd o.dst v fr) (a.put o.dst u).tmps:=by
    cases hd:o.dst with
    | none=>exact F'
    | some t =>have:=e2 t hd;exact F'.put (by simpa[Nat.blt_eq]using this) hv
   have:=AnyA.sound U n (a:=a.put o.dst u) H' S' F2 E' M';rw[Go.Ab.put_defers]at this;exact this
  have go:opK P rec o.op o.type fr h pk=some (v,V)->Region.wanted o (yielded ops a.tmps)=true->
    (if Region.wanted o (yielded ops a.tmps)=true then o.wp P a w (wpAny P .any ops (After P O μ0 N h0 w0 a.defers k r) n (l.setIfInBounds i true)) (After P O μ0 N h0 w0 a.defers k r)\/(o.asks P a w/\LetsOut (After P O μ0 N h0 w0 a.defers k r))else wpAny P .any ops (After P O μ0 N h0 w0 a.defers k r) n (l.setIfInBounds i true) (a.put o.dst undef) w):=by
   intro aa hw;rw[if_pos hw]
   left
   obtain⟨v',ad,W,ac⟩:=kqu U S F aa;simp only[pk,qb8,qb9]at W;obtain⟨rfl,rfl⟩:=W;refine ac _ _ λu w' ⟨ν,g1,g2,g3,g4⟩=>?_;exact put (F.mono g3.2.1) g1 g2 (E.trans g3 M.1) (M.trans E g4) e3
  have skip:v=.tup []->V=h->Region.wanted o (yielded ops a.tmps)=false->
    (if Region.wanted o (yielded ops a.tmps)=true then o.wp P a w (wpAny P .any ops (After P O μ0 N h0 w0 a.defers k r) n (l.setIfInBounds i true)) (After P O μ0 N h0 w0 a.defers k r)\/(o.asks P a w/\LetsOut (After P O μ0 N h0 w0 a.defers k r))else wpAny P .any ops (After P O μ0 N h0 w0 a.defers k r) n (l.setIfInBounds i true) (a.put o.dst undef) w):=by
   rintro rfl rfl hw
   rw[if_neg (by rw[hw];simp)];exact put (u:=undef) F (by simp[VRel,undef,VRels]) S E M e3
  unfold valA at y;split at y
  ·rename_i hg;exact go y (by simp[Region.wanted,hg])
  ·rename_i j b hg;split at y
   ·cases y
   ·rename_i t ht;split at y
    ·rename_i c C;obtain⟨u,hu,I⟩:=F.get t _ C;simp only[VRel]at I;subst I;have hy:yielded ops a.tmps j=some c:=by simp[yielded,ht,hu]
     have K:Region.wanted o (yielded ops a.tmps)=(c==b):=by simp[Region.wanted,hg,hy]
     cases Q:(c==b)with
     | true=>rw[Q]at y;exact go y (K.trans Q)
     | false =>rw[Q]at y;simp only[cond_false,qb8,qb9]at y;exact skip y.1.symm y.2.symm (K.trans Q)
    ·rename_i C;obtain⟨u,hu,I⟩:=F.get t _ C;simp only[VRel]at I;obtain⟨us,rfl,_⟩:=I;have hy:yielded ops a.tmps j=none:=by simp[yielded,ht,hu]
     simp only[qb8,qb9]at y;exact skip y.1.symm y.2.symm (by simp[Region.wanted,hg,hy])
    ·cases y
theorem k53{rec:Rec}(C:RecOk P O rec){N:Nat}{ops:Array Oper}{y:List Nat}{fr:Fr}{h:AH}{k:Fr->AH->Option (AV×AH)}{r:AV×AH}(hk:∀(a b:Fr)(h:AH),a.same b->k a h=k b h)
  (H:drawK P rec N ops y fr h k=some r) {μ:Mu} {w:World} {a:Act} (S:Sim P O μ h w) (F:FRel μ N fr a.tmps):wpAny P .any ops (After P O μ N h w a.defers k r) ops.size (Array.replicate ops.size false) a {w with drawn:=w.drawn+1} :=
 (k6c hk H).sound C _ (S.drew) F (Ext.refl _ _ _) ⟨qbn _,λ_ _ _=>rfl⟩
end
theorem kf2(N:Nat):∀(fr:Fr)(t:Nat),(fr.low N).get t=if t<N then fr.get t else none
 | [],t=>by simp[Fr.low,Fr.get]
 | (s,v)::fr,t=>by
  have ih:=kf2 N fr t;unfold Fr.low at ih|-;rw[List.filter_cons];dsimp only;cases y:Nat.blt s N with
  | true =>
   have hs:s<N:=by simpa[Nat.blt_eq]using y
   simp only[if_true,get_cons,ih];by_cases h:s=t
   ·subst h;simp[hs]
   ·simp only[if_neg h]
  | false =>
   have hs:¬s<N:=by intro h;rw[show Nat.blt s N=true from by simpa[Nat.blt_eq]using h]at y;cases y
   simp only[qcj,if_false,get_cons,ih];by_cases h:s=t
   ·subst h;simp[hs]
   ·simp only[if_neg h]
theorem Fr.same.low{a b:Fr}(h:a.same b)(N:Nat):(a.low N).same (b.low N):=λt=>by rw[kf2,kf2,h t]
theorem kbjx{N:Nat}{d:Option Tmp}{v:AV}{fr:Fr}(y:fitsN N d):((Go.Ab.putd d v fr).low N)=Go.Ab.putd d v (fr.low N):=by
 cases d with
 | none=>rfl
 | some t =>have:=y t rfl;show((t,v)::fr).filter _=_;rw[List.filter_cons];dsimp only;rw[this];rfl
theorem kbfc{rec:Rec}{μ:Mu}{N:Nat}{fr:Fr}{h:AH}{w:World}{o:Oper}{a:Act}(F:FRel μ N fr a.tmps){t:TypeId}{n:Nat}{y:Array (Nat×Operand)}(ho:o.op=.buildSlice t n y){v:AV}{h1:AH}
  (hk:opK P rec o.op o.type fr h pk=some (v,h1)):∃cs e us,h1=h.alloc (.cells cs e)/\VRels μ cs us/\cs.all AV.one=true/\OpGoes P o a w λu w'=>VRel (Mu.set μ h.blks.size ⟨w.heap.size,0,us.length⟩) v u/\w'=w.alloc (.cells us.toArray e):=by
 obtain⟨dst,op,type,pos,H,guard⟩:=o;dsimp only at hk ho;subst ho;simp only[opK]at hk;have aa:execOp a.eval ⟨dst,.buildSlice t n y,type,pos,H,guard⟩=(do pure (.value (<- Instr.buildSlice t n (y.map λ(i,x)=>(i,a.eval x))))):=rfl
 have K:(y.map λ(i,x)=>(i,a.eval x)).toList=(y.toList.map (·.1)).zip ((y.toList.map (·.2)).map a.eval):=by
  simp only[Array.toList_map,List.map_map];generalize y.toList=l
  induction l with
  | nil=>rfl
  | cons p l ih=>simp[ih]
 split at hk
 ·rename_i vs e Q hd;split at hk
  ·rename_i zs hz;obtain⟨hb,ac⟩:=kp hk;simp only[qb6]at hb;have ag:n*P.cellsOf e<=16777216:=Nat.le_of_ble_eq_true hb.1;have ah:zs.length=P.cellsOf e:=Nat.eq_of_beq_eq_true hb.2;obtain⟨z,ti,U,ad,h2,h3⟩:=ki3 (μ:=μ) hz;have ae:z.cells.size=P.cellsOf e:=by have:=h2.length;simp at this;omega
   have C:=(kdj F Q).length;simp only[qby]at C;have m1:((y.toList.map (·.1)).zip vs).map (·.1)=y.toList.map (·.1):=List.map_fst_zip (by rw[qby];exact Nat.le_of_eq C);have m2:((y.toList.map (·.1)).zip vs).map (·.2)=vs:=List.map_snd_zip (by rw[qby];exact Nat.le_of_eq C.symm)
   have V:((Array.range (n*P.cellsOf e)).map (z.cells[· % z.cells.size]!)).toList=(List.replicate n z.cells.toList).flatten:=by
    by_cases h0:P.cellsOf e=0
    ·have:z.cells.toList=[]:=by apply List.eq_nil_of_length_eq_zero;rw[Array.length_toList];omega
     rw[h0,this];simp[Array.range_zero']
    ·rw[<- ae];exact kp4 n z.cells (by omega)
   obtain⟨cs,out,I,W,f2,f3,f4⟩:=kky (μ:=μ) (rp:=λi=>some (i*P.cellsOf e,P.cellsOf e)) (λi off t' hi=>by simp at hi|-;exact⟨hi.1,by rw[hi.2]⟩) ac (us:=(y.toList.map (·.2)).map a.eval) (arr:=(Array.range (n*P.cellsOf e)).map (z.cells[· % z.cells.size]!))
    (by rw[m2];exact kdj F Q) (by rw[V,kll];exact h2.rep n) (kpv h3 n)
   rw[m1,<- K]at W;simp only[pk,qb8,qb9]at I;refine⟨cs,e,out.toList,I.2.symm,f2,f3,qf aa (w':=w.alloc (.cells out e)) (u:=.slice (some ⟨w.heap.size,0,none⟩) n n) ?_ ⟨by rw[<- I.1];exact kwh rfl n,by simp⟩⟩;have hs:(sizeOf e).run P w=.ok (P.cellsOf e) w:=by simp[sizeOf,typeInfo,U,Program.cellsOf]
   have Z:¬(16777216<n*P.cellsOf e):=by omega
   by_cases h0:n*P.cellsOf e=0
   ·have af:∀f g:Nat->Value,(Array.range (n*P.cellsOf e)).map f=(Array.range (n*P.cellsOf e)).map g:=λf g=>by rw[h0];simp[Array.range_zero']
    rw[af (z.cells[· % z.cells.size]!) ((#[]:Array Value)[· % (#[]:Array Value).size]!)]at W;simp only[Instr.buildSlice,Sem.run_bind,run_underlying hd,Result.andThen_ok,hs,Sem.run_ite,if_neg Z,h0,if_true,Sem.run_pure];rw[h0]at W;simp only[W,newRow,Sem.run_bind,run_newObj,Result.andThen_ok,Sem.run_pure];rfl
   ·simp only[Instr.buildSlice,Sem.run_bind,run_underlying hd,Result.andThen_ok,hs,Sem.run_ite,if_neg Z,if_neg h0,zeroValue,typeInfo,run_program,U,ad,Sem.run_pure,W,newRow,run_newObj];rfl
  ·cases hk
 ·cases hk
theorem k4n{rec:Rec}{μ:Mu}{N:Nat}{fr:Fr}{h:AH}{w:World}{o:Oper}{a:Act}(F:FRel μ N fr a.tmps){t:TypeId}{l c:Operand}(ho:o.op=.makeSlice t l c){v:AV}{h1:AH}
  (hk:opK P rec o.op o.type fr h pk=some (v,h1)):∃cs e us,h1=h.alloc (.cells cs e)/\VRels μ cs us/\cs.all AV.one=true/\OpGoes P o a w λu w'=>VRel (Mu.set μ h.blks.size ⟨w.heap.size,0,us.length⟩) v u/\w'=w.alloc (.cells us.toArray e):=by
 obtain⟨dst,op,type,pos,ac,guard⟩:=o;dsimp only at hk ho;subst ho;simp only[opK]at hk;split at hk
 ·rename_i k1 l' k2 I e hl hc hd;split at hk
  ·rename_i zs hz;obtain⟨hb,K⟩:=kp hk;have hb:=Nat.eq_of_beq_eq_true hb;rw[qbs]at K;obtain⟨q,hq,y⟩:=K;unfold kbq at hq;obtain⟨Q,U⟩:=kp hq;simp only[qbu]at Q;obtain⟨b1,b2,b3,b4⟩:=Q;simp only[qb8]at U;subst U;simp only[pk,qb8,qb9]at y;obtain⟨y,ad⟩:=y;obtain⟨z,C,H,ae,h2,h3⟩:=ki3 (μ:=μ) hz;have af:z.cells.size=C.size:=by have:=h2.length;simp[Program.cellsOf,H]at this hb;omega
   have V:=ks F hl;have W:=ks F hc;simp only[VRel]at V W;have hm:(kbb:Int)=70368744177664:=rfl;rw[hm]at b3 b4
   have ag:(C.bytes:Int)*I<=281474976710656:=by
    have ah:P.bytesOf e=C.bytes:=by simp[Program.bytesOf,H]
    rw[ah,Int.mul_comm]at b4;omega
   have Z:=run_make (P:=P) w t e C z hd H ae k1 k2 l' I b1 b2 ag (by omega)
   have aa:(madeCells z.cells (I.toNat*C.size)).toList=(List.replicate I.toNat z.cells.toList).flatten:=by
    unfold madeCells;by_cases h0:C.size=0
    ·have:z.cells.toList=[]:=by apply List.eq_nil_of_length_eq_zero;rw[Array.length_toList];omega
     rw[h0,this];simp[Array.range_zero']
    ·rw[<- af];exact kp4 _ z.cells (by omega)
   refine⟨repC zs I.toNat,e,(madeCells z.cells (I.toNat*C.size)).toList,ad.symm,by rw[aa,kll];exact h2.rep _,kpv h3 _,qf (s:=Instr.makeSlice t (a.eval l) (a.eval c)) rfl (by rw[V,W];exact Z) ⟨?_,by rw[Array.toArray_toList]⟩⟩;rw[<- y];simp only[VRel,Sl.v];exact⟨_,_,rfl,.inr ⟨_,keb _ _ _,by simp⟩,by omega,rfl⟩
  ·cases hk
 ·cases hk
theorem k9u{rec:Rec}{μ:Mu}{N:Nat}{fr:Fr}{h:AH}{w:World}{o:Oper}{a:Act}(F:FRel μ N fr a.tmps)(U:layB o.op=true){v:AV}{K:AH}
  (hk:opK P rec o.op o.type fr h pk=some (v,K)):∃cs e us,K=h.alloc (.cells cs e)/\VRels μ cs us/\cs.all AV.one=true/\OpGoes P o a w λu w'=>VRel (Mu.set μ h.blks.size ⟨w.heap.size,0,us.length⟩) v u/\w'=w.alloc (.cells us.toArray e):=by
 have y:(∃t,o.op=.alloc t)\/(∃t x,o.op=.box t x)\/(∃t n ps,o.op=.buildSlice t n ps)\/∃t l c,o.op=.makeSlice t l c:=by revert U;cases o.op<;>simp[layB]
 rcases y with⟨t,y⟩ | ⟨t,x,y⟩ | ⟨t,n,ps,y⟩ | ⟨t,l,c,y⟩
 ·obtain⟨dst,op,type,pos,C,guard⟩:=o;dsimp only at hk y;subst y;simp only[opK]at hk;split at hk
  ·rename_i zs V;simp only[pk,qb8,qb9]at hk;obtain⟨z,H,I,Q⟩:=k2c (μ:=μ) V w;refine⟨zs,t,_,hk.2.symm,I,Q,qf (s:=Instr.alloc t true (.tuple #[])) rfl (w':=w.alloc (.cells _ t)) (u:=.pointer (some ⟨w.heap.size,0,none⟩)) ?_ ⟨?_,rfl⟩⟩
   ·simp[Instr.alloc,H,newVar,newRow]
   ·rw[<- hk.1];simp only[VRel];exact⟨_,⟨_,keb _ _ _,by simp⟩,rfl⟩
  ·cases hk
 ·obtain⟨dst,op,type,pos,C,guard⟩:=o;dsimp only at hk y;subst y;simp only[opK]at hk;rw[qbs]at hk;obtain⟨v',hv,hk⟩:=hk;obtain⟨cs,hk,H,I,Q,_⟩:=kqt hk (ks F hv);simp only[pk,qb8,qb9]at hk;refine⟨cs,t,_,hk.2.symm,H,I,qf (s:=Instr.box t (a.eval x)) rfl (w':=w.alloc (.cells _ t)) (u:=.pointer (some ⟨w.heap.size,0,none⟩)) ?_ ⟨?_,rfl⟩⟩
  ·simp[Instr.box,newVar,newRow]
  ·rw[<- hk.1];simp only[VRel];exact⟨_,⟨_,keb _ _ _,by simp⟩,rfl⟩
 ·exact kbfc F y hk
 ·exact k4n F y hk
theorem kbdn{rec:Rec}{fr:Fr}{h:AH}{o:Op}{ty:TypeId}(I:layB o=true){v:AV}{H:AH}(hk:opK P rec o ty fr h pk=some (v,H)):∃cs e,H=h.alloc (.cells cs e):=by
 have K:(∃t,o=.alloc t)\/(∃t x,o=.box t x)\/(∃t n ps,o=.buildSlice t n ps)\/∃t l c,o=.makeSlice t l c:=by revert I;cases o<;>simp[layB]
 rcases K with⟨t,rfl⟩ | ⟨t,x,rfl⟩ | ⟨t,n,ps,rfl⟩ | ⟨t,l,c,rfl⟩
 ·simp only[opK]at hk;split at hk
  ·simp only[pk,qb8,qb9]at hk;exact⟨_,_,hk.2.symm⟩
  ·cases hk
 ·simp only[opK]at hk;rw[qbs]at hk;obtain⟨v',hv,hk⟩:=hk;obtain⟨g,e⟩:=kpn;rw[e,qbs]at hk;obtain⟨cs,_,hk⟩:=hk;simp only[pk,qb8,qb9]at hk;exact⟨_,_,hk.2.symm⟩
 ·simp only[opK]at hk;split at hk
  ·split at hk
   ·obtain⟨Q,y⟩:=kp hk;obtain⟨g,e⟩:=ktn;rw[e,qbs]at y;obtain⟨cs,_,y⟩:=y;simp only[pk,qb8,qb9]at y;exact⟨_,_,y.2.symm⟩
   ·cases hk
  ·cases hk
 ·simp only[opK]at hk;split at hk
  ·split at hk
   ·obtain⟨Q,y⟩:=kp hk;rw[qbs]at y;obtain⟨q,hq,C⟩:=y;unfold kbq at hq;obtain⟨U,F⟩:=kp hq;simp only[qb8]at F;subst F;simp only[pk,qb8,qb9]at C;exact⟨_,_,C.2.symm⟩
   ·cases hk
  ·cases hk
theorem AnyA.final{rec:Rec}{N:Nat}{ops:Array Oper}{an:Nat->Nat}{k:Fr->AH->Option (AV×AH)}{r:AV×AH}:∀(n:Nat){l:Array Bool}{ps:List Look}{fr:Fr}{h:AH},AnyA P rec N ops an k r n l ps fr h->
  ∃y h',k y h'=some r/\∀t,(∀j o,ops[j]?=some o->l.getD j false=false->o.dst≠some t)->y.get t=fr.get t
 | 0,l,ps,fr,h,H=>⟨fr,h,H.2,λ_ _=>rfl⟩
 | n+1,l,ps,fr,h,H=>by
  by_cases U:Region.ready .any ops l=[]
  ·exact⟨fr,h,H.1 U,λ_ _=>rfl⟩
  ·obtain⟨i,V⟩:=List.exists_mem_of_ne_nil _ U;obtain⟨F,o,W,-⟩:=mem_ready.1 V
   have C:l.getD i false=false:=by
    rw[Array.getD_eq_getD_getElem?]at F|-;cases hq:l[i]? with
    | none=>rfl
    | some b=>rw[hq]at F;simpa using F
   obtain⟨v,h1,e1,e2,ec,e3⟩:=H.2 i V o W;obtain⟨y,h',k1,k2⟩:=AnyA.final n e3;refine⟨y,h',k1,λt Z=>?_⟩
   rw[k2 t λj oj K hl=>Z j oj K (by
    by_cases I:i=j
    ·subst I;exact C
    ·rwa[getD_set_ne false I]at hl),ki5]
   intro s hs Q;exact Z i o W C (by rw[hs,Q])
section
variable{O:World}{N:Nat}{ops0 ops:Array Oper}{J:Nat->Option (Nat×TypeId×List AV×AV)}{fp:Fr}
def Laid(P:Program)(o:Oper)(fp:Fr)(j:Nat)(t:TypeId)(zs:List AV)(v:AV):Prop:=∃(rec:Rec)(h:AH),opK P rec o.op o.type fp h pk=some (v,h.alloc (.cells zs t))/\h.blks.size=j
structure ResOps(P:Program)(N:Nat)(ops0 ops:Array Oper)(J:Nat->Option (Nat×TypeId×List AV×AV))(fp:Fr):Prop where
 size:ops.size=ops0.size
 same:∀i,J i=none->ops[i]?=ops0[i]?
 res:∀i j t zs v,J i=some (j,t,zs,v)->∃o,ops0[i]?=some o/\layB o.op=true/\Laid P o fp j t zs v/\heldB ops0 o=true/\ops[i]?=some {o with op:=.move (.tmp (N+i))}
 inj:∀i i' j t zs v t' zs' v',J i=some (j,t,zs,v)->J i'=some (j,t',zs',v')->i=i'
theorem ResOps.dst(R:ResOps P N ops0 ops J fp)(j:Nat):(ops[j]?).bind (·.dst)=(ops0[j]?).bind (·.dst):=by
 cases y:J j with
 | none=>rw[R.same j y]
 | some x =>obtain⟨id,t,zs,v⟩:=x;obtain⟨o,C,_,_,_,F⟩:=R.res j id t zs v y;rw[C,F];rfl
theorem ResOps.ready_iff(R:ResOps P N ops0 ops J fp){l:Array Bool}{i:Nat}:i∈Region.ready .any ops l↔i∈Region.ready .any ops0 l:=by
 rw[mem_ready,mem_ready];cases y:J i with
 | none=>rw[R.same i y]
 | some x =>obtain⟨id,t,zs,v⟩:=x;obtain⟨o,C,_,_,_,F⟩:=R.res i id t zs v y;rw[C,F];simp
theorem ResOps.ready_nil(R:ResOps P N ops0 ops J fp){l:Array Bool}:Region.ready .any ops l=[]↔Region.ready .any ops0 l=[]:=by
 constructor<;>intro h<;>rw[List.eq_nil_iff_forall_not_mem]at h|-<;>intro i y
 ·exact h i (R.ready_iff.2 y)
 ·exact h i (R.ready_iff.1 y)
theorem kblm{o:Oper}(H:heldB ops0 o=true){l:Array Bool}(Q:∀e∈o.after,Region.binds .any e=true->l.getD e.on false=true){t:Tmp}(U:.tmp t∈o.op.operands.toList) :
  ∀j I,ops0[j]?=some I->l.getD j false=false->I.dst≠some t:=by
 intro j I y V C;unfold heldB at H;rw[List.all_eq_true]at H;have W:j<ops0.size:=(qca.1 y).1;have:=H j (qci.2 W);rw[y,qbr,C]at this;dsimp only at this
 have F:o.op.operands.toList.any (isTmp t)=true:=by rw[List.any_eq_true];exact⟨_,U,by simp[isTmp]⟩
 rw[F,Bool.not_true,Bool.false_or,klk]at this;obtain⟨e,Z,hb,K⟩:=this;have:=Q e Z hb;rw[K,V]at this;cases this
theorem Sim.lay{μ:Mu}{h:AH}{w:World}(S:Sim P O μ h w){j:Nat}{cs:List AV}{us:List Value}{e:TypeId}(U:h.blks[j]?=some (.cells cs e))(V:μ j=none)(hv:VRels μ cs us)(W:cs.all AV.one=true) :
  Sim P O (Mu.set μ j ⟨w.heap.size,0,us.length⟩) h (w.alloc (.cells us.toArray e)):=by
 have F:=Mu.le_set (L:=⟨w.heap.size,0,us.length⟩) V;have I:j<h.blks.size:=(qca.1 U).1;refine{old:=S.old,os:=S.os,tape:=S.tape,output:=S.output,base:=by have:=S.base;simp;omega,dom:=λi L y=>?_,keep:=λb C=>?_,place:=λi L y=>?_,blk:=λi L b y C=>?_,inj:=λi k L M y H Z lk K=>?_}
 ·rw[kdh _ _ _ (qbp C S.base)];exact S.keep b C
 ·unfold Mu.set at y;split at y
  ·subst_vars;exact I
  ·exact S.dom i L y
 ·unfold Mu.set at y;split at y
  ·cases y;have:=S.base;simp;omega
  ·have:=S.place i L y;simp;omega
 ·unfold Mu.set at y;split at y
  ·rename_i hi;subst hi;cases y;rw[U]at C;cases C;refine⟨⟨_,kmy _ _,by simp,by simp;have:=hv.length;omega,λk v hk=>?_⟩,W⟩;obtain⟨u,hu,Q⟩:=hv.get k v hk;exact⟨u,by simpa using hu,Q.mono F⟩
  ·exact(S.blk i L b y C).step F λ_=>kdh _ _ _ (S.place i L y).2
 ·unfold Mu.set at y H;split at y<;>split at H
  ·omega
  ·cases y;have:=S.place k M H;simp at K;omega
  ·cases H;have:=S.place i L y;simp at K;omega
  ·exact S.inj i k L M y H Z lk K
theorem Ext.lay{μ0 μ:Mu}{h0 h:AH}{w0 w:World}(E:Ext μ0 h0 w0 μ h)(C:w0.heap.size<=w.heap.size){j:Nat}(F:h0.blks.size<=j)(H:μ j=none){b t:Nat}:Ext μ0 h0 w0 (Mu.set μ j ⟨w.heap.size,b,t⟩) h:=by
 obtain⟨I,K,e3,Q,U⟩:=E;refine⟨I,Mu.le_trans K (Mu.le_set H),λi V=>?_,Q,λi L W Z y=>?_⟩
 ·unfold Mu.set;rw[if_neg (by omega),e3 i V]
 ·unfold Mu.set at y;split at y
  ·cases y;exact .inl C
  ·exact U i L W Z y
theorem ku8{R:Type}{cs:List Operand}{a b:Fr}{x:Option R}{r:R}(h:finK cs a b x=some r):(∀c∈cs,evO a c=evO b c)/\x=some r:=by
 unfold finK at h;split at h
 ·exact⟨λ_ C=>(by cases C),h⟩
 ·rename_i c cs;unfold whenK at h;split at h
  ·rename_i F;refine⟨λy H=>?_,h⟩;exact List.map_inj_left.1 F y H
  ·cases h
theorem ksz{R:Type}{cs:List Operand}{a a' b b':Fr}(e:a.same a')(f:b.same b'){x:Option R}:finK cs a b x=finK cs a' b' x:=by
 have y:∀c,evO a c=evO a' c:=λc=>kdz λt _=>e t;have C:∀c,evO b c=evO b' c:=λc=>kdz λt _=>f t;unfold finK;split
 ·rfl
 ·rw[funext y,funext C]
theorem Oper.mem_looksAt{ops:Array Oper}{o:Oper}{s:Tmp}(h:.tmp s∈o.op.operands.toList):s∈Oper.looksAt ops o:=by unfold Oper.looksAt;exact List.mem_append_left _ (List.mem_filterMap.2 ⟨_,h,rfl⟩)
theorem AnyA.soundR{rec:Rec}(am:RecOk P O rec)(R:ResOps P N ops0 ops J fp)(ac:∀(i:Nat)(o:Oper),ops0[i]?=some o->∀t∈Oper.looksAt ops0 o,t<N){an:Nat->Nat}
  (ap:∀l,Closed ops l->∀j∈Region.ready .any ops l,∀i,(an j).testBit i=true->l.getD i false=true)
  {k:Fr->AH->Option (AV×AH)} {cs:List Operand} (ax:∀i x,J i=some x->∀o,ops0[i]?=some o->∀c∈o.op.operands.toList,c∈cs) {r:AV×AH} {μ0:Mu} {h0:AH} {w0:World}:∀(n:Nat){l:Array Bool}{ps:List Look}{fr:Fr}{h:AH}{μ:Mu}{w:World}{a:Act},Closed ops l->
  AnyA P rec N ops an (λfr h=>finK cs (fr.low N) fp (k (fr.low N) h)) r n l ps fr h->Sim P O μ h w->FRel μ N (fr.low N) a.tmps->Ext μ0 h0 w0 μ h->Frm μ0 h0 w0 w->
  (∀i j t zs v,J i=some (j,t,zs,v)->fr.get (N+i)=some v/\(⟨i,.new j 0,0⟩:Look)∈ps/\h0.blks.size<=j/\(l.getD i false=false->h.blks[j]?=some (.cells zs t)/\μ j=none))->
  wpAny P .any ops0 (After P O μ0 N h0 w0 a.defers k r) n l a w
 | 0,l,ps,fr,h,μ,w,a,C,H,S,F,E,M,HJ=>⟨R.ready_nil.1 H.1,rfl,rfl,fr.low N,h,μ,(ku8 H.2).2,S,F,E,M⟩
 | n+1,l,ps,fr,h,μ,w,a,C,H,S,F,E,M,HJ=>by
  refine⟨λhr=>⟨rfl,rfl,fr.low N,h,μ,(ku8 (H.1 (R.ready_nil.2 hr))).2,S,F,E,M⟩,λi hi=>?_⟩;have ai:=R.ready_iff.2 hi;obtain⟨af,I,ad,-⟩:=mem_ready.1 ai;obtain⟨v,h1,W,e2,ec,e3⟩:=H.2 i ai I ad
  have ay:l.getD i false=false:=by
   rw[Array.getD_eq_getD_getElem?]at af|-;cases hq:l[i]? with
   | none=>rfl
   | some b=>rw[hq]at af;simpa using af
  have C':=C.set ai
  have put:∀{ν:Mu}{u:Value}{h2:AH}{w1:World},h2=h1->FRel ν N (fr.low N) a.tmps->VRel ν v u->Sim P O ν h2 w1->Ext μ0 h0 w0 ν h2->Frm μ0 h0 w0 w1->
    (∀i' j t zs v,i'≠i->J i'=some (j,t,zs,v)->l.getD i' false=false->h2.blks[j]?=some (.cells zs t)/\ν j=none)->
    wpAny P .any ops0 (After P O μ0 N h0 w0 a.defers k r) n (l.setIfInBounds i true) (a.put I.dst u) w1:=by
   intro ν u h2 w1 hh F' hv S' E' M' HB;subst hh
   have F2:FRel ν N ((putd I.dst v fr).low N) (a.put I.dst u).tmps:=by
    rw[kbjx e2];cases hd:I.dst with
    | none=>exact F'
    | some t =>have:=e2 t hd;exact F'.put (by simpa[Nat.blt_eq]using this) hv
   have:=AnyA.soundR am R ac ap ax n (a:=a.put I.dst u) C' e3 S' F2 E' M' (λi' j t zs v hj=>by
    obtain⟨g1,g2,g3,g4⟩:=HJ i' j t zs v hj;refine⟨?_,?_,g3,λK=>?_⟩
    ·have aj:∀s,I.dst=some s->s≠N+i':=λs hs=>by
      have:=e2 s hs;have h3:s<N:=by simpa[Nat.blt_eq]using this
      intro hc;rw[hc]at h3;exact absurd h3 (Nat.not_lt.2 (Nat.le_add_right N i'))
     rw[ki5 aj];exact g1
    ·cases nonEff I.op with
     | true=>exact List.mem_append_right _ g2
     | false=>exact g2
    ·by_cases aa:i'=i
     ·subst aa;exfalso
      have aq:i'<l.size:=by
       rcases Nat.lt_or_ge i' l.size with h | h
       ·exact h
       ·rw[Array.getD_eq_getD_getElem?,Array.getElem?_eq_none h]at af;cases af
      rw[Array.getD_eq_getD_getElem?,Array.getElem?_setIfInBounds_self,if_pos aq]at K;cases K
     ·rw[getD_set_ne false (λh=>aa h.symm)]at K;exact HB i' j t zs v aa hj K)
   rw[Go.Ab.put_defers]at this;exact this
  have az:∀i' j t zs v,J i'=some (j,t,zs,v)->l.getD i' false=false->h1.blks[j]?=some (.cells zs t):=by
   intro i' j t zs v hj K;obtain⟨g1,g2,g3,g4⟩:=HJ i' j t zs v hj;cases aj:nonEff I.op with
   | true=>rw[(ko2 (i:=i) aj W).1];exact(g4 K).1
   | false =>
    have hb:(an i).testBit i'=false:=by
     cases hb:(an i).testBit i' with
     | false=>rfl
     | true =>have:=ap l C i ai i' hb;rw[K]at this;cases this
    have:=(ec aj _ g2 hb).2 rfl;rw[show h1.blks[j]?=h.blks[j]? from this];exact(g4 K).1
  cases hJ:J i with
  | none =>
   rw[R.same i hJ]at ad;have bh:=ac i I ad
   have y:valA P rec ops0 I (fr.low N) h=some (v,h1):=by
    rw[<- W];have a1:valA P rec ops0 I (fr.low N) h=valA P rec ops0 I fr h:=kpb λt ht=>by rw[kf2,if_pos (bh t ht)]
    rw[a1];unfold valA;simp only[R.dst]
   unfold wpOp;simp only[ad]
   have go:opK P rec I.op I.type (fr.low N) h pk=some (v,h1)->Region.wanted I (yielded ops0 a.tmps)=true->
     (if Region.wanted I (yielded ops0 a.tmps)=true then I.wp P a w (wpAny P .any ops0 (After P O μ0 N h0 w0 a.defers k r) n (l.setIfInBounds i true)) (After P O μ0 N h0 w0 a.defers k r)\/(I.asks P a w/\LetsOut (After P O μ0 N h0 w0 a.defers k r))else wpAny P .any ops0 (After P O μ0 N h0 w0 a.defers k r) n (l.setIfInBounds i true) (a.put I.dst undef) w):=by
    intro bi hw;rw[if_pos hw]
    left
    obtain⟨v',bp,a0,ak⟩:=kqu am S F bi;simp only[pk,qb8,qb9]at a0;obtain⟨rfl,rfl⟩:=a0;refine ak _ _ λu w' ⟨ν,g1,g2,g3,g4⟩=>?_;refine put rfl (F.mono g3.2.1) g1 g2 (E.trans g3 M.1) (M.trans E g4) λi' j t zs v aa hj K=>⟨az i' j t zs v hj K,?_⟩;obtain⟨q1,q2,q3,q4⟩:=HJ i' j t zs v hj;have aq:j<h.blks.size:=(qca.1 (q4 K).1).1;rw[g3.2.2.1 j aq];exact(q4 K).2
   have skip:v=.tup []->h1=h->Region.wanted I (yielded ops0 a.tmps)=false->
     (if Region.wanted I (yielded ops0 a.tmps)=true then I.wp P a w (wpAny P .any ops0 (After P O μ0 N h0 w0 a.defers k r) n (l.setIfInBounds i true)) (After P O μ0 N h0 w0 a.defers k r)\/(I.asks P a w/\LetsOut (After P O μ0 N h0 w0 a.defers k r))else wpAny P .any ops0 (After P O μ0 N h0 w0 a.defers k r) n (l.setIfInBounds i true) (a.put I.dst undef) w):=by
    intro ag hh hw;rw[if_neg (by rw[hw];simp)];refine put (u:=undef) hh.symm F (by rw[ag];simp[VRel,undef,VRels]) S E M λi' j t zs v aa hj K=>⟨?_,?_⟩
    ·exact((HJ i' j t zs v hj).2.2.2 K).1
    ·exact((HJ i' j t zs v hj).2.2.2 K).2
   unfold valA at y;split at y
   ·rename_i hg;exact go y (by simp[Region.wanted,hg])
   ·rename_i j b hg;split at y
    ·cases y
    ·rename_i t ht;split at y
     ·rename_i c Q;obtain⟨u,hu,U⟩:=F.get t _ Q;simp only[VRel]at U;subst U;have hy:yielded ops0 a.tmps j=some c:=by simp[yielded,ht,hu]
      have V:Region.wanted I (yielded ops0 a.tmps)=(c==b):=by simp[Region.wanted,hg,hy]
      cases Z:(c==b)with
      | true=>rw[Z]at y;exact go y (V.trans Z)
      | false =>rw[Z]at y;simp only[cond_false,qb8,qb9]at y;exact skip y.1.symm y.2.symm (V.trans Z)
     ·rename_i Q;obtain⟨u,hu,U⟩:=F.get t _ Q;simp only[VRel]at U;obtain⟨us,rfl,_⟩:=U;have hy:yielded ops0 a.tmps j=none:=by simp[yielded,ht,hu]
      simp only[qb8,qb9]at y;exact skip y.1.symm y.2.symm (by simp[Region.wanted,hg,hy])
     ·cases y
  | some x =>
   obtain⟨j,t,zs,hd⟩:=x;obtain⟨o,ho,ba,ar,au,bj⟩:=R.res i j t zs hd hJ;rw[bj]at ad;cases ad;obtain⟨q1,q2,q3,q4⟩:=HJ i j t zs hd hJ;obtain⟨bb,hμ⟩:=q4 ay;unfold wpOp;simp only[ho]
   have ah:∀e∈o.after,Region.binds .any e=true->l.getD e.on false=true:=by obtain⟨_,oi,bc,ah⟩:=mem_ready.1 hi;rw[ho]at bc;cases bc;exact ah
   obtain⟨bk,hF,kF,gF⟩:=AnyA.final (n+1) H
   have aw:∀c∈o.op.operands.toList,evO (fr.low N) c=evO fp c:=by
    intro c hc;rw[<- (ku8 kF).1 c (ax i _ hJ o ho c hc)];cases c with
    | tmp s =>
     have hs:=ac i o ho s (Oper.mem_looksAt hc);show(fr.low N).get s=(bk.low N).get s;rw[kf2,kf2,if_pos hs,if_pos hs];refine(gF s λj' oj bm K bd=>?_).symm;have h0:=R.dst j';rw[bm,qbr,bd]at h0;cases hq:ops0[j']? with
     | none=>rw[hq]at h0;cases h0
     | some oq =>
      rw[hq,qbr]at h0;exact kblm au ah hc j' oq hq K h0.symm
    | _=>rfl
   have go:v=hd->h1=h->Region.wanted o (yielded ops0 a.tmps)=true->
     (if Region.wanted o (yielded ops0 a.tmps)=true then o.wp P a w (wpAny P .any ops0 (After P O μ0 N h0 w0 a.defers k r) n (l.setIfInBounds i true)) (After P O μ0 N h0 w0 a.defers k r)\/(o.asks P a w/\LetsOut (After P O μ0 N h0 w0 a.defers k r))else wpAny P .any ops0 (After P O μ0 N h0 w0 a.defers k r) n (l.setIfInBounds i true) (a.put o.dst undef) w):=by
    intro ag hh hw;rw[if_pos hw]
    left
    obtain⟨bn,hx,be,hj⟩:=ar;rw[<- ki6 aw]at be;obtain⟨zs',t',us,hE,hv,bf,ak⟩:=k9u (w:=w) F ba be
    have hz:zs=zs'/\t=t':=by
     have h2:(hx.blks.push (.cells zs t))=hx.blks.push (.cells zs' t'):=congrArg AH.blks hE;have h3:(hx.blks.push (.cells zs t))[hx.blks.size]?=(hx.blks.push (.cells zs' t'))[hx.blks.size]?:=by rw[h2]
     simpa using h3
    obtain⟨rfl,rfl⟩:=hz;rw[hj]at ak;refine ak _ _ ?_
    rintro u w' ⟨hu,rfl⟩
    refine put (ν:=Mu.set μ j ⟨w.heap.size,0,us.length⟩) hh.symm (F.mono (Mu.le_set hμ)) ?_ (S.lay bb hμ hv bf) (E.lay M.1 q3 hμ) ⟨by have:=M.1;simp;omega,λb hb hn=>?_⟩ λi' j' t' zs' v' aa ae K=>⟨?_,?_⟩
    ·rw[ag];exact hu
    ·rw[kdh _ _ _ (qbp hb M.1)];exact M.2 b hb hn
    ·exact((HJ i' j' t' zs' v' ae).2.2.2 K).1
    ·unfold Mu.set;rw[if_neg]
     ·exact((HJ i' j' t' zs' v' ae).2.2.2 K).2
     ·rintro rfl
      exact aa (R.inj i' i j' t' zs' v' t zs hd ae hJ)
   have skip:v=.tup []->h1=h->Region.wanted o (yielded ops0 a.tmps)=false->
     (if Region.wanted o (yielded ops0 a.tmps)=true then o.wp P a w (wpAny P .any ops0 (After P O μ0 N h0 w0 a.defers k r) n (l.setIfInBounds i true)) (After P O μ0 N h0 w0 a.defers k r)\/(o.asks P a w/\LetsOut (After P O μ0 N h0 w0 a.defers k r))else wpAny P .any ops0 (After P O μ0 N h0 w0 a.defers k r) n (l.setIfInBounds i true) (a.put o.dst undef) w):=by
    intro ag hh hw;rw[if_neg (by rw[hw];simp)];refine put (u:=undef) hh.symm F (by rw[ag];simp[VRel,undef,VRels]) S E M λi' j' t' zs' v' aa ae K=>⟨?_,?_⟩
    ·exact((HJ i' j' t' zs' v' ae).2.2.2 K).1
    ·exact((HJ i' j' t' zs' v' ae).2.2.2 K).2
   have mv:opK P rec (.move (.tmp (N+i))) o.type fr h pk=some (v,h1)->v=hd/\h1=h:=by intro hk;simp only[opK,evO,kju,q1,qbr,pk,qb8,qb9]at hk;exact⟨hk.1.symm,hk.2.symm⟩
   have al:=ac i o ho;unfold valA at W;dsimp only at W;split at W
   ·rename_i hg;obtain⟨k1,k2⟩:=mv W;exact go k1 k2 (by simp[Region.wanted,hg])
   ·rename_i jj b hg;rw[R.dst]at W;split at W
    ·cases W
    ·rename_i tt ht;have bg:tt<N:=al tt (by simp[Oper.looksAt,hg,ht]);split at W
     ·rename_i c Q;obtain⟨u,hu,U⟩:=F.get tt _ (by rw[kf2,if_pos bg];exact Q);simp only[VRel]at U;subst U;have hy:yielded ops0 a.tmps jj=some c:=by simp[yielded,ht,hu]
      have V:Region.wanted o (yielded ops0 a.tmps)=(c==b):=by simp[Region.wanted,hg,hy]
      cases Z:(c==b)with
      | true =>
       rw[Z]at W;obtain⟨k1,k2⟩:=mv W;exact go k1 k2 (V.trans Z)
      | false =>rw[Z]at W;simp only[cond_false,qb8,qb9]at W;exact skip W.1.symm W.2.symm (V.trans Z)
     ·rename_i Q;obtain⟨u,hu,U⟩:=F.get tt _ (by rw[kf2,if_pos bg];exact Q);simp only[VRel]at U;obtain⟨us,rfl,_⟩:=U;have hy:yielded ops0 a.tmps jj=none:=by simp[yielded,ht,hu]
      simp only[qb8,qb9]at W;exact skip W.1.symm W.2.symm (by simp[Region.wanted,hg,hy])
     ·cases W
theorem kwr{rec:Rec}(ad:RecOk P O rec){K:List Nat}{k:Fr->AH->Option (AV×AH)}{r:AV×AH}(hk:∀(a b:Fr)(h:AH),a.same b->k a h=k b h)(ae:∀(i:Nat)(o:Oper),ops0[i]?=some o->∀t∈Oper.looksAt ops0 o,t<N)
  {μ:Mu} {h0:AH} {w:World} {a:Act} (S0:Sim P O μ h0 w):∀(is:List Nat){cs:List Operand}{ops:Array Oper}{ps:List Look}{fr:Fr}{h:AH}{J:Nat->Option (Nat×TypeId×List AV×AV)},ResOps P N ops0 ops J fp->(∀i x,J i=some x->∀o,ops0[i]?=some o->∀c∈o.op.operands.toList,c∈cs)->Sim P O μ h w->FRel μ N (fr.low N) a.tmps->h0.blks.size<=h.blks.size->(∀i,i<h0.blks.size->h.blks[i]?=h0.blks[i]?)->
  (∀i j t zs v,J i=some (j,t,zs,v)->fr.get (N+i)=some v/\(⟨i,.new j 0,0⟩:Look)∈ps/\h0.blks.size<=j/\j<h.blks.size/\h.blks[j]?=some (.cells zs t))->
  drawR P rec N K fp is cs ops ps fr h k=some r->wpAny P .any ops0 (After P O μ N h0 w a.defers k r) ops0.size (Array.replicate ops0.size false) a w
 | [],cs,ops,ps,fr,h,J,R,af,S,F,hs,hb,HJ,I=>by
  simp only[drawR]at I;cases ag:Nat.beq K.length ops.size with
  | false=>rw[ag]at I;cases I
  | true =>
   rw[ag,cond_true]at I
   have am:∀(a b:Fr)(h:AH),a.same b->(λ(fr:Fr) (h:AH)=>finK cs (fr.low N) fp (k (fr.low N) h)) a h=(λ(fr:Fr) (h:AH)=>finK cs (fr.low N) fp (k (fr.low N) h)) b h:=λa b h e=>by show finK cs (a.low N) fp (k (a.low N) h)=finK cs (b.low N) fp (k (b.low N) h);rw[hk _ _ _ (e.low N),ksz (e.low N) (Fr.same.refl fp)]
   have C0:Closed ops (Array.replicate ops.size false):=⟨by simp,λj o hj=>by rw[Array.getD_eq_getD_getElem?,Array.getElem?_replicate]at hj;split at hj<;>simp at hj⟩
   have any:=knu (l:=Array.replicate ops.size false) am K ⟨by simp,λj=>by simp[Array.getElem?_replicate];split<;>rfl⟩ C0 I;rw[Nat.eq_of_beq_eq_true ag]at any
   have V:∀j,h0.blks.size<=j->μ j=none:=λj hj=>by
    cases hq:μ j with
    | none=>rfl
    | some L=>have:=S0.dom _ _ hq;omega
   have E:Ext μ h0 w μ h:=⟨hs,Mu.le_refl μ,λ_ _=>rfl,λi hi hl b aa=>hl b (by rw[hb i hi];exact aa),λi L h1 h2 Z=>by rw[V i h1]at Z;cases Z⟩
   have:=AnyA.soundR ad R ae anc_ok af (μ0:=μ) (h0:=h0) (w0:=w) ops.size C0 any S F E ⟨qbn _,λ_ _ _=>rfl⟩ (λi j t zs v hj=>by obtain⟨g1,g2,g3,g4,g5⟩:=HJ i j t zs v hj;exact⟨g1,g2,g3,λ_=>⟨g5,V j g3⟩⟩)
   rw[R.size]at this;exact this
 | i::is,cs,ops,ps,fr,h,J,R,af,S,F,hs,hb,HJ,I=>by
  simp only[drawR]at I;split at I
  ·rename_i o ho;obtain⟨aj,I⟩:=kp I;rw[qb6]at aj;obtain⟨W,ah⟩:=aj;rw[khq,qbs]at I;obtain⟨⟨v,h1⟩,ak,I⟩:=I;dsimp only at I;obtain⟨zs,t,rfl⟩:=kbdn W ak
   have ap:J i=none:=by
    cases hq:J i with
    | none=>rfl
    | some x =>obtain⟨j,t',zs',v'⟩:=x;obtain⟨o2,_,_,_,_,h4⟩:=R.res i j t' zs' v' hq;rw[h4]at ho;cases ho;cases W
   have al:ops0[i]?=some o:=by rw[<- R.same i ap];exact ho
   have aq:i<ops.size:=(qca.1 ho).1
   have ac:heldB ops0 o=true:=by rw[<- ah];unfold heldB;rw[R.size];simp only[R.dst]
   refine kwr ad hk ae S0 is (J:=λx=>if x=i then some (h.blks.size,t,zs,v)else J x) ?_ ?_ ?_ ?_ ?_ ?_ ?_ I
   ·refine⟨by simpa using R.size,λx H=>?_,λx j t' zs' v' H=>?_,λx x' j t1 z1 v1 t2 z2 v2 H U=>?_⟩
    ·by_cases C:x=i
     ·rw[if_pos C]at H;cases H
     ·rw[if_neg C]at H;rw[Array.getElem?_setIfInBounds_ne (λh=>C h.symm)];exact R.same x H
    ·by_cases C:x=i
     ·subst C;rw[if_pos rfl]at H;cases H;exact⟨o,al,W,⟨rec,h,ak,rfl⟩,ac,by rw[Array.getElem?_setIfInBounds_self,if_pos aq]⟩
     ·rw[if_neg C]at H;obtain⟨o2,h1,h2,h3,h4,h5⟩:=R.res x j t' zs' v' H;exact⟨o2,h1,h2,h3,h4,by rw[Array.getElem?_setIfInBounds_ne (λh=>C h.symm)];exact h5⟩
    ·by_cases C:x=i<;>by_cases Q:x'=i
     ·rw[C,Q]
     ·rw[if_pos C]at H;rw[if_neg Q]at U;cases H;have:=(HJ x' _ t2 z2 v2 U).2.2.2.1;omega
     ·rw[if_neg C]at H;rw[if_pos Q]at U;cases U;have:=(HJ x _ t1 z1 v1 H).2.2.2.1;omega
     ·rw[if_neg C]at H;rw[if_neg Q]at U;exact R.inj x x' j t1 z1 v1 t2 z2 v2 H U
   ·intro x y H ox ai c hc;by_cases C:x=i
    ·subst C;rw[al]at ai;cases ai;exact List.mem_append_left _ hc
    ·rw[if_neg C]at H;exact List.mem_append_right _ (af x y H ox ai c hc)
   ·
    refine{old:=S.old,os:=S.os,tape:=S.tape,output:=S.output,base:=S.base,keep:=S.keep,dom:=λx L Z=>?_,place:=S.place,blk:=λx L b Z aa=>?_,inj:=λx y L M Z hM lx ly he=>?_}
    ·have:=S.dom x L Z;simp;omega
    ·have H:=S.dom x L Z;refine S.blk x L b Z ?_;simp only[Array.getElem?_push]at aa;rwa[if_neg (by omega)]at aa
    ·have H:=S.dom x L Z;have hy:=S.dom y M hM;exact S.inj x y L M Z hM (kgr (by omega) lx) (kgr (by omega) ly) he
   ·have:Fr.low N ((N+i,v)::fr)=fr.low N:=by
     show List.filter _ (_::fr)=_;rw[List.filter_cons];dsimp only
     rw[show Nat.blt (N+i) N=false from by
      cases hq:Nat.blt (N+i) N with
      | false=>rfl
      | true =>
       have:N+i<N:=by simpa[Nat.blt_eq]using hq
       omega]
     rfl
    rw[this];exact F
   ·simp;omega
   ·intro x H;simp only[Array.getElem?_push];rw[if_neg (by omega)];exact hb x H
   ·intro x j t' zs' v' H;by_cases C:x=i
    ·subst C;rw[if_pos rfl]at H;cases H;exact⟨by rw[get_cons,if_pos rfl],List.mem_cons_self ..,hs,by simp,by simp⟩
    ·rw[if_neg C]at H;obtain⟨g1,g2,g3,g4,g5⟩:=HJ x j t' zs' v' H;refine⟨?_,List.mem_cons_of_mem _ g2,g3,by simp;omega,?_⟩
     ·rw[get_cons,if_neg (by omega)];exact g1
     ·simp only[Array.getElem?_push];rw[if_neg (by omega)];exact g5
  ·cases I
theorem kxx{rec:Rec}(C:RecOk P O rec){ops:Array Oper}{H I U:List Nat}{fr:Fr}{h:AH}{k:Fr->AH->Option (AV×AH)}{r:AV×AH}(hk:∀(a b:Fr)(h:AH),a.same b->k a h=k b h)
  (y:drawX P rec N ops H I U fr h k=some r) {μ:Mu} {w:World} {a:Act} (S:Sim P O μ h w) (F:FRel μ N fr a.tmps):wpAny P .any ops (After P O μ N h w a.defers k r) ops.size (Array.replicate ops.size false) a {w with drawn:=w.drawn+1}:=by
 unfold drawX at y;split at y
 ·exact k53 C hk y S F
 ·rename_i i is;cases K:lowB N ops with
  | false=>rw[K]at y;cases y
  | true =>
   rw[K,cond_true,ksk,qbs]at y;obtain⟨⟨fp,hx⟩,-,y⟩:=y;dsimp only at y
   have Q:∀(i:Nat)(o:Oper),ops[i]?=some o->∀t∈Oper.looksAt ops o,t<N:=by
    intro i o V t W;unfold lowB at K;rw[List.all_eq_true]at K;have:=K o (by rw[Array.mem_toList_iff];exact Array.mem_of_getElem? V);rw[List.all_eq_true]at this
    simpa[Nat.blt_eq]using this t W
   have Z:FRel μ N (fr.low N) a.tmps:=⟨F.size,λt v hv=>by
    rw[kf2]at hv;split at hv
    ·exact F.get t v hv
    ·cases hv⟩
   exact kwr C hk Q (h0:=h) (w:=w.drew) (S.drew) (i::is) (J:=λ_=>none) ⟨rfl,λ_ _=>rfl,λ_ _ _ _ _ h=>(by cases h),λ_ _ _ _ _ _ _ _ _ h=>(by cases h)⟩ (λ_ _ h=>(by cases h)) (S.drew) Z (qbn _) (λ_ _=>rfl) (λ_ _ _ _ _ h=>(by cases h)) y
theorem kbb3(K:P.follows .mixedOrders=true){rec:Rec}(C:RecOk P O rec){id:Nat}{ops:Array Oper}{y H I:List Nat}{fr:Fr}{h:AH}{k:Fr->AH->Option (AV×AH)}{r:AV×AH}(hk:∀(a b:Fr)(h:AH),a.same b->k a h=k b h)
  (Q:drawX P rec N ops y H I fr h k=some r) {μ:Mu} {w:World} {a:Act} (S:Sim P O μ h w) (F:FRel μ N fr a.tmps):(Code.region id ops true).wp P (After P O μ N h w a.defers k r) a w :=
 wp_region_any K (kxx C hk Q S F)
end
theorem kkv{rec:Rec}{N:Nat}{ops:Array Oper}{R:Type}{k:Fr->AH->Option R}(hk:∀(a b:Fr)(h:AH),a.same b->k a h=k b h):∀(is:List Nat){a b:Fr}{h:AH},a.same b->opsK P rec N ops is a h k=opsK P rec N ops is b h k
 | [],a,b,h,e=>hk a b h e
 | i::is,a,b,h,e=>by
  have put:∀(d:Option Tmp)(v:AV){a b:Fr}(h:AH),a.same b->(putT N d v a λy=>opsK P rec N ops is y h k)=putT N d v b λy=>opsK P rec N ops is y h k:=by
   intro d v a b h e;simp only[khx];cases d with
   | none=>exact kkv hk is e
   | some t=>dsimp only;rw[kkv hk is (e.putd (some t) v)]
  have go:∀(o:Oper){a b:Fr},a.same b->(opK P rec o.op o.type a h λv h'=>putT N o.dst v a λy=>opsK P rec N ops is y h' k)=opK P rec o.op o.type b h λv h'=>putT N o.dst v b λy=>opsK P rec N ops is y h' k:=by intro o a b e;rw[ki6 (b:=b) λx _=>kdz λt _=>e t];congr 1;funext v h';exact put _ _ _ e
  have learn:∀(t:Tmp)(v:AV),Fr.same ((t,v)::a) ((t,v)::b):=λt v=>e.putd (some t) v;simp only[opsK];cases C:ops[i]? with
  | none=>rfl
  | some o =>
   dsimp only;cases F:o.guard with
   | none=>exact go o e
   | some jb =>
    obtain⟨j,b'⟩:=jb;dsimp only;cases H:(ops[j]?).bind (·.dst)with
    | none=>rfl
    | some t =>dsimp only;rw[e t,go o (learn t (.bool true)),go o (learn t (.bool false)),put o.dst (.tup []) h (learn t (.bool true)),put o.dst (.tup []) h (learn t (.bool false)),put o.dst (.tup []) h e]
theorem ksl{a b:Fr}(e:a.same b):∀xs:List Operand,evs a xs=evs b xs
 | []=>rfl
 | x::xs=>by simp only[evs,kdz (a:=a) (b:=b) (x:=x) λt _=>e t,ksl e xs]
theorem kbet{rec:Rec}{o:Op}{ty:TypeId}{a b:Fr}{h:AH}{R:Type}{k:AV->AH->Option R}(e:a.same b):opY P rec o ty a h k=opY P rec o ty b h k:=by
 have F:kjk o a=kjk o b:=by
  unfold kjk;split
  ·rename_i c;rw[ksl e];split
   ·rename_i f xs _ _;rw[kdz (a:=a) (b:=b) (x:=f) λt _=>e t]
   ·rfl
  ·rfl
 have y:∀x,evO a x=evO b x:=λx=>kdz λt _=>e t;have C:opK P rec o ty a h k=opK P rec o ty b h k:=ki6 (b:=b) λx _=>y x;unfold opY;rw[F];split
 ·rfl
 ·unfold opM;split
  ·rfl
  ·rw[y,y,y]
  ·rw[y,y,y]
  ·rw[y,y]
  ·rw[y,y]
  ·rw[y,y,y]
  ·rw[ksl e,C]
  ·exact C
theorem ktk{rec:Rec}{N:Nat}{ops:Array Oper}{R:Type}{k:Fr->AH->Option R}(hk:∀(a b:Fr)(h:AH),a.same b->k a h=k b h):∀(is:List Nat){a b:Fr}{h:AH},a.same b->opsY P rec N ops is a h k=opsY P rec N ops is b h k
 | [],a,b,h,e=>hk a b h e
 | i::is,a,b,h,e=>by
  have put:∀(d:Option Tmp)(v:AV){a b:Fr}(h:AH),a.same b->(putT N d v a λy=>opsY P rec N ops is y h k)=putT N d v b λy=>opsY P rec N ops is y h k:=by
   intro d v a b h e;simp only[khx];cases d with
   | none=>exact ktk hk is e
   | some t=>dsimp only;rw[ktk hk is (e.putd (some t) v)]
  have go:∀(o:Oper){a b:Fr},a.same b->(opY P rec o.op o.type a h λv h'=>putT N o.dst v a λy=>opsY P rec N ops is y h' k)=opY P rec o.op o.type b h λv h'=>putT N o.dst v b λy=>opsY P rec N ops is y h' k:=by intro o a b e;rw[kbet e];congr 1;funext v h';exact put _ _ _ e
  have learn:∀(t:Tmp)(v:AV),Fr.same ((t,v)::a) ((t,v)::b):=λt v=>e.putd (some t) v;simp only[opsY];cases C:ops[i]? with
  | none=>rfl
  | some o =>
   dsimp only;cases F:o.guard with
   | none=>exact go o e
   | some jb =>
    obtain⟨j,b'⟩:=jb;dsimp only;cases H:(ops[j]?).bind (·.dst)with
    | none=>rfl
    | some t =>dsimp only;rw[e t,go o (learn t (.bool true)),go o (learn t (.bool false)),put o.dst (.tup []) h (learn t (.bool true)),put o.dst (.tup []) h (learn t (.bool false)),put o.dst (.tup []) h e]
theorem kqi{rec:Rec}{N:Nat}{ops:Array Oper}{y C:List Nat}{R:Type}{k:Fr->AH->Option R}(hk:∀(a b:Fr)(h:AH),a.same b->k a h=k b h):∀(c:List Nat){m:Nat}{ps:List Look}{a b:Fr}{h:AH},a.same b->opsD P rec N ops y C c m ps a h k=opsD P rec N ops y C c m ps b h k
 | [],m,ps,a,b,h,e=>by simp only[opsD,hk a b h e]
 | i::c,m,ps,a,b,h,e=>by
  simp only[opsD];split
  ·rename_i o an I H;have l:kbz P i o.op a=kbz P i o.op b:=kol (ops:=ops) λt _=>e t;rw[l];rw[kkv (b:=b) (k:=λF h'=>opsD P rec N ops y C c (m|||1 <<< i) (kbz P i o.op b++ps) F h' k) (λa b h e=>kqi hk c e) [i] e];rw[kkv (b:=b) (k:=λF h'=>checkP an h h' (opsD P rec N ops y C c (m|||1 <<< i) ps F h' k) ps) (λa b h' e=>by rw[kqi hk c e]) [i] e]
  ·rfl
theorem kr9{rec:Rec}{N:Nat}{C:List Nat}{R:Type}{k:Fr->AH->Option R}(hk:∀(a b:Fr)(h:AH),a.same b->k a h=k b h){fp H:Fr}(I:fp.same H):∀(is:List Nat){cs:List Operand}{ops:Array Oper}{ps:List Look}{a b:Fr}{h:AH},a.same b->drawR P rec N C fp is cs ops ps a h k=drawR P rec N C H is cs ops ps b h k
 | [],cs,ops,ps,a,b,h,e=>by
  simp only[drawR];have K:∀(F:Fr)(h':AH),finK cs (F.low N) fp (k (F.low N) h')=finK cs (F.low N) H (k (F.low N) h'):=λF h'=>ksz (Fr.same.refl _) I;simp only[K]
  rw[kqi (k:=λF h'=>finK cs (F.low N) H (k (F.low N) h')) (λx y h e=>by
   show finK cs (x.low N) H (k (x.low N) h)=finK cs (y.low N) H (k (y.low N) h);rw[hk _ _ _ (e.low N),ksz (e.low N) (Fr.same.refl H)]) C e]
 | i::is,cs,ops,ps,a,b,h,e=>by
  simp only[drawR];split
  ·rename_i o Q
   have K:∀(v:AV)(h':AH),drawR P rec N C fp is (o.op.operands.toList++cs) (ops.setIfInBounds i {o with op:=.move (.tmp (N+i))}) (⟨i,h.next,0⟩::ps) ((N+i,v)::a) h' k=drawR P rec N C H is (o.op.operands.toList++cs) (ops.setIfInBounds i {o with op:=.move (.tmp (N+i))}) (⟨i,h.next,0⟩::ps) ((N+i,v)::b) h' k:=λv h'=>kr9 hk I is λt=>by rw[get_cons,get_cons,e t]
   simp only[K];rw[ki6 (a:=fp) (b:=H) λx _=>kdz λt _=>I t]
  ·rfl
theorem krh{a b:Fr}(e:a.same b):∀(L:List Nat),a.keep L=b.keep L
 | []=>rfl
 | t::L=>by simp only[Fr.keep,e t,krh e L]
theorem krq{a b:Fr}{h:AH}(e:a.same b):∀(y:List ResultVar)(k:List AV->Option (AV×AH)),resK P a h y k=resK P b h y k
 | [],k=>rfl
 | .tmp t::y,k=>by simp only[resK,e t,krq e y]
 | .cell x t::y,k=>by simp only[resK,e x,krq e y]
theorem kxc{a b:Fr}(e:a.same b)(c:Operand)(t:Bool):(learn c t a).same (learn c t b):=by
 cases c with
 | tmp s=>exact e.putd (some s) _
 | _=>exact e
theorem ke7{K:Keep}{rec:Rec}{ro:Option Nat}{f:FuncId}{fn:Func}:∀(n:Nat){fresh:Bool}{todo:List Item}(a b:Fr)(h:AH),a.same b->execA P K rec ro f fn n fresh todo a h=execA P K rec ro f fn n fresh todo b h
 | 0,fresh,todo,a,b,h,e=>rfl
 | n+1,fresh,todo,a,b,h,e=>by
  have I:=λ{fresh:Bool} {todo:List Item}=>ke7 (K:=K) (rec:=rec) (ro:=ro) (f:=f) (fn:=fn) n (fresh:=fresh) (todo:=todo) a b h e
  have res:∀F,leaveA P fn ro F a h=leaveA P fn ro F b h:=λF=>by unfold leaveA;have:khn P fn a h=khn P fn b h:=krq e _ _;rw[this]
  unfold execA
  try simp only[kdy]
  have ops:∀(ops:Array Oper)(is:List Nat)(k:List Item),(opsY P rec fn.ntmps ops is a h λC h'=>execA P K rec ro f fn n false k C h')=opsY P rec fn.ntmps ops is b h λC h'=>execA P K rec ro f fn n false k C h':=λops is k=>ktk (λx y h e=>ke7 n x y h e) is e
  have Q:∀(ops:Array Oper)(is H ls:List Nat)(k:List Item),(drawX P rec fn.ntmps ops is H ls a h λC h'=>execA P K rec ro f fn n false k C h')=drawX P rec fn.ntmps ops is H ls b h λC h'=>execA P K rec ro f fn n false k C h':=λops is H ls k=>by
   unfold drawX drawK;rw[kqi (λx y h e=>ke7 n x y h e) is e];split
   ·rfl
   ·rename_i i H
    have Z:∀(fp:Fr)(U:AH),drawR P rec fn.ntmps is fp (i::H) [] ops [] a h (λC h'=>execA P K rec ro f fn n false k C h')=drawR P rec fn.ntmps is fp (i::H) [] ops [] b h (λC h'=>execA P K rec ro f fn n false k C h'):=λfp U=>kr9 (λx y h e=>ke7 n x y h e) (Fr.same.refl fp) _ e
    have h2:(opsK P rec fn.ntmps ops ls a h λfp _=>drawR P rec fn.ntmps is fp (i::H) [] ops [] a h (λC h'=>execA P K rec ro f fn n false k C h'))=opsK P rec fn.ntmps ops ls a h λfp _=>drawR P rec fn.ntmps is fp (i::H) [] ops [] b h (λC h'=>execA P K rec ro f fn n false k C h'):=by congr 1;funext fp U;exact Z fp U
    rw[h2,kkv (λx y h0 ee=>kr9 (λx y h e=>ke7 n x y h e) ee _ (Fr.same.refl b)) ls e]
  split
  all_goals first
   | exact res _
   | exact I
   | skip
  ·rename_i c x y k;rw[kdz (a:=a) (b:=b) λt _=>e t];split
   ·rw[ke7 n _ _ h (kxc e c true),ke7 n _ _ h (kxc e c false)]
   ·rfl
  ·split
   ·exact I
   ·exact res _
  ·split
   ·exact I
   ·exact res _
  ·rename_i id V W k;rw[ops,Q];simp only[krh e]
  ·split
   ·congr 1;funext h';exact ke7 n _ _ h' e
   ·rfl
  ·rename_i g ps as bd k;split
   ·rfl
   ·rw[kdz (a:=a) (b:=b) λt _=>e t,krh e]
  ·rfl
end Go.Ab
