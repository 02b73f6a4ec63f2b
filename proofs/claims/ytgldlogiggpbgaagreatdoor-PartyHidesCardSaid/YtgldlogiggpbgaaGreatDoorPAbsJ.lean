/- Words and laws that the last text joins. -/
import Derived.Test.YtgldlogiggpbgaaGreatDoorPAbsA
import Derived.MapKept
import Derived.WideKeyRuns
import Derived.AtR
set_option linter.unusedVariables false
set_option linter.unusedSimpArgs false
set_option linter.unusedSectionVars false
namespace Go.Ab
variable{P:Program}{O:World}{R:Type}
theorem kba5{μ:Mu}{t:TypeId}{x:AV}{k:AV->Option R}{r:R}(h:lenK P t x k=some r){u:Value}(F:VRel μ x u){G:Array TypeId}(h0:G[0]?=some t)(ty:TypeId)(w:World) :
  ∃z a,k z=some r/\VRel μ z a/\(Builtin.len_ G ty #[u]).run P w=.ok a w:=by
 unfold lenK at h;split at h
 ·rename_i s y;simp only[VRel]at F;subst F;exact⟨_,.int .i64 s.size,h,by simp[VRel],by simp[Builtin.len_,h0,run_underlying y,goInt]⟩
 ·rename_i n e y;exact⟨_,.int .i64 n,h,by simp[VRel],by simp[Builtin.len_,h0,run_underlying y,goInt]⟩
 ·rename_i e r n c y;obtain⟨a,cap,rfl,_⟩:=F.slice_open;exact⟨_,.int .i64 n,h,by simp[VRel],by simp[Builtin.len_,h0,run_underlying y,goInt]⟩
 ·cases h
theorem kbna{μ:Mu}{h:AH}{w:World}(S:Sim P O μ h w){ts:Array TypeId}{ty t e:TypeId}(h0:ts[0]?=some t)(hd:P.underlying t=some (.slice e))(aa:(P.info? e).isSome=true)
  {r K:Option Ref} {n y:Nat} {c c':Cap} {u u':Value} (U:VRel μ (.slice r n c) u) (z:VRel μ (.slice K y c') u') {h':AH} (I:copyH ⟨K,y,c'⟩ ⟨r,n,c⟩ (P.cellsOf e) h=some h') :
  Yields P (Builtin.copy_ ts ty #[u,u']) w (Good P O μ h w (.int .i64 ((min y n:Nat):Int)) h'):=by
 obtain⟨ie,hi⟩:=Option.isSome_iff_exists.1 aa;have hs:(sizeOf e).run P w=.ok (P.cellsOf e) w:=by simp[sizeOf,typeInfo,hi,Program.cellsOf]
 have F:(Builtin.lenOf u').run P w=.ok y w:=by obtain⟨_,_,rfl,_⟩:=z.slice_open;rfl
 unfold copyH at I;have G:min y n=Nat.min y n:=rfl;split at I
 ·rename_i rd rs V W;dsimp only at V W I;subst V;subst W;simp only[qbw]at I;obtain⟨cs,hg,hp⟩:=I;obtain⟨us,k1,Q,k3,k4⟩:=kl5 S z (m:=min y n) (Nat.min_le_left _ _) (by simpa[AH.getsO]using hg);simp only[VRel]at U;obtain⟨a,cap,rfl,ab,Z⟩:=U;have ag:n<=cap:=by cases c<;>exact Z.1
  rw[G]at Q;rcases ab with ah | ac
  ·have hn:n=0:=by omega
   subst hn;have H:us=[]:=List.eq_nil_of_length_eq_zero (by simpa using k1);subst H;have ad:cs=[]:=List.eq_nil_of_length_eq_zero k3.length.symm;subst ad;simp only[AH.puts,qcd]at hp;subst hp;refine⟨.int .i64 ((min y 0:Nat):Int),w,?_,qd S (by simp[VRel])⟩;simp[Builtin.copy_,h0,run_underlying hd,F,hs,<- G]at Q|-;simp[Q,storeCells,goInt]
  ·obtain⟨w',e1,e2,e3,e4⟩:=kos (i:=0) (a:=a) S (by rw[show a.add 0=a from by simp[Addr.add]];exact ac) k3 k4 hp;refine⟨.int .i64 ((min y n:Nat):Int),w',?_,μ,by simp[VRel],e2,e3,e4⟩;simp[Builtin.copy_,h0,run_underlying hd,F,hs,Q,e1,goInt,G]
 ·rename_i ae;simp only[qcd]at I;subst I
  have hz:min y n=0\/False:=by
   cases r with
   | none=>simp only[VRel]at U;left;rw[U.1];simp
   | some r=>cases K with
    | none=>simp only[VRel]at z;left;rw[z.1];simp
    | some K=>exact absurd rfl (ae r K rfl)
  have hz:min y n=0:=by simpa using hz
  obtain⟨us,k1,Q,k3,k4⟩:=kl5 (size:=P.cellsOf e) S z (m:=0) (Nat.zero_le _) (by cases K<;>simp[AH.getsO,AH.gets]<;>rfl);have H:us=[]:=List.eq_nil_of_length_eq_zero (by simpa using k1);subst H;have af:Nat.min y n=0:=hz;refine⟨.int .i64 ((min y n:Nat):Int),w,?_,qd S (by simp[VRel])⟩;obtain⟨base,cap,rfl,_⟩:=U.slice_open;cases base<;>simp[Builtin.copy_,h0,run_underlying hd,F,hs,af,Q,storeCells,goInt,hz]
theorem km2(ρ:Operand->Value)(o:Oper)(c:Call)(y:o.op=.call c):execOp ρ o=(do let d <- resolve ρ c o.type;invoke d.target d.args):=by unfold execOp;rw[y]
theorem k9q{v:AV}{k:AV->Option R}{r:R}(h:leafK .slice (some v) k=some r):k v=some r:=by obtain⟨x,y,hk⟩:=ko4 h;cases y;exact hk
theorem kbmk{μ:Mu}{h:AH}{w:World}(S:Sim P O μ h w){b:Builtin}{ts:Array TypeId}{xs:List AV}{us:List Value}(hx:VRels μ xs us){k:AV->AH->Option R}{r:R}(hk:kgr P b ts.toList xs h k=some r)(ty:TypeId)(Q:Array Bool) :
  ∃v h1,k v h1=some r/\∃u w',(builtin b ts ty Q us.toArray).run P w=.ok (.value u) w'/\Good P O μ h w v h1 u w':=by
 unfold kgr at hk;split at hk
 ·rename_i t aa x I;obtain⟨u,us',rfl,K,F⟩:=hx.cons_inv;have:=F.nil_inv;subst this;have h0:ts[0]?=some t:=by have:=congrArg (·[0]?) I;simpa using this
  obtain⟨z,a,H,hz,hr⟩:=kba5 hk K h0 ty w;exact⟨z,h,H,a,w,by simp[builtin,hr],qd S hz⟩
 ·rename_i kd a ab b;obtain⟨u,us',rfl,K,F⟩:=hx.cons_inv;obtain⟨u2,U,rfl,G,y⟩:=F.cons_inv;have:=y.nil_inv;subst this;simp only[VRel]at K G;subst K;subst G;refine⟨_,h,hk,.int kd (imin a b),w,?_,qd S (by simp[VRel])⟩;simp only[builtin,Builtin.min_,List.foldlM_cons,List.foldlM_nil,Builtin.min2,imin];by_cases V:b<a<;>simp[V]
 ·rename_i kd a ab b;obtain⟨u,us',rfl,K,F⟩:=hx.cons_inv;obtain⟨u2,U,rfl,G,y⟩:=F.cons_inv;have:=y.nil_inv;subst this;simp only[VRel]at K G;subst K;subst G;refine⟨_,h,hk,.int kd (imax a b),w,?_,qd S (by simp[VRel])⟩;simp only[builtin,Builtin.max_,List.foldlM_cons,List.foldlM_nil,Builtin.max2,imax];by_cases V:a<b<;>simp[V]
 ·rename_i t u' aa q n c x I;obtain⟨u,us',rfl,K,F⟩:=hx.cons_inv;obtain⟨u2,U,rfl,G,y⟩:=F.cons_inv;have:=y.nil_inv;subst this;have h0:ts[0]?=some t:=by have:=congrArg (·[0]?) I;simpa using this
  have h1:ts[1]?=some u':=by have:=congrArg (·[1]?) I;simpa using this
  split at hk
  ·rename_i e f hd ac;obtain⟨W,H⟩:=kr hk;simp only[qbw]at H;obtain⟨p,hp,q,hq,Z⟩:=H;obtain⟨u3,w',hr,g⟩:=kbqj (ty:=ty) S h0 h1 hd ac W K G hp hq;exact⟨q.1,q.2,k9q Z,u3,w',by simp[builtin,hr],g⟩
  ·cases hk
 ·rename_i t aa q n c q' n' c' I;obtain⟨u,us',rfl,K,F⟩:=hx.cons_inv;obtain⟨u2,U,rfl,G,y⟩:=F.cons_inv;have:=y.nil_inv;subst this;have h0:ts[0]?=some t:=by have:=congrArg (·[0]?) I;simpa using this
  split at hk
  ·rename_i e hd;obtain⟨W,H⟩:=kr hk;simp only[qbw]at H;obtain⟨h',hc,Z⟩:=H;obtain⟨u3,w',hr,g⟩:=kbna (ty:=ty) S h0 hd W K G hc;exact⟨_,h',Z,u3,w',by simp[builtin,hr],g⟩
  ·cases hk
 ·cases hk
theorem koo:(Extern.allNextRows.lookup "math/bits.Add64").isSome=false/\(Extern.allNextRows.lookup "math/bits.Sub64").isSome=false/\(Extern.allNextRows.lookup "").isSome=false:=by refine⟨by kernel_rfl,by kernel_rfl,by kernel_rfl⟩
theorem k26:(Extern.allGenericRows.lookup "math/bits.Add64").isSome=false/\(Extern.allGenericRows.lookup "math/bits.Sub64").isSome=false:=by refine⟨by kernel_rfl,by kernel_rfl⟩
theorem k2n:(Extern.allTypedRows.lookup "math/bits.Add64").isSome=false/\(Extern.allTypedRows.lookup "math/bits.Sub64").isSome=false:=by refine⟨by kernel_rfl,by kernel_rfl⟩
def addSem(args:Array Value):Sem Value:=do
 let (x,y,c) <- Extern.MathBitsCarry.three "Add64" args
 pure (Extern.MathBitsCarry.pair ((x+y+c)%Extern.MathBitsCarry.m64) ((x+y+c)/Extern.MathBitsCarry.m64))
def subSem(args:Array Value):Sem Value:=do
 let (x,y,b) <- Extern.MathBitsCarry.three "Sub64" args
 pure (Extern.MathBitsCarry.pair ((x+Extern.MathBitsCarry.m64-y-b)%Extern.MathBitsCarry.m64) (if x<y+b then 1 else 0))
theorem kbdf:Extern.allRows.lookup "math/bits.Add64" = some addSem:=by kernel_rfl
theorem kbbw:Extern.allRows.lookup "math/bits.Sub64" = some subSem:=by kernel_rfl
theorem kbbd(name:String)(x y c:Value):Extern.MathBitsCarry.three name #[x,y,c]=(do
  let c:=(<- asInt c).toNat
  if c>1 then unsupported (.noEntry ("extern/math/bits." ++ name ++ ": a carry that is neither 0 nor 1"))
  pure ((<- asInt x).toNat,(<- asInt y).toNat,c)):=rfl
theorem kxt(name:String)(z F G:IntKind)(x y c:Int)(h:¬c.toNat>1)(w:World):(Extern.MathBitsCarry.three name #[.int z x,.int F y,.int G c]).run P w=.ok (x.toNat,y.toNat,c.toNat) w:=by rw[kbbd];simp only[Sem.run_bind,kbew,Result.andThen_ok,Sem.run_ite,if_neg h,Sem.run_pure]
theorem kg8{α:Type}{x:Option α}(h:x.isSome=false):x=none:=by cases x<;>simp at h;rfl
theorem ky4{fn:Func}(h1:Extern.allNextRows.lookup fn.name=none)(h2:Extern.allNextRows.lookup fn.origin=none):Extern.findNext fn=none:=by unfold Extern.findNext;dsimp only;rw[h1,h2];rfl
theorem kyb{fn:Func}{s:Array Value->Sem Value}(h1:Extern.allGenericRows.lookup fn.name=none)(h2:Extern.allTypedRows.lookup fn.name=none)(y:Extern.allRows.lookup fn.name=some s):Extern.find fn=some s:=by unfold Extern.find;dsimp only;rw[h1,h2,y];rfl
theorem kbc3{μ:Mu}{f:FuncId}{fn:Func}(hf:P.funcs[f]?=some fn)(H:(fn.name == "runtime.NumGoroutine")=false) (hb:fn.body=none) (ho:fn.origin = "") {xs:List AV} {v:AV} (hp:prim fn.name xs=some v)
  {us:List Value} (hx:VRels μ xs us) (w:World):∃u,(callFunc f us.toArray).run P w=.ok (.value u) w/\VRel μ v u:=by
 have F:fn.name≠ "runtime.NumGoroutine" := by simpa using H
 unfold prim at hp;split at hp
 ·rename_i k1 x k2 y k3 c;obtain⟨u1,r1,rfl,v1,Z⟩:=hx.cons_inv;obtain⟨u2,r2,rfl,v2,aa⟩:=Z.cons_inv;obtain⟨u3,r3,rfl,v3,ab⟩:=aa.cons_inv;have:=ab.nil_inv;subst this;simp only[VRel]at v1 v2 v3;subst v1;subst v2;subst v3;have hm:(Extern.MathBitsCarry.m64:Nat)=18446744073709551616:=rfl;rcases kb5 hp with⟨G,I⟩ | ⟨_,I⟩
  ·obtain⟨V,K⟩:=kr I;simp only[qby]at V;simp only[beq_iff_eq]at G;cases K;obtain⟨d1,d2,d3,d4⟩:=V;have Q:Extern.findNext fn=none:=ky4 (by rw[G];exact kg8 koo.1) (by rw[ho];exact kg8 koo.2.2);have U:Extern.find fn=some addSem:=kyb (by rw[G];exact kg8 k26.1) (by rw[G];exact kg8 k2n.1) (by rw[G];exact kbdf);have z:=kxt (P:=P) "Add64" k1 k2 k3 x y c (by omega) w;refine⟨Extern.MathBitsCarry.pair ((x.toNat+y.toNat+c.toNat)%Extern.MathBitsCarry.m64) ((x.toNat+y.toNat+c.toNat)/Extern.MathBitsCarry.m64),?_,?_⟩
   ·simp[callFunc,hf,F,hb,Q,U,addSem,z,-String.reduceAppend]
   ·simp only[VRel];refine⟨_,rfl,qc ?_ (qc ?_ qb)⟩
    ·simp only[VRel,Value.int.injEq,true_and,hm];simp;omega
    ·simp only[VRel,Value.int.injEq,true_and,hm];simp;omega
  ·obtain⟨G,K⟩:=kr I;obtain⟨V,ac⟩:=kr K;simp only[qby]at V;simp only[beq_iff_eq]at G;cases ac;obtain⟨d1,d2,d3,d4,d5⟩:=V;have Q:Extern.findNext fn=none:=ky4 (by rw[G];exact kg8 koo.2.1) (by rw[ho];exact kg8 koo.2.2);have U:Extern.find fn=some subSem:=kyb (by rw[G];exact kg8 k26.2) (by rw[G];exact kg8 k2n.2) (by rw[G];exact kbbw);have z:=kxt (P:=P) "Sub64" k1 k2 k3 x y c (by omega) w;refine⟨Extern.MathBitsCarry.pair ((x.toNat+Extern.MathBitsCarry.m64-y.toNat-c.toNat)%Extern.MathBitsCarry.m64) (if x.toNat<y.toNat+c.toNat then 1 else 0),?_,?_⟩
   ·simp[callFunc,hf,F,hb,Q,U,subSem,z]
   ·simp only[VRel];refine⟨_,rfl,qc ?_ (qc ?_ qb)⟩
    ·simp only[VRel,Value.int.injEq,true_and,hm];simp;omega
    ·simp only[VRel,Value.int.injEq,true_and];by_cases W:x<y+c
     ·rw[if_pos (by omega)];simp[W]
     ·rw[if_neg (by omega)];simp[W]
 ·cases hp
end Go.Ab
namespace Go.Ab
open Go.MapKept
variable{P:Program}{O:World}{R:Type}
def Ents(μ:Mu)(es:List AEnt)(us:Array MapEntry):Prop:=us.size=es.length/\
 ∀(j:Nat)(e:AEnt),es[j]?=some e->∃u:MapEntry,us[j]?=some u/\VRel μ e.key u.key/\VRel μ e.val u.val/\u.born=e.born
theorem kgw{μ:Mu}{h:AH}{w:World}(S:Sim P O μ h w){i:Nat}{L:Loc}(y:μ i=some L){p:List AEnt×Nat}(hp:h.mapAt i=some p):∃us,w.heap[L.block]?=some (.map us p.2)/\Ents μ p.1 us/\h.blks[i]?=some (.map p.1 p.2):=by
 unfold AH.mapAt at hp;split at hp
 ·rename_i es z hb;cases hp;obtain⟨us,h1,h2⟩:=S.blk i L _ y hb;exact⟨us,h1,h2,hb⟩
 ·cases hp
theorem knj{μ:Mu}{kd:IntKind}{n:Int}:∀{es:List AEnt}{us:List MapEntry}{i:Nat}{q:Option (Nat×AV)},(us.length=es.length/\∀(j:Nat)(e:AEnt),es[j]?=some e->∃u:MapEntry,us[j]?=some u/\VRel μ e.key u.key/\VRel μ e.val u.val/\u.born=e.born)->findA kd n es i=some q->
  match q with
  | none=>Instr.findNow (.int kd) (.int kd n) us i=some none
  | some x=>∃j u e,x.1=i+j/\es[j]?=some e/\e.key=.int kd n/\e.val=x.2/\us[j]?=some u/\u.key=.int kd n/\Instr.findNow (.int kd) (.int kd n) us i=some (some (i+j,u.val))/\VRel μ x.2 u.val/\u.born=e.born
 | [],us,i,q,h,y=>by
  simp only[findA,qcd]at y;subst y;have:us=[]:=List.length_eq_zero_iff.1 h.1;subst this;rfl
 | e::es,us,i,q,h,y=>by
  cases us with
  | nil=>simp at h
  | cons u us =>
   obtain⟨u0,H,hk,hv,hb⟩:=h.2 0 e rfl;cases H;have I:us.length=es.length/\∀(j:Nat)(e:AEnt),es[j]?=some e->∃u:MapEntry,us[j]?=some u/\VRel μ e.key u.key/\VRel μ e.val u.val/\u.born=e.born:=⟨by simpa using h.1,λj e Q=>h.2 (j+1) e Q⟩;simp only[findA]at y;split at y
   ·rename_i z m F;rw[F]at hk;simp only[VRel]at hk;by_cases G:z=kd
    ·subst G;simp only[decide_true,cond_true]at y;by_cases K:n=m
     ·subst K;simp only[decide_true,cond_true,qcd]at y;subst y;refine⟨0,u,e,rfl,rfl,F,rfl,rfl,hk,?_,hv,hb⟩;simp[Instr.findNow,Instr.sameNow,hk]
     ·simp only[K,decide_false,cond_false]at y;have ih:=knj I y
      have step:Instr.findNow (.int z) (.int z n) (u::us) i=Instr.findNow (.int z) (.int z n) us (i+1):=by simp[Instr.findNow,Instr.sameNow,hk,show(n==m)=false from by simp[K]]
      cases q with
      | none =>
       show Instr.findNow _ _ _ _=_;rw[step];exact ih
      | some x =>obtain⟨j,U,V,h1,h2,W,Z,h5,h6,h7,h8,h9⟩:=ih;exact⟨j+1,U,V,by omega,h2,W,Z,h5,h6,by rw[step,h7];congr 3;omega,h8,h9⟩
    ·simp[G]at y
   ·cases y
theorem Ents.list{μ:Mu}{es:List AEnt}{us:Array MapEntry}(e:Ents μ es us):us.toList.length=es.length/\∀(j:Nat)(x:AEnt),es[j]?=some x->∃u:MapEntry,us.toList[j]?=some u/\VRel μ x.key u.key/\VRel μ x.val u.val/\u.born=x.born:=⟨by simpa using e.1,λj x y=>by simpa using e.2 j x y⟩
theorem Ents.push{μ:Mu}{es:List AEnt}{us:Array MapEntry}(e:Ents μ es us){x:AEnt}{u:MapEntry}(hk:VRel μ x.key u.key)(hv:VRel μ x.val u.val)(hb:u.born=x.born):Ents μ (es++[x]) (us.push u):=by
 refine⟨by simp[e.1],λj y z=>?_⟩;rcases Nat.lt_or_ge j es.length with h | h
 ·rw[List.getElem?_append_left h]at z;obtain⟨F,h1,h2⟩:=e.2 j y z;exact⟨F,by rw[Array.getElem?_push,if_neg (by rw[e.1];omega)];exact h1,h2⟩
 ·rw[List.getElem?_append_right h]at z
  have G:j-es.length=0:=by
   rcases Nat.eq_zero_or_pos (j-es.length)with h0 | h0
   ·exact h0
   ·rw[List.getElem?_eq_none (by simp;omega)]at z;cases z
  rw[G]at z;cases z;exact⟨u,by rw[Array.getElem?_push,if_pos (by rw[e.1];omega)],hk,hv,hb⟩
theorem Ents.modify{μ:Mu}{es:List AEnt}{us:Array MapEntry}(e:Ents μ es us){i:Nat}{f:AEnt->AEnt}{g:MapEntry->MapEntry}(G:∀x u,es[i]?=some x->us[i]?=some u->VRel μ x.key u.key->VRel μ x.val u.val->u.born=x.born->VRel μ (f x).key (g u).key/\VRel μ (f x).val (g u).val/\(g u).born=(f x).born):Ents μ (es.modify i f) (us.modify i g):=by
 refine⟨by simp[e.1],λj y z=>?_⟩;rw[List.getElem?_modify]at z;simp only[Array.getElem?_modify];by_cases F:i=j
 ·subst F;simp only[if_true,Option.map_eq_map]at z|-;rw[Option.map_eq_some_iff]at z;obtain⟨x,H,rfl⟩:=z;obtain⟨u,h1,h2,I,K⟩:=e.2 i x H;exact⟨g u,by simp[h1],G x u H h1 h2 I K⟩
 ·simp only[F,if_false]at z|-;exact e.2 j y (by simpa using z)
theorem Ents.erase{μ:Mu}{es:List AEnt}{us:Array MapEntry}(e:Ents μ es us){i:Nat}(z:i<es.length):Ents μ (es.eraseIdx i) (us.eraseIdxIfInBounds i):=by
 have H:us.eraseIdxIfInBounds i=us.eraseIdx i (by rw[e.1];exact z):=by unfold Array.eraseIdxIfInBounds;rw[dif_pos (by rw[e.1];exact z)]
 rw[H];refine⟨by simp[List.length_eraseIdx,e.1,z],λj y F=>?_⟩;have G:=e.list;have key:∀j,(us.eraseIdx i (by rw[e.1];exact z))[j]?=(us.toList.eraseIdx i)[j]?:=λj=>by rw[<- Array.getElem?_toList,Array.toList_eraseIdx]
 rw[key];rw[List.getElem?_eraseIdx]at F|-;split at F
 ·rename_i h;rw[if_pos h];exact G.2 j y F
 ·rename_i h;rw[if_neg h];exact G.2 (j+1) y F
theorem kw2{μ:Mu}{t:TypeId}{z:AV}(h:zeroA P t=some z)(w:World):∃u,(zeroValue t).run P w=.ok u w/\VRel μ z u:=by unfold zeroA at h;obtain⟨i,y,h⟩:=qbw.1 h;obtain⟨u,F,h⟩:=qbw.1 h;exact⟨u,by simp[zeroValue,typeInfo,y,F],VRel.ofValue h⟩
theorem kfr{μ:Mu}{h:AH}{w:World}(S:Sim P O μ h w){i:Nat}{L:Loc}(z:μ i=some L){es es':List AEnt}{F ck':Nat}(hb:h.blks[i]?=some (.map es F)){us':Array MapEntry}(e:Ents μ es' us') :
  Good P O μ h w (.tup []) (h.setBlk i (.map es' ck')) undef {w with heap:=w.heap.setIfInBounds L.block (.map us' ck')}:=by
 have y:=(S.place i L z).2;obtain⟨s1,s2,s3⟩:=kqw S z hb (by simp) (b':=.map es' ck') (o:=.map us' ck') ⟨us',World.putObj_heap_same y,e⟩;exact⟨μ,by simp[VRel,undef,VRels],s1,s2,s3⟩
section ops
variable{μ:Mu}{h:AH}{w:World}(S:Sim P O μ h w)
include S
theorem kbk7{t K et:TypeId}{kd:IntKind}(Q:P.underlying t=some (.map K et))(hk:P.underlying K=some (.int kd)){i:Nat}{L:Loc}(G:μ i=some L){n:Int}{v:AV}{u:Value}(hv:VRel μ v u){h':AH}(hp:mapPut h i kd n v=some h') :
  ∃w',(Instr.mapUpdate t (.map (some L.block)) (.int kd n) u).run P w=.ok () w'/\Good P O μ h w (.tup []) h' undef w':=by
 obtain⟨p,h1,h2⟩:=qbw.1 hp;obtain⟨q,h3,U⟩:=Option.map_eq_some_iff.1 h2;obtain⟨us,F,H,hb⟩:=kgw S G h1;have V:=knj H.list h3;have z:IsKey (.int kd) (.int kd n):=rfl;cases q with
 | none =>
  subst U;refine⟨_,?_,kfr S G hb (us':=us.push {key:=.int kd n,val:=u,born:=p.2}) (H.push (by simp[VRel]) hv rfl)⟩;simp[Instr.mapUpdate,run_underlying Q,MapKept.run_getObj_map F,run_checkKey hk z,run_findKey hk V,MapKept.run_setObj_map _ F,Result.andThen]
 | some x =>
  subst U;obtain⟨j,u',e,W,e2,e3,e4,e5,e6,Z,e8,e9⟩:=V;rw[Nat.zero_add]at W Z;have hj:us[j]?=some u':=by simpa using e5
  dsimp only;rw[W];refine⟨_,?_,kfr S G hb (us':=us.modify j λe=>{e with key:=.int kd n,val:=u}) (H.modify λx y _ _ _ _ I=>⟨by simp[VRel],hv,I⟩)⟩;simp[Instr.mapUpdate,run_underlying Q,MapKept.run_getObj_map F,run_checkKey hk z,run_findKey hk Z,hj,e6,run_keyThatStays z,MapKept.run_setObj_map _ F,Result.andThen]
theorem kbaj{t Q U:TypeId}{kd:IntKind}(K:P.underlying t=some (.map Q U))(hk:P.underlying Q=some (.int kd)){r:Option Nat}{u:Value}(I:VRel μ (.map r) u){n:Int}{q:Option AV}(hq:mapGet h r kd n=some q){z:AV}(hz:zeroA P U=some z)(ok:Bool) :
  ∃x,(Instr.lookup t u (.int kd n) ok).run P w=.ok x w/\VRel μ (cond ok (.tup [q.getD z,.bool q.isSome]) (q.getD z)) x:=by
 have y:IsKey (.int kd) (.int kd n):=rfl;obtain⟨V,G,H⟩:=kw2 (μ:=μ) hz w
 have F:∀(x:Value)(b:Bool)(a:AV),VRel μ a x->VRel μ (cond ok (.tup [a,.bool b]) a) (if ok=true then .tuple #[x,.bool b]else x):=by
  intro x b a W;cases ok
  ·exact W
  ·simp[VRel,VRels,W]
 cases r with
 | none =>
  simp only[mapGet,qcd]at hq;subst hq;simp only[VRel]at I;subst I;refine⟨_,?_,F V false z H⟩;simp[Instr.lookup,run_underlying K,run_checkKey hk y,Instr.findKey,run_underlying hk,Instr.findNow,G,Result.andThen]
 | some i =>
  simp only[VRel]at I;obtain⟨L,hL,rfl⟩:=I;obtain⟨p,h1,h2⟩:=qbw.1 hq;obtain⟨q',h3,h4⟩:=Option.map_eq_some_iff.1 h2;subst h4;obtain⟨us,Z,he,hb⟩:=kgw S hL h1;have hf:=knj he.list h3;cases q' with
  | none =>
   refine⟨_,?_,F V false z H⟩;simp[Instr.lookup,run_underlying K,MapKept.run_getObj_map Z,run_checkKey hk y,run_findKey hk hf,G,Result.andThen]
  | some x =>obtain⟨j,u',e,e1,e2,e3,e4,e5,e6,e7,e8,e9⟩:=hf;refine⟨_,?_,F u'.val true x.2 e8⟩;simp[Instr.lookup,run_underlying K,MapKept.run_getObj_map Z,run_checkKey hk y,run_findKey hk e7,Result.andThen]
theorem kbjl{t K et ty:TypeId}{kd:IntKind}(G:P.underlying t=some (.map K et))(hk:P.underlying K=some (.int kd)){r:Option Nat}{u:Value}(z:VRel μ (.map r) u){n:Int}{h':AH}(hp:mapDel h r kd n=some h'){Q:Array TypeId}(h0:Q[0]?=some t) :
  ∃w',(Builtin.delete_ Q ty #[u,.int kd n]).run P w=.ok (.tuple #[]) w'/\Good P O μ h w (.tup []) h' (.tuple #[]) w':=by
 have y:IsKey (.int kd) (.int kd n):=rfl;cases r with
 | none =>
  simp only[mapDel,qcd]at hp;subst hp;simp only[VRel]at z;subst z;exact⟨w,by simp[Builtin.delete_,h0,run_underlying G,run_checkKey hk y,Result.andThen],qd S (by simp[VRel,VRels])⟩
 | some i =>
  simp only[VRel]at z;obtain⟨L,H,rfl⟩:=z;obtain⟨p,h1,h2⟩:=qbw.1 hp;obtain⟨q',h3,U⟩:=Option.map_eq_some_iff.1 h2;obtain⟨us,F,I,hb⟩:=kgw S H h1;have V:=knj I.list h3;cases q' with
  | none =>
   subst U;refine⟨_,?_,kfr S H hb I⟩;simp[Builtin.delete_,h0,run_underlying G,MapKept.run_getObj_map F,run_checkKey hk y,run_findKey hk V,MapKept.run_setObj_map _ F,Result.andThen]
  | some x =>subst U;obtain⟨j,u',e,W,e2,e3,e4,e5,e6,Z,e8,e9⟩:=V;rw[Nat.zero_add]at W Z;dsimp only;rw[W];refine⟨_,?_,kfr S H hb (I.erase (qcg.1 e2).1)⟩;simp[Builtin.delete_,h0,run_underlying G,MapKept.run_getObj_map F,run_checkKey hk y,run_findKey hk Z,MapKept.run_setObj_map _ F,Result.andThen]
theorem k92{t G H ty:TypeId}(z:P.underlying t=some (.map G H)){r:Option Nat}{u:Value}(y:VRel μ (.map r) u){n:Nat}(hp:mapLen h r=some n){F:Array TypeId}(h0:F[0]?=some t) :
  (Builtin.len_ F ty #[u]).run P w=.ok (.int .i64 (n:Int)) w:=by
 cases r with
 | none =>
  simp only[mapLen,qcd]at hp;subst hp;simp only[VRel]at y;subst y;simp[Builtin.len_,h0,run_underlying z,Result.andThen,goInt]
 | some i =>simp only[VRel]at y;obtain⟨L,I,rfl⟩:=y;obtain⟨p,h1,h2⟩:=Option.map_eq_some_iff.1 hp;subst h2;obtain⟨us,K,Q,hb⟩:=kgw S I h1;simp[Builtin.len_,h0,run_underlying z,MapKept.run_getObj_map K,Result.andThen,goInt,Q.1]
theorem kbgb{t I K ty:TypeId}(z:P.underlying t=some (.map I K)){r:Option Nat}{u:Value}(y:VRel μ (.map r) u){h':AH}(hp:klc h r=some h'){F:Array TypeId}(h0:F[0]?=some t) :
  ∃w',(Builtin.clear_ F ty #[u]).run P w=.ok (.tuple #[]) w'/\Good P O μ h w (.tup []) h' (.tuple #[]) w':=by
 cases r with
 | none =>
  simp only[klc,qcd]at hp;subst hp;simp only[VRel]at y;subst y;exact⟨w,by simp[Builtin.clear_,h0,run_underlying z,Result.andThen],qd S (by simp[VRel,VRels])⟩
 | some i =>simp only[VRel]at y;obtain⟨L,G,rfl⟩:=y;obtain⟨p,h1,h2⟩:=Option.map_eq_some_iff.1 hp;subst h2;obtain⟨us,H,Q,hb⟩:=kgw S G h1;refine⟨_,?_,kfr S G hb (us':=#[]) ⟨rfl,by simp⟩⟩;simp[Builtin.clear_,h0,run_underlying z,MapKept.run_getObj_map H,MapKept.run_setObj_map _ H,Result.andThen]
theorem kboj{t kt et:TypeId}{kd:IntKind}(ht:P.underlying t=some (.map kt et))(hk:P.underlying kt=some (.int kd)){i:Nat}{L:Loc}(Q:μ i=some L){n:Int}{z:AV}(hz:zeroA P et=some z){q:AV×Int×AH}(hp:mapEnt h i kd n z=some q) :
  ∃u w',(Instr.mapEntry t (.map (some L.block)) (.int kd n)).run P w=.ok u w'/\Good P O μ h w (.tup [q.1,.int .i64 q.2.1]) q.2.2 u w':=by
 obtain⟨p,h1,h2⟩:=qbw.1 hp;obtain⟨q',h3,h4⟩:=qbw.1 h2;obtain⟨us,K,U,hb⟩:=kgw S Q h1;have hf:=knj U.list h3;have F:IsKey (.int kd) (.int kd n):=rfl;obtain⟨uz,V,G⟩:=kw2 (μ:=μ) hz w;cases q' with
 | none =>
  cases h4;obtain⟨ν,_,W,H,Z⟩:=kfr S Q hb (ck':=p.2+1) (us':=us.push {key:=.int kd n,val:=uz,born:=p.2}) (es':=p.1++[⟨.int kd n,z,p.2⟩]) (U.push (by simp[VRel]) G rfl);refine⟨.tuple #[uz,.int .i64 (p.2:Int)],_,?_,ν,by simp[VRel,VRels,G.mono H.2.1],W,H,Z⟩;simp[Instr.mapEntry,run_underlying ht,MapKept.run_getObj_map K,run_checkKey hk F,run_findKey hk hf,V,MapKept.run_setObj_map _ K,Result.andThen,goInt]
 | some x =>
  obtain⟨j,u',e,e1,e2,e3,e4,e5,e6,e7,e8,e9⟩:=hf;rw[Nat.zero_add]at e1 e7;have hj:us[j]?=some u':=by simpa using e5
  obtain⟨e',I,hq⟩:=Option.map_eq_some_iff.1 h4;rw[e1,e2]at I;cases I;cases hq;obtain⟨ν,_,W,H,Z⟩:=kfr S Q hb (ck':=p.2) (us':=us.modify j λe=>{e with key:=.int kd n}) (es':=p.1.modify j λe=>⟨.int kd n,e.val,e.born⟩) (U.modify λx y _ _ _ hv aa=>⟨by simp[VRel],hv,aa⟩);dsimp only;rw[e1];refine⟨.tuple #[u'.val,.int .i64 (e.born:Int)],_,?_,ν,by simp[VRel,VRels,e8.mono H.2.1],W,H,Z⟩;simp[Instr.mapEntry,run_underlying ht,MapKept.run_getObj_map K,run_checkKey hk F,run_findKey hk e7,hj,e6,run_keyThatStays F,MapKept.run_setObj_map _ K,Result.andThen,goInt,e9]
theorem kbp7{t:TypeId}{i:Nat}{L:Loc}(Z:μ i=some L){kd:IntKind}{n:Int}{v:AV}{u:Value}(hv:VRel μ v u){h':AH}(hp:mapSet h i n v=some h') :
  ∃w',(Instr.entryStore t (.map (some L.block)) (.int kd n) u).run P w=.ok () w'/\Good P O μ h w (.tup []) h' undef w':=by
 obtain⟨p,h1,h2⟩:=qbw.1 hp;obtain⟨j,F,h4⟩:=Option.map_eq_some_iff.1 h2;subst h4;obtain⟨us,K,Q,hb⟩:=kgw S Z h1;refine⟨_,?_,kfr S Z hb (us':=us.modify j λe=>{e with val:=u}) (Q.modify λx y _ _ hk _ G=>⟨hk,hv,G⟩)⟩
 have I:us.findIdx? (λe=>(e.born:Int)==n)=some j:=by
  have H:=Q.list;rw[show us.findIdx? (λe=>(e.born:Int)==n)=us.toList.findIdx? (λe=>(e.born:Int)==n)from by cases us;simp];clear Q hb K h1 hp h2;generalize us.toList=ul at H;generalize p.1=el at H F
  induction el generalizing ul j with
  | nil=>simp at F
  | cons x xs ih =>
   cases ul with
   | nil=>simp at H
   | cons y ys =>
    obtain⟨y0,U,_,_,G⟩:=H.2 0 x rfl;cases U;rw[List.findIdx?_cons]at F|-;rw[G];by_cases V:(x.born:Int)=n
    ·simp[V]at F|-;exact F
    ·simp only[V,decide_false,qcp,if_false]at F;simp only[beq_iff_eq,V,if_false];obtain⟨j',W,rfl⟩:=Option.map_eq_some_iff.1 F;rw[ih _ ys ⟨by simpa using H.1,λk z hz=>H.2 (k+1) z hz⟩ W];rfl
 simp[Instr.entryStore,MapKept.run_getObj_map K,asInt,asIntOf,I,MapKept.run_setObj_map _ K,Result.andThen]
omit S in
theorem kzp{y:TypeId}{kd:IntKind}(h:pairKd P y=some kd):∃e,P.underlying y=some (.array 2 e)/\P.underlying e=some (.int kd)/\P.cellsOf e=1:=by
 unfold pairKd at h;split at h
 ·rename_i n e hk;split at h
  ·rename_i z F;obtain⟨hb,h⟩:=kr h;cases h;rw[qcb]at hb;have h1:n=2:=by simpa using hb.1
   have h2:P.cellsOf e=1:=by simpa using hb.2
   subst h1;exact⟨e,hk,F,h2⟩
  ·cases h
 ·cases h
omit S in
theorem kbj1{z e:TypeId}{kd:IntKind}(hk:P.underlying z=some (.array 2 e))(F:P.underlying e=some (.int kd))(G:P.cellsOf e=1)(a b x y:Int)(w:World) :
  (Op.equal z (.agg #[.int kd a,.int kd b]) (.agg #[.int kd x,.int kd y])).run P w=.ok (decide (a=x)&&decide (b=y)) w:=by
 have h:eqD P 2 z (.agg [.int kd a,.int kd b]) (.agg [.int kd x,.int kd y])=some (decide (a=x)&&decide (b=y)):=by simp[eqD,hk,F,eqIs,partA,G,isAggD,isStr,fits,eqCell,show List.range 2=[0,1]from rfl]
 have:=kvm (P:=P) (μ:=λ_=>none) w 2 z _ _ _ h (.agg #[.int kd a,.int kd b]) (.agg #[.int kd x,.int kd y]) (by simp[VRel,VRels,AV.one]) (by simp[VRel,VRels,AV.one]) 9998;exact this
omit S in
theorem k1m{G e:TypeId}{kd:IntKind}(hk:P.underlying G=some (.array 2 e))(y:P.underlying e=some (.int kd))(K:P.cellsOf e=1)(a b:Int)(z:Bool)(w:World) :
  (Instr.checkKey z 10000 G (.agg #[.int kd a,.int kd b])).run P w=.ok () w:=by
 obtain⟨i,Q⟩:=ktp y;have hp:∀(j:Nat)(v:AV),partA P e [.int kd a,.int kd b] j=some v->∃u,(part e #[.int kd a,.int kd b] j).run P w=.ok u w/\VRel (λ_=>none) v u:=λj v h=>khu h (us:=#[.int kd a,.int kd b]) (by simp[VRel,VRels]) (by simp[AV.one]) w;obtain⟨U,r0,H⟩:=hp 0 (.int kd a) (by simp[partA,y,isAggD]);obtain⟨V,r1,I⟩:=hp 1 (.int kd b) (by simp[partA,y,isAggD]);simp only[VRel]at H I;subst H;subst I;have F:∀(m:Nat)(n:Int),(Instr.checkKey z (m+1) e (.int kd n)).run P w=.ok () w:=λm n=>by simp[Instr.checkKey,run_underlying y]
 have key:∀m:Nat,(Instr.checkKey z (m+2) G (.agg #[.int kd a,.int kd b])).run P w=.ok () w:=λm=>by have F:=F m;generalize hq:Instr.checkKey z (m+1)=q at F;rw[show m+2=(m+1)+1 from rfl,Instr.checkKey,hq];simp only[Sem.run_bind,run_underlying hk,Result.andThen_ok];simp only[Std.Legacy.Range.forIn_eq_forIn_range',Std.Legacy.Range.size,Nat.sub_zero,Nat.add_one_sub_one,Nat.div_one,show List.range' 0 2=[0,1]from rfl];simp[run_sizeOf w Q,K,r0,r1,F,Result.andThen]
 exact key 9998
omit S in
theorem kxo{Q W:TypeId}{kd:IntKind}(hk:P.underlying Q=some (.array 2 W))(V:P.underlying W=some (.int kd))(hc:P.cellsOf W=1){a b:Int}:∀{es:List AEnt}{us:List MapEntry}{i:Nat}{q:Option (Nat×AV)},(us.length=es.length/\∀(j:Nat)(e:AEnt),es[j]?=some e->∃u:MapEntry,us[j]?=some u/\VRel μ e.key u.key/\VRel μ e.val u.val/\u.born=e.born)->findP kd a b es i=some q->
  match q with
  | none=>(Instr.findAsking Q (.agg #[.int kd a,.int kd b]) us i).run P w=.ok none w
  | some x=>∃j u e,x.1=i+j/\es[j]?=some e/\e.val=x.2/\us[j]?=some u/\u.key=.agg #[.int kd a,.int kd b]/\(Instr.findAsking Q (.agg #[.int kd a,.int kd b]) us i).run P w=.ok (some (i+j,u.val)) w/\VRel μ x.2 u.val/\u.born=e.born
 | [],us,i,q,h,F=>by
  simp only[findP,qcd]at F;subst F;have:us=[]:=List.length_eq_zero_iff.1 h.1;subst this;simp[Instr.findAsking]
 | e::es,us,i,q,h,F=>by
  cases us with
  | nil=>simp at h
  | cons u us =>
   obtain⟨u0,Z,G,hv,hb⟩:=h.2 0 e rfl;cases Z;have aa:us.length=es.length/\∀(j:Nat)(e:AEnt),es[j]?=some e->∃u:MapEntry,us[j]?=some u/\VRel μ e.key u.key/\VRel μ e.val u.val/\u.born=e.born:=⟨by simpa using h.1,λj e V=>h.2 (j+1) e V⟩;simp only[findP]at F;split at F
   ·rename_i k1 x K y ab;obtain⟨U,F⟩:=kr F;rw[qcb,qby,qby]at U;obtain⟨rfl,rfl⟩:=U;rw[ab]at G
    have hu:u.key=.agg #[.int K x,.int K y]:=by
     simp only[VRel,VRels]at G;obtain⟨vs,e1,e2,-⟩:=G;rw[e1];congr 1;apply Array.ext'
     simpa using e2
    have I:=kbj1 hk V hc a b x y w;rcases kb5 F with⟨H,F⟩ | ⟨H,F⟩
    ·cases F;rw[H]at I;rw[qcb,qby,qby]at H;obtain⟨rfl,rfl⟩:=H;exact⟨0,u,e,rfl,rfl,rfl,rfl,hu,by simp[Instr.findAsking,hu,I],hv,hb⟩
    ·rw[H]at I;have ih:=kxo hk V hc aa F
     have step:(Instr.findAsking Q (.agg #[.int K a,.int K b]) (u::us) i).run P w=(Instr.findAsking Q (.agg #[.int K a,.int K b]) us (i+1)).run P w:=by simp[Instr.findAsking,hu,I]
     cases q with
     | none =>
      show(Instr.findAsking _ _ _ _).run P w=_;rw[step];exact ih
     | some z =>obtain⟨j,u',e',h1,h2,h4,h5,h6,h7,h8,h9⟩:=ih;exact⟨j+1,u',e',by omega,h2,h4,h5,h6,by rw[step,h7];congr 3;omega,h8,h9⟩
   ·cases F
theorem kbd8{t K et:TypeId}{kd:IntKind}(Z:P.underlying t=some (.map K et))(Q:pairKd P K=some kd){i:Nat}{L:Loc}(U:μ i=some L){a b:Int}{v:AV}{u:Value}(hv:VRel μ v u){h':AH}(hp:kmk h i kd a b v=some h') :
  ∃w',(Instr.mapUpdate t (.map (some L.block)) (.agg #[.int kd a,.int kd b]) u).run P w=.ok () w'/\Good P O μ h w (.tup []) h' undef w':=by
 obtain⟨e0,hk,he,hc⟩:=kzp Q;obtain⟨p,h1,h2⟩:=qbw.1 hp;obtain⟨q,h3,h4⟩:=Option.map_eq_some_iff.1 h2;obtain⟨us,I,F,hb⟩:=kgw S U h1;have hf:=kxo (w:=w) hk he hc F.list h3;have z:=run_findKey_eq w (k:=K) (by rw[hk]) (.agg #[.int kd a,.int kd b]) us.toList;have G:=λem=>k1m hk he hc a b em w;have H:VRel μ (.agg [.int kd a,.int kd b]) (.agg #[.int kd a,.int kd b]):=by simp[VRel,VRels,AV.one]
 cases q with
 | none =>
  subst h4;rw[hf]at z;refine⟨_,?_,kfr S U hb (us':=us.push {key:=.agg #[.int kd a,.int kd b],val:=u,born:=p.2}) (F.push H hv rfl)⟩;simp[Instr.mapUpdate,run_underlying Z,MapKept.run_getObj_map I,G,z,MapKept.run_setObj_map _ I,Result.andThen]
 | some x =>
  subst h4;obtain⟨j,u',e,e1,e2,e4,e5,e6,e7,e8,e9⟩:=hf;rw[Nat.zero_add]at e1 e7;rw[e7]at z;have hj:us[j]?=some u':=by simpa using e5
  dsimp only;rw[e1];refine⟨_,?_,kfr S U hb (us':=us.modify j λe=>{e with key:=.agg #[.int kd a,.int kd b],val:=u}) (F.modify λx y _ _ _ _ V=>⟨H,hv,V⟩)⟩;have W:(Instr.keyThatStays (.agg #[.int kd a,.int kd b]) (.agg #[.int kd a,.int kd b])).run P w=.ok (.agg #[.int kd a,.int kd b]) w:=by simp[Instr.keyThatStays,Instr.sameBits]
  simp[Instr.mapUpdate,run_underlying Z,MapKept.run_getObj_map I,G,z,hj,e6,W,MapKept.run_setObj_map _ I,Result.andThen]
theorem kblk{t Q Z:TypeId}{kd:IntKind}(U:P.underlying t=some (.map Q Z))(V:pairKd P Q=some kd){r:Option Nat}{u:Value}(K:VRel μ (.map r) u){a b:Int}{q:Option AV}(hq:kk5 h r kd a b=some q){z:AV}(hz:zeroA P Z=some z)(ok:Bool) :
  ∃x,(Instr.lookup t u (.agg #[.int kd a,.int kd b]) ok).run P w=.ok x w/\VRel μ (cond ok (.tup [q.getD z,.bool q.isSome]) (q.getD z)) x:=by
 obtain⟨e0,hk,he,hc⟩:=kzp V;have F:=λem=>k1m hk he hc a b em w;obtain⟨uz,H,I⟩:=kw2 (μ:=μ) hz w
 have G:∀(x:Value)(b:Bool)(a:AV),VRel μ a x->VRel μ (cond ok (.tup [a,.bool b]) a) (if ok=true then .tuple #[x,.bool b]else x):=by
  intro x b a hx;cases ok
  ·exact hx
  ·simp[VRel,VRels,hx]
 cases r with
 | none =>
  simp only[kk5,qcd]at hq;subst hq;simp only[VRel]at K;subst K;refine⟨_,?_,G uz false z I⟩;simp[Instr.lookup,run_underlying U,F,Instr.findKey,run_underlying hk,Instr.findNow,H,Result.andThen]
 | some i =>
  simp only[VRel]at K;obtain⟨L,hL,rfl⟩:=K;obtain⟨p,h1,h2⟩:=qbw.1 hq;obtain⟨q',h3,h4⟩:=Option.map_eq_some_iff.1 h2;subst h4;obtain⟨us,hw,W,hb⟩:=kgw S hL h1;have hf:=kxo (w:=w) hk he hc W.list h3;have y:=run_findKey_eq w (k:=Q) (by rw[hk]) (.agg #[.int kd a,.int kd b]) us.toList;cases q' with
  | none =>
   rw[hf]at y;refine⟨_,?_,G uz false z I⟩;simp[Instr.lookup,run_underlying U,MapKept.run_getObj_map hw,F,y,H,Result.andThen]
  | some x =>obtain⟨j,u',e,e1,e2,e4,e5,e6,e7,e8,e9⟩:=hf;rw[e7]at y;refine⟨_,?_,G u'.val true x.2 e8⟩;simp[Instr.lookup,run_underlying U,MapKept.run_getObj_map hw,F,y,Result.andThen]
end ops
end Go.Ab
namespace Go.Ab
variable{P:Program}{O:World}{R:Type}
def Ends(G:Value->World->Prop):Ending->World->Prop:=λe w'=>∃u,e=.returned u/\G u w'
def mark(r:Nat):Deferred:={target:=.collected r,args:=#[]}
structure Marks(O:World)(μ:Mu)(h:AH)(w:World)(ds:List Nat):Prop where
 nodup:ds.Nodup
 old:∀r∈ds,O.heap.size<=r/\r<w.heap.size
 has:∀r∈ds,w.heap[r]?=some (.deferred (some []))
 free:∀r∈ds,∀i L,Live h i->μ i=some L->L.block≠r
theorem Marks.nil{μ:Mu}{h:AH}{w:World}:Marks O μ h w []:=⟨by simp,by simp,by simp,by simp⟩
theorem Marks.step{μ ν:Mu}{h h':AH}{w w':World}{ds:List Nat}(m:Marks O μ h w ds)(S:Sim P O μ h w)(S':Sim P O ν h' w')(e:Ext μ h w ν h')(f:Frm μ h w w'):Marks O ν h' w' ds:=by
 refine⟨m.nodup,λr y=>⟨(m.old r y).1,qbt (m.old r y).2 f.1⟩,λr y=>?_,λr y i L G z K=>?_⟩
 ·rw[f.2 r (m.old r y).2 λi L _ G z=>m.free r y i L G z];exact m.has r y
 ·obtain⟨Z,e2,Q,U,V⟩:=e;rcases Nat.lt_or_ge i h.blks.size with F | H
  ·exact m.free r y i L (U i F G) (by rw[<- Q i F];exact z) K
  ·rcases V i L H (S'.dom i L z) z with h1 | ⟨j,M,hj,I,W,hb⟩
   ·have:=(m.old r y).2;omega
   ·exact m.free r y j M I W (hb.trans K)
def GoodX(P:Program)(O:World)(ds:List Nat)(μ:Mu)(h:AH)(w:World)(v:AV)(h':AH)(u:Value)(w':World):Prop:=∃ν,VRel ν v u/\Sim P O ν h' w'/\Ext μ h w ν h'/\w.heap.size<=w'.heap.size/\∀b,b<w.heap.size->b∉ds->(∀i L,i<h.blks.size->Live h i->μ i=some L->L.block≠b)->w'.heap[b]?=w.heap[b]?
theorem GoodX.nil{μ:Mu}{h:AH}{w:World}{v:AV}{h':AH}{u:Value}{w':World}(g:GoodX P O [] μ h w v h' u w'):Good P O μ h w v h' u w':=by obtain⟨ν,y,z,F,G,H⟩:=g;exact⟨ν,y,z,F,G,λb hb I=>H b hb (by simp) I⟩
theorem GoodX.trans{μ ν:Mu}{h h1:AH}{w Q:World}{v:AV}{h':AH}{u:Value}{w':World}{ds z:List Nat}(e:Ext μ h w ν h1)(f:Frm μ h w Q)(F:∀r∈z,r∈ds\/w.heap.size<=r)(g:GoodX P O z ν h1 Q v h' u w'):GoodX P O ds μ h w v h' u w':=by
 obtain⟨ξ,W,Z,g3,g4,g5⟩:=g;refine⟨ξ,W,Z,e.trans g3 f.1,qbs f.1 g4,λk hk G H=>(g5 k (qbt hk f.1) ?_ λi L hi hl U V=>?_).trans (f.2 k hk H)⟩
 ·intro hm;rcases F k hm with h1 | h1
  ·exact G h1
  ·omega
 ·obtain⟨e1,e2,e3,e4,e5⟩:=e;rcases Nat.lt_or_ge i h.blks.size with y | I
  ·exact H i L y (e4 i y hl) (by rw[<- e3 i y];exact U) V
  ·rcases e5 i L I hi U with h1 | ⟨j,M,hj,K,hM,hb⟩
   ·omega
   ·exact H j M hj K hM (hb.trans V)
def Fin(P:Program)(ro:Option Nat)(b:Frame)(todo:List Item)(a:Act)(w:World)(G:Value->World->Prop):Prop :=
 match ro with
 | none=>∀cs,∃u w' fr,G u w'/\Steps P (lone (b.atR a todo) cs w) (lone fr cs w')/\fr.fn=b.fn/\fr.leaving P w' (.returned u)
 | some _=>∀c cs,∃u w',G u w'/\Steps P (lone (b.atR a todo) (c::cs) w) (lone (c.finish u) cs w')
theorem Fin.of_steps{ro:Option Nat}{b:Frame}{todo todo':List Item}{a a':Act}{w w':World}{G:Value->World->Prop}(hs:∀cs,Steps P (lone (b.atR a todo) cs w) (lone (b.atR a' todo') cs w'))(h:Fin P ro b todo' a' w' G):Fin P ro b todo a w G:=by
 cases ro with
 | none =>
  intro cs;obtain⟨u,y,fr,h1,h2,z⟩:=h cs;exact⟨u,y,fr,h1,(hs cs).trans h2,z⟩
 | some l =>intro c cs;obtain⟨u,y,h1,h2⟩:=h c cs;exact⟨u,y,h1,(hs _).trans h2⟩
theorem Fin.mono{ro:Option Nat}{b:Frame}{todo:List Item}{a:Act}{w:World}{G z:Value->World->Prop}(h:Fin P ro b todo a w G)(F:∀u w',G u w'->z u w'):Fin P ro b todo a w z:=by
 cases ro with
 | none =>
  intro cs;obtain⟨u,y,fr,h1,h2⟩:=h cs;exact⟨u,y,fr,F _ _ h1,h2⟩
 | some l =>intro c cs;obtain⟨u,y,h1,h2⟩:=h c cs;exact⟨u,y,F _ _ h1,h2⟩
theorem Fin.of_some{ro:Option Nat}{b:Frame}{todo todo':List Item}{a:Act}{w:World}{G:Value->World->Prop}{X:Act->World->Prop}(hs:∀cs,∃a' w',X a' w'/\Steps P (lone (b.atR a todo) cs w) (lone (b.atR a' todo') cs w'))(h:∀a' w',X a' w'->Fin P ro b todo' a' w' G):Fin P ro b todo a w G:=by
 cases ro with
 | none =>
  intro cs;obtain⟨a',w',z,y⟩:=hs cs;obtain⟨u,F,fr,h1,h2,H⟩:=h a' w' z cs;exact⟨u,F,fr,h1,y.trans h2,H⟩
 | some l =>intro c cs;obtain⟨a',w',z,y⟩:=hs (c::cs);obtain⟨u,F,h1,h2⟩:=h a' w' z c cs;exact⟨u,F,h1,y.trans h2⟩
theorem kbgj{fr:Frame}{cs:List Frame}{w:World}{r:Nat}{ds:List Deferred}(y:fr.mode=.returning)(z:fr.defers=mark r::ds)(F:w.heap[r]?=some (.deferred (some []))) :
  step P (lone fr cs w)=.next (lone {fr with defers:=ds} cs (w.putObj r (.deferred none))) :=
 step_lone_go (by have:=run_takeDeferred (P:=P) F;simp[stepG,unwind,y,z,mark,Sem.runT_eq,this])
theorem returns{fn:Func}{v:AV}{h:AH}:∀(ds:List Nat){μ:Mu}{w:World}(k:Frame),P.funcs[k.fn]?=some fn->k.kind=.normal->k.mode=.returning->
  k.defers=ds.map mark->Sim P O μ h w->Marks O μ h w ds->(∀w',Sim P O μ h w'->∃u,(results fn k.tmps).run P w'=.ok u w'/\VRel μ v u)->
  ∀cs,∃u w' y,GoodX P O ds μ h w v h u w'/\Steps P (lone k cs w) (lone y cs w')/\y.fn=k.fn/\y.leaving P w' (.returned u)
 | [],μ,w,k,z,hk,F,Q,S,M,U,cs=>by
  obtain⟨u,h1,h2⟩:=U w S;exact⟨u,w,k,⟨μ,h2,S,Ext.refl _ _ _,qbr _,λ_ _ _ _=>rfl⟩,Steps.refl _ _,rfl,F,by rw[Q];rfl,hk,fn,z,h1⟩
 | r::ds,μ,w,k,z,hk,F,Q,S,M,U,cs=>by
  have H:=M.old r (by simp);have S':Sim P O μ h (w.putObj r (.deferred none)):=kbos S H.1 (λi L hl hL=>M.free r (by simp) i L hl hL) _;have I:=List.nodup_cons.1 M.nodup
  have M':Marks O μ h (w.putObj r (.deferred none)) ds:=⟨I.2,λx G=>by simpa using M.old x (by simp[G]),λx G=>by rw[World.putObj_heap_other (λe=>I.1 (by rw[<- e];exact G))];exact M.has x (by simp[G]),λx G=>M.free x (by simp[G])⟩
  obtain⟨u,w',y,g,st,V,W⟩:=returns ds {k with defers:=ds.map mark} z hk F rfl S' M' U cs;obtain⟨ν,g1,g2,g3,g4,g5⟩:=g;refine⟨u,w',y,⟨ν,g1,g2,?_,by simpa using g4,λb hb K hn=>?_⟩,Steps.trans (Steps.one (kbgj F Q (M.has r (by simp)))) st,V,W⟩
  ·obtain⟨V,W,e3,e4,e5⟩:=g3;exact⟨V,W,e3,e4,λi L a b c=>by have:=e5 i L a b c;simpa using this⟩
  ·have Z:b≠r:=λe=>K (by simp[e]);rw[g5 b (by simpa using hb) (λF=>K (by simp[F])) hn,World.putObj_heap_other Z]
section steps
variable{b:Frame}{a:Act}{k:List Item}{cs:List Frame}{w:World}
theorem kbcu{body:Code}:step P (lone (b.atR a (.code (.scope body)::k)) cs w)=.next (lone (b.atR a (.code body::.inScope body::k)) cs w):=step_lone_go (by simp[stepG,stepG.exec,Frame.atR])
theorem kbkq{body:Code}:step P (lone (b.atR a (.inScope body::k)) cs w)=.next (lone (b.atR a k) cs w):=step_lone_go (by simp[stepG,stepG.exec,Frame.atR])
end steps
def k51(P:Program)(l:Nat)(args:Array Value)(w:World)(G:Value->World->Prop):Prop:=∃f tmps as bd,(Instr.yield l args).run P w=.ok (.round l f tmps as bd) w/\∀c cs,∃u w',G u w'/\Steps P (lone (Frame.round l f tmps as bd .normal) (c::cs) w) (lone (c.finish u) cs w')
structure RecOk(P:Program)(O:World)(rec:Rec):Prop where
 fn:∀{f:FuncId}{xs:List AV}{h:AH}{v:AV}{h':AH},rec (.fn f xs) h=some (v,h')->∀{μ:Mu}{w:World}{us:List Value},Sim P O μ h w->VRels μ xs us->
  Calls P f us.toArray w (Ends (Good P O μ h w v h'))
 pt:∀{f:FuncId}{todo:List Item}{fr:Fr}{h:AH}{v:AV}{h':AH},rec (.pt f todo fr) h=some (v,h')->∀{fn:Func},P.funcs[f]?=some fn->∀{μ:Mu}{w:World}{b:Frame}{a:Act}{ds:List Nat},b.fn=f->b.kind=.normal->b.roundOf=none->a.defers=ds.map mark->Marks O μ h w ds->
  Sim P O μ h w->FRel μ fn.ntmps fr a.tmps->Fin P none b todo a w (GoodX P O ds μ h w v h')
 round:∀{l:Nat}{xs:List AV}{h:AH}{v:AV}{h':AH},rec (.round l xs) h=some (v,h')->∀{μ:Mu}{w:World}{us:List Value}{L:Loc},Sim P O μ h w->VRels μ xs us->μ l=some L->
  k51 P L.block us.toArray w (Good P O μ h w v h')
 rpt:∀{l:Nat}{f:FuncId}{todo:List Item}{fr:Fr}{h:AH}{v:AV}{h':AH},rec (.rpt l f todo fr) h=some (v,h')->∀{fn:Func},P.funcs[f]?=some fn->∀{μ:Mu}{w:World}{b:Frame}{a:Act}{L:Loc},b.fn=f->b.kind=.normal->μ l=some L->b.roundOf=some L.block->a.defers=[]->
  Sim P O μ h w->FRel μ fn.ntmps fr a.tmps->Fin P (some l) b todo a w (GoodX P O [] μ h w v h')
theorem kxl{rec:Rec}(G:RecOk P O rec){f:FuncId}{xs:List AV}{h:AH}{v:AV}{h':AH}(I:callF P rec f xs h=some (v,h')){μ:Mu}{w:World}{us:List Value}(S:Sim P O μ h w)(Q:VRels μ xs us) :
  ((callFunc f us.toArray).run P w=.ok (.enter f us.toArray) w/\Calls P f us.toArray w (Ends (Good P O μ h w v h')))\/∃u,(callFunc f us.toArray).run P w=.ok (.value u) w/\Good P O μ h w v h' u w:=by
 unfold callF at I;split at I
 ·rename_i fn U;obtain⟨y,F⟩:=kel I;have z:fn.name≠ "runtime.NumGoroutine" := by simpa using y
  split at F
  ·rename_i c hb
   left
   refine⟨?_,G.fn F S Q⟩;simp[callFunc,U,z,hb]
  ·rename_i hb;obtain⟨V,H⟩:=kr F;simp only[beq_iff_eq]at V;simp only[Option.map_eq_some_iff,qce]at H;obtain⟨x,hp,rfl,rfl⟩:=H;obtain⟨u,W,K⟩:=kbc3 U y hb V hp Q w;exact .inr ⟨u,W,qd S K⟩
 ·cases I
theorem k7g(z:Array TypeId)(t:TypeId)(y:Addr)(s m:ByteArray)(w:World):(Builtin.ssaWrapNilChk_ z t #[.pointer (some y),.string s,.string m]).run P w=.ok (.pointer (some y)) w:=rfl
theorem kbft{μ:Mu}{h:AH}{w:World}(S:Sim P O μ h w){t:TypeId}{name:String}{v:AV}{u:Value}(hv:VRel μ v u){R:Type}{k:FuncId->AV->Option R}{r:R}(hk:kkb P t name v h k=some r)(n:Nat) :
  ∃f v' z,k f v'=some r/\VRel μ v' z/\(method (n+1) t u name).run P w=.ok (f,z) w:=by
 unfold kkb at hk;split at hk
 ·rename_i i I;split at hk
  ·rename_i m K;obtain⟨hp,hk⟩:=kr hk;have Q:m.path.toList=[]:=by simpa using hp
   have base:∀(f:FuncId)(b:Bool),m.func=some (f,b)->(method (n+1) t u name).run P w=(do pure (f,<- receiverAt t (.val u) b (some ((name.splitOn ".").getLastD name))):Sem (FuncId×Value)).run P w:=by
    intro f b y;have F:m.path=#[]:=by simpa using hp
    simp[method,typeInfo,I,K,F,follow,y]
   split at hk
   ·rename_i f e y G _;refine⟨f,_,u,hk,hv,?_⟩;rw[base f true y];simp only[receiverAt,Sem.run_bind,run_underlying G,Result.andThen_ok,Place.get,Sem.run_pure]
   ·rename_i f e q y G _;simp only[VRel]at hv;obtain⟨W,U,rfl⟩:=hv;obtain⟨v',z,hk,H,V⟩:=ksx S U hk;refine⟨f,v',z,hk,H,?_⟩;rw[base f false y];simp only[receiverAt,Sem.run_bind,run_underlying G,Result.andThen_ok,Place.get,Sem.run_pure,strVal,k7g,asAddr,V]
   ·cases hk
  ·cases hk
 ·cases hk
theorem kbb5{rec:Rec}(U:RecOk P O rec){μ:Mu}{N:Nat}{fr:Fr}{h:AH}{w:World}{o:Oper}{a:Act}(S:Sim P O μ h w)(F:FRel μ N fr a.tmps){c:Call}(ho:o.op=.call c)
  {k:AV->AH->Option R} {r:R} (hk:callK P rec c o.type fr h k=some r):OpOk P O μ h w o a k r:=by
 unfold callK at hk;split at hk
 ·cases hk
 ·rename_i xs aa;have hx:=kds F aa;have V:c.args.map a.eval=(c.args.toList.map a.eval).toArray:=by apply Array.ext';simp
  split at hk
  ·rename_i b hb;obtain⟨v,h1,G,u,w',hr,g⟩:=kbmk S hx hk o.type (c.args.map λ| .const _=>true | _=>false);refine⟨v,h1,G,qe ?_ g⟩;rw[km2 _ _ _ ho];simp only[resolve,hb,Sem.run_bind,Sem.run_pure,Result.andThen_ok,invoke,V];exact hr
  ·rename_i f H;split at hk
   ·rename_i fv W;simp only[qbw]at hk;obtain⟨q,hq,G⟩:=hk;have Z:=kvi G;obtain⟨v,h1⟩:=q;refine⟨v,h1,Z,?_⟩;have z:=kw F W;unfold callV at hq;split at hq
    ·rename_i g first captured
     simp only[VRel]at z;obtain⟨g',x,y,he,hg,ab,ac⟩:=z;simp only[FnRel]at hg;subst hg;have I:VRels μ (first++xs++captured) (x.toList++c.args.toList.map a.eval++y.toList):=(ab.append hx).append ac;have K:x++c.args.map a.eval++y=(x.toList++c.args.toList.map a.eval++y.toList).toArray:=by apply Array.ext';simp
     have Q:(execOp a.eval o).run P w=(callFunc g (x.toList++c.args.toList.map a.eval++y.toList).toArray).run P w:=by rw[km2 _ _ _ ho,<- K];simp only[resolve,H,he,Deferred.ofValue,Sem.run_bind,Sem.run_pure,Result.andThen_ok,invoke]
     rcases kxl U hq S I with⟨h2,h3⟩ | ⟨u,h2,g2⟩
     ·exact OpGoes.of_call (by rw[Q];exact h2) h3
     ·exact qe (by rw[Q];exact h2) g2
    ·cases hq
   ·cases hk
  ·rename_i rc name H;split at hk
   ·rename_i fv W;simp only[qbw]at hk;obtain⟨⟨ag,y⟩,hp,hk⟩:=hk;have z:=kw F W;rw[k3c hp]at z;simp only[VRel]at z;obtain⟨uu,he,hu⟩:=z;obtain⟨n,hn⟩:∃n,P.types.size+Made.depth=n+1:=⟨P.types.size+99,rfl⟩;obtain⟨g,v',u',hk,ad,ae⟩:=kbft S hu hk n;simp only[qbw]at hk;obtain⟨q,hq,G⟩:=hk;have Z:=kvi G;obtain⟨v,h1⟩:=q;refine⟨v,h1,Z,?_⟩;have I:VRels μ (v'::xs) (u'::c.args.toList.map a.eval):=qc ad hx
    have Q:(execOp a.eval o).run P w=(callFunc g (u'::c.args.toList.map a.eval).toArray).run P w:=by
     rw[km2 _ _ _ ho];have K:#[u']++c.args.map a.eval=(u'::c.args.toList.map a.eval).toArray:=by apply Array.ext';simp
     have af:(#[a.eval rc]++c.args.map a.eval).extract 1 (#[a.eval rc]++c.args.map a.eval).size=c.args.map a.eval:=by apply Array.ext';simp[List.take_of_length_le]
     rw[<- K];simp only[resolve,H,Sem.run_bind,Sem.run_pure,Result.andThen_ok,invoke,af];have h0:(#[a.eval rc]++c.args.map a.eval)[0]?=some (a.eval rc):=by rw[Array.getElem?_append_left (by simp)];rfl
     rw[h0];simp[callMethod,he,hn,ae]
    rcases kxl U hq S I with⟨h2,h3⟩ | ⟨u,h2,g2⟩
    ·exact OpGoes.of_call (by rw[Q];exact h2) h3
    ·exact qe (by rw[Q];exact h2) g2
   ·cases hk
theorem kty{rec:Rec}(y:RecOk P O rec){μ:Mu}{N:Nat}{fr:Fr}{h:AH}{w:World}{o:Oper}{a:Act}(S:Sim P O μ h w)(F:FRel μ N fr a.tmps)
  {k:AV->AH->Option R} {r:R} (hk:opK P rec o.op o.type fr h k=some r):OpOk P O μ h w o a k r:=by
 by_cases z:∃c,o.op=.call c
 ·obtain⟨c,z⟩:=z;have:callK P rec c o.type fr h k=some r:=by rw[z]at hk;exact hk
  exact kbb5 y S F z this
 ·exact kbl3 (rec:=rec) S F (λc e=>z ⟨c,e⟩) hk
def After(P:Program)(O:World)(μ:Mu)(N:Nat)(h:AH)(w:World)(ds:List Deferred)(k:Fr->AH->Option (AV×AH))(r:AV×AH):Exit->Act->World->Prop:=λe a w' =>e=.normal/\a.defers=ds/\∃y h' ν,k y h'=some r/\Sim P O ν h' w'/\FRel ν N y a.tmps/\Ext μ h w ν h'/\Frm μ h w w'
theorem After.trans{μ ν:Mu}{N:Nat}{h h1:AH}{w z:World}{ds:List Deferred}{k:Fr->AH->Option (AV×AH)}{r:AV×AH}(e:Ext μ h w ν h1)(f:Frm μ h w z){x:Exit}{a:Act}{w':World}(g:After P O ν N h1 z ds k r x a w'):After P O μ N h w ds k r x a w':=by obtain⟨F,G,y,h',ξ,H,I,K,Q,U⟩:=g;exact⟨F,G,y,h',ξ,H,I,K,e.trans Q f.1,f.trans e U⟩
theorem k2s{N:Nat}{d:Option Tmp}{v:AV}{fr:Fr}{k:Fr->Option (AV×AH)}{r:AV×AH}(h:putT N d v fr k=some r){μ:Mu}{a:Act}(F:FRel μ N fr a.tmps){u:Value}(hv:VRel μ v u) :
  ∃y,k y=some r/\FRel μ N y (a.put d u).tmps:=by
 rw[ki1]at h;cases d with
 | none=>exact⟨fr,h,F⟩
 | some t =>obtain⟨z,h⟩:=kr h;exact⟨_,h,F.put (by simpa[Nat.blt_eq]using z) hv⟩
theorem put_defers(a:Act)(d:Option Tmp)(u:Value):(a.put d u).defers=a.defers:=by cases d<;>rfl
theorem kbl5{o:Oper}{a:Act}{w:World}{G:Value->World->Prop}(Z:OpGoes P o a w G)(V:∀c,o.op≠.defer c){ops:Array Oper}{i:Nat}{rest:List Nat}(W:ops[i]?=some o)(hw:Region.wanted o (yielded ops a.tmps)=true)(b:Frame)(k:List Item)(cs:List Frame) :
  ∃u w',G u w'/\Steps P (lone (b.atR a (.inRegion ops (i::rest)::k)) cs w) (lone (b.atR (a.put o.dst u) (.inRegion ops rest::k)) cs w'):=by
 have h:=Z (λa' w'=>∃u,G u w'/\a'=a.put o.dst u) (λ_ _ _=>False) (λu w' g=>⟨u,g,rfl⟩);have H:=stepGR_op (P:=P) (b:=b) (k:=k) (cs:=cs) (w:=w) (rest:=rest) W hw;rw[Oper.semAt_eq _ _ _ V]at H
 have F:∀v,(b.atR a (.inRegion ops (i::rest)::k)).finish v=b.atR (a.put o.dst v) (.inRegion ops rest::k):=by intro v;rw[Frame.finish_atR,W];rfl
 simp only[Oper.wp,Oper.upon]at h;split at h
 ·rename_i v w' K;obtain⟨u,g,e⟩:=h;refine⟨u,w',g,Steps.one (step_lone_go ?_)⟩;rw[<- e,H,<- F];simp[stepG.apply,K]
 ·rename_i w' K;obtain⟨u,g,e⟩:=h;refine⟨u,w',g,Steps.one (step_lone_go ?_)⟩;rw[<- e,H,<- F];simp[stepG.apply,K]
 ·rename_i d w' K;obtain⟨u,g,e⟩:=h;have:=congrArg Act.defers e;rw[put_defers,put_defers]at this;simp at this
 ·rename_i f args w' K;obtain⟨e,Q,fr,U,y,_,I⟩:=h (b.atR a (.inRegion ops (i::rest)::k)::cs)
  have z:step P (lone (b.atR a (.inRegion ops (i::rest)::k)) cs w)=.next (lone (Frame.enter P f args .normal) (b.atR a (.inRegion ops (i::rest)::k)::cs) w'):=step_lone_go (by rw[H];simp[stepG.apply,K,Frame.atR])
  cases e with
  | returned v =>
   obtain⟨u,g,e⟩:=U;refine⟨u,Q,g,.head z (y.trans (.one ?_))⟩;rw[<- e,<- F];exact step_leave_returned I
  | panicked chain=>exact U.elim
  | outgrown =>obtain⟨_,_,hq⟩:=U;exact hq.elim
 ·rename_i row args w' K;obtain⟨v,Q,U,y⟩:=h (b.atR a (.inRegion ops (i::rest)::k)) cs
  have z:step P (lone (b.atR a (.inRegion ops (i::rest)::k)) cs w)=.next (lone (Frame.ofRow P row args .normal) (b.atR a (.inRegion ops (i::rest)::k)::cs) w'):=step_lone_go (by rw[H];simp[stepG.apply,K,Frame.atR])
  obtain⟨u,g,e⟩:=U;refine⟨u,Q,g,.head z ?_⟩;rw[<- e,<- F];exact y
 ·exact h.elim
 ·exact h.elim
theorem k9u{o:Oper}{a:Act}{w:World}{G:Value->World->Prop}{c:Call}{f:Operand}{l:Nat}(y:o.op=.call c)(I:c.callee=.value f)(K:a.eval f=.func (.yield l) #[] #[])(Q:k51 P l (c.args.map a.eval) w G){ops:Array Oper}{i:Nat}{rest:List Nat}(H:ops[i]?=some o)(U:Region.wanted o (yielded ops a.tmps)=true)(b:Frame)(k:List Item)(cs:List Frame) :
  ∃u w',G u w'/\Steps P (lone (b.atR a (.inRegion ops (i::rest)::k)) cs w) (lone (b.atR (a.put o.dst u) (.inRegion ops rest::k)) cs w'):=by
 obtain⟨fn,tmps,as,bd,V,hs⟩:=Q;have z:=stepGR_op (P:=P) (b:=b) (k:=k) (cs:=cs) (w:=w) (rest:=rest) H U;rw[Oper.semAt_eq _ _ _ (by rw[y];intro c;simp)]at z
 have F:∀v,(b.atR a (.inRegion ops (i::rest)::k)).finish v=b.atR (a.put o.dst v) (.inRegion ops rest::k):=by intro v;rw[Frame.finish_atR,H];rfl
 have W:(execOp a.eval o).run P w=.ok (.round l fn tmps as bd) w:=by
  rw[km2 _ _ _ y];simp only[resolve,I,K,Deferred.ofValue,Sem.run_bind,Sem.run_pure,Result.andThen_ok,invoke]
  simpa using V
 obtain⟨u,w',g,Z⟩:=hs (b.atR a (.inRegion ops (i::rest)::k)) cs;refine⟨u,w',g,.head (m₁:=lone (Frame.round l fn tmps as bd .normal) (b.atR a (.inRegion ops (i::rest)::k)::cs) w) (step_lone_go ?_) ?_⟩
 ·rw[z];simp[stepG.apply,W]
 ·rw[<- F];exact Z
theorem kbaf{o:Op}{fr:Fr}{p:Nat×List AV}(h:kj5 o fr=some p):∃c f,o=.call c/\c.callee=.value f/\evs fr c.args.toList=some p.2/\evO fr f=some (.func (.yield p.1) [] []):=by
 unfold kj5 at h;split at h
 ·rename_i c;split at h
  ·rename_i f xs y z;split at h
   ·rename_i l F;cases h;exact⟨c,f,rfl,y,z,F⟩
   ·cases h
  ·cases h
 ·cases h
theorem kvb{rec:Rec}(ac:RecOk P O rec){N:Nat}{μ:Mu}{fr:Fr}{h:AH}{w:World}{o:Oper}{a:Act}(S:Sim P O μ h w)(F:FRel μ N fr a.tmps)
  {k:AV->AH->Option R} {r:R} (hk:opM P rec o.op o.type fr h k=some r):OpOk P O μ h w o a k r/\∀c,o.op≠.defer c:=by
 have put:∀{t:TypeId}{m x v:Operand},(execOp a.eval o=do Instr.mapUpdate t (a.eval m) (a.eval x) (a.eval v);pure .skip)->(match P.underlying t,evO fr m,evO fr x,evO fr v with
  | some (.map kt _),some (.map r),some (.int kd n),some val=>match P.underlying kt with
   | some (.int I)=>cond (decide (kd=I)) (r.bind λi=>(mapPut h i kd n val).bind λh'=>k (.tup []) h') none
   | _=>none
  | _,_,_,_=>none)=some r->OpOk P O μ h w o a k r:=by
  intro t m x v he hk;split at hk
  ·rename_i kt et r0 kd n val Z hm W hv;split at hk
   ·rename_i I Q;obtain⟨G,U⟩:=kr hk;have G:kd=I:=by simpa using G
    subst G;obtain⟨i,rfl,ag⟩:=qbw.1 U;obtain⟨h',hp,H⟩:=qbw.1 ag;have h1:=kw F hm;have h2:=kw F W;have h3:=kw F hv;simp only[VRel]at h1 h2;obtain⟨L,hL,h1⟩:=h1;obtain⟨w',V,g⟩:=kbk7 S Z Q hL h3 hp;refine⟨_,h',H,OpGoes.of_skip (w':=w') ?_ g⟩;rw[he,h1,h2];simp only[Sem.run_bind,V,Result.andThen_ok,Sem.run_pure]
   ·cases hk
  ·cases hk
 unfold opM at hk;split at hk
 ·rename_i t y;refine⟨⟨_,_,hk,?_⟩,by intro c;rw[y];simp⟩;obtain⟨s1,s2,s3⟩:=k0q S (b:=.map [] 0) (n:=0) (o:=.map #[] 0) (λν aj=>⟨#[],kks _ _,rfl,by simp⟩);refine qf (s:=Instr.makeMap t none) (u:=.map (some w.heap.size)) (w':=w.alloc (.map #[] 0)) (by simp[execOp,y]) ?_ ⟨_,?_,s1,s2,s3⟩
  ·simp[Instr.makeMap,run_newObj_alloc,Result.andThen]
  ·simp only[VRel];exact⟨_,kdz _ _ _,rfl⟩
 ·rename_i t m x v y;exact⟨put (by simp[execOp,y]) hk,by intro c;rw[y];simp⟩
 ·rename_i t m x v y;exact⟨put (by simp[execOp,y]) hk,by intro c;rw[y];simp⟩
 ·rename_i t m x ok y;refine⟨?_,by intro c;rw[y];simp⟩;split at hk
  ·rename_i kt et q kd n Z hm W;split at hk
   ·rename_i I z Q hz;obtain⟨G,U⟩:=kr hk;have G:kd=I:=by simpa using G
    subst G;obtain⟨q',hp,H⟩:=qbw.1 U;have h1:=kw F hm;have h2:=kw F W;simp only[VRel]at h2;obtain⟨u,V,hv⟩:=kbaj S Z Q h1 hp hz ok;have ah:k (cond ok (.tup [q'.getD z,.bool q'.isSome]) (q'.getD z)) h=some r:=by have ai:=kc2 H;cases ok<;>exact ai
    refine⟨_,h,ah,qf (s:=Instr.lookup t (a.eval m) (a.eval x) ok) (by simp[execOp,y]) ?_ (qd S hv)⟩;rw[h2];exact V
   ·cases hk
  ·cases hk
 ·rename_i t m x y;refine⟨?_,by intro c;rw[y];simp⟩;split at hk
  ·rename_i kt et i kd n Z hm W;split at hk
   ·rename_i I z Q hz;obtain⟨G,U⟩:=kr hk;have G:kd=I:=by simpa using G
    subst G;obtain⟨q',hp,H⟩:=qbw.1 U;have h1:=kw F hm;have h2:=kw F W;simp only[VRel]at h1 h2;obtain⟨L,hL,h1⟩:=h1;obtain⟨u,w',V,g⟩:=kboj S Z Q hL hz hp;refine⟨_,_,kc2 H,qf (s:=Instr.mapEntry t (a.eval m) (a.eval x)) (by simp[execOp,y]) ?_ g⟩;rw[h1,h2];exact V
   ·cases hk
  ·cases hk
 ·rename_i t m s v y;refine⟨?_,by intro c;rw[y];simp⟩;split at hk
  ·rename_i i kd n val hm hs hv;obtain⟨h',hp,H⟩:=qbw.1 hk;have h1:=kw F hm;have h2:=kw F hs;have h3:=kw F hv;simp only[VRel]at h1 h2;obtain⟨L,hL,h1⟩:=h1;obtain⟨w',V,g⟩:=kbp7 S (t:=t) hL (kd:=kd) h3 hp;refine⟨_,h',H,OpGoes.of_skip (w':=w') ?_ g⟩;simp only[execOp,y,h1,h2,Sem.run_bind,V,Result.andThen_ok,Sem.run_pure]
  ·cases hk
 ·rename_i c y;refine⟨?_,by intro c;rw[y];simp⟩
  have bi:∀{b:Builtin}{xs:List AV}{v:AV}{h1:AH}{u:Value}{w':World},c.callee=.builtin b->evs fr c.args.toList=some xs->(∀{us:List Value},VRels μ xs us->∃u w',(builtin b c.argTypes o.type (c.args.map λ| .const _=>true | _=>false) us.toArray).run P w=.ok (.value u) w'/\Good P O μ h w v h1 u w')->OpGoes P o a w (Good P O μ h w v h1):=by
   intro b xs v h1 _ _ hb W V;have ad:c.args.map a.eval=(c.args.toList.map a.eval).toArray:=by apply Array.ext';simp
   obtain⟨u,w',V,g⟩:=V (kds F W);refine qe ?_ g;rw[km2 _ _ _ y];simp only[resolve,hb,Sem.run_bind,Sem.run_pure,Result.andThen_ok,invoke,ad];exact V
  split at hk
  ·rename_i q t ts hb W aa;have h0:c.argTypes[0]?=some t:=by have:=congrArg (·[0]?) aa;simpa using this
   split at hk
   ·rename_i kt et Z;obtain⟨n,hp,H⟩:=qbw.1 hk;refine⟨_,h,H,bi (u:=undef) (w':=w) hb W λ{us} ab=>?_⟩;obtain⟨u,us',rfl,hu,K⟩:=ab.cons_inv;have:=K.nil_inv;subst this;have hl:=k92 S (ty:=o.type) Z hu hp h0;exact⟨.int .i64 (n:Int),w,by simp[builtin,hl],qd S (by simp[VRel])⟩
   ·cases hk
  ·rename_i q kd n t ts hb W aa;have h0:c.argTypes[0]?=some t:=by have:=congrArg (·[0]?) aa;simpa using this
   split at hk
   ·rename_i kt et Z;split at hk
    ·rename_i I Q;obtain⟨G,U⟩:=kr hk;have G:kd=I:=by simpa using G
     subst G;obtain⟨h',hp,H⟩:=qbw.1 U;refine⟨_,h',H,bi (u:=undef) (w':=w) hb W λ{us} ab=>?_⟩;obtain⟨u,us',rfl,hu,K⟩:=ab.cons_inv;obtain⟨u2,ak,rfl,ae,af⟩:=K.cons_inv;have:=af.nil_inv;subst this;simp only[VRel]at ae;subst ae;obtain⟨w',V,g⟩:=kbjl S (ty:=o.type) Z Q hu hp h0;exact⟨_,w',by simp[builtin,V],g⟩
    ·cases hk
   ·cases hk
  ·rename_i q t ts hb W aa;have h0:c.argTypes[0]?=some t:=by have:=congrArg (·[0]?) aa;simpa using this
   split at hk
   ·rename_i kt et Z;obtain⟨h',hp,H⟩:=qbw.1 hk;refine⟨_,h',H,bi (u:=undef) (w':=w) hb W λ{us} ab=>?_⟩;obtain⟨u,us',rfl,hu,K⟩:=ab.cons_inv;have:=K.nil_inv;subst this;obtain⟨w',V,g⟩:=kbgb S (ty:=o.type) Z hu hp h0;exact⟨_,w',by simp[builtin,V],g⟩
   ·cases hk
  ·exact kty ac S F hk
 ·refine⟨kty ac S F hk,λc hc=>?_⟩;rw[hc]at hk;simp[opK]at hk
theorem VRel.two{μ:Mu}{y z:IntKind}{a b:Int}{u:Value}(h:VRel μ (.agg [.int y a,.int z b]) u):u=.agg #[.int y a,.int z b]:=by
 simp only[VRel,VRels]at h;obtain⟨vs,F,G,-⟩:=h;rw[F];congr 1;apply Array.ext'
 simpa using G
theorem k1p{rec:Rec}(G:RecOk P O rec){N:Nat}{μ:Mu}{fr:Fr}{h:AH}{w:World}{o:Oper}{a:Act}(S:Sim P O μ h w)(F:FRel μ N fr a.tmps)
  {k:AV->AH->Option R} {r:R} (hk:opP P rec o.op o.type fr h k=some r):OpOk P O μ h w o a k r/\∀c,o.op≠.defer c:=by
 unfold opP at hk;split at hk
 ·rename_i t m x v y;split at hk
  ·rename_i kt et r0 k1 aa k2 bb val U V W hv;refine⟨?_,by intro c;rw[y];simp⟩;split at hk
   ·rename_i kd I;obtain⟨H,K⟩:=kr hk;rw[qcb,qby,qby]at H;obtain⟨rfl,rfl⟩:=H;obtain⟨i,rfl,Z⟩:=qbw.1 K;obtain⟨h',hp,Q⟩:=qbw.1 Z;have h1:=kw F V;have h2:=(kw F W).two;have h3:=kw F hv;simp only[VRel]at h1;obtain⟨L,hL,h1⟩:=h1;obtain⟨w',hr,g⟩:=kbd8 S U I hL h3 hp;refine⟨_,h',Q,OpGoes.of_skip (w':=w') ?_ g⟩;rw[show execOp a.eval o=do Instr.mapUpdate t (a.eval m) (a.eval x) (a.eval v);pure .skip from by simp[execOp,y],h1,h2];simp only[Sem.run_bind,hr,Result.andThen_ok,Sem.run_pure]
   ·cases hk
  ·rw[<- y]at hk;exact kvb G S F hk
 ·rename_i t m x ok y;split at hk
  ·rename_i kt et q k1 aa k2 bb U V W;refine⟨?_,by intro c;rw[y];simp⟩;split at hk
   ·rename_i kd z I hz;obtain⟨H,K⟩:=kr hk;rw[qcb,qby,qby]at H;obtain⟨rfl,rfl⟩:=H;obtain⟨q',hp,Q⟩:=qbw.1 K;have h1:=kw F V;have h2:=(kw F W).two;obtain⟨u,hr,hv⟩:=kblk S U I h1 hp hz ok;have ab:k (cond ok (.tup [q'.getD z,.bool q'.isSome]) (q'.getD z)) h=some r:=by have ac:=kc2 Q;cases ok<;>exact ac
    refine⟨_,h,ab,qf (s:=Instr.lookup t (a.eval m) (a.eval x) ok) (by simp[execOp,y]) ?_ (qd S hv)⟩;rw[h2];exact hr
   ·cases hk
  ·rw[<- y]at hk;exact kvb G S F hk
 ·exact kvb G S F hk
theorem k33{rec:Rec}(y:RecOk P O rec){N:Nat}{μ:Mu}{fr:Fr}{h:AH}{w:World}{o:Oper}{a:Act}(S:Sim P O μ h w)(F:FRel μ N fr a.tmps)
  {k:AV->AH->Option R} {r:R} (hk:opX P rec o.op o.type fr h k=some r):OpOk P O μ h w o a k r:=by
 rcases kb5 hk with⟨_,h1⟩ | ⟨_,h1⟩
 ·exact kty y S F h1
 ·exact(k1p y S F h1).1
theorem kbc9{rec:Rec}(z:RecOk P O rec){N:Nat}{μ:Mu}{fr:Fr}{h:AH}{w:World}{o:Oper}{a:Act}(S:Sim P O μ h w)(F:FRel μ N fr a.tmps){k:AV->AH->Option R}{r:R}(hk:opY P rec o.op o.type fr h k=some r)
  {ops:Array Oper} {i:Nat} {rest:List Nat} (ho:ops[i]?=some o) (hw:Region.wanted o (yielded ops a.tmps)=true) (b:Frame) (I:List Item) :
  ∃v h1,k v h1=some r/\∀cs,∃u w',Good P O μ h w v h1 u w'/\Steps P (lone (b.atR a (.inRegion ops (i::rest)::I)) cs w) (lone (b.atR (a.put o.dst u) (.inRegion ops rest::I)) cs w'):=by
 unfold opY at hk;split at hk
 ·rename_i p hp;obtain⟨c,f,K,hc,hx,hf⟩:=kbaf hp;rw[qbw]at hk;obtain⟨q,hq,Q⟩:=hk;have U:=kvi Q;obtain⟨v,h1⟩:=q;refine⟨v,h1,U,λcs=>?_⟩;have H:=kw F hf;simp only[VRel]at H;obtain⟨g',x,y,he,hg,V,W⟩:=H;simp only[FnRel]at hg;obtain⟨L,hL,rfl⟩:=hg;have ex:x=#[]:=Array.toList_eq_nil_iff.1 V.nil_inv;have ey:y=#[]:=Array.toList_eq_nil_iff.1 W.nil_inv;subst ex;subst ey;have:=z.round hq S (kds F hx) hL;have G:(c.args.toList.map a.eval).toArray=c.args.map a.eval:=by apply Array.ext';simp
  rw[G]at this;exact k9u K hc he this ho hw b I cs
 ·obtain⟨⟨v,h1,Z,aa⟩,ab⟩:=k1p z S F hk;exact⟨v,h1,Z,λcs=>kbl5 aa ab ho hw b I cs⟩
theorem kw8{rec:Rec}(K:RecOk P O rec){N:Nat}{ops:Array Oper}{k:Fr->AH->Option (AV×AH)}{r:AV×AH}:∀(is:List Nat){fr:Fr}{h:AH}{μ:Mu}{w:World}{a:Act},
  opsY P rec N ops is fr h k=some r->Sim P O μ h w->FRel μ N fr a.tmps->∀(b:Frame)(I:List Item)(cs:List Frame),∃a' w',After P O μ N h w a.defers k r .normal a' w'/\Steps P (lone (b.atR a (.inRegion ops is::I)) cs w) (lone (b.atR a' I) cs w')
 | [],fr,h,μ,w,a,hk,S,F,b,I,cs=>by
  simp only[opsY]at hk;exact⟨a,w,⟨rfl,rfl,fr,h,μ,hk,S,F,Ext.refl _ _ _,Frm.refl _ _ _⟩,Steps.one stepR_region_end⟩
 | i::is,fr,h,μ,w,a,hk,S,F,b,I,cs=>by
  simp only[opsY]at hk;split at hk
  ·cases hk
  ·rename_i o ho
   have go:∀{fr:Fr},FRel μ N fr a.tmps->(opY P rec o.op o.type fr h λv h'=>putT N o.dst v fr λQ=>opsY P rec N ops is Q h' k)=some r->Region.wanted o (yielded ops a.tmps)=true->
     ∃a' w',After P O μ N h w a.defers k r .normal a' w'/\Steps P (lone (b.atR a (.inRegion ops (i::is)::I)) cs w) (lone (b.atR a' I) cs w'):=by
    intro fr F hk hw;obtain⟨v,h1,aa,ab⟩:=kbc9 K S F hk ho hw b I (rest:=is);obtain⟨u,w',⟨ν,g1,g2,g3,g4⟩,st⟩:=ab cs;obtain⟨Q,z,F'⟩:=k2s aa (F.mono g3.2.1) g1;obtain⟨a',w2,W,V⟩:=kw8 K is z g2 F' b I cs;rw[put_defers]at W;exact⟨a',w2,W.trans g3 g4,st.trans V⟩
   have skip:∀{fr:Fr},FRel μ N fr a.tmps->(putT N o.dst (.tup []) fr λQ=>opsY P rec N ops is Q h k)=some r->Region.wanted o (yielded ops a.tmps)=false->
     ∃a' w',After P O μ N h w a.defers k r .normal a' w'/\Steps P (lone (b.atR a (.inRegion ops (i::is)::I)) cs w) (lone (b.atR a' I) cs w'):=by
    intro fr F hk hw;obtain⟨Q,z,F'⟩:=k2s (u:=undef) hk F (by simp[VRel,undef,VRels]);obtain⟨a',w2,W,V⟩:=kw8 K is z S F' b I cs;rw[put_defers]at W;have hs:=stepR_op_skip (P:=P) (b:=b) (a:=a) (k:=I) (cs:=cs) (w:=w) (ops:=ops) (i:=i) (rest:=is) (by simp[ho];simpa using hw);simp only[ho,qbv]at hs;exact⟨a',w2,W,.head hs V⟩
   split at hk
   ·rename_i Z;exact go F hk (by simp[Region.wanted,Z])
   ·rename_i j b' Z;split at hk
    ·cases hk
    ·rename_i t ht;split at hk
     ·rename_i c H;obtain⟨u,hu,U⟩:=F.get t _ H;simp only[VRel]at U;subst U;have hy:yielded ops a.tmps j=some c:=by simp[yielded,ht,hu]
      have y:Region.wanted o (yielded ops a.tmps)=(c==b'):=by simp[Region.wanted,Z,hy]
      have Fl:FRel μ N ((t,.bool c)::fr) a.tmps:=F.learn H λ_ h=>h;rcases kb5 hk with⟨rfl,z⟩ | ⟨rfl,z⟩
      ·rcases kb5 z with⟨rfl,G⟩ | ⟨rfl,G⟩
       ·exact go Fl G (by rw[y];rfl)
       ·exact skip Fl G (by rw[y];rfl)
      ·rcases kb5 z with⟨rfl,G⟩ | ⟨rfl,G⟩
       ·exact skip Fl G (by rw[y];rfl)
       ·exact go Fl G (by rw[y];rfl)
     ·rename_i H;obtain⟨u,hu,U⟩:=F.get t _ H;simp only[VRel]at U;obtain⟨us,rfl,_⟩:=U;have hy:yielded ops a.tmps j=none:=by simp[yielded,ht,hu]
      exact skip F hk (by simp[Region.wanted,Z,hy])
     ·cases hk
theorem kts{ops:Array Oper}{Q:Exit->Act->World->Prop}(y:∀e a w,Q e a w->e=.normal):∀(is:List Nat)(a:Act)(w:World),wpOps P ops Q is a w->∃a' w',Q .normal a' w'/\a.defers.length<=a'.defers.length
 | [],a,w,h=>⟨a,w,h,qbr _⟩
 | i::rest,a,w,h=>by
  simp only[wpOps]at h
  have put:∀{a1:Act}{d:Option Tmp}{v:Value}{G:World},wpOps P ops Q rest (a1.put d v) G->a.defers.length<=a1.defers.length->∃a' w',Q .normal a' w'/\a.defers.length<=a'.defers.length:=by intro a1 d v G h1 K;obtain⟨a',w',q,l⟩:=kts y rest _ _ h1;rw[put_defers]at l;exact⟨a',w',q,qbs K l⟩
  cases H:ops[i]? with
  | none =>
   simp only[H]at h;exact kts y rest a w h
  | some o =>
   simp only[H]at h;by_cases I:Region.wanted o (yielded ops a.tmps)=true
   ·simp only[I,if_true]at h;have h:o.wp P a w (wpOps P ops Q rest) Q:=h.resolve_right λ⟨_,_,_,hq⟩=>by cases y _ _ _ hq
    simp only[Oper.wp,Oper.upon]at h;split at h
    ·exact put h (qbr _)
    ·exact put h (qbr _)
    ·exact put h (by simp)
    ·obtain⟨e,F,fr,z,_⟩:=h [];cases e with
     | returned v=>exact put z (qbr _)
     | panicked chain=>exact absurd (y _ _ _ z) (by intro h;cases h)
     | outgrown =>obtain⟨_,_,hq⟩:=z;exact absurd (y _ _ _ hq) (by intro h;cases h)
    ·obtain⟨v,F,z,_⟩:=h default [];exact put z (qbr _)
    ·exact absurd (y _ _ _ h) (by intro h;cases h)
    ·exact h.elim
   ·simp only[I,if_false,qcp]at h;exact put h (qbr _)
theorem kie{ops:Array Oper}{Q:Exit->Act->World->Prop}(G:∀e a w,Q e a w->e=.normal)(V:kh1 ops=false):∀(is:List Nat)(a:Act)(w:World),wpOps P ops Q is a w->(∀a' w',Q .normal a' w'->a'.defers.length<=a.defers.length)->∀(b:Frame)(k:List Item)(cs:List Frame),∃a' w',Q .normal a' w'/\Steps P (lone (b.atR a (.inRegion ops is::k)) cs w) (lone (b.atR a' k) cs w')
 | [],a,w,h,hl,b,k,cs=>⟨a,w,h,Steps.one stepR_region_end⟩
 | i::rest,a,w,h,hl,b,k,cs=>by
  have H:∀(d:Option Tmp)(v:Value) a' w',Q .normal a' w'->a'.defers.length<=(a.put d v).defers.length:=λd v a' w' q=>by rw[put_defers];exact hl a' w' q
  simp only[wpOps]at h;cases W:ops[i]? with
  | none =>
   simp only[W]at h;obtain⟨a',w',hq,I⟩:=kie G V rest a w h hl b k cs;have hs:=stepR_op_skip (P:=P) (b:=b) (a:=a) (k:=k) (cs:=cs) (w:=w) (ops:=ops) (i:=i) (rest:=rest) (by simp[W]);simp only[W,Option.bind_none,Act.put]at hs;exact⟨a',w',hq,.head hs I⟩
  | some o =>
   simp only[W]at h;by_cases hw:Region.wanted o (yielded ops a.tmps)=true
   ·simp only[hw,if_true]at h;have h:o.wp P a w (wpOps P ops Q rest) Q:=h.resolve_right λ⟨_,_,_,hq⟩=>by cases G _ _ _ hq
    have aa:∀c,o.op≠.defer c:=by intro c hc;unfold kh1 at V;rw[List.any_eq_false]at V;have:=V o (by rw[Array.mem_toList_iff];exact Array.mem_of_getElem? W);rw[hc]at this;exact this rfl
    have K:=stepGR_op (P:=P) (b:=b) (k:=k) (cs:=cs) (w:=w) (rest:=rest) W hw;rw[Oper.semAt_eq _ _ _ aa]at K
    have F:∀v,(b.atR a (.inRegion ops (i::rest)::k)).finish v=b.atR (a.put o.dst v) (.inRegion ops rest::k):=by intro v;rw[Frame.finish_atR,W];rfl
    simp only[Oper.wp,Oper.upon]at h;split at h
    ·rename_i v w' hr;obtain⟨a',U,hq,I⟩:=kie G V rest _ _ h (H _ _) b k cs;refine⟨a',U,hq,.head (step_lone_go ?_) I⟩;rw[K,<- F];simp[stepG.apply,hr]
    ·rename_i w' hr;obtain⟨a',U,hq,I⟩:=kie G V rest _ _ h (H _ _) b k cs;refine⟨a',U,hq,.head (step_lone_go ?_) I⟩;rw[K,<- F];simp[stepG.apply,hr]
    ·rename_i d w' hr;obtain⟨a',w2,q,l⟩:=kts G rest _ _ h;have:=hl _ _ q;rw[put_defers]at l;simp only[qb4]at l;omega
    ·rename_i f args w' hr;obtain⟨e,U,fr,hR,y,_,Z⟩:=h (b.atR a (.inRegion ops (i::rest)::k)::cs)
     have z:step P (lone (b.atR a (.inRegion ops (i::rest)::k)) cs w)=.next (lone (Frame.enter P f args .normal) (b.atR a (.inRegion ops (i::rest)::k)::cs) w'):=step_lone_go (by rw[K];simp[stepG.apply,hr,Frame.atR])
     cases e with
     | returned v =>
      obtain⟨a',w3,hq,I⟩:=kie G V rest _ _ hR (H _ _) b k cs;refine⟨a',w3,hq,.head z (y.trans (.head ?_ I))⟩;rw[<- F];exact step_leave_returned Z
     | panicked chain=>exact absurd (G _ _ _ hR) (by intro h;cases h)
     | outgrown =>obtain⟨_,_,hq⟩:=hR;exact absurd (G _ _ _ hq) (by intro h;cases h)
    ·rename_i row args w' hr;obtain⟨v,U,hR,y⟩:=h (b.atR a (.inRegion ops (i::rest)::k)) cs
     have z:step P (lone (b.atR a (.inRegion ops (i::rest)::k)) cs w)=.next (lone (Frame.ofRow P row args .normal) (b.atR a (.inRegion ops (i::rest)::k)::cs) w'):=step_lone_go (by rw[K];simp[stepG.apply,hr,Frame.atR])
     obtain⟨a',w3,hq,I⟩:=kie G V rest _ _ hR (H _ _) b k cs;refine⟨a',w3,hq,.head z (.trans ?_ I)⟩;rw[<- F];exact y
    ·exact absurd (G _ _ _ h) (by intro h;cases h)
    ·exact h.elim
   ·simp only[hw,if_false,qcp]at h;obtain⟨a',w',hq,I⟩:=kie G V rest _ _ h (H _ _) b k cs;have hs:=stepR_op_skip (P:=P) (b:=b) (a:=a) (k:=k) (cs:=cs) (w:=w) (ops:=ops) (i:=i) (rest:=rest) (by simp[W];simpa using hw);simp only[W,qbv]at hs;exact⟨a',w',hq,.head hs I⟩
end Go.Ab
namespace Go.Ab
variable{P:Program}
theorem kbh{A B:Type}(c:Bool)(x y:Option A)(k:A->Option B):(cond c x y).bind k=cond c (x.bind k) (y.bind k):=by cases c<;>rfl
theorem krr:∃g:Leaf->Option AV->Option AV,∀(l:Leaf)(x:Option AV)(R:Type)(k:AV->Option R),leafK l x k=(g l x).bind k:=by refine⟨λl x=>leafK l x some,λl x R k=>?_⟩;cases l<;>simp[leafK,Option.bind_assoc]
theorem k2x:∃g:(Nat->Option AV)->List Leaf->Nat->Option (List AV),∀(get:Nat->Option AV)(ls:List Leaf)(i:Nat)(R:Type)(k:List AV->Option R),kd5 get ls i k=(g get ls i).bind k:=by
 obtain⟨g,e⟩:=krr;refine⟨λget ls i=>kd5 get ls i some,λget ls=>?_⟩
 induction ls with
 | nil=>intro i R k;simp[kd5]
 | cons l ls ih =>intro i R k;simp only[kd5,e];rw[Option.bind_assoc];congr 1;funext v;rw[ih (i+1) _ (λvs=>k (v::vs)),ih (i+1) _ (λvs=>some (v::vs)),Option.bind_assoc];rfl
theorem ks9:∃g:Program->TypeId->Ref->AH->Option AV,∀(P:Program)(t:TypeId)(q:Ref)(h:AH)(R:Type)(k:AV->Option R),loadK P t q h k=(g P t q h).bind k:=by
 obtain⟨g,e⟩:=krr;obtain⟨f,d⟩:=k2x;refine⟨λP t q h=>loadK P t q h some,λP t q h R k=>?_⟩;dsimp only;unfold loadK;simp only[e,d];split
 ·rw[kbh];congr 1
  ·split
   ·simp[kbh,Option.bind_assoc]
   ·rfl
  ·split
   ·simp
   ·rfl
 ·rfl
theorem kic:∃g:Program->TypeId->AV->Option AV,∀(P:Program)(t:TypeId)(v:AV)(R:Type)(k:AV->Option R),seeK P t v k=(g P t v).bind k:=by
 obtain⟨g,e⟩:=krr;obtain⟨f,d⟩:=k2x;refine⟨λP t v=>seeK P t v some,λP t v R k=>?_⟩;dsimp only;unfold seeK;simp only[e,d];split
 ·rw[kbh];congr 1
  ·split
   ·simp[kbh,Option.bind_assoc]
   ·rfl
  ·split
   ·simp
   ·rfl
 ·rfl
theorem k0z:∃g:Program->TypeId->AV->Option AV,∀(P:Program)(t:TypeId)(v:AV)(R:Type)(k:AV->Option R),aggK P t v k=(g P t v).bind k:=by
 obtain⟨g,e⟩:=kic;refine⟨λP t v=>aggK P t v some,λP t v R k=>?_⟩;dsimp only;unfold aggK;simp only[e];split
 ·rw[kbh,Option.bind_assoc];simp
 ·rfl
theorem kxv:∃g:Program->TypeId->AV->Option AV,∀(P:Program)(t:TypeId)(v:AV)(R:Type)(k:AV->Option R),khe P t v k=(g P t v).bind k:=by
 obtain⟨g,e⟩:=kic;refine⟨λP t v=>khe P t v some,λP t v R k=>?_⟩;dsimp only;unfold khe;simp only[e];split
 ·split<;>simp[Option.bind_assoc]
 ·simp
theorem kr1:∃g:Program->TypeId->AV->Option (List AV),∀(P:Program)(t:TypeId)(v:AV)(R:Type)(k:List AV->Option R),cellsK P t v k=(g P t v).bind k:=by
 refine⟨λP t v=>cellsK P t v some,λP t v R k=>?_⟩;dsimp only;unfold cellsK;split
 ·simp[kbh,Option.bind_assoc]
 ·rfl
theorem kblh:∃g:BinOp->IntKind->Int->Int->Option AV,∀(op:BinOp)(kd:IntKind)(a b:Int)(R:Type)(k:AV->Option R),intK op kd a b k=(g op kd a b).bind k:=by refine⟨λop kd a b=>intK op kd a b some,λop kd a b R k=>?_⟩;cases op<;>simp[intK,kbh]
theorem kx1:∃g:Program->BinOp->TypeId->AV->AV->Option AV,∀(P:Program)(op:BinOp)(t:TypeId)(x y:AV)(R:Type)(k:AV->Option R),binK P op t x y k=(g P op t x y).bind k:=by obtain⟨g,e⟩:=kblh;refine⟨λP op t x y=>binK P op t x y some,λP op t x y R k=>?_⟩;dsimp only;unfold binK;simp only[e];split<;>simp[kd4,kkf,kbh,Option.bind_assoc]
theorem k54:∃g:UnOp->AV->Option AV,∀(op:UnOp)(x:AV)(R:Type)(k:AV->Option R),unK op x k=(g op x).bind k:=by refine⟨λop x=>unK op x some,λop x R k=>?_⟩;dsimp only;unfold unK;split<;>simp
theorem kwn:∃g:Program->(Nat->Option (Nat×TypeId))->List (Nat×AV)->List AV->Option (List AV),∀(P:Program)(place:Nat->Option (Nat×TypeId))(parts:List (Nat×AV))(cells:List AV)(R:Type)(k:List AV->Option R),fillK P place parts cells k=(g P place parts cells).bind k:=by
 obtain⟨g,e⟩:=kr1;refine⟨λP place parts cells=>fillK P place parts cells some,λP place parts=>?_⟩
 induction parts with
 | nil=>intro cells R k;simp[fillK]
 | cons p parts ih =>
  intro cells R k;obtain⟨i,v⟩:=p;simp only[fillK,e];split
  ·rfl
  ·rw[Option.bind_assoc];congr 1;funext cs;rw[kbh];congr 1;exact ih _ _ _
theorem kbov:∃g:Fr->Option Operand->Int->Option Int,∀(fr:Fr)(x:Option Operand)(d:Int)(R:Type)(k:Int->Option R),boundK fr x d k=(g fr x d).bind k:=by
 refine⟨λfr x d=>boundK fr x d some,λfr x d R k=>?_⟩;dsimp only;unfold boundK;split
 ·rfl
 ·split<;>simp
theorem k3e:∃g:Program->TypeId->AV->Fr->Option Operand->Option Operand->Option Operand->Option AV,∀(P:Program)(t:TypeId)(x:AV)(fr:Fr)(lo y z:Option Operand)(R:Type)(k:AV->Option R),sliceK P t x fr lo y z k=(g P t x fr lo y z).bind k:=by
 obtain⟨g,e⟩:=kbov;refine⟨λP t x fr lo y z=>sliceK P t x fr lo y z some,λP t x fr lo y z R k=>?_⟩;dsimp only;unfold sliceK;simp only[e];split
 ·split<;>simp[kbh,Option.bind_assoc]
 ·split<;>simp[kbh,Option.bind_assoc]
 ·split<;>simp[kbh,Option.bind_assoc]
 ·rfl
theorem k2z:∃g:Program->TypeId->TypeId->AV->Option AV,∀(P:Program)(s d:TypeId)(x:AV)(R:Type)(k:AV->Option R),kk4 P s d x k=(g P s d x).bind k:=by refine⟨λP s d x=>kk4 P s d x some,λP s d x R k=>?_⟩;dsimp only;unfold kk4;split<;>simp
theorem k2t:∃g:Program->TypeId->AV->Option AV,∀(P:Program)(t:TypeId)(x:AV)(R:Type)(k:AV->Option R),lenK P t x k=(g P t x).bind k:=by refine⟨λP t x=>lenK P t x some,λP t x R k=>?_⟩;dsimp only;unfold lenK;split<;>simp
abbrev pk(v:AV)(h:AH):Option (AV×AH):=some (v,h)
theorem kbba:∃g:Program->Builtin->List TypeId->List AV->AH->Option (AV×AH),∀(P:Program)(b:Builtin)(y:List TypeId)(xs:List AV)(h:AH)(R:Type)(k:AV->AH->Option R),kgr P b y xs h k=(g P b y xs h).bind λp=>k p.1 p.2:=by
 obtain⟨g,e⟩:=k2t;obtain⟨f,d⟩:=krr;refine⟨λP b y xs h=>kgr P b y xs h pk,λP b y xs h R k=>?_⟩;dsimp only;unfold kgr;simp only[e,d];split
 ·simp[pk,Option.bind_assoc]
 ·simp[pk]
 ·simp[pk]
 ·split<;>simp[pk,kbh,Option.bind_assoc]
 ·split<;>simp[pk,kbh,Option.bind_assoc]
 ·rfl
theorem k0j:∃g:Program->TypeId->String->AV->AH->Option (FuncId×AV),∀(P:Program)(t:TypeId)(name:String)(v:AV)(h:AH)(R:Type)(k:FuncId->AV->Option R),kkb P t name v h k=(g P t name v h).bind λp=>k p.1 p.2:=by
 obtain⟨g,e⟩:=ks9;refine⟨λP t name v h=>kkb P t name v h λf u=>some (f,u),λP t name v h R k=>?_⟩;dsimp only;unfold kkb;simp only[e]
 (repeat' split)<;>simp[kbh,Option.bind_assoc]
 all_goals (repeat' split)<;>simp[Option.bind_assoc]
theorem kbhp(rec:Rec):∃g:Program->Call->TypeId->Fr->AH->Option (AV×AH),∀(P:Program)(c:Call)(ty:TypeId)(fr:Fr)(h:AH)(R:Type)(k:AV->AH->Option R),callK P rec c ty fr h k=(g P c ty fr h).bind λp=>k p.1 p.2:=by
 obtain⟨g,e⟩:=kbba;obtain⟨f,d⟩:=kxv;obtain⟨m,y⟩:=k0j;refine⟨λP c ty fr h=>callK P rec c ty fr h pk,λP c ty fr h R k=>?_⟩;dsimp only;unfold callK;simp only[e,d,y];split
 ·rfl
 ·split
  ·simp[pk,Option.bind_assoc]
  ·split<;>simp[pk,Option.bind_assoc]
  ·split<;>simp[pk,Option.bind_assoc]
theorem kz9(rec:Rec):∀(P:Program)(o:Op)(ty:TypeId)(fr:Fr)(h:AH)(R:Type)(k:AV->AH->Option R),opK P rec o ty fr h k=(opK P rec o ty fr h pk).bind λp=>k p.1 p.2:=by obtain⟨Z,z⟩:=kr1;obtain⟨g2,F⟩:=kwn;obtain⟨g3,G⟩:=ks9;obtain⟨g4,H⟩:=kx1;obtain⟨g5,I⟩:=k54;obtain⟨g6,K⟩:=k2z;obtain⟨g7,Q⟩:=k3e;obtain⟨g8,U⟩:=kbhp rec;obtain⟨g9,V⟩:=k0z;obtain⟨W,y⟩:=kic;intro P o ty fr h R k;cases o<;>simp only[opK,z,F,G,H,I,K,Q,U,V,y]<;>(repeat' split)<;>simp[pk,kd4,kkf,kbh,Option.bind_assoc]
theorem kbnt(rec:Rec)(o:Op)(ty:TypeId)(fr:Fr)(h:AH)(R:Type)(k:AV->AH->Option R):opM P rec o ty fr h k=(opM P rec o ty fr h pk).bind λp=>k p.1 p.2:=by
 have ok:=kz9 rec P o ty fr h R k;unfold opM;split
 ·rfl
 ·(repeat' split)<;>simp[pk,kbh,Option.bind_assoc]
 ·(repeat' split)<;>simp[pk,kbh,Option.bind_assoc]
 ·obtain⟨g,e⟩:=kic
  (repeat' split)<;>simp[e,pk,kbh,Option.bind_assoc]
 ·obtain⟨g,e⟩:=kic
  (repeat' split)<;>simp[e,pk,kbh,Option.bind_assoc]
 ·(repeat' split)<;>simp[pk,kbh,Option.bind_assoc]
 ·(repeat' split)<;>first | exact ok | simp[pk,kbh,Option.bind_assoc]
 ·exact ok
theorem kyc(rec:Rec)(o:Op)(ty:TypeId)(fr:Fr)(h:AH)(R:Type)(k:AV->AH->Option R):opP P rec o ty fr h k=(opP P rec o ty fr h pk).bind λp=>k p.1 p.2:=by
 have ok:=kbnt (P:=P) rec o ty fr h R k;unfold opP;split
 ·split
  ·(repeat' split)<;>simp[pk,kbh,Option.bind_assoc]
  ·exact ok
 ·obtain⟨g,e⟩:=kic;split
  ·(repeat' split)<;>simp[e,pk,kbh,Option.bind_assoc]
  ·exact ok
 ·exact ok
theorem kkq(rec:Rec)(o:Op)(ty:TypeId)(fr:Fr)(h:AH)(R:Type)(k:AV->AH->Option R):opX P rec o ty fr h k=(opX P rec o ty fr h pk).bind λp=>k p.1 p.2:=by unfold opX;rw[kbh,kz9 rec P o ty fr h R k,kyc rec o ty fr h R k]
theorem kyt{N:Nat}{d:Option Tmp}{v:AV}{fr:Fr}{R:Type}(k:Fr->Option R):putT N d v fr k=(putT N d v fr some).bind k:=by
 simp only[ki1];split
 ·rfl
 ·rw[kbh];rfl
@[reducible] def pf:Fr->AH->Option (Fr×AH):=λfr h=>some (fr,h)
theorem kwe(rec:Rec){N:Nat}{ops:Array Oper}{R:Type}(k:Fr->AH->Option R):∀(is:List Nat)(fr:Fr)(h:AH),opsK P rec N ops is fr h k=(opsK P rec N ops is fr h pf).bind λp=>k p.1 p.2
 | [],fr,h=>rfl
 | i::is,fr,h=>by
  have put:∀(d:Option Tmp)(v:AV)(fr:Fr)(h:AH),(putT N d v fr λy=>opsK P rec N ops is y h k)=(putT N d v fr λy=>opsK P rec N ops is y h pf).bind λp=>k p.1 p.2:=by intro d v fr h;rw[kyt,kyt (λy=>opsK P rec N ops is y h pf),Option.bind_assoc];congr 1;funext y;exact kwe rec k is y h
  have go:∀(o:Oper)(fr:Fr),(opX P rec o.op o.type fr h λv h'=>putT N o.dst v fr λy=>opsK P rec N ops is y h' k)=(opX P rec o.op o.type fr h λv h'=>putT N o.dst v fr λy=>opsK P rec N ops is y h' pf).bind λp=>k p.1 p.2:=by intro o fr;rw[kkq,kkq (k:=λv h'=>putT N o.dst v fr λy=>opsK P rec N ops is y h' pf),Option.bind_assoc];congr 1;funext q;exact put _ _ _ _
  simp only[opsK];split
  ·rfl
  ·split
   ·exact go _ _
   ·split
    ·rfl
    ·split
     ·rw[kbh,kbh,kbh,go,go,put,put]
     ·exact put _ _ _ _
     ·rfl
end Go.Ab
