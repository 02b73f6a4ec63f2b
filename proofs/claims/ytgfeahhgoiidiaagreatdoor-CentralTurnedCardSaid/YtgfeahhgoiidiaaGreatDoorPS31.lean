/- squeezed -/
import Derived.Test.YtgfeahhgoiidiaaGreatDoorPS2
import Derived.Test.YtgfeahhgoiidiaaGreatDoorU1
import Derived.Test.YtgfeahhgoiidiaaGreatDoorPAbsDra
import Derived.Test.YtgfeahhgoiidiaaGreatDoorPAbsS
set_option linter.unusedVariables false
set_option linter.unusedSimpArgs false
set_option linter.unusedSectionVars false

set_option maxRecDepth 10000
namespace Go.Ab
open Go.Proofs Go.Num
inductive ke6
 | fn (x1:List Nat) (a2:Int)
 | p4 (x1:List Nat) (a2:Int) (x3:List Nat) (a4:Int) (a5:Int)
abbrev kdy:=List Nat×Int
noncomputable def kj6(x1:List Nat)(a2:Int):Option (ke6⊕kdy) :=
 (mkI (List.length x1:Int) (List.length x1:Int)).bind fun m3=>some (.inl (.p4 x1 a2 (List.replicate m3 0) 0 (IntKind.wrap .i64 ((List.length x1:Int)-1))))
noncomputable def kg2(x1:List Nat)(a2:Int)(x3:List Nat)(a4 a5:Int):Option (ke6⊕kdy) :=
 cond (decide (a5≥0)) ((atI x1 a5).bind fun y7=>(div64P a4 ((y7:Int)) a2).bind fun p8=>(inI (List.length x3) a5).bind fun j9=>(u64P (p8.1)).bind fun w10=>some (.inl (.p4 x1 a2 (List.set x3 j9 w10) (p8.2) (IntKind.wrap .i64 (a5-1))))) (some (.inr (digs B (num B x3),a4)))
noncomputable def kqa:ke6→Option (ke6⊕kdy)
 | .fn x1 a2=>kj6 x1 a2
 | .p4 x1 a2 x3 a4 a5=>kg2 x1 a2 x3 a4 a5
@[reducible] def kwh(h0:AH)(r:kdy)(v:AV)(h':AH):Prop:=∃s1:Sl,v=.tup [s1.v,.int .u64 r.2]∧Nats h' s1 r.1∧Grow h0 h'∧Own h0 s1
def kkf(r:kdy):ke6→Prop
 | .fn x1 a2=>∀{h:AH}{a1:Sl},Nats h a1 x1→Runs (go (.fn F.kex [a1.v,.int .u64 a2]) h) (kwh h r)
 | .p4 x1 a2 x3 a4 a5=>∀{h0 h:AH}{a1:Sl}{a3:Sl}{i3:Nat},Grow h0 h→Nats h a1 x1→Vec h a3 i3 x3→h0.blks.size≤i3→Av a1 i3 x1→Runs (go (.pt F.kex Td.km3 [(0,a1.v),(1,.int .u64 a2),(6,a3.v),(7,.int .u64 a4),(8,.int .i64 a5)]) h) (kwh h0 r)
theorem k8u{r:kdy}{o:ke6⊕kdy}{x1:List Nat}{a2:Int}(e:kj6 x1 a2=some o)(good:GoodS (kkf r) r o):kkf r (.fn x1 a2):=by
 intro h a1 n1;rw[k6g];unfold kj6 at e;rw[n1.len];obtain⟨m3,q3,e⟩:=Option.bind_eq_some_iff.1 e;refine Runs.mk q3 ken fun s3 H3 v3 g3=>?_;cases e;exact good g3 (n1.grow g3) v3 (Nat.le_refl _) (Av.of_base n1 (Nat.le_refl _))
theorem k3f{r:kdy}{o:ke6⊕kdy}{x1:List Nat}{a2:Int}{x3:List Nat}{a4 a5:Int}(e:kg2 x1 a2 x3 a4 a5=some o)(good:GoodS (kkf r) r o):kkf r (.p4 x1 a2 x3 a4 a5):=by
 intro h0 h a1 a3 i3 g0 n1 v3 hi3 av1_3;rw[k30];unfold kg2 at e;rw[n1.len];rw[v3.nats.len];refine Runs.cond (fun k6=>?_) (fun k6=>?_)
 ·replace e:=(condT k6).symm.trans e;obtain⟨y7,q7,e⟩:=Option.bind_eq_some_iff.1 e;obtain⟨r7,j7,l7⟩:=n1.atI q7;refine Runs.step j7 ?_;refine Runs.step (rdc l7 (kb _ _)) ?_;obtain⟨p8,q8,e⟩:=Option.bind_eq_some_iff.1 e;obtain⟨H8,e8,g8⟩:=ksb q8;refine Runs.step e8 ?_;refine Runs.step rfl ?_;refine Runs.step (seen (kb _ _)) ?_;refine Runs.step (seen (kb _ _)) ?_;obtain⟨j9,q9,e⟩:=Option.bind_eq_some_iff.1 e;refine Runs.step ((v3.grow g8).idx rfl q9) ?_;obtain⟨w10,z10,e⟩:=Option.bind_eq_some_iff.1 e;refine Runs.vput (v3.grow g8) rfl q9 z10 fun H10 v10 u10=>?_;have n1_10:=(n1.grow g8).upda av1_3 u10;cases e;exact good ((g0.trans g8).updr hi3 u10) n1_10 v10 hi3 av1_3
 ·replace e:=(condF k6).symm.trans e;obtain⟨s7,e7,n7,o7⟩:=kc9 v3.nats;refine Runs.step e7 ?_;refine Runs.step (seen (asSl_v _)) ?_;cases e;cases good;exact Runs.ret ⟨s7,rfl,n7,g0,((o7 _ (v3.own hi3)).of_le (Grow.refl _))⟩
theorem k27{s:ke6}{r:kdy}(it:Iter kqa s r):kkf r s:=Iter.ind (fun s o e good=>by
 cases s with
 | fn x1 a2=>exact @k8u _ _ x1 a2 e good
 | p4 x1 a2 x3 a4 a5=>exact @k3f _ _ x1 a2 x3 a4 a5 e good
 ) it
inductive ke8
 | fn (x1:List Nat) (a2:Int)
 | p3 (a1:Int) (x2:List Nat) (x3:List Nat) (a4:Int) (a5:Int)
abbrev kds:=List Nat
noncomputable def kin(x1:List Nat)(a2:Int):Option (ke8⊕kds) :=
 (mkI (IntKind.wrap .i64 ((List.length x1:Int)+1)) (IntKind.wrap .i64 ((List.length x1:Int)+1))).bind fun m3=>some (.inl (.p3 a2 (List.replicate m3 0) x1 (List.length x1:Int) 0))
noncomputable def kec(a1:Int)(x2 x3:List Nat)(a4 a5:Int):Option (ke8⊕kds) :=
 cond (decide (a5<a4)) ((atI x3 a5).bind fun y7=>(inI (List.length x2) a5).bind fun j8=>cond (decide (a1<0)) (none) ((inI (List.length x2) a5).bind fun j10=>(u64P (ior .u64 (((List.getD x2 j8 0:Nat):Int)) (ishl .u64 ((y7:Int)) a1))).bind fun w11=>cond (decide (a1>0)) (cond (decide ((IntKind.wrap .u64 (64-a1))<0)) (none) ((inI (List.length x2) (IntKind.wrap .i64 (a5+1))).bind fun j14=>(u64P (ishr .u64 ((y7:Int)) (IntKind.wrap .u64 (64-a1)))).bind fun w15=>some (.inl (.p3 a1 (List.set (List.set x2 j10 w11) j14 w15) x3 a4 (IntKind.wrap .i64 (a5+1)))))) (some (.inl (.p3 a1 (List.set x2 j10 w11) x3 a4 (IntKind.wrap .i64 (a5+1))))))) (some (.inr x2))
noncomputable def khw:ke8→Option (ke8⊕kds)
 | .fn x1 a2=>kin x1 a2
 | .p3 a1 x2 x3 a4 a5=>kec a1 x2 x3 a4 a5
@[reducible] def knq(h0:AH)(r:kds)(v:AV)(h':AH):Prop:=∃s1:Sl,∃j1:Nat,v=s1.v∧Vec h' s1 j1 r∧Grow h0 h'∧h0.blks.size≤j1
def kjz(r:kds):ke8→Prop
 | .fn x1 a2=>∀{h:AH}{a1:Sl},Nats h a1 x1→Runs (go (.fn F.kdu [a1.v,.int .u64 a2]) h) (knq h r)
 | .p3 a1 x2 x3 a4 a5=>∀{h0 h:AH}{a2:Sl}{a3:Sl}{i2:Nat},Grow h0 h→Vec h a2 i2 x2→Nats h a3 x3→h0.blks.size≤i2→Av a3 i2 x3→Runs (go (.pt F.kdu Td.kit [(1,.int .u64 a1),(5,a2.v),(12,a3.v),(13,.int .i64 a4),(14,.int .i64 a5)]) h) (knq h0 r)
theorem kba2{r:kds}{o:ke8⊕kds}{x1:List Nat}{a2:Int}(e:kin x1 a2=some o)(good:GoodS (kjz r) r o):kjz r (.fn x1 a2):=by
 intro h a1 n1;rw[kzj];unfold kin at e;rw[n1.len];obtain⟨m3,q3,e⟩:=Option.bind_eq_some_iff.1 e;refine Runs.mk q3 ken fun s3 H3 v3 g3=>?_;cases e;exact good g3 v3 (n1.grow g3) (Nat.le_refl _) (Av.of_base n1 (Nat.le_refl _))
theorem k7f{r:kds}{o:ke8⊕kds}{a1:Int}{x2 x3:List Nat}{a4 a5:Int}(e:kec a1 x2 x3 a4 a5=some o)(good:GoodS (kjz r) r o):kjz r (.p3 a1 x2 x3 a4 a5):=by
 intro h0 h a2 a3 i2 g0 v2 n3 hi2 av3_2;rw[k05];unfold kec at e;rw[v2.nats.len];rw[n3.len];refine Runs.cond (fun k6=>?_) (fun k6=>?_)
 ·replace e:=(condT k6).symm.trans e;obtain⟨y7,q7,e⟩:=Option.bind_eq_some_iff.1 e;obtain⟨r7,j7,l7⟩:=n3.atI q7;refine Runs.step j7 ?_;refine Runs.step (rdc l7 (kb _ _)) ?_;obtain⟨j8,q8,e⟩:=Option.bind_eq_some_iff.1 e;refine Runs.step (v2.idx rfl q8) ?_;refine Runs.step (v2.rd rfl q8 (kb _ _)) ?_;refine Runs.cond (fun k9=>?_) (fun k9=>?_)
  ·replace e:=(condT k9).symm.trans e;cases e
  ·replace e:=(condF k9).symm.trans e;obtain⟨j10,q10,e⟩:=Option.bind_eq_some_iff.1 e;refine Runs.step (v2.idx rfl q10) ?_;obtain⟨w11,z11,e⟩:=Option.bind_eq_some_iff.1 e;refine Runs.vput v2 rfl q10 z11 fun H11 v11 u11=>?_;have n3_11:=n3.upda av3_2 u11;refine Runs.cond (fun k12=>?_) (fun k12=>?_)
   ·replace e:=(condT k12).symm.trans e;refine Runs.cond (fun k13=>?_) (fun k13=>?_)
    ·replace e:=(condT k13).symm.trans e;cases e
    ·replace e:=(condF k13).symm.trans e;obtain⟨j14,q14,e⟩:=Option.bind_eq_some_iff.1 e;refine Runs.step (v11.idx (by simp only[List.length_set]) q14) ?_;obtain⟨w15,z15,e⟩:=Option.bind_eq_some_iff.1 e;refine Runs.vput v11 (by simp only[List.length_set]) q14 z15 fun H15 v15 u15=>?_;have n3_15:=n3_11.upda av3_2 u15;cases e;exact good ((g0.updr hi2 u11).updr hi2 u15) v15 n3_15 hi2 av3_2
   ·replace e:=(condF k12).symm.trans e;cases e;exact good (g0.updr hi2 u11) v11 n3_11 hi2 av3_2
 ·replace e:=(condF k6).symm.trans e;cases e;cases good;exact Runs.ret ⟨a2,i2,rfl,v2,g0,hi2⟩
theorem k98{s:ke8}{r:kds}(it:Iter khw s r):kjz r s:=Iter.ind (fun s o e good=>by
 cases s with
 | fn x1 a2=>exact @kba2 _ _ x1 a2 e good
 | p3 a1 x2 x3 a4 a5=>exact @k7f _ _ a1 x2 x3 a4 a5 e good
 ) it
theorem kvp{h:AH}{a1:Sl}{x1:List Nat}{a2:Int}(n1:Nats h a1 x1){r:kds}(q:runP khw (.fn x1 a2)=some r):Runs (go (.fn F.kdu [a1.v,.int .u64 a2]) h) (knq h r):=k98 (kp0 q) n1
inductive ke0
 | fn (a1:Int) (a2:Int) (a3:Int) (a4:Int) (a5:Int)
 | p4 (a1:Int) (a2:Int) (a3:Int) (a4:Int) (a5:Int)
abbrev kdn:=Int
noncomputable def kf6(a1 a2 a3 a4 a5:Int):Option (ke0⊕kdn) :=
 cond (decide (a1≥a4)) (some (.inr 18446744073709551615)) ((div64P a1 a2 a4).bind fun p7=>some (.inl (.p4 a3 a4 a5 (p7.1) (p7.2))))
noncomputable def kep(a1 a2 a3 a4 a5:Int):Option (ke0⊕kdn) :=
 cond (decide (((mul64 a4 a3).1)<a5)) (some (.inr a4)) (cond (decide (((mul64 a4 a3).1)=a5)) (cond (decide (((mul64 a4 a3).2)≤a1)) (some (.inr a4)) (cond (decide ((IntKind.wrap .u64 (a5+a2))<a5)) (some (.inr (IntKind.wrap .u64 (a4-1)))) (some (.inl (.p4 a1 a2 a3 (IntKind.wrap .u64 (a4-1)) (IntKind.wrap .u64 (a5+a2))))))) (cond (decide ((IntKind.wrap .u64 (a5+a2))<a5)) (some (.inr (IntKind.wrap .u64 (a4-1)))) (some (.inl (.p4 a1 a2 a3 (IntKind.wrap .u64 (a4-1)) (IntKind.wrap .u64 (a5+a2)))))))
noncomputable def kh0:ke0→Option (ke0⊕kdn)
 | .fn a1 a2 a3 a4 a5=>kf6 a1 a2 a3 a4 a5
 | .p4 a1 a2 a3 a4 a5=>kep a1 a2 a3 a4 a5
@[reducible] def kqs(h0:AH)(r:kdn)(v:AV)(h':AH):Prop:=v=.int .u64 r∧Grow h0 h'
def ki6(r:kdn):ke0→Prop
 | .fn a1 a2 a3 a4 a5=>∀{h:AH},Runs (go (.fn F.ker [.int .u64 a1,.int .u64 a2,.int .u64 a3,.int .u64 a4,.int .u64 a5]) h) (kqs h r)
 | .p4 a1 a2 a3 a4 a5=>∀{h0 h:AH},Grow h0 h→Runs (go (.pt F.ker Td.kjx [(2,.int .u64 a1),(3,.int .u64 a2),(4,.int .u64 a3),(11,.int .u64 a4),(12,.int .u64 a5)]) h) (kqs h0 r)
theorem k8v{r:kdn}{o:ke0⊕kdn}{a1 a2 a3 a4 a5:Int}(e:kf6 a1 a2 a3 a4 a5=some o)(good:GoodS (ki6 r) r o):ki6 r (.fn a1 a2 a3 a4 a5):=by
 intro h;rw[k4y];unfold kf6 at e;refine Runs.cond (fun k6=>?_) (fun k6=>?_)
 ·replace e:=(condT k6).symm.trans e;cases e;cases good;exact Runs.ret ⟨rfl,(Grow.refl _)⟩
 ·replace e:=(condF k6).symm.trans e;obtain⟨p7,q7,e⟩:=Option.bind_eq_some_iff.1 e;obtain⟨H7,e7,g7⟩:=ksb q7;refine Runs.step e7 ?_;refine Runs.step rfl ?_;refine Runs.step (seen (kb _ _)) ?_;refine Runs.step (seen (kb _ _)) ?_;cases e;exact good g7
theorem kzn{r:kdn}{o:ke0⊕kdn}{a1 a2 a3 a4 a5:Int}(e:kep a1 a2 a3 a4 a5=some o)(good:GoodS (ki6 r) r o):ki6 r (.p4 a1 a2 a3 a4 a5):=by
 intro h0 h g0;rw[k3x];unfold kep at e;refine Runs.step (ksf a4 a3) ?_;refine Runs.step rfl ?_;refine Runs.step (seen (kb _ _)) ?_;refine Runs.step (seen (kb _ _)) ?_;refine Runs.cond (fun k7=>?_) (fun k7=>?_)
 ·replace e:=(condT k7).symm.trans e;cases e;cases good;exact Runs.ret ⟨rfl,g0⟩
 ·replace e:=(condF k7).symm.trans e;refine Runs.cond (fun k8=>?_) (fun k8=>?_)
  ·replace e:=(condT k8).symm.trans e;refine Runs.cond (fun k9=>?_) (fun k9=>?_)
   ·replace e:=(condT k9).symm.trans e;cases e;cases good;exact Runs.ret ⟨rfl,g0⟩
   ·replace e:=(condF k9).symm.trans e;refine Runs.cond (fun k10=>?_) (fun k10=>?_)
    ·replace e:=(condT k10).symm.trans e;cases e;cases good;exact Runs.ret ⟨rfl,g0⟩
    ·replace e:=(condF k10).symm.trans e;cases e;exact good g0
  ·replace e:=(condF k8).symm.trans e;refine Runs.cond (fun k9=>?_) (fun k9=>?_)
   ·replace e:=(condT k9).symm.trans e;cases e;cases good;exact Runs.ret ⟨rfl,g0⟩
   ·replace e:=(condF k9).symm.trans e;cases e;exact good g0
theorem kbag{s:ke0}{r:kdn}(it:Iter kh0 s r):ki6 r s:=Iter.ind (fun s o e good=>by
 cases s with
 | fn a1 a2 a3 a4 a5=>exact @k8v _ _ a1 a2 a3 a4 a5 e good
 | p4 a1 a2 a3 a4 a5=>exact @kzn _ _ a1 a2 a3 a4 a5 e good
 ) it
theorem k3w{h:AH}  {a1 a2 a3 a4 a5:Int}  {r:kdn}(q:runP kh0 (.fn a1 a2 a3 a4 a5)=some r):Runs (go (.fn F.ker [.int .u64 a1,.int .u64 a2,.int .u64 a3,.int .u64 a4,.int .u64 a5]) h) (kqs h r):=kbag (kp0 q)
end Go.Ab

/- squeezed -/
set_option maxRecDepth 10000
namespace Go.Ab
open Go.Proofs Go.Num
def padD(b:Nat):Nat→Nat→List Nat
 | 0,_=>[]
 | k+1,n=>n%b::padD b k (n/b)
theorem kqr(b:Nat):∀k n,(padD b k n).length=k
 | 0,_=>rfl
 | k+1,n=>by simp[padD,kqr b k]
theorem ksa{b:Nat}(hb:0<b):∀k n,∀x∈padD b k n,x<b
 | 0,_=>by simp[padD]
 | k+1,n=>by
  intro x hx;rcases List.mem_cons.1 hx with rfl | hx
  ·exact Nat.mod_lt _ hb
  ·exact ksa hb k _ x hx
theorem kvm{b:Nat}(hb:0<b):∀(k n:Nat),n<b^k→num b (padD b k n)=n
 | 0,n,h=>by
  rw[Nat.pow_zero]at h;have:n=0:=by omega
  subst this;rfl
 | k+1,n,h=>by
  rw[padD,num,kvm hb k (n/b) (by rw[Nat.div_lt_iff_lt_mul hb,← Nat.pow_succ];exact h)];exact Nat.mod_add_div n b
theorem ksu{b:Nat}(hb:0<b):∀{zs:List Nat},(∀x∈zs,x<b)→padD b zs.length (num b zs)=zs
 | [],_=>rfl
 | z::zs,h=>by
  have hz:=h z (by simp);rw[List.length_cons,padD,num,Nat.add_mul_mod_self_left,Nat.mod_eq_of_lt hz,Nat.add_mul_div_left _ _ hb,Nat.div_eq_of_lt hz,Nat.zero_add,ksu hb fun x hx=>h x (by simp[hx])]
theorem Sl.v_inj{s t:Sl}(e:s.v=t.v):s=t:=by
 cases s;cases t;simp only[Sl.v,AV.slice.injEq]at e;simp only[Sl.mk.injEq];exact e
theorem ksm{h:AH}{s:Sl}{xs:List Nat}(n:Nats h s xs){i:Nat}(b:InB s i):∀(k:Nat),k≤xs.length→∃s',go (.pt F.kbr Td.kkk [(0,s.v),(3,.int .i64 (k:Int))]) h=some (s'.v,h)∧InB s' i
 | 0,hk=>by
  rw[kk7];obtain⟨s',e1,_,_⟩:=n.cut (l:=0) (n:=0) (Nat.le_refl _) hk;have b':=b.cut e1;simp at e1;simp only[Int.natCast_zero,gt_iff_lt,Int.lt_irrefl,decide_false,cond_false,e1,Option.bind_some];exact⟨s',rfl,b'⟩
 | k+1,hk=>by
  rw[kk7];obtain⟨r,e1,e2⟩:=n.at (i:=k) (by omega);have hs:=n.short;rw[kqb (by omega)];rw[show(decide (((k+1:Nat):Int)>0))=true from by rw[decide_eq_true_eq];omega];simp only[cond_true,e1,e2,Option.bind_some,kb];by_cases hx:xs[k]=0
  ·rw[hx,show(decide (((0:Nat):Int)=0))=true from rfl,cond_true];exact ksm n b k (by omega)
  ·obtain⟨s',e3,_,_⟩:=n.cut (l:=0) (n:=k+1) (by omega) hk;rw[show(decide (((xs[k]:Nat):Int)=0))=false from by rw[decide_eq_false_iff_not];omega];simp only[cond_false];rw[show cutSl s 0 ((k+1:Nat):Int) 1=some s' from e3];exact⟨s',rfl,b.cut e3⟩
theorem klu{h:AH}{s:Sl}{i:Nat}{xs:List Nat}(v:Vec h s i xs):∃s',go (.fn F.kbr [s.v]) h=some (s'.v,h)∧Nats h s' (digs B (num B xs))∧InB s' i:=by
 obtain⟨s',e,n,_⟩:=kc9 v.nats;obtain⟨s2,e2,b⟩:=ksm v.nats v.inB xs.length (Nat.le_refl _);rw[kpl,v.len,e2]at e;have:s2=s':=Sl.v_inj (Prod.mk.inj (Option.some.inj e)).1;subst this;exact⟨s2,by rw[kpl,v.len,e2],n,b⟩
theorem B0:0<B:=by decide
theorem kmc{a:Int}{x:Nat}{h:AH}(q:u64P a=some x):∃(s':Sl)(h':AH),go (.fn F.keb [.int .u64 a]) h=some (s'.v,h')∧Nats h' s' (digs B x)∧Grow h h'∧Own h s':=by
 obtain⟨rfl,hx⟩:=kw6 q;exact krs hx
theorem k5h{h:AH}{s t:Sl}{xs ys:List Nat}(n:Nats h s xs)(m:Nats h t ys)(c:xs.length≤1073741824∧ys.length≤xs.length∧num B ys≤num B xs) :
  ∃(s':Sl)(h':AH),go (.fn F.kc5 [s.v,t.v]) h=some (s'.v,h')∧Nats h' s' (padD B xs.length (num B xs-num B ys))∧Grow h h'∧Own h s':=by
 obtain⟨s',h',zs,e,n',g,o,v,l⟩:=kmv n m c.1 c.2.1 c.2.2;refine⟨s',h',e,?_,g,o⟩;rw[← v,← l,ksu B0 n'.lt];exact n'
end Go.Ab

/- squeezed -/
set_option maxRecDepth 10000
namespace Go.Ab
open Go.Proofs Go.Num
inductive kdg
 | fn (x1:List Nat) (x2:List Nat)
 | p6 (a1:Int) (x2:List Nat) (x3:List Nat) (a4:Int) (x5:List Nat) (a6:Int)
 | p10 (a1:Int) (x2:List Nat) (x3:List Nat) (a4:Int) (x5:List Nat) (a6:Int) (a7:Int) (x8:Nat×Nat)
 | p18 (a1:Int) (x2:List Nat) (x3:List Nat) (x4:List Nat) (a5:Int) (a6:Int)
abbrev kcf:=List Nat×List Nat
noncomputable def kiq(x1 x2:List Nat):Option (kdg⊕kcf) :=
 (atI x2 (IntKind.wrap .i64 ((List.length x2:Int)-1))).bind fun y3=>(need (0≤((y3:Int))∧((y3:Int))<18446744073709551616)).bind fun c4_0=>(runP khw (.fn x1 (IntKind.wrap .u64 (((64-bl (Int.toNat ((y3:Int))):Nat):Int))))).bind fun p5=>(runP khw (.fn x2 (IntKind.wrap .u64 (((64-bl (Int.toNat ((y3:Int))):Nat):Int))))).bind fun p6=>(mkI (IntKind.wrap .i64 ((List.length p5:Int)-(List.length (digs B (num B p6)):Int))) (IntKind.wrap .i64 ((List.length p5:Int)-(List.length (digs B (num B p6)):Int)))).bind fun m8=>some (.inl (.p6 (IntKind.wrap .u64 (((64-bl (Int.toNat ((y3:Int))):Nat):Int))) p5 (digs B (num B p6)) (List.length (digs B (num B p6)):Int) (List.replicate m8 0) (IntKind.wrap .i64 ((List.length (List.replicate m8 0):Int)-1))))
noncomputable def kgb(a1:Int)(x2 x3:List Nat)(a4:Int)(x5:List Nat)(a6:Int):Option (kdg⊕kcf) :=
 cond (decide (a6≥0)) ((inI (List.length x2) (IntKind.wrap .i64 (a6+a4))).bind fun j8=>(inI (List.length x2) (IntKind.wrap .i64 ((IntKind.wrap .i64 (a6+a4))-1))).bind fun j9=>(inI (List.length x2) (IntKind.wrap .i64 ((IntKind.wrap .i64 (a6+a4))-2))).bind fun j10=>(atI x3 (IntKind.wrap .i64 (a4-1))).bind fun y11=>(atI x3 (IntKind.wrap .i64 (a4-2))).bind fun y12=>(runP kh0 (.fn (((List.getD x2 j8 0:Nat):Int)) (((List.getD x2 j9 0:Nat):Int)) (((List.getD x2 j10 0:Nat):Int)) ((y11:Int)) ((y12:Int)))).bind fun p13=>(cutP (List.length x2) a6 (IntKind.wrap .i64 ((IntKind.wrap .i64 (a6+a4))+1))).bind fun p14=>some (.inl (.p10 a1 x2 x3 a4 x5 a6 p13 (p14.1,p14.2)))) ((mkI (List.length (digs B (num B x2)):Int) (List.length (digs B (num B x2)):Int)).bind fun m9=>some (.inl (.p18 a1 x5 (digs B (num B x2)) (List.replicate m9 0) (List.length (digs B (num B x2)):Int) 0)))
noncomputable def kf7(a1:Int)(x2 x3:List Nat)(a4:Int)(x5:List Nat)(a6 a7:Int)(x8:Nat×Nat):Option (kdg⊕kcf) :=
 (u64P a7).bind fun p9=>(need (List.length x3+List.length (digs B p9)≤8796093022208)).bind fun c10_0=>(need (List.length (List.take x8.2 (List.drop x8.1 x2))≤8796093022208)).bind fun c11_0=>(need (Trim (digs B (num B (List.take x8.2 (List.drop x8.1 x2)))))).bind fun c13_0=>(need (Trim (digs B (num B x3*num B (digs B p9))))).bind fun c13_1=>cond (decide ((cmp (num B (digs B (num B (List.take x8.2 (List.drop x8.1 x2))))) (num B (digs B (num B x3*num B (digs B p9)))))≥0)) ((need (List.length (List.take x8.2 (List.drop x8.1 x2))≤1073741824∧List.length (digs B (num B x3*num B (digs B p9)))≤List.length (List.take x8.2 (List.drop x8.1 x2))∧num B (digs B (num B x3*num B (digs B p9)))≤num B (List.take x8.2 (List.drop x8.1 x2)))).bind fun c15_0=>(setW x2 x8.1 x8.2 (padD B (List.length (List.take x8.2 (List.drop x8.1 x2))) (num B (List.take x8.2 (List.drop x8.1 x2))-num B (digs B (num B x3*num B (digs B p9)))))).bind fun y16=>(inI (List.length x5) a6).bind fun j17=>(u64P a7).bind fun w18=>some (.inl (.p6 a1 y16 x3 a4 (List.set x5 j17 w18) (IntKind.wrap .i64 (a6-1))))) (some (.inl (.p10 a1 x2 x3 a4 x5 a6 (IntKind.wrap .u64 (a7-1)) (x8.1,x8.2))))
noncomputable def kdp(a1:Int)(x2 x3 x4:List Nat)(a5 a6:Int):Option (kdg⊕kcf) :=
 cond (decide (a6<a5)) ((atI x3 a6).bind fun y8=>cond (decide (a1<0)) (none) ((inI (List.length x4) a6).bind fun j10=>(u64P (ishr .u64 ((y8:Int)) a1)).bind fun w11=>cond (decide (a1>0)) (cond (decide ((IntKind.wrap .i64 (a6+1))<(List.length x3:Int))) ((inI (List.length x4) a6).bind fun j14=>(atI x3 (IntKind.wrap .i64 (a6+1))).bind fun y15=>cond (decide ((IntKind.wrap .u64 (64-a1))<0)) (none) ((inI (List.length x4) a6).bind fun j17=>(u64P (ior .u64 (((List.getD (List.set x4 j10 w11) j14 0:Nat):Int)) (ishl .u64 ((y15:Int)) (IntKind.wrap .u64 (64-a1))))).bind fun w18=>some (.inl (.p18 a1 x2 x3 (List.set (List.set x4 j10 w11) j17 w18) a5 (IntKind.wrap .i64 (a6+1)))))) (some (.inl (.p18 a1 x2 x3 (List.set x4 j10 w11) a5 (IntKind.wrap .i64 (a6+1)))))) (some (.inl (.p18 a1 x2 x3 (List.set x4 j10 w11) a5 (IntKind.wrap .i64 (a6+1))))))) (some (.inr (digs B (num B x2),digs B (num B x4))))
noncomputable def kh5:kdg→Option (kdg⊕kcf)
 | .fn x1 x2=>kiq x1 x2
 | .p6 a1 x2 x3 a4 x5 a6=>kgb a1 x2 x3 a4 x5 a6
 | .p10 a1 x2 x3 a4 x5 a6 a7 x8=>kf7 a1 x2 x3 a4 x5 a6 a7 x8
 | .p18 a1 x2 x3 x4 a5 a6=>kdp a1 x2 x3 x4 a5 a6
@[reducible] def klj(h0:AH)(r:kcf)(v:AV)(h':AH):Prop:=∃s1:Sl,∃s2:Sl,v=.tup [s1.v,s2.v]∧Nats h' s1 r.1∧Nats h' s2 r.2∧Grow h0 h'∧Own h0 s1∧Own h0 s2
def kej(r:kcf):kdg→Prop
 | .fn x1 x2=>∀{h:AH}{a1:Sl}{a2:Sl},Nats h a1 x1→Nats h a2 x2→Runs (go (.fn F.kb7 [a1.v,a2.v]) h) (klj h r)
 | .p6 a1 x2 x3 a4 x5 a6=>∀{h0 h:AH}{a2:Sl}{a3:Sl}{a5:Sl}{i2:Nat}{i5:Nat},Grow h0 h→Vec h a2 i2 x2→Nats h a3 x3→Vec h a5 i5 x5→h0.blks.size≤i2→h0.blks.size≤i5→Av a3 i2 x3→Av a3 i5 x3→i2≠i5→Runs (go (.pt F.kb7 Td.kk5 [(6,.int .u64 a1),(7,a2.v),(8,a3.v),(9,.int .i64 a4),(10,a5.v),(11,.int .i64 a6)]) h) (klj h0 r)
 | .p10 a1 x2 x3 a4 x5 a6 a7 x8=>∀{h0 h:AH}{a2:Sl}{a3:Sl}{a5:Sl}{a8:Sl}{i2:Nat}{i5:Nat},Grow h0 h→Vec h a2 i2 x2→Nats h a3 x3→Vec h a5 i5 x5→h0.blks.size≤i2→h0.blks.size≤i5→Win a8 i2 x8.1 x8.2→x8.1+x8.2≤List.length x2→Av a3 i2 x3→Av a3 i5 x3→i2≠i5→Runs (go (.pt F.kb7 Td.kmu [(6,.int .u64 a1),(7,a2.v),(8,a3.v),(9,.int .i64 a4),(10,a5.v),(11,.int .i64 a6),(12,.int .u64 a7),(13,a8.v)]) h) (klj h0 r)
 | .p18 a1 x2 x3 x4 a5 a6=>∀{h0 h:AH}{a2:Sl}{a3:Sl}{a4:Sl}{i2:Nat}{i4:Nat},Grow h0 h→Vec h a2 i2 x2→Nats h a3 x3→Vec h a4 i4 x4→h0.blks.size≤i2→h0.blks.size≤i4→Av a3 i2 x3→Av a3 i4 x3→i2≠i4→Runs (go (.pt F.kb7 Td.kg8 [(6,.int .u64 a1),(10,a2.v),(15,a3.v),(16,a4.v),(112,.int .i64 a5),(113,.int .i64 a6)]) h) (klj h0 r)
theorem k1n{r:kcf}{o:kdg⊕kcf}{x1 x2:List Nat}(e:kiq x1 x2=some o)(good:GoodS (kej r) r o):kej r (.fn x1 x2):=by
 intro h a1 a2 n1 n2;rw[k2j];unfold kiq at e;rw[n2.len];obtain⟨y3,q3,e⟩:=Option.bind_eq_some_iff.1 e;obtain⟨r3,j3,l3⟩:=n2.atI q3;refine Runs.step j3 ?_;refine Runs.step (rdc l3 (kb _ _)) ?_;obtain⟨c4_0,q4_0,e⟩:=Option.bind_eq_some_iff.1 e;refine Runs.step (kw0 ((y3:Int))  c4_0.down) ?_;refine Runs.step (seen (kb _ _)) ?_;obtain⟨p5,q5,e⟩:=Option.bind_eq_some_iff.1 e;obtain⟨_,H5,e5,s5,j5,rfl,n5,g5,o5⟩:=kvp n1 q5;refine Runs.step e5 ?_;refine Runs.step (seen (asSl_v _)) ?_;rw[n5.nats.len];obtain⟨p6,q6,e⟩:=Option.bind_eq_some_iff.1 e;obtain⟨_,H6,e6,s6,j6,rfl,n6,g6,o6⟩:=kvp (n2.grow g5) q6;refine Runs.step e6 ?_;refine Runs.step (seen (asSl_v _)) ?_;obtain⟨s7,e7,n7,i7⟩:=klu n6;refine Runs.step e7 ?_;refine Runs.step (seen (asSl_v _)) ?_;rw[n7.len];obtain⟨m8,q8,e⟩:=Option.bind_eq_some_iff.1 e;refine Runs.mk q8 ken fun s8 H8 v8 g8=>?_;rw[v8.nats.len];cases e;exact good ((g5.trans g6).trans g8) (n5.grow (g6.trans g8)) (n7.grow g8) v8 o5 (Nat.le_trans ((g5.trans g6)).size (Nat.le_refl _)) (Av.of_in i7 (Nat.ne_of_gt (Nat.lt_of_lt_of_le (n5).inn o6))) (Av.of_in i7 (Nat.ne_of_lt (Nat.lt_of_lt_of_le (n6).inn (Nat.le_refl _)))) (Nat.ne_of_lt (Nat.lt_of_lt_of_le ((n5.grow g6)).inn (Nat.le_refl _)))
theorem k7p{r:kcf}{o:kdg⊕kcf}{a1:Int}{x2 x3:List Nat}{a4:Int}{x5:List Nat}{a6:Int}(e:kgb a1 x2 x3 a4 x5 a6=some o)(good:GoodS (kej r) r o):kej r (.p6 a1 x2 x3 a4 x5 a6):=by
 intro h0 h a2 a3 a5 i2 i5 g0 v2 n3 v5 hi2 hi5 av3_2 av3_5 ne2_5;rw[k7e];unfold kgb at e;rw[v2.nats.len];rw[n3.len];refine Runs.cond (fun k7=>?_) (fun k7=>?_)
 ·replace e:=(condT k7).symm.trans e;obtain⟨j8,q8,e⟩:=Option.bind_eq_some_iff.1 e;refine Runs.step (v2.idx rfl q8) ?_;refine Runs.step (v2.rd rfl q8 (kb _ _)) ?_;obtain⟨j9,q9,e⟩:=Option.bind_eq_some_iff.1 e;refine Runs.step (v2.idx rfl q9) ?_;refine Runs.step (v2.rd rfl q9 (kb _ _)) ?_;obtain⟨j10,q10,e⟩:=Option.bind_eq_some_iff.1 e;refine Runs.step (v2.idx rfl q10) ?_;refine Runs.step (v2.rd rfl q10 (kb _ _)) ?_;obtain⟨y11,q11,e⟩:=Option.bind_eq_some_iff.1 e;obtain⟨r11,j11,l11⟩:=n3.atI q11;refine Runs.step j11 ?_;refine Runs.step (rdc l11 (kb _ _)) ?_;obtain⟨y12,q12,e⟩:=Option.bind_eq_some_iff.1 e;obtain⟨r12,j12,l12⟩:=n3.atI q12;refine Runs.step j12 ?_;refine Runs.step (rdc l12 (kb _ _)) ?_;obtain⟨p13,q13,e⟩:=Option.bind_eq_some_iff.1 e;obtain⟨_,H13,e13,rfl,g13⟩:=k3w q13;refine Runs.step e13 ?_;refine Runs.step (seen (kb _ _)) ?_;obtain⟨p14,q14,e⟩:=Option.bind_eq_some_iff.1 e;obtain⟨s14,e14,w14⟩:=(v2.grow g13).cutW rfl q14;refine Runs.step e14 ?_;cases e;exact good (g0.trans g13) (v2.grow g13) (n3.grow g13) (v5.grow g13) hi2 hi5 w14 (kr9 q14).2.2.2 av3_2 av3_5 ne2_5
 ·replace e:=(condF k7).symm.trans e;obtain⟨s8,e8,n8,i8⟩:=klu v2;refine Runs.step e8 ?_;refine Runs.step (seen (asSl_v _)) ?_;rw[n8.len];obtain⟨m9,q9,e⟩:=Option.bind_eq_some_iff.1 e;refine Runs.mk q9 ken fun s9 H9 v9 g9=>?_;cases e;exact good (g0.trans g9) (v5.grow g9) (n8.grow g9) v9 hi5 (Nat.le_trans (g0).size (Nat.le_refl _)) (Av.of_in i8 ne2_5) (Av.of_in i8 (Nat.ne_of_lt (Nat.lt_of_lt_of_le (v2).inn (Nat.le_refl _)))) (Nat.ne_of_lt (Nat.lt_of_lt_of_le (v5).inn (Nat.le_refl _)))
theorem k66{r:kcf}{o:kdg⊕kcf}{a1:Int}{x2 x3:List Nat}{a4:Int}{x5:List Nat}{a6 a7:Int}{x8:Nat×Nat}(e:kf7 a1 x2 x3 a4 x5 a6 a7 x8=some o)(good:GoodS (kej r) r o):kej r (.p10 a1 x2 x3 a4 x5 a6 a7 x8):=by
 intro h0 h a2 a3 a5 a8 i2 i5 g0 v2 n3 v5 hi2 hi5 w8 wl8 av3_2 av3_5 ne2_5;rw[kxe];unfold kf7 at e;rw[v5.nats.len];obtain⟨p9,q9,e⟩:=Option.bind_eq_some_iff.1 e;obtain⟨s9,H9,e9,n9,g9,o9⟩:=kmc q9;refine Runs.step e9 ?_;refine Runs.step (seen (asSl_v _)) ?_;obtain⟨c10_0,q10_0,e⟩:=Option.bind_eq_some_iff.1 e;obtain⟨s10,H10,e10,n10,g10,o10⟩:=kn0 (n3.grow g9) n9  c10_0.down;refine Runs.step e10 ?_;refine Runs.step (seen (asSl_v _)) ?_;obtain⟨c11_0,q11_0,e⟩:=Option.bind_eq_some_iff.1 e;obtain⟨s11,H11,e11,n11,g11,o11⟩:=ki9 (w8.nats (v2.grow (g9.trans g10)) wl8)  c11_0.down;refine Runs.step e11 ?_;refine Runs.step (seen (asSl_v _)) ?_;obtain⟨s12,e12,n12,o12⟩:=kc9 n11;refine Runs.step e12 ?_;refine Runs.step (seen (asSl_v _)) ?_;obtain⟨c13_0,q13_0,e⟩:=Option.bind_eq_some_iff.1 e;obtain⟨c13_1,q13_1,e⟩:=Option.bind_eq_some_iff.1 e;refine Runs.step (kl9 n12 (n10.grow g11)  c13_0.down c13_1.down) ?_;refine Runs.step (seen (kb _ _)) ?_;refine Runs.cond (fun k14=>?_) (fun k14=>?_)
 ·replace e:=(condT k14).symm.trans e;obtain⟨c15_0,q15_0,e⟩:=Option.bind_eq_some_iff.1 e;obtain⟨s15,H15,e15,n15,g15,o15⟩:=k5h (w8.nats (v2.grow ((g9.trans g10).trans g11)) wl8) (n10.grow g11)  c15_0.down;refine Runs.step e15 ?_;refine Runs.step (seen (asSl_v _)) ?_;obtain⟨y16,q16,e⟩:=Option.bind_eq_some_iff.1 e;have hl16:=ks3 q16;obtain⟨H16,e16,v16,u16⟩:=(v2.grow (((g9.trans g10).trans g11).trans g15)).copyW w8 n15 q16;refine Runs.step e16 ?_;have n3_16:=(n3.grow (((g9.trans g10).trans g11).trans g15)).upda av3_2 u16;have n9_16:=(n9.grow ((g10.trans g11).trans g15)).upda (Av.of_own o9 (v2).inn) u16;have n10_16:=(n10.grow (g11.trans g15)).upda (Av.of_own o10 ((v2.grow g9)).inn) u16;have n11_16:=(n11.grow g15).upda (Av.of_own o11 ((v2.grow (g9.trans g10))).inn) u16;have n12_16:=(n12.grow g15).upda (Av.of_own (o12 _ o11) ((v2.grow (g9.trans g10))).inn) u16;have n15_16:=n15.upda (Av.of_own o15 ((v2.grow ((g9.trans g10).trans g11))).inn) u16;have v5_16:=(v5.grow (((g9.trans g10).trans g11).trans g15)).updr (Ne.symm ne2_5) u16;obtain⟨j17,q17,e⟩:=Option.bind_eq_some_iff.1 e;refine Runs.step (v5_16.idx rfl q17) ?_;obtain⟨w18,z18,e⟩:=Option.bind_eq_some_iff.1 e;refine Runs.vput v5_16 rfl q17 z18 fun H18 v18 u18=>?_;have n3_18:=n3_16.upda av3_5 u18;have n9_18:=n9_16.upda (Av.of_own o9 (v5).inn) u18;have n10_18:=n10_16.upda (Av.of_own o10 ((v5.grow g9)).inn) u18;have n11_18:=n11_16.upda (Av.of_own o11 ((v5.grow (g9.trans g10))).inn) u18;have n12_18:=n12_16.upda (Av.of_own (o12 _ o11) ((v5.grow (g9.trans g10))).inn) u18;have n15_18:=n15_16.upda (Av.of_own o15 ((v5.grow ((g9.trans g10).trans g11))).inn) u18;have v16_18:=v16.updr ne2_5 u18;cases e;exact good ((((((g0.trans g9).trans g10).trans g11).trans g15).updr hi2 u16).updr hi5 u18) v16_18 n3_18 v18 hi2 hi5 av3_2 av3_5 ne2_5
 ·replace e:=(condF k14).symm.trans e;cases e;exact good (((g0.trans g9).trans g10).trans g11) (v2.grow ((g9.trans g10).trans g11)) (n3.grow ((g9.trans g10).trans g11)) (v5.grow ((g9.trans g10).trans g11)) hi2 hi5 w8 wl8 av3_2 av3_5 ne2_5
theorem k0z{r:kcf}{o:kdg⊕kcf}{a1:Int}{x2 x3 x4:List Nat}{a5 a6:Int}(e:kdp a1 x2 x3 x4 a5 a6=some o)(good:GoodS (kej r) r o):kej r (.p18 a1 x2 x3 x4 a5 a6):=by
 intro h0 h a2 a3 a4 i2 i4 g0 v2 n3 v4 hi2 hi4 av3_2 av3_4 ne2_4;rw[kx8];unfold kdp at e;rw[n3.len];rw[v4.nats.len];refine Runs.cond (fun k7=>?_) (fun k7=>?_)
 ·replace e:=(condT k7).symm.trans e;obtain⟨y8,q8,e⟩:=Option.bind_eq_some_iff.1 e;obtain⟨r8,j8,l8⟩:=n3.atI q8;refine Runs.step j8 ?_;refine Runs.step (rdc l8 (kb _ _)) ?_;refine Runs.cond (fun k9=>?_) (fun k9=>?_)
  ·replace e:=(condT k9).symm.trans e;cases e
  ·replace e:=(condF k9).symm.trans e;obtain⟨j10,q10,e⟩:=Option.bind_eq_some_iff.1 e;refine Runs.step (v4.idx rfl q10) ?_;obtain⟨w11,z11,e⟩:=Option.bind_eq_some_iff.1 e;refine Runs.vput v4 rfl q10 z11 fun H11 v11 u11=>?_;have n3_11:=n3.upda av3_4 u11;have v2_11:=v2.updr ne2_4 u11;refine Runs.cond (fun k12=>?_) (fun k12=>?_)
   ·replace e:=(condT k12).symm.trans e;refine Runs.cond (fun k13=>?_) (fun k13=>?_)
    ·replace e:=(condT k13).symm.trans e;obtain⟨j14,q14,e⟩:=Option.bind_eq_some_iff.1 e;refine Runs.step (v11.idx (by simp only[List.length_set]) q14) ?_;refine Runs.step (v11.rd (by simp only[List.length_set]) q14 (kb _ _)) ?_;obtain⟨y15,q15,e⟩:=Option.bind_eq_some_iff.1 e;obtain⟨r15,j15,l15⟩:=n3_11.atI q15;refine Runs.step j15 ?_;refine Runs.step (rdc l15 (kb _ _)) ?_;refine Runs.cond (fun k16=>?_) (fun k16=>?_)
     ·replace e:=(condT k16).symm.trans e;cases e
     ·replace e:=(condF k16).symm.trans e;obtain⟨j17,q17,e⟩:=Option.bind_eq_some_iff.1 e;refine Runs.step (v11.idx (by simp only[List.length_set]) q17) ?_;obtain⟨w18,z18,e⟩:=Option.bind_eq_some_iff.1 e;refine Runs.vput v11 (by simp only[List.length_set]) q17 z18 fun H18 v18 u18=>?_;have n3_18:=n3_11.upda av3_4 u18;have v2_18:=v2_11.updr ne2_4 u18;cases e;exact good ((g0.updr hi4 u11).updr hi4 u18) v2_18 n3_18 v18 hi2 hi4 av3_2 av3_4 ne2_4
    ·replace e:=(condF k13).symm.trans e;cases e;exact good (g0.updr hi4 u11) v2_11 n3_11 v11 hi2 hi4 av3_2 av3_4 ne2_4
   ·replace e:=(condF k12).symm.trans e;cases e;exact good (g0.updr hi4 u11) v2_11 n3_11 v11 hi2 hi4 av3_2 av3_4 ne2_4
 ·replace e:=(condF k7).symm.trans e;obtain⟨s8,e8,n8,i8⟩:=klu v2;refine Runs.step e8 ?_;refine Runs.step (seen (asSl_v _)) ?_;obtain⟨s9,e9,n9,i9⟩:=klu v4;refine Runs.step e9 ?_;refine Runs.step (seen (asSl_v _)) ?_;cases e;cases good;exact Runs.ret ⟨s8,s9,rfl,n8,n9,g0,((i8.own hi2).of_le (Grow.refl _)),((i9.own hi4).of_le (Grow.refl _))⟩
theorem k6j{s:kdg}{r:kcf}(it:Iter kh5 s r):kej r s:=Iter.ind (fun s o e good=>by
 cases s with
 | fn x1 x2=>exact @k1n _ _ x1 x2 e good
 | p6 a1 x2 x3 a4 x5 a6=>exact @k7p _ _ a1 x2 x3 a4 x5 a6 e good
 | p10 a1 x2 x3 a4 x5 a6 a7 x8=>exact @k66 _ _ a1 x2 x3 a4 x5 a6 a7 x8 e good
 | p18 a1 x2 x3 x4 a5 a6=>exact @k0z _ _ a1 x2 x3 x4 a5 a6 e good
 ) it
end Go.Ab

/- squeezed -/
set_option maxRecDepth 10000
namespace Go.Ab
open Go.Proofs Go.Num
theorem k6x{d q r r' x Q R:Nat}(h1:r*18446744073709551616+x=q*d+r')(h2:R=d*Q+r):x+18446744073709551616*R=d*(q+18446744073709551616*Q)+r':=by
 rw[h2,Nat.mul_add,Nat.mul_add];have e1:18446744073709551616*(d*Q)=d*(18446744073709551616*Q):=Nat.mul_left_comm _ _ _;rw[e1,Nat.mul_comm d q];omega
theorem kw3{o:List Nat}{i w:Nat}(h:i<o.length):(o.set i w).drop i=w::o.drop (i+1):=by
 rw[List.drop_eq_getElem_cons (by simpa using h),List.getElem_set_self,List.drop_set_of_lt (by omega)]
theorem ktg{xs:List Nat}{d:Nat}(lx:∀x∈xs,x<B)(hd:d<B)(hd0:0<d)(hl:xs.length≤8796093022208) :
  ∀(i:Nat)(o:List Nat)(r:Nat),i≤xs.length→o.length=xs.length→r<d→num B (xs.drop i)=d*num B (o.drop i)+r→
   Iter kqa (.p4 xs d o r ((i:Int)-1)) (digs B (num B xs/d),((num B xs%d:Nat):Int))
 | 0,o,r,hi,lo,hr,e=>by
  refine .done ?_;show kg2 _ _ _ _ _=_;unfold kg2;rw[List.drop_zero,List.drop_zero]at e;rw[condF (by rw[decide_eq_false_iff_not];omega),e,Nat.mul_add_div hd0,Nat.div_eq_of_lt hr,Nat.add_zero,Nat.mul_add_mod,Nat.mod_eq_of_lt hr]
 | i+1,o,r,hi,lo,hr,e=>by
  have hi':i<xs.length:=by omega
  have hio:i<o.length:=by omega
  have hx:=lx xs[i] (List.getElem_mem _);have hd':d<18446744073709551616:=hd;have hx':xs[i]<18446744073709551616:=hx
  have hq:(r*18446744073709551616+xs[i])/d<18446744073709551616:=by
   rw[Nat.div_lt_iff_lt_mul hd0];have:(r+1)*18446744073709551616≤d*18446744073709551616:=Nat.mul_le_mul_right _ hr;omega
  refine .next (s':=.p4 xs d (o.set i ((r*18446744073709551616+xs[i])/d)) ((r*18446744073709551616+xs[i])%d:Nat) ((i:Int)-1)) ?_ (ktg lx hd hd0 hl i _ _ (by omega) (by simpa using lo) (Nat.mod_lt _ hd0) ?_)
  ·show kg2 _ _ _ _ _=_;unfold kg2;rw[condT (by rw[decide_eq_true_eq];omega),show((i+1:Nat):Int)-1=(i:Int)from by omega,kco hi',Option.bind_some,kvr hd' hx' hr,Option.bind_some,kbd hio,Option.bind_some];dsimp only;rw[kbt hq,Option.bind_some,wrap64 (by omega) (by omega)]
  ·rw[kw3 hio,List.drop_eq_getElem_cons hi'];simp only[num];have dm:=Nat.div_add_mod (r*18446744073709551616+xs[i]) d;rw[Nat.mul_comm d]at dm;exact k6x dm.symm e
theorem k5i{xs:List Nat}{d:Nat}(lx:∀x∈xs,x<B)(hd:d<B)(hd0:0<d)(hl:xs.length≤8796093022208):Iter kqa (.fn xs d) (digs B (num B xs/d),((num B xs%d:Nat):Int)):=by
 refine .next (s':=.p4 xs d (List.replicate xs.length 0) ((0:Nat):Int) ((xs.length:Int)-1)) ?_ (ktg lx hd hd0 hl xs.length _ _ (Nat.le_refl _) (by simp) hd0 (by simp[num]));show kj6 _ _=_;unfold kj6;rw[kg0 hl,Option.bind_some,wrap64 (by omega) (by omega)];rfl
theorem k3t{h:AH}{s:Sl}{xs:List Nat}(n:Nats h s xs){d:Nat}(hd:d<B)(hd0:0<d)(hl:xs.length≤8796093022208):∃(s':Sl)(h':AH),go (.fn F.kex [s.v,.int .u64 (d:Int)]) h=some (.tup [s'.v,.int .u64 ((num B xs%d:Nat):Int)],h')∧Nats h' s' (digs B (num B xs/d))∧Grow h h'∧Own h s':=by
 obtain⟨_,h',e,s',rfl,n',g,o⟩:=k27 (k5i n.lt hd hd0 hl) n;exact⟨s',h',e,n',g,o⟩
theorem kv7(a b:Int):ior .u64 a b=ior .u64 b a:=by
 unfold ior;rw[BitVec.or_comm]
theorem k45{x n:Nat}(hx:x<18446744073709551616)(hn:n≤63):x*2^n%18446744073709551616=x%2^(64-n)*2^n∧x*2^n/18446744073709551616=x/2^(64-n)∧x/2^(64-n)<2^n∧x%2^(64-n)*2^n<18446744073709551616:=by
 have p:0<2^n:=Nat.pow_pos (by decide);have p2:0<2^(64-n):=Nat.pow_pos (by decide);have e:2^(64-n)*2^n=18446744073709551616:=by rw[← Nat.pow_add,show 64-n+n=64 from by omega]
 refine⟨?_,?_,?_,?_⟩
 ·rw[← e,Nat.mul_mod_mul_right]
 ·rw[← e,Nat.mul_div_mul_right _ _ p]
 ·rw[Nat.div_lt_iff_lt_mul p2,Nat.mul_comm,e];exact hx
 ·have:=Nat.mul_lt_mul_of_pos_right (Nat.mod_lt x p2) p;rw[e]at this;exact this
theorem up_alg{P c l hgh t n0 n1 n2 X:Nat}(h1:n1+P*c=n0+P*(l+c))(h2:n2+P*18446744073709551616*0=n1+P*18446744073709551616*hgh)(ht:t=hgh*18446744073709551616+l)(h3:n0=X):n2=X+P*t:=by
 rw[Nat.mul_add]at h1;rw[ht,Nat.mul_add,Nat.mul_comm hgh,← Nat.mul_assoc];omega
theorem kqg{xs:List Nat}{n:Nat}(lx:∀x∈xs,x<B)(hn:n≤63)(hl:xs.length<8796093022208) :
  ∀(d i:Nat)(o:List Nat),i+d=xs.length→o.length=xs.length+1→(∀y∈o,y<B)→Empty o (i+1)→(∀h:i<o.length,o[i]<2^n)→num B o=num B (xs.take i)*2^n→
   ∃r,Iter khw (.p3 n o xs xs.length i) r∧r.length=xs.length+1∧(∀y∈r,y<B)∧num B r=num B xs*2^n
 | 0,i,o,hi,lo,to,zo,ho,e=>by
  have hi:i=xs.length:=by omega
  subst hi;rw[List.take_length]at e;refine⟨o,.done ?_,lo,to,e⟩;show kec _ _ _ _ _=_;unfold kec;rw[condF (by rw[decide_eq_false_iff_not];omega)]
 | d+1,i,o,hi,lo,to,zo,ho,e=>by
  have hi':i<xs.length:=by omega
  have hio:i<o.length:=by omega
  have hx:xs[i]<18446744073709551616:=lx xs[i] (List.getElem_mem _);have hc:=ho hio;obtain⟨u1,u2,u3,u4⟩:=k45 hx hn;have shl:ishl .u64 (xs[i]:Int) (n:Int)=((xs[i]%2^(64-n)*2^n:Nat):Int):=by rw[kji _ _ (by omega),u1]
  have io:ior .u64 (o[i]:Int) ((xs[i]%2^(64-n)*2^n:Nat):Int)=((xs[i]%2^(64-n)*2^n+o[i]:Nat):Int):=by rw[kv7,kn1 u4 hc (by omega)]
  have hw:xs[i]%2^(64-n)*2^n+o[i]<18446744073709551616:=by
   have p:0<2^n:=Nat.pow_pos (by decide);have p2:0<2^(64-n):=Nat.pow_pos (by decide);have e:2^(64-n)*2^n=18446744073709551616:=by rw[← Nat.pow_add,show 64-n+n=64 from by omega]
   have:=Nat.mul_le_mul_right (2^n) (Nat.mod_lt xs[i] p2);rw[e,Nat.succ_mul]at this;omega
  generalize hlw:xs[i]%2^(64-n)*2^n=l at *
  have hset:i+1<(o.set i (l+o[i])).length:=by simp;omega
  have h1:=khe (b:=B) hio (l+o[i])
  have hz:(o.set i (l+o[i]))[i+1]=0:=by
   rw[List.getElem_set_ne (by omega)];exact zo _ (by omega) (by omega)
  have htot:xs[i]*2^n=xs[i]/2^(64-n)*18446744073709551616+l:=by
   have:=Nat.div_add_mod (xs[i]*2^n) 18446744073709551616;rw[u2,u1,Nat.mul_comm]at this;exact this.symm
  have htake:num B (xs.take (i+1))*2^n=num B (xs.take i)*2^n+B^i*(xs[i]*2^n):=by
   rw[kc3 B hi',Nat.add_mul,Nat.mul_assoc]
  have hB:xs[i]/2^(64-n)<18446744073709551616:=Nat.lt_of_le_of_lt (Nat.div_le_self _ _) hx;by_cases hn0:n=0
  ·
   have hh:xs[i]/2^(64-n)=0:=by
    subst hn0;rw[Nat.pow_zero]at u3;omega
   obtain⟨r,it,r1,r2,r3⟩:=kqg lx hn hl d (i+1) (o.set i (l+o[i])) (by omega) (by simpa using lo) (set_lt to hw) (by intro t ht hk;rw[List.getElem_set_ne (by omega)];exact zo t (by simpa using ht) (by omega)) (by intro ht;rw[hz];exact Nat.pow_pos (by decide)) (by
    rw[htake,htot,hh];exact up_alg (hgh:=0) h1 (by omega) rfl e)
   refine⟨r,.next ?_ it,r1,r2,r3⟩;show kec _ _ _ _ _=_;unfold kec;rw[condT (by rw[decide_eq_true_eq];omega),kco hi',Option.bind_some,kbd hio,Option.bind_some,condF (by rw[decide_eq_false_iff_not];omega),Option.bind_some,kdt hio,shl,io,kbt hw,Option.bind_some,condF (by rw[decide_eq_false_iff_not];omega),kq (by omega)]
  ·have h2:=khe (b:=B) hset (xs[i]/2^(64-n));rw[hz]at h2
   obtain⟨r,it,r1,r2,r3⟩:=kqg lx hn hl d (i+1) ((o.set i (l+o[i])).set (i+1) (xs[i]/2^(64-n))) (by omega) (by simpa using lo) (set_lt (set_lt to hw) hB) (by intro t ht hk;rw[List.getElem_set_ne (by omega),List.getElem_set_ne (by omega)];exact zo t (by simpa using ht) (by omega)) (by intro ht;rw[List.getElem_set_self];exact u3) (by
    rw[htake];rw[Nat.pow_succ]at h2;exact up_alg h1 h2 htot e)
   refine⟨r,.next ?_ it,r1,r2,r3⟩;have sh2:ishr .u64 (xs[i]:Int) ((64-n:Nat):Int)=((xs[i]/2^(64-n):Nat):Int):=by rw[kcg,Nat.min_eq_left (by omega)]
   have w64:IntKind.wrap .u64 (64-(n:Int))=((64-n:Nat):Int):=by rw[wrapU];omega
   show kec _ _ _ _ _=_;unfold kec;rw[condT (by rw[decide_eq_true_eq];omega),kco hi',Option.bind_some,kbd hio,Option.bind_some,condF (by rw[decide_eq_false_iff_not];omega),Option.bind_some,kdt hio,shl,io,kbt hw,Option.bind_some,condT (by rw[decide_eq_true_eq];omega),w64,condF (by rw[decide_eq_false_iff_not];omega),kq (by omega),kbd (by omega),Option.bind_some,sh2,kbt hB,Option.bind_some]
theorem krw{xs:List Nat}{n:Nat}(lx:∀x∈xs,x<B)(hn:n≤63)(hl:xs.length<8796093022208):∃r,Iter khw (.fn xs n) r∧r.length=xs.length+1∧(∀y∈r,y<B)∧num B r=num B xs*2^n:=by
 obtain⟨r,it,k⟩:=kqg lx hn hl xs.length 0 (List.replicate (xs.length+1) 0) (by omega) (by simp) (fun y hy=>by rw[List.eq_of_mem_replicate hy];exact B0) (fun t ht hk=>by simp) (fun ht=>by simp;exact Nat.pow_pos (by decide)) (by
  have:=kmi B [] (xs.length+1)
  simpa[num]using this)
 refine⟨r,.next ?_ it,k⟩;show kin _ _=_;unfold kin;rw[kq (by omega),kg0 (by omega),Option.bind_some];rfl
end Go.Ab

/- squeezed -/
set_option maxRecDepth 10000
namespace Go.Ab
open Go.Proofs Go.Num
theorem kn_hi2{b v1 v0 W r0 q r:Nat}(hv:0<v1*b+v0)(e:q*v1+r=W)(t:b*r+r0<q*v0):(W*b+r0)/(v1*b+v0)≤q-1∧1≤q:=by
 have h1:(W*b+r0)/(v1*b+v0)<q:=by
  rw[Nat.div_lt_iff_lt_mul hv,kn_mul (v:=v1*b+v0) rfl,← e,Nat.add_mul,Nat.mul_comm r b];omega
 generalize (W*b+r0)/(v1*b+v0)=k at *
 omega
theorem kwt{d1 d0 W r0:Nat}(h1:d1<18446744073709551616)(h1':0<d1)(h0:d0<18446744073709551616)(hr:r0<18446744073709551616) :
  ∀(q r:Nat),q*d1+r=W→q<18446744073709551616→r<18446744073709551616→(W*18446744073709551616+r0)/(d1*18446744073709551616+d0)≤q→
   ∃g:Nat,Iter kh0 (.p4 r0 d1 d0 q r) (g:Int)∧g<18446744073709551616∧(W*18446744073709551616+r0)/(d1*18446744073709551616+d0)≤g
 | q,r,e,hq,hrr,hge=>by
  have hm:mul64 (q:Int) (d0:Int)=(((q*d0/18446744073709551616:Nat):Int),((q*d0%18446744073709551616:Nat):Int)):=kus hq h0;by_cases c1:q*d0/18446744073709551616<r
  ·refine⟨q,.done ?_,hq,hge⟩;show kep _ _ _ _ _=_;unfold kep;rw[hm];dsimp only;rw[condT (by rw[decide_eq_true_eq];omega)]
  by_cases c2:q*d0/18446744073709551616=r∧q*d0%18446744073709551616≤r0
  ·refine⟨q,.done ?_,hq,hge⟩;show kep _ _ _ _ _=_;unfold kep;rw[hm];dsimp only;rw[condF (by rw[decide_eq_false_iff_not];omega),condT (by rw[decide_eq_true_eq];omega),condT (by rw[decide_eq_true_eq];omega)]
  have t:18446744073709551616*r+r0<q*d0:=by
   generalize q*d0=t at *
   omega
  obtain⟨k1,k2⟩:=kn_hi2 (by omega) e t;obtain⟨p,rfl⟩:∃p,q=p+1:=⟨q-1,by omega⟩;rw[Nat.add_sub_cancel]at k1
  have e':p*d1+(r+d1)=W:=by
   rw[Nat.add_mul,Nat.one_mul]at e;omega
  have w1:IntKind.wrap .u64 (((p+1:Nat):Int)-1)=(p:Int):=by rw[wrapU];omega
  have step:∀o,cond (decide ((IntKind.wrap .u64 ((r:Int)+(d1:Int)))<(r:Int))) (some (Sum.inr (α:=ke0) (p:Int))) (some (.inl (.p4 r0 d1 d0 p (IntKind.wrap .u64 ((r:Int)+(d1:Int))))))=o→kh0 (.p4 r0 d1 d0 ((p+1:Nat):Int) r)=o:=by
   intro o ho;show kep _ _ _ _ _=_;unfold kep;rw[hm];dsimp only;rw[w1,condF (by rw[decide_eq_false_iff_not];omega)];refine kkj (fun _=>?_) fun _=>ho;rw[condF (by rw[decide_eq_false_iff_not];rename_i h;rw[decide_eq_true_eq]at h;omega)];exact ho
  by_cases ho:r+d1<18446744073709551616
  ·have w2:IntKind.wrap .u64 ((r:Int)+(d1:Int))=((r+d1:Nat):Int):=by rw[wrapU];omega
   obtain⟨g,it,k3,k4⟩:=kwt h1 h1' h0 hr p (r+d1) e' (by omega) ho k1;refine⟨g,.next (step _ ?_) it,k3,k4⟩;rw[w2,condF (by rw[decide_eq_false_iff_not];omega)]
  ·have w2:IntKind.wrap .u64 ((r:Int)+(d1:Int))=((r+d1-18446744073709551616:Nat):Int):=by rw[wrapU];omega
   refine⟨p,.done (step _ ?_),by omega,k1⟩;rw[w2,condT (by rw[decide_eq_true_eq];omega)]
termination_by q=>q
theorem k8h{r2 r1 r0 d1 d0:Nat}(h2:r2<18446744073709551616)(hr1:r1<18446744073709551616)(hr:r0<18446744073709551616)(h1:d1<18446744073709551616)(h1':0<d1)(h0:d0<18446744073709551616) :
  ∃g:Nat,Iter kh0 (.fn r2 r1 r0 d1 d0) (g:Int)∧g<18446744073709551616∧(g=18446744073709551615∨((r2*18446744073709551616+r1)*18446744073709551616+r0)/(d1*18446744073709551616+d0)≤g):=by
 by_cases hc:d1≤r2
 ·refine⟨18446744073709551615,.done ?_,by omega,.inl rfl⟩;show kf6 _ _ _ _ _=_;unfold kf6;rw[condT (by rw[decide_eq_true_eq];omega)];rfl
 ·have hr2:r2<d1:=by omega
  have hq:(r2*18446744073709551616+r1)/d1<18446744073709551616:=by
   rw[Nat.div_lt_iff_lt_mul h1'];have:(r2+1)*18446744073709551616≤d1*18446744073709551616:=Nat.mul_le_mul_right _ hr2;omega
  have hm:=Nat.mod_lt (r2*18446744073709551616+r1) h1'
  have first:((r2*18446744073709551616+r1)*18446744073709551616+r0)/(d1*18446744073709551616+d0)≤(r2*18446744073709551616+r1)/d1:=by
   rw[Nat.le_div_iff_mul_le h1'];have h3:=Nat.div_mul_le_self ((r2*18446744073709551616+r1)*18446744073709551616+r0) (d1*18446744073709551616+d0);rw[kn_mul (v:=d1*18446744073709551616+d0) rfl]at h3
   have h4:((r2*18446744073709551616+r1)*18446744073709551616+r0)/(d1*18446744073709551616+d0)*d1*18446744073709551616<(r2*18446744073709551616+r1+1)*18446744073709551616:=by
    rw[Nat.add_mul _ 1];omega
   have:=Nat.lt_of_mul_lt_mul_right h4;omega
  obtain⟨g,it,k3,k4⟩:=kwt h1 h1' h0 hr ((r2*18446744073709551616+r1)/d1) ((r2*18446744073709551616+r1)%d1) (by rw[Nat.mul_comm];exact Nat.div_add_mod _ _) hq (by omega) first
  refine⟨g,.next ?_ it,k3,.inr k4⟩;show kf6 _ _ _ _ _=_;unfold kf6;rw[condF (by rw[decide_eq_false_iff_not];omega),kvr h1 hr1 hr2,Option.bind_some]
end Go.Ab

/- squeezed -/
set_option maxRecDepth 10000
namespace Go.Ab
open Go.Proofs Go.Num
theorem kkg{s:Nat}(hs:s≤64):2^(64-s)*2^s=18446744073709551616:=by rw[← Nat.pow_add,show 64-s+s=64 from by omega]
theorem k03{s:Nat}(hs:s≤64)(t:List Nat):num B t%2^s=t.getD 0 0%2^s:=by
 cases t with
 | nil=>rfl
 | cons x t =>
  show(x+B*num B t)%2^s=x%2^s
  have e:B*num B t=2^s*(2^(64-s)*num B t):=by
   rw[← Nat.mul_assoc,Nat.mul_comm (2^s),kkg hs]
  rw[e,Nat.add_mul_mod_self_left]
theorem kbaw{s x:Nat}(hs:s≤64)(t:List Nat):(x+B*num B t)/2^s=(t.getD 0 0%2^s*2^(64-s)+x/2^s)+B*(num B t/2^s):=by
 have p:0<2^s:=Nat.pow_pos (by decide);have hm:=k03 hs t;have dm:=Nat.div_add_mod (num B t) (2^s);rw[hm]at dm;generalize t.getD 0 0%2^s=z at *
 generalize num B t/2^s=q at *
 have e:x+B*num B t=x+2^s*(B*q+2^(64-s)*z):=by
  rw[← dm,Nat.mul_add,Nat.mul_add,Nat.mul_left_comm B,← Nat.mul_assoc (2^s) (2^(64-s)),Nat.mul_comm (2^s) (2^(64-s)),kkg hs]
 rw[e,Nat.add_mul_div_left _ _ p,Nat.mul_comm (2^(64-s))];omega
theorem k3o{s x z:Nat}(hs:s≤64)(hx:x<18446744073709551616):z%2^s*2^(64-s)+x/2^s<18446744073709551616∧x/2^s<2^(64-s)∧z%2^s*2^(64-s)<18446744073709551616:=by
 have p:0<2^s:=Nat.pow_pos (by decide);have e:=kkg hs;have h1:x/2^s<2^(64-s):=by rw[Nat.div_lt_iff_lt_mul p,e];exact hx
 have h2:=Nat.mul_le_mul_right (2^(64-s)) (Nat.mod_lt z p);rw[Nat.mul_comm (2^s),e,Nat.succ_mul]at h2;generalize x/2^s=f at *
 omega
theorem kmh{q L:List Nat}{s:Nat}(lL:∀x∈L,x<B)(hs:s≤63)(hl:L.length≤8796093022208) :
  ∀(d i:Nat)(o:List Nat),i+d=L.length→o.length=L.length→num B (o.take i)+B^i*(num B (L.drop i)/2^s)=num B L/2^s→
   Iter kh5 (.p18 s q L o L.length i) (digs B (num B q),digs B (num B L/2^s))
 | 0,i,o,hi,lo,e=>by
  have hi:i=L.length:=by omega
  subst hi;refine .done ?_;show kdp _ _ _ _ _ _=_;unfold kdp;rw[condF (by rw[decide_eq_false_iff_not];omega)];rw[List.take_of_length_le (by omega),List.drop_of_length_le (by omega)]at e;simp only[num,Nat.zero_div,Nat.mul_zero,Nat.add_zero]at e;rw[e]
 | d+1,i,o,hi,lo,e=>by
  have hi':i<L.length:=by omega
  have hio:i<o.length:=by omega
  have hx:L[i]<18446744073709551616:=lL L[i] (List.getElem_mem _);obtain⟨w1,w2,w3⟩:=k3o (z:=(L.drop (i+1)).getD 0 0) (show s≤64 by omega) hx;have hg:(L.drop (i+1)).getD 0 0=L.getD (i+1) 0:=by simp[List.getD]
  have inv:∀w,w=(L.drop (i+1)).getD 0 0%2^s*2^(64-s)+L[i]/2^s→num B ((o.set i w).take (i+1))+B^(i+1)*(num B (L.drop (i+1))/2^s)=num B L/2^s:=by
   intro w hw;rw[List.drop_eq_getElem_cons hi']at e;simp only[num]at e;rw[kbaw (by omega),← hw]at e;rw[kc3 B (by simpa using hio),List.getElem_set_self,List.take_set_of_le (Nat.le_refl i),Nat.pow_succ,Nat.mul_assoc];rw[Nat.mul_add]at e;omega
  have sr:ishr .u64 (L[i]:Int) (s:Int)=((L[i]/2^s:Nat):Int):=by rw[kcg,Nat.min_eq_left (by omega)]
  have hL0:L[i]/2^s<18446744073709551616:=Nat.lt_of_le_of_lt (Nat.div_le_self _ _) hx;by_cases hs0:s=0
  ·subst hs0;refine .next (s':=.p18 ((0:Nat):Int) q L (o.set i (L[i]/2^0)) L.length ((i+1:Nat):Int)) ?_ (kmh lL hs hl d (i+1) _ (by omega) (by simpa using lo) (inv _ (by rw[Nat.pow_zero,Nat.mod_one];omega)));show kdp _ _ _ _ _ _=_;unfold kdp;rw[condT (by rw[decide_eq_true_eq];omega),kco hi',Option.bind_some,condF (by rfl),kbd hio,Option.bind_some,sr,kbt hL0,Option.bind_some,condF (by rfl),kq (by omega)]
  by_cases hl1:i+1<L.length
  ·have hg':L.getD (i+1) 0=L[i+1]:=kdt hl1;rw[hg,hg']at w1 w3 inv;refine .next (s':=.p18 s q L (o.set i (L[i+1]%2^s*2^(64-s)+L[i]/2^s)) L.length ((i+1:Nat):Int)) ?_ (kmh lL hs hl d (i+1) _ (by omega) (by simpa using lo) (inv _ rfl));show kdp _ _ _ _ _ _=_;unfold kdp;have w64:IntKind.wrap .u64 (64-(s:Int))=((64-s:Nat):Int):=by rw[wrapU];omega
   have sl:ishl .u64 (L[i+1]:Int) ((64-s:Nat):Int)=((L[i+1]%2^s*2^(64-s):Nat):Int):=by
    rw[kji _ _ (by omega)];congr 1;rw[← kkg (show s≤64 by omega),Nat.mul_comm (2^(64-s)) (2^s),Nat.mul_mod_mul_right]
   have io:ior .u64 ((L[i]/2^s:Nat):Int) ((L[i+1]%2^s*2^(64-s):Nat):Int)=((L[i+1]%2^s*2^(64-s)+L[i]/2^s:Nat):Int):=by rw[kv7,kn1 w3 w2 (by omega)]
   have hio2:i<(o.set i (L[i]/2^s)).length:=by simpa using hio
   rw[condT (by rw[decide_eq_true_eq];omega),kco hi',Option.bind_some,condF (by rw[decide_eq_false_iff_not];omega),kbd hio,Option.bind_some,sr,kbt hL0,Option.bind_some,condT (by rw[decide_eq_true_eq];omega),kq (by omega),condT (by rw[decide_eq_true_eq];omega),Option.bind_some,kco hl1,Option.bind_some,w64,condF (by rw[decide_eq_false_iff_not];omega),Option.bind_some,kdt hio2,List.getElem_set_self,sl,io,kbt w1,Option.bind_some,List.set_set]
  ·have hg':L.getD (i+1) 0=0:=by simp[List.getD,List.getElem?_eq_none (Nat.le_of_not_lt hl1)]
   rw[hg,hg']at inv;refine .next (s':=.p18 s q L (o.set i (L[i]/2^s)) L.length ((i+1:Nat):Int)) ?_ (kmh lL hs hl d (i+1) _ (by omega) (by simpa using lo) (inv _ (by rw[Nat.zero_mod];omega)));show kdp _ _ _ _ _ _=_;unfold kdp;rw[condT (by rw[decide_eq_true_eq];omega),kco hi',Option.bind_some,condF (by rw[decide_eq_false_iff_not];omega),kbd hio,Option.bind_some,sr,kbt hL0,Option.bind_some,condT (by rw[decide_eq_true_eq];omega),kq (by omega),condF (by rw[decide_eq_false_iff_not];omega)]
theorem cmp_ge{a b:Nat}:cmp a b≥0↔b≤a:=by
 unfold cmp;by_cases h:a<b
 ·rw[if_pos h];omega
 ·rw[if_neg h];by_cases h2:a=b
  ·rw[if_pos h2];omega
  ·rw[if_neg h2];omega
theorem k3r{xs ys:List Nat}{lo n:Nat}(h:lo+n≤xs.length)(hy:ys.length=n):setW xs lo n ys=some (xs.take lo++ys++xs.drop (lo+n)):=by
 unfold setW;rw[if_pos ⟨h,hy⟩]
theorem kv9{s:Int}{r d q:List Nat}{j:Nat}{res:kcf}(hr:∀x∈r,x<B)(hd:∀x∈d,x<B)(hj:j<q.length)(hw:j+(d.length+1)≤r.length)(hrl:r.length≤1073741823)(hql:q.length≤1073741823)(hd0:0<num B d)
  (K:Iter kh5 (.p6 s (r.take j++padD B (d.length+1) (num B ((r.drop j).take (d.length+1))%num B d)++r.drop (j+(d.length+1))) d d.length (q.set j (num B ((r.drop j).take (d.length+1))/num B d)) ((j:Int)-1)) res) :
  ∀g:Nat,g<18446744073709551616→num B ((r.drop j).take (d.length+1))/num B d≤g→Iter kh5 (.p10 s r d d.length q j g (j,d.length+1)) res
 | g,hg,hge=>by
  have lw:((r.drop j).take (d.length+1)).length=d.length+1:=by simp;omega
  have tw:∀x∈(r.drop j).take (d.length+1),x<B:=fun x hx=>hr x (List.mem_of_mem_drop (List.mem_of_mem_take hx));have hP:=num_lt B1 tw;rw[lw]at hP
  have lg:(digs B g).length≤1:=by
   rw[kbv B2,Nat.pow_one];exact hg
  by_cases hc:num B d*g≤num B ((r.drop j).take (d.length+1))
  ·have hq:num B ((r.drop j).take (d.length+1))/num B d=g:=Nat.le_antisymm hge (by rw[Nat.le_div_iff_mul_le hd0,Nat.mul_comm];exact hc)
   have hm:num B ((r.drop j).take (d.length+1))-num B d*g=num B ((r.drop j).take (d.length+1))%num B d:=by
    have:=Nat.div_add_mod (num B ((r.drop j).take (d.length+1))) (num B d);rw[hq]at this;omega
   rw[hq]at K;refine .next ?_ K;show kf7 _ _ _ _ _ _ _ _=_;unfold kf7
   have lp:(digs B (num B d*g)).length≤d.length+1:=by
    rw[kbv B2];omega
   rw[kbt hg,Option.bind_some,kbq (by omega),Option.bind_some,kbq (by rw[lw];omega),Option.bind_some,kbq (khx B2 _),Option.bind_some,kbq (khx B2 _),Option.bind_some];dsimp only;rw[ks B2,ks B2,ks B2,condT (by rw[decide_eq_true_eq,cmp_ge];exact hc),kbq (by rw[lw];exact⟨by omega,lp,hc⟩),Option.bind_some,lw,hm,k3r (by omega) (kqr _ _ _),Option.bind_some,kbd hj,Option.bind_some,Option.bind_some,wrap64 (by omega) (by omega)]
  ·obtain⟨p,rfl⟩:∃p,g=p+1:=⟨g-1,by
    rcases Nat.eq_zero_or_pos g with e | e
    ·subst e;rw[Nat.mul_zero]at hc;omega
    ·omega⟩
   have hlt:num B ((r.drop j).take (d.length+1))/num B d<p+1:=by
    rw[Nat.div_lt_iff_lt_mul hd0,Nat.mul_comm];omega
   refine .next (s':=.p10 s r d d.length q j p (j,d.length+1)) ?_ (kv9 hr hd hj hw hrl hql hd0 K p (by omega) (by omega));show kf7 _ _ _ _ _ _ _ _=_;unfold kf7;rw[kbt hg,Option.bind_some,kbq (by omega),Option.bind_some,kbq (by rw[lw];omega),Option.bind_some,kbq (khx B2 _),Option.bind_some,kbq (khx B2 _),Option.bind_some];dsimp only;rw[ks B2,ks B2,ks B2,condF (by rw[decide_eq_false_iff_not,cmp_ge];exact hc),show IntKind.wrap .u64 (((p+1:Nat):Int)-1)=(p:Int)from by rw[wrapU];omega]
termination_by g=>g
end Go.Ab

/- squeezed -/
set_option maxRecDepth 10000
namespace Go.Ab
open Go.Proofs Go.Num
theorem k95{b:Nat}{zs:List Nat}{n:Nat}(h:zs.length=n+2):num b zs=num b (zs.take n)+b^n*(zs[n+1]*b+zs[n]):=by
 have e:num b zs=num b (zs.take (n+1+1)):=by rw[List.take_of_length_le (by omega)]
 rw[e,kc3 b (by omega),kc3 b (by omega),Nat.pow_succ,Nat.mul_add,Nat.mul_assoc,Nat.mul_comm b];omega
theorem kye{b:Nat}{zs:List Nat}{n:Nat}(h:zs.length=n+3):num b zs=num b (zs.take n)+b^n*((zs[n+2]*b+zs[n+1])*b+zs[n]):=by
 have e:num b zs=num b (zs.take (n+1+1+1)):=by rw[List.take_of_length_le (by omega)]
 rw[e,kc3 b (by omega),kc3 b (by omega),kc3 b (by omega)];have e1:b^(n+1)*zs[n+1]=b^n*(zs[n+1]*b):=by rw[Nat.pow_succ,Nat.mul_assoc,Nat.mul_comm b]
 have e2:b^(n+1+1)*zs[n+1+1]=b^n*(zs[n+2]*b*b):=by rw[Nat.pow_succ,Nat.pow_succ,Nat.mul_assoc,Nat.mul_assoc,Nat.mul_comm b,Nat.mul_comm b]
 rw[e1,e2,Nat.add_mul,Nat.mul_add,Nat.mul_add];omega
theorem top_le{E T D p e:Nat}(hp:p<E)(hD:0<D):(p+E*T)/(e+E*D)≤T/D:=by
 have hE:0<E:=by omega
 have hv:0<e+E*D:=by have:=Nat.mul_pos hE hD;omega
 have h1:T<(T/D+1)*D:=by rw[Nat.mul_comm];exact Nat.lt_mul_div_succ T hD
 have h2:E*(T+1)≤E*((T/D+1)*D):=Nat.mul_le_mul_left _ h1;rw[Nat.mul_add,Nat.mul_one]at h2
 have h3:(p+E*T)/(e+E*D)<T/D+1:=by
  rw[Nat.div_lt_iff_lt_mul hv,Nat.mul_add,Nat.mul_left_comm _ E D];omega
 omega
theorem k1u{dn P low Bj X Qh n1:Nat}(h1:n1+dn*(Bj*18446744073709551616)*Qh=X)(h2:n1=low+Bj*P):low+Bj*(P%dn)+dn*Bj*(P/dn+18446744073709551616*Qh)=X:=by
 have dm:=Nat.div_add_mod P dn;have e1:Bj*P=Bj*(dn*(P/dn))+Bj*(P%dn):=by rw[← Nat.mul_add,dm]
 have e2:dn*Bj*(P/dn)=Bj*(dn*(P/dn)):=by rw[Nat.mul_comm dn Bj,Nat.mul_assoc]
 have e3:dn*(Bj*18446744073709551616)*Qh=dn*Bj*(18446744073709551616*Qh):=by rw[← Nat.mul_assoc dn,Nat.mul_assoc (dn*Bj)]
 rw[Nat.mul_add,e2,← e3];omega
theorem kuc{s X m k:Nat}{d:List Nat}(hs:s≤63)(hk:d.length=k+2)(hd:∀x∈d,x<B)(ht:Trim d)(hm:m≤536870911)(hk2:k≤536870000) :
  ∀(i:Nat)(r q:List Nat),i≤m→r.length=m+(k+2)→q.length=m→(∀x∈r,x<B)→num B r+num B d*B^i*num B (q.drop i)=X→num B r<num B d*B^i→
   Iter kh5 (.p6 s r d d.length q ((i:Int)-1)) (digs B (X/num B d),digs B (X%num B d/2^s))
 | 0,r,q,hi,lr,lq,tr,e,lt=>by
  rw[List.drop_zero,Nat.pow_zero,Nat.mul_one]at e;rw[Nat.pow_zero,Nat.mul_one]at lt;have hd0:0<num B d:=by omega
  have hq:X/num B d=num B q:=by rw[← e,Nat.add_mul_div_left _ _ hd0,Nat.div_eq_of_lt lt,Nat.zero_add]
  have hr:X%num B d=num B r:=by rw[← e,Nat.add_mul_mod_self_left,Nat.mod_eq_of_lt lt]
  rw[hq,hr];have hl:=kiv tr;have key:=kmh (q:=q) (ksq B2 (num B r)) hs (by omega) (digs B (num B r)).length 0 (List.replicate (digs B (num B r)).length 0) (by omega) (by simp) (by simp[num]);rw[ks B2]at key;refine .next ?_ key;show kgb _ _ _ _ _ _=_;unfold kgb;rw[condF (by rw[decide_eq_false_iff_not];omega),kg0 (by omega),Option.bind_some];rfl
 | j+1,r,q,hi,lr,lq,tr,e,lt=>by
  have hd0:0<num B d:=by
   rcases Nat.eq_zero_or_pos (num B d)with h | h
   ·rw[h,Nat.zero_mul]at lt;omega
   ·exact h
  have hdB:=num_lt B1 hd;rw[hk]at hdB;have lw:((r.drop j).take (d.length+1)).length=k+3:=by simp;omega
  have tw:∀x∈(r.drop j).take (d.length+1),x<B:=fun x hx=>tr x (List.mem_of_mem_drop (List.mem_of_mem_take hx));have ltake:(r.take j).length=j:=by simp;omega
  have er:num B r=num B (r.take j)+B^j*num B ((r.drop j).take (d.length+1))+B^(j+(d.length+1))*num B (r.drop (j+(d.length+1))):=by
   have e1:num B r=num B (r.take j++((r.drop j).take (d.length+1)++(r.drop j).drop (d.length+1))):=by rw[List.take_append_drop,List.take_append_drop]
   rw[kel,kel,ltake,lw,List.drop_drop]at e1;have e3:j+(k+3)=j+(d.length+1):=by omega
   rw[e1,Nat.mul_add (B^j),← Nat.mul_assoc (B^j),← Nat.pow_add,e3];omega
  have hlow:=num_lt (b:=B) B1 (xs:=r.take j) fun x hx=>tr x (List.mem_of_mem_take hx);rw[ltake]at hlow
  have hrest:num B (r.drop (j+(d.length+1)))=0:=by
   rcases Nat.eq_zero_or_pos (num B (r.drop (j+(d.length+1))))with h | h
   ·exact h
   ·exfalso;have h1:B^(j+(d.length+1))*1≤B^(j+(d.length+1))*num B (r.drop (j+(d.length+1))):=Nat.mul_le_mul_left _ h;have h2:num B d*B^(j+1)≤B^(k+2)*B^(j+1):=Nat.mul_le_mul_right _ (by omega);rw[← Nat.pow_add,show k+2+(j+1)=j+(d.length+1)from by omega]at h2;omega
  rw[hrest,Nat.mul_zero,Nat.add_zero]at er
  have hP:num B ((r.drop j).take (d.length+1))<num B d*B:=by
   have h1:B^j*num B ((r.drop j).take (d.length+1))<B^j*(num B d*B):=by
    have:num B d*B^(j+1)=B^j*(num B d*B):=by rw[Nat.pow_succ,Nat.mul_left_comm]
    omega
   exact Nat.lt_of_mul_lt_mul_left h1
  have hq:num B ((r.drop j).take (d.length+1))/num B d<18446744073709551616:=by
   rw[Nat.div_lt_iff_lt_mul hd0,Nat.mul_comm];exact hP
  have i2:j+(k+2)<r.length:=by omega
  have i1:j+(k+1)<r.length:=by omega
  have i0:j+k<r.length:=by omega
  have g2:((r.drop j).take (d.length+1))[k+2]=r[j+(k+2)]:=by simp
  have g1:((r.drop j).take (d.length+1))[k+1]=r[j+(k+1)]:=by simp
  have g0:((r.drop j).take (d.length+1))[k]=r[j+k]:=by simp
  have top:=kye (b:=B) lw;rw[g2,g1,g0]at top;have topd:=k95 (b:=B) hk
  have hd1:0<d[k+1]:=by
   have hne:d≠[]:=by intro h;rw[h]at hk;simp at hk
   have:=ht hne;rw[List.getLast_eq_getElem]at this;have e:d.length-1=k+1:=by omega
   simp only[e]at this;omega
  have lpt:(((r.drop j).take (d.length+1)).take k).length=k:=by simp;omega
  have hpt:=num_lt (b:=B) B1 (xs:=((r.drop j).take (d.length+1)).take k) fun x hx=>tw x (List.mem_of_mem_take hx);rw[lpt]at hpt;have tl:=top_le (E:=B^k) (T:=(r[j+(k+2)]*B+r[j+(k+1)])*B+r[j+k]) (D:=d[k+1]*B+d[k]) (e:=num B (d.take k)) hpt (by have:1*B≤d[k+1]*B:=Nat.mul_le_mul_right _ hd1;have:=B0;omega);rw[← top,← topd]at tl;obtain⟨g,itg,hg1,hg2⟩:=k8h (r2:=r[j+(k+2)]) (r1:=r[j+(k+1)]) (r0:=r[j+k]) (d1:=d[k+1]) (d0:=d[k]) (tr _ (List.getElem_mem _)) (tr _ (List.getElem_mem _)) (tr _ (List.getElem_mem _)) (hd _ (List.getElem_mem _)) hd1 (hd _ (List.getElem_mem _))
  have hge:num B ((r.drop j).take (d.length+1))/num B d≤g:=by
   rcases hg2 with h | h
   ·omega
   ·exact Nat.le_trans tl h
  have hmod:=Nat.mod_lt (num B ((r.drop j).take (d.length+1))) hd0
  have hpd:num B (padD B (d.length+1) (num B ((r.drop j).take (d.length+1))%num B d))=num B ((r.drop j).take (d.length+1))%num B d:=by
   refine kvm B0 _ _ ?_;have:B^(k+2)≤B^(d.length+1):=Nat.pow_le_pow_right B1 (by omega);omega
  have nr:num B (r.take j++padD B (d.length+1) (num B ((r.drop j).take (d.length+1))%num B d)++r.drop (j+(d.length+1)))=num B (r.take j)+B^j*(num B ((r.drop j).take (d.length+1))%num B d):=by
   rw[kel,kel,hrest,Nat.mul_zero,Nat.add_zero,ltake,hpd]
  have hjq:j<q.length:=by omega
  have IH:=kuc (s:=s) (X:=X) hs hk hd ht hm hk2 j (r.take j++padD B (d.length+1) (num B ((r.drop j).take (d.length+1))%num B d)++r.drop (j+(d.length+1))) (q.set j (num B ((r.drop j).take (d.length+1))/num B d)) (by omega) (by simp[kqr];omega) (by simpa using lq) (by
    intro x hx;rcases List.mem_append.1 hx with hx | hx
    ·rcases List.mem_append.1 hx with hx | hx
     ·exact tr x (List.mem_of_mem_take hx)
     ·exact ksa B0 _ _ x hx
    ·exact tr x (List.mem_of_mem_drop hx)) (by
    rw[nr,kw3 hjq];simp only[num];rw[Nat.pow_succ]at e;exact k1u e er) (by
    rw[nr];have:B^j*(num B ((r.drop j).take (d.length+1))%num B d+1)≤B^j*num B d:=Nat.mul_le_mul_left _ hmod;rw[Nat.mul_add,Nat.mul_one,Nat.mul_comm _ (num B d)]at this;omega)
  refine .next (s':=.p10 s r d d.length q j g (j,d.length+1)) ?_ (kv9 tr hd hjq (by omega) (by omega) (by omega) hd0 IH g hg1 hge);show kgb _ _ _ _ _ _=_;unfold kgb;have w0:IntKind.wrap .i64 ((j:Int)+(d.length:Int))=((j+(k+2):Nat):Int):=by rw[wrap64 (by omega) (by omega)];omega
  rw[condT (by rw[decide_eq_true_eq];omega),show((j+1:Nat):Int)-1=(j:Int)from by omega,w0];rw[show IntKind.wrap .i64 (((j+(k+2):Nat):Int)-1)=((j+(k+1):Nat):Int)from by rw[wrap64 (by omega) (by omega)];omega];rw[show IntKind.wrap .i64 (((j+(k+2):Nat):Int)-2)=((j+k:Nat):Int)from by rw[wrap64 (by omega) (by omega)];omega];rw[show IntKind.wrap .i64 ((d.length:Int)-1)=((k+1:Nat):Int)from by rw[wrap64 (by omega) (by omega)];omega];rw[show IntKind.wrap .i64 ((d.length:Int)-2)=(k:Int)from by rw[wrap64 (by omega) (by omega)];omega];rw[show IntKind.wrap .i64 (((j+(k+2):Nat):Int)+1)=((j+(d.length+1):Nat):Int)from by rw[wrap64 (by omega) (by omega)];omega];rw[kbd i2,Option.bind_some,kbd i1,Option.bind_some,kbd i0,Option.bind_some,kco (by omega),Option.bind_some,kco (by omega),Option.bind_some,kdt i2,kdt i1,kdt i0,kj1 itg,Option.bind_some,k2s (by omega) (by omega),Option.bind_some]
end Go.Ab

/- squeezed -/
set_option maxRecDepth 10000
namespace Go.Ab
open Go.Proofs Go.Num
theorem kbam{xs ys:List Nat}(lx:∀x∈xs,x<B)(ly:∀x∈ys,x<B)(ty:Trim ys)(hy:2≤ys.length)(hxl:xs.length≤64)(hle:ys.length≤xs.length) :
  Iter kh5 (.fn xs ys) (digs B (num B xs/num B ys),digs B (num B xs%num B ys)):=by
 obtain⟨k,hk⟩:∃k,ys.length=k+2:=⟨ys.length-2,by omega⟩;have hky:k+1<ys.length:=by omega
 have hy0:0<ys[k+1]:=by
  have hne:ys≠[]:=by intro h;rw[h]at hk;simp at hk
  have:=ty hne;rw[List.getLast_eq_getElem]at this;have e:ys.length-1=k+1:=by omega
  simp only[e]at this;omega
 have hyB:ys[k+1]<18446744073709551616:=ly _ (List.getElem_mem _);obtain⟨hs,hb1,hb2⟩:=kv8 hyB hy0;obtain⟨r,itr,lr,tr,vr⟩:=krw (n:=64-bl ys[k+1]) lx hs (by omega);obtain⟨p,itp,lp,tp,vp⟩:=krw (n:=64-bl ys[k+1]) ly hs (by omega);have hs':64-bl ys[k+1]≤63:=hs;generalize hsd:64-bl ys[k+1]=s at *
 have ps:0<2^s:=Nat.pow_pos (by decide);have e64:=kkg (show s≤64 by omega)
 have eys:num B ys=num B (ys.take (k+1))+B^(k+1)*ys[k+1]:=by
  have:num B ys=num B (ys.take (k+1+1)):=by rw[List.take_of_length_le (by omega)]
  rw[this,kc3 B hky]
 have hlow:=num_lt (b:=B) B1 (xs:=ys.take (k+1)) fun x hx=>ly x (List.mem_of_mem_take hx);have hl1:(ys.take (k+1)).length=k+1:=by simp;omega
 rw[hl1]at hlow
 have y1:ys[k+1]+1≤2^(64-s):=by
  have:ys[k+1]<2^(64-s):=Nat.lt_of_mul_lt_mul_right (a:=2^s) (by rw[e64];exact hb2);omega
 have up:num B ys*2^s<B^(k+2):=by
  have h1:num B ys<B^(k+1)*(ys[k+1]+1):=by rw[Nat.mul_add,Nat.mul_one];omega
  have h2:B^(k+1)*(ys[k+1]+1)≤B^(k+1)*2^(64-s):=Nat.mul_le_mul_left _ y1;have h3:num B ys*2^s<B^(k+1)*2^(64-s)*2^s:=Nat.mul_lt_mul_of_pos_right (by omega) ps;rw[Nat.mul_assoc,e64]at h3;exact h3
 have lo:B^(k+1)*9223372036854775808≤num B ys*2^s:=by
  have h1:B^(k+1)*ys[k+1]≤num B ys:=by omega
  have h2:=Nat.mul_le_mul_right (2^s) h1;rw[Nat.mul_assoc]at h2;exact Nat.le_trans (Nat.mul_le_mul_left _ hb1) h2
 have ld:(digs B (num B p)).length=k+2:=by
  rw[vp];refine Nat.le_antisymm ((kbv B2 _ _).2 up) ?_;rcases Nat.lt_or_ge (digs B (num B ys*2^s)).length (k+2)with h | h
  ·have:=(kbv B2 (num B ys*2^s) (k+1)).1 (by omega);omega
  ·exact h
 have hX:num B r<num B p*B^(xs.length+1-(k+2)):=by
  rw[vr,vp];have h1:num B xs*2^s<B^xs.length*2^s:=Nat.mul_lt_mul_of_pos_right (num_lt B1 lx) ps;have h2:B^xs.length*2^s≤B^xs.length*9223372036854775808:=Nat.mul_le_mul_left _ (show 2^s≤2^63 from Nat.pow_le_pow_right (by decide) hs');have h3:=Nat.mul_le_mul_right (B^(xs.length+1-(k+2))) lo;rw[Nat.mul_right_comm,← Nat.pow_add,show k+1+(xs.length+1-(k+2))=xs.length from by omega]at h3;omega
 have key:=kuc (s:=s) (X:=num B xs*2^s) (m:=xs.length+1-(k+2)) (k:=k) (d:=digs B (num B p)) hs' ld (ksq B2 _) (khx B2 _) (by omega) (by omega) (xs.length+1-(k+2)) r (List.replicate (xs.length+1-(k+2)) 0) (Nat.le_refl _) (by rw[lr];omega) (by simp) tr (by simp[num,vr]) (by rw[ks B2];exact hX);rw[ks B2,vp,Nat.mul_div_mul_right _ _ ps,Nat.mul_mod_mul_right,Nat.mul_div_cancel _ ps]at key;refine .next ?_ key;show kiq _ _=_;unfold kiq;have w1:IntKind.wrap .i64 ((ys.length:Int)-1)=((k+1:Nat):Int):=by rw[wrap64 (by omega) (by omega)];omega
 have w2:IntKind.wrap .u64 ((s:Nat):Int)=(s:Int):=kes (by omega);have w3:IntKind.wrap .i64 ((r.length:Int)-((digs B (num B p)).length:Int))=((xs.length+1-(k+2):Nat):Int):=by rw[lr,ld,wrap64 (by omega) (by omega)];omega
 rw[w1,kco hky,Option.bind_some,kbq (by omega),Option.bind_some,Int.toNat_natCast,hsd,w2,kj1 itr,Option.bind_some,kj1 itp,Option.bind_some,w3,kg0 (by omega),Option.bind_some,← vp,List.length_replicate,wrap64 (by omega) (by omega)]
theorem k5m{h:AH}{s t:Sl}{xs ys:List Nat}(n:Nats h s xs)(m:Nats h t ys)(ty:Trim ys)(hy:2≤ys.length)(hxl:xs.length≤64)(hle:ys.length≤xs.length) :
  ∃(a b:Sl)(h':AH),go (.fn F.kb7 [s.v,t.v]) h=some (.tup [a.v,b.v],h')∧Nats h' a (digs B (num B xs/num B ys))∧Nats h' b (digs B (num B xs%num B ys))∧Grow h h'∧Own h a∧Own h b:=by
 obtain⟨_,h',e,a,b,rfl,k⟩:=k6j (kbam n.lt m.lt ty hy hxl hle) n m;exact⟨a,b,h',e,k⟩
end Go.Ab

/- squeezed -/
set_option maxRecDepth 10000
namespace Go.Ab
open Go.Proofs Go.Num
theorem kbbc{h:AH}{i:Nat}{a b:Sl}{xs ys:List Nat}(c:h.has i [a.v,b.v] T.kci)(n:Nats h a xs)(m:Nats h b ys):go (.fn F.ke4 [(⟨some (.new i 0),2,.is 2⟩:Sl).v]) h=some (.bool (rt xs&&rt ys),h):=by
 have r:Rows h ⟨some (.new i 0),2,.is 2⟩ [(a,xs),(b,ys)]:=⟨Cells.of_has c rfl,fun p hp=>by
  simp at hp;rcases hp with rfl | rfl
  ·exact n
  ·exact m,by simp⟩
 rw[kiy r];simp
theorem k86{h:AH}{s:Sl}{xs:List Nat}(n:Nats h s xs)(d:Int)(c:0<d∧d<18446744073709551616∧xs.length≤8796093022208):∃(s':Sl)(h':AH),go (.fn F.kex [s.v,.int .u64 d]) h=some (.tup [s'.v,.int .u64 ((num B xs%d.toNat:Nat):Int)],h')∧Nats h' s' (digs B (num B xs/d.toNat))∧Grow h h'∧Own h s':=by
 obtain⟨x,rfl⟩:∃x:Nat,d=(x:Int):=⟨d.toNat,by omega⟩;rw[Int.toNat_natCast];exact k3t n (show x<18446744073709551616 by omega) (by omega) c.2.2
end Go.Ab

/- squeezed -/
set_option maxRecDepth 10000
namespace Go.Ab
open Go.Proofs Go.Num
inductive khn
 | fn (x1:List Nat) (x2:List Nat)
 | no
abbrev kgq:=List Nat×List Nat×Int
noncomputable def kjp(x1 x2:List Nat):Option (khn⊕kgq) :=
 cond (!((rt x1&&rt x2))) (some (.inr ([],[],1))) (cond (decide ((List.length x2:Int)=0)) (some (.inr ([],[],3))) ((need (Trim x1)).bind fun c7_0=>(need (Trim x2)).bind fun c7_1=>cond (decide ((cmp (num B x1) (num B x2))<0)) ((need (List.length x1≤8796093022208)).bind fun c9_0=>some (.inr ([],x1,0))) (cond (decide ((List.length x2:Int)=1)) ((atI x2 0).bind fun y10=>(need (0<((y10:Int))∧((y10:Int))<18446744073709551616∧List.length x1≤8796093022208)).bind fun c11_0=>(u64P (((num B x1%Int.toNat ((y10:Int)):Nat):Int))).bind fun p12=>some (.inr (digs B (num B x1/Int.toNat ((y10:Int))),digs B p12,0))) ((need (Trim x2)).bind fun c10_0=>(need (2≤List.length x2)).bind fun c10_1=>(need (List.length x1≤64)).bind fun c10_2=>(need (List.length x2≤List.length x1)).bind fun c10_3=>some (.inr (digs B (num B x1/num B x2),digs B (num B x1%num B x2),0))))))
noncomputable def ktn:khn→Option (khn⊕kgq)
 | .fn x1 x2=>kjp x1 x2
 | .no=>none
@[reducible] def kzr(h0:AH)(r:kgq)(v:AV)(h':AH):Prop:=∃s1:Sl,∃s2:Sl,v=.tup [s1.v,s2.v,.int .i64 r.2.2]∧Nats h' s1 r.1∧Nats h' s2 r.2.1∧Grow h0 h'∧Own h0 s1∧Own h0 s2
def kpn(r:kgq):khn→Prop
 | .fn x1 x2=>∀{h:AH}{a1:Sl}{a2:Sl},Nats h a1 x1→Nats h a2 x2→Runs (go (.fn F.kf5 [a1.v,a2.v]) h) (kzr h r)
 | .no=>True
theorem k3s{r:kgq}{o:khn⊕kgq}{x1 x2:List Nat}(e:kjp x1 x2=some o)(good:GoodS (kpn r) r o):kpn r (.fn x1 x2):=by
 intro h a1 a2 n1 n2;rw[k1f];unfold kjp at e;rw[n2.len];refine Runs.new fun H3 b3 g3=>?_;refine Runs.step (kbbc b3 (n1.grow g3) (n2.grow g3)) ?_;refine Runs.step (seen rfl) ?_;refine Runs.cond (fun k5=>?_) (fun k5=>?_)
 ·replace e:=(condT k5).symm.trans e;cases e;cases good;exact Runs.ret ⟨(⟨none,0,.is 0⟩:Sl),(⟨none,0,.is 0⟩:Sl),rfl,(Nats.nil _),(Nats.nil _),g3,(Own.nil _),(Own.nil _)⟩
 ·replace e:=(condF k5).symm.trans e;refine Runs.cond (fun k6=>?_) (fun k6=>?_)
  ·replace e:=(condT k6).symm.trans e;cases e;cases good;exact Runs.ret ⟨(⟨none,0,.is 0⟩:Sl),(⟨none,0,.is 0⟩:Sl),rfl,(Nats.nil _),(Nats.nil _),g3,(Own.nil _),(Own.nil _)⟩
  ·replace e:=(condF k6).symm.trans e;obtain⟨c7_0,q7_0,e⟩:=Option.bind_eq_some_iff.1 e;obtain⟨c7_1,q7_1,e⟩:=Option.bind_eq_some_iff.1 e;refine Runs.step (kl9 (n1.grow g3) (n2.grow g3)  c7_0.down c7_1.down) ?_;refine Runs.step (seen (kb _ _)) ?_;refine Runs.cond (fun k8=>?_) (fun k8=>?_)
   ·replace e:=(condT k8).symm.trans e;obtain⟨c9_0,q9_0,e⟩:=Option.bind_eq_some_iff.1 e;obtain⟨s9,H9,e9,n9,g9,o9⟩:=ki9 (n1.grow g3)  c9_0.down;refine Runs.step e9 ?_;refine Runs.step (seen (asSl_v _)) ?_;cases e;cases good;exact Runs.ret ⟨(⟨none,0,.is 0⟩:Sl),s9,rfl,(Nats.nil _),n9,(g3.trans g9),(Own.nil _),(o9.of_le g3)⟩
   ·replace e:=(condF k8).symm.trans e;refine Runs.cond (fun k9=>?_) (fun k9=>?_)
    ·replace e:=(condT k9).symm.trans e;obtain⟨y10,q10,e⟩:=Option.bind_eq_some_iff.1 e;obtain⟨r10,j10,l10⟩:=(n2.grow g3).atI q10;refine Runs.step j10 ?_;refine Runs.step (rdc l10 (kb _ _)) ?_;obtain⟨c11_0,q11_0,e⟩:=Option.bind_eq_some_iff.1 e;obtain⟨s11,H11,e11,n11,g11,o11⟩:=k86 (n1.grow g3) ((y10:Int))  c11_0.down;refine Runs.step e11 ?_;refine Runs.step rfl ?_;refine Runs.step (seen (asSl_v _)) ?_;refine Runs.step (seen (kb _ _)) ?_;obtain⟨p12,q12,e⟩:=Option.bind_eq_some_iff.1 e;obtain⟨s12,H12,e12,n12,g12,o12⟩:=kmc q12;refine Runs.step e12 ?_;refine Runs.step (seen (asSl_v _)) ?_;cases e;cases good;exact Runs.ret ⟨s11,s12,rfl,(n11.grow g12),n12,((g3.trans g11).trans g12),(o11.of_le g3),(o12.of_le (g3.trans g11))⟩
    ·replace e:=(condF k9).symm.trans e;obtain⟨c10_0,q10_0,e⟩:=Option.bind_eq_some_iff.1 e;obtain⟨c10_1,q10_1,e⟩:=Option.bind_eq_some_iff.1 e;obtain⟨c10_2,q10_2,e⟩:=Option.bind_eq_some_iff.1 e;obtain⟨c10_3,q10_3,e⟩:=Option.bind_eq_some_iff.1 e;obtain⟨s10,s10b,H10,e10,n10,n10b,g10,o10,o10b⟩:=k5m (n1.grow g3) (n2.grow g3)  c10_0.down c10_1.down c10_2.down c10_3.down;refine Runs.step e10 ?_;refine Runs.step rfl ?_;refine Runs.step (seen (asSl_v _)) ?_;refine Runs.step (seen (asSl_v _)) ?_;cases e;cases good;exact Runs.ret ⟨s10,s10b,rfl,n10,n10b,(g3.trans g10),(o10.of_le g3),(o10b.of_le g3)⟩
theorem kyd{s:khn}{r:kgq}(it:Iter ktn s r):kpn r s:=Iter.ind (fun s o e good=>by
 cases s with
 | fn x1 x2=>exact @k3s _ _ x1 x2 e good
 | no=>exact True.intro
 ) it
end Go.Ab

/- squeezed -/
set_option maxRecDepth 10000
namespace Go.Ab
open Go.Proofs Go.Num
def divN(xs ys:List Nat):List Nat×List Nat×Int :=
 if rt xs=true∧rt ys=true then(if ys=[]then([],[],3)else(digs B (num B xs/num B ys),digs B (num B xs%num B ys),0))else([],[],1)
theorem kri{b:Nat}(hb:1≤b){xs:List Nat}(t:Trim xs)(h:xs≠[]):0<num b xs:=by
 rcases Nat.eq_zero_or_pos (num b xs)with e | e
 ·exact absurd (kp2 hb t e) h
 ·exact e
theorem cmp_lt{a b:Nat}:cmp a b<0↔a<b:=by
 unfold cmp;by_cases h:a<b
 ·rw[if_pos h];omega
 ·rw[if_neg h];by_cases h2:a=b
  ·rw[if_pos h2];omega
  ·rw[if_neg h2];omega
theorem kxf{xs ys:List Nat}(lx:∀x∈xs,x<B)(ly:∀x∈ys,x<B):Iter ktn (.fn xs ys) (divN xs ys):=by
 refine .done ?_;show kjp _ _=_;unfold kjp divN;cases hx:rt xs with
 | false=>simp
 | true =>
  cases hy:rt ys with
  | false=>simp
  | true =>
   obtain⟨lx64,tx⟩:=rt_iff.1 hx;obtain⟨ly64,ty⟩:=rt_iff.1 hy;simp only[Bool.and_self,Bool.not_true,cond_false,and_self,if_true];by_cases h0:ys=[]
   ·subst h0;rfl
   ·have hl:ys.length≠0:=by simpa using h0
    have hp:=kri B1 ty h0;rw[if_neg h0,condF (by rw[decide_eq_false_iff_not];omega),kbq tx,Option.bind_some,kbq ty,Option.bind_some];by_cases hc:num B xs<num B ys
    ·rw[condT (by rw[decide_eq_true_eq,cmp_lt];exact hc),kbq (by omega),Option.bind_some,Nat.div_eq_of_lt hc,Nat.mod_eq_of_lt hc,kc4,kff B2 lx tx]
    ·rw[condF (by rw[decide_eq_false_iff_not,cmp_lt];exact hc)];by_cases h1:ys.length=1
     ·obtain⟨y,rfl⟩:=List.length_eq_one_iff.1 h1;have hy:y<18446744073709551616:=ly y (by simp);have e:num B [y]=y:=by simp[num]
      rw[e]at hp⊢;have hm:=Nat.mod_lt (num B xs) hp;have a0:=kco (xs:=[y]) (i:=0) (by simp);rw[show((0:Nat):Int)=0 from rfl]at a0;rw[condT (by rw[decide_eq_true_eq];omega),a0,Option.bind_some];rw[List.getElem_cons_zero,kbq ⟨by omega,by omega,by omega⟩,Option.bind_some,Int.toNat_natCast,kbt (by omega),Option.bind_some]
     ·have hle:=kv2 lx ly ty (Nat.le_of_not_lt hc);rw[condF (by rw[decide_eq_false_iff_not];omega),Option.bind_some,kbq (by omega),Option.bind_some,kbq lx64,Option.bind_some,kbq hle,Option.bind_some]
theorem kma{h:AH}{s t:Sl}{xs ys:List Nat}(n:Nats h s xs)(m:Nats h t ys):∃(a b:Sl)(h':AH),go (.fn F.kf5 [s.v,t.v]) h=some (.tup [a.v,b.v,.int .i64 (divN xs ys).2.2],h')∧Nats h' a (divN xs ys).1∧Nats h' b (divN xs ys).2.1∧Grow h h'∧Own h a∧Own h b:=by
 obtain⟨_,h',e,a,b,rfl,k⟩:=kyd (kxf n.lt m.lt) n m;exact⟨a,b,h',e,k⟩
end Go.Ab

/- squeezed -/
set_option maxRecDepth 10000
namespace Go.Ab
open Go.Proofs Go.Num
end Go.Ab

/- squeezed -/
set_option maxRecDepth 10000
namespace Go.Ab
open Go.Proofs Go.Num
end Go.Ab

/- squeezed -/
set_option maxRecDepth 10000
namespace Go.Ab
open Go.Proofs Go.Num
inductive kfu
 | fn (x1:List Nat) (x2:List Nat)
 | p4 (x1:List Nat) (x2:List Nat)
abbrev kd8:=List Nat×Int
noncomputable def ked(x1 x2:List Nat):Option (kfu⊕kd8) :=
 cond (!(rt x1)) (some (.inr ([],1))) (cond (!(rt x2)) (some (.inr ([],1))) ((need (List.length x1≤8796093022208)).bind fun c7_0=>(need (List.length x2≤8796093022208)).bind fun c8_0=>some (.inl (.p4 x1 x2))))
noncomputable def kgh(x1 x2:List Nat):Option (kfu⊕kd8) :=
 cond (decide ((List.length x2:Int)>0)) (some (.inl (.p4 x2 ((divN x1 x2).2.1)))) (some (.inr (x1,0)))
noncomputable def kog:kfu→Option (kfu⊕kd8)
 | .fn x1 x2=>ked x1 x2
 | .p4 x1 x2=>kgh x1 x2
@[reducible] def kpc(h0:AH)(r:kd8)(v:AV)(h':AH):Prop:=∃s1:Sl,v=.tup [s1.v,.int .i64 r.2]∧Nats h' s1 r.1∧Grow h0 h'∧Own h0 s1
def kkc(r:kd8):kfu→Prop
 | .fn x1 x2=>∀{h:AH}{a1:Sl}{a2:Sl},Nats h a1 x1→Nats h a2 x2→Runs (go (.fn F.ke1 [a1.v,a2.v]) h) (kpc h r)
 | .p4 x1 x2=>∀{h0 h:AH}{a1:Sl}{a2:Sl},Grow h0 h→Nats h a1 x1→Nats h a2 x2→Own h0 a1→Own h0 a2→Runs (go (.pt F.ke1 Td.kle [(0,a1.v),(1,a2.v)]) h) (kpc h0 r)
theorem ky0{r:kd8}{o:kfu⊕kd8}{x1 x2:List Nat}(e:ked x1 x2=some o)(good:GoodS (kkc r) r o):kkc r (.fn x1 x2):=by
 intro h a1 a2 n1 n2;rw[k77];unfold ked at e;refine Runs.step (kfp n1) ?_;refine Runs.step (seen rfl) ?_;refine Runs.cond (fun k4=>?_) (fun k4=>?_)
 ·replace e:=(condT k4).symm.trans e;cases e;cases good;exact Runs.ret ⟨(⟨none,0,.is 0⟩:Sl),rfl,(Nats.nil _),(Grow.refl _),(Own.nil _)⟩
 ·replace e:=(condF k4).symm.trans e;refine Runs.step (kfp n2) ?_;refine Runs.step (seen rfl) ?_;refine Runs.cond (fun k6=>?_) (fun k6=>?_)
  ·replace e:=(condT k6).symm.trans e;cases e;cases good;exact Runs.ret ⟨(⟨none,0,.is 0⟩:Sl),rfl,(Nats.nil _),(Grow.refl _),(Own.nil _)⟩
  ·replace e:=(condF k6).symm.trans e;obtain⟨c7_0,q7_0,e⟩:=Option.bind_eq_some_iff.1 e;obtain⟨s7,H7,e7,n7,g7,o7⟩:=ki9 n1  c7_0.down;refine Runs.step e7 ?_;refine Runs.step (seen (asSl_v _)) ?_;obtain⟨c8_0,q8_0,e⟩:=Option.bind_eq_some_iff.1 e;obtain⟨s8,H8,e8,n8,g8,o8⟩:=ki9 (n2.grow g7)  c8_0.down;refine Runs.step e8 ?_;refine Runs.step (seen (asSl_v _)) ?_;cases e;exact good (g7.trans g8) (n7.grow g8) n8 (o7.of_le (Grow.refl _)) (o8.of_le g7)
theorem kxr{r:kd8}{o:kfu⊕kd8}{x1 x2:List Nat}(e:kgh x1 x2=some o)(good:GoodS (kkc r) r o):kkc r (.p4 x1 x2):=by
 intro h0 h a1 a2 g0 n1 n2 ow1 ow2;rw[k4w];unfold kgh at e;rw[n2.len];refine Runs.cond (fun k3=>?_) (fun k3=>?_)
 ·replace e:=(condT k3).symm.trans e;obtain⟨s4,s4b,H4,e4,n4,n4b,g4,o4,o4b⟩:=kma n1 n2;refine Runs.step e4 ?_;refine Runs.step rfl ?_;refine Runs.step (seen (asSl_v _)) ?_;refine Runs.step (seen (asSl_v _)) ?_;refine Runs.step (seen (kb _ _)) ?_;cases e;exact good (g0.trans g4) (n2.grow g4) n4b (ow2.of_le (Grow.refl _)) (o4b.of_le g0)
 ·replace e:=(condF k3).symm.trans e;cases e;cases good;exact Runs.ret ⟨a1,rfl,n1,g0,(ow1.of_le (Grow.refl _))⟩
theorem k6s{s:kfu}{r:kd8}(it:Iter kog s r):kkc r s:=Iter.ind (fun s o e good=>by
 cases s with
 | fn x1 x2=>exact @ky0 _ _ x1 x2 e good
 | p4 x1 x2=>exact @kxr _ _ x1 x2 e good
 ) it
inductive kha
 | fn (a1:Bool) (x2:List Nat) (a3:Bool) (x4:List Nat)
 | no
abbrev kg4:=Bool×List Nat×Bool×List Nat×Int
noncomputable def kiz(a1:Bool)(x2:List Nat)(a3:Bool)(x4:List Nat):Option (kha⊕kg4) :=
 cond (!((rtI a1 x2&&rtI a3 x4))) (some (.inr (false,[],false,[],1))) (cond (decide ((List.length x4:Int)=0)) (some (.inr (false,[],false,[],3))) (cond (a3) (some (.inr (false,[],false,[],1))) (cond (a1) (cond (decide ((List.length ((divN x2 x4).2.1):Int)>0)) ((u64P 1).bind fun p17=>cond (!decide (((addN ((divN x2 x4).1) (digs B p17)).2)=0)) (some (.inr (false,[],false,[],((addN ((divN x2 x4).1) (digs B p17)).2)))) (some (.inr ((((fromI a1 ((addN ((divN x2 x4).1) (digs B p17)).1)).1)),(fromI a1 ((addN ((divN x2 x4).1) (digs B p17)).1)).2,(((fromI false ((subN x4 ((divN x2 x4).2.1)).1)).1)),(fromI false ((subN x4 ((divN x2 x4).2.1)).1)).2,0)))) (some (.inr ((((fromI a1 ((divN x2 x4).1)).1)),(fromI a1 ((divN x2 x4).1)).2,(((fromI false ((divN x2 x4).2.1)).1)),(fromI false ((divN x2 x4).2.1)).2,0)))) (some (.inr ((((fromI a1 ((divN x2 x4).1)).1)),(fromI a1 ((divN x2 x4).1)).2,(((fromI false ((divN x2 x4).2.1)).1)),(fromI false ((divN x2 x4).2.1)).2,0))))))
noncomputable def kt7:kha→Option (kha⊕kg4)
 | .fn a1 x2 a3 x4=>kiz a1 x2 a3 x4
 | .no=>none
@[reducible] def ktz(h0:AH)(r:kg4)(v:AV)(h':AH):Prop:=∃s1:Sl,∃s2:Sl,v=.tup [.agg [.bool r.1,s1.v],.agg [.bool r.2.2.1,s2.v],.int .i64 r.2.2.2.2]∧Nats h' s1 r.2.1∧Nats h' s2 r.2.2.2.1∧Grow h0 h'∧Own h0 s1∧Own h0 s2
def kon(r:kg4):kha→Prop
 | .fn a1 x2 a3 x4=>∀{h:AH}{a2:Sl}{a4:Sl},Nats h a2 x2→Nats h a4 x4→Runs (go (.fn F.kna [.agg [.bool a1,a2.v],.agg [.bool a3,a4.v]]) h) (ktz h r)
 | .no=>True
theorem k56{r:kg4}{o:kha⊕kg4}{a1:Bool}{x2:List Nat}{a3:Bool}{x4:List Nat}(e:kiz a1 x2 a3 x4=some o)(good:GoodS (kon r) r o):kon r (.fn a1 x2 a3 x4):=by
 intro h a2 a4 n2 n4;rw[k9k];unfold kiz at e;refine Runs.new fun H5 b5 g5=>?_;refine Runs.new fun H6 b6 g6=>?_;refine Runs.new fun H7 b7 g7=>?_;refine Runs.new fun H8 b8 g8=>?_;refine Runs.step (AH.has.rd (((g6.trans g7).trans g8).has b5) 0 rfl rfl) ?_;refine Runs.step (AH.has.rd (((g6.trans g7).trans g8).has b5) 1 rfl (asSl_v _)) ?_;refine Runs.step (AH.has.rd ((g7.trans g8).has b6) 0 rfl rfl) ?_;refine Runs.step (AH.has.rd ((g7.trans g8).has b6) 1 rfl (asSl_v _)) ?_;refine Runs.new fun H9 b9 g9=>?_;obtain⟨H10,e10,g10⟩:=kls b9 (n2.grow ((((g5.trans g6).trans g7).trans g8).trans g9)) (n4.grow ((((g5.trans g6).trans g7).trans g8).trans g9));refine Runs.step e10 ?_;refine Runs.step (seen rfl) ?_;refine Runs.cond (fun k11=>?_) (fun k11=>?_)
 ·replace e:=(condT k11).symm.trans e;refine Runs.puts (((g8.trans g9).trans g10).has b7) rfl fun H12 b12 u12=>?_;have b8_12:=AH.has.updr ((g9.trans g10).has b8) (Nat.ne_of_gt (Nat.lt_of_lt_of_le (b7).lt (Nat.le_refl _))) u12;have b9_12:=AH.has.updr (g10.has b9) (Nat.ne_of_gt (Nat.lt_of_lt_of_le (g8.has b7).lt (Nat.le_refl _))) u12;refine Runs.puts b8_12 rfl fun H13 b13 u13=>?_;have b12_13:=AH.has.updr b12 (Nat.ne_of_lt (Nat.lt_of_lt_of_le (b7).lt (Nat.le_refl _))) u13;have b9_13:=AH.has.updr b9_12 (Nat.ne_of_gt (Nat.lt_of_lt_of_le (b8).lt (Nat.le_refl _))) u13;refine Runs.step (AH.has.rd b12_13 0 rfl rfl) ?_;refine Runs.step (AH.has.rd b12_13 1 rfl (asSl_v _)) ?_;refine Runs.step (AH.has.rd b13 0 rfl rfl) ?_;refine Runs.step (AH.has.rd b13 1 rfl (asSl_v _)) ?_;cases e;cases good;exact Runs.ret ⟨(⟨none,0,.is 0⟩:Sl),(⟨none,0,.is 0⟩:Sl),rfl,(Nats.nil _),(Nats.nil _),(((((((g5.trans g6).trans g7).trans g8).trans g9).trans g10).updr (Nat.le_trans ((g5.trans g6)).size (Nat.le_refl _)) u12).updr (Nat.le_trans (((g5.trans g6).trans g7)).size (Nat.le_refl _)) u13),(Own.nil _),(Own.nil _)⟩
 ·replace e:=(condF k11).symm.trans e;refine Runs.step (AH.has.rd ((((g7.trans g8).trans g9).trans g10).has b6) 1 rfl (asSl_v _)) ?_;rw[(n4.grow (((((g5.trans g6).trans g7).trans g8).trans g9).trans g10)).len];refine Runs.cond (fun k12=>?_) (fun k12=>?_)
  ·replace e:=(condT k12).symm.trans e;refine Runs.puts (((g8.trans g9).trans g10).has b7) rfl fun H13 b13 u13=>?_;have b8_13:=AH.has.updr ((g9.trans g10).has b8) (Nat.ne_of_gt (Nat.lt_of_lt_of_le (b7).lt (Nat.le_refl _))) u13;have b9_13:=AH.has.updr (g10.has b9) (Nat.ne_of_gt (Nat.lt_of_lt_of_le (g8.has b7).lt (Nat.le_refl _))) u13;refine Runs.puts b8_13 rfl fun H14 b14 u14=>?_;have b13_14:=AH.has.updr b13 (Nat.ne_of_lt (Nat.lt_of_lt_of_le (b7).lt (Nat.le_refl _))) u14;have b9_14:=AH.has.updr b9_13 (Nat.ne_of_gt (Nat.lt_of_lt_of_le (b8).lt (Nat.le_refl _))) u14;refine Runs.step (AH.has.rd b13_14 0 rfl rfl) ?_;refine Runs.step (AH.has.rd b13_14 1 rfl (asSl_v _)) ?_;refine Runs.step (AH.has.rd b14 0 rfl rfl) ?_;refine Runs.step (AH.has.rd b14 1 rfl (asSl_v _)) ?_;cases e;cases good;exact Runs.ret ⟨(⟨none,0,.is 0⟩:Sl),(⟨none,0,.is 0⟩:Sl),rfl,(Nats.nil _),(Nats.nil _),(((((((g5.trans g6).trans g7).trans g8).trans g9).trans g10).updr (Nat.le_trans ((g5.trans g6)).size (Nat.le_refl _)) u13).updr (Nat.le_trans (((g5.trans g6).trans g7)).size (Nat.le_refl _)) u14),(Own.nil _),(Own.nil _)⟩
  ·replace e:=(condF k12).symm.trans e;refine Runs.step (AH.has.rd ((((g7.trans g8).trans g9).trans g10).has b6) 0 rfl rfl) ?_;refine Runs.cond (fun k13=>?_) (fun k13=>?_)
   ·replace e:=(condT k13).symm.trans e;refine Runs.puts (((g8.trans g9).trans g10).has b7) rfl fun H14 b14 u14=>?_;have b8_14:=AH.has.updr ((g9.trans g10).has b8) (Nat.ne_of_gt (Nat.lt_of_lt_of_le (b7).lt (Nat.le_refl _))) u14;have b9_14:=AH.has.updr (g10.has b9) (Nat.ne_of_gt (Nat.lt_of_lt_of_le (g8.has b7).lt (Nat.le_refl _))) u14;refine Runs.puts b8_14 rfl fun H15 b15 u15=>?_;have b14_15:=AH.has.updr b14 (Nat.ne_of_lt (Nat.lt_of_lt_of_le (b7).lt (Nat.le_refl _))) u15;have b9_15:=AH.has.updr b9_14 (Nat.ne_of_gt (Nat.lt_of_lt_of_le (b8).lt (Nat.le_refl _))) u15;refine Runs.step (AH.has.rd b14_15 0 rfl rfl) ?_;refine Runs.step (AH.has.rd b14_15 1 rfl (asSl_v _)) ?_;refine Runs.step (AH.has.rd b15 0 rfl rfl) ?_;refine Runs.step (AH.has.rd b15 1 rfl (asSl_v _)) ?_;cases e;cases good;exact Runs.ret ⟨(⟨none,0,.is 0⟩:Sl),(⟨none,0,.is 0⟩:Sl),rfl,(Nats.nil _),(Nats.nil _),(((((((g5.trans g6).trans g7).trans g8).trans g9).trans g10).updr (Nat.le_trans ((g5.trans g6)).size (Nat.le_refl _)) u14).updr (Nat.le_trans (((g5.trans g6).trans g7)).size (Nat.le_refl _)) u15),(Own.nil _),(Own.nil _)⟩
   ·replace e:=(condF k13).symm.trans e;refine Runs.step (AH.has.rd (((((g6.trans g7).trans g8).trans g9).trans g10).has b5) 1 rfl (asSl_v _)) ?_;refine Runs.step (AH.has.rd ((((g7.trans g8).trans g9).trans g10).has b6) 1 rfl (asSl_v _)) ?_;obtain⟨s14,s14b,H14,e14,n14,n14b,g14,o14,o14b⟩:=kma (n2.grow (((((g5.trans g6).trans g7).trans g8).trans g9).trans g10)) (n4.grow (((((g5.trans g6).trans g7).trans g8).trans g9).trans g10));refine Runs.step e14 ?_;refine Runs.step rfl ?_;refine Runs.step (seen (asSl_v _)) ?_;refine Runs.step (seen (asSl_v _)) ?_;rw[n14b.len];refine Runs.step (seen (kb _ _)) ?_;refine Runs.step (AH.has.rd ((((((g6.trans g7).trans g8).trans g9).trans g10).trans g14).has b5) 0 rfl rfl) ?_;refine Runs.cond (fun k15=>?_) (fun k15=>?_)
    ·replace e:=(condT k15).symm.trans e;refine Runs.cond (fun k16=>?_) (fun k16=>?_)
     ·replace e:=(condT k16).symm.trans e;obtain⟨p17,q17,e⟩:=Option.bind_eq_some_iff.1 e;obtain⟨s17,H17,e17,n17,g17,o17⟩:=kmc q17;refine Runs.step e17 ?_;refine Runs.step (seen (asSl_v _)) ?_;obtain⟨s18,H18,e18,n18,g18,o18⟩:=kv4 (n14.grow g17) n17;refine Runs.step e18 ?_;refine Runs.step rfl ?_;refine Runs.step (seen (asSl_v _)) ?_;refine Runs.step (seen (kb _ _)) ?_;refine Runs.cond (fun k19=>?_) (fun k19=>?_)
      ·replace e:=(condT k19).symm.trans e;refine Runs.puts ((((((g8.trans g9).trans g10).trans g14).trans g17).trans g18).has b7) rfl fun H20 b20 u20=>?_;have n14_20:=(n14.grow (g17.trans g18)).upda (Av.of_own o14 (((g8.trans g9).trans g10).has b7).lt) u20;have n14b_20:=(n14b.grow (g17.trans g18)).upda (Av.of_own o14b (((g8.trans g9).trans g10).has b7).lt) u20;have n17_20:=(n17.grow g18).upda (Av.of_own o17 ((((g8.trans g9).trans g10).trans g14).has b7).lt) u20;have n18_20:=n18.upda (Av.of_own o18 (((((g8.trans g9).trans g10).trans g14).trans g17).has b7).lt) u20;have b8_20:=AH.has.updr (((((g9.trans g10).trans g14).trans g17).trans g18).has b8) (Nat.ne_of_gt (Nat.lt_of_lt_of_le (b7).lt (Nat.le_refl _))) u20;have b9_20:=AH.has.updr ((((g10.trans g14).trans g17).trans g18).has b9) (Nat.ne_of_gt (Nat.lt_of_lt_of_le (g8.has b7).lt (Nat.le_refl _))) u20;refine Runs.puts b8_20 rfl fun H21 b21 u21=>?_;have n14_21:=n14_20.upda (Av.of_own o14 ((g9.trans g10).has b8).lt) u21;have n14b_21:=n14b_20.upda (Av.of_own o14b ((g9.trans g10).has b8).lt) u21;have n17_21:=n17_20.upda (Av.of_own o17 (((g9.trans g10).trans g14).has b8).lt) u21;have n18_21:=n18_20.upda (Av.of_own o18 ((((g9.trans g10).trans g14).trans g17).has b8).lt) u21;have b20_21:=AH.has.updr b20 (Nat.ne_of_lt (Nat.lt_of_lt_of_le (b7).lt (Nat.le_refl _))) u21;have b9_21:=AH.has.updr b9_20 (Nat.ne_of_gt (Nat.lt_of_lt_of_le (b8).lt (Nat.le_refl _))) u21;refine Runs.step (AH.has.rd b20_21 0 rfl rfl) ?_;refine Runs.step (AH.has.rd b20_21 1 rfl (asSl_v _)) ?_;refine Runs.step (AH.has.rd b21 0 rfl rfl) ?_;refine Runs.step (AH.has.rd b21 1 rfl (asSl_v _)) ?_;cases e;cases good;exact Runs.ret ⟨(⟨none,0,.is 0⟩:Sl),(⟨none,0,.is 0⟩:Sl),rfl,(Nats.nil _),(Nats.nil _),((((((((((g5.trans g6).trans g7).trans g8).trans g9).trans g10).trans g14).trans g17).trans g18).updr (Nat.le_trans ((g5.trans g6)).size (Nat.le_refl _)) u20).updr (Nat.le_trans (((g5.trans g6).trans g7)).size (Nat.le_refl _)) u21),(Own.nil _),(Own.nil _)⟩
      ·replace e:=(condF k19).symm.trans e;refine Runs.step (AH.has.rd (((((((g7.trans g8).trans g9).trans g10).trans g14).trans g17).trans g18).has b6) 1 rfl (asSl_v _)) ?_;obtain⟨s20,H20,e20,n20,g20,o20⟩:=koj (n4.grow ((((((((g5.trans g6).trans g7).trans g8).trans g9).trans g10).trans g14).trans g17).trans g18)) (n14b.grow (g17.trans g18));refine Runs.step e20 ?_;refine Runs.step rfl ?_;refine Runs.step (seen (asSl_v _)) ?_;refine Runs.step (seen (kb _ _)) ?_;refine Runs.step (AH.has.rd (((((((((g6.trans g7).trans g8).trans g9).trans g10).trans g14).trans g17).trans g18).trans g20).has b5) 0 rfl rfl) ?_;obtain⟨s21,H21,e21,n21,g21,o21⟩:=kcx (n18.grow g20) a1;refine Runs.step e21 ?_;refine Runs.step rfl ?_;refine Runs.ifT rfl ?_;refine Runs.step (seenAt rfl rfl) ?_;refine Runs.step (seenAt rfl (asSl_v _)) ?_;obtain⟨s22,H22,e22,n22,g22,o22⟩:=kcx (n20.grow g21) false;refine Runs.step e22 ?_;refine Runs.step rfl ?_;refine Runs.ifT rfl ?_;refine Runs.step (seenAt rfl rfl) ?_;refine Runs.step (seenAt rfl (asSl_v _)) ?_;refine Runs.puts (((((((((g8.trans g9).trans g10).trans g14).trans g17).trans g18).trans g20).trans g21).trans g22).has b7) rfl fun H23 b23 u23=>?_;have n14_23:=(n14.grow ((((g17.trans g18).trans g20).trans g21).trans g22)).upda (Av.of_own o14 (((g8.trans g9).trans g10).has b7).lt) u23;have n14b_23:=(n14b.grow ((((g17.trans g18).trans g20).trans g21).trans g22)).upda (Av.of_own o14b (((g8.trans g9).trans g10).has b7).lt) u23;have n17_23:=(n17.grow (((g18.trans g20).trans g21).trans g22)).upda (Av.of_own o17 ((((g8.trans g9).trans g10).trans g14).has b7).lt) u23;have n18_23:=(n18.grow ((g20.trans g21).trans g22)).upda (Av.of_own o18 (((((g8.trans g9).trans g10).trans g14).trans g17).has b7).lt) u23;have n20_23:=(n20.grow (g21.trans g22)).upda (Av.of_own o20 ((((((g8.trans g9).trans g10).trans g14).trans g17).trans g18).has b7).lt) u23;have n21_23:=(n21.grow g22).upda (Av.of_own o21 (((((((g8.trans g9).trans g10).trans g14).trans g17).trans g18).trans g20).has b7).lt) u23;have n22_23:=n22.upda (Av.of_own o22 ((((((((g8.trans g9).trans g10).trans g14).trans g17).trans g18).trans g20).trans g21).has b7).lt) u23;have b8_23:=AH.has.updr ((((((((g9.trans g10).trans g14).trans g17).trans g18).trans g20).trans g21).trans g22).has b8) (Nat.ne_of_gt (Nat.lt_of_lt_of_le (b7).lt (Nat.le_refl _))) u23;have b9_23:=AH.has.updr (((((((g10.trans g14).trans g17).trans g18).trans g20).trans g21).trans g22).has b9) (Nat.ne_of_gt (Nat.lt_of_lt_of_le (g8.has b7).lt (Nat.le_refl _))) u23;refine Runs.puts b8_23 rfl fun H24 b24 u24=>?_;have n14_24:=n14_23.upda (Av.of_own o14 ((g9.trans g10).has b8).lt) u24;have n14b_24:=n14b_23.upda (Av.of_own o14b ((g9.trans g10).has b8).lt) u24;have n17_24:=n17_23.upda (Av.of_own o17 (((g9.trans g10).trans g14).has b8).lt) u24;have n18_24:=n18_23.upda (Av.of_own o18 ((((g9.trans g10).trans g14).trans g17).has b8).lt) u24;have n20_24:=n20_23.upda (Av.of_own o20 (((((g9.trans g10).trans g14).trans g17).trans g18).has b8).lt) u24;have n21_24:=n21_23.upda (Av.of_own o21 ((((((g9.trans g10).trans g14).trans g17).trans g18).trans g20).has b8).lt) u24;have n22_24:=n22_23.upda (Av.of_own o22 (((((((g9.trans g10).trans g14).trans g17).trans g18).trans g20).trans g21).has b8).lt) u24;have b23_24:=AH.has.updr b23 (Nat.ne_of_lt (Nat.lt_of_lt_of_le (b7).lt (Nat.le_refl _))) u24;have b9_24:=AH.has.updr b9_23 (Nat.ne_of_gt (Nat.lt_of_lt_of_le (b8).lt (Nat.le_refl _))) u24;refine Runs.step (AH.has.rd b23_24 0 rfl rfl) ?_;refine Runs.step (AH.has.rd b23_24 1 rfl (asSl_v _)) ?_;refine Runs.step (AH.has.rd b24 0 rfl rfl) ?_;refine Runs.step (AH.has.rd b24 1 rfl (asSl_v _)) ?_;cases e;cases good;exact Runs.ret ⟨s21,s22,rfl,n21_24,n22_24,(((((((((((((g5.trans g6).trans g7).trans g8).trans g9).trans g10).trans g14).trans g17).trans g18).trans g20).trans g21).trans g22).updr (Nat.le_trans ((g5.trans g6)).size (Nat.le_refl _)) u23).updr (Nat.le_trans (((g5.trans g6).trans g7)).size (Nat.le_refl _)) u24),(o21.of_le (((((((((g5.trans g6).trans g7).trans g8).trans g9).trans g10).trans g14).trans g17).trans g18).trans g20)),(o22.of_le ((((((((((g5.trans g6).trans g7).trans g8).trans g9).trans g10).trans g14).trans g17).trans g18).trans g20).trans g21))⟩
     ·replace e:=(condF k16).symm.trans e;refine Runs.step (AH.has.rd ((((((g6.trans g7).trans g8).trans g9).trans g10).trans g14).has b5) 0 rfl rfl) ?_;obtain⟨s17,H17,e17,n17,g17,o17⟩:=kcx n14 a1;refine Runs.step e17 ?_;refine Runs.step rfl ?_;refine Runs.ifT rfl ?_;refine Runs.step (seenAt rfl rfl) ?_;refine Runs.step (seenAt rfl (asSl_v _)) ?_;obtain⟨s18,H18,e18,n18,g18,o18⟩:=kcx (n14b.grow g17) false;refine Runs.step e18 ?_;refine Runs.step rfl ?_;refine Runs.ifT rfl ?_;refine Runs.step (seenAt rfl rfl) ?_;refine Runs.step (seenAt rfl (asSl_v _)) ?_;refine Runs.puts ((((((g8.trans g9).trans g10).trans g14).trans g17).trans g18).has b7) rfl fun H19 b19 u19=>?_;have n14_19:=(n14.grow (g17.trans g18)).upda (Av.of_own o14 (((g8.trans g9).trans g10).has b7).lt) u19;have n14b_19:=(n14b.grow (g17.trans g18)).upda (Av.of_own o14b (((g8.trans g9).trans g10).has b7).lt) u19;have n17_19:=(n17.grow g18).upda (Av.of_own o17 ((((g8.trans g9).trans g10).trans g14).has b7).lt) u19;have n18_19:=n18.upda (Av.of_own o18 (((((g8.trans g9).trans g10).trans g14).trans g17).has b7).lt) u19;have b8_19:=AH.has.updr (((((g9.trans g10).trans g14).trans g17).trans g18).has b8) (Nat.ne_of_gt (Nat.lt_of_lt_of_le (b7).lt (Nat.le_refl _))) u19;have b9_19:=AH.has.updr ((((g10.trans g14).trans g17).trans g18).has b9) (Nat.ne_of_gt (Nat.lt_of_lt_of_le (g8.has b7).lt (Nat.le_refl _))) u19;refine Runs.puts b8_19 rfl fun H20 b20 u20=>?_;have n14_20:=n14_19.upda (Av.of_own o14 ((g9.trans g10).has b8).lt) u20;have n14b_20:=n14b_19.upda (Av.of_own o14b ((g9.trans g10).has b8).lt) u20;have n17_20:=n17_19.upda (Av.of_own o17 (((g9.trans g10).trans g14).has b8).lt) u20;have n18_20:=n18_19.upda (Av.of_own o18 ((((g9.trans g10).trans g14).trans g17).has b8).lt) u20;have b19_20:=AH.has.updr b19 (Nat.ne_of_lt (Nat.lt_of_lt_of_le (b7).lt (Nat.le_refl _))) u20;have b9_20:=AH.has.updr b9_19 (Nat.ne_of_gt (Nat.lt_of_lt_of_le (b8).lt (Nat.le_refl _))) u20;refine Runs.step (AH.has.rd b19_20 0 rfl rfl) ?_;refine Runs.step (AH.has.rd b19_20 1 rfl (asSl_v _)) ?_;refine Runs.step (AH.has.rd b20 0 rfl rfl) ?_;refine Runs.step (AH.has.rd b20 1 rfl (asSl_v _)) ?_;cases e;cases good;exact Runs.ret ⟨s17,s18,rfl,n17_20,n18_20,((((((((((g5.trans g6).trans g7).trans g8).trans g9).trans g10).trans g14).trans g17).trans g18).updr (Nat.le_trans ((g5.trans g6)).size (Nat.le_refl _)) u19).updr (Nat.le_trans (((g5.trans g6).trans g7)).size (Nat.le_refl _)) u20),(o17.of_le ((((((g5.trans g6).trans g7).trans g8).trans g9).trans g10).trans g14)),(o18.of_le (((((((g5.trans g6).trans g7).trans g8).trans g9).trans g10).trans g14).trans g17))⟩
    ·replace e:=(condF k15).symm.trans e;refine Runs.step (AH.has.rd ((((((g6.trans g7).trans g8).trans g9).trans g10).trans g14).has b5) 0 rfl rfl) ?_;obtain⟨s16,H16,e16,n16,g16,o16⟩:=kcx n14 a1;refine Runs.step e16 ?_;refine Runs.step rfl ?_;refine Runs.ifT rfl ?_;refine Runs.step (seenAt rfl rfl) ?_;refine Runs.step (seenAt rfl (asSl_v _)) ?_;obtain⟨s17,H17,e17,n17,g17,o17⟩:=kcx (n14b.grow g16) false;refine Runs.step e17 ?_;refine Runs.step rfl ?_;refine Runs.ifT rfl ?_;refine Runs.step (seenAt rfl rfl) ?_;refine Runs.step (seenAt rfl (asSl_v _)) ?_;refine Runs.puts ((((((g8.trans g9).trans g10).trans g14).trans g16).trans g17).has b7) rfl fun H18 b18 u18=>?_;have n14_18:=(n14.grow (g16.trans g17)).upda (Av.of_own o14 (((g8.trans g9).trans g10).has b7).lt) u18;have n14b_18:=(n14b.grow (g16.trans g17)).upda (Av.of_own o14b (((g8.trans g9).trans g10).has b7).lt) u18;have n16_18:=(n16.grow g17).upda (Av.of_own o16 ((((g8.trans g9).trans g10).trans g14).has b7).lt) u18;have n17_18:=n17.upda (Av.of_own o17 (((((g8.trans g9).trans g10).trans g14).trans g16).has b7).lt) u18;have b8_18:=AH.has.updr (((((g9.trans g10).trans g14).trans g16).trans g17).has b8) (Nat.ne_of_gt (Nat.lt_of_lt_of_le (b7).lt (Nat.le_refl _))) u18;have b9_18:=AH.has.updr ((((g10.trans g14).trans g16).trans g17).has b9) (Nat.ne_of_gt (Nat.lt_of_lt_of_le (g8.has b7).lt (Nat.le_refl _))) u18;refine Runs.puts b8_18 rfl fun H19 b19 u19=>?_;have n14_19:=n14_18.upda (Av.of_own o14 ((g9.trans g10).has b8).lt) u19;have n14b_19:=n14b_18.upda (Av.of_own o14b ((g9.trans g10).has b8).lt) u19;have n16_19:=n16_18.upda (Av.of_own o16 (((g9.trans g10).trans g14).has b8).lt) u19;have n17_19:=n17_18.upda (Av.of_own o17 ((((g9.trans g10).trans g14).trans g16).has b8).lt) u19;have b18_19:=AH.has.updr b18 (Nat.ne_of_lt (Nat.lt_of_lt_of_le (b7).lt (Nat.le_refl _))) u19;have b9_19:=AH.has.updr b9_18 (Nat.ne_of_gt (Nat.lt_of_lt_of_le (b8).lt (Nat.le_refl _))) u19;refine Runs.step (AH.has.rd b18_19 0 rfl rfl) ?_;refine Runs.step (AH.has.rd b18_19 1 rfl (asSl_v _)) ?_;refine Runs.step (AH.has.rd b19 0 rfl rfl) ?_;refine Runs.step (AH.has.rd b19 1 rfl (asSl_v _)) ?_;cases e;cases good;exact Runs.ret ⟨s16,s17,rfl,n16_19,n17_19,((((((((((g5.trans g6).trans g7).trans g8).trans g9).trans g10).trans g14).trans g16).trans g17).updr (Nat.le_trans ((g5.trans g6)).size (Nat.le_refl _)) u18).updr (Nat.le_trans (((g5.trans g6).trans g7)).size (Nat.le_refl _)) u19),(o16.of_le ((((((g5.trans g6).trans g7).trans g8).trans g9).trans g10).trans g14)),(o17.of_le (((((((g5.trans g6).trans g7).trans g8).trans g9).trans g10).trans g14).trans g16))⟩
theorem kbax{s:kha}{r:kg4}(it:Iter kt7 s r):kon r s:=Iter.ind (fun s o e good=>by
 cases s with
 | fn a1 x2 a3 x4=>exact @k56 _ _ a1 x2 a3 x4 e good
 | no=>exact True.intro
 ) it
end Go.Ab

/- squeezed -/
set_option maxRecDepth 10000
namespace Go.Ab
open Go.Proofs Go.Num
def gcdN(xs ys:List Nat):List Nat×Int:=if rt xs=true∧rt ys=true then(digs B (Nat.gcd (num B xs) (num B ys)),0)else([],1)
theorem k3l{xs ys:List Nat}(hx:rt xs=true)(hy:rt ys=true)(h0:ys≠[]):(divN xs ys).2.1=digs B (num B xs%num B ys):=by
 simp[divN,hx,hy,h0]
theorem kbl{n:Nat}(h:n<B^64):rt (digs B n)=true:=rt_iff.2 ⟨(kbv B2 n 64).2 h,khx B2 n⟩
theorem klr{xs:List Nat}(hl:∀x∈xs,x<B)(h:rt xs=true):num B xs<B^64:=by
 have h1:=num_lt B1 hl;have h2:B^xs.length≤B^64:=Nat.pow_le_pow_right B1 (rt_iff.1 h).1;omega
theorem k5r:∀(b a:Nat),a<B^64→b<B^64→Iter kog (.p4 (digs B a) (digs B b)) (digs B (Nat.gcd a b),0):=by
 intro b
 induction b using Nat.strongRecOn with
 | ind b ih =>
  intro a ha hb;by_cases h0:b=0
  ·subst h0;refine .done ?_;show kgh _ _=_;unfold kgh;rw[kc4,Nat.gcd_zero_right];rfl
  ·have hm:=Nat.mod_lt a (show 0<b by omega);have hne:digs B b≠[]:=fun h=>h0 ((ke9 B2).1 h);have hl:(digs B b).length≠0:=by simpa using hne
   refine .next (s':=.p4 (digs B b) (digs B (a%b))) ?_ (by
    have:=ih (a%b) hm b hb (by omega);rwa[Nat.gcd_comm b,← Nat.gcd_rec,Nat.gcd_comm b]at this)
   show kgh _ _=_;unfold kgh;rw[condT (by rw[decide_eq_true_eq];omega),k3l (kbl ha) (kbl hb) hne,ks B2,ks B2]
theorem kyx{xs ys:List Nat}(lx:∀x∈xs,x<B)(ly:∀x∈ys,x<B):Iter kog (.fn xs ys) (gcdN xs ys):=by
 unfold gcdN;cases hx:rt xs with
 | false =>
  refine .done ?_;show ked _ _=_;unfold ked;simp[hx]
 | true =>
  cases hy:rt ys with
  | false =>
   refine .done ?_;show ked _ _=_;unfold ked;simp[hx,hy]
  | true =>
   obtain⟨lx64,tx⟩:=rt_iff.1 hx;obtain⟨ly64,ty⟩:=rt_iff.1 hy;have key:=k5r (num B ys) (num B xs) (klr lx hx) (klr ly hy);rw[kff B2 lx tx,kff B2 ly ty]at key;simp only[and_self,if_true];refine .next ?_ key;show ked _ _=_;unfold ked;rw[hx,hy,kbq (by omega),Option.bind_some,kbq (by omega),Option.bind_some];rfl
theorem kvs{h:AH}{s t:Sl}{xs ys:List Nat}(n:Nats h s xs)(m:Nats h t ys):Runs (go (.fn F.ke1 [s.v,t.v]) h) (kpc h (gcdN xs ys)):=k6s (kyx n.lt m.lt) n m
def floorI(p:Bool)(xs:List Nat)(q:Bool)(ys:List Nat):Bool×List Nat×Bool×List Nat×Int :=
 cond (!(rtI p xs&&rtI q ys)) (false,[],false,[],1)
  (cond (decide (ys=[])) (false,[],false,[],3)
   (cond q (false,[],false,[],1)
    (cond (p&&!decide ((divN xs ys).2.1=[]))
     (cond (decide ((addN (divN xs ys).1 [1]).2=0)) ((fromI true (addN (divN xs ys).1 [1]).1).1,(fromI true (addN (divN xs ys).1 [1]).1).2,(fromI false (subN ys (divN xs ys).2.1).1).1,(fromI false (subN ys (divN xs ys).2.1).1).2,0) (false,[],false,[],(addN (divN xs ys).1 [1]).2))
     ((fromI p (divN xs ys).1).1,(fromI p (divN xs ys).1).2,(fromI false (divN xs ys).2.1).1,(fromI false (divN xs ys).2.1).2,0))))
theorem krv:digs B 1=[1]:=by decide +kernel
theorem k2e:u64P 1=some 1:=kbt (n:=1) (by decide)
theorem kny{xs:List Nat}:decide ((List.length xs:Int)=0)=decide (xs=[]):=by
 rw[decide_eq_decide];cases xs
 ·simp
 ·simp;omega
theorem k4s{xs:List Nat}:decide ((List.length xs:Int)>0)=!decide (xs=[]):=by
 cases xs
 ·rfl
 ·simp
theorem kym(p:Bool)(xs:List Nat)(q:Bool)(ys:List Nat):Iter kt7 (.fn p xs q ys) (floorI p xs q ys):=by
 refine .done ?_;show kiz _ _ _ _=_;unfold kiz floorI;rw[kny,k4s,k2e];cases rtI p xs&&rtI q ys
 ·rfl
 ·cases decide (ys=[])
  ·cases q
   ·cases p
    ·rfl
    ·cases decide ((divN xs ys).2.1=[])
     ·simp only[Bool.not_true,Bool.not_false,cond_true,cond_false,Bool.and_self,Option.bind_some,krv];cases decide ((addN (divN xs ys).1 [1]).2=0)
      ·rfl
      ·rfl
     ·rfl
   ·rfl
  ·rfl
theorem k4d{h:AH}{s t:Sl}{xs ys:List Nat}(n:Nats h s xs)(m:Nats h t ys)(p q:Bool):Runs (go (.fn F.kna [.agg [.bool p,s.v],.agg [.bool q,t.v]]) h) (ktz h (floorI p xs q ys)):=kbax (kym p xs q ys) n m
end Go.Ab

/- squeezed -/
set_option maxRecDepth 10000
namespace Go.Ab
open Go.Proofs Go.Num
def intD(z:Int):Bool×List Nat:=(decide (z<0),digs B z.natAbs)
theorem kqk(p:Bool):fromI p []=(false,[]):=by simp[fromI]
theorem kda{n:Nat}(h:n<B^64)(neg:Bool):fromI neg (digs B n)=intD (if neg=true then -(n:Int)else(n:Int)):=by
 by_cases h0:n=0
 ·subst h0;rw[kc4,kqk];cases neg<;>simp[intD,kc4]
 ·have hne:digs B n≠[]:=fun e=>h0 ((ke9 B2).1 e);unfold fromI intD;rw[if_pos ⟨kbl h,hne⟩];cases neg
  ·have e:((n:Int)).natAbs=n:=by omega
   have e2:decide ((n:Int)<0)=false:=by rw[decide_eq_false_iff_not];omega
   simp only[Bool.false_eq_true,if_false,e,e2]
  ·have e:(-(n:Int)).natAbs=n:=by omega
   have e2:decide (-(n:Int)<0)=true:=by rw[decide_eq_true_eq];omega
   simp only[if_true,e,e2]
theorem kct{z:Int}(h:z.natAbs<B^64):rtI (intD z).1 (intD z).2=true:=by
 unfold rtI intD;dsimp only;rw[kbl h,Bool.true_and];by_cases hz:z<0
 ·have hne:digs B z.natAbs≠[]:=fun e=>by
   have:=(ke9 B2).1 e;omega
  rw[decide_eq_true hz];simp[hne]
 ·rw[decide_eq_false hz];simp
theorem of_rtI{p:Bool}{xs:List Nat}(hl:∀x∈xs,x<B)(h:rtI p xs=true):∃z:Int,p=(intD z).1∧xs=(intD z).2∧z.natAbs<B^64:=by
 have hr:=rtI_rt h;have hn:=klr hl hr;have hd:=kff B2 hl (rt_iff.1 hr).2;unfold rtI at h;rw[hr,Bool.true_and]at h;cases p
 ·refine⟨(num B xs:Int),?_,?_,by omega⟩
  ·show false=decide ((num B xs:Int)<0);symm;rw[decide_eq_false_iff_not];omega
  ·show xs=digs B ((num B xs:Int)).natAbs;rw[show((num B xs:Int)).natAbs=num B xs from by omega,hd]
 ·have hne:xs≠[]:=by simpa using h
  have hp:=kri B1 (rt_iff.1 hr).2 hne;refine⟨-(num B xs:Int),?_,?_,by omega⟩
  ·show true=decide (-(num B xs:Int)<0);symm;rw[decide_eq_true_eq];omega
  ·show xs=digs B (-(num B xs:Int)).natAbs;rw[show(-(num B xs:Int)).natAbs=num B xs from by omega,hd]
theorem kl4{n:Nat}(h:n<B^64):told n=(digs B n,0):=by
 unfold told;rw[if_pos h]
theorem ksp{n:Nat}(h:¬n<B^64):told n=([],4):=by
 unfold told;rw[if_neg h]
theorem ko6{u v:Int}(hu:u.natAbs<B^64)(hv:v.natAbs<B^64):kbn (intD u).1 (intD u).2 (intD v).1 (intD v).2=if(u*v).natAbs<B^64 then((intD (u*v)).1,(intD (u*v)).2,0)else(false,[],4):=by
 unfold kbn;rw[kct hu,kct hv]
 have e:mulN (intD u).2 (intD v).2=told (u.natAbs*v.natAbs):=by
  unfold mulN intD;dsimp only;rw[if_pos ⟨kbl hu,kbl hv⟩,ks B2,ks B2]
 rw[e,Int.natAbs_mul];simp only[Bool.and_self,Bool.not_true,cond_false];by_cases h:u.natAbs*v.natAbs<B^64
 ·rw[if_pos h,kl4 h];dsimp only;rw[kda h]
  have key:(if(!((intD u).1==(intD v).1))=true then -((u.natAbs*v.natAbs:Nat):Int)else((u.natAbs*v.natAbs:Nat):Int))=u*v:=by
   unfold intD;dsimp only;rw[Int.natCast_mul];by_cases h1:u<0
   ·by_cases h2:v<0
    ·have e1:((u.natAbs:Nat):Int)=-u:=by omega
     have e2:((v.natAbs:Nat):Int)=-v:=by omega
     simp[h1,h2,e1,e2,Int.neg_mul,Int.mul_neg]
    ·have e1:((u.natAbs:Nat):Int)=-u:=by omega
     have e2:((v.natAbs:Nat):Int)=v:=by omega
     simp[h1,h2,e1,e2,Int.neg_mul,Int.mul_neg]
   ·by_cases h2:v<0
    ·have e1:((u.natAbs:Nat):Int)=u:=by omega
     have e2:((v.natAbs:Nat):Int)=-v:=by omega
     simp[h1,h2,e1,e2,Int.neg_mul,Int.mul_neg]
    ·have e1:((u.natAbs:Nat):Int)=u:=by omega
     have e2:((v.natAbs:Nat):Int)=v:=by omega
     simp[h1,h2,e1,e2,Int.neg_mul,Int.mul_neg]
  rw[key]
 ·rw[if_neg h,ksp h];dsimp only;rw[kqk]
theorem ksc{u v:Int}(hu:u.natAbs<B^64)(hv:v.natAbs<B^64):kz (intD u).1 (intD u).2 (intD v).1 (intD v).2=if(u+v).natAbs<B^64 then((intD (u+v)).1,(intD (u+v)).2,0)else(false,[],4):=by
 unfold kz;rw[kct hu,kct hv];simp only[Bool.and_self,Bool.not_true,cond_false]
 have ea:addN (intD u).2 (intD v).2=told (u.natAbs+v.natAbs):=by
  unfold addN intD;dsimp only;rw[if_pos ⟨kbl hu,kbl hv⟩,ks B2,ks B2]
 have es:∀{a b:Int},a.natAbs<B^64→b.natAbs<B^64→b.natAbs≤a.natAbs→subN (intD a).2 (intD b).2=(digs B (a.natAbs-b.natAbs),0):=by
  intro a b ha hb hle;unfold subN intD;dsimp only;rw[if_pos ⟨kbl ha,kbl hb⟩,ks B2,ks B2,if_neg (by omega)]
 have ec:cmpN (intD u).2 (intD v).2=cmp u.natAbs v.natAbs:=by
  unfold cmpN intD;dsimp only;rw[if_pos ⟨kbl hu,kbl hv⟩,ks B2,ks B2]
 rw[ea,ec];have s1:(intD u).1=decide (u<0):=rfl;have s2:(intD v).1=decide (v<0):=rfl;rw[s1,s2];by_cases hs:(u<0↔v<0)
 ·have hb:(decide (u<0)==decide (v<0))=true:=by simp[hs]
  rw[hb,cond_true];by_cases h:u.natAbs+v.natAbs<B^64
  ·rw[if_pos (by omega),kl4 h];dsimp only;rw[kda h]
   have:(if decide (u<0)=true then -((u.natAbs+v.natAbs:Nat):Int)else((u.natAbs+v.natAbs:Nat):Int))=u+v:=by
    by_cases h1:u<0
    ·simp only[h1,decide_true,if_true];omega
    ·simp only[h1,decide_false,Bool.false_eq_true,if_false];omega
   rw[this]
  ·rw[if_neg (by omega),ksp h];dsimp only;rw[kqk]
 ·have hb:(decide (u<0)==decide (v<0))=false:=by
   by_cases h1:u<0<;>by_cases h2:v<0<;>simp_all
  rw[hb,cond_false,if_pos (by omega)];by_cases hc:u.natAbs<v.natAbs
  ·rw[condT (by rw[decide_eq_true_eq,cmp_lt];exact hc),es hv hu (by omega)];dsimp only;rw[kda (by omega)]
   have:(if decide (v<0)=true then -((v.natAbs-u.natAbs:Nat):Int)else((v.natAbs-u.natAbs:Nat):Int))=u+v:=by
    by_cases h1:v<0
    ·simp only[h1,decide_true,if_true];omega
    ·simp only[h1,decide_false,Bool.false_eq_true,if_false];omega
   rw[this]
  ·rw[condF (by rw[decide_eq_false_iff_not,cmp_lt];exact hc),es hu hv (by omega)];dsimp only;rw[kda (by omega)]
   have:(if decide (u<0)=true then -((u.natAbs-v.natAbs:Nat):Int)else((u.natAbs-v.natAbs:Nat):Int))=u+v:=by
    by_cases h1:u<0
    ·simp only[h1,decide_true,if_true];omega
    ·simp only[h1,decide_false,Bool.false_eq_true,if_false];omega
   rw[this]
theorem kth{v:Int}(hv:v.natAbs<B^64):negI (intD v).1 (intD v).2=intD (-v):=by
 unfold negI;rw[if_pos (kct hv)];show fromI (!decide (v<0)) (digs B v.natAbs)=_;rw[kda hv];by_cases h1:v<0
 ·have e:((v.natAbs:Nat):Int)=-v:=by omega
  simp[h1,e]
 ·have e:((v.natAbs:Nat):Int)=v:=by omega
  simp[h1,e]
theorem kbab{u v:Int}(hu:u.natAbs<B^64)(hv:v.natAbs<B^64):kbj (intD u).1 (intD u).2 (intD v).1 (intD v).2=if(u-v).natAbs<B^64 then((intD (u-v)).1,(intD (u-v)).2,0)else(false,[],4):=by
 have e:kbj (intD u).1 (intD u).2 (intD v).1 (intD v).2=kz (intD u).1 (intD u).2 (intD (-v)).1 (intD (-v)).2:=by
  unfold kbj;rw[kct hu,kct hv,kth hv];rfl
 rw[e,ksc hu (by omega)];rfl
theorem kv1(n:Nat):intD (n:Int)=(false,digs B n):=by
 unfold intD;have:decide ((n:Int)<0)=false:=by rw[decide_eq_false_iff_not];omega
 rw[this];rfl
theorem kx0{u v:Int}(hu:u.natAbs<B^64)(hv:v.natAbs<B^64)(h0:0<v):floorI (intD u).1 (intD u).2 (intD v).1 (intD v).2=((intD (u/v)).1,(intD (u/v)).2,(intD (u%v)).1,(intD (u%v)).2,0):=by
 obtain⟨y,rfl⟩:∃y:Nat,v=(y:Int):=⟨v.toNat,by omega⟩;have hy:y<B^64:=by simpa using hv
 have hy0:0<y:=by omega
 have hne:(intD (y:Int)).2≠[]:=fun e=>by
  have:y=0:=by simpa[intD]using (ke9 B2).1 e
  omega
 unfold floorI;rw[kct hu,kct hv];have sy:(intD (y:Int)).1=false:=by rw[kv1]
 have dv:divN (intD u).2 (intD (y:Int)).2=(digs B (u.natAbs/y),digs B (u.natAbs%y),0):=by
  unfold divN;rw[if_pos ⟨rtI_rt (kct hu),rtI_rt (kct hv)⟩,if_neg hne];simp only[intD,ks B2,Int.natAbs_natCast]
 have hQ:u.natAbs/y<B^64:=Nat.lt_of_le_of_lt (Nat.div_le_self _ _) hu;have hR:u.natAbs%y<B^64:=Nat.lt_trans (Nat.mod_lt _ hy0) hy;have dm:=Nat.div_add_mod u.natAbs y;have hm:=Nat.mod_lt u.natAbs hy0;rw[dv,sy];simp only[Bool.and_self,Bool.not_true,cond_false,hne,decide_false];have s1:(intD u).1=decide (u<0):=rfl;rw[s1];have hr0:(digs B (u.natAbs%y)=[])↔u.natAbs%y=0:=ke9 B2;by_cases hc:u<0∧u.natAbs%y≠0
 ·have b1:(decide (u<0)&&!decide (digs B (u.natAbs%y)=[]))=true:=by
   rw[Bool.and_eq_true,decide_eq_true_eq,Bool.not_eq_true',decide_eq_false_iff_not,hr0];exact hc
  rw[b1,cond_true];have h1:[1]=digs B 1:=krv.symm
  have hq1:u.natAbs/y+1<B^64:=by
   have hy2:2≤y:=by
    rcases Nat.lt_or_ge y 2 with h | h
    ·have:y=1:=by omega
     subst this;rw[Nat.mod_one]at hc;exact absurd rfl hc.2
    ·exact h
   have:u.natAbs/y≤u.natAbs/2:=Nat.div_le_div_left hy2 (by omega);have hb:2<B^64:=by decide +kernel
   omega
  have au:addN (digs B (u.natAbs/y)) [1]=(digs B (u.natAbs/y+1),0):=by
   unfold addN;rw[h1,if_pos ⟨kbl hQ,kbl (by decide +kernel)⟩,ks B2,ks B2,kl4 hq1]
  have su:subN (intD (y:Int)).2 (digs B (u.natAbs%y))=(digs B (y-u.natAbs%y),0):=by
   rw[kv1];unfold subN;rw[if_pos ⟨kbl hy,kbl hR⟩,ks B2,ks B2,if_neg (by omega)]
  rw[au,su];dsimp only;rw[kda hq1,kda (by omega)]
  have e1:u/(y:Int)=-((u.natAbs/y+1:Nat):Int):=by
   have hu':u=-((y*(u.natAbs/y)+u.natAbs%y:Nat):Int):=by rw[dm];omega
   generalize u.natAbs/y=q at *
   generalize u.natAbs%y=r at *
   rw[hu'];rw[Int.ediv_eq_iff_of_pos (by omega)];constructor
   ·rw[Int.natCast_add,Int.natCast_add,Int.natCast_mul,Int.neg_mul,Int.add_mul,Int.mul_comm (q:Int)];omega
   ·rw[Int.natCast_add,Int.natCast_add,Int.natCast_mul,Int.neg_mul,Int.add_mul,Int.mul_comm (q:Int)];omega
  have e2:u%(y:Int)=((y-u.natAbs%y:Nat):Int):=by
   have:=Int.mul_ediv_add_emod u (y:Int);rw[e1]at this
   have dm':((y:Int)*((u.natAbs/y:Nat):Int))+((u.natAbs%y:Nat):Int)=((u.natAbs:Nat):Int):=by
    rw[← Int.natCast_mul,← Int.natCast_add,dm]
   rw[Int.natCast_add,Int.mul_neg,Int.mul_add]at this;omega
  rw[e1,e2];rfl
 ·have b1:(decide (u<0)&&!decide (digs B (u.natAbs%y)=[]))=false:=by
   rw[← Bool.not_eq_true,Bool.and_eq_true,decide_eq_true_eq,Bool.not_eq_true',decide_eq_false_iff_not,hr0];exact hc
  rw[b1,cond_false,kda hQ,kda hR]
  have dm':((y:Int)*((u.natAbs/y:Nat):Int))+((u.natAbs%y:Nat):Int)=((u.natAbs:Nat):Int):=by
   rw[← Int.natCast_mul,← Int.natCast_add,dm]
  by_cases hneg:u<0
  ·have hr:u.natAbs%y=0:=by
    rcases Nat.eq_zero_or_pos (u.natAbs%y)with h | h
    ·exact h
    ·exact absurd ⟨hneg,by omega⟩ hc
   rw[hr]at dm'⊢
   have hu':u=(y:Int)*-((u.natAbs/y:Nat):Int):=by
    rw[Int.mul_neg];omega
   have e1:u/(y:Int)=-((u.natAbs/y:Nat):Int):=by
    conv=>lhs;rw[hu']
    exact Int.mul_ediv_cancel_left _ (by omega)
   have e2:u%(y:Int)=0:=by
    conv=>lhs;rw[hu']
    exact Int.mul_emod_right _ _
   rw[e1,e2,if_pos (by simpa using hneg)];rfl
  ·have hu':u=((u.natAbs:Nat):Int):=by omega
   have e1:u/(y:Int)=((u.natAbs/y:Nat):Int):=by
    conv=>lhs;rw[hu']
    rfl
   have e2:u%(y:Int)=((u.natAbs%y:Nat):Int):=by
    conv=>lhs;rw[hu']
    rfl
   rw[e1,e2,if_neg (by simpa using hneg)];rfl
end Go.Ab

/- squeezed -/
set_option maxRecDepth 10000
namespace Go.Ab
open Go.Proofs Go.Num
theorem k6n{u v:Int}(hu:u.natAbs<B^64)(h0:0<v):(u/v).natAbs<B^64∧(u/v).natAbs≤u.natAbs:=by
 have h1:=Int.mul_ediv_add_emod u v;have h2:=Int.emod_nonneg u (show v≠0 by omega);have h3:=Int.emod_lt_of_pos u h0
 have key:(u/v).natAbs≤u.natAbs:=by
  by_cases hn:u<0
  ·have hq:u/v<0:=Int.ediv_neg_of_neg_of_pos hn h0
   have:u≤u/v:=by
    have h4:v*(u/v)≤1*(u/v):=Int.mul_le_mul_of_nonpos_right (by omega) (by omega);rcases Int.lt_or_le (u/v) u with h5 | h5
    ·exfalso;have h6:u/v+1≤u:=by omega
     have h7:v*(u/v+1)=v*(u/v)+v:=by rw[Int.mul_add,Int.mul_one]
     have h8:v*(u/v+1)≤1*(u/v+1):=Int.mul_le_mul_of_nonpos_right (by omega) (by omega);omega
    ·exact h5
   omega
  ·have hq:0≤u/v:=Int.ediv_nonneg (by omega) (by omega);have h4:1*(u/v)≤v*(u/v):=Int.mul_le_mul_of_nonneg_right (by omega) hq;omega
 exact⟨by omega,key⟩
theorem kh3:18446744073709551616*18446744073709551616≤B^64:=by
 have:B^64=B*B*B^62:=by
  rw[show 64=2+62 from rfl,Nat.pow_add,Nat.pow_two]
 rw[this];have h:1≤B^62:=Nat.pow_pos B1;have:=Nat.mul_le_mul_left (B*B) h;rw[Nat.mul_one]at this;exact this
theorem kph{n:Int}(h:n.natAbs<18446744073709551616):ofI n=intD n:=by
 have hb:n.natAbs<B^64:=by have:=kh3;omega
 unfold ofI;rw[kda hb];by_cases h1:n<0
 ·rw[decide_eq_true h1];have e:((n.natAbs:Nat):Int)=-n:=by omega
  simp[e]
 ·rw[decide_eq_false h1];have e:((n.natAbs:Nat):Int)=n:=by omega
  simp[e]
theorem kk3(n:Int){h:AH}(c:-9223372036854775808≤n∧n≤9223372036854775807):∃(s':Sl)(h':AH),go (.fn F.kgc [.int .i64 n]) h=some (.agg [.bool (ofI n).1,s'.v],h')∧Nats h' s' (ofI n).2∧Grow h h'∧Own h s':=kzq c.1 c.2
end Go.Ab

/- squeezed -/
set_option maxRecDepth 10000
namespace Go.Ab
open Go.Proofs
theorem kpb(n a b:Int)(h:AH):go (.fn F.kcr [.int .i64 n,.int .i64 a,.int .i64 b]) h=some (.bool (decide (a≤n∧n≤b)),h):=by
 rw[k8r];by_cases h1:a≤n<;>simp[h1]
structure Cfg where
 (trees depth lambda gamma num den loss clip:Int)
@[reducible] def Cfg.v(c:Cfg):AV:=.agg [.int .i64 c.trees,.int .i64 c.depth,.int .i64 c.lambda,.int .i64 c.gamma,.int .i64 c.num,.int .i64 c.den,.int .i64 c.loss,.int .i64 c.clip]
def Cfg.right(c:Cfg):Bool:=decide (1≤c.trees∧c.trees≤16∧1≤c.depth∧c.depth≤5∧1≤c.lambda∧c.lambda≤1048576∧0≤c.gamma∧c.gamma≤1048576∧1≤c.den∧c.den≤1048576∧1≤c.num∧c.num≤c.den∧(c.loss=0∧c.clip=0∨c.loss=1∧1≤c.clip∧c.clip≤1048576))
theorem kp7(c:Cfg)(h:AH):∃h',go (.fn F.kif [c.v]) h=some (.bool c.right,h')∧Grow h h':=by
 rw[kba3];simp[kpb,cond_eq_ite];refine⟨_,?_,Grow.push _ (.cells [.int .i64 c.trees,.int .i64 c.depth,.int .i64 c.lambda,.int .i64 c.gamma,.int .i64 c.num,.int .i64 c.den,.int .i64 c.loss,.int .i64 c.clip] T.kb0)⟩;unfold Cfg.right
 repeat' split
 all_goals
  refine k9s ?_;simp only[Bool.and_eq_true,decide_eq_true_eq,Bool.false_eq_true,false_iff];omega
def Cfg.grad(c:Cfg)(s l:Int):Int×Int :=
 if c.right=true∧-1099511627776≤s∧s≤1099511627776∧-1048576≤l∧l≤1048576 then
  (let m:=if c.loss=1 then c.clip else 1048576
   if s-l < -m then -m else if s-l>m then m else s-l,0)
 else(0,1)
theorem Cfg.right_clip{c:Cfg}(h:c.right=true)(h1:c.loss=1):1≤c.clip∧c.clip≤1048576:=by
 unfold Cfg.right at h;simp only[decide_eq_true_eq]at h;omega
theorem k07(c:Cfg)(s l:Int)(h:AH):∃h',go (.fn F.kp8 [c.v,.int .i64 s,.int .i64 l]) h=some (.tup [.int .i64 (c.grad s l).1,.int .i64 (c.grad s l).2],h')∧Grow h h':=by
 rw[k2a];simp;obtain⟨h1,e1,g1⟩:=kp7 c (h.push (.cells [.int .i64 c.trees,.int .i64 c.depth,.int .i64 c.lambda,.int .i64 c.gamma,.int .i64 c.num,.int .i64 c.den,.int .i64 c.loss,.int .i64 c.clip] T.kb0));rw[e1];simp[kpb,cond_eq_ite,g1.cell_new];refine⟨h1,?_,g1.push'⟩;unfold Cfg.grad;cases hr:c.right with
 | false=>simp
 | true =>
  have hc:=Cfg.right_clip hr;by_cases a1:-1099511627776≤s<;>by_cases a2:s≤1099511627776<;>simp[a1,a2];by_cases a3:-1048576≤l<;>by_cases a4:l≤1048576<;>simp[a3,a4];rw[wrap64 (n:=s-l) (by omega) (by omega)];by_cases a5:c.loss=1
  ·have:=hc a5;simp only[a5,if_true];rw[wrap64 (n:=-c.clip) (by omega) (by omega),klq,kln];simp
   repeat' split
   all_goals omega
  ·simp only[a5,if_false];rw[wrap64 (n:=-1048576) (by omega) (by omega),klq,kln];simp
   repeat' split
   all_goals omega
theorem Cfg.of_arg{h:AH}{x:AV}(a:ArgV Pg h T.kb0 x):∃c:Cfg,x=c.v:=by
 unfold ArgV at a;rw[klv]at a;obtain⟨cs,rfl,t⟩:=a;obtain⟨hl,hf⟩:=t.struct klv;rw[kw4]at hl
 match cs,hl with
 | [x0,x1,x2,x3,x4,x5,x6,x7],_ =>
  simp[kew]at hf;obtain⟨h0,h1,h2,h3,h4,h5,h6,h7⟩:=hf;obtain⟨n0,e0,-⟩:=h0.int kce;obtain⟨n1,e1,-⟩:=h1.int kce;obtain⟨n2,e2,-⟩:=h2.int kce;obtain⟨n3,e3,-⟩:=h3.int kce;obtain⟨n4,e4,-⟩:=h4.int kce;obtain⟨n5,e5,-⟩:=h5.int kce;obtain⟨n6,e6,-⟩:=h6.int kce;obtain⟨n7,e7,-⟩:=h7.int kce;cases e0;cases e1;cases e2;cases e3;cases e4;cases e5;cases e6;cases e7;exact⟨⟨n0,n1,n2,n3,n4,n5,n6,n7⟩,rfl⟩
end Go.Ab

/- squeezed -/
set_option maxRecDepth 10000
namespace Go.Ab
open Go.Proofs Go.Num
def smallN(xs:List Nat):Nat×Bool:=if rt xs=true∧xs.length≤1 then(xs.getD 0 0,true)else(0,false)
theorem krc{h:AH}{s:Sl}{xs:List Nat}(n:Nats h s xs):go (.fn F.koc [s.v]) h=some (.tup [.int .u64 ((smallN xs).1:Int),.bool (smallN xs).2],h):=by
 rw[k0x,kfp n];have hl:=n.len;simp only[Option.bind_some,kca];cases hrt:rt xs with
 | false=>simp[smallN,hrt]
 | true =>
  simp only[Bool.not_true,cond_false];by_cases h1:xs.length≤1
  ·rw[show decide ((s.len:Int)>1)=false from by rw[decide_eq_false_iff_not];omega,cond_false];simp only[smallN,hrt,h1,and_self,if_true];by_cases h0:xs.length=0
   ·rw[show decide ((s.len:Int)=0)=true from by rw[decide_eq_true_eq];omega,cond_true,List.length_eq_zero_iff.1 h0];rfl
   ·rw[show decide ((s.len:Int)=0)=false from by rw[decide_eq_false_iff_not];omega,cond_false];obtain⟨r,e1,e2⟩:=n.at (i:=0) (by omega);rw[show idx s.ref s.len 0 1=some r from e1];simp only[Option.bind_some,e2,kb];rw[kcm (by omega)]
  ·rw[show decide ((s.len:Int)>1)=true from by rw[decide_eq_true_eq];omega];simp[smallN,h1]
def smallI(neg:Bool)(xs:List Nat):Int×Bool :=
 if rtI neg xs=true∧(smallN xs).2=true∧(smallN xs).1≤(if neg=true then 9223372036854775808 else 9223372036854775807)then((if neg=true then -((smallN xs).1:Int)else((smallN xs).1:Int)),true)else(0,false)
theorem k46{h:AH}{s:Sl}{xs:List Nat}(n:Nats h s xs)(neg:Bool):∃h',go (.fn F.koy [.agg [.bool neg,s.v]]) h=some (.tup [.int .i64 (smallI neg xs).1,.bool (smallI neg xs).2],h')∧Grow h h':=by
 rw[kzy];simp only[kcq];have b0:=AH.has_push h [.bool neg,s.v] T.kg;have g0:=Grow.push h (.cells [.bool neg,s.v] T.kg);have n0:=n.grow g0;generalize h.push (.cells [.bool neg,s.v] T.kg)=h0 at *
 obtain⟨h1,e1,g1⟩:=kim n0 neg;have b1:=g1.has b0;refine⟨h1,?_,g0.trans g1⟩
 have hb:(smallN xs).1<18446744073709551616:=by
  unfold smallN;split
  ·rename_i hx;rcases Nat.eq_zero_or_pos xs.length with h0' | h0'
   ·rw[List.length_eq_zero_iff.1 h0'];decide
   ·rw[kcm h0'];exact n.lt _ (List.getElem_mem _)
  ·decide
 have w1:IntKind.wrap .u64 (9223372036854775807+1)=9223372036854775808:=by rw[wrapU];rfl
 cases neg with
 | true =>
  simp only[Ref.add_new,Nat.zero_add,b0.cell,b1.cell,List.getElem?_cons_zero,List.getElem?_cons_succ,Option.bind_some,kca,asSl_v,krc n0,keo,kb,cond_true,e1,w1];unfold smallI;cases rtI true xs<;>cases(smallN xs).2<;>simp;by_cases hle:(smallN xs).1≤9223372036854775808
  ·rw[show decide (9223372036854775808<((smallN xs).1:Int))=false from by rw[decide_eq_false_iff_not];omega];simp only[cond_false,hle,if_true];congr 3;rw[wrapU];simp[IntKind.wrap,IntKind.bits,IntKind.signed];omega
  ·rw[show decide (9223372036854775808<((smallN xs).1:Int))=true from by rw[decide_eq_true_eq];omega];simp[hle]
 | false =>
  simp only[Ref.add_new,Nat.zero_add,b0.cell,b1.cell,List.getElem?_cons_zero,List.getElem?_cons_succ,Option.bind_some,kca,asSl_v,krc n0,keo,kb,cond_false,e1];unfold smallI;cases rtI false xs<;>cases(smallN xs).2<;>simp;by_cases hle:(smallN xs).1≤9223372036854775807
  ·rw[show decide (9223372036854775807<((smallN xs).1:Int))=false from by rw[decide_eq_false_iff_not];omega];simp only[cond_false,hle,if_true];rw[wrap64 (by omega) (by omega)]
  ·rw[show decide (9223372036854775807<((smallN xs).1:Int))=true from by rw[decide_eq_true_eq];omega];simp[hle]
end Go.Ab

/- squeezed -/
set_option maxRecDepth 10000
namespace Go.Ab
open Go.Proofs Go.Num
end Go.Ab

/- squeezed -/
set_option maxRecDepth 10000
namespace Go.Ab
open Go.Proofs Go.Num
end Go.Ab

/- squeezed -/
set_option maxRecDepth 10000
namespace Go.Ab
open Go.Proofs Go.Num
end Go.Ab

/- squeezed -/
set_option maxRecDepth 10000
namespace Go.Ab
open Go.Proofs Go.Num
def kbb(a1:Bool)(x2 x3:List Nat):Bool :=
 cond (!(rtI a1 x2)) (false) (cond (!(rt x3)) (false) (cond (decide ((List.length x3:Int)=0)) (false) (cond (decide ((List.length x3:Int)>16)) (false) (cond (decide ((List.length x2:Int)>16)) (false) (decide ((cmpN ((gcdN x2 x3).1) [1])=0))))))
theorem k82{h:AH}{a2:Sl}{x2:List Nat}{a3:Sl}{x3:List Nat}(n2:Nats h a2 x2)(n3:Nats h a3 x3)(a1:Bool):Runs (go (.fn F.kqx [.agg [.bool a1,a2.v,a3.v]]) h) fun v h'=>v=.bool (kbb a1 x2 x3)∧Grow h h':=by
 rw[k0o];refine Runs.new fun H4 b4 g4=>?_;refine Runs.step (AH.has.rd b4 0 rfl rfl) ?_;refine Runs.step (AH.has.rd b4 1 rfl (asSl_v _)) ?_;obtain⟨H5,e5,g5⟩:=kim (n2.grow g4) a1;refine Runs.step e5 ?_;refine Runs.step (seen rfl) ?_;refine Runs.cond (fun k6=>?_) (fun k6=>?_)
 ·have z:kbb a1 x2 x3=false:=by unfold kbb;exact(condT k6).trans rfl
  rw[z];exact Runs.ret ⟨rfl,(g4.trans g5)⟩
 ·refine Runs.step (AH.has.rd (g5.has b4) 2 rfl (asSl_v _)) ?_;refine Runs.step (kfp (n3.grow (g4.trans g5))) ?_;refine Runs.step (seen rfl) ?_;refine Runs.cond (fun k8=>?_) (fun k8=>?_)
  ·have z:kbb a1 x2 x3=false:=by unfold kbb;exact(condF k6).trans ((condT k8).trans rfl)
   rw[z];exact Runs.ret ⟨rfl,(g4.trans g5)⟩
  ·refine Runs.step (AH.has.rd (g5.has b4) 2 rfl (asSl_v _)) ?_;rw[(n3.grow (g4.trans g5)).len];refine Runs.cond (fun k9=>?_) (fun k9=>?_)
   ·have z:kbb a1 x2 x3=false:=by unfold kbb;exact(condF k6).trans ((condF k8).trans ((condT k9).trans rfl))
    rw[z];exact Runs.ret ⟨rfl,(g4.trans g5)⟩
   ·refine Runs.step (AH.has.rd (g5.has b4) 2 rfl (asSl_v _)) ?_;rw[(n3.grow (g4.trans g5)).len];refine Runs.cond (fun k10=>?_) (fun k10=>?_)
    ·have z:kbb a1 x2 x3=false:=by unfold kbb;exact(condF k6).trans ((condF k8).trans ((condF k9).trans ((condT k10).trans rfl)))
     rw[z];exact Runs.ret ⟨rfl,(g4.trans g5)⟩
    ·refine Runs.step (AH.has.rd (g5.has b4) 1 rfl (asSl_v _)) ?_;rw[(n2.grow (g4.trans g5)).len];refine Runs.cond (fun k11=>?_) (fun k11=>?_)
     ·have z:kbb a1 x2 x3=false:=by unfold kbb;exact(condF k6).trans ((condF k8).trans ((condF k9).trans ((condF k10).trans ((condT k11).trans rfl))))
      rw[z];exact Runs.ret ⟨rfl,(g4.trans g5)⟩
     ·refine Runs.step (AH.has.rd (g5.has b4) 1 rfl (asSl_v _)) ?_;refine Runs.step (AH.has.rd (g5.has b4) 2 rfl (asSl_v _)) ?_;obtain⟨_,H12,e12,s12,rfl,n12,g12,o12⟩:=kvs (n2.grow (g4.trans g5)) (n3.grow (g4.trans g5));refine Runs.step e12 ?_;refine Runs.step rfl ?_;refine Runs.step (seen (asSl_v _)) ?_;refine Runs.step (seen (kb _ _)) ?_;refine Runs.new fun H13 b13 g13=>?_;obtain⟨H14,e14,g14⟩:=km9 (n12.grow g13) (Nats.of_has (xs:=[1]) b13 (by decide) (by decide));refine Runs.step e14 ?_;refine Runs.step (seen (kb _ _)) ?_;have z:kbb a1 x2 x3=decide ((cmpN ((gcdN x2 x3).1) [1])=0):=by unfold kbb;exact(condF k6).trans ((condF k8).trans ((condF k9).trans ((condF k10).trans ((condF k11).trans rfl))))
      rw[z];have G15:=((((g4.trans g5).trans g12).trans g13).trans g14);exact Runs.ret ⟨rfl,G15⟩
def kba(a1:Bool)(x2 x3:List Nat):Bool×List Nat×List Nat×Int :=
 cond (!(rtI a1 x2)) ((false,[],[],1)) (cond (!(rt x3)) ((false,[],[],1)) (cond (decide ((List.length x3:Int)=0)) ((false,[],[],3)) (cond (decide ((imax (List.length ((divN x2 ((gcdN x2 x3).1)).1):Int) (List.length ((divN x3 ((gcdN x2 x3).1)).1):Int))>16)) ((false,[],[],4)) (((((fromI a1 ((divN x2 ((gcdN x2 x3).1)).1)).1)),(fromI a1 ((divN x2 ((gcdN x2 x3).1)).1)).2,(divN x3 ((gcdN x2 x3).1)).1,0)))))
theorem kl2{h:AH}{a2:Sl}{x2:List Nat}{a3:Sl}{x3:List Nat}(n2:Nats h a2 x2)(n3:Nats h a3 x3)(a1:Bool):Runs (go (.fn F.kic [.agg [.bool a1,a2.v],a3.v]) h) fun v h'=>∃s1:Sl,∃s2:Sl,v=.tup [.agg [.bool (kba a1 x2 x3).1,s1.v,s2.v],.int .i64 (kba a1 x2 x3).2.2.2]∧Nats h' s1 ((kba a1 x2 x3).2.1)∧Nats h' s2 ((kba a1 x2 x3).2.2.1)∧Grow h h'∧Own h s1∧Own h s2:=by
 rw[kz4];rw[n3.len];refine Runs.new fun H4 b4 g4=>?_;refine Runs.new fun H5 b5 g5=>?_;refine Runs.step (AH.has.rd (g5.has b4) 0 rfl rfl) ?_;refine Runs.step (AH.has.rd (g5.has b4) 1 rfl (asSl_v _)) ?_;obtain⟨H6,e6,g6⟩:=kim (n2.grow (g4.trans g5)) a1;refine Runs.step e6 ?_;refine Runs.step (seen rfl) ?_;refine Runs.cond (fun k7=>?_) (fun k7=>?_)
 ·refine Runs.puts (g6.has b5) rfl fun H8 b8 u8=>?_;refine Runs.step (AH.has.rd b8 0 rfl rfl) ?_;refine Runs.step (AH.has.rd b8 1 rfl (asSl_v _)) ?_;refine Runs.step (AH.has.rd b8 2 rfl (asSl_v _)) ?_;have z:kba a1 x2 x3=(false,[],[],1):=by unfold kba;exact(condT k7).trans rfl
  rw[z];have G9:=(((g4.trans g5).trans g6).updr (Nat.le_trans (g4).size (Nat.le_refl _)) u8);exact Runs.ret ⟨(⟨none,0,.is 0⟩:Sl),(⟨none,0,.is 0⟩:Sl),rfl,(Nats.nil _),(Nats.nil _),G9,(Own.nil _),(Own.nil _)⟩
 ·have G8:=((g4.trans g5).trans g6);have n3_9:=n3.grow G8;refine Runs.step (kfp n3_9) ?_;refine Runs.step (seen rfl) ?_;refine Runs.cond (fun k11=>?_) (fun k11=>?_)
  ·refine Runs.puts (g6.has b5) rfl fun H12 b12 u12=>?_;have n3_12:=n3_9.upda (Av.of_base n3 (Nat.le_trans (g4).size (Nat.le_refl _))) u12;refine Runs.step (AH.has.rd b12 0 rfl rfl) ?_;refine Runs.step (AH.has.rd b12 1 rfl (asSl_v _)) ?_;refine Runs.step (AH.has.rd b12 2 rfl (asSl_v _)) ?_;have z:kba a1 x2 x3=(false,[],[],1):=by unfold kba;exact(condF k7).trans ((condT k11).trans rfl)
   rw[z];have G13:=(G8.updr (Nat.le_trans (g4).size (Nat.le_refl _)) u12);exact Runs.ret ⟨(⟨none,0,.is 0⟩:Sl),(⟨none,0,.is 0⟩:Sl),rfl,(Nats.nil _),(Nats.nil _),G13,(Own.nil _),(Own.nil _)⟩
  ·refine Runs.cond (fun k12=>?_) (fun k12=>?_)
   ·refine Runs.puts (g6.has b5) rfl fun H13 b13 u13=>?_;have n3_13:=n3_9.upda (Av.of_base n3 (Nat.le_trans (g4).size (Nat.le_refl _))) u13;refine Runs.step (AH.has.rd b13 0 rfl rfl) ?_;refine Runs.step (AH.has.rd b13 1 rfl (asSl_v _)) ?_;refine Runs.step (AH.has.rd b13 2 rfl (asSl_v _)) ?_;have z:kba a1 x2 x3=(false,[],[],3):=by unfold kba;exact(condF k7).trans ((condF k11).trans ((condT k12).trans rfl))
    rw[z];have G14:=(G8.updr (Nat.le_trans (g4).size (Nat.le_refl _)) u13);exact Runs.ret ⟨(⟨none,0,.is 0⟩:Sl),(⟨none,0,.is 0⟩:Sl),rfl,(Nats.nil _),(Nats.nil _),G14,(Own.nil _),(Own.nil _)⟩
   ·refine Runs.step (AH.has.rd ((g5.trans g6).has b4) 1 rfl (asSl_v _)) ?_;have n2_13:=n2.grow G8;obtain⟨_,H14,e14,s14,rfl,n14,g14,o14⟩:=kvs n2_13 n3_9;refine Runs.step e14 ?_;refine Runs.step rfl ?_;refine Runs.step (seen (asSl_v _)) ?_;refine Runs.step (seen (kb _ _)) ?_;have G15:=((g5.trans g6).trans g14);have b4_16:=G15.has b4;refine Runs.step (AH.has.rd b4_16 1 rfl (asSl_v _)) ?_;obtain⟨s17,s17b,H17,e17,n17,n17b,g17,o17,o17b⟩:=kma (n2_13.grow g14) n14;refine Runs.step e17 ?_;refine Runs.step rfl ?_;refine Runs.step (seen (asSl_v _)) ?_;rw[n17.len];refine Runs.step (seen (asSl_v _)) ?_;refine Runs.step (seen (kb _ _)) ?_;obtain⟨s18,s18b,H18,e18,n18,n18b,g18,o18,o18b⟩:=kma (n3_9.grow (g14.trans g17)) (n14.grow g17);refine Runs.step e18 ?_;refine Runs.step rfl ?_;refine Runs.step (seen (asSl_v _)) ?_;rw[n18.len];refine Runs.step (seen (asSl_v _)) ?_;refine Runs.step (seen (kb _ _)) ?_;refine Runs.cond (fun k19=>?_) (fun k19=>?_)
    ·have G21:=(((g6.trans g14).trans g17).trans g18);have b5_22:=G21.has b5;refine Runs.puts b5_22 rfl fun H20 b20 u20=>?_;have G23:=((g14.trans g17).trans g18);have n2_24:=n2_13.grow G23;have n2_20:=n2_24.upda (Av.of_base n2 (Nat.le_trans (g4).size (Nat.le_refl _))) u20;have n3_25:=n3_9.grow G23;have n3_20:=n3_25.upda (Av.of_base n3 (Nat.le_trans (g4).size (Nat.le_refl _))) u20;have n14_20:=(n14.grow (g17.trans g18)).upda (Av.of_own o14 (g6.has b5).lt) u20;have n17_20:=(n17.grow g18).upda (Av.of_own o17 ((g6.trans g14).has b5).lt) u20;have n17b_20:=(n17b.grow g18).upda (Av.of_own o17b ((g6.trans g14).has b5).lt) u20;have G26:=((g6.trans g14).trans g17);have n18_20:=n18.upda (Av.of_own o18 (G26.has b5).lt) u20;have n18b_20:=n18b.upda (Av.of_own o18b (G26.has b5).lt) u20;have b4_20:=AH.has.updr ((g17.trans g18).has b4_16) (Nat.ne_of_lt (Nat.lt_of_lt_of_le (b4).lt (Nat.le_refl _))) u20;refine Runs.step (AH.has.rd b20 0 rfl rfl) ?_;refine Runs.step (AH.has.rd b20 1 rfl (asSl_v _)) ?_;refine Runs.step (AH.has.rd b20 2 rfl (asSl_v _)) ?_;have z:kba a1 x2 x3=(false,[],[],4):=by unfold kba;exact(condF k7).trans ((condF k11).trans ((condF k12).trans ((condT k19).trans rfl)))
     rw[z];have G27:=((((G8.trans g14).trans g17).trans g18).updr (Nat.le_trans (g4).size (Nat.le_refl _)) u20);exact Runs.ret ⟨(⟨none,0,.is 0⟩:Sl),(⟨none,0,.is 0⟩:Sl),rfl,(Nats.nil _),(Nats.nil _),G27,(Own.nil _),(Own.nil _)⟩
    ·refine Runs.step (AH.has.rd ((g17.trans g18).has b4_16) 0 rfl rfl) ?_;obtain⟨s20,H20,e20,n20,g20,o20⟩:=kcx (n17.grow g18) a1;refine Runs.step e20 ?_;refine Runs.step rfl ?_;refine Runs.ifT rfl ?_;refine Runs.step (seenAt rfl rfl) ?_;refine Runs.step (seenAt rfl (asSl_v _)) ?_;have G22:=((((g6.trans g14).trans g17).trans g18).trans g20);have b5_23:=G22.has b5;refine Runs.puts b5_23 rfl fun H21 b21 u21=>?_;have G24:=(((g14.trans g17).trans g18).trans g20);have n2_25:=n2_13.grow G24;have n2_21:=n2_25.upda (Av.of_base n2 (Nat.le_trans (g4).size (Nat.le_refl _))) u21;have n3_26:=n3_9.grow G24;have n3_21:=n3_26.upda (Av.of_base n3 (Nat.le_trans (g4).size (Nat.le_refl _))) u21;have G27:=((g17.trans g18).trans g20);have n14_28:=n14.grow G27;have n14_21:=n14_28.upda (Av.of_own o14 (g6.has b5).lt) u21;have n17_21:=(n17.grow (g18.trans g20)).upda (Av.of_own o17 ((g6.trans g14).has b5).lt) u21;have n17b_21:=(n17b.grow (g18.trans g20)).upda (Av.of_own o17b ((g6.trans g14).has b5).lt) u21;have G29:=((g6.trans g14).trans g17);have n18_21:=(n18.grow g20).upda (Av.of_own o18 (G29.has b5).lt) u21;have n18b_21:=(n18b.grow g20).upda (Av.of_own o18b (G29.has b5).lt) u21;have G30:=(G29.trans g18);have n20_21:=n20.upda (Av.of_own o20 (G30.has b5).lt) u21;have b4_31:=G27.has b4_16;have b4_21:=AH.has.updr b4_31 (Nat.ne_of_lt (Nat.lt_of_lt_of_le (b4).lt (Nat.le_refl _))) u21;refine Runs.step (AH.has.rd b21 0 rfl rfl) ?_;refine Runs.step (AH.has.rd b21 1 rfl (asSl_v _)) ?_;refine Runs.step (AH.has.rd b21 2 rfl (asSl_v _)) ?_;have z:kba a1 x2 x3=((((fromI a1 ((divN x2 ((gcdN x2 x3).1)).1)).1)),(fromI a1 ((divN x2 ((gcdN x2 x3).1)).1)).2,(divN x3 ((gcdN x2 x3).1)).1,0):=by unfold kba;exact(condF k7).trans ((condF k11).trans ((condF k12).trans ((condF k19).trans rfl)))
     rw[z];have G32:=(((G8.trans g14).trans g17).trans g18);have G33:=((G8.trans g14).trans g17);have G34:=((G32.trans g20).updr (Nat.le_trans (g4).size (Nat.le_refl _)) u21);exact Runs.ret ⟨s20,s18,rfl,n20_21,n18_21,G34,(o20.of_le G32),(o18.of_le G33)⟩
def kf(a1:Bool)(x2 x3:List Nat)(a4:Bool)(x5 x6:List Nat):Bool×List Nat :=
 (((((kbn a1 x2 ((fromI false x6).1) ((fromI false x6).2)).1))),(kbn a1 x2 ((fromI false x6).1) ((fromI false x6).2)).2.1)
theorem kho{h:AH}{a2:Sl}{x2:List Nat}{a3:Sl}{x3:List Nat}{a5:Sl}{x5:List Nat}{a6:Sl}{x6:List Nat}(n2:Nats h a2 x2)(n3:Nats h a3 x3)(n5:Nats h a5 x5)(n6:Nats h a6 x6)(a1 a4:Bool):Runs (go (.fn F.kfz [.agg [.bool a1,a2.v,a3.v],.agg [.bool a4,a5.v,a6.v]]) h) fun v h'=>∃s1:Sl,v=.agg [.bool (kf a1 x2 x3 a4 x5 x6).1,s1.v]∧Nats h' s1 ((kf a1 x2 x3 a4 x5 x6).2)∧Grow h h'∧Own h s1:=by
 rw[k7z];refine Runs.new fun H7 b7 g7=>?_;refine Runs.new fun H8 b8 g8=>?_;refine Runs.new fun H9 b9 g9=>?_;refine Runs.new fun H10 b10 g10=>?_;have G11:=((g8.trans g9).trans g10);have b7_12:=G11.has b7;refine Runs.step (AH.has.rd b7_12 0 rfl rfl) ?_;refine Runs.step (AH.has.rd b7_12 1 rfl (asSl_v _)) ?_;refine Runs.step (AH.has.rd ((g9.trans g10).has b8) 2 rfl (asSl_v _)) ?_;have G13:=(((g7.trans g8).trans g9).trans g10);have n6_14:=n6.grow G13;obtain⟨s15,H15,e15,n15,g15,o15⟩:=kcx n6_14 false;refine Runs.step e15 ?_;refine Runs.step rfl ?_;refine Runs.ifT rfl ?_;refine Runs.step (seenAt rfl rfl) ?_;refine Runs.step (seenAt rfl (asSl_v _)) ?_;refine Runs.when (g15.same b7_12 0 2) ?_;refine Runs.when (g15.same b10 0 0) ?_;have G16:=(G13.trans g15);have n2_17:=n2.grow G16;obtain⟨_,H18,e18,s18,rfl,n18,g18,o18⟩:=kpw n2_17 n15 a1 ((fromI false x6).1);refine Runs.step e18 ?_;refine Runs.step rfl ?_;refine Runs.step rfl ?_;refine Runs.ifT rfl ?_;refine Runs.step (seenAt rfl rfl) ?_;refine Runs.step (seenAt rfl (asSl_v _)) ?_;refine Runs.step (seen (kb _ _)) ?_;refine Runs.when (g18.same (g15.has b10) 0 0) ?_;refine Runs.puts ((g15.trans g18).has b10) rfl fun H19 b19 u19=>?_;have G20:=((g7.trans g8).trans g9);have n2_19:=(n2_17.grow g18).upda (Av.of_base n2 (Nat.le_trans (G20).size (Nat.le_refl _))) u19;have n6_19:=(n6_14.grow (g15.trans g18)).upda (Av.of_base n6 (Nat.le_trans (G20).size (Nat.le_refl _))) u19;have n15_19:=(n15.grow g18).upda (Av.of_own o15 (b10).lt) u19;have n18_19:=n18.upda (Av.of_own o18 (g15.has b10).lt) u19;have b7_19:=AH.has.updr ((g15.trans g18).has b7_12) (Nat.ne_of_lt (Nat.lt_of_lt_of_le ((g8.trans g9).has b7).lt (Nat.le_refl _))) u19;refine Runs.step (AH.has.rd b19 0 rfl rfl) ?_;refine Runs.step (AH.has.rd b19 1 rfl (asSl_v _)) ?_;have G22:=(((g10.trans g15).trans g18).updr (Nat.le_refl _) u19);have b9_23:=G22.has b9;refine Runs.puts b9_23 rfl fun H21 b21 u21=>?_;have n2_21:=n2_19.upda (Av.of_base n2 (Nat.le_trans ((g7.trans g8)).size (Nat.le_refl _))) u21;have n6_21:=n6_19.upda (Av.of_base n6 (Nat.le_trans ((g7.trans g8)).size (Nat.le_refl _))) u21;have n15_21:=n15_19.upda (Av.of_own o15 (g10.has b9).lt) u21;have n18_21:=n18_19.upda (Av.of_own o18 ((g10.trans g15).has b9).lt) u21;have b7_21:=AH.has.updr b7_19 (Nat.ne_of_lt (Nat.lt_of_lt_of_le (g8.has b7).lt (Nat.le_refl _))) u21;have b19_21:=AH.has.updr b19 (Nat.ne_of_gt (Nat.lt_of_lt_of_le (b9).lt (Nat.le_refl _))) u21;refine Runs.step (AH.has.rd b21 0 rfl rfl) ?_;refine Runs.step (AH.has.rd b21 1 rfl (asSl_v _)) ?_;have z:kf a1 x2 x3 a4 x5 x6=(((((kbn a1 x2 ((fromI false x6).1) ((fromI false x6).2)).1))),(kbn a1 x2 ((fromI false x6).1) ((fromI false x6).2)).2.1):=by unfold kf;exact rfl
 rw[z];have G24:=(((G16.trans g18).updr (Nat.le_trans (G20).size (Nat.le_refl _)) u19).updr (Nat.le_trans ((g7.trans g8)).size (Nat.le_refl _)) u21);exact Runs.ret ⟨s18,rfl,n18_21,G24,(o18.of_le G16)⟩
end Go.Ab

/- squeezed -/
set_option maxRecDepth 10000
namespace Go.Ab
open Go.Proofs Go.Num
abbrev FRow:=Bool×(Sl×List Nat)×(Sl×List Nat)
structure FRows(h:AH)(s:Sl)(rows:List FRow):Prop where
 cells:Cells h s 3 (rows.flatMap fun p=>[.bool p.1,p.2.1.1.v,p.2.2.1.v])
 num:∀p∈rows,Nats h p.2.1.1 p.2.1.2
 den:∀p∈rows,Nats h p.2.2.1 p.2.2.2
 short:rows.length≤9223372036854775807
theorem FRows.grow{h h':AH}(g:Grow h h'){s:Sl}{rows:List FRow}(n:FRows h s rows):FRows h' s rows:=⟨n.cells.grow g,fun p hp=>(n.num p hp).grow g,fun p hp=>(n.den p hp).grow g,n.short⟩
theorem kvc:∀(rows:List FRow)(i:Nat)(hi:i<rows.length),
  (rows.flatMap fun p=>[AV.bool p.1,p.2.1.1.v,p.2.2.1.v])[i*3]?=some (AV.bool rows[i].1)∧(rows.flatMap fun p=>[AV.bool p.1,p.2.1.1.v,p.2.2.1.v])[i*3+1]?=some rows[i].2.1.1.v∧(rows.flatMap fun p=>[AV.bool p.1,p.2.1.1.v,p.2.2.1.v])[i*3+2]?=some rows[i].2.2.1.v
 | [],i,hi=>by simp at hi
 | p::rows,0,hi=>by simp
 | p::rows,i+1,hi=>by
  have:=kvc rows i (by simpa using hi);rw[show(i+1)*3=i*3+3 from by omega]
  simpa using this
theorem FRows.len{h:AH}{s:Sl}{rows:List FRow}(n:FRows h s rows):s.len=rows.length:=by
 have:=n.cells.len
 have hl:(rows.flatMap fun p=>[AV.bool p.1,p.2.1.1.v,p.2.2.1.v]).length=rows.length*3:=by
  generalize rows=l
  induction l with
  | nil=>rfl
  | cons a l ih=>rw[List.flatMap_cons,List.length_append,ih];simp;omega
 omega
theorem FRows.at{h:AH}{s:Sl}{rows:List FRow}(n:FRows h s rows){i:Nat}(hi:i<rows.length):∃r,idx s.ref s.len (i:Int) 3=some r∧h.cell (r.add 0)=some (.bool rows[i].1)∧h.cell (r.add 1)=some rows[i].2.1.1.v∧h.cell (r.add 2)=some rows[i].2.2.1.v:=by
 obtain⟨p1,p2,p3⟩:=kvc rows i hi;obtain⟨r,e1,e2⟩:=n.cells.get _ _ p1;obtain⟨r',e3,e4⟩:=n.cells.get _ _ p2;obtain⟨r'',e5,e6⟩:=n.cells.get _ _ p3;rw[e1]at e3 e5;cases e3;cases e5;refine⟨r.add (i*3),?_,by simpa using e2,by rw[Ref.add_add];exact e4,by rw[Ref.add_add];exact e6⟩;rw[e1,kcw _ _ _ _ (by omega) (by rw[n.len];omega)];simp
theorem FRows.one{h:AH}{i:Nat}{a a':Sl}{xs xs':List Nat}{p:Bool}(c:h.has i [.bool p,a.v,a'.v] T.ky)(n:Nats h a xs)(n':Nats h a' xs'):FRows h ⟨some (.new i 0),1,.is 1⟩ [(p,(a,xs),(a',xs'))]:=⟨Cells.of_has c rfl,fun r hr=>by
  simp at hr;subst hr;exact n,fun r hr=>by
  simp at hr;subst hr;exact n',by simp⟩
theorem FRows.two{h:AH}{i:Nat}{a a' b b':Sl}{xs xs' ys ys':List Nat}{p q:Bool}(c:h.has i [.bool p,a.v,a'.v,.bool q,b.v,b'.v] T.ky)(n:Nats h a xs)(n':Nats h a' xs')(m:Nats h b ys)(m':Nats h b' ys') :
  FRows h ⟨some (.new i 0),2,.is 2⟩ [(p,(a,xs),(a',xs')),(q,(b,ys),(b',ys'))]:=⟨Cells.of_has c rfl,fun r hr=>by
  simp at hr;rcases hr with rfl | rfl
  ·exact n
  ·exact m,fun r hr=>by
  simp at hr;rcases hr with rfl | rfl
  ·exact n'
  ·exact m',by simp⟩
theorem kbbs{h:AH}{s t:Sl}{xs ys:List Nat}(n:Nats h s xs)(m:Nats h t ys)(neg:Bool):∃h',go (.fn F.kdm [.agg [.bool neg,s.v,t.v]]) h=some (.bool (!kbb neg xs ys),h')∧Grow h h':=by
 rw[k0j];simp only[kcq];have b0:=AH.has_push h [.bool neg,s.v,t.v] T.ky;have g0:=Grow.push h (.cells [.bool neg,s.v,t.v] T.ky);generalize h.push (.cells [.bool neg,s.v,t.v] T.ky)=h0 at *
 obtain⟨_,h1,e1,rfl,g1⟩:=k82 (n.grow g0) (m.grow g0) neg;exact⟨h1,by simp[b0.cell,e1],g0.trans g1⟩
theorem ktw{s:Sl}{rows:List FRow}:∀(k i:Nat),i+k=rows.length→∀{h:AH},FRows h s rows→
  ∃(j:Int)(h':AH),go (.pt F.khh Td.kme [(0,s.v),(1,.func (.func F.kdm) [] []),(7,.int .i64 (rows.length:Int)),(8,.int .i64 (i:Int))]) h=some (.int .i64 j,h')∧
   (j≥0↔(rows.drop i).all (fun p=>kbb p.1 p.2.1.2 p.2.2.2)=false)∧Grow h h'
 | 0,i,hi,h,n=>by
  rw[kvl,show decide ((i:Int)<(rows.length:Int))=false from by rw[decide_eq_false_iff_not];omega,List.drop_of_length_le (by omega)];exact⟨-1,h,rfl,by simp,Grow.refl h⟩
 | k+1,i,hi,h,n=>by
  have hs:=n.short;obtain⟨r,e1,e2,e3,e3'⟩:=n.at (i:=i) (by omega);have hp:=n.num rows[i] (List.getElem_mem _);have hq:=n.den rows[i] (List.getElem_mem _);obtain⟨h1,e4,g1⟩:=kbbs hp hq rows[i].1;rw[kvl,show decide ((i:Int)<(rows.length:Int))=true from by rw[decide_eq_true_eq];omega,cond_true,e1];simp only[Option.bind_some,e2,e3,e3',asSl_v,kca,e4];rw[List.drop_eq_getElem_cons (by omega),List.all_cons,kq (by omega)];cases hr:kbb rows[i].1 (rows[i].2.1.2) (rows[i].2.2.2)with
  | false=>exact⟨(i:Int),h1,rfl,by simp,g1⟩
  | true =>
   obtain⟨j,h2,e5,e6,g2⟩:=ktw k (i+1) (by omega) (n.grow g1);exact⟨j,h2,e5,by simpa using e6,g1.trans g2⟩
theorem kz6{h:AH}{s:Sl}{rows:List FRow}(n:FRows h s rows):∃h',go (.fn F.kh8 [s.v]) h=some (.bool (rows.all fun p=>kbb p.1 p.2.1.2 p.2.2.2),h')∧Grow h h':=by
 obtain⟨j,h',e1,e2,g⟩:=ktw rows.length 0 (by omega) n;refine⟨h',?_,g⟩;rw[k0h,kbbn,kbac,n.len];rw[show(0:Int)=((0:Nat):Int)from rfl,e1];simp only[Option.bind_some,kb,kca];rw[List.drop_zero]at e2;cases ha:rows.all fun p=>kbb p.1 p.2.1.2 p.2.2.2 with
 | false=>rw[ha]at e2;simp at e2;simp;omega
 | true=>rw[ha]at e2;simp at e2;simp;omega
theorem kn9{h:AH}{i:Nat}{a a' b b':Sl}{xs xs' ys ys':List Nat}{p q:Bool}(c:h.has i [.bool p,a.v,a'.v,.bool q,b.v,b'.v] T.ky)(n:Nats h a xs)(n':Nats h a' xs')(m:Nats h b ys)(m':Nats h b' ys') :
  ∃h',go (.fn F.kh8 [(⟨some (.new i 0),2,.is 2⟩:Sl).v]) h=some (.bool (kbb p xs xs'&&kbb q ys ys'),h')∧Grow h h':=by
 obtain⟨h',e,g⟩:=kz6 (FRows.two c n n' m m');exact⟨h',by rw[e];simp,g⟩
end Go.Ab
