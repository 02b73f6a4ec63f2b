/- Words and laws that the last text joins. -/
import Derived.Test.YtndomkpijjibiaaGreatDoorPS10
import Derived.Test.YtndomkpijjibiaaGreatDoorPU1b
import Derived.Test.YtndomkpijjibiaaGreatDoorPAbsS
set_option linter.unusedVariables false
set_option linter.unusedSimpArgs false
set_option linter.unusedSectionVars false
set_option maxRecDepth 10000
namespace Go.Ab
open Go.Proofs Go.Num
theorem k85{xs ys:List Nat}(lx:∀x∈xs,x<B)(ly:∀x∈ys,x<B)(ty:Trim ys)(hy:2≤ys.length)(hxl:xs.length≤64)(hle:ys.length≤xs.length) :
  Iter khp (.fn xs ys) (digs B (num B xs/num B ys),digs B (num B xs%num B ys)):=by
 obtain⟨k,hk⟩:∃k,ys.length=k+2:=⟨ys.length-2,by omega⟩;have hky:k+1<ys.length:=by omega
 have hy0:0<ys[k+1]:=by
  have hne:ys≠[]:=by intro h;rw[h]at hk;simp at hk
  have:=ty hne;rw[List.getLast_eq_getElem]at this;have e:ys.length-1=k+1:=by omega
  simp only[e]at this;omega
 have hyB:ys[k+1]<18446744073709551616:=ly _ (List.getElem_mem _);obtain⟨hs,hb1,hb2⟩:=kts hyB hy0;obtain⟨r,itr,lr,tr,vr⟩:=kvo (n:=64-bl ys[k+1]) lx hs (by omega);obtain⟨p,itp,lp,tp,vp⟩:=kvo (n:=64-bl ys[k+1]) ly hs (by omega);have hs':64-bl ys[k+1]≤63:=hs;generalize hsd:64-bl ys[k+1]=s at *
 have ps:0<2^s:=Nat.pow_pos (by decide);have e64:=ki8 (show s≤64 by omega)
 have eys:num B ys=num B (ys.take (k+1))+B^(k+1)*ys[k+1]:=by
  have:num B ys=num B (ys.take (k+1+1)):=by rw[List.take_of_length_le (by omega)]
  rw[this,kck B hky]
 have hlow:=num_lt (b:=B) B1 (xs:=ys.take (k+1)) fun x hx=>ly x (List.mem_of_mem_take hx);have hl1:(ys.take (k+1)).length=k+1:=by simp;omega
 rw[hl1]at hlow
 have y1:ys[k+1]+1≤2^(64-s):=by
  have:ys[k+1]<2^(64-s):=Nat.lt_of_mul_lt_mul_right (a:=2^s) (by rw[e64];exact hb2);omega
 have up:num B ys*2^s<B^(k+2):=by
  have h1:num B ys<B^(k+1)*(ys[k+1]+1):=by rw[Nat.mul_add,Nat.mul_one];omega
  have h2:B^(k+1)*(ys[k+1]+1)≤B^(k+1)*2^(64-s):=Nat.mul_le_mul_left _ y1;have h3:num B ys*2^s<B^(k+1)*2^(64-s)*2^s:=Nat.mul_lt_mul_of_pos_right (by omega) ps;rw[Nat.mul_assoc,e64]at h3;exact h3
 have lo:B^(k+1)*9223372036854775808≤num B ys*2^s:=by
  have h1:B^(k+1)*ys[k+1]≤num B ys:=by omega
  have h2:=Nat.mul_le_mul_right (2^s) h1;rw[Nat.mul_assoc]at h2;exact Nat.le_trans (Nat.mul_le_mul_left _ hb1) h2
 have ld:(digs B (num B p)).length=k+2:=by
  rw[vp];refine Nat.le_antisymm ((kbi B2 _ _).2 up) ?_;rcases Nat.lt_or_ge (digs B (num B ys*2^s)).length (k+2)with h | h
  ·have:=(kbi B2 (num B ys*2^s) (k+1)).1 (by omega);omega
  ·exact h
 have hX:num B r<num B p*B^(xs.length+1-(k+2)):=by
  rw[vr,vp];have h1:num B xs*2^s<B^xs.length*2^s:=Nat.mul_lt_mul_of_pos_right (num_lt B1 lx) ps;have h2:B^xs.length*2^s≤B^xs.length*9223372036854775808:=Nat.mul_le_mul_left _ (show 2^s≤2^63 from Nat.pow_le_pow_right (by decide) hs');have h3:=Nat.mul_le_mul_right (B^(xs.length+1-(k+2))) lo;rw[Nat.mul_right_comm,← Nat.pow_add,show k+1+(xs.length+1-(k+2))=xs.length from by omega]at h3;omega
 have key:=ktf (s:=s) (X:=num B xs*2^s) (m:=xs.length+1-(k+2)) (k:=k) (d:=digs B (num B p)) hs' ld (kw4 B2 _) (kh8 B2 _) (by omega) (by omega) (xs.length+1-(k+2)) r (List.replicate (xs.length+1-(k+2)) 0) (Nat.le_refl _) (by rw[lr];omega) (by simp) tr (by simp[num,vr]) (by rw[kv B2];exact hX);rw[kv B2,vp,Nat.mul_div_mul_right _ _ ps,Nat.mul_mod_mul_right,Nat.mul_div_cancel _ ps]at key;refine .next ?_ key;show kjy _ _=_;unfold kjy;have w1:IntKind.wrap .i64 ((ys.length:Int)-1)=((k+1:Nat):Int):=by rw[wrap64 (by omega) (by omega)];omega
 have w2:IntKind.wrap .u64 ((s:Nat):Int)=(s:Int):=ke5 (by omega);have w3:IntKind.wrap .i64 ((r.length:Int)-((digs B (num B p)).length:Int))=((xs.length+1-(k+2):Nat):Int):=by rw[lr,ld,wrap64 (by omega) (by omega)];omega
 rw[w1,kcc hky,Option.bind_some,kbm (by omega),Option.bind_some,Int.toNat_natCast,hsd,w2,ki4 itr,Option.bind_some,ki4 itp,Option.bind_some,w3,kfh (by omega),Option.bind_some,← vp,List.length_replicate,wrap64 (by omega) (by omega)]
theorem kbe3{h:AH}{s t:Sl}{xs ys:List Nat}(n:Nats h s xs)(m:Nats h t ys)(ty:Trim ys)(hy:2≤ys.length)(hxl:xs.length≤64)(hle:ys.length≤xs.length) :
  ∃(a b:Sl)(h':AH),go (.fn kb1 [s.v,t.v]) h=some (.tup [a.v,b.v],h')∧Nats h' a (digs B (num B xs/num B ys))∧Nats h' b (digs B (num B xs%num B ys))∧Grow h h'∧Own h a∧Own h b:=by
 obtain⟨_,h',e,a,b,rfl,k⟩:=k1w (k85 n.lt m.lt ty hy hxl hle) n m;exact⟨a,b,h',e,k⟩
theorem kba9{h:AH}{i:Nat}{a b:Sl}{xs ys:List Nat}(c:h.has i [a.v,b.v] kr)(n:Nats h a xs)(m:Nats h b ys):go (.fn kg3 [(⟨some (.new i 0),2,.is 2⟩:Sl).v]) h=some (.bool (rt xs&&rt ys),h):=by
 have r:Rows h ⟨some (.new i 0),2,.is 2⟩ [(a,xs),(b,ys)]:=⟨Cells.of_has c rfl,fun p hp=>by
  simp at hp;rcases hp with rfl | rfl
  ·exact n
  ·exact m,by simp⟩
 rw[kl7 r];simp
theorem kbbd{h:AH}{s:Sl}{xs:List Nat}(n:Nats h s xs)(d:Int)(c:0<d∧d<18446744073709551616∧xs.length≤8796093022208):∃(s':Sl)(h':AH),go (.fn ket [s.v,.int .u64 d]) h=some (.tup [s'.v,.int .u64 ((num B xs%d.toNat:Nat):Int)],h')∧Nats h' s' (digs B (num B xs/d.toNat))∧Grow h h'∧Own h s':=by
 obtain⟨x,rfl⟩:∃x:Nat,d=(x:Int):=⟨d.toNat,by omega⟩;rw[Int.toNat_natCast];exact k4z n (show x<18446744073709551616 by omega) (by omega) c.2.2
inductive kh4
 | fn (x1:List Nat) (x2:List Nat)
 | no
abbrev kg2:=List Nat×List Nat×Int
noncomputable def kjr(x1 x2:List Nat):Option (kh4⊕kg2) :=
 cond (!((rt x1&&rt x2))) (some (.inr ([],[],1))) (cond (decide ((List.length x2:Int)=0)) (some (.inr ([],[],3))) ((need (Trim x1)).bind fun c7_0=>(need (Trim x2)).bind fun c7_1=>cond (decide ((cmp (num B x1) (num B x2))<0)) ((need (List.length x1≤8796093022208)).bind fun c9_0=>some (.inr ([],x1,0))) (cond (decide ((List.length x2:Int)=1)) ((atI x2 0).bind fun y10=>(need (0<((y10:Int))∧((y10:Int))<18446744073709551616∧List.length x1≤8796093022208)).bind fun c11_0=>(u64P (((num B x1%Int.toNat ((y10:Int)):Nat):Int))).bind fun p12=>some (.inr (digs B (num B x1/Int.toNat ((y10:Int))),digs B p12,0))) ((need (Trim x2)).bind fun c10_0=>(need (2≤List.length x2)).bind fun c10_1=>(need (List.length x1≤64)).bind fun c10_2=>(need (List.length x2≤List.length x1)).bind fun c10_3=>some (.inr (digs B (num B x1/num B x2),digs B (num B x1%num B x2),0))))))
noncomputable def kxd:kh4→Option (kh4⊕kg2)
 | .fn x1 x2=>kjr x1 x2
 | .no=>none
@[reducible] def k2w(h0:AH)(r:kg2)(v:AV)(h':AH):Prop:=∃s1:Sl,∃s2:Sl,v=.tup [s1.v,s2.v,.int .i64 r.2.2]∧Nats h' s1 r.1∧Nats h' s2 r.2.1∧Grow h0 h'∧Own h0 s1∧Own h0 s2
def koo(r:kg2):kh4→Prop
 | .fn x1 x2=>∀{h:AH}{a1:Sl}{a2:Sl},Nats h a1 x1→Nats h a2 x2→Runs (go (.fn kiq [a1.v,a2.v]) h) (k2w h r)
 | .no=>True
theorem kbaw{r:kg2}{o:kh4⊕kg2}{x1 x2:List Nat}(e:kjr x1 x2=some o)(good:GoodS (koo r) r o):koo r (.fn x1 x2):=by
 intro h a1 a2 n1 n2;rw[k6t];unfold kjr at e;rw[n2.len];refine Runs.new fun H3 b3 g3=>?_;refine Runs.step (kba9 b3 (n1.grow g3) (n2.grow g3)) ?_;refine Runs.step (seen rfl) ?_;refine Runs.cond (fun k5=>?_) (fun k5=>?_)
 ·replace e:=(condT k5).symm.trans e;cases e;cases good;exact Runs.ret ⟨(⟨none,0,.is 0⟩:Sl),(⟨none,0,.is 0⟩:Sl),rfl,(Nats.nil _),(Nats.nil _),g3,(Own.nil _),(Own.nil _)⟩
 ·replace e:=(condF k5).symm.trans e;refine Runs.cond (fun k6=>?_) (fun k6=>?_)
  ·replace e:=(condT k6).symm.trans e;cases e;cases good;exact Runs.ret ⟨(⟨none,0,.is 0⟩:Sl),(⟨none,0,.is 0⟩:Sl),rfl,(Nats.nil _),(Nats.nil _),g3,(Own.nil _),(Own.nil _)⟩
  ·replace e:=(condF k6).symm.trans e;obtain⟨c7_0,q7_0,e⟩:=Option.bind_eq_some_iff.1 e;obtain⟨c7_1,q7_1,e⟩:=Option.bind_eq_some_iff.1 e;refine Runs.step (kkr (n1.grow g3) (n2.grow g3)  c7_0.down c7_1.down) ?_;refine Runs.step (seen (kc _ _)) ?_;refine Runs.cond (fun k8=>?_) (fun k8=>?_)
   ·replace e:=(condT k8).symm.trans e;obtain⟨c9_0,q9_0,e⟩:=Option.bind_eq_some_iff.1 e;obtain⟨s9,H9,e9,n9,g9,o9⟩:=khr (n1.grow g3)  c9_0.down;refine Runs.step e9 ?_;refine Runs.step (seen (asSl_v _)) ?_;cases e;cases good;exact Runs.ret ⟨(⟨none,0,.is 0⟩:Sl),s9,rfl,(Nats.nil _),n9,(g3.trans g9),(Own.nil _),(o9.of_le g3)⟩
   ·replace e:=(condF k8).symm.trans e;refine Runs.cond (fun k9=>?_) (fun k9=>?_)
    ·replace e:=(condT k9).symm.trans e;obtain⟨y10,q10,e⟩:=Option.bind_eq_some_iff.1 e;obtain⟨r10,j10,l10⟩:=(n2.grow g3).atI q10;refine Runs.step j10 ?_;refine Runs.step (rdc l10 (kc _ _)) ?_;obtain⟨c11_0,q11_0,e⟩:=Option.bind_eq_some_iff.1 e;obtain⟨s11,H11,e11,n11,g11,o11⟩:=kbbd (n1.grow g3) ((y10:Int))  c11_0.down;refine Runs.step e11 ?_;refine Runs.step rfl ?_;refine Runs.step (seen (asSl_v _)) ?_;refine Runs.step (seen (kc _ _)) ?_;obtain⟨p12,q12,e⟩:=Option.bind_eq_some_iff.1 e;obtain⟨s12,H12,e12,n12,g12,o12⟩:=kvg q12;refine Runs.step e12 ?_;refine Runs.step (seen (asSl_v _)) ?_;cases e;cases good;exact Runs.ret ⟨s11,s12,rfl,(n11.grow g12),n12,((g3.trans g11).trans g12),(o11.of_le g3),(o12.of_le (g3.trans g11))⟩
    ·replace e:=(condF k9).symm.trans e;obtain⟨c10_0,q10_0,e⟩:=Option.bind_eq_some_iff.1 e;obtain⟨c10_1,q10_1,e⟩:=Option.bind_eq_some_iff.1 e;obtain⟨c10_2,q10_2,e⟩:=Option.bind_eq_some_iff.1 e;obtain⟨c10_3,q10_3,e⟩:=Option.bind_eq_some_iff.1 e;obtain⟨s10,s10b,H10,e10,n10,n10b,g10,o10,o10b⟩:=kbe3 (n1.grow g3) (n2.grow g3)  c10_0.down c10_1.down c10_2.down c10_3.down;refine Runs.step e10 ?_;refine Runs.step rfl ?_;refine Runs.step (seen (asSl_v _)) ?_;refine Runs.step (seen (asSl_v _)) ?_;cases e;cases good;exact Runs.ret ⟨s10,s10b,rfl,n10,n10b,(g3.trans g10),(o10.of_le g3),(o10b.of_le g3)⟩
theorem kbff{s:kh4}{r:kg2}(it:Iter kxd s r):koo r s:=Iter.ind (fun s o e good=>by
 cases s with
 | fn x1 x2=>exact @kbaw _ _ x1 x2 e good
 | no=>exact True.intro
 ) it
def divN(xs ys:List Nat):List Nat×List Nat×Int :=
 if rt xs=true∧rt ys=true then(if ys=[]then([],[],3)else(digs B (num B xs/num B ys),digs B (num B xs%num B ys),0))else([],[],1)
theorem kbbk{b:Nat}(hb:1≤b){xs:List Nat}(t:Trim xs)(h:xs≠[]):0<num b xs:=by
 rcases Nat.eq_zero_or_pos (num b xs)with e | e
 ·exact absurd (kn4 hb t e) h
 ·exact e
theorem cmp_lt{a b:Nat}:cmp a b<0↔a<b:=by
 unfold cmp;by_cases h:a<b
 ·rw[if_pos h];omega
 ·rw[if_neg h];by_cases h2:a=b
  ·rw[if_pos h2];omega
  ·rw[if_neg h2];omega
theorem kbb0{xs ys:List Nat}(lx:∀x∈xs,x<B)(ly:∀x∈ys,x<B):Iter kxd (.fn xs ys) (divN xs ys):=by
 refine .done ?_;show kjr _ _=_;unfold kjr divN;cases hx:rt xs with
 | false=>simp
 | true =>
  cases hy:rt ys with
  | false=>simp
  | true =>
   obtain⟨lx64,tx⟩:=rt_iff.1 hx;obtain⟨ly64,ty⟩:=rt_iff.1 hy;simp only[Bool.and_self,Bool.not_true,cond_false,and_self,if_true];by_cases h0:ys=[]
   ·subst h0;rfl
   ·have hl:ys.length≠0:=by simpa using h0
    have hp:=kbbk B1 ty h0;rw[if_neg h0,condF (by rw[decide_eq_false_iff_not];omega),kbm tx,Option.bind_some,kbm ty,Option.bind_some];by_cases hc:num B xs<num B ys
    ·rw[condT (by rw[decide_eq_true_eq,cmp_lt];exact hc),kbm (by omega),Option.bind_some,Nat.div_eq_of_lt hc,Nat.mod_eq_of_lt hc,kcm,kgn B2 lx tx]
    ·rw[condF (by rw[decide_eq_false_iff_not,cmp_lt];exact hc)];by_cases h1:ys.length=1
     ·obtain⟨y,rfl⟩:=List.length_eq_one_iff.1 h1;have hy:y<18446744073709551616:=ly y (by simp);have e:num B [y]=y:=by simp[num]
      rw[e]at hp⊢;have hm:=Nat.mod_lt (num B xs) hp;have a0:=kcc (xs:=[y]) (i:=0) (by simp);rw[show((0:Nat):Int)=0 from rfl]at a0;rw[condT (by rw[decide_eq_true_eq];omega),a0,Option.bind_some];rw[List.getElem_cons_zero,kbm ⟨by omega,by omega,by omega⟩,Option.bind_some,Int.toNat_natCast,kb4 (by omega),Option.bind_some]
     ·have hle:=kx5 lx ly ty (Nat.le_of_not_lt hc);rw[condF (by rw[decide_eq_false_iff_not];omega),Option.bind_some,kbm (by omega),Option.bind_some,kbm lx64,Option.bind_some,kbm hle,Option.bind_some]
theorem kue{h:AH}{s t:Sl}{xs ys:List Nat}(n:Nats h s xs)(m:Nats h t ys):∃(a b:Sl)(h':AH),go (.fn kiq [s.v,t.v]) h=some (.tup [a.v,b.v,.int .i64 (divN xs ys).2.2],h')∧Nats h' a (divN xs ys).1∧Nats h' b (divN xs ys).2.1∧Grow h h'∧Own h a∧Own h b:=by
 obtain⟨_,h',e,a,b,rfl,k⟩:=kbff (kbb0 n.lt m.lt) n m;exact⟨a,b,h',e,k⟩
inductive kfn
 | fn (x1:List Nat) (x2:List Nat)
 | p4 (x1:List Nat) (x2:List Nat)
abbrev kee:=List Nat×Int
noncomputable def kek(x1 x2:List Nat):Option (kfn⊕kee) :=
 cond (!(rt x1)) (some (.inr ([],1))) (cond (!(rt x2)) (some (.inr ([],1))) ((need (List.length x1≤8796093022208)).bind fun c7_0=>(need (List.length x2≤8796093022208)).bind fun c8_0=>some (.inl (.p4 x1 x2))))
noncomputable def kgd(x1 x2:List Nat):Option (kfn⊕kee) :=
 cond (decide ((List.length x2:Int)>0)) (some (.inl (.p4 x2 ((divN x1 x2).2.1)))) (some (.inr (x1,0)))
noncomputable def kq5:kfn→Option (kfn⊕kee)
 | .fn x1 x2=>kek x1 x2
 | .p4 x1 x2=>kgd x1 x2
@[reducible] def kri(h0:AH)(r:kee)(v:AV)(h':AH):Prop:=∃s1:Sl,v=.tup [s1.v,.int .i64 r.2]∧Nats h' s1 r.1∧Grow h0 h'∧Own h0 s1
def ki0(r:kee):kfn→Prop
 | .fn x1 x2=>∀{h:AH}{a1:Sl}{a2:Sl},Nats h a1 x1→Nats h a2 x2→Runs (go (.fn kfj [a1.v,a2.v]) h) (kri h r)
 | .p4 x1 x2=>∀{h0 h:AH}{a1:Sl}{a2:Sl},Grow h0 h→Nats h a1 x1→Nats h a2 x2→Own h0 a1→Own h0 a2→Runs (go (.pt kfj kmr [(0,a1.v),(1,a2.v)]) h) (kri h0 r)
theorem k64{r:kee}{o:kfn⊕kee}{x1 x2:List Nat}(e:kek x1 x2=some o)(good:GoodS (ki0 r) r o):ki0 r (.fn x1 x2):=by
 intro h a1 a2 n1 n2;rw[kbbg];unfold kek at e;refine Runs.step (ked n1) ?_;refine Runs.step (seen rfl) ?_;refine Runs.cond (fun k4=>?_) (fun k4=>?_)
 ·replace e:=(condT k4).symm.trans e;cases e;cases good;exact Runs.ret ⟨(⟨none,0,.is 0⟩:Sl),rfl,(Nats.nil _),(Grow.refl _),(Own.nil _)⟩
 ·replace e:=(condF k4).symm.trans e;refine Runs.step (ked n2) ?_;refine Runs.step (seen rfl) ?_;refine Runs.cond (fun k6=>?_) (fun k6=>?_)
  ·replace e:=(condT k6).symm.trans e;cases e;cases good;exact Runs.ret ⟨(⟨none,0,.is 0⟩:Sl),rfl,(Nats.nil _),(Grow.refl _),(Own.nil _)⟩
  ·replace e:=(condF k6).symm.trans e;obtain⟨c7_0,q7_0,e⟩:=Option.bind_eq_some_iff.1 e;obtain⟨s7,H7,e7,n7,g7,o7⟩:=khr n1  c7_0.down;refine Runs.step e7 ?_;refine Runs.step (seen (asSl_v _)) ?_;obtain⟨c8_0,q8_0,e⟩:=Option.bind_eq_some_iff.1 e;obtain⟨s8,H8,e8,n8,g8,o8⟩:=khr (n2.grow g7)  c8_0.down;refine Runs.step e8 ?_;refine Runs.step (seen (asSl_v _)) ?_;cases e;exact good (g7.trans g8) (n7.grow g8) n8 (o7.of_le (Grow.refl _)) (o8.of_le g7)
theorem kbd9{r:kee}{o:kfn⊕kee}{x1 x2:List Nat}(e:kgd x1 x2=some o)(good:GoodS (ki0 r) r o):ki0 r (.p4 x1 x2):=by
 intro h0 h a1 a2 g0 n1 n2 ow1 ow2;rw[k7j];unfold kgd at e;rw[n2.len];refine Runs.cond (fun k3=>?_) (fun k3=>?_)
 ·replace e:=(condT k3).symm.trans e;obtain⟨s4,s4b,H4,e4,n4,n4b,g4,o4,o4b⟩:=kue n1 n2;refine Runs.step e4 ?_;refine Runs.step rfl ?_;refine Runs.step (seen (asSl_v _)) ?_;refine Runs.step (seen (asSl_v _)) ?_;refine Runs.step (seen (kc _ _)) ?_;cases e;exact good (g0.trans g4) (n2.grow g4) n4b (ow2.of_le (Grow.refl _)) (o4b.of_le g0)
 ·replace e:=(condF k3).symm.trans e;cases e;cases good;exact Runs.ret ⟨a1,rfl,n1,g0,(ow1.of_le (Grow.refl _))⟩
theorem kbb3{s:kfn}{r:kee}(it:Iter kq5 s r):ki0 r s:=Iter.ind (fun s o e good=>by
 cases s with
 | fn x1 x2=>exact @k64 _ _ x1 x2 e good
 | p4 x1 x2=>exact @kbd9 _ _ x1 x2 e good
 ) it
def gcdN(xs ys:List Nat):List Nat×Int:=if rt xs=true∧rt ys=true then(digs B (Nat.gcd (num B xs) (num B ys)),0)else([],1)
theorem k8b{xs ys:List Nat}(hx:rt xs=true)(hy:rt ys=true)(h0:ys≠[]):(divN xs ys).2.1=digs B (num B xs%num B ys):=by
 simp[divN,hx,hy,h0]
theorem kg6{n:Nat}(h:n<B^64):rt (digs B n)=true:=rt_iff.2 ⟨(kbi B2 n 64).2 h,kh8 B2 n⟩
theorem kug{xs:List Nat}(hl:∀x∈xs,x<B)(h:rt xs=true):num B xs<B^64:=by
 have h1:=num_lt B1 hl;have h2:B^xs.length≤B^64:=Nat.pow_le_pow_right B1 (rt_iff.1 h).1;omega
theorem k8s:∀(b a:Nat),a<B^64→b<B^64→Iter kq5 (.p4 (digs B a) (digs B b)) (digs B (Nat.gcd a b),0):=by
 intro b
 induction b using Nat.strongRecOn with
 | ind b ih =>
  intro a ha hb;by_cases h0:b=0
  ·subst h0;refine .done ?_;show kgd _ _=_;unfold kgd;rw[kcm,Nat.gcd_zero_right];rfl
  ·have hm:=Nat.mod_lt a (show 0<b by omega);have hne:digs B b≠[]:=fun h=>h0 ((kqs B2).1 h);have hl:(digs B b).length≠0:=by simpa using hne
   refine .next (s':=.p4 (digs B b) (digs B (a%b))) ?_ (by
    have:=ih (a%b) hm b hb (by omega);rwa[Nat.gcd_comm b,← Nat.gcd_rec,Nat.gcd_comm b]at this)
   show kgd _ _=_;unfold kgd;rw[condT (by rw[decide_eq_true_eq];omega),k8b (kg6 ha) (kg6 hb) hne,kv B2,kv B2]
theorem k7g{xs ys:List Nat}(lx:∀x∈xs,x<B)(ly:∀x∈ys,x<B):Iter kq5 (.fn xs ys) (gcdN xs ys):=by
 unfold gcdN;cases hx:rt xs with
 | false =>
  refine .done ?_;show kek _ _=_;unfold kek;simp[hx]
 | true =>
  cases hy:rt ys with
  | false =>
   refine .done ?_;show kek _ _=_;unfold kek;simp[hx,hy]
  | true =>
   obtain⟨lx64,tx⟩:=rt_iff.1 hx;obtain⟨ly64,ty⟩:=rt_iff.1 hy;have key:=k8s (num B ys) (num B xs) (kug lx hx) (kug ly hy);rw[kgn B2 lx tx,kgn B2 ly ty]at key;simp only[and_self,if_true];refine .next ?_ key;show kek _ _=_;unfold kek;rw[hx,hy,kbm (by omega),Option.bind_some,kbm (by omega),Option.bind_some];rfl
theorem kbbb{h:AH}{s t:Sl}{xs ys:List Nat}(n:Nats h s xs)(m:Nats h t ys):Runs (go (.fn kfj [s.v,t.v]) h) (kri h (gcdN xs ys)):=kbb3 (k7g n.lt m.lt) n m
theorem kw6:18446744073709551616*18446744073709551616≤B^64:=by
 have:B^64=B*B*B^62:=by
  rw[show 64=2+62 from rfl,Nat.pow_add,Nat.pow_two]
 rw[this];have h:1≤B^62:=Nat.pow_pos B1;have:=Nat.mul_le_mul_left (B*B) h;rw[Nat.mul_one]at this;exact this
def smallN(xs:List Nat):Nat×Bool:=if rt xs=true∧xs.length≤1 then(xs.getD 0 0,true)else(0,false)
theorem k7i{h:AH}{s:Sl}{xs:List Nat}(n:Nats h s xs):go (.fn kpo [s.v]) h=some (.tup [.int .u64 ((smallN xs).1:Int),.bool (smallN xs).2],h):=by
 rw[kbfe,ked n];have hl:=n.len;simp only[Option.bind_some,khz];cases hrt:rt xs with
 | false=>simp[smallN,hrt]
 | true =>
  simp only[Bool.not_true,cond_false];by_cases h1:xs.length≤1
  ·rw[show decide ((s.len:Int)>1)=false from by rw[decide_eq_false_iff_not];omega,cond_false];simp only[smallN,hrt,h1,and_self,if_true];by_cases h0:xs.length=0
   ·rw[show decide ((s.len:Int)=0)=true from by rw[decide_eq_true_eq];omega,cond_true,List.length_eq_zero_iff.1 h0];rfl
   ·rw[show decide ((s.len:Int)=0)=false from by rw[decide_eq_false_iff_not];omega,cond_false];obtain⟨r,e1,e2⟩:=n.at (i:=0) (by omega);rw[show idx s.ref s.len 0 1=some r from e1];simp only[Option.bind_some,e2,kc];rw[kci (by omega)]
  ·rw[show decide ((s.len:Int)>1)=true from by rw[decide_eq_true_eq];omega];simp[smallN,h1]
end Go.Ab
namespace Go.Ab
end Go.Ab
set_option maxRecDepth 10000
namespace Go.Ab
open Go.Proofs Go.Num
end Go.Ab
namespace Go.Ab
variable{P:Program}
inductive All2{α β:Type}(R:α→β→Prop):List α→List β→Prop
 | nil:All2 R [] []
 | cons {a:α} {b:β} {ls:List α} {bs:List β}:R a b→All2 R ls bs→All2 R (a::ls) (b::bs)
section
variable{α β:Type}{R S:α→β→Prop}
theorem All2.imp(f:∀a b,R a b→S a b){ls:List α}{bs:List β}(a:All2 R ls bs):All2 S ls bs:=by
 induction a with
 | nil=>exact .nil
 | cons h _ ih=>exact .cons (f _ _ h) ih
theorem All2.length{ls:List α}{bs:List β}(a:All2 R ls bs):ls.length=bs.length:=by
 induction a with
 | nil=>rfl
 | cons h _ ih=>simp[ih]
theorem All2.get{ls:List α}{bs:List β}(a:All2 R ls bs):∀{i:Nat}{y:β},bs[i]?=some y→∃x,ls[i]?=some x∧R x y:=by
 induction a with
 | nil=>intro i y h;simp at h
 | cons h _ ih =>
  intro i y hy;cases i with
  | zero=>cases hy;exact⟨_,rfl,h⟩
  | succ i=>exact ih hy
theorem All2.snoc{ls:List α}{bs:List β}(a:All2 R ls bs){x:α}{y:β}(h:R x y):All2 R (ls++[x]) (bs++[y]):=by
 induction a with
 | nil=>exact .cons h .nil
 | cons h' _ ih=>exact .cons h' ih
end
structure El(α:Type) where
 w:Nat
 pos:0<w
 has:AH→List AV→α→Prop
 av:Nat→List AV→α→Prop
 len:∀{h:AH}{cs:List AV}{a:α},has h cs a→cs.length=w
 grow:∀{h h':AH}{cs:List AV}{a:α},Grow h h'→has h cs a→has h' cs a
 upd:∀{h h':AH}{i:Nat}{cs:List AV}{a:α},has h cs a→av i cs a→Upd h h' i→has h' cs a
 new:∀{h:AH}{i:Nat}{cs:List AV}{a:α},has h cs a→h.blks.size≤i→av i cs a
def El.int(k:IntKind):El Int where
 w:=1
 pos:=by decide
 has _ cs n:=cs=[.int k n]
 av _ _ _:=True
 len e:=by rw[e];rfl
 grow _ e:=e
 upd e _ _:=e
 new _ _:=trivial
def El.bool:El Bool where
 w:=1
 pos:=by decide
 has _ cs b:=cs=[.bool b]
 av _ _ _:=True
 len e:=by rw[e];rfl
 grow _ e:=e
 upd e _ _:=e
 new _ _:=trivial
theorem Sl.vs_inj{s t:Sl}(h:[Sl.v s]=[Sl.v t]):s=t:=by
 cases s;cases t;simp only[Sl.v,List.cons.injEq,AV.slice.injEq,and_true]at h;obtain⟨rfl,rfl,rfl⟩:=h;rfl
def El.nats:El (List Nat) where
 w:=1
 pos:=by decide
 has h cs xs:=∃s,cs=[Sl.v s]∧Nats h s xs
 av i cs xs:=∃s,cs=[Sl.v s]∧Av s i xs
 len:=fun⟨s,e,_⟩=>by rw[e];rfl
 grow g:=fun⟨s,e,n⟩=>⟨s,e,n.grow g⟩
 upd:=fun⟨s,e,n⟩ ⟨t,e',a⟩ u=>by
  rw[e]at e';cases Sl.vs_inj e';exact⟨s,e,n.upda a u⟩
 new:=fun⟨s,e,n⟩ hi=>⟨s,e,Av.of_base n hi⟩
def El.pair{α β:Type}(A:El α)(B:El β):El (α×β) where
 w:=A.w+B.w
 pos:=by have:=A.pos;omega
 has h cs p:=∃c1 c2,cs=c1++c2∧A.has h c1 p.1∧B.has h c2 p.2
 av i cs p:=∃c1 c2,cs=c1++c2∧c1.length=A.w∧A.av i c1 p.1∧B.av i c2 p.2
 len:=fun⟨c1,c2,e,a,b⟩=>by rw[e,List.length_append,A.len a,B.len b]
 grow g:=fun⟨c1,c2,e,a,b⟩=>⟨c1,c2,e,A.grow g a,B.grow g b⟩
 upd:=fun⟨c1,c2,e,a,b⟩ ⟨d1,d2,e',l,a',b'⟩ u=>by
  rw[e]at e';obtain⟨rfl,rfl⟩:=List.append_inj e' (by rw[A.len a,l]);exact⟨c1,c2,e,A.upd a a' u,B.upd b b' u⟩
 new:=fun⟨c1,c2,e,a,b⟩ hi=>⟨c1,c2,e,A.len a,A.new a hi,B.new b hi⟩
theorem kei{w:Nat}:∀{rows:List (List AV)},(∀r∈rows,r.length=w)→rows.flatten.length=rows.length*w
 | [],_=>by simp
 | r::rows,h=>by
  rw[List.flatten_cons,List.length_append,kei (fun q hq=>h q (by simp[hq])),h r (by simp),List.length_cons,Nat.add_mul];omega
theorem knw{w:Nat}:∀{rows:List (List AV)},(∀r∈rows,r.length=w)→∀{i:Nat}{r:List AV}{k:Nat}{v:AV},rows[i]?=some r→r[k]?=some v→rows.flatten[i*w+k]?=some v
 | [],_,i,r,k,v,hi,_=>by simp at hi
 | q::rows,h,0,r,k,v,hi,hk=>by
  cases hi;rw[List.flatten_cons,List.getElem?_append_left (by have:=(List.getElem?_eq_some_iff.1 hk).1;omega)]
  simpa using hk
 | q::rows,h,i+1,r,k,v,hi,hk=>by
  have:=knw (fun q hq=>h q (by simp[hq])) (show rows[i]?=some r from hi) hk;rw[List.flatten_cons,List.getElem?_append_right (by rw[h q (by simp),Nat.add_mul];omega),h q (by simp),show(i+1)*w+k-w=i*w+k from by rw[Nat.add_mul];omega];exact this
def atX{α:Type}(xs:List α)(i:Int):Option α:=if 0≤i then xs[i.toNat]? else none
theorem kbde{α:Type}{xs:List α}{i:Int}{y:α}(q:atX xs i=some y):∃j:Nat,i=(j:Int)∧xs[j]?=some y:=by
 unfold atX at q;split at q
 ·exact⟨i.toNat,by omega,q⟩
 ·cases q
theorem kd2{α:Type}{xs:List α}{i:Nat}(h:i<xs.length):atX xs (i:Int)=some xs[i]:=by
 unfold atX;rw[if_pos (by omega),Int.toNat_natCast,List.getElem?_eq_getElem h]
structure Lies(h:AH)(r:Ref)(cs:List AV):Prop where
 at':∀k v,cs[k]?=some v→h.cell (r.add k)=some v
theorem Lies.rd{A:Type}{f:AV→Option A}{h h':AH}{r:Ref}{cs:List AV}(l:Lies h r cs)(g:Grow h h')(k:Nat){v:AV}{x:A}(hk:cs[k]?=some v)(hf:f v=some x):(h'.cell (r.add k)).bind f=some x:=by
 rw[g.cell_some (l.at' k v hk)];exact hf
theorem Lies.rd0{A:Type}{f:AV→Option A}{h h':AH}{r:Ref}{cs:List AV}(l:Lies h r cs)(g:Grow h h'){v:AV}{x:A}(hk:cs[0]?=some v)(hf:f v=some x):(h'.cell r).bind f=some x:=by
 have:=l.rd g 0 hk hf;rwa[Ref.add_zero]at this
theorem AH.kill_Upd(h:AH)(i:Nat):Upd h (h.kill (some (.new i 0))) i :=
 ⟨rfl,by simp[AH.kill],fun j hj _=>by
  show(h.blks.setIfInBounds i .dead)[j]?=_;rw[Array.getElem?_setIfInBounds_ne (fun x=>hj x.symm)]⟩
theorem kcd{h:AH}{i n:Nat}{cs:List AV}{e elem:TypeId}(b:h.has i cs e)(hl:n*P.cellsOf elem=cs.length):kbb P elem (Sl.v ⟨some (.new i 0),n,.is n⟩) h=some (cs,n) :=
 kmb (Cells.of_has b hl)
section
variable{Q:AV→AH→Prop}
theorem Runs.putAt{h:AH}{i o:Nat}{cs cs' vs:List AV}{e:TypeId}{K:AH→Option (AV×AH)}(b:h.has i cs e)(hl:o+vs.length≤cs.length)(hc:cs.take o++vs++cs.drop (o+vs.length)=cs')(H:∀h',h'.has i cs' e→Upd h h' i→Runs (K h') Q):Runs ((h.puts ((Ref.new i 0).add o) vs).bind K) Q:=by
 subst hc;rw[Ref.add_new,Nat.zero_add,b.puts hl];exact H _ (AH.has_upd b _ e) (AH.upd_Upd h i _ e)
end
end Go.Ab
namespace Go.Ab
variable{P:Program}
def UpdO(h h':AH):Option Nat→Prop
 | none=>Grow h h'
 | some k=>Upd h h' k
def LeO(n:Nat):Option Nat→Prop
 | none=>True
 | some k=>n≤k
def LtO(n:Nat):Option Nat→Prop
 | none=>True
 | some k=>k<n
def NeO(j:Nat):Option Nat→Prop
 | none=>True
 | some k=>j≠k
def NeOO:Option Nat→Option Nat→Prop
 | none,_=>True
 | some j,i=>NeO j i
theorem LeO.trans{m n:Nat}(h:m≤n):∀{i:Option Nat},LeO n i→LeO m i
 | none,_=>trivial
 | some k,l=>Nat.le_trans h l
theorem Grow.updo{h h1 h2:AH}(g:Grow h h1):∀{i:Option Nat},LeO h.blks.size i→UpdO h1 h2 i→Grow h h2
 | none,_,u=>g.trans u
 | some k,l,u=>g.updr l u
theorem AH.has.updo{h1 h2:AH}{j:Nat}{cs:List AV}{e:TypeId}(b:h1.has j cs e):∀{i:Option Nat},NeO j i→UpdO h1 h2 i→h2.has j cs e
 | none,_,u=>u.has b
 | some k,l,u=>AH.has.updr b l u
variable{α:Type}{E:El α}{elem:TypeId}
theorem k8e{n m:Nat}(h:growOk P n elem m=true):n≤9223372036854775807:=by
 unfold growOk at h;rw[Bool.and_eq_true,decide_eq_true_eq]at h;have:=h.1.2;simp only[kg]at this;omega
end Go.Ab
namespace Go.Ab
variable{P:Program}
abbrev Fp:=Nat→Prop
def Fp.no:Fp:=fun _=>False
def Fp.all:Fp:=fun _=>True
def Fp.or(S T:Fp):Fp:=fun j=>S j∨T j
def Fp.below(n:Nat):Fp:=fun j=>j<n
def Fp.from(n:Nat):Fp:=fun j=>n≤j
def Fp.sl(s:Sl)(xs:List Nat):Fp:=fun j=>¬Av s j xs
theorem Fp.not_no{i:Nat}:¬Fp.no i:=fun h=>h
def NotO(S:Fp):Option Nat→Prop
 | none=>True
 | some k=>¬S k
theorem NotO.no:∀{i:Option Nat},NotO Fp.no i
 | none=>trivial
 | some _=>Fp.not_no
structure Ef(α:Type) where
 w:Nat
 pos:0<w
 has:AH→Fp→List AV→α→Prop
 len:∀{h:AH}{S:Fp}{cs:List AV}{a:α},has h S cs a→cs.length=w
 grow:∀{h h':AH}{S:Fp}{cs:List AV}{a:α},Grow h h'→has h S cs a→has h' S cs a
 mono:∀{h:AH}{S T:Fp}{cs:List AV}{a:α},(∀j,S j→T j)→has h S cs a→has h T cs a
 upd:∀{h h':AH}{S:Fp}{i:Nat}{cs:List AV}{a:α},¬S i→Upd h h' i→has h S cs a→has h' S cs a
 bound:∀{h:AH}{S:Fp}{cs:List AV}{a:α},has h S cs a→has h (fun j=>S j∧j<h.blks.size) cs a
def Ef.int(k:IntKind):Ef Int where
 w:=1
 pos:=by decide
 has _ _ cs n:=cs=[.int k n]
 len e:=by rw[e];rfl
 grow _ e:=e
 mono _ e:=e
 upd _ _ e:=e
 bound e:=e
def Ef.bool:Ef Bool where
 w:=1
 pos:=by decide
 has _ _ cs b:=cs=[.bool b]
 len e:=by rw[e];rfl
 grow _ e:=e
 mono _ e:=e
 upd _ _ e:=e
 bound e:=e
def Ef.str:Ef ByteArray where
 w:=1
 pos:=by decide
 has _ _ cs b:=cs=[.str b]
 len e:=by rw[e];rfl
 grow _ e:=e
 mono _ e:=e
 upd _ _ e:=e
 bound e:=e
def Ef.nats:Ef (List Nat) where
 w:=1
 pos:=by decide
 has h S cs xs:=∃s,cs=[Sl.v s]∧Nats h s xs∧∀j,¬Av s j xs→S j
 len:=fun⟨s,e,_,_⟩=>by rw[e];rfl
 grow g:=fun⟨s,e,n,a⟩=>⟨s,e,n.grow g,a⟩
 mono m:=fun⟨s,e,n,a⟩=>⟨s,e,n,fun j k=>m j (a j k)⟩
 upd no u:=fun⟨s,e,n,a⟩=>⟨s,e,n.upda (Classical.byContradiction fun k=>no (a _ k)) u,a⟩
 bound:=fun{h} _ _ _ ⟨s,e,n,a⟩=>⟨s,e,n,fun j k=>⟨a j k,by
  rcases Nat.lt_or_ge j h.blks.size with h1 | h1
  ·exact h1
  ·exact absurd (Av.of_base n h1) k⟩⟩
def Ef.pair{α β:Type}(A:Ef α)(B:Ef β):Ef (α×β) where
 w:=A.w+B.w
 pos:=by have:=A.pos;omega
 has h S cs p:=∃c1 c2,cs=c1++c2∧A.has h S c1 p.1∧B.has h S c2 p.2
 len:=fun⟨c1,c2,e,a,b⟩=>by rw[e,List.length_append,A.len a,B.len b]
 grow g:=fun⟨c1,c2,e,a,b⟩=>⟨c1,c2,e,A.grow g a,B.grow g b⟩
 mono m:=fun⟨c1,c2,e,a,b⟩=>⟨c1,c2,e,A.mono m a,B.mono m b⟩
 upd no u:=fun⟨c1,c2,e,a,b⟩=>⟨c1,c2,e,A.upd no u a,B.upd no u b⟩
 bound:=fun⟨c1,c2,e,a,b⟩=>⟨c1,c2,e,A.bound a,B.bound b⟩
theorem All2.set{α β:Type}{R:α→β→Prop}{l:List α}{m:List β}(a:All2 R l m){x:α}{y:β}(h:R x y):∀j:Nat,All2 R (l.set j x) (m.set j y):=by
 induction a with
 | nil=>intro j;exact .nil
 | cons h1 h2 ih =>
  intro j;cases j with
  | zero=>exact .cons h h2
  | succ j=>exact .cons h1 (ih j)
def RefIn(S:Fp)(s:Sl)(n:Nat):Prop:=n=0∨∀j o,s.ref=some (.new j o)→S j
structure Sq{α:Type}(E:Ef α)(h:AH)(S:Fp)(s:Sl)(xs:List α):Prop where
 rows:∃rows,Cells h s E.w rows.flatten∧All2 (E.has h S) rows xs
 len:s.len=xs.length
 short:xs.length≤9223372036854775807
 at':RefIn S s xs.length
variable{α:Type}{E:Ef α}
theorem Ef.rows{h:AH}{S:Fp}{rows:List (List AV)}{xs:List α}(a:All2 (E.has h S) rows xs):∀r∈rows,r.length=E.w:=by
 induction a with
 | nil=>simp
 | cons h' _ ih =>
  intro r hr;rcases List.mem_cons.1 hr with rfl | hr
  ·exact E.len h'
  ·exact ih r hr
theorem Cells.updn{h h':AH}{s:Sl}{n:Nat}{flat:List AV}(c:Cells h s n flat){i:Nat}(hi:∀o,s.ref≠some (.new i o))(u:Upd h h' i):Cells h' s n flat :=
 ⟨c.fit,c.len,fun k v hv=>by
  obtain⟨r,e1,e2⟩:=c.get k v hv;refine⟨r,e1,u.cell e2 fun o he=>?_⟩;cases r with
  | old a=>cases he
  | new j p =>
   simp only[Ref.add_new,Ref.new.injEq]at he;exact hi p (by rw[e1,he.1])⟩
theorem Sq.grow{h h':AH}{S:Fp}{s:Sl}{xs:List α}(n:Sq E h S s xs)(g:Grow h h'):Sq E h' S s xs:=by
 obtain⟨⟨rows,c,a⟩,l,sh,at'⟩:=n;exact⟨⟨rows,c.grow g,a.imp fun _ _=>E.grow g⟩,l,sh,at'⟩
theorem Sq.mono{h:AH}{S T:Fp}{s:Sl}{xs:List α}(n:Sq E h S s xs)(m:∀j,S j→T j):Sq E h T s xs:=by
 obtain⟨⟨rows,c,a⟩,l,sh,at'⟩:=n;exact⟨⟨rows,c,a.imp fun _ _=>E.mono m⟩,l,sh,at'.imp id fun f j o e=>m j (f j o e)⟩
theorem Sq.nil(E:Ef α)(h:AH)(S:Fp):Sq E h S ⟨none,0,.is 0⟩ []:=⟨⟨[],Cells.nil h _,.nil⟩,rfl,by simp,.inl rfl⟩
theorem Sq.upd{h h':AH}{S:Fp}{s:Sl}{xs:List α}(n:Sq E h S s xs){i:Nat}(no:¬S i)(u:Upd h h' i):Sq E h' S s xs:=by
 obtain⟨⟨rows,c,a⟩,l,sh,at'⟩:=n;refine⟨⟨rows,?_,a.imp fun _ _=>E.upd no u⟩,l,sh,at'⟩;rcases at' with e | f
 ·have hr:rows.length=0:=by rw[All2.length a,e]
  have hr:rows=[]:=List.length_eq_zero_iff.1 hr;subst hr;exact⟨c.fit,c.len,fun k v hv=>by simp at hv⟩
 ·exact c.updn (fun o ho=>no (f i o ho)) u
theorem Sq.bound{h:AH}{S:Fp}{s:Sl}{xs:List α}(n:Sq E h S s xs):Sq E h (fun j=>S j∧j<h.blks.size) s xs:=by
 obtain⟨⟨rows,c,a⟩,l,sh,at'⟩:=n;refine⟨⟨rows,c,a.imp fun _ _=>E.bound⟩,l,sh,?_⟩;rcases Nat.eq_zero_or_pos xs.length with e | e
 ·exact .inl e
 ·refine .inr fun j o hj=>⟨(at'.resolve_left (by omega)) j o hj,?_⟩;have hf:=kei (w:=E.w) (rows:=rows) (Ef.rows a)
  have h0:0<rows.flatten.length:=by
   rw[hf,All2.length a];exact Nat.mul_pos e E.pos
  obtain⟨r,e1,e2⟩:=c.get 0 _ (List.getElem?_eq_getElem h0);rw[hj]at e1;cases e1;have:=AH.cell_inn e2;rw[Ref.add_new]at this;exact this
def Ef.seq{α:Type}(E:Ef α):Ef (List α) where
 w:=1
 pos:=by decide
 has h S cs xs:=∃s,cs=[Sl.v s]∧Sq E h S s xs
 len:=fun⟨s,e,_⟩=>by rw[e];rfl
 grow g:=fun⟨s,e,n⟩=>⟨s,e,n.grow g⟩
 mono m:=fun⟨s,e,n⟩=>⟨s,e,n.mono m⟩
 upd no u:=fun⟨s,e,n⟩=>⟨s,e,n.upd no u⟩
 bound:=fun⟨s,e,n⟩=>⟨s,e,n.bound⟩
theorem Sq.at{h:AH}{S:Fp}{s:Sl}{xs:List α}(n:Sq E h S s xs){i:Int}{y:α}(q:atX xs i=some y):∃(r:Ref)(cs:List AV),idx s.ref xs.length i E.w=some r∧E.has h S cs y∧Lies h r cs:=by
 obtain⟨⟨rows,c,a⟩,l,sh,at'⟩:=n;obtain⟨j,rfl,hj⟩:=kbde q;obtain⟨cs,e1,e2⟩:=a.get hj;have hjl:=(List.getElem?_eq_some_iff.1 hj).1;have hr:=Ef.rows a;have key:∀k v,cs[k]?=some v→∃r,s.ref=some r∧h.cell (r.add (j*E.w+k))=some v:=fun k v hk=>c.get _ _ (knw hr e1 hk);cases hs:s.ref with
 | none =>
  exfalso;cases cs with
  | nil=>have:=E.len e2;have:=E.pos;simp at *;omega
  | cons v vs =>
   obtain⟨r,e,_⟩:=key 0 v rfl;rw[hs]at e;cases e
 | some r =>
  refine⟨r.add (j*E.w),cs,?_,e2,⟨fun k v hk=>?_⟩⟩
  ·rw[kd8 _ _ _ _ (by omega) (by omega)];simp
  ·obtain⟨r',e,e'⟩:=key k v hk;rw[hs]at e;cases e;rw[Ref.add_add];exact e'
theorem Sq.lit{h:AH}{S:Fp}{i n:Nat}{rows:List (List AV)}{e:TypeId}{xs:List α}(b:h.has i rows.flatten e)(a:All2 (E.has h S) rows xs)(hn:xs.length=n)(hs:n≤9223372036854775807:=by decide):Sq E h (Fp.or (fun j=>j=i) S) ⟨some (.new i 0),n,.is n⟩ xs:=by
 refine⟨⟨rows,Cells.of_has b ?_,a.imp fun _ _=>E.mono fun j k=>.inr k⟩,hn.symm,by omega,.inr fun j o e=>?_⟩
 ·rw[kei (Ef.rows a),All2.length a,hn]
 ·cases e;exact .inl rfl
def GF{α:Type}(E:Ef α)(elem:TypeId)(h:AH)(S:Fp)(s:Sl)(i:Option Nat)(xs:List α):Prop :=
 xs.length≤9223372036854775807∧match i with
 | none=>s=⟨none,0,.is 0⟩∧xs=[]
 | some k=>¬S k∧s.ref=some (.new k 0)∧s.len=xs.length∧∃rows e,h.has k rows.flatten e∧(s.cap=.is s.len∨s.cap=.opn E.w∧e=elem)∧All2 (E.has h S) rows xs
variable{elem:TypeId}
theorem GF.none(E:Ef α)(elem:TypeId)(h:AH)(S:Fp):GF E elem h S ⟨none,0,.is 0⟩ none []:=⟨by simp,rfl,rfl⟩
theorem GF.one{h:AH}{S:Fp}{i:Nat}{cs:List AV}{x:α}{e:TypeId}(b:h.has i cs e)(c:E.has h S cs x)(a:¬S i):GF E elem h S ⟨some (.new i 0),1,.is 1⟩ (some i) [x] :=
 ⟨by simp,a,rfl,rfl,[cs],e,by simpa using b,.inl rfl,.cons c .nil⟩
theorem GF.grow{h h':AH}{S:Fp}{s:Sl}:∀{i:Option Nat}{xs:List α},GF E elem h S s i xs→Grow h h'→GF E elem h' S s i xs
 | .none,_,v,g=>v
 | .some k,_,⟨l,a,r,ln,rows,e,b,c,r2⟩,g=>⟨l,a,r,ln,rows,e,g.has b,c,r2.imp fun _ _=>E.grow g⟩
theorem GF.lt{h:AH}{S:Fp}{s:Sl}:∀{i:Option Nat}{xs:List α},GF E elem h S s i xs→LtO h.blks.size i
 | .none,_,_=>trivial
 | .some k,_,⟨l,a,r,ln,rows,e,b,c,r2⟩=>b.lt
theorem GF.mono{h:AH}{S T:Fp}{s:Sl}:∀{i:Option Nat}{xs:List α},GF E elem h S s i xs→(∀j,S j→T j)→NotO T i→GF E elem h T s i xs
 | .none,_,v,_,_=>v
 | .some k,_,⟨l,a,r,ln,rows,e,b,c,r2⟩,m,no=>⟨l,no,r,ln,rows,e,b,c,r2.imp fun _ _=>E.mono m⟩
theorem GF.bound{h:AH}{S:Fp}{s:Sl}:∀{i:Option Nat}{xs:List α},GF E elem h S s i xs→GF E elem h (fun j=>S j∧j<h.blks.size) s i xs
 | .none,_,v=>v
 | .some k,_,⟨l,a,r,ln,rows,e,b,c,r2⟩=>⟨l,fun x=>a x.1,r,ln,rows,e,b,c,r2.imp fun _ _=>E.bound⟩
def Fp.opt(i:Option Nat):Fp:=fun j=>i=some j
theorem GF.sq{h:AH}{S:Fp}{s:Sl}:∀{i:Option Nat}{xs:List α},GF E elem h S s i xs→Sq E h (Fp.or (Fp.opt i) S) s xs
 | .none,xs,⟨_,e1,e2⟩=>by
  subst e1;subst e2;exact Sq.nil E h _
 | .some k,_,⟨l,a,r,ln,rows,e,b,c,r2⟩=>by
  have hc:=Cells.of_has (n:=E.w) (m:=s.len) b (by rw[kei (Ef.rows r2),All2.length r2,ln]);refine⟨⟨rows,⟨?_,?_,?_⟩,r2.imp fun _ _=>E.mono fun j x=>.inr x⟩,ln,l,.inr fun j o ho=>?_⟩
  ·rcases c with c | c
   ·unfold Sl.fit;rw[c];exact Nat.le_refl _
   ·unfold Sl.fit;rw[c.1]
  ·exact hc.len
  ·rw[r];exact hc.get
  ·rw[r]at ho;cases ho;exact .inl rfl
theorem GF.len{h:AH}{S:Fp}{s:Sl}{i:Option Nat}{xs:List α}(v:GF E elem h S s i xs):s.len=xs.length:=v.sq.len
theorem GF.own{h h0:AH}{S:Fp}{s:Sl}:∀{i:Option Nat}{xs:List α},GF E elem h S s i xs→LeO h0.blks.size i→Own h0 s
 | .none,_,v,_=>fun r hr=>by rw[v.2.1]at hr;cases hr
 | .some k,_,⟨_,_,r,_⟩,l=>fun q hq=>by
  rw[r]at hq;cases hq;exact⟨k,0,rfl,l⟩
theorem GF.upd{h h':AH}{S:Fp}{s:Sl}{i:Nat}(u:Upd h h' i)(no:¬S i):∀{j:Option Nat}{xs:List α},GF E elem h S s j xs→(∀k,j=some k→k≠i)→GF E elem h' S s j xs
 | .none,_,v,_=>v
 | .some k,_,⟨l,a,r,ln,rows,e,b,c,r2⟩,ne=>⟨l,a,r,ln,rows,e,b.updr (ne k rfl) u,c,r2.imp fun _ _=>E.upd no u⟩
theorem GF.updo{h h':AH}{S:Fp}{s:Sl}{j:Option Nat}{xs:List α}(v:GF E elem h S s j xs):∀{i:Option Nat},NotO S i→NeOO j i→UpdO h h' i→GF E elem h' S s j xs
 | .none,_,_,u=>v.grow u
 | .some i,no,ne,u=>v.upd u no fun k e=>by
  subst e;exact ne
theorem GF.set{h:AH}{S T:Fp}{s:Sl}{i:Option Nat}{xs:List α}(v:GF E elem h S s i xs){cs:List AV}{x:α}(c:E.has h T cs x)(no:NotO T i){z:Int}{j:Nat}(q:inI xs.length z=some j) :
  ∃r h',idx s.ref xs.length z E.w=some r∧h.puts r cs=some h'∧GF E elem h' (Fp.or S T) s i (xs.set j x)∧UpdO h h' i:=by
 obtain⟨hz,hj⟩:=kmi q;cases i with
 | none =>
  obtain⟨_,e1,e2⟩:=v;subst e2;simp at hj
 | some k =>
  obtain⟨l,a,r,ln,rows,e,b,cp,r2⟩:=v;have hrl:=All2.length r2;have hr:=Ef.rows r2;have hw:=E.len c;have hfl:=kei hr
  have hle:j*E.w+cs.length≤rows.flatten.length:=by
   rw[hfl,hw,← Nat.succ_mul];exact Nat.mul_le_mul_right _ (by omega)
  have hfl2:∀(rs:List (List AV))(n:Nat),(∀r∈rs,r.length=E.w)→rs.flatten.take (n*E.w)=(rs.take n).flatten∧rs.flatten.drop (n*E.w)=(rs.drop n).flatten:=by
   intro rs
   induction rs with
   | nil=>intro n _;simp
   | cons r rs ih =>
    intro n hh;cases n with
    | zero=>simp
    | succ n =>
     have h1:=ih n fun q hq=>hh q (by simp[hq]);have h2:=hh r (by simp);rw[Nat.succ_mul,List.flatten_cons,List.take_succ_cons,List.drop_succ_cons,List.flatten_cons,← h1.1,← h1.2];constructor
     ·rw[List.take_append,h2,List.take_of_length_le (by omega),Nat.add_sub_cancel]
     ·rw[List.drop_append,h2,List.drop_eq_nil_of_le (by omega),Nat.add_sub_cancel,List.nil_append]
  have key:rows.flatten.take (j*E.w)++cs++rows.flatten.drop (j*E.w+cs.length)=(rows.set j cs).flatten:=by
   have h3:j*E.w+cs.length=(j+1)*E.w:=by rw[hw,Nat.succ_mul]
   rw[h3,(hfl2 rows j hr).1,(hfl2 rows (j+1) hr).2,List.set_eq_take_append_cons_drop,if_pos (by omega)];simp
  refine⟨.new k (j*E.w),h.upd k (rows.set j cs).flatten e,?_,?_,⟨by simpa using l,fun x=>x.elim a no,r,by simpa using ln,rows.set j cs,e,AH.has_upd b _ _,cp,?_⟩,AH.upd_Upd h k _ e⟩
  ·rw[r,hz,kd8 _ _ _ _ (by omega) (by omega)];simp
  ·rw[b.puts hle,key]
  ·have:All2 (fun cs a=>E.has h (Fp.or S T) cs a) (rows.set j cs) (xs.set j x):=All2.set (r2.imp fun _ _=>E.mono fun j k=>.inl k) (E.mono (fun j k=>.inr k) c) j;exact this.imp fun _ _ y=>E.upd (fun x=>x.elim a no) (AH.upd_Upd h k _ e) y
theorem GF.push{h:AH}{S T:Fp}{s:Sl}{i:Option Nat}{xs:List α}(v:GF E elem h S s i xs){cs:List AV}{x:α}(c:E.has h T cs x)(no:NotO T i)(hg:growOk P (xs.length+1) elem E.w=true) :
  ∃s' h',kw P s cs 1 elem E.w h=some (s'.v,h')∧GF E elem h' (fun j=>(Fp.or S T) j∧j<h.blks.size) s' (some h.blks.size) (xs++[x])∧UpdO h h' i:=by
 have hl:=k8e hg;have hw:=E.len c;have nS:¬((Fp.or S T) h.blks.size∧h.blks.size<h.blks.size):=fun k=>Nat.lt_irrefl _ k.2;cases i with
 | none =>
  obtain⟨_,e1,e2⟩:=v;subst e1;subst e2;rw[kmv (c:=0) rfl (by simp) (by simpa using hg) (Cells.nil h E.w)];refine⟨_,_,rfl,⟨by simp,nS,rfl,by simp,[cs],elem,?_,.inr ⟨rfl,rfl⟩,.cons ?_ .nil⟩,Grow.push _ _⟩
  ·simpa using AH.has_push h cs elem
  ·refine E.grow (Grow.push _ _) (E.mono (fun j k=>⟨.inr k.1,k.2⟩) (E.bound c))
 | some k =>
  have sq:=v.sq;obtain⟨l,a,r,ln,rows,e,b,cp,r2⟩:=v;have hr:=Ef.rows r2
  have cc:Cells h s E.w rows.flatten:=by
   have hc:=Cells.of_has (n:=E.w) (m:=s.len) b (by rw[kei hr,All2.length r2,ln]);refine⟨?_,hc.len,by rw[r];exact hc.get⟩;rcases cp with c | c
   ·unfold Sl.fit;rw[c];exact Nat.le_refl _
   ·unfold Sl.fit;rw[c.1]
  rw[← ln]at hg;rcases cp with ce | ⟨ce,rfl⟩
  ·rw[kmv ce (by omega) hg cc];refine⟨_,_,rfl,⟨by simpa using hl,nS,rfl,by simp[ln],rows++[cs],elem,?_,.inr ⟨rfl,rfl⟩,All2.snoc (r2.imp fun _ _ y=>?_) ?_⟩,(Grow.push _ _).toUpd k⟩
   ·have:=AH.has_push h (rows.flatten++cs) elem
    simpa using this
   ·exact E.grow (Grow.push _ _) (E.mono (fun j q=>⟨.inl q.1,q.2⟩) (E.bound y))
   ·exact E.grow (Grow.push _ _) (E.mono (fun j q=>⟨.inr q.1,q.2⟩) (E.bound c))
  ·have hap:kw P s cs 1 e E.w h=some (Sl.v ⟨some (.new h.blks.size 0),s.len+1,.opn E.w⟩,(h.kill s.ref).push (.cells (rows.flatten++cs) e)):=by
    unfold kw;simp only[ce];rw[show Nat.beq 1 0=false from rfl,show Nat.beq E.w E.w=true from Nat.beq_refl _];simp only[cond_false,hg,Bool.and_true,cond_true,r,show h.blks[k]?=_ from b];have hgets:=cc.gets;rw[r]at hgets;simp only[hgets,Option.bind_some];rw[show Nat.beq e e=true from Nat.beq_refl _,cond_true];have:(AH.kill h (some (Ref.new k 0))).blks.size=h.blks.size:=by simp[AH.kill]
    simp[AH.next,this,Sl.v];rfl
   rw[hap,r];have sz:(h.kill (some (.new k 0))).blks.size=h.blks.size:=by simp[AH.kill]
   have u:Upd h (h.kill (some (.new k 0))) k:=AH.kill_Upd h k;refine⟨_,_,rfl,⟨by simpa using hl,nS,rfl,by simp[ln],rows++[cs],e,?_,.inr ⟨rfl,rfl⟩,All2.snoc (r2.imp fun _ _ y=>?_) ?_⟩,u.trans ((Grow.push _ _).toUpd k)⟩
   ·have:=AH.has_push (h.kill (some (.new k 0))) (rows.flatten++cs) e;rw[sz]at this
    simpa using this
   ·exact E.grow (Grow.push _ _) (E.mono (fun j q=>⟨.inl q.1,q.2⟩) (E.upd (fun q=>a q.1) u (E.bound y)))
   ·exact E.grow (Grow.push _ _) (E.mono (fun j q=>⟨.inr q.1,q.2⟩) (E.upd (fun q=>no q.1) u (E.bound c)))
end Go.Ab
namespace Go.Ab
variable{P:Program}
theorem krp{h:AH}:∀(n:Nat){r:Ref}{es:List AV},h.gets r n=some es→es.length=n∧∀(k:Nat)(v:AV),es[k]?=some v→h.cell (r.add k)=some v
 | 0,r,es,e=>by
  simp only[AH.gets,Option.some.injEq]at e;subst e;exact⟨rfl,fun k v hv=>by simp at hv⟩
 | n+1,r,es,e=>by
  simp only[AH.gets,Option.bind_eq_some_iff,Option.map_eq_some_iff]at e;obtain⟨v,e1,l,e2,rfl⟩:=e;obtain⟨h1,h2⟩:=krp n e2;refine⟨by simp[h1],fun k u hu=>?_⟩;cases k with
  | zero =>
   simp at hu;subst hu;rw[Ref.add_zero];exact e1
  | succ k =>
   have:=h2 k u (by simpa using hu);rw[← this,Ref.add_add,Nat.add_comm]
theorem Sq.of_arg{α:Type}{E:Ef α}{S:Fp}{h:AH}{t e:TypeId}{cs:List AV}(hu:P.underlying t=some (.slice e))(hw:P.cellsOf e=E.w)(elem:∀es,ArgT P h e es→∃a,E.has h S es a)(a:ArgT P h t cs):∃(s:Sl)(xs:List α),cs=[s.v]∧Sq E h S s xs:=by
 rcases a.slice hu with rfl | ⟨ad,len,cap,rfl,h1,h2,h3⟩
 ·exact⟨⟨none,0,.is 0⟩,[],rfl,Sq.nil _ _ _⟩
 ·rw[hw]at h3
  have mk:∀n,n≤len→∃(rows:List (List AV))(xs:List α),rows.length=n∧All2 (E.has h S) rows xs∧∀(i:Nat)(r:List AV),rows[i]?=some r→h.gets (.old (ad.add (i*E.w))) E.w=some r:=by
   intro n
   induction n with
   | zero=>exact fun _=>⟨[],[],rfl,.nil,fun i r hi=>by simp at hi⟩
   | succ n ih =>
    intro hn;obtain⟨rows,xs,hl,ha,hx⟩:=ih (by omega);obtain⟨es,k1,k2⟩:=h3 n (by omega);obtain⟨x,k3⟩:=elem es k2;refine⟨rows++[es],xs++[x],by simp[hl],ha.snoc k3,fun i r hi=>?_⟩;by_cases hin:i<rows.length
    ·rw[List.getElem?_append_left hin]at hi;exact hx i r hi
    ·rw[List.getElem?_append_right (by omega)]at hi
     have:i=n:=by
      rcases Nat.eq_zero_or_pos (i-rows.length)with h0 | h0
      ·omega
      ·rw[List.getElem?_eq_none (by simp;omega)]at hi;cases hi
     subst this;rw[hl,Nat.sub_self]at hi;simp at hi;subst hi;exact k1
  obtain⟨rows,xs,hl,ha,hx⟩:=mk len (Nat.le_refl _);have hr:=Ef.rows ha;have hlen:=All2.length ha;refine⟨⟨some (.old ad),len,.is cap⟩,xs,rfl,⟨⟨rows,⟨h1,by rw[kei hr,hl],fun k v hv=>⟨_,rfl,?_⟩⟩,ha⟩,by rw[← hlen,hl],?_,.inr fun j o hj=>by cases hj⟩⟩
  ·have hk:k<rows.length*E.w:=by
    rw[← kei hr];exact(List.getElem?_eq_some_iff.1 hv).1
   have hi:k/E.w<rows.length:=Nat.div_lt_of_lt_mul (by rw[Nat.mul_comm];exact hk);have hj:k%E.w<E.w:=Nat.mod_lt _ E.pos;have e1:=List.getElem?_eq_getElem hi;have e2:(rows[k/E.w])[k%E.w]?=some ((rows[k/E.w])[k%E.w]'(by rw[hr _ (List.getElem_mem _)];exact hj)):=List.getElem?_eq_getElem _;have e3:=knw hr e1 e2
   have e4:k/E.w*E.w+k%E.w=k:=by
    rw[Nat.mul_comm];exact Nat.div_add_mod k E.w
   rw[e4,hv]at e3;have e5:=(krp E.w (hx _ _ e1)).2 _ _ e2;rw[← Option.some.inj e3]at e5
   have e6:(Ref.old (ad.add (k/E.w*E.w))).add (k%E.w)=(Ref.old ad).add k:=by
    rw[show Ref.old (ad.add (k/E.w*E.w))=(Ref.old ad).add (k/E.w*E.w)from rfl,Ref.add_add,e4]
   rw[← e6];exact e5
  ·have hm:maxLen=9223372036854775807:=by decide
   rw[← hlen,hl];rw[hm]at h2;exact Nat.le_trans h1 h2
end Go.Ab
namespace Go.Ab
theorem All2.drop{α β:Type}{R:α→β→Prop}{l:List α}{m:List β}(a:All2 R l m):∀k:Nat,All2 R (l.drop k) (m.drop k):=by
 induction a with
 | nil=>intro k;simp;exact .nil
 | cons h t ih =>
  intro k;cases k with
  | zero=>exact .cons h t
  | succ k=>exact ih k
theorem All2.take{α β:Type}{R:α→β→Prop}{l:List α}{m:List β}(a:All2 R l m):∀k:Nat,All2 R (l.take k) (m.take k):=by
 induction a with
 | nil=>intro k;simp;exact .nil
 | cons h t ih =>
  intro k;cases k with
  | zero=>exact .nil
  | succ k=>exact .cons h (ih k)
theorem kwc{w:Nat}:∀{rows:List (List AV)},(∀r∈rows,r.length=w)→∀k:Nat,rows.flatten.drop (k*w)=(rows.drop k).flatten
 | [],_,k=>by simp
 | r::rows,h,0=>by simp
 | r::rows,h,k+1=>by
  rw[List.flatten_cons,List.drop_succ_cons,← kwc (fun q hq=>h q (by simp[hq])) k,Nat.add_mul,Nat.one_mul,Nat.add_comm,← List.drop_drop,List.drop_left' (h r (by simp))]
theorem kus{w:Nat}:∀{rows:List (List AV)},(∀r∈rows,r.length=w)→∀k:Nat,rows.flatten.take (k*w)=(rows.take k).flatten
 | [],_,k=>by simp
 | r::rows,h,0=>by simp
 | r::rows,h,k+1=>by
  rw[List.flatten_cons,List.take_succ_cons,List.flatten_cons,← kus (fun q hq=>h q (by simp[hq])) k,Nat.add_mul,Nat.one_mul,Nat.add_comm (k*w)];have hr:=h r (by simp);rw[List.take_append,List.take_of_length_le (by omega),hr];congr 2;omega
theorem k0x{s s':Sl}{l m:Int}{w:Nat}(e:cutSl s l m w=some s'){j o:Nat}(hr:s'.ref=some (.new j o)):∃o',s.ref=some (.new j o'):=by
 have key:∀{a:Nat},(s.ref.map (·.add a))=some (Ref.new j o)→∃o',s.ref=some (.new j o'):=fun{a} h=>by
  cases hs:s.ref with
  | none=>rw[hs]at h;cases h
  | some r =>
   rw[hs,Option.map_some,Option.some.injEq]at h;cases r with
   | new i p =>
    simp only[Ref.add_new,Ref.new.injEq]at h;exact⟨p,by rw[h.1]⟩
   | old a'=>cases h
 unfold cutSl at e;split at e
 ·rename_i c hc;cases hd:decide (0≤l∧l≤m∧m≤(c:Int))with
  | false=>rw[hd]at e;cases e
  | true =>
   rw[hd,cond_true,Option.some.injEq]at e;rw[← e]at hr;dsimp only at hr;split at hr
   ·exact⟨o,hr⟩
   ·exact key hr
 ·rename_i sz hc;cases hb:Nat.beq sz w with
  | false=>rw[hb]at e;cases e
  | true =>
   rw[hb,cond_true]at e;cases hd:decide (0≤l∧l≤m∧m≤(s.len:Int))with
   | false=>rw[hd]at e;cases e
   | true =>
    rw[hd,cond_true,Option.some.injEq]at e;rw[← e]at hr;exact key hr
theorem Sq.cut{α:Type}{E:Ef α}{h:AH}{S:Fp}{s:Sl}{xs:List α}(n:Sq E h S s xs){l m:Nat}(h1:l≤m)(h2:m≤xs.length):∃s',cutSl s (l:Int) (m:Int) E.w=some s'∧Sq E h S s' ((xs.drop l).take (m-l))∧∀h0,Own h0 s→Own h0 s':=by
 obtain⟨⟨rows,c,a⟩,ln,sh,at'⟩:=n;have hr:=Ef.rows a;obtain⟨s',e,l',c',o⟩:=c.cut h1 (by rw[ln];exact h2);refine⟨s',e,⟨⟨(rows.drop l).take (m-l),?_,(a.drop l).take _⟩,by rw[l',List.length_take,List.length_drop];omega,by rw[List.length_take,List.length_drop];omega,?_⟩,o⟩
 ·rw[← kus (fun r hr'=>hr r (List.mem_of_mem_drop hr')),← kwc hr];exact c'
 ·rcases at' with h0 | h0
  ·left
   rw[List.length_take,List.length_drop];omega
  ·right
   intro j o' hj;obtain⟨o2,e2⟩:=k0x e hj;exact h0 j o2 e2
theorem AH.setBlk_get{h:AH}{l:Nat}{b:ABlk}(hl:l<h.blks.size):(h.setBlk l b).blks[l]?=some b:=by
 simp[AH.setBlk,hl]
theorem AH.setBlk_ne{h:AH}{l i:Nat}{b:ABlk}(hi:i≠l):(h.setBlk l b).blks[i]?=h.blks[i]?:=by
 simp only[AH.setBlk];rw[Array.getElem?_setIfInBounds_ne (fun e=>hi e.symm)]
theorem AH.setBlk_size(h:AH)(l:Nat)(b:ABlk):(h.setBlk l b).blks.size=h.blks.size:=by simp[AH.setBlk]
theorem kp6{h:AH}{l:Nat}{pe:Option Code}{f:FuncId}{fr:Fr}{ps:Array Tmp}{bs bd:Code}{d:Nat}(hb:h.blks[l]?=some (.loop .ready pe f fr ps bs bd d)) :
  beginA l h=some (h.setBlk l (.loop .busy pe f fr ps bs bd d)):=by
 simp only[beginA,hb]
theorem kpm{h:AH}{l:Nat}{st:LoopState}{pe:Option Code}{f:FuncId}{fr:Fr}{ps:Array Tmp}{bs bd:Code}{d:Nat}(hb:h.blks[l]?=some (.loop st pe f fr ps bs bd d))(j:Option Code) :
  kcj l j h=some (.bool j.isNone,h.setBlk l (.loop (cond j.isNone .ready .done) j f fr ps bs bd d)):=by
 simp only[kcj,hb]
theorem kpk{h:AH}{l:Nat}{pe:Option Code}{f:FuncId}{fr:Fr}{ps:Array Tmp}{bs bd:Code}{d:Nat}(hb:h.blks[l]?=some (.loop .ready pe f fr ps bs bd d)):kff l h=some (pe,h.setBlk l .dead):=by
 simp only[kff,hb];rfl
theorem kpn{R:Type}{f:FuncId}{a c:List AV}{k:FuncId→List AV→List AV→Option R}:funcK (.func (.func f) a c) k=k f a c:=rfl
theorem Runs.newM{P:AV→AH→Prop}{h:AH}{b:ABlk}{K:Nat→AH→Option (AV×AH)}(H:∀h',h'.blks[h.blks.size]?=some b→Grow h h'→Runs (K h.blks.size h') P):Runs (newM h b K) P :=
 H _ (by simp[AH.alloc]) (Grow.push h _)
variable{P:Program}
structure Md(T:Fp)(h h':AH):Prop where
 old:h'.old=h.old
 size:h.blks.size≤h'.blks.size
 blk:∀j,j<h.blks.size→¬T j→h'.blks[j]?=h.blks[j]?
theorem Md.refl(T:Fp)(h:AH):Md T h h:=⟨rfl,Nat.le_refl _,fun _ _ _=>rfl⟩
theorem Grow.md{h h':AH}(g:Grow h h')(T:Fp):Md T h h':=⟨g.old,g.size,fun j hj _=>g.blk j hj⟩
theorem Upd.md{h h':AH}{i:Nat}(u:Upd h h' i){T:Fp}(t:T i):Md T h h':=⟨u.old,u.size,fun j hj n=>u.blk j (fun e=>n (e▸t)) hj⟩
theorem UpdO.md{h h':AH}{T:Fp}:∀{i:Option Nat},UpdO h h' i→(∀k,i=some k→T k)→Md T h h'
 | none,u,_=>Grow.md u T
 | some k,u,t=>Upd.md u (t k rfl)
theorem Md.grow{h h':AH}{T:Fp}(m:Md T h h')(n:∀j,j<h.blks.size→¬T j):Grow h h':=⟨m.old,m.size,fun j hj=>m.blk j hj (n j hj)⟩
theorem Md.mono{h h':AH}{S T:Fp}(m:Md S h h')(f:∀j,j<h.blks.size→S j→T j):Md T h h':=⟨m.old,m.size,fun j hj n=>m.blk j hj fun s=>n (f j hj s)⟩
theorem Md.next{h h1 h2:AH}{S T:Fp}(a:Md S h h1)(b:Md T h1 h2)(f:∀j,j<h.blks.size→T j→S j):Md S h h2 :=
 ⟨b.old.trans a.old,Nat.le_trans a.size b.size,fun j hj n=>(b.blk j (Nat.lt_of_lt_of_le hj a.size) fun t=>n (f j hj t)).trans (a.blk j hj n)⟩
theorem Md.trans{h h1 h2:AH}{T:Fp}(a:Md T h h1)(b:Md T h1 h2):Md T h h2:=a.next b fun _ _ t=>t
theorem Md.thenG{h h1 h2:AH}{T:Fp}(a:Md T h h1)(b:Grow h1 h2):Md T h h2:=a.next (b.md Fp.no) fun _ _ t=>t.elim
theorem Grow.thenM{h h1 h2:AH}{T:Fp}(a:Grow h h1)(b:Md T h1 h2):Md T h h2:=(a.md T).trans b
def Dis(S T:Fp):Prop:=∀j,S j→T j→False
theorem Dis.symm{S T:Fp}(d:Dis S T):Dis T S:=fun j a b=>d j b a
theorem Dis.no{S:Fp}:Dis S Fp.no:=fun _ _ b=>b
theorem Dis.mono{S T S' T':Fp}(d:Dis S T)(f:∀j,S' j→S j)(g:∀j,T' j→T j):Dis S' T':=fun j a b=>d j (f j a) (g j b)
theorem Md.has{h h':AH}{T:Fp}(m:Md T h h'){i:Nat}{cs:List AV}{e:TypeId}(b:h.has i cs e)(n:¬T i):h'.has i cs e:=(m.blk i b.lt n).trans b
theorem Md.get{h h':AH}{T:Fp}(m:Md T h h'){i:Nat}{b:ABlk}(e:h.blks[i]?=some b)(n:¬T i):h'.blks[i]?=some b :=
 (m.blk i (Array.getElem?_eq_some_iff.1 e).1 n).trans e
theorem Md.cell{h h':AH}{T:Fp}(m:Md T h h'){r:Ref}{v:AV}(hc:h.cell r=some v)(n:∀j o,r=.new j o→¬T j):h'.cell r=some v:=by
 have hi:=AH.cell_inn hc;cases r with
 | old a=>simpa only[AH.cell,m.old]using hc
 | new j o=>simpa only[AH.cell,m.blk j hi (n j o rfl)]using hc
def mixA(h h':AH)(k:Nat):AH:=⟨h'.old,((List.range h.blks.size).map fun i=>(if i<k then h'.blks[i]? else h.blks[i]?).getD .dead).toArray⟩
theorem ke2(h h':AH)(k:Nat):(mixA h h' k).blks.size=h.blks.size:=by simp[mixA]
theorem khe{h h':AH}{k i:Nat}(hs:h.blks.size≤h'.blks.size)(hi:i<h.blks.size):(mixA h h' k).blks[i]?=if i<k then h'.blks[i]? else h.blks[i]?:=by
 have hi':i<h'.blks.size:=Nat.lt_of_lt_of_le hi hs;simp only[mixA,List.getElem?_toArray,List.getElem?_map,List.getElem?_range hi,Option.map_some];split
 ·rw[Array.getElem?_eq_getElem hi'];rfl
 ·rw[Array.getElem?_eq_getElem hi];rfl
theorem Ef.md{α:Type}(E:Ef α){h h':AH}{S T:Fp}{cs:List AV}{a:α}(m:Md T h h')(d:Dis S T)(e:E.has h S cs a):E.has h' S cs a:=by
 have key:∀k,k≤h.blks.size→E.has (mixA h h' k) S cs a:=by
  intro k
  induction k with
  | zero =>
   intro _;refine E.grow ⟨m.old,by rw[ke2];exact Nat.le_refl _,fun i hi=>?_⟩ e;rw[khe m.size hi,if_neg (by omega)]
  | succ k ih =>
   intro hk;have e':=ih (by omega);by_cases hS:S k
   ·have hT:¬T k:=fun t=>d k hS t;refine E.grow (show Grow (mixA h h' k) (mixA h h' (k+1))from⟨rfl,by rw[ke2,ke2];exact Nat.le_refl _,fun i hi=>?_⟩) e';rw[ke2]at hi;rw[khe m.size hi,khe m.size hi];by_cases h1:i=k
    ·subst h1;rw[if_pos (by omega),if_neg (by omega),m.blk i hi hT]
    ·by_cases h2:i<k
     ·rw[if_pos (by omega),if_pos h2]
     ·rw[if_neg (by omega),if_neg h2]
   ·refine E.upd hS (show Upd (mixA h h' k) (mixA h h' (k+1)) k from⟨rfl,by rw[ke2,ke2];exact Nat.le_refl _,fun i hne hi=>?_⟩) e';rw[ke2]at hi;rw[khe m.size hi,khe m.size hi];by_cases h2:i<k
    ·rw[if_pos (by omega),if_pos h2]
    ·rw[if_neg (by omega),if_neg h2]
 refine E.grow (show Grow (mixA h h' h.blks.size) h' from⟨rfl,by rw[ke2];exact m.size,fun i hi=>?_⟩) (key _ (Nat.le_refl _));rw[ke2]at hi;rw[khe m.size hi,if_pos hi]
section
variable{α:Type}{E:Ef α}
theorem Sq.md{h h':AH}{S T:Fp}{s:Sl}{xs:List α}(n:Sq E h S s xs)(m:Md T h h')(d:Dis S T):Sq E h' S s xs:=by
 obtain⟨s',e,n'⟩:=Ef.md (Ef.seq E) m d (show(Ef.seq E).has h S [s.v] xs from⟨s,rfl,n⟩);cases Sl.vs_inj e;exact n'
theorem Nats.mdE{h h':AH}{S T:Fp}{s:Sl}{xs:List Nat}(n:Nats h s xs)(a:∀j,¬Av s j xs→S j)(m:Md T h h')(d:Dis S T):Nats h' s xs:=by
 obtain⟨s',e,n',_⟩:=Ef.md Ef.nats m d (show Ef.nats.has h S [s.v] xs from⟨s,rfl,n,a⟩);cases Sl.vs_inj e;exact n'
theorem GF.md{elem:TypeId}{h h':AH}{S T:Fp}{s:Sl}(m:Md T h h')(d:Dis S T):∀{j:Option Nat}{xs:List α},GF E elem h S s j xs→(∀k,j=some k→¬T k)→GF E elem h' S s j xs
 | .none,_,v,_=>v
 | .some k,_,⟨l,a,r,ln,rows,e,b,c,r2⟩,ne=>⟨l,a,r,ln,rows,e,m.has b (ne k rfl),c,r2.imp fun _ _=>E.md m d⟩
theorem kvr{elem:TypeId}{h:AH}{S:Fp}{s:Sl}{xs:List α}{k:Nat}(n:Sq E h S s xs)(hw:P.cellsOf elem=E.w)(hg:growOk P xs.length elem E.w=true)(b:h.has k [] elem)(hS:∀j,S j→j<k) :
  ∃p s' i h',kbb P elem s.v h=some p∧kw P ⟨some (.new k 0),0,.is 0⟩ p.1 p.2 elem E.w h=some (Sl.v s',h')∧GF E elem h' S s' (some i) xs∧Grow h h'∧k≤i:=by
 obtain⟨⟨rows,c,a⟩,ln,sh,at'⟩:=n;have fl:rows.flatten.length=rows.length*E.w:=kei (Ef.rows a);have hl:s.len=rows.length:=by rw[ln,All2.length a]
 have c2:=c;rw[← hw]at c2;refine⟨(rows.flatten,s.len),?_⟩;by_cases hz:rows.length=0
 ·have hrw:rows=[]:=List.length_eq_zero_iff.1 hz;subst hrw
  have hx:xs=[]:=by
   have:=All2.length a;simp at this;exact List.length_eq_zero_iff.1 this.symm
  subst hx;refine⟨⟨some (.new k 0),0,.is 0⟩,k,h,kmb c2,?_,⟨by simp,fun x=>Nat.lt_irrefl _ (hS _ x),rfl,rfl,[],elem,by simpa using b,.inl rfl,.nil⟩,Grow.refl h,Nat.le_refl _⟩;rw[hl];rfl
 ·have hap:=kmv (P:=P) (h:=h) (s:=⟨some (.new k 0),0,.is 0⟩) (c:=0) (n:=s.len) (m:=E.w) (elem:=elem) (cs:=rows.flatten) (old:=[]) rfl (by dsimp only;omega) (by dsimp only;rw[Nat.zero_add,ln];exact hg) ⟨Nat.le_refl _,by simp,fun i v hv=>by simp at hv⟩;have g3:=Grow.push h (.cells ([]++rows.flatten) elem);have hk:=b.lt;refine⟨_,h.blks.size,_,kmb c2,hap,⟨by omega,fun x=>?_,rfl,by dsimp only;omega,rows,elem,AH.has_push h ([]++rows.flatten) elem,.inr ⟨rfl,rfl⟩,a.imp fun _ _=>E.grow g3⟩,g3,Nat.le_of_lt hk⟩;have:=hS _ x;omega
theorem Runs.clone{elem:TypeId}{h:AH}{S:Fp}{s:Sl}{xs:List α}(n:Sq E h S s xs)(hw:P.cellsOf elem=E.w)(hg:growOk P xs.length elem E.w=true) :
  Runs (_root_.cond s.ref.isNone (some ((⟨none,0,.is 0⟩:Sl).v,h)) (newK h (.cells [] elem) fun r h2=>(kbb P elem s.v h2).bind fun p=>(kw P (⟨some r,0,.is 0⟩:Sl) p.1 p.2 elem E.w h2).bind fun q=>(AV.asSl q.1).bind fun l=>some (l.v,q.2)))
   fun v h'=>∃(s':Sl)(i:Option Nat),v=s'.v∧GF E elem h' (fun j=>S j∧j<h.blks.size) s' i xs∧Grow h h'∧LeO h.blks.size i:=by
 have nb:=n.bound;cases hr:s.ref with
 | none =>
  have h0:xs=[]:=by
   obtain⟨⟨rows,c,a⟩,ln,sh,at'⟩:=nb;cases xs with
   | nil=>rfl
   | cons x xs =>
    exfalso;cases a with
    | cons h1 h2 =>
     rename_i r0 rs;have h3:=E.len h1;have h4:=E.pos;cases r0 with
     | nil=>simp at h3;omega
     | cons v vs =>
      obtain⟨r,e,_⟩:=c.get 0 v (by simp);rw[hr]at e;cases e
  subst h0;exact⟨_,_,rfl,⟨none,0,.is 0⟩,none,rfl,GF.none E elem h _,Grow.refl h,trivial⟩
 | some r =>
  refine Runs.ifF rfl ?_;refine Runs.new fun h2 b2 g2=>?_;obtain⟨p,s',i,h3,e1,e2,v,g3,hi⟩:=kvr (nb.grow g2) hw hg b2 fun j x=>x.2;refine Runs.step e1 (Runs.step e2 (Runs.step (asSl_v _) ?_));exact Runs.ret ⟨s',some i,rfl,v,g2.trans g3,hi⟩
end
end Go.Ab
namespace Go.Ab
def kvGet{A:Type}:List (Int×A)→Int→Option A
 | [],_=>none
 | (k,v)::t,n=>if n=k then some v else kvGet t n
def kvPut{A:Type}:List (Int×A)→Int→A→List (Int×A)
 | [],n,v=>[(n,v)]
 | (k,w)::t,n,v=>if n=k then(k,v)::t else(k,w)::kvPut t n v
def kvDel{A:Type}:List (Int×A)→Int→List (Int×A)
 | [],_=>[]
 | (k,w)::t,n=>if n=k then t else(k,w)::kvDel t n
theorem kba3{A:Type}(l:List (Int×A))(n m:Int)(v:A):kvGet (kvPut l n v) m=if m=n then some v else kvGet l m:=by
 induction l with
 | nil=>simp[kvPut,kvGet]
 | cons p t ih =>
  obtain⟨k,w⟩:=p;simp only[kvPut];by_cases h:n=k
  ·subst h;rw[if_pos rfl];simp only[kvGet];by_cases h2:m=n
   ·rw[if_pos h2,if_pos h2]
   ·rw[if_neg h2,if_neg h2,if_neg h2]
  ·rw[if_neg h];simp only[kvGet,ih];by_cases h2:m=k
   ·rw[if_pos h2,if_pos h2,if_neg (by omega)]
   ·rw[if_neg h2,if_neg h2]
theorem kry{A:Type}{l:List (Int×A)}{n:Int}(v:A)(h:kvGet l n=none):kvPut l n v=l++[(n,v)]:=by
 induction l with
 | nil=>rfl
 | cons p t ih =>
  obtain⟨k,w⟩:=p;simp only[kvGet]at h;by_cases e:n=k
  ·rw[if_pos e]at h;cases h
  ·rw[if_neg e]at h;simp only[kvPut,if_neg e,ih h,List.cons_append]
theorem kwq{A:Type}{l:List (Int×A)}{n:Int}{w:A}(v:A)(h:kvGet l n=some w):(kvPut l n v).length=l.length:=by
 induction l with
 | nil=>cases h
 | cons p t ih =>
  obtain⟨k,u⟩:=p;simp only[kvGet]at h;by_cases e:n=k
  ·simp only[kvPut,if_pos e,List.length_cons]
  ·rw[if_neg e]at h;simp only[kvPut,if_neg e,List.length_cons,ih h]
def Kv(es:List AEnt)(l:List (Int×AV)):Prop:=es.map (fun e=>(e.key,e.val))=l.map fun p=>(AV.int .i64 p.1,p.2)
theorem Kv.nil:Kv [] []:=rfl
theorem Kv.len{es:List AEnt}{l:List (Int×AV)}(k:Kv es l):es.length=l.length:=by
 have:=congrArg List.length k
 simpa using this
theorem kkz{n:Int}:∀{es:List AEnt}{l:List (Int×AV)}(j:Nat),Kv es l→
  (findA .i64 n es j=some none∧kvGet l n=none∧(∀v b,Kv (es++[⟨.int .i64 n,v,b⟩]) (kvPut l n v))∧kvDel l n=l)∨
  ∃t v,findA .i64 n es j=some (some (j+t,v))∧t<es.length∧kvGet l n=some v∧(∀w,Kv (es.modify t fun e=>⟨.int .i64 n,w,e.born⟩) (kvPut l n w))∧Kv (es.eraseIdx t) (kvDel l n)
 | [],l,j,k=>by
  cases l with
  | nil=>exact .inl ⟨rfl,rfl,fun v b=>rfl,rfl⟩
  | cons p t=>simp[Kv]at k
 | e::es,l,j,k=>by
  cases l with
  | nil=>simp[Kv]at k
  | cons p t =>
   obtain⟨m,w⟩:=p;simp only[Kv,List.map_cons,List.cons.injEq,Prod.mk.injEq]at k;obtain⟨⟨k1,k2⟩,k3⟩:=k;have ih:=kkz (n:=n) (j+1) (show Kv es t from k3);simp only[findA,k1,decide_true,cond_true,kvGet,kvPut,kvDel];by_cases h:n=m
   ·subst h
    right
    refine⟨0,e.val,by simp,by simp,by rw[if_pos rfl,k2],fun u=>?_,?_⟩
    ·simp only[if_true];simp only[Kv,List.modify_zero_cons,List.map_cons];rw[show es.map _=t.map _ from k3]
    ·simp only[if_true];exact k3
   ·rw[decide_eq_false h,cond_false];simp only[if_neg h];rcases ih with⟨a,b,c,d⟩ | ⟨x,v,a,b,c,d,f⟩
    ·left
     refine⟨a,b,fun v bb=>?_,by rw[d]⟩;have:=c v bb;simp only[Kv,List.map_append,List.cons_append,List.map_cons]at this⊢;rw[this,k1,k2]
    ·right
     refine⟨x+1,v,by rw[a];congr 3;omega,by simp;omega,c,fun u=>?_,?_⟩
     ·have:=d u;simp only[Kv,List.modify_succ_cons,List.map_cons]at this⊢;rw[this,k1,k2]
     ·simp only[Kv,List.eraseIdx_cons_succ,List.map_cons]at f⊢;rw[f,k1,k2]
def MapIs(h:AH)(i:Nat)(l:List (Int×AV)):Prop:=∃es ck,h.blks[i]?=some (.map es ck)∧Kv es l∧∀e∈es,e.born<ck
theorem MapIs.lt{h:AH}{i:Nat}{l:List (Int×AV)}(m:MapIs h i l):i<h.blks.size:=by
 obtain⟨es,ck,e,_⟩:=m;exact(Array.getElem?_eq_some_iff.1 e).1
theorem MapIs.md{h h':AH}{i:Nat}{l:List (Int×AV)}{T:Fp}(m:MapIs h i l)(d:Md T h h')(n:¬T i):MapIs h' i l:=by
 obtain⟨es,ck,e,k⟩:=m;exact⟨es,ck,d.get e n,k⟩
theorem MapIs.grow{h h':AH}{i:Nat}{l:List (Int×AV)}(m:MapIs h i l)(g:Grow h h'):MapIs h' i l:=m.md (g.md Fp.no) Fp.not_no
theorem AH.setBlk_Upd{h:AH}{i:Nat}(b:ABlk):Upd h (h.setBlk i b) i:=⟨rfl,by rw[AH.setBlk_size];exact Nat.le_refl _,fun j hj _=>AH.setBlk_ne hj⟩
section
variable{h:AH}{i:Nat}{l:List (Int×AV)}
theorem MapIs.at(m:MapIs h i l):∃es ck,h.mapAt i=some (es,ck)∧Kv es l∧∀e∈es,e.born<ck:=by
 obtain⟨es,ck,e,k⟩:=m;exact⟨es,ck,by simp only[AH.mapAt,e],k⟩
theorem MapIs.get(m:MapIs h i l)(n:Int):mapGet h (some i) .i64 n=some (kvGet l n):=by
 obtain⟨es,ck,e,k,o⟩:=m.at;simp only[mapGet,e,Option.bind_some];rcases kkz (n:=n) 0 k with⟨a,b,_⟩ | ⟨t,v,a,_,b,_⟩
 ·rw[a,b];rfl
 ·rw[a,b];rfl
theorem MapIs.put(m:MapIs h i l)(n:Int)(v:AV):∃h',mapPut h i .i64 n v=some h'∧MapIs h' i (kvPut l n v)∧Upd h h' i:=by
 have hl:=m.lt;obtain⟨es,ck,e,k,o⟩:=m.at;simp only[mapPut,e,Option.bind_some];rcases kkz (n:=n) 0 k with⟨a,b,c,_⟩ | ⟨t,w,a,_,b,c,_⟩
 ·rw[a]
  exact⟨_,rfl,⟨_,_,AH.setBlk_get hl,c v ck,fun x hx=>by
   rw[List.mem_append,List.mem_singleton]at hx;rcases hx with hx | rfl
   ·exact Nat.lt_succ_of_lt (o x hx)
   ·exact Nat.lt_succ_self _⟩,AH.setBlk_Upd _⟩
 ·rw[a,Nat.zero_add]
  exact⟨_,rfl,⟨_,_,AH.setBlk_get hl,c v,fun x hx=>by
   obtain⟨j,hj,rfl⟩:=List.mem_iff_getElem.1 hx;rw[List.getElem_modify];rw[List.length_modify]at hj;have:=o _ (List.getElem_mem hj);split<;>exact this⟩,AH.setBlk_Upd _⟩
theorem MapIs.del(m:MapIs h i l)(n:Int):∃h',mapDel h (some i) .i64 n=some h'∧MapIs h' i (kvDel l n)∧Upd h h' i:=by
 have hl:=m.lt;obtain⟨es,ck,e,k,o⟩:=m.at;simp only[mapDel,e,Option.bind_some];rcases kkz (n:=n) 0 k with⟨a,b,_,c⟩ | ⟨t,w,a,_,b,_,c⟩
 ·rw[a];exact⟨_,rfl,⟨_,_,AH.setBlk_get hl,by rw[c];exact k,o⟩,AH.setBlk_Upd _⟩
 ·rw[a,Nat.zero_add];exact⟨_,rfl,⟨_,_,AH.setBlk_get hl,c,fun x hx=>o x (List.mem_of_mem_eraseIdx hx)⟩,AH.setBlk_Upd _⟩
theorem MapIs.size(m:MapIs h i l):mapLen h (some i)=some l.length:=by
 obtain⟨es,ck,e,k,o⟩:=m.at;simp only[mapLen,e,Option.map_some,k.len]
theorem MapIs.clear(m:MapIs h i l):∃h',khv h (some i)=some h'∧MapIs h' i []∧Upd h h' i:=by
 have hl:=m.lt;obtain⟨es,ck,e,k,o⟩:=m.at;simp only[khv,e,Option.map_some];exact⟨_,rfl,⟨_,_,AH.setBlk_get hl,Kv.nil,fun x hx=>by cases hx⟩,AH.setBlk_Upd _⟩
end
section
variable{P:AV→AH→Prop}
theorem Runs.call{x:Option (AV×AH)}{Q:AV→AH→Prop}{K:AV×AH→Option (AV×AH)}(r:Runs x Q)(H:∀v h',Q v h'→Runs (K (v,h')) P):Runs (x.bind K) P:=by
 obtain⟨v,h',e,q⟩:=r;subst e;exact H v h' q
theorem Runs.newMap{h:AH}{K:Nat→AH→Option (AV×AH)}(H:∀h',MapIs h' h.blks.size []→Grow h h'→Runs (K h.blks.size h') P):Runs (Go.Ab.newM h (.map [] 0) K) P :=
 Runs.newM fun h' e g=>H h' ⟨[],0,e,Kv.nil,fun x hx=>by cases hx⟩ g
theorem kdz{n:Nat}{G:Int→AH→Option (AV×AH)}{p:Nat→Bool}{h0:AH}
  (step:∀(i:Nat)(h:AH)(P:AV→AH→Prop),i<n→Grow h0 h→(∀h',Grow h0 h'→p i=true→P (.int .i64 (i:Int)) h')→(∀h',Grow h0 h'→p i=false→Runs (G ((i+1:Nat):Int) h') P)→Runs (G (i:Int) h) P)
  (done:∀(h:AH),Grow h0 h→G (n:Int) h=some (.int .i64 (-1),h)):∀(k i:Nat),i+k=n→∀{h:AH},Grow h0 h→(∀j,j<i→p j=false)→
  Runs (G (i:Int) h) fun v h'=>Grow h0 h'∧((v=.int .i64 (-1)∧∀j,j<n→p j=false)∨∃j,j<n∧v=.int .i64 (j:Int)∧p j=true∧∀t,t<j→p t=false):=by
 intro k
 induction k with
 | zero =>
  intro i hi h g hp;have:i=n:=by omega
  subst this;rw[done h g];exact Runs.ret ⟨g,.inl ⟨rfl,hp⟩⟩
 | succ k ih =>
  intro i hi h g hp;refine step i h _ (by omega) g (fun h' g' e=>⟨g',.inr ⟨i,by omega,rfl,e,hp⟩⟩) fun h' g' e=>ih (i+1) (by omega) g' fun j hj=>?_;rcases Nat.lt_or_ge j i with h1 | h1
  ·exact hp j h1
  ·have:j=i:=by omega
   subst this;exact e
theorem Runs.contains{α:Type}{xs:List α}{p:α→Bool}{x:Option (AV×AH)}{h0:AH}(R:Runs x fun v h'=>Grow h0 h'∧((v=.int .i64 (-1)∧∀j,j<xs.length→(xs[j]?).any p=false)∨∃j,j<xs.length∧v=.int .i64 (j:Int)∧(xs[j]?).any p=true∧∀t,t<j→(xs[t]?).any p=false)) :
  Runs (x.bind fun q=>((some q.1).bind (AV.asInt .i64)).bind fun n=>some (.bool (decide (n≥0)),q.2)) fun v h'=>v=.bool (xs.any p)∧Grow h0 h':=by
 refine R.call fun v h' ⟨g,d⟩=>?_;rcases d with⟨rfl,a⟩ | ⟨j,hj,rfl,a,_⟩
 ·refine Runs.step (seen (kc _ _)) (Runs.ret ⟨?_,g⟩)
  have:xs.any p=false:=by
   rw[List.any_eq_false];intro y hy;obtain⟨t,ht,rfl⟩:=List.getElem_of_mem hy;have:=a t ht;rw[List.getElem?_eq_getElem ht]at this
   simpa using this
  rw[this];exact congrArg AV.bool (decide_eq_false (by omega))
 ·refine Runs.step (seen (kc _ _)) (Runs.ret ⟨?_,g⟩)
  have:xs.any p=true:=by
   rw[List.any_eq_true];rw[List.getElem?_eq_getElem hj]at a;exact⟨xs[j],List.getElem_mem hj,by simpa using a⟩
  rw[this];exact congrArg AV.bool (decide_eq_true (by omega))
end
abbrev EI:Ef Int:=Ef.int .i64
section
variable{h:AH}{S:Fp}{s:Sl}
theorem Sq.int{k:IntKind}{xs:List Int}(n:Sq (Ef.int k) h S s xs){i:Nat}(hi:i<xs.length):∃r:Ref,idx s.ref s.len (i:Int) 1=some r∧(h.cell r).bind (AV.asInt k)=some xs[i]:=by
 obtain⟨r,cs,e1,e2,l⟩:=n.at (kd2 hi);have e2:cs=[.int k xs[i]]:=e2;subst e2;rw[n.len];exact⟨r,e1,l.rd0 (Grow.refl _) rfl (kc _ _)⟩
theorem Sq.sl{α:Type}{E:Ef α}{xs:List (List α)}(n:Sq (Ef.seq E) h S s xs){i:Nat}(hi:i<xs.length):∃(r:Ref)(s':Sl),idx s.ref s.len (i:Int) 1=some r∧(h.cell r).bind AV.asSl=some s'∧(h.cell (r.add 0)).bind AV.asSl=some s'∧Sq E h S s' xs[i]:=by
 obtain⟨r,cs,e1,⟨s',rfl,n'⟩,l⟩:=n.at (kd2 hi);rw[n.len];exact⟨r,s',e1,l.rd0 (Grow.refl _) rfl (asSl_v _),l.rd (Grow.refl _) 0 rfl (asSl_v _),n'⟩
theorem Sq.nats{xs:List (List Nat)}(n:Sq Ef.nats h S s xs){i:Nat}(hi:i<xs.length):∃(r:Ref)(s':Sl),idx s.ref s.len (i:Int) 1=some r∧(h.cell r).bind AV.asSl=some s'∧Nats h s' xs[i]∧∀j,¬Av s' j xs[i]→S j:=by
 obtain⟨r,cs,e1,⟨s',rfl,n',a⟩,l⟩:=n.at (kd2 hi);rw[n.len];exact⟨r,s',e1,l.rd0 (Grow.refl _) rfl (asSl_v _),n',a⟩
end
theorem k43{P:Program}{h:AH}{t e:TypeId}{cs:List AV}{k:IntKind}(S:Fp)(hu:P.underlying t=some (.slice e))(he:P.underlying e=some (.int k))(hc:P.cellsOf e=1)(a:ArgT P h t cs):∃(s:Sl)(xs:List Int),cs=[s.v]∧Sq (Ef.int k) h S s xs :=
 Sq.of_arg (E:=Ef.int k) hu hc (fun es t=>by
  obtain⟨y,rfl,w⟩:=t.int he;exact⟨y,rfl⟩) a
structure Nd where
 leaf:Bool
 weight:Int
 party:Int
 feature:Int
 cut:Int
 left:Int
 right:Int
 deriving DecidableEq
def Nd.cells(x:Nd):List AV:=[.bool x.leaf,.int .i64 x.weight,.int .i64 x.party,.int .i64 x.feature,.int .i64 x.cut,.int .i64 x.left,.int .i64 x.right]
@[reducible] def Ef.nd:Ef Nd where
 w:=7
 pos:=by decide
 has _ _ cs x:=cs=x.cells
 len e:=by rw[e];rfl
 grow _ e:=e
 mono _ e:=e
 upd _ _ e:=e
 bound e:=e
theorem Sq.nd{h:AH}{S:Fp}{s:Sl}{xs:List Nd}(n:Sq Ef.nd h S s xs){i:Nat}(hi:i<xs.length):∃r:Ref,idx s.ref s.len (i:Int) 7=some r∧(h.cell (r.add 0)).bind AV.asBool=some xs[i].leaf∧(h.cell (r.add 1)).bind (AV.asInt .i64)=some xs[i].weight∧
  (h.cell (r.add 2)).bind (AV.asInt .i64)=some xs[i].party∧(h.cell (r.add 3)).bind (AV.asInt .i64)=some xs[i].feature∧(h.cell (r.add 4)).bind (AV.asInt .i64)=some xs[i].cut∧(h.cell (r.add 5)).bind (AV.asInt .i64)=some xs[i].left∧(h.cell (r.add 6)).bind (AV.asInt .i64)=some xs[i].right:=by
 obtain⟨r,cs,e1,e2,l⟩:=n.at (kd2 hi);have e2:cs=xs[i].cells:=e2;subst e2;rw[n.len];have g:=Grow.refl h;exact⟨r,e1,l.rd g 0 rfl rfl,l.rd g 1 rfl (kc _ _),l.rd g 2 rfl (kc _ _),l.rd g 3 rfl (kc _ _),l.rd g 4 rfl (kc _ _),l.rd g 5 rfl (kc _ _),l.rd g 6 rfl (kc _ _)⟩
theorem knu{α:Type}{xs:List α}{i:Nat}(hi:i<xs.length)(p:α→Bool):(xs.drop i).all p=(p xs[i]&&(xs.drop (i+1)).all p):=by
 rw[List.drop_eq_getElem_cons hi,List.all_cons]
theorem kfy{α:Type}{xs:List α}{i:Nat}(hi:xs.length≤i)(p:α→Bool):(xs.drop i).all p=true:=by
 rw[List.drop_of_length_le hi];rfl
theorem kjl{n i:Nat}(hi:i<n)(p:Nat→Bool):((List.range n).drop i).all p=(p i&&((List.range n).drop (i+1)).all p):=by
 rw[knu (by simpa using hi),List.getElem_range]
def Kp(es:List AEnt)(l:List (Int×Int)):Prop:=es.map (fun e=>(e.key,e.val))=l.map fun p=>(AV.agg [.int .i64 p.1,.int .i64 p.2],AV.bool true)
theorem kob{a b:Int}:∀{es:List AEnt}{l:List (Int×Int)}(j:Nat),Kp es l→
  (findP .i64 a b es j=some none∧(a,b)∉l)∨∃t,findP .i64 a b es j=some (some (t,.bool true))∧(a,b)∈l
 | [],l,j,k=>by
  cases l with
  | nil=>exact .inl ⟨rfl,by simp⟩
  | cons p t=>simp[Kp]at k
 | e::es,l,j,k=>by
  cases l with
  | nil=>simp[Kp]at k
  | cons p t =>
   obtain⟨x,y⟩:=p;simp only[Kp,List.map_cons,List.cons.injEq,Prod.mk.injEq]at k;obtain⟨⟨k1,k2⟩,k3⟩:=k;have ih:=kob (a:=a) (b:=b) (j+1) (show Kp es t from k3);simp only[findP,k1,decide_true,Bool.and_self,cond_true];by_cases h:a=x∧b=y
   ·obtain⟨rfl,rfl⟩:=h
    right
    exact⟨j,by simp[k2],by simp⟩
   ·have hb:(decide (a=x)&&decide (b=y))=false:=by
     rw[Bool.and_eq_false_iff,decide_eq_false_iff_not,decide_eq_false_iff_not];exact Classical.not_and_iff_not_or_not.1 h
    have hm:((a,b)∈(x,y)::t)↔(a,b)∈t:=by
     rw[List.mem_cons,Prod.mk.injEq];exact or_iff_right h
    rw[hb,cond_false,hm];exact ih
def MapP(h:AH)(i:Nat)(l:List (Int×Int)):Prop:=∃es ck,h.blks[i]?=some (.map es ck)∧Kp es l
section
variable{h:AH}{i:Nat}{l:List (Int×Int)}
theorem MapP.lt(m:MapP h i l):i<h.blks.size:=by
 obtain⟨es,ck,e,_⟩:=m;exact(Array.getElem?_eq_some_iff.1 e).1
theorem MapP.md{h':AH}{T:Fp}(m:MapP h i l)(d:Md T h h')(n:¬T i):MapP h' i l:=by
 obtain⟨es,ck,e,k⟩:=m;exact⟨es,ck,d.get e n,k⟩
theorem MapP.get(m:MapP h i l)(a b:Int):khd h (some i) .i64 a b=some (if(a,b)∈l then some (.bool true)else none):=by
 obtain⟨es,ck,e,k⟩:=m;simp only[khd,AH.mapAt,e,Option.bind_some];rcases kob (a:=a) (b:=b) 0 k with⟨q,n⟩ | ⟨t,q,n⟩
 ·rw[q,if_neg n];rfl
 ·rw[q,if_pos n];rfl
theorem MapP.put(m:MapP h i l){a b:Int}(n:(a,b)∉l):∃h',kix h i .i64 a b (.bool true)=some h'∧MapP h' i (l++[(a,b)])∧Upd h h' i:=by
 have hl:=m.lt;obtain⟨es,ck,e,k⟩:=m;simp only[kix,AH.mapAt,e,Option.bind_some];rcases kob (a:=a) (b:=b) 0 k with⟨q,_⟩ | ⟨t,q,n'⟩
 ·rw[q];refine⟨_,rfl,⟨_,_,AH.setBlk_get hl,?_⟩,AH.setBlk_Upd _⟩;unfold Kp at k⊢;simp[k]
 ·exact absurd n' n
end
theorem Runs.newP{P:AV→AH→Prop}{h:AH}{K:Nat→AH→Option (AV×AH)}(H:∀h',MapP h' h.blks.size []→Grow h h'→Runs (K h.blks.size h') P):Runs (Go.Ab.newM h (.map [] 0) K) P :=
 Runs.newM fun h' e g=>H h' ⟨[],0,e,rfl⟩ g
end Go.Ab
namespace Go.Num
end Go.Num
set_option maxRecDepth 10000
namespace Go.Ab
open Go.Proofs Go.Num
theorem kbek(b x:Nat)(xs:List Nat):num b (x::xs)=x+b*num b xs:=rfl
theorem k9i(b:Nat)(ys:List Nat):num b ys=ys.headD 0+b*num b ys.tail:=by
 cases ys with
 | nil=>simp[num]
 | cons y ys=>rfl
theorem k9g{xs ys:List Nat}(hx:rt xs=true)(hy:rt ys=true):cmpN xs ys=cmp (num B xs) (num B ys):=by
 unfold cmpN;rw[if_pos ⟨hx,hy⟩]
section
variable{ns xs ys ones nexts:List Nat}{v k N X Y:Nat}
end
theorem Bl.det{x m n:Nat}(a:Bl x m)(b:Bl x n):m=n:=Nat.le_antisymm (a.le b.1) (b.le a.1)
theorem k3w{a:Int}{h:AH}(c:0≤a∧a<18446744073709551616):go (.fn khx [.int .u64 a]) h=some (.int .i64 ((bl (Int.toNat a):Nat):Int),h):=by
 obtain⟨x,rfl⟩:∃x:Nat,a=(x:Int):=⟨a.toNat,by omega⟩;obtain⟨n,e,b⟩:=kul (x:=x) (by omega) (h:=h);rw[e,Int.toNat_natCast,b.det (bl_Bl x)]
inductive kid
 | fn (x1:List Nat)
 | no
abbrev kfw:=Int
noncomputable def kjn(x1:List Nat):Option (kid⊕kfw) :=
 cond (!(rt x1)) (some (.inr 0)) (cond (decide ((List.length x1:Int)=0)) (some (.inr 0)) ((atI x1 (IntKind.wrap .i64 ((List.length x1:Int)-1))).bind fun y5=>(need (0≤((y5:Int))∧((y5:Int))<18446744073709551616)).bind fun c6_0=>some (.inr (IntKind.wrap .i64 ((IntKind.wrap .i64 (64*(IntKind.wrap .i64 ((List.length x1:Int)-1))))+(((bl (Int.toNat ((y5:Int))):Nat):Int)))))))
noncomputable def kom:kid→Option (kid⊕kfw)
 | .fn x1=>kjn x1
 | .no=>none
@[reducible] def kn3(h0:AH)(r:kfw)(v:AV)(h':AH):Prop:=v=.int .i64 r∧Grow h0 h'
def koi(r:kfw):kid→Prop
 | .fn x1=>∀{h:AH}{a1:Sl},Nats h a1 x1→Runs (go (.fn khi [a1.v]) h) (kn3 h r)
 | .no=>True
theorem k7h{r:kfw}{o:kid⊕kfw}{x1:List Nat}(e:kjn x1=some o)(good:GoodS (koi r) r o):koi r (.fn x1):=by
 intro h a1 n1;rw[k2o];unfold kjn at e;rw[n1.len];refine Runs.step (ked n1) ?_;refine Runs.step (seen rfl) ?_;refine Runs.cond (fun k3=>?_) (fun k3=>?_)
 ·replace e:=(condT k3).symm.trans e;cases e;cases good;exact Runs.ret ⟨rfl,(Grow.refl _)⟩
 ·replace e:=(condF k3).symm.trans e;refine Runs.cond (fun k4=>?_) (fun k4=>?_)
  ·replace e:=(condT k4).symm.trans e;cases e;cases good;exact Runs.ret ⟨rfl,(Grow.refl _)⟩
  ·replace e:=(condF k4).symm.trans e;obtain⟨y5,q5,e⟩:=Option.bind_eq_some_iff.1 e;obtain⟨r5,j5,l5⟩:=n1.atI q5;refine Runs.step j5 ?_;refine Runs.step (rdc l5 (kc _ _)) ?_;obtain⟨c6_0,q6_0,e⟩:=Option.bind_eq_some_iff.1 e;refine Runs.step (k3w  c6_0.down) ?_;refine Runs.step (seen (kc _ _)) ?_;cases e;cases good;exact Runs.ret ⟨rfl,(Grow.refl _)⟩
theorem k8n{s:kid}{r:kfw}(it:Iter kom s r):koi r s:=Iter.ind (fun s o e good=>by
 cases s with
 | fn x1=>exact @k7h _ _ x1 e good
 | no=>exact True.intro
 ) it
theorem k0p{h:AH}{a1:Sl}{x1:List Nat}(n1:Nats h a1 x1){r:kfw}(q:runP kom (.fn x1)=some r):Runs (go (.fn khi [a1.v]) h) (kn3 h r):=k8n (kku q) n1
inductive khu
 | fn (x1:List Nat) (a2:Int)
 | no
abbrev kfa:=Bool
noncomputable def kj6(x1:List Nat)(a2:Int):Option (khu⊕kfa) :=
 cond ((rt x1)) (cond (decide (a2≥0)) (cond (decide ((IntKind.wrap .i64 (Int.tdiv a2 64))<(List.length x1:Int))) ((atI x1 (IntKind.wrap .i64 (Int.tdiv a2 64))).bind fun y7=>cond (decide ((Int.tmod a2 64)<0)) (none) (some (.inr (decide ((iand .u64 (ishr .u64 ((y7:Int)) (Int.tmod a2 64)) 1)=1))))) (some (.inr false))) (some (.inr false))) (some (.inr false))
noncomputable def kre:khu→Option (khu⊕kfa)
 | .fn x1 a2=>kj6 x1 a2
 | .no=>none
@[reducible] def kq1(h0:AH)(r:kfa)(v:AV)(h':AH):Prop:=v=.bool r∧Grow h0 h'
def krg(r:kfa):khu→Prop
 | .fn x1 a2=>∀{h:AH}{a1:Sl},Nats h a1 x1→Runs (go (.fn kjc [a1.v,.int .i64 a2]) h) (kq1 h r)
 | .no=>True
theorem kbeo{r:kfa}{o:khu⊕kfa}{x1:List Nat}{a2:Int}(e:kj6 x1 a2=some o)(good:GoodS (krg r) r o):krg r (.fn x1 a2):=by
 intro h a1 n1;rw[k5x];unfold kj6 at e;rw[n1.len];refine Runs.step (ked n1) ?_;refine Runs.step (seen rfl) ?_;refine Runs.cond (fun k4=>?_) (fun k4=>?_)
 ·replace e:=(condT k4).symm.trans e;refine Runs.cond (fun k5=>?_) (fun k5=>?_)
  ·replace e:=(condT k5).symm.trans e;refine Runs.cond (fun k6=>?_) (fun k6=>?_)
   ·replace e:=(condT k6).symm.trans e;obtain⟨y7,q7,e⟩:=Option.bind_eq_some_iff.1 e;obtain⟨r7,j7,l7⟩:=n1.atI q7;refine Runs.step j7 ?_;refine Runs.step (rdc l7 (kc _ _)) ?_;refine Runs.cond (fun k8=>?_) (fun k8=>?_)
    ·replace e:=(condT k8).symm.trans e;cases e
    ·replace e:=(condF k8).symm.trans e;cases e;cases good;exact Runs.ret ⟨rfl,(Grow.refl _)⟩
   ·replace e:=(condF k6).symm.trans e;cases e;cases good;exact Runs.ret ⟨rfl,(Grow.refl _)⟩
  ·replace e:=(condF k5).symm.trans e;cases e;cases good;exact Runs.ret ⟨rfl,(Grow.refl _)⟩
 ·replace e:=(condF k4).symm.trans e;cases e;cases good;exact Runs.ret ⟨rfl,(Grow.refl _)⟩
theorem k6v{s:khu}{r:kfa}(it:Iter kre s r):krg r s:=Iter.ind (fun s o e good=>by
 cases s with
 | fn x1 a2=>exact @kbeo _ _ x1 a2 e good
 | no=>exact True.intro
 ) it
theorem kbei{h:AH}{a1:Sl}{x1:List Nat}{a2:Int}(n1:Nats h a1 x1){r:kfa}(q:runP kre (.fn x1 a2)=some r):Runs (go (.fn kjc [a1.v,.int .i64 a2]) h) (kq1 h r):=k6v (kku q) n1
def bitsN(xs:List Nat):Nat:=if rt xs=true then bl (num B xs)else 0
def bitN(xs:List Nat)(i:Int):Bool:=rt xs&&(decide (0≤i)&&(num B xs).testBit i.toNat)
theorem kod{xs:List Nat}(l:∀x∈xs,x<B):∀i:Nat,num B xs/B^i=num B (xs.drop i)
 | 0=>by simp
 | i+1=>by
  rw[Nat.pow_succ,Nat.mul_comm,← Nat.div_div_eq_div_mul,k9i B xs]
  have h:xs.headD 0<B:=by
   cases xs with
   | nil=>decide
   | cons x xs=>exact l x (by simp)
  rw[Nat.add_mul_div_left _ _ (show 0<B by decide),Nat.div_eq_of_lt h,Nat.zero_add,kod (xs:=xs.tail) (fun x hx=>l x (List.mem_of_mem_tail hx)) i];rw[← List.drop_one,List.drop_drop,Nat.add_comm]
theorem B_pow2(i:Nat):B^i=2^(64*i):=by rw[show B=2^64 from rfl,← Nat.pow_mul]
theorem bl_num{xs:List Nat}(l:∀x∈xs,x<B)(h:xs.length≠0)(h0:xs[xs.length-1]≠0):bl (num B xs)=64*(xs.length-1)+bl xs[xs.length-1]:=by
 have hd:=kod l (xs.length-1);rw[List.drop_eq_getElem_cons (by omega),show xs.length-1+1=xs.length from by omega,List.drop_length,B_pow2]at hd;have e:num B xs/2^(64*(xs.length-1))=xs[xs.length-1]:=by rw[hd];simp[num]
 refine(bl_Bl _).det (Bl.up (n:=bl xs[xs.length-1]) ?_ ?_)
 ·rw[e];exact bl_Bl _
 ·rw[e];omega
theorem bl_le{x m:Nat}(h:x<2^m):bl x≤m:=(bl_Bl x).le h
theorem k58{xs:List Nat}(h:rt xs=true)(hl:xs.length≠0):xs[xs.length-1]≠0:=by
 have t:=(rt_iff.1 h).2 (fun e=>hl (by rw[e];rfl));rwa[List.getLast_eq_getElem]at t
theorem kbe7{xs:List Nat}(l:∀x∈xs,x<B):runP kom (.fn xs)=some ((bitsN xs:Nat):Int):=by
 refine ki4 (.done ?_);show kjn _=_;unfold kjn bitsN;by_cases hr:rt xs=true
 ·rw[hr,if_pos rfl,show(!true)=false from rfl,cond_false];have h64:=(rt_iff.1 hr).1;by_cases hl:xs.length=0
  ·rw[condT (by rw[decide_eq_true_eq];omega),List.length_eq_zero_iff.1 hl];rfl
  ·have hb:=l xs[xs.length-1] (List.getElem_mem _);have hb':xs[xs.length-1]<18446744073709551616:=hb;have hbl:=bl_le (x:=xs[xs.length-1]) (m:=64) hb;rw[condF (by rw[decide_eq_false_iff_not];omega),show((xs.length:Int)-1)=((xs.length-1:Nat):Int)from by omega,kbz (by omega),kcc (by omega),Option.bind_some];have hn:0≤((xs[xs.length-1]:Nat):Int)∧((xs[xs.length-1]:Nat):Int)<18446744073709551616:=by omega
   simp only[kbm hn,Option.bind_some];rw[Int.toNat_natCast,bl_num l hl (k58 hr hl),show(64*((xs.length-1:Nat):Int))=((64*(xs.length-1):Nat):Int)from by omega,kbz (by omega),← Int.natCast_add,kbz (by omega)]
 ·rw[if_neg hr,show rt xs=false from by simpa using hr];rfl
theorem ku7{h:AH}{s:Sl}{xs:List Nat}(n:Nats h s xs):Runs (go (.fn khi [s.v]) h) (kn3 h (bitsN xs)):=k0p n (kbe7 n.lt)
theorem k6w{x:Nat}(h:0<x):bl x=bl (x/2)+1:=by
 by_cases h2:x/2=0
 ·have:x=1:=by omega
  subst this;decide
 ·have:=Bl.up (x:=x) (k:=1) (n:=bl (x/2)) (by rw[Nat.pow_one];exact bl_Bl _) (by rw[Nat.pow_one];omega);rw[(bl_Bl x).det this];omega
theorem kbd2{x:Nat}(hx:x<18446744073709551616):iand .u64 (x:Int) 1=((x%2:Nat):Int):=by
 unfold iand;rw[show IntKind.bits .u64=64 from rfl,wrapU];have e1:BitVec.ofInt 64 (x:Int)=BitVec.ofNat 64 x:=rfl;have e2:BitVec.ofInt 64 1=BitVec.ofNat 64 1:=rfl;rw[e1,e2,BitVec.toNat_and,BitVec.toNat_ofNat,BitVec.toNat_ofNat];rw[Nat.mod_eq_of_lt (show x<2^64 from hx),Nat.mod_eq_of_lt (show 1<2^64 from by decide),Nat.and_one_is_mod];omega
theorem kbaa{xs:List Nat}(l:∀x∈xs,x<B){q r:Nat}(hq:q<xs.length)(hr:r<64):(num B xs).testBit (64*q+r)=decide (xs[q]/2^r%2=1):=by
 rw[Nat.testBit_eq_decide_div_mod_eq,Nat.pow_add,← Nat.div_div_eq_div_mul,← B_pow2,kod l,List.drop_eq_getElem_cons hq,kbek];generalize num B (xs.drop (q+1))=Y;congr 2
 have e:B=2^r*(2^(63-r)*2):=by
  rw[← Nat.pow_succ,← Nat.pow_add,show r+(63-r).succ=64 from by omega]
 have e2:xs[q]+B*Y=xs[q]+2^r*(2^(63-r)*2*Y):=by rw[← Nat.mul_assoc,← e]
 rw[e2,Nat.add_mul_div_left _ _ (Nat.pow_pos (by decide)),show 2^(63-r)*2*Y=2*(2^(63-r)*Y)from by rw[Nat.mul_comm (2^(63-r)) 2,Nat.mul_assoc],Nat.add_mul_mod_self_left]
theorem k5f{xs:List Nat}(l:∀x∈xs,x<B){i:Nat}(hq:xs.length≤i/64):(num B xs).testBit i=false:=by
 refine Nat.testBit_lt_two_pow ?_;have h1:=num_lt B1 l;rw[B_pow2]at h1;have h2:2^(64*xs.length)≤2^i:=Nat.pow_le_pow_right (by decide) (by omega);omega
theorem tdiv64(n:Nat):Int.tdiv (n:Int) 64=((n/64:Nat):Int):=rfl
theorem tmod64(n:Nat):Int.tmod (n:Int) 64=((n%64:Nat):Int):=rfl
theorem kbbc{xs:List Nat}{i:Int}(h:rt xs=false):bitN xs i=false:=by unfold bitN;rw[h];rfl
theorem kze{xs:List Nat}{i:Int}(h:i<0):bitN xs i=false:=by unfold bitN;rw[show decide (0≤i)=false from by rw[decide_eq_false_iff_not];omega];cases rt xs<;>rfl
theorem k1r{xs:List Nat}{i:Nat}(h:rt xs=true):bitN xs (i:Int)=(num B xs).testBit i:=by unfold bitN;rw[h,show decide (0≤(i:Int))=true from by rw[decide_eq_true_eq];omega];rfl
theorem k6h{xs:List Nat}(l:∀x∈xs,x<B){i:Int}(hi:i≤9223372036854775807):runP kre (.fn xs i)=some (bitN xs i):=by
 refine ki4 (.done ?_);show kj6 _ _=_;unfold kj6;by_cases hr:rt xs=true
 ·rw[hr,cond_true];by_cases h0:i<0
  ·rw[condF (by rw[decide_eq_false_iff_not];omega),kze h0]
  ·obtain⟨j,rfl⟩:∃j:Nat,i=(j:Int):=⟨i.toNat,by omega⟩;rw[condT (by rw[decide_eq_true_eq];omega),k1r hr,tdiv64,tmod64,kbz (by omega)];by_cases hq:j/64<xs.length
   ·have hb:xs[j/64]<18446744073709551616:=l _ (List.getElem_mem _);have h2:xs[j/64]/2^(j%64)<18446744073709551616:=Nat.lt_of_le_of_lt (Nat.div_le_self _ _) hb;rw[condT (by rw[decide_eq_true_eq];omega),kcc hq,Option.bind_some,condF (by rw[decide_eq_false_iff_not];omega),kb3,Nat.min_eq_left (by omega),kbd2 h2];have:=kbaa l hq (Nat.mod_lt j (show 0<64 by decide));rw[Nat.div_add_mod]at this;rw[this];generalize xs[j/64]/2^(j%64)=z;congr 3;exact propext (by omega)
   ·rw[condF (by rw[decide_eq_false_iff_not];omega),k5f l (by omega)]
 ·rw[show rt xs=false from by simpa using hr,cond_false,kbbc (by simpa using hr)]
theorem k8d{h:AH}{s:Sl}{xs:List Nat}(n:Nats h s xs){i:Int}(hi:i≤9223372036854775807):Runs (go (.fn kjc [s.v,.int .i64 i]) h) (kq1 h (bitN xs i)):=kbei n (k6h n.lt hi)
theorem kkj{n:Nat}(h:n≤1000000):growOk Pg n kr 1=true:=by
 unfold growOk;rw[k61,k5o];have h1:n*24≤kg:=by simp only[kg];omega
 have h2:n≤kg:=by simp only[kg];omega
 simp[h1,h2]
section
variable{N k v:Nat}{ones nexts:List Nat}
end
def kd7(x1:List Nat):List Nat :=
 (mulN x1 x1).1
theorem k0m{h:AH}{a1:Sl}{x1:List Nat}(n1:Nats h a1 x1)  : Runs (go (.fn kqr [a1.v]) h) fun v h'=>∃s1:Sl,v=s1.v∧Nats h' s1 (kd7 x1)∧Grow h h'∧Own h s1:=by
 rw[k84];obtain⟨s2,H2,e2,n2,g2,o2⟩:=kpl n1 n1;refine Runs.step e2 ?_;refine Runs.step rfl ?_;refine Runs.step (seen (asSl_v _)) ?_;refine Runs.step (seen (kc _ _)) ?_;have z:kd7 x1=(mulN x1 x1).1:=by unfold kd7;exact rfl
 rw[z];exact Runs.ret ⟨s2,rfl,n2,g2,(o2.of_le (Grow.refl _))⟩
def kcz(x1:List Nat):Bool :=
 cond ((rt x1)) (cond (((bitN x1 0))) (cond (decide ((((bitsN x1:Nat):Int))≥15)) (decide ((((bitsN x1:Nat):Int))≤80)) (false)) (false)) (false)
theorem kpx{h:AH}{a1:Sl}{x1:List Nat}(n1:Nats h a1 x1)  : Runs (go (.fn kih [a1.v]) h) fun v h'=>v=.bool (kcz x1)∧Grow h h':=by
 rw[k82];obtain⟨_,H2,e2,rfl,g2⟩:=ku7 n1;refine Runs.step e2 ?_;refine Runs.step (seen (kc _ _)) ?_;refine Runs.step (ked (n1.grow g2)) ?_;refine Runs.step (seen rfl) ?_;refine Runs.cond (fun k4=>?_) (fun k4=>?_)
 ·obtain⟨_,H5,e5,rfl,g5⟩:=k8d (n1.grow g2) (i:=0) (by decide);refine Runs.step e5 ?_;refine Runs.step (seen rfl) ?_;refine Runs.cond (fun k6=>?_) (fun k6=>?_)
  ·refine Runs.cond (fun k7=>?_) (fun k7=>?_)
   ·have z:kcz x1=decide ((((bitsN x1:Nat):Int))≤80):=by unfold kcz;exact(condT k4).trans ((condT k6).trans ((condT k7).trans rfl))
    rw[z];exact Runs.ret ⟨rfl,(g2.trans g5)⟩
   ·have z:kcz x1=false:=by unfold kcz;exact(condT k4).trans ((condT k6).trans ((condF k7).trans rfl))
    rw[z];exact Runs.ret ⟨rfl,(g2.trans g5)⟩
  ·have z:kcz x1=false:=by unfold kcz;exact(condT k4).trans ((condF k6).trans rfl)
   rw[z];exact Runs.ret ⟨rfl,(g2.trans g5)⟩
 ·have z:kcz x1=false:=by unfold kcz;exact(condF k4).trans rfl
  rw[z];exact Runs.ret ⟨rfl,g2⟩
def kdp(x1 x2 x3:List Nat):Bool :=
 cond (!(rt x1)) (false) (cond (decide ((List.length x1:Int)=0)) (false) (cond (decide ((cmpN x1 x3)≥0)) (false) (decide ((cmpN ((gcdN x1 x2).1) [1])=0))))
theorem k8t{h:AH}{a1:Sl}{x1:List Nat}{a2:Sl}{x2:List Nat}{a3:Sl}{x3:List Nat}(n1:Nats h a1 x1)(n2:Nats h a2 x2)(n3:Nats h a3 x3)  : Runs (go (.fn kox [a1.v,a2.v,a3.v]) h) fun v h'=>v=.bool (kdp x1 x2 x3)∧Grow h h':=by
 rw[kzs];rw[n1.len];refine Runs.step (ked n1) ?_;refine Runs.step (seen rfl) ?_;refine Runs.cond (fun k5=>?_) (fun k5=>?_)
 ·have z:kdp x1 x2 x3=false:=by unfold kdp;exact(condT k5).trans rfl
  rw[z];exact Runs.ret ⟨rfl,(Grow.refl _)⟩
 ·refine Runs.cond (fun k6=>?_) (fun k6=>?_)
  ·have z:kdp x1 x2 x3=false:=by unfold kdp;exact(condF k5).trans ((condT k6).trans rfl)
   rw[z];exact Runs.ret ⟨rfl,(Grow.refl _)⟩
  ·obtain⟨H7,e7,g7⟩:=kpb n1 n3;refine Runs.step e7 ?_;refine Runs.step (seen (kc _ _)) ?_;refine Runs.cond (fun k8=>?_) (fun k8=>?_)
   ·have z:kdp x1 x2 x3=false:=by unfold kdp;exact(condF k5).trans ((condF k6).trans ((condT k8).trans rfl))
    rw[z];exact Runs.ret ⟨rfl,g7⟩
   ·obtain⟨_,H9,e9,s9,rfl,n9,g9,o9⟩:=kbbb (n1.grow g7) (n2.grow g7);refine Runs.step e9 ?_;refine Runs.step rfl ?_;refine Runs.step (seen (asSl_v _)) ?_;refine Runs.step (seen (kc _ _)) ?_;refine Runs.new fun H10 b10 g10=>?_;obtain⟨H11,e11,g11⟩:=kpb (n9.grow g10) (Nats.of_has (xs:=[1]) b10 (by decide) (by decide));refine Runs.step e11 ?_;refine Runs.step (seen (kc _ _)) ?_;have z:kdp x1 x2 x3=decide ((cmpN ((gcdN x1 x2).1) [1])=0):=by unfold kdp;exact(condF k5).trans ((condF k6).trans ((condF k8).trans rfl))
    rw[z];have G12:=(((g7.trans g9).trans g10).trans g11);exact Runs.ret ⟨rfl,G12⟩
def kfl(x1 x2:List Nat):Bool :=
 cond (((kcz x1))) (((kdp x2 x1 (kd7 x1)))) (false)
theorem krl{h:AH}{a1:Sl}{x1:List Nat}{a2:Sl}{x2:List Nat}(n1:Nats h a1 x1)(n2:Nats h a2 x2)  : Runs (go (.fn kmm [a1.v,a2.v]) h) fun v h'=>v=.bool (kfl x1 x2)∧Grow h h':=by
 rw[kbb8];obtain⟨_,H3,e3,rfl,g3⟩:=kpx n1;refine Runs.step e3 ?_;refine Runs.step (seen rfl) ?_;refine Runs.cond (fun k4=>?_) (fun k4=>?_)
 ·obtain⟨_,H5,e5,s5,rfl,n5,g5,o5⟩:=k0m (n1.grow g3);refine Runs.step e5 ?_;refine Runs.step (seen (asSl_v _)) ?_;obtain⟨_,H6,e6,rfl,g6⟩:=k8t (n2.grow (g3.trans g5)) (n1.grow (g3.trans g5)) n5;refine Runs.step e6 ?_;refine Runs.step (seen rfl) ?_;have z:kfl x1 x2=((kdp x2 x1 (kd7 x1))):=by unfold kfl;exact(condT k4).trans rfl
  rw[z];have G7:=((g3.trans g5).trans g6);exact Runs.ret ⟨rfl,G7⟩
 ·have z:kfl x1 x2=false:=by unfold kfl;exact(condF k4).trans rfl
  rw[z];exact Runs.ret ⟨rfl,g3⟩
def kuz(x1 x2 x3:List Nat):List Nat :=
 (divN ((mulN x1 x2).1) x3).2.1
end Go.Ab
set_option maxRecDepth 10000
namespace Go.Ab
open Go.Proofs Go.Num
section
variable{ns xs es:List Nat}(ln:∀x∈ns,x<B)(le:∀x∈es,x<B)
include ln le
end
section
variable{ns xs ys:List Nat}(ln:∀x∈ns,x<B)(lx:∀x∈xs,x<B)(ly:∀x∈ys,x<B)
include ln lx
end
section
variable{h:AH}{s t u:Sl}{ns xs ys:List Nat}(n:Nats h s ns)(m:Nats h t xs)(k:Nats h u ys)
include n m k
end
end Go.Ab
set_option maxRecDepth 10000
namespace Go.Ab
open Go.Proofs Go.Num
theorem kyi{X:Nat}(h:X<B^64):told X=(digs B X,0):=by
 unfold told;rw[if_pos h]
def Ef.byte:Ef Nat where
 w:=1
 pos:=by decide
 has _ _ cs b:=cs=[.int .u8 (b:Int)]∧b<256
 len e:=by rw[e.1];rfl
 grow _ e:=e
 mono _ e:=e
 upd _ _ e:=e
 bound e:=e
theorem ktv:∀(j m:Nat){v c s:Nat},j<m→v<2^s*B^j→c*2^s+2^s≤B→(padD B m v).set j ((padD B m v).getD j 0+c*2^s)=padD B m (v+c*2^s*B^j)∧(padD B m v).getD j 0<2^s
 | _,0,_,_,_,h,_,_=>absurd h (Nat.not_lt_zero _)
 | 0,m+1,v,c,s,_,hv,hc=>by
  have B0:0<B:=by decide
  have hv:v<2^s:=by simpa using hv
  have h1:v<B:=by omega
  have h2:v+c*2^s<B:=by omega
  simp only[padD,List.set_cons_zero,List.getD_cons_zero,Nat.pow_zero,Nat.mul_one];rw[Nat.mod_eq_of_lt h1,Nat.mod_eq_of_lt h2,Nat.div_eq_of_lt h1,Nat.div_eq_of_lt h2];exact⟨rfl,hv⟩
 | j+1,m+1,v,c,s,hj,hv,hc=>by
  have B0:0<B:=by decide
  have hv':v/B<2^s*B^j:=Nat.div_lt_of_lt_mul (by rw[Nat.pow_succ]at hv;rw[Nat.mul_comm B,Nat.mul_assoc];exact hv);obtain⟨h1,h2⟩:=ktv j m (c:=c) (show j<m by omega) hv' hc;simp only[padD,List.set_cons_succ,List.getD_cons_succ];refine⟨?_,h2⟩;rw[h1];have e:c*2^s*B^(j+1)=B*(c*2^s*B^j):=by rw[Nat.pow_succ,← Nat.mul_assoc,Nat.mul_comm]
  rw[e,Nat.add_mul_mod_self_left,Nat.add_mul_div_left _ _ B0]
theorem pow256(i:Nat):256^i=2^(8*(i%8))*B^(i/8):=by
 have e:B=2^64:=rfl;rw[e,← Nat.pow_mul,← Nat.pow_add,show(256:Nat)=2^8 from rfl,← Nat.pow_mul];congr 1;omega
theorem kpg{bs:List Nat}(h:∀b∈bs,b<256):num 256 bs<256^bs.length:=num_lt (by decide) h
def beN(bs:List Nat):Nat:=num 256 bs.reverse
theorem kle{h:AH}{S:Fp}{s:Sl}{bs:List Nat}(n:Sq Ef.byte h S s bs){i:Nat}(hi:i<bs.length):∃r:Ref,idx s.ref s.len (i:Int) 1=some r∧(h.cell r).bind (AV.asInt .u8)=some ((bs[i]:Nat):Int)∧bs[i]<256:=by
 obtain⟨r,cs,e1,⟨rfl,e2⟩,e3⟩:=n.at (i:=(i:Int)) (kd2 hi);rw[n.len];exact⟨r,e1,e3.rd0 (Grow.refl h) (f:=AV.asInt .u8) rfl (kc _ _),e2⟩
theorem ksf{h:AH}{S:Fp}{s:Sl}{bs:List Nat}(n:Sq Ef.byte h S s bs):∀b∈bs,b<256:=by
 intro b hb;obtain⟨i,hi,rfl⟩:=List.getElem_of_mem hb;exact(kle n hi).choose_spec.2.2
theorem kws{h:AH}{S:Fp}{s:Sl}{bs:List Nat}(n:Sq Ef.byte h S s bs):∀(k i:Nat),i+k=bs.length→
  ∃r:Int,go (.pt kfu kib [(0,s.v),(1,.func (.func kd3) [] []),(7,.int .i64 (bs.length:Int)),(8,.int .i64 (i:Int))]) h=some (.int .i64 r,h)∧
   ((r=-1∧∀t (ht:t<bs.length),i≤t→bs[t]=0)∨∃j:Nat,r=(j:Int)∧j<bs.length∧∀t (ht:t<bs.length),i≤t→t<j→bs[t]=0)
 | 0,i,hi=>by
  refine⟨-1,?_,.inl ⟨rfl,fun t ht h=>by omega⟩⟩;rw[kvz,condF (by rw[decide_eq_false_iff_not];omega)]
 | k+1,i,hi=>by
  have hlt:i<bs.length:=by omega
  obtain⟨r,e1,e2,e3⟩:=kle n hlt;have hs:=n.short
  have st:go (.pt kfu kib [(0,s.v),(1,.func (.func kd3) [] []),(7,.int .i64 (bs.length:Int)),(8,.int .i64 (i:Int))]) h=cond (!decide (((bs[i]:Nat):Int)=0)) (some (.int .i64 (i:Int),h)) (go (.pt kfu kib [(0,s.v),(1,.func (.func kd3) [] []),(7,.int .i64 (bs.length:Int)),(8,.int .i64 ((i+1:Nat):Int))]) h):=by
   rw[kvz,condT (by rw[decide_eq_true_eq];omega),e1,Option.bind_some,e2,Option.bind_some,k9l,Option.bind_some,kf (by omega)];rfl
  rw[st];by_cases h0:bs[i]=0
  ·obtain⟨r',f1,f2⟩:=kws n k (i+1) (by omega);refine⟨r',by rw[h0];exact f1,?_⟩;rcases f2 with⟨g1,g2⟩ | ⟨j,g1,g2,g3⟩
   ·exact .inl ⟨g1,fun t ht hle=>by
     rcases Nat.lt_or_ge i t with h' | h'
     ·exact g2 t ht h'
     ·have:t=i:=by omega
      subst this;exact h0⟩
   ·exact .inr ⟨j,g1,g2,fun t ht hle hj=>by
     rcases Nat.lt_or_ge i t with h' | h'
     ·exact g3 t ht h' hj
     ·have:t=i:=by omega
      subst this;exact h0⟩
  ·exact⟨(i:Int),by rw[condT (by rw[decide_eq_false (show¬((bs[i]:Nat):Int)=0 from by omega)];rfl)],.inr ⟨i,rfl,hlt,fun t ht h1 h2=>by omega⟩⟩
theorem kv3{bs:List Nat}{j:Nat}(h:∀t (ht:t<bs.length),t<j→bs[t]=0)(hj:j≤bs.length):beN (bs.drop j)=beN bs:=by
 have e:bs=List.replicate j 0++bs.drop j:=by
  conv=>lhs;rw[← List.take_append_drop j bs]
  congr 1;apply List.ext_getElem
  ·simp;omega
  ·intro i h1 h2;rw[List.getElem_take,List.getElem_replicate];exact h i _ (by simp at h1;omega)
 unfold beN
 conv=>rhs;rw[e]
 rw[List.reverse_append,List.reverse_replicate,kdu];rw[k44,Nat.mul_zero,Nat.add_zero]
theorem k1p{bs:List Nat}(h:∀t (ht:t<bs.length),bs[t]=0):beN bs=0:=by
 rw[← kv3 (j:=bs.length) (fun t ht _=>h t ht) (Nat.le_refl _),List.drop_length];rfl
theorem k6d{h0:AH}{S:Fp}{s:Sl}{bs:List Nat}(n0:Sq Ef.byte h0 S s bs)(hl:bs.length≤512){t:Sl}{it:Nat}(hit:h0.blks.size≤it):∀(k i:Nat),i+k=bs.length→∀{h:AH},Grow h0 h→Vec h t it (padD B ((bs.length+7)/8) (num 256 (bs.reverse.take i)))→
  Runs (go (.pt kex kk6 [(0,s.v),(5,t.v),(23,.int .i64 (bs.length:Int)),(24,.int .i64 (i:Int))]) h) fun v h'=>∃s1:Sl,v=.tup [s1.v,.int .i64 0]∧Nats h' s1 (digs B (beN bs))∧Grow h0 h'∧Own h0 s1:=by
 have lt:=ksf n0;intro k
 induction k with
 | zero =>
  intro i hi h g v;have hi':i=bs.length:=by omega
  rw[kxg];refine Runs.ifF (by rw[decide_eq_false_iff_not];omega) ?_;rw[hi',List.take_of_length_le (by simp)]at v
  have hb:beN bs<B^((bs.length+7)/8):=by
   have h1:beN bs<256^bs.length:=by
    have:=kpg (bs:=bs.reverse) (fun b hb=>lt b (List.mem_reverse.1 hb));rwa[List.length_reverse]at this
   refine Nat.lt_of_lt_of_le h1 ?_;rw[show B=256^8 from by decide,← Nat.pow_mul];exact Nat.pow_le_pow_right (by decide) (by omega)
  have hv:=kqn (b:=B) (by decide) _ _ hb;have h64:beN bs<B^64:=Nat.lt_of_lt_of_le hb (Nat.pow_le_pow_right (by decide) (by omega));obtain⟨s1,e,n1,o1⟩:=koj v.nats;rw[show num 256 bs.reverse=beN bs from rfl,hv,kyi h64]at e n1;refine Runs.step e ?_;refine Runs.step rfl ?_;refine Runs.step (seen (asSl_v _)) ?_;refine Runs.step (seen (kc _ _)) ?_;refine Runs.ret ⟨s1,rfl,n1,g,o1 _ ?_⟩;intro r hr;rw[v.is]at hr;cases hr;exact⟨it,0,rfl,hit⟩
 | succ k ih =>
  intro i hi h g v;have hm:i/8<(bs.length+7)/8:=by omega
  have hr:bs.length-1-i<bs.length:=by omega
  obtain⟨r,e1,e2,e3⟩:=kle (n0.grow g) hr
  have hd:IntKind.wrap .i64 (Int.tdiv (i:Int) 8)=((i/8:Nat):Int):=by
   rw[show Int.tdiv (i:Int) 8=((i/8:Nat):Int)from rfl,kbz (by omega)]
  have hm8:Int.tmod (i:Int) 8=((i%8:Nat):Int):=rfl
  have hsub:IntKind.wrap .i64 ((IntKind.wrap .i64 ((s.len:Int)-1))-(i:Int))=((bs.length-1-i:Nat):Int):=by
   rw[n0.len,show((bs.length:Int)-1)=((bs.length-1:Nat):Int)from by omega,kbz (by omega),show(((bs.length-1:Nat):Int)-(i:Int))=((bs.length-1-i:Nat):Int)from by omega,kbz (by omega)]
  have h8:IntKind.wrap .i64 (8*((i%8:Nat):Int))=((8*(i%8):Nat):Int):=by
   rw[show(8*((i%8:Nat):Int))=((8*(i%8):Nat):Int)from by omega,kbz (by omega)]
  have hlen:(padD B ((bs.length+7)/8) (num 256 (bs.reverse.take i))).length=(bs.length+7)/8:=kme _ _ _;have q:=kbd (n:=(bs.length+7)/8) (i:=i/8) hm;rw[kxg];refine Runs.ifT (by rw[decide_eq_true_eq];omega) ?_;rw[hd,hm8,h8,hsub,show t.len=(bs.length+7)/8 from by rw[v.nats.len,hlen]];refine Runs.step (v.idx hlen q) ?_;refine Runs.step (v.rd hlen q (kc _ _)) ?_;refine Runs.step e1 ?_;refine Runs.step e2 ?_;refine Runs.ifF (by rw[decide_eq_false_iff_not];omega) ?_;refine Runs.step (v.idx hlen q) ?_;have hi':i<bs.reverse.length:=by simp;omega
  have hrev:bs.reverse[i]=bs[bs.length-1-i]:=by rw[List.getElem_reverse]
  have hv0:num 256 (bs.reverse.take i)<2^(8*(i%8))*B^(i/8):=by
   rw[← pow256];have:=kpg (bs:=bs.reverse.take i) (fun b hb=>lt b (List.mem_reverse.1 (List.mem_of_mem_take hb)));rwa[List.length_take,Nat.min_eq_left (by omega)]at this
  have hs8:(i%8)≤7:=by omega
  have hc:bs[bs.length-1-i]*2^(8*(i%8))+2^(8*(i%8))≤B:=by
   have h1:(bs[bs.length-1-i]+1)*2^(8*(i%8))≤256*2^(8*7):=Nat.mul_le_mul (by omega) (Nat.pow_le_pow_right (by decide) (by omega));rw[Nat.add_mul,Nat.one_mul]at h1;have:256*2^(8*7)=B:=by decide
   omega
  obtain⟨p1,p2⟩:=ktv (i/8) ((bs.length+7)/8) (v:=num 256 (bs.reverse.take i)) (c:=bs[bs.length-1-i]) (s:=8*(i%8)) hm hv0 hc;generalize hG:(padD B ((bs.length+7)/8) (num 256 (bs.reverse.take i))).getD (i/8) 0=old at *
  have hpos:0<2^(8*(i%8)):=Nat.pow_pos (by decide);have wb:IntKind.wrap .u64 ((bs[bs.length-1-i]:Nat):Int)=((bs[bs.length-1-i]:Nat):Int):=by rw[wrapU];omega
  have hB:B=18446744073709551616:=rfl
  have hor:ior .u64 (old:Int) (ishl .u64 (IntKind.wrap .u64 ((bs[bs.length-1-i]:Nat):Int)) ((8*(i%8):Nat):Int))=((old+bs[bs.length-1-i]*2^(8*(i%8)):Nat):Int):=by
   have hlt:bs[bs.length-1-i]*2^(8*(i%8))<18446744073709551616:=by omega
   rw[wb,khn _ _ (by omega),Nat.mod_eq_of_lt hlt,knz,km5 hlt p2 (by omega),Nat.add_comm]
  rw[hor];have z:u64P ((old+bs[bs.length-1-i]*2^(8*(i%8)):Nat):Int)=some (old+bs[bs.length-1-i]*2^(8*(i%8))):=kb4 (by omega);refine Runs.vput v hlen q z fun h10 v10 u10=>?_;rw[kf (by omega)];refine ih (i+1) (by omega) (g.updr hit u10) ?_;rw[p1]at v10
  have e5:num 256 (bs.reverse.take (i+1))=num 256 (bs.reverse.take i)+bs[bs.length-1-i]*2^(8*(i%8))*B^(i/8):=by
   rw[kck 256 hi',hrev,pow256,Nat.mul_comm (2^(8*(i%8))*B^(i/8)),Nat.mul_assoc]
  rw[e5];exact v10
theorem kys{h:AH}{S:Fp}{s:Sl}{bs:List Nat}(n:Sq Ef.byte h S s bs)(hl:bs.length≤512):Runs (go (.fn kex [s.v]) h) fun v h'=>∃s1:Sl,v=.tup [s1.v,.int .i64 0]∧Nats h' s1 (digs B (beN bs))∧Grow h h'∧Own h s1:=by
 obtain⟨r,e,hr⟩:=kws n bs.length 0 (by omega);rw[k8o,k70,n.len];refine Runs.step e ?_;refine Runs.step (seen (kc _ _)) ?_;rcases hr with⟨rfl,h0⟩ | ⟨j,rfl,hj,h0⟩
 ·refine Runs.ifT rfl ?_;rw[k1p fun t ht=>h0 t ht (Nat.zero_le _),kcm];exact Runs.ret ⟨⟨none,0,.is 0⟩,rfl,Nats.nil _,Grow.refl _,Own.nil _⟩
 ·refine Runs.ifF (by rw[decide_eq_false_iff_not];omega) ?_;obtain⟨s4,e4,n4,-⟩:=n.cut (l:=j) (m:=bs.length) (by omega) (Nat.le_refl _);have e4:cutSl s (j:Int) (bs.length:Int) 1=some s4:=e4;have hd:(bs.drop j).take (bs.length-j)=bs.drop j:=List.take_of_length_le (by simp);rw[hd]at n4;refine Runs.step e4 ?_;rw[n4.len];have l4:(bs.drop j).length=bs.length-j:=by simp
  refine Runs.ifF (by rw[decide_eq_false_iff_not];omega) ?_
  have hw:IntKind.wrap .i64 (Int.tdiv (IntKind.wrap .i64 (((bs.drop j).length:Int)+7)) 8)=((((bs.drop j).length+7)/8:Nat):Int):=by
   rw[show(((bs.drop j).length:Int)+7)=(((bs.drop j).length+7:Nat):Int)from by omega,kbz (by omega),show Int.tdiv (((bs.drop j).length+7:Nat):Int) 8=((((bs.drop j).length+7)/8:Nat):Int)from rfl,kbz (by omega)]
  rw[hw];refine Runs.mk (kfh (by omega)) kdw fun t h5 v5 g5=>?_
  have vz:List.replicate (((bs.drop j).length+7)/8) 0=padD B (((bs.drop j).length+7)/8) (num 256 ((bs.drop j).reverse.take 0)):=by
   rw[List.take_zero];generalize ((bs.drop j).length+7)/8=m
   induction m with
   | zero=>rfl
   | succ m ih=>rw[List.replicate_succ,ih];simp[padD,num]
  rw[vz]at v5;refine(k6d n4 (by omega) (Nat.le_refl _) (bs.drop j).length 0 (by omega) g5 v5).imp fun v h' ⟨s1,a,b,c,d⟩=>⟨s1,a,?_,c,d⟩;rw[kv3 (fun t ht h1=>h0 t ht (Nat.zero_le _) h1) (by omega)]at b;exact b
theorem k2u(L:Nat):256^L≤B^((L+7)/8):=by
 rw[show B=256^8 from by decide,← Nat.pow_mul];exact Nat.pow_le_pow_right (by decide) (by omega)
theorem k6c{n:Nat}(h:n≤1000000):growOk Pg n kcw 1=true:=by
 unfold growOk;rw[kz9,k93];have h1:n*1≤kg:=by simp only[kg];omega
 have h2:n≤kg:=by simp only[kg];omega
 simp[h1,h2]
def Fp.but(S:Fp)(i:Nat):Fp:=fun j=>S j∧j≠i
def Fp.rng(a b:Nat):Fp:=fun j=>a≤j∧j<b
theorem Dis.but{S:Fp}{i:Nat}:Dis (Fp.but S i) (fun j=>j=i):=fun _ a b=>a.2 b
theorem GF.byte{e:TypeId}{h:AH}{S:Fp}{s:Sl}:∀{i:Option Nat}{xs:List Nat},GF Ef.byte e h S s i xs→GF Ef.byte e h Fp.no s i xs
 | .none,_,v=>v
 | .some k,_,⟨l,a,r,ln,rows,e',b,c,r2⟩=>⟨l,Fp.not_no,r,ln,rows,e',b,c,r2.imp fun _ _ x=>x⟩
theorem Sq.byte{h:AH}{S T:Fp}{s:Sl}{xs:List Nat}(n:Sq Ef.byte h S s xs)(f:∀j o,s.ref=some (.new j o)→T j):Sq Ef.byte h T s xs:=by
 obtain⟨⟨rows,c,a⟩,l,sh,at'⟩:=n;exact⟨⟨rows,c,a.imp fun _ _ x=>x⟩,l,sh,.inr f⟩
theorem kuo{h:AH}{S:Fp}{s:Sl}{bs:List Nat}(n:Sq Ef.byte h S s bs)(hl:bs.length≤1000000):∃(s':Sl)(i:Option Nat)(h':AH),go (.fn kkh [s.v]) h=some (s'.v,h')∧GF Ef.byte kcw h' Fp.no s' i bs∧Grow h h'∧LeO h.blks.size i:=by
 have:=Runs.clone (P:=Pg) (elem:=kcw) n kwa (k6c hl);obtain⟨_,h',e,s',i,rfl,v,g,l⟩:=this;exact⟨s',i,h',(k67 s h).trans e,v.byte,g,l⟩
def TapeA(h:AH)(S:Fp)(i:Nat)(bs:List Nat):Prop:=(∀j,S j→j<h.blks.size)∧S i∧bs.length≤65536∧∃s:Sl,h.has i [s.v] kty∧Sq Ef.byte h (Fp.but S i) s bs
theorem TapeA.md{h h':AH}{S U:Fp}{i:Nat}{bs:List Nat}(t:TapeA h S i bs)(m:Md U h h')(d:Dis S U):TapeA h' S i bs:=by
 obtain⟨z,a,l,s,b,n⟩:=t;exact⟨fun j k=>Nat.lt_of_lt_of_le (z j k) m.size,a,l,s,m.has b (fun k=>d i a k),n.md m (d.mono (fun j x=>x.1) fun j x=>x)⟩
theorem TapeA.grow{h h':AH}{S:Fp}{i:Nat}{bs:List Nat}(t:TapeA h S i bs)(g:Grow h h'):TapeA h' S i bs:=t.md (g.md Fp.no) Dis.no
theorem TapeA.lt{h:AH}{S:Fp}{i:Nat}{bs:List Nat}(t:TapeA h S i bs):i<h.blks.size:=by
 obtain⟨z,a,l,s,b,n⟩:=t;exact b.lt
theorem k46{h:AH}{S:Fp}{s:Sl}{bs:List Nat}(n:Sq Ef.byte h S s bs):Runs (go (.fn kpt [s.v]) h) fun v h'=>Grow h h'∧
  (65536<bs.length∧v=.tup [.ptr none,.int .i64 1]∨bs.length≤65536∧∃i,v=.tup [.ptr (some (.new i 0)),.int .i64 0]∧TapeA h' (Fp.rng h.blks.size h'.blks.size) i bs):=by
 rw[kzt,n.len];refine Runs.cond (fun k=>?_) (fun k=>?_)
 ·rw[decide_eq_true_eq]at k;exact Runs.ret ⟨Grow.refl h,.inl ⟨by omega,rfl⟩⟩
 ·rw[decide_eq_false_iff_not]at k;obtain⟨s',i,h1,e,v,g,l⟩:=kuo n (by omega);refine Runs.step e (Runs.step (seen (asSl_v _)) ?_);refine Runs.new fun h2 b2 g2=>Runs.ret ⟨g.trans g2,.inr ⟨by omega,h1.blks.size,rfl,fun j k=>k.2,⟨g.size,b2.lt⟩,by omega,s',b2,?_⟩⟩;refine((v.sq).grow g2).byte fun j o hj=>?_;have own:=v.own (h0:=h) l;obtain⟨i',o',e1,e2⟩:=own _ hj;cases e1;have hi:=(v.lt:LtO h1.blks.size i)
  have hji:i=some j:=by
   cases i with
   | none=>rw[v.2.1]at hj;cases hj
   | some k =>
    have:=v.2.2.1;rw[hj]at this;cases this;rfl
  subst hji;have hj1:j<h1.blks.size:=hi;have:=g2.size;dsimp only at this⊢;exact⟨⟨e2,by omega⟩,by omega⟩
def TakeP(tape:AH→Fp→Nat→List Nat→Prop)(h:AH)(S:Fp)(i:Nat)(bs:List Nat)(k:Nat)(v:AV)(h':AH):Prop :=
 (bs.length<k∧v=.tup [(⟨none,0,.is 0⟩:Sl).v,.int .i64 7]∧h'=h)∨
 (k≤bs.length∧∃(s':Sl)(o:Option Nat),v=.tup [s'.v,.int .i64 0]∧GF Ef.byte kcw h' Fp.no s' o (bs.take k)∧LeO h.blks.size o∧tape h' S i (bs.drop k)∧Md (fun j=>j=i) h h')
theorem kss{h:AH}{S:Fp}{i:Nat}{bs:List Nat}(t:TapeA h S i bs){k:Nat}(hk:k≤65536):Runs (go (.fn kc8 [.ptr (some (.new i 0)),.int .i64 (k:Int)]) h) (TakeP TapeA h S i bs k):=by
 obtain⟨hz,hS,hlen,s,b,n⟩:=t;rw[k05];refine Runs.ifF (by rw[decide_eq_false_iff_not];omega) ?_;refine Runs.ifF (by rw[decide_eq_false_iff_not];omega) ?_;refine Runs.step rfl ?_;refine Runs.step (b.rd 0 rfl (asSl_v _)) ?_;rw[n.len];refine Runs.cond (fun c=>?_) (fun c=>?_)
 ·rw[decide_eq_true_eq]at c;exact Runs.ret (.inl ⟨by omega,rfl,rfl⟩)
 ·rw[decide_eq_false_iff_not]at c;refine Runs.step rfl ?_;refine Runs.step (b.rd 0 rfl (asSl_v _)) ?_;obtain⟨s1,e1,n1,-⟩:=n.cut (l:=0) (m:=k) (by omega) (by omega);refine Runs.step e1 ?_;rw[List.drop_zero,Nat.sub_zero]at n1;obtain⟨s2,o,h2,e2,v2,g2,l2⟩:=kuo n1 (by rw[List.length_take];omega);refine Runs.step e2 (Runs.step (seen (asSl_v _)) ?_);refine Runs.step rfl ?_;have b2:=g2.has b;refine Runs.step (b2.rd 0 rfl (asSl_v _)) ?_;obtain⟨s3,e3,n3,-⟩:=n.cut (l:=k) (m:=bs.length) (by omega) (by omega);rw[n.len];refine Runs.step e3 ?_;refine Runs.step rfl ?_;refine Runs.putAt b2 (cs':=[s3.v]) (by simp) (by simp) fun h4 b4 u4=>Runs.ret (.inr ⟨by omega,s2,o,rfl,?_,l2,⟨fun j k=>Nat.lt_of_lt_of_le (hz j k) (Nat.le_trans g2.size u4.size),hS,by rw[List.length_drop];omega,s3,b4,?_⟩,g2.thenM (u4.md rfl)⟩)
  ·refine GF.md (u4.md (T:=fun j=>j=i) rfl) Dis.no.symm v2 fun k' hk' he=>?_;subst hk';have:h.blks.size≤k':=l2;have:=b.lt;omega
  ·rw[show(bs.drop k).take (bs.length-k)=bs.drop k from List.take_of_length_le (by simp)]at n3;exact(n3.grow g2).md (u4.md (T:=fun j=>j=i) rfl) Dis.but
noncomputable def drawn(w n:Nat)(bs:List Nat):Option Nat×List Nat :=
 if h:0<w∧(w+7)/8≤bs.length then
  (if beN (bs.take ((w+7)/8))%2^w<n then(some (beN (bs.take ((w+7)/8))%2^w),bs.drop ((w+7)/8))else drawn w n (bs.drop ((w+7)/8)))
 else(none,bs)
termination_by bs.length
decreasing_by rw[List.length_drop];omega
theorem kwb{w n:Nat}{bs:List Nat}(h:bs.length<(w+7)/8):drawn w n bs=(none,bs):=by
 rw[drawn,dif_neg (by omega)]
theorem k1m{w n:Nat}{bs:List Nat}(h0:0<w)(h:(w+7)/8≤bs.length)(hx:beN (bs.take ((w+7)/8))%2^w<n):drawn w n bs=(some (beN (bs.take ((w+7)/8))%2^w),bs.drop ((w+7)/8)):=by
 rw[drawn,dif_pos ⟨h0,h⟩,if_pos hx]
theorem k8y{w n:Nat}{bs:List Nat}(h0:0<w)(h:(w+7)/8≤bs.length)(hx:¬beN (bs.take ((w+7)/8))%2^w<n):drawn w n bs=drawn w n (bs.drop ((w+7)/8)):=by
 rw[drawn,dif_pos ⟨h0,h⟩,if_neg hx]
theorem k6u{w n x:Nat}:∀(L:Nat){bs:List Nat},bs.length≤L→(drawn w n bs).1=some x→x<n∧x<2^w:=by
 intro L
 induction L with
 | zero =>
  intro bs hl h;rw[drawn]at h;split at h
  ·omega
  ·cases h
 | succ L ih =>
  intro bs hl h;rw[drawn]at h;split at h
  ·split at h
   ·cases h;exact⟨by assumption,Nat.mod_lt _ (Nat.pow_pos (by decide))⟩
   ·exact ih (by rw[List.length_drop];omega) h
  ·cases h
theorem kbfk:∀(r:_root_.Fin 8)(b:_root_.Fin 256),iand .u8 (b.val:Int) (IntKind.wrap .u8 (ishl .u8 1 (r.val:Int)-1))=((b.val%2^r.val:Nat):Int):=by decide +kernel
theorem kse(b:Nat)(bs:List Nat):beN (b::bs)=beN bs+256^bs.length*b:=by
 unfold beN;rw[List.reverse_cons,kdu,List.length_reverse];simp[num]
theorem beN_lt{bs:List Nat}(h:∀b∈bs,b<256):beN bs<256^bs.length:=by
 have:=kpg (bs:=bs.reverse) fun b hb=>h b (List.mem_reverse.1 hb);rwa[List.length_reverse]at this
theorem k50{b:Nat}{bs:List Nat}(h:∀x∈bs,x<256)(r:Nat):beN (b%2^r::bs)=beN (b::bs)%2^(8*bs.length+r):=by
 have hl:=beN_lt h;rw[kse,kse,Nat.pow_add,show(2:Nat)^(8*bs.length)=256^bs.length from by rw[Nat.pow_mul],Nat.mod_mul,Nat.add_mul_mod_self_left,Nat.mod_eq_of_lt hl,Nat.add_mul_div_left _ _ (Nat.pow_pos (by decide)),Nat.div_eq_of_lt hl,Nat.zero_add]
theorem Nats.md{h h':AH}{T:Fp}{s:Sl}{xs:List Nat}(n:Nats h s xs)(m:Md T h h')(a:∀j,T j→Av s j xs):Nats h' s xs:=n.mdE (S:=fun j=>¬Av s j xs) (fun j k=>k) m fun j k t=>k (a j t)
def DrawP(tape:AH→Fp→Nat→List Nat→Prop)(h:AH)(S:Fp)(i:Nat)(r:(List Nat×Int)×List Nat)(v:AV)(h':AH):Prop :=
 ∃s1:Sl,v=.tup [s1.v,.int .i64 r.1.2]∧Nats h' s1 r.1.1∧Own h s1∧tape h' S i r.2∧Md (fun j=>j=i) h h'
def toldD(r:Option Nat×List Nat):(List Nat×Int)×List Nat:=((match r.1 with | none=>[] | some x=>digs B x,match r.1 with | none=>7 | some _=>0),r.2)
theorem DrawP.next{tape:AH→Fp→Nat→List Nat→Prop}{h h1:AH}{S:Fp}{i:Nat}{r:(List Nat×Int)×List Nat}{x:Option (AV×AH)}(m:Md (fun j=>j=i) h h1)(R:Runs x (DrawP tape h1 S i r)):Runs x (DrawP tape h S i r):=by
 refine R.imp fun v h' ⟨s1,e,n,o,t,m'⟩=>⟨s1,e,n,fun q hq=>?_,t,m.trans m'⟩;obtain⟨j,k,e,l⟩:=o q hq;exact⟨j,k,e,Nat.le_trans m.size l⟩
theorem kw7{x n:Nat}(hx:x<B^64)(hn:n<B^64):(cmpN (digs B x) (digs B n)<0)↔x<n:=by
 rw[k9g (kg6 hx) (kg6 hn),kv B2,kv B2,cmp_lt]
theorem k7m{S:Fp}{i w n:Nat}(hw:0<w)(hw2:w<4096)(hn:n<B^64):∀(L:Nat)(bs:List Nat),bs.length≤L→∀{h:AH}{a3:Sl},TapeA h S i bs→Nats h a3 (digs B n)→Av a3 i (digs B n)→
  Runs (go (.pt kej kgk [(0,.func (.func kc8) [.ptr (some (.new i 0))] []),(1,.int .i64 (w:Int)),(2,a3.v)]) h) (DrawP TapeA h S i (toldD (drawn w n bs))):=by
 have wk:IntKind.wrap .i64 (Int.tdiv (IntKind.wrap .i64 ((w:Int)+7)) 8)=(((w+7)/8:Nat):Int):=by
  rw[show((w:Int)+7)=((w+7:Nat):Int)from rfl,kbz (by omega),show Int.tdiv ((w+7:Nat):Int) 8=(((w+7)/8:Nat):Int)from rfl,kbz (by omega)]
 have wm:Int.tmod (w:Int) 8=((w%8:Nat):Int):=rfl;intro L
 induction L with
 | zero =>
  intro bs hl h a3 t n3 av;rw[kwx,wk];obtain⟨v,h',e,hh⟩:=kss t (k:=(w+7)/8) (by omega);refine Runs.step e ?_;rcases hh with⟨h1,rfl,rfl⟩ | ⟨h1,_⟩
  ·refine Runs.step rfl (Runs.step (seen (asSl_v _)) (Runs.step (seen (kc _ _)) ?_));refine Runs.ifT rfl ?_;rw[kwb h1];exact Runs.ret ⟨⟨none,0,.is 0⟩,rfl,Nats.nil _,Own.nil _,t,Md.refl _ _⟩
  ·omega
 | succ L ih =>
  intro bs hl h a3 t n3 av;rw[kwx,wk];obtain⟨v,h1,e,hh⟩:=kss t (k:=(w+7)/8) (by omega);refine Runs.step e ?_;rcases hh with⟨c1,rfl,rfl⟩ | ⟨c1,s1,o,rfl,v1,l1,t1,m1⟩
  ·refine Runs.step rfl (Runs.step (seen (asSl_v _)) (Runs.step (seen (kc _ _)) ?_));refine Runs.ifT rfl ?_;rw[kwb c1];exact Runs.ret ⟨⟨none,0,.is 0⟩,rfl,Nats.nil _,Own.nil _,t,Md.refl _ _⟩
  ·refine Runs.step rfl (Runs.step (seen (asSl_v _)) (Runs.step (seen (kc _ _)) ?_));refine Runs.ifF rfl ?_;have hlen:(bs.take ((w+7)/8)).length=(w+7)/8:=by rw[List.length_take];omega
   have lt:=ksf v1.sq
   have hX:beN (bs.take ((w+7)/8))<B^64:=by
    refine Nat.lt_of_lt_of_le (beN_lt lt) ?_;rw[hlen];refine Nat.le_trans (k2u _) (Nat.pow_le_pow_right (by decide) (by omega))
   have n31:Nats h1 a3 (digs B n):=n3.md m1 fun j hj=>by subst hj;exact av
   have tail:∀{h2:AH}{y:Nat}{sy:Sl},y=beN (bs.take ((w+7)/8))%2^w→Nats h2 sy (digs B y)→Own h sy→TapeA h2 S i (bs.drop ((w+7)/8))→Md (fun j=>j=i) h h2→Nats h2 a3 (digs B n)→
     Runs ((go (.fn kfe [sy.v,a3.v]) h2).bind fun q22=>((some q22.1).bind (AV.asInt .i64)).bind fun n23=>cond (decide (n23<0)) (some (.tup [sy.v,.int .i64 0],q22.2))
      (go (.pt kej kgk [(0,.func (.func kc8) [.ptr (some (.new i 0))] []),(1,.int .i64 (w:Int)),(2,a3.v)]) q22.2)) (DrawP TapeA h S i (toldD (drawn w n bs))):=fun{h2 y sy} hy ny oy t2 m2 n32=>by
    have hyB:y<B^64:=by rw[hy];exact Nat.lt_of_le_of_lt (Nat.mod_le _ _) hX
    obtain⟨h3,e3,g3⟩:=kpb ny n32;refine Runs.step e3 (Runs.step (seen (kc _ _)) ?_);refine Runs.cond (fun c=>?_) (fun c=>?_)
    ·rw[decide_eq_true_eq,kw7 hyB hn,hy]at c;rw[k1m hw c1 c,← hy];exact Runs.ret ⟨sy,rfl,ny.grow g3,oy,t2.grow g3,m2.thenG g3⟩
    ·rw[decide_eq_false_iff_not,kw7 hyB hn,hy]at c;rw[k8y hw c1 c];exact DrawP.next (m2.thenG g3) (ih _ (by rw[List.length_drop];omega) (t2.grow g3) (n32.grow g3) av)
   have read:∀{h2:AH}{ys:List Nat}{S2:Fp},Sq Ef.byte h2 S2 s1 ys→ys.length=(w+7)/8→beN ys=beN (bs.take ((w+7)/8))%2^w→TapeA h2 S i (bs.drop ((w+7)/8))→Md (fun j=>j=i) h h2→Nats h2 a3 (digs B n)→
     Runs ((go (.fn kex [s1.v]) h2).bind fun q18=>(AV.asTup2 q18.1).bind fun p19=>((some p19.1).bind AV.asSl).bind fun l20=>((some p19.2).bind (AV.asInt .i64)).bind fun n21 =>
      (go (.fn kfe [l20.v,a3.v]) q18.2).bind fun q22=>((some q22.1).bind (AV.asInt .i64)).bind fun n23=>cond (decide (n23<0)) (some (.tup [l20.v,.int .i64 0],q22.2))
      (go (.pt kej kgk [(0,.func (.func kc8) [.ptr (some (.new i 0))] []),(1,.int .i64 (w:Int)),(2,a3.v)]) q22.2)) (DrawP TapeA h S i (toldD (drawn w n bs))):=fun{h2 ys S2} ny hys hbe t2 m2 n32=>by
    obtain⟨_,h3,e3,sy,rfl,ny3,g3,o3⟩:=kys ny (by omega);refine Runs.step e3 (Runs.step rfl (Runs.step (seen (asSl_v _)) (Runs.step (seen (kc _ _)) ?_)));rw[hbe]at ny3;refine tail rfl ny3 (fun q hq=>?_) (t2.grow g3) (m2.thenG g3) (n32.grow g3);obtain⟨j,k,e,l⟩:=o3 q hq;exact⟨j,k,e,Nat.le_trans m2.size l⟩
   rw[wm];refine Runs.cond (fun c=>?_) (fun c=>?_)
   ·rw[decide_eq_true_eq]at c;have hr:0<w%8:=by omega
    obtain⟨b0,rest,hbr⟩:∃b0 rest,bs.take ((w+7)/8)=b0::rest:=by
     cases hb:bs.take ((w+7)/8)with
     | nil=>rw[hb]at hlen;simp at hlen;omega
     | cons a l=>exact⟨a,l,rfl⟩
    rw[hbr]at v1 hlen lt;have hrl:rest.length=(w+7)/8-1:=by simp at hlen;omega
    have hb0:b0<256:=lt b0 (by simp);obtain⟨r,f1,f2,-⟩:=kle v1.sq (i:=0) (by simp);have f1:idx s1.ref s1.len 0 1=some r:=f1;refine Runs.step f1 (Runs.step f2 ?_);refine Runs.ifF (by rw[decide_eq_false_iff_not];omega) ?_;have hm:iand .u8 ((b0:Nat):Int) (IntKind.wrap .u8 (ishl .u8 1 ((w%8:Nat):Int)-1))=((b0%2^(w%8):Nat):Int):=kbfk ⟨w%8,Nat.mod_lt _ (by decide)⟩ ⟨b0,hb0⟩;obtain⟨r',h4,f4,f5,v4,u4⟩:=v1.set (T:=Fp.no) (cs:=[.int .u8 ((b0%2^(w%8):Nat):Int)]) (x:=b0%2^(w%8)) ⟨rfl,Nat.lt_of_le_of_lt (Nat.mod_le _ _) hb0⟩ NotO.no (z:=0) (j:=0) (kbd (i:=0) (by simp));have hz:s1.len=(b0::rest).length:=v1.len;rw[← hz]at f4;have f4:idx s1.ref s1.len 0 1=some r':=f4;refine Runs.step f4 ?_;show Runs ((h1.puts r' [.int .u8 (iand .u8 ((b0:Nat):Int) _)]).bind _) _;rw[hm];refine Runs.step f5 ?_
    have oT:∀k,o=some k→k≠i∧h.blks.size≤k:=fun k hk=>by
     subst hk;have:h.blks.size≤k:=l1;have:=t.lt;exact⟨by omega,by omega⟩
    have m4:Md (fun j=>o=some j) h1 h4:=UpdO.md u4 fun k hk=>hk
    have m5:Md (fun j=>j=i) h h4:=m1.next m4 fun j hj hk=>by
     have:=(oT j hk).2;omega
    refine read v4.sq (by simpa using hlen) ?_ (t1.md m4 fun j hj hk=>?_) m5 (n31.md m4 fun j hj=>?_)
    ·rw[hbr];show beN (b0%2^(w%8)::rest)=_;rw[k50 (fun x hx=>lt x (by simp[hx])),hrl,show 8*((w+7)/8-1)+w%8=w from by omega]
    ·have:=(oT j hk).2;have:=t.1 j hj;omega
    ·exact Av.of_base n3 (oT j hj).2
   ·rw[decide_eq_false_iff_not]at c;have hr:w%8=0:=by omega
    refine read v1.sq hlen ?_ t1 m1 n31;rw[Nat.mod_eq_of_lt];refine Nat.lt_of_lt_of_le (beN_lt lt) ?_;rw[hlen,show(256:Nat)=2^8 from rfl,← Nat.pow_mul];exact Nat.pow_le_pow_right (by decide) (by omega)
noncomputable def drawF(xs bs:List Nat):(List Nat×Int)×List Nat :=
 if rt xs=true∧xs.length≠0 then(if num B xs-1=0 then(([],0),bs)else toldD (drawn (bl (num B xs-1)) (num B xs) bs))else(([],1),bs)
section
variable{S:Fp}{i:Nat}{xs bs:List Nat}
theorem bl_B{x k:Nat}(h:x<B^k):bl x≤64*k:=bl_le (by rw[Nat.pow_mul];exact h)
theorem k4s{xs:List Nat}(hx:∀x∈xs,x<B)(hr:rt xs=true)(h0:xs.length≠0)(hl:xs.length≤63):subN xs [1]=(digs B (num B xs-1),0)∧num B xs<B^63∧0<num B xs∧digs B (num B xs)=xs∧bitsN (digs B (num B xs-1))=bl (num B xs-1)∧bl (num B xs-1)<4096:=by
 have ht:=(rt_iff.1 hr).2;have hd:digs B (num B xs)=xs:=kgn B2 hx ht;have h1:num B xs<B^63:=(kbi B2 _ 63).1 (by rw[hd];exact hl)
 have hp:0<num B xs:=by
  rcases Nat.eq_zero_or_pos (num B xs)with h | h
  ·rw[h,kcm]at hd;rw[← hd]at h0;exact absurd rfl h0
  ·exact h
 have hB:B^63<B^64:=by decide +kernel
 refine⟨?_,h1,hp,hd,?_,?_⟩
 ·unfold subN;rw[if_pos ⟨hr,by decide⟩,show num B [1]=1 from by decide,if_neg (by omega)]
 ·unfold bitsN;rw[kg6 (by omega),if_pos rfl,kv B2]
 ·exact Nat.lt_of_le_of_lt (bl_B (k:=63) (Nat.lt_of_le_of_lt (Nat.sub_le _ _) h1)) (by decide)
theorem bl_pos{x:Nat}(h:x≠0):0<bl x:=by
 rw[k6w (by omega)];omega
theorem k20{h:AH}(t:TapeA h S i bs){s:Sl}(n:Nats h s xs)(av:Av s i xs)(hl:xs.length≤63∨rt xs=false):Runs (go (.fn kq4 [.ptr (some (.new i 0)),s.v]) h) (DrawP TapeA h S i (drawF xs bs)):=by
 rw[kbao];refine Runs.step (ked n) (Runs.step (seen rfl) ?_);cases hr:rt xs with
 | false =>
  refine Runs.ifT rfl ?_;unfold drawF;rw[hr,if_neg (by simp)];exact Runs.ret ⟨⟨none,0,.is 0⟩,rfl,Nats.nil _,Own.nil _,t,Md.refl _ _⟩
 | true =>
  refine Runs.ifF rfl ?_;rw[n.len];refine Runs.cond (fun c=>?_) (fun c=>?_)
  ·rw[decide_eq_true_eq]at c;unfold drawF;rw[if_neg (by omega)];exact Runs.ret ⟨⟨none,0,.is 0⟩,rfl,Nats.nil _,Own.nil _,t,Md.refl _ _⟩
  ·rw[decide_eq_false_iff_not]at c;obtain⟨f1,f2,f3,f4,f5,f6⟩:=k4s n.lt hr (by omega) (by rw[hr]at hl;simpa using hl);have hB:B^63<B^64:=by decide +kernel
   refine Runs.new fun h1 b1 g1=>?_;have n1:Nats h1 ⟨some (.new h.blks.size 0),1,.is 1⟩ [1]:=Nats.of_has (xs:=[1]) b1 (by simp) (by simp);obtain⟨s2,h2,e2,n2,g2,o2⟩:=kbby (n.grow g1) n1;rw[f1]at e2 n2;refine Runs.step e2 (Runs.step rfl (Runs.step (seen (asSl_v _)) (Runs.step (seen (kc _ _)) ?_)))
   have hb:drawF xs bs=(if num B xs-1=0 then(([],0),bs)else toldD (drawn (bl (num B xs-1)) (num B xs) bs)):=by
    unfold drawF;rw[if_pos ⟨hr,by omega⟩]
   have G:=g1.trans g2;rw[hb];refine Runs.cond (fun c2=>?_) (fun c2=>?_)
   ·rw[decide_eq_true_eq,n2.len]at c2;dsimp only at c2;have:num B xs-1=0:=(kqs B2).1 (List.length_eq_zero_iff.1 (by omega));rw[if_pos this];exact Runs.ret ⟨⟨none,0,.is 0⟩,rfl,Nats.nil _,Own.nil _,t.grow G,G.md _⟩
   ·rw[decide_eq_false_iff_not,n2.len]at c2;dsimp only at c2;have hne:num B xs-1≠0:=fun e=>c2 (by rw[e,kcm];rfl);rw[if_neg hne];obtain⟨_,h3,e3,rfl,g3⟩:=ku7 n2;refine Runs.step e3 (Runs.step (seen (kc _ _)) ?_);rw[f5,kbbw];obtain⟨v,h4,e4,s4,rfl,d⟩:=DrawP.next ((G.trans g3).md _) (k7m (bl_pos hne) f6 (Nat.lt_trans f2 hB) _ bs (Nat.le_refl _) (t.grow (G.trans g3)) (by rw[f4];exact n.grow (G.trans g3)) (by rw[f4];exact av));refine Runs.step e4 (Runs.step rfl (Runs.step (seen (asSl_v _)) (Runs.step (seen (kc _ _)) ?_)));exact Runs.ret ⟨s4,rfl,d⟩
end
theorem kbea{k:IntKind}{x:Int}(h:(Lit.int k x).wf=true)(hk:k=.u8):0≤x∧x<256:=by
 subst hk;have:0≤x∧x≤255:=by simpa[Lit.wf,IntKind.has,IntKind.min,IntKind.max,IntKind.bits,IntKind.signed]using h
 omega
section
variable{S:Fp}{i:Nat}{ns ms:List Nat}
end
end Go.Ab
set_option maxRecDepth 10000
namespace Go.Ab
open Go.Proofs
def idsR(l:List Int):Bool:=decide (l.length≤256)&&(!(l.any fun x=>decide (x<0)||decide (x>1073741824))&&decide l.Nodup)
structure Tb where
 ids:List Int
 bins:List Int
 cols:List (List Int)
def colR(t:Tb)(i:Nat):Bool:=!decide (t.bins.getD i 0<2)&&!decide (t.bins.getD i 0>32)&&decide ((t.cols.getD i []).length=t.ids.length)&&!((t.cols.getD i []).any fun x=>decide (x<0)||decide (x≥t.bins.getD i 0))
def tabR(t:Tb):Bool:=idsR t.ids&&!decide (t.cols.length>16)&&decide (t.bins.length=t.cols.length)&&(List.range t.cols.length).all (colR t)
structure TabAt(h:AH)(S:Fp)(s1 s2 s3:Sl)(t:Tb):Prop where
 ids:Sq EI h S s1 t.ids
 bins:Sq EI h S s2 t.bins
 cols:Sq (Ef.seq EI) h S s3 t.cols
theorem TabAt.md{h h':AH}{S T:Fp}{s1 s2 s3:Sl}{t:Tb}(n:TabAt h S s1 s2 s3 t)(m:Md T h h')(d:Dis S T):TabAt h' S s1 s2 s3 t:=⟨n.ids.md m d,n.bins.md m d,n.cols.md m d⟩
theorem TabAt.grow{h h':AH}{S:Fp}{s1 s2 s3:Sl}{t:Tb}(n:TabAt h S s1 s2 s3 t)(g:Grow h h'):TabAt h' S s1 s2 s3 t:=⟨n.ids.grow g,n.bins.grow g,n.cols.grow g⟩
section
variable{h0:AH}{S:Fp}{s:Sl}{xs:List Int}
theorem kbd3(n:Sq EI h0 S s xs):Runs (go (.fn kca [s.v,.func (.func kcy) [] []]) h0) fun v h'=>v=.bool (xs.any fun x=>decide (x<0)||decide (x>1073741824))∧Grow h0 h':=by
 rw[kyv];refine Runs.contains (xs:=xs) ?_;rw[k6a,n.len];refine kdz (n:=xs.length) (G:=fun z h=>go (.pt kba kbo [(0,s.v),(1,.func (.func kcy) [] []),(7,.int .i64 (xs.length:Int)),(8,.int .i64 z)]) h) (fun i h P hi g hT hF=>?_) (fun h g=>?_) xs.length 0 (by omega) (Grow.refl h0) (fun j hj=>by omega)
 ·obtain⟨r,e1,e2⟩:=(n.grow g).int hi;rw[List.getElem?_eq_getElem hi]at hT hF;simp only[Option.any_some]at hT hF;show Runs (go _ _) _;rw[kx8];refine Runs.ifT (decide_eq_true (by omega)) (Runs.step e1 (Runs.step e2 ?_))
  have key:go (.fn kcy [.int .i64 xs[i]]) h=some (.bool (decide (xs[i]<0)||decide (xs[i]>1073741824)),h):=by
   rw[kzz];cases decide (xs[i]<0)<;>rfl
  refine Runs.step key (Runs.step (seen rfl) ?_);rw[kf (by have:=n.short;omega)];exact Runs.cond (fun c=>Runs.ret (hT h g c)) fun c=>hF h g c
 ·rw[kx8,condF (decide_eq_false (by omega))]
theorem k5c(n:Sq EI h0 S s xs)(hl:xs.length≤256){m:Nat}(hm:h0.blks.size≤m):∀(k i:Nat),i+k=xs.length→∀{h:AH}{l:List (Int×AV)},Grow h0 h→MapIs h m l→(∀x,(kvGet l x).isSome=true↔x∈xs.take i)→l.length≤i→(l.length=i↔(xs.take i).Nodup)→
  Runs (go (.pt kgy kk5 [(3,.map (some m)),(7,s.v),(8,.int .i64 (xs.length:Int)),(9,.int .i64 (i:Int))]) h) fun v h'=>Grow h0 h'∧v=.map (some m)∧∃l,MapIs h' m l∧(l.length=xs.length↔xs.Nodup):=by
 intro k
 induction k with
 | zero =>
  intro i hi h l g M hk hle hn;rw[ksn];refine Runs.ifF (decide_eq_false (by omega)) (Runs.ret ⟨g,rfl,l,M,?_⟩);rw[show i=xs.length from by omega,List.take_length]at hn;exact hn
 | succ k ih =>
  intro i hi h l g M hk hle hn;have hlt:i<xs.length:=by omega
  obtain⟨r,e1,e2⟩:=(n.grow g).int hlt;rw[ksn];refine Runs.ifT (decide_eq_true (by omega)) (Runs.step e1 (Runs.step e2 ?_));obtain⟨h1,e3,M1,u1⟩:=M.put xs[i] (.int .i64 (i:Int));refine Runs.step e3 ?_;rw[kf (by omega)];have ht:xs.take (i+1)=xs.take i++[xs[i]]:=List.take_succ_eq_append_getElem hlt;have hi:=hk xs[i];refine ih (i+1) (by omega) (g.updr hm u1) M1 (fun x=>?_) ?_ ?_
  ·rw[kba3,ht,List.mem_append,List.mem_singleton];by_cases hx:x=xs[i]
   ·rw[if_pos hx];exact⟨fun _=>.inr hx,fun _=>rfl⟩
   ·rw[if_neg hx,hk x];exact⟨.inl,fun h=>h.resolve_right hx⟩
  ·cases hg:kvGet l xs[i]with
   | none=>rw[kry _ hg];simp;omega
   | some w=>rw[kwq _ hg];omega
  ·rw[ht,List.nodup_append];cases hg:kvGet l xs[i]with
   | none =>
    rw[hg]at hi;have hni:xs[i]∉xs.take i:=fun h=>by simpa using hi.2 h
    rw[kry _ hg];simp only[List.length_append,List.length_singleton];constructor
    ·intro e;refine⟨hn.1 (by omega),by simp,fun a ha b hb=>?_⟩;rw[List.mem_singleton]at hb;subst hb
     rintro rfl
     exact hni ha
    ·intro e;rw[hn.2 e.1]
   | some w =>
    rw[hg]at hi;have hin:xs[i]∈xs.take i:=hi.1 rfl;rw[kwq _ hg];constructor
    ·intro e;omega
    ·intro e;exact absurd rfl (e.2.2 _ hin _ (by simp))
theorem k7p(n:Sq EI h0 S s xs):Runs (go (.fn ko5 [s.v]) h0) fun v h'=>v=.bool (idsR xs)∧Grow h0 h':=by
 rw[kbdy,n.len];unfold idsR;refine Runs.cond (fun c=>?_) (fun c=>?_)
 ·rw[decide_eq_true_eq]at c;rw[decide_eq_true (show xs.length≤256 by omega),Bool.true_and];refine(kbd3 n).call fun v h1 ⟨e,g1⟩=>?_;subst e;refine Runs.step (seen rfl) ?_;refine Runs.cond (fun c2=>?_) (fun c2=>?_)
  ·rw[c2,Bool.true_and]
   have key:Runs (go (.fn kgy [s.v]) h1) fun v h'=>Grow h1 h'∧∃m l,v=.map (some m)∧MapIs h' m l∧(l.length=xs.length↔xs.Nodup):=by
    rw[kyh,n.len];refine Runs.newMap fun h2 M g2=>?_;exact(k5c (n.grow g1) (by omega) (m:=h1.blks.size) (Nat.le_refl _) xs.length 0 (by omega) (l:=[]) g2 M (fun x=>by simp[kvGet]) (Nat.le_refl _) (by simp)).imp fun v h' ⟨g,e,l,M,hn⟩=>⟨g,_,l,e,M,hn⟩
   refine key.call fun v h2 ⟨g2,m,l,e,M,hn⟩=>?_;subst e;refine Runs.step (seen rfl) (Runs.step M.size (Runs.ret ⟨congrArg AV.bool ?_,g1.trans g2⟩));rw[decide_eq_decide,← hn];omega
  ·rw[c2,Bool.false_and];exact Runs.ret ⟨rfl,g1⟩
 ·rw[decide_eq_false_iff_not]at c;rw[decide_eq_false (show¬xs.length≤256 by omega),Bool.false_and];exact Runs.ret ⟨rfl,Grow.refl _⟩
end
theorem kbb9{h0:AH}{S:Fp}{s:Sl}{xs:List Int}(n:Sq EI h0 S s xs){b:Nat}{z:Int}{e:TypeId}(hb:h0.has b [.int .i64 z] e):Runs (go (.fn kca [s.v,.func (.func kde) [] [.ptr (some (.new b 0))]]) h0) fun v h'=>v=.bool (xs.any fun x=>decide (x<0)||decide (x≥z))∧Grow h0 h':=by
 rw[k04];refine Runs.contains (xs:=xs) ?_;rw[k2i,n.len];refine kdz (n:=xs.length) (G:=fun y h=>go (.pt kba kbo [(0,s.v),(1,.func (.func kde) [] [.ptr (some (.new b 0))]),(7,.int .i64 (xs.length:Int)),(8,.int .i64 y)]) h) (fun i h P hi g hT hF=>?_) (fun h g=>?_) xs.length 0 (by omega) (Grow.refl h0) (fun j hj=>by omega)
 ·obtain⟨r,e1,e2⟩:=(n.grow g).int hi;rw[List.getElem?_eq_getElem hi]at hT hF;simp only[Option.any_some]at hT hF;show Runs (go _ _) _;rw[kv7];refine Runs.ifT (decide_eq_true (by omega)) (Runs.step e1 (Runs.step e2 ?_))
  have key:Runs (go (.fn kde [.int .i64 xs[i],.ptr (some (.new b 0))]) h) fun v h'=>v=.bool (decide (xs[i]<0)||decide (xs[i]≥z))∧h'=h:=by
   rw[kbdr];cases decide (xs[i]<0)
   ·refine Runs.ifF rfl (Runs.step rfl (Runs.step ((g.has hb).rd0 rfl (kc _ _)) ?_));exact Runs.ret ⟨rfl,rfl⟩
   ·exact Runs.ret ⟨rfl,rfl⟩
  refine key.call fun v h' ⟨ev,eh⟩=>?_;subst ev;subst eh;refine Runs.step (seen rfl) ?_;rw[kf (by have:=n.short;omega)];exact Runs.cond (fun c=>Runs.ret (hT _ g c)) fun c=>hF _ g c
 ·rw[kv7,condF (decide_eq_false (by omega))]
section
variable{h0:AH}{S:Fp}{s1 s2 s3:Sl}{t:Tb}
theorem k1b(n:TabAt h0 S s1 s2 s3 t)(hl:t.cols.length≤16)(hb:t.bins.length=t.cols.length){b:Nat}(hbb:h0.blks.size≤b):∀(k i:Nat),i+k=t.cols.length→∀{h:AH},Grow h0 h→h.has b [s1.v,s2.v,s3.v] ku→
  Runs (go (.pt kc5 kkg [(1,.ptr (some (.new b 0))),(27,s3.v),(28,.int .i64 (t.cols.length:Int)),(29,.int .i64 (i:Int))]) h) fun v h'=>v=.bool (((List.range t.cols.length).drop i).all (colR t))∧Grow h0 h':=by
 intro k
 induction k with
 | zero =>
  intro i hi h g B;rw[kuw];refine Runs.ifF (decide_eq_false (by omega)) (Runs.ret ⟨?_,g⟩);rw[kfy (by simp;omega)]
 | succ k ih =>
  intro i hi h g B;have hc:i<t.cols.length:=by omega
  have hbi:i<t.bins.length:=by omega
  obtain⟨r,s',e1,e2,-,n'⟩:=(n.cols.grow g).sl hc;obtain⟨r2,e3,e4⟩:=(n.bins.grow g).int hbi;rw[kuw];refine Runs.ifT (decide_eq_true (by omega)) (Runs.step e1 (Runs.step e2 (Runs.step (B.rd 1 rfl (asSl_v _)) (Runs.step e3 (Runs.step e4 ?_)))));refine Runs.new fun h1 b1 g1=>Runs.puts b1 rfl fun h2 b2 u2=>?_;have G:Grow h h2:=g1.updr (Nat.le_refl _) u2;have B2:=G.has B;rw[kjl hc]
  have hcol:colR t i=(!decide (t.bins[i]<2)&&!decide (t.bins[i]>32)&&decide (t.cols[i].length=t.ids.length)&&!(t.cols[i].any fun x=>decide (x<0)||decide (x≥t.bins[i]))):=by
   simp[colR,List.getD,hbi,hc]
  rw[hcol];refine Runs.step (b2.rd0 rfl (kc _ _)) (Runs.cond (fun c=>Runs.ret ⟨by rw[c];rfl,g.trans G⟩) fun c=>?_);refine Runs.step (b2.rd0 rfl (kc _ _)) (Runs.cond (fun c2=>Runs.ret ⟨by rw[c,c2];rfl,g.trans G⟩) fun c2=>?_);refine Runs.step (B2.rd 0 rfl (asSl_v _)) ?_;rw[n'.len,n.ids.len];refine Runs.cond (fun c3=>Runs.ret ⟨?_,g.trans G⟩) fun c3=>?_
  ·have:¬t.cols[i].length=t.ids.length:=by simpa[Int.ofNat_inj]using c3
   rw[c,c2,decide_eq_false this];rfl
  have c3:t.cols[i].length=t.ids.length:=by simpa[Int.ofNat_inj]using c3
  refine(kbb9 (n'.grow G) b2).call fun v h3 ⟨ev,g3⟩=>?_;subst ev;refine Runs.step (seen rfl) (Runs.cond (fun c4=>Runs.ret ⟨by rw[c,c2,decide_eq_true c3,c4];rfl,(g.trans G).trans g3⟩) fun c4=>?_);rw[c,c2,decide_eq_true c3,c4,kf (by omega)];exact ih (i+1) (by omega) ((g.trans G).trans g3) (g3.has B2)
theorem khj(n:TabAt h0 S s1 s2 s3 t):Runs (go (.fn kc5 [.agg [s1.v,s2.v,s3.v]]) h0) fun v h'=>v=.bool (tabR t)∧Grow h0 h':=by
 rw[k7t];refine Runs.new fun h4 b4 g4=>Runs.step (b4.rd 0 rfl (asSl_v _)) ?_;refine(k7p (n.ids.grow g4)).call fun v h6 ⟨ev,g6⟩=>?_;subst ev;have B:=g6.has b4;have G:=g4.trans g6;unfold tabR;refine Runs.step (seen rfl) (Runs.cond (fun c=>Runs.ret ⟨by rw[show idsR t.ids=false by simpa using c];rfl,G⟩) fun c=>?_);rw[show idsR t.ids=true by simpa using c,Bool.true_and];refine Runs.step (B.rd 2 rfl (asSl_v _)) ?_;rw[n.cols.len];refine Runs.cond (fun c2=>Runs.ret ⟨?_,G⟩) fun c2=>?_
 ·rw[decide_eq_true_eq]at c2;rw[decide_eq_true (show t.cols.length>16 by omega)];rfl
 rw[decide_eq_false_iff_not]at c2;rw[decide_eq_false (show¬t.cols.length>16 by omega)];refine Runs.step (B.rd 1 rfl (asSl_v _)) (Runs.step (B.rd 2 rfl (asSl_v _)) ?_);rw[n.bins.len,n.cols.len];refine Runs.cond (fun c3=>Runs.ret ⟨?_,G⟩) fun c3=>?_
 ·have:¬t.bins.length=t.cols.length:=by simpa[Int.ofNat_inj]using c3
  rw[decide_eq_false this];rfl
 have c3:t.bins.length=t.cols.length:=by simpa[Int.ofNat_inj]using c3
 rw[decide_eq_true c3];refine Runs.step (B.rd 2 rfl (asSl_v _)) ?_;rw[n.cols.len];exact k1b n (by omega) c3 (Nat.le_refl _) t.cols.length 0 (by omega) G B
theorem kbdm{s:Sl}{xs:List Int}(n:Sq EI h0 S s xs)(x:Int)(hl:xs.length≤1000000):∀(k i:Nat),i+k=xs.length→(∀j (hj:j<xs.length),j<i→xs[j]≠x)→
  ∃z,go (.pt kf4 kmf [(0,s.v),(1,.int .i64 x),(5,.int .i64 (i:Int))]) h0=some (.int .i64 z,h0)∧∀t (ht:t<xs.length),xs[t]=x→(z=(t:Int)↔∀j (hj:j<xs.length),j<t→xs[j]≠x):=by
 intro k
 induction k with
 | zero =>
  intro i hi hn;refine⟨-1,?_,fun t ht e=>absurd e (hn t ht (by omega))⟩;rw[kso,n.len,condF (decide_eq_false (by omega))]
 | succ k ih =>
  intro i hi hn;have hlt:i<xs.length:=by omega
  obtain⟨r,e1,e2⟩:=n.int hlt;rw[kso,e1,n.len,condT (decide_eq_true (by omega)),Option.bind_some,e2,Option.bind_some];by_cases hx:xs[i]=x
  ·rw[condT (decide_eq_true hx)];refine⟨_,rfl,fun t ht e=>⟨fun h j hj hjt=>hn j hj (by omega),fun h=>?_⟩⟩;rcases Nat.lt_trichotomy i t with h1 | h1 | h1
   ·exact absurd hx (h i hlt h1)
   ·rw[h1]
   ·exact absurd e (hn t ht h1)
  ·rw[condF (decide_eq_false hx),kf (by omega)];refine ih (i+1) (by omega) fun j hj hji=>?_;by_cases h1:j=i
   ·subst h1;exact hx
   ·exact hn j hj (by omega)
theorem k2n{s:Sl}{xs:List Int}(n:Sq EI h0 S s xs)(hl:xs.length≤256):∀(k i:Nat),i+k=xs.length→(∀j (hj:j<xs.length),j<i→0≤xs[j]∧xs[j]≤1073741824)→(xs.take i).Nodup→
  go (.pt kg5 kkn [(0,s.v),(3,.int .i64 (i:Int))]) h0=some (.bool (!(xs.any fun x=>decide (x<0)||decide (x>1073741824))&&decide xs.Nodup),h0):=by
 intro k
 induction k with
 | zero =>
  intro i hi hr hn;rw[kuk,n.len,condF (decide_eq_false (by omega))]
  have h1:(xs.any fun x=>decide (x<0)||decide (x>1073741824))=false:=by
   rw[List.any_eq_false];intro x hx;obtain⟨j,hj,rfl⟩:=List.getElem_of_mem hx;have:=hr j hj (by omega);simp;omega
  rw[show i=xs.length by omega,List.take_length]at hn;rw[h1,decide_eq_true hn];rfl
 | succ k ih =>
  intro i hi hr hn;have hlt:i<xs.length:=by omega
  obtain⟨r,e1,e2⟩:=n.int hlt;rw[kuk,e1,n.len,condT (decide_eq_true (by omega))];rw[n.len]at e1;simp only[Option.bind_some,e1,e2]
  have bad:(xs[i]<0∨xs[i]>1073741824)→(xs.any fun x=>decide (x<0)||decide (x>1073741824))=true:=fun h=>by
   rw[List.any_eq_true];exact⟨xs[i],List.getElem_mem hlt,by simpa using h⟩
  by_cases c1:xs[i]<0
  ·rw[condT (decide_eq_true c1),bad (.inl c1)];rfl
  rw[condF (decide_eq_false c1)];by_cases c2:xs[i]>1073741824
  ·rw[condT (decide_eq_true c2),bad (.inr c2)];rfl
  rw[condF (decide_eq_false c2)];obtain⟨z,e3,hz⟩:=kbdm n xs[i] (by omega) xs.length 0 (by omega) fun j hj h=>by omega
  have hz:=hz i hlt rfl
  have hu:go (.fn kf4 [s.v,.int .i64 xs[i]]) h0=some (.int .i64 z,h0):=by
   rw[k68];exact e3
  rw[hu];simp only[Option.bind_some,kc];have ht:xs.take (i+1)=xs.take i++[xs[i]]:=List.take_succ_eq_append_getElem hlt;by_cases c3:z=(i:Int)
  ·rw[condF (by rw[decide_eq_true c3];rfl),kf (by omega)];refine ih (i+1) (by omega) (fun j hj hji=>?_) ?_
   ·by_cases h1:j=i
    ·subst h1;omega
    ·exact hr j hj (by omega)
   ·rw[ht,List.nodup_append];refine⟨hn,by simp,fun a ha b hb=>?_⟩;rw[List.mem_singleton]at hb;subst hb
    rintro rfl
    obtain⟨j,hj,e⟩:=List.getElem_of_mem ha;rw[List.getElem_take]at e;rw[List.length_take]at hj;exact hz.1 c3 j (by omega) (by omega) e
  ·rw[condT (by rw[decide_eq_false c3];rfl)]
   have:¬xs.Nodup:=fun h=>c3 (hz.2 fun j hj hji e=>by
    have:=(List.nodup_iff_pairwise_ne.1 h);rw[List.pairwise_iff_getElem]at this;exact this j i hj hlt hji e)
   rw[decide_eq_false this,Bool.and_false]
theorem kyg{s:Sl}{xs:List Int}(n:Sq EI h0 S s xs):go (.fn kg5 [s.v]) h0=some (.bool (idsR xs),h0):=by
 rw[kzh,n.len];unfold idsR;by_cases c:xs.length>256
 ·rw[condT (decide_eq_true (by omega)),decide_eq_false (by omega)];rfl
 ·rw[condF (decide_eq_false (by omega)),decide_eq_true (show xs.length≤256 by omega),Bool.true_and];exact k2n n (by omega) xs.length 0 (by omega) (fun j hj h=>by omega) (by simp)
theorem kbbo(n:TabAt h0 S s1 s2 s3 t){b:Nat}(B:h0.has b [s1.v,s2.v,s3.v] ku){i:Nat}(hc:i<t.cols.length)(hl:t.cols.length≤16)(hb:t.bins.length=t.cols.length)(hi:t.cols[i].length=t.ids.length)(hids:t.ids.length≤256):∀(k j:Nat),j+k=t.ids.length→
  go (.pt kc7 km7 [(1,.ptr (some (.new b 0))),(4,.int .i64 (i:Int)),(5,.int .i64 (j:Int))]) h0=cond ((t.cols[i].drop j).any fun x=>decide (x<0)||decide (x≥t.bins[i])) (some (.bool false,h0)) (go (.pt kc7 ki3 [(1,.ptr (some (.new b 0))),(4,.int .i64 ((i+1:Nat):Int))]) h0):=by
 have hbi:i<t.bins.length:=by omega
 obtain⟨r,s',e1,e2,-,n'⟩:=n.cols.sl hc;obtain⟨r2,e3,e4⟩:=n.bins.int hbi;intro k
 induction k with
 | zero =>
  intro j hj;rw[kux,B.rd 0 rfl (asSl_v _),Option.bind_some,n.ids.len,condF (decide_eq_false (by omega)),kf (by omega),List.drop_of_length_le (by omega)];rfl
 | succ k ih =>
  intro j hj;have hjc:j<t.cols[i].length:=by omega
  obtain⟨r3,e5,e6⟩:=n'.int hjc;rw[kux,B.rd 0 rfl (asSl_v _),Option.bind_some,n.ids.len,condT (decide_eq_true (by omega)),B.rd 2 rfl (asSl_v _)];simp only[Option.bind_some,e1,e2,e5,e6,B.rd 1 rfl (asSl_v _),e3,e4];rw[List.drop_eq_getElem_cons hjc,List.any_cons];by_cases c1:t.cols[i][j]<0
  ·rw[condT (decide_eq_true c1),decide_eq_true c1];rfl
  rw[condF (decide_eq_false c1),decide_eq_false c1,Bool.false_or];by_cases c2:t.cols[i][j]≥t.bins[i]
  ·rw[condT (decide_eq_true c2),decide_eq_true c2];rfl
  rw[condF (decide_eq_false c2),decide_eq_false c2,Bool.false_or,kf (by omega)];exact ih (j+1) (by omega)
theorem k39(n:TabAt h0 S s1 s2 s3 t){b:Nat}(B:h0.has b [s1.v,s2.v,s3.v] ku)(hl:t.cols.length≤16)(hb:t.bins.length=t.cols.length)(hids:t.ids.length≤256):∀(k i:Nat),i+k=t.cols.length→
  go (.pt kc7 ki3 [(1,.ptr (some (.new b 0))),(4,.int .i64 (i:Int))]) h0=some (.bool (((List.range t.cols.length).drop i).all (colR t)),h0):=by
 intro k
 induction k with
 | zero =>
  intro i hi;rw[ksm,B.rd 2 rfl (asSl_v _),Option.bind_some,n.cols.len,condF (decide_eq_false (by omega)),kfy (by simp;omega)]
 | succ k ih =>
  intro i hi;have hc:i<t.cols.length:=by omega
  have hbi:i<t.bins.length:=by omega
  obtain⟨r,s',e1,e2,-,n'⟩:=n.cols.sl hc;obtain⟨r2,e3,e4⟩:=n.bins.int hbi
  have hcol:colR t i=(!decide (t.bins[i]<2)&&!decide (t.bins[i]>32)&&decide (t.cols[i].length=t.ids.length)&&!(t.cols[i].any fun x=>decide (x<0)||decide (x≥t.bins[i]))):=by
   simp[colR,List.getD,hbi,hc]
  rw[kjl hc,hcol];rw[ksm,B.rd 2 rfl (asSl_v _),Option.bind_some,n.cols.len,condT (decide_eq_true (by omega)),B.rd 1 rfl (asSl_v _),Option.bind_some,e3,Option.bind_some,e4,Option.bind_some];simp only[Option.bind_some,B.rd 0 rfl (asSl_v _),e1,e2,e3,e4];by_cases c1:t.bins[i]<2
  ·rw[condT (decide_eq_true c1),decide_eq_true c1];rfl
  rw[condF (decide_eq_false c1),decide_eq_false c1];by_cases c2:t.bins[i]>32
  ·rw[condT (decide_eq_true c2),decide_eq_true c2];rfl
  rw[condF (decide_eq_false c2),decide_eq_false c2,n'.len,n.ids.len];by_cases c3:t.cols[i].length=t.ids.length
  ·rw[condF (by rw[decide_eq_true (by omega)];rfl),decide_eq_true c3,show(0:Int)=((0:Nat):Int)from rfl,kbbo n B hc hl hb c3 hids t.ids.length 0 (by omega),List.drop_zero];cases(t.cols[i].any fun x=>decide (x<0)||decide (x≥t.bins[i]))with
   | true=>rfl
   | false=>rw[cond_false,ih (i+1) (by omega)];rfl
  ·rw[condT (by rw[decide_eq_false (by omega)];rfl),decide_eq_false c3];rfl
theorem k08(n:TabAt h0 S s1 s2 s3 t):Runs (go (.fn kc7 [.agg [s1.v,s2.v,s3.v]]) h0) fun v h'=>v=.bool (tabR t)∧Grow h0 h':=by
 rw[k7e];refine Runs.new fun h4 B G=>Runs.step (B.rd 0 rfl (asSl_v _)) ?_;refine Runs.step (kyg (n.ids.grow G)) ?_;unfold tabR;refine Runs.step (seen rfl) (Runs.cond (fun c=>Runs.ret ⟨by rw[show idsR t.ids=false by simpa using c];rfl,G⟩) fun c=>?_);have c:idsR t.ids=true:=by simpa using c
 rw[c,Bool.true_and];refine Runs.step (B.rd 2 rfl (asSl_v _)) ?_;rw[n.cols.len];refine Runs.cond (fun c2=>Runs.ret ⟨?_,G⟩) fun c2=>?_
 ·rw[decide_eq_true_eq]at c2;rw[decide_eq_true (show t.cols.length>16 by omega)];rfl
 rw[decide_eq_false_iff_not]at c2;rw[decide_eq_false (show¬t.cols.length>16 by omega)];refine Runs.step (B.rd 1 rfl (asSl_v _)) (Runs.step (B.rd 2 rfl (asSl_v _)) ?_);rw[n.bins.len,n.cols.len];refine Runs.cond (fun c3=>Runs.ret ⟨?_,G⟩) fun c3=>?_
 ·have:¬t.bins.length=t.cols.length:=by simpa[Int.ofNat_inj]using c3
  rw[decide_eq_false this];rfl
 have c3:t.bins.length=t.cols.length:=by simpa[Int.ofNat_inj]using c3
 rw[decide_eq_true c3]
 have hids:t.ids.length≤256:=by
  unfold idsR at c;simp at c;exact c.1
 have:=k39 (n.grow G) B (by omega) c3 hids t.cols.length 0 (by omega);exact⟨_,_,this,rfl,G⟩
end
theorem AH.has.at{h:AH}{i:Nat}{cs:List AV}{e:TypeId}(b:h.has i cs e){k:Nat}{v:AV}(hk:cs[k]?=some v):h.cell (.new i k)=some v:=(b.cell k).trans hk
theorem Runs.yieldF{f:FuncId}{a c xs:List AV}{A:Nat×List AV→Option (AV×AH)}{B:Option (AV×AH)}{P:AV→AH→Prop}(H:Runs B P):Runs (yieldK (.func (.func f) a c) xs A B) P:=H
def Nd.may(x:Nd)(i n:Int):Prop:=if x.leaf=true then(-1099511627776≤x.weight∧x.weight≤1099511627776∧x.party=0∧x.feature=0∧x.cut=0∧x.left=0∧x.right=0)
 else(x.weight=0∧0≤x.party∧x.party≤15∧0≤x.feature∧x.feature≤1073741824∧0≤x.cut∧x.cut≤31∧i<x.left∧x.left<n∧i<x.right∧x.right<n∧x.left≠x.right)
instance Nd.mayDec(x:Nd)(i n:Int):Decidable (x.may i n):=by unfold Nd.may;exact inferInstance
theorem kv4(a b c:Int)(h:AH):callV Pg go (.func (.func kfd) [] []) [.int .i64 a,.int .i64 b,.int .i64 c] h=some (.bool (decide (b≤a)&&decide (a≤c)),h):=by
 show callF Pg go kfd _ h=_;rw[kbdi];show go (.fn kfd [.int .i64 a,.int .i64 b,.int .i64 c]) h=_;rw[k1c];by_cases k:a≥b
 ·rw[condT (decide_eq_true k),decide_eq_true (show b≤a from k)];rfl
 ·rw[condF (decide_eq_false k),decide_eq_false (show¬b≤a from k)];rfl
theorem k7x{h:AH}{a i n:Int}{x y z:Nat}{e1 e2 e3:TypeId}(b1:h.has x [.func (.func kfd) [] []] e1)(b2:h.has y [.int .i64 i] e2)(b3:h.has z [.int .i64 n] e3)(hi:0≤i∧i≤1000)(hn:0≤n∧n≤1000) :
  go (.fn kbx [.int .i64 a,.ptr (some (.new x 0)),.ptr (some (.new y 0)),.ptr (some (.new z 0))]) h=some (.bool (decide (i<a)&&decide (a<n)),h):=by
 have:Runs (go (.fn kbx [.int .i64 a,.ptr (some (.new x 0)),.ptr (some (.new y 0)),.ptr (some (.new z 0))]) h) fun v h'=>v=.bool (decide (i<a)&&decide (a<n))∧h'=h:=by
  rw[k0s];refine Runs.step (b1.at rfl) (Runs.step (b2.rd0 rfl (kc _ _)) (Runs.step (b3.rd0 rfl (kc _ _)) (Runs.yieldF ?_)));refine Runs.step (kv4 _ _ _ _) (Runs.step (seen rfl) (Runs.ret ⟨congrArg AV.bool ?_,rfl⟩));have w1:IntKind.wrap .i64 (i+1)=i+1:=wrap64 (by omega) (by omega);have w2:IntKind.wrap .i64 (n-1)=n-1:=wrap64 (by omega) (by omega);rw[w1,w2];congr 1<;>rw[decide_eq_decide]<;>omega
 obtain⟨_,_,e,rfl,rfl⟩:=this;exact e
theorem kbbp{h:AH}(x:Nd){i n:Int}(hi:0≤i∧i≤1000)(hn:0≤n∧n≤1000):Runs (go (.fn kkx [.agg x.cells,.int .i64 i,.int .i64 n]) h) fun v h'=>v=.bool (decide (x.may i n))∧Grow h h':=by
 obtain⟨leaf,w,p,f,c,l,r⟩:=x;show Runs (go (.fn kkx [.agg [.bool leaf,.int .i64 w,.int .i64 p,.int .i64 f,.int .i64 c,.int .i64 l,.int .i64 r],.int .i64 i,.int .i64 n]) h) _;rw[kbeg];refine Runs.new fun h1 b1 g1=>Runs.new fun h2 b2 g2=>Runs.new fun h3 b3 g3=>Runs.new fun h4 b4 g4=>Runs.puts b4 rfl fun h5 b5 u5=>?_;have g5:=(Grow.refl h3).trans g4 |>.updr (Nat.le_refl _) u5;have b1:=(g2.trans (g3.trans g5)).has b1;have b2:=(g3.trans g5).has b2;have b3:=g5.has b3;have G:=g1.trans (g2.trans (g3.trans g5))
 have fin:∀{b:Bool},(b=true↔Nd.may ⟨leaf,w,p,f,c,l,r⟩ i n)→Runs (some (.bool b,h5)) fun v h'=>v=.bool (decide (Nd.may ⟨leaf,w,p,f,c,l,r⟩ i n))∧Grow h h':=fun{b} e=>Runs.ret ⟨congrArg AV.bool (by
  rw[Bool.eq_iff_iff,decide_eq_true_eq];exact e),G⟩
 cases leaf
 all_goals
  repeat' first
   | refine Runs.yieldF ?_
   | refine Runs.step (kv4 _ _ _ _) ?_
   | refine Runs.step (k7x b5 b2 b3 hi hn) ?_
   | refine Runs.step (AH.has.rd (by assumption) _ rfl (by first | exact kc _ _ | rfl)) ?_
   | refine Runs.step (AH.has.at (by assumption) rfl) ?_
   | refine Runs.step (seen rfl) ?_
   | refine Runs.cond (fun k=>?_) (fun k=>?_)
  all_goals
   refine fin ?_;simp[Nd.may]at *
   try omega
theorem kbbm{h:AH}(x:Nd){i n:Int}:Runs (go (.fn klm [.agg x.cells,.int .i64 i,.int .i64 n]) h) fun v h'=>v=.bool (decide (x.may i n))∧Grow h h':=by
 obtain⟨leaf,w,p,f,c,l,r⟩:=x;show Runs (go (.fn klm [.agg [.bool leaf,.int .i64 w,.int .i64 p,.int .i64 f,.int .i64 c,.int .i64 l,.int .i64 r],.int .i64 i,.int .i64 n]) h) _;rw[k2k];refine Runs.new fun h5 b1 G=>?_
 have fin:∀{b:Bool},(b=true↔Nd.may ⟨leaf,w,p,f,c,l,r⟩ i n)→Runs (some (.bool b,h5)) fun v h'=>v=.bool (decide (Nd.may ⟨leaf,w,p,f,c,l,r⟩ i n))∧Grow h h':=fun{b} e=>Runs.ret ⟨congrArg AV.bool (by
  rw[Bool.eq_iff_iff,decide_eq_true_eq];exact e),G⟩
 cases leaf
 all_goals
  repeat' first
   | refine Runs.step (AH.has.rd (by assumption) _ rfl (by first | exact kc _ _ | rfl)) ?_
   | refine Runs.cond (fun k=>?_) (fun k=>?_)
  all_goals
   refine fin ?_;simp[Nd.may]at *
   try omega
abbrev EM:Ef (List Nd):=Ef.seq Ef.nd
def Nd.no:Nd:=⟨false,0,0,0,0,0,0⟩
def nodesR(l:List Nd)(i:Nat):Bool:=decide ((l.getD i Nd.no).may (i:Int) (l.length:Int))
def treeR(l:List Nd):Bool:=!decide (l.length<1)&&!decide (l.length>63)&&(List.range l.length).all (nodesR l)
def modR(m:List (List Nd)):Bool:=!decide (m.length>16)&&m.all treeR
section
variable{h0:AH}{S:Fp}{s:Sl}{m:List (List Nd)}
theorem k3l{l:List Nd}{t:Sl}(n:Sq Ef.nd h0 S t l)(hl:l.length≤63){b:Nat}(hb:h0.has b [t.v] kb2)(hl2:m.length≤16){z:Nat}(hz:z<m.length):∀(k i:Nat),i+k=l.length→∀{h:AH},Grow h0 h→
  (∀h',Grow h0 h'→Runs (go (.pt kc3 kiu [(12,s.v),(13,.int .i64 (m.length:Int)),(14,.int .i64 ((z+1:Nat):Int))]) h') fun v h''=>v=.bool ((m.drop (z+1)).all treeR)∧Grow h' h'')→
  Runs (go (.pt kc3 kk4 [(4,.ptr (some (.new b 0))),(12,s.v),(13,.int .i64 (m.length:Int)),(14,.int .i64 (z:Int)),(29,t.v),(30,.int .i64 (l.length:Int)),(31,.int .i64 (i:Int))]) h) fun v h'=>v=.bool (((List.range l.length).drop i).all (nodesR l)&&(m.drop (z+1)).all treeR)∧Grow h0 h':=by
 intro k
 induction k with
 | zero =>
  intro i hi h g next;rw[kx6];refine Runs.ifF (decide_eq_false (by omega)) ?_;rw[kf (by omega),kfy (by simp;omega),Bool.true_and];exact(next h g).imp fun v h' ⟨a,b⟩=>⟨a,g.trans b⟩
 | succ k ih =>
  intro i hi h g next;have hlt:i<l.length:=by omega
  obtain⟨r,e,e0,e1,e2,e3,e4,e5,e6⟩:=(n.grow g).nd hlt;rw[kx6];refine Runs.ifT (decide_eq_true (by omega)) (Runs.step e (Runs.step e0 (Runs.step e1 (Runs.step e2 (Runs.step e3 (Runs.step e4 (Runs.step e5 (Runs.step e6 ?_))))))));refine Runs.new fun h1 b1 g1=>Runs.puts b1 rfl fun h2 b2 u2=>?_;have G:Grow h h2:=g1.updr (Nat.le_refl _) u2;have hb2:=(g.trans G).has hb
  repeat refine Runs.step (AH.has.rd (by assumption) _ rfl (by first | exact kc _ _ | exact asSl_v _ | rfl)) ?_
  rw[n.len];refine(kbbp l[i] (i:=(i:Int)) (n:=(l.length:Int)) (by omega) (by omega)).call fun v h3 ⟨ev,g3⟩=>?_;subst ev;refine Runs.step (seen rfl) ?_;have hn:nodesR l i=decide (l[i].may (i:Int) (l.length:Int)):=by simp[nodesR,List.getD,hlt]
  rw[kjl hlt,hn];refine Runs.cond (fun c=>Runs.ret ⟨?_,(g.trans G).trans g3⟩) fun c=>?_
  ·rw[Bool.not_eq_true']at c;rw[c];rfl
  ·rw[Bool.not_eq_false']at c;rw[c,Bool.true_and,kf (by omega)];exact ih (i+1) (by omega) ((g.trans G).trans g3) next
theorem k4v(n:Sq EM h0 S s m)(hl:m.length≤16):∀(k z:Nat),z+k=m.length→∀{h:AH},Grow h0 h→
  Runs (go (.pt kc3 kiu [(12,s.v),(13,.int .i64 (m.length:Int)),(14,.int .i64 (z:Int))]) h) fun v h'=>v=.bool ((m.drop z).all treeR)∧Grow h h':=by
 intro k
 induction k with
 | zero =>
  intro z hz h g;rw[ksi];refine Runs.ifF (decide_eq_false (by omega)) (Runs.ret ⟨by rw[kfy (by omega)],Grow.refl _⟩)
 | succ k ih =>
  intro z hz h g;have hlt:z<m.length:=by omega
  obtain⟨r,t,e1,-,e2,n'⟩:=(n.grow g).sl hlt;rw[ksi];refine Runs.ifT (decide_eq_true (by omega)) (Runs.step e1 (Runs.step e2 ?_));refine Runs.new fun h1 b1 g1=>Runs.puts b1 rfl fun h2 b2 u2=>?_;have G:Grow h h2:=g1.updr (Nat.le_refl _) u2;refine Runs.step (b2.rd 0 rfl (asSl_v _)) ?_;rw[n'.len,knu hlt];unfold treeR;refine Runs.cond (fun c=>Runs.ret ⟨?_,G⟩) fun c=>?_
  ·rw[decide_eq_true_eq]at c;rw[decide_eq_true (show m[z].length<1 by omega)];rfl
  rw[decide_eq_false_iff_not]at c;rw[decide_eq_false (show¬m[z].length<1 by omega)];refine Runs.step (b2.rd 0 rfl (asSl_v _)) ?_;rw[n'.len];refine Runs.cond (fun c2=>Runs.ret ⟨?_,G⟩) fun c2=>?_
  ·rw[decide_eq_true_eq]at c2;rw[decide_eq_true (show m[z].length>63 by omega)];rfl
  rw[decide_eq_false_iff_not]at c2;rw[decide_eq_false (show¬m[z].length>63 by omega)];refine Runs.step (b2.rd 0 rfl (asSl_v _)) ?_;rw[n'.len];refine(k3l (n'.grow G) (by omega) b2 hl hlt m[z].length 0 (by omega) (Grow.refl _) fun h' g'=>ih (z+1) (by omega) ((g.trans G).trans g')).imp fun v h' ⟨a,b⟩=>⟨?_,G.trans b⟩;rw[a];rfl
theorem k1n(n:Sq EM h0 S s m):Runs (go (.fn kc3 [.agg [s.v]]) h0) fun v h'=>v=.bool (modR m)∧Grow h0 h':=by
 rw[kbc2];refine Runs.new fun h2 b2 g2=>Runs.step (b2.rd 0 rfl (asSl_v _)) ?_;rw[n.len];unfold modR;refine Runs.cond (fun c=>Runs.ret ⟨?_,g2⟩) fun c=>?_
 ·rw[decide_eq_true_eq]at c;rw[decide_eq_true (show m.length>16 by omega)];rfl
 rw[decide_eq_false_iff_not]at c;rw[decide_eq_false (show¬m.length>16 by omega)];refine Runs.step (b2.rd 0 rfl (asSl_v _)) ?_;rw[n.len];exact(k4v n (by omega) m.length 0 (by omega) g2).imp fun v h' ⟨a,b⟩=>⟨a,g2.trans b⟩
theorem k2e{l:List Nd}{t:Sl}(n:Sq Ef.nd h0 S t l)(hl:l.length≤63){b:Nat}(hl2:m.length≤16){z:Nat}(hz:z<m.length):∀(k i:Nat),i+k=l.length→∀{h:AH},Grow h0 h→
  (∀h',Grow h0 h'→Runs (go (.pt kc4 kiw [(1,.ptr (some (.new b 0))),(3,.int .i64 ((z+1:Nat):Int))]) h') fun v h''=>v=.bool ((m.drop (z+1)).all treeR)∧Grow h' h'')→
  Runs (go (.pt kc4 knh [(1,.ptr (some (.new b 0))),(3,.int .i64 (z:Int)),(4,t.v),(5,.int .i64 (i:Int))]) h) fun v h'=>v=.bool (((List.range l.length).drop i).all (nodesR l)&&(m.drop (z+1)).all treeR)∧Grow h0 h':=by
 intro k
 induction k with
 | zero =>
  intro i hi h g next;rw[kxq,n.len];refine Runs.ifF (decide_eq_false (by omega)) ?_;rw[kf (by omega),kfy (by simp;omega),Bool.true_and];exact(next h g).imp fun v h' ⟨a,b⟩=>⟨a,g.trans b⟩
 | succ k ih =>
  intro i hi h g next;have hlt:i<l.length:=by omega
  obtain⟨r,e,e0,e1,e2,e3,e4,e5,e6⟩:=(n.grow g).nd hlt;rw[kxq,n.len];rw[n.len]at e;refine Runs.ifT (decide_eq_true (by omega)) (Runs.step e (Runs.step e0 (Runs.step e1 (Runs.step e2 (Runs.step e3 (Runs.step e4 (Runs.step e5 (Runs.step e6 ?_))))))));refine(kbbm l[i] (i:=(i:Int)) (n:=(l.length:Int))).call fun v h3 ⟨ev,g3⟩=>?_;subst ev;refine Runs.step (seen rfl) ?_;have hn:nodesR l i=decide (l[i].may (i:Int) (l.length:Int)):=by simp[nodesR,List.getD,hlt]
  rw[kjl hlt,hn];refine Runs.cond (fun c=>Runs.ret ⟨?_,g.trans g3⟩) fun c=>?_
  ·rw[Bool.not_eq_true']at c;rw[c];rfl
  ·rw[Bool.not_eq_false']at c;rw[c,Bool.true_and,kf (by omega)];exact ih (i+1) (by omega) (g.trans g3) next
theorem k8m(n:Sq EM h0 S s m)(hl:m.length≤16){b:Nat}(hb:h0.has b [s.v] kbh):∀(k z:Nat),z+k=m.length→∀{h:AH},Grow h0 h→
  Runs (go (.pt kc4 kiw [(1,.ptr (some (.new b 0))),(3,.int .i64 (z:Int))]) h) fun v h'=>v=.bool ((m.drop z).all treeR)∧Grow h h':=by
 intro k
 induction k with
 | zero =>
  intro z hz h g;rw[kru];refine Runs.step ((g.has hb).rd 0 rfl (asSl_v _)) ?_;rw[n.len];refine Runs.ifF (decide_eq_false (by omega)) (Runs.ret ⟨by rw[kfy (by omega)],Grow.refl _⟩)
 | succ k ih =>
  intro z hz h g;have hlt:z<m.length:=by omega
  obtain⟨r,t,e1,-,e2,n'⟩:=(n.grow g).sl hlt;rw[kru];refine Runs.step ((g.has hb).rd 0 rfl (asSl_v _)) ?_;rw[n.len];rw[n.len]at e1;refine Runs.ifT (decide_eq_true (by omega)) (Runs.step ((g.has hb).rd 0 rfl (asSl_v _)) ?_);rw[n.len];refine Runs.step e1 (Runs.step e2 ?_);rw[n'.len,knu hlt];unfold treeR;refine Runs.cond (fun c=>Runs.ret ⟨?_,Grow.refl _⟩) fun c=>?_
  ·rw[decide_eq_true_eq]at c;rw[decide_eq_true (show m[z].length<1 by omega)];rfl
  rw[decide_eq_false_iff_not]at c;rw[decide_eq_false (show¬m[z].length<1 by omega)];refine Runs.cond (fun c2=>Runs.ret ⟨?_,Grow.refl _⟩) fun c2=>?_
  ·rw[decide_eq_true_eq]at c2;rw[decide_eq_true (show m[z].length>63 by omega)];rfl
  rw[decide_eq_false_iff_not]at c2;rw[decide_eq_false (show¬m[z].length>63 by omega)];exact k2e n' (by omega) hl hlt m[z].length 0 (by omega) (Grow.refl _) fun h' g'=>ih (z+1) (by omega) (g.trans g')
theorem kyt(n:Sq EM h0 S s m):Runs (go (.fn kc4 [.agg [s.v]]) h0) fun v h'=>v=.bool (modR m)∧Grow h0 h':=by
 rw[kz7];refine Runs.new fun h2 b2 g2=>Runs.step (b2.rd 0 rfl (asSl_v _)) ?_;rw[n.len];unfold modR;refine Runs.cond (fun c=>Runs.ret ⟨?_,g2⟩) fun c=>?_
 ·rw[decide_eq_true_eq]at c;rw[decide_eq_true (show m.length>16 by omega)];rfl
 rw[decide_eq_false_iff_not]at c;rw[decide_eq_false (show¬m.length>16 by omega)];exact(k8m (n.grow g2) (by omega) b2 m.length 0 (by omega) (Grow.refl _)).imp fun v h' ⟨a,b⟩=>⟨a,g2.trans b⟩
end
end Go.Ab
