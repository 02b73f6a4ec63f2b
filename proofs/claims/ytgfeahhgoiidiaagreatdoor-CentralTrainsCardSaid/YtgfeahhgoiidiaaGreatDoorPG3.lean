/- Words and laws that the last text joins. -/
import Derived.Test.YtgfeahhgoiidiaaGreatDoorPS43
import Derived.Test.YtgfeahhgoiidiaaGreatDoorPAbsL
import Derived.Test.YtgfeahhgoiidiaaGreatDoorPU1
set_option linter.unusedVariables false
set_option linter.unusedSimpArgs false
set_option linter.unusedSectionVars false
set_option maxRecDepth 10000
namespace Go.Ab
open Go.Proofs Go.Num
inductive kki
 | fn (a1:Int) (a2:Int) (a3:Int) (a4:Int) (a5:Int)
 | no
abbrev ki1:=Bool×List Nat×List Nat×Int
noncomputable def kl7(a1 a2 a3 a4 a5:Int):Option (kki⊕ki1) :=
 cond (!((kba a2 a3 a4 a5).2.2)) (some (.inr (false,[],[],1))) (cond (!((kbk a1))) (some (.inr (false,[],[],1))) ((some (kc4 (((((scoreF a1 a2 a3).1)))) ((scoreF a1 a2 a3).2.1) ((scoreF a1 a2 a3).2.2.1) (((((scoreF a1 (((((kba a2 a3 a4 a5).1)))) (((((kba a2 a3 a4 a5).2.1))))).1)))) ((scoreF a1 (((((kba a2 a3 a4 a5).1)))) (((((kba a2 a3 a4 a5).2.1))))).2.1) ((scoreF a1 (((((kba a2 a3 a4 a5).1)))) (((((kba a2 a3 a4 a5).2.1))))).2.2.1))).bind λA=>(some (kdh ((A.1)) A.2.1 A.2.2.1 (((((scoreF a1 a4 a5).1)))) ((scoreF a1 a4 a5).2.1) ((scoreF a1 a4 a5).2.2.1))).bind λy=>some (.inr (((y.1)),y.2.1,y.2.2.1,(y.2.2.2)))))
noncomputable def k1i:kki->Option (kki⊕ki1)
 | .fn a1 a2 a3 a4 a5=>kl7 a1 a2 a3 a4 a5
 | .no=>none
@[reducible] def k0g(h0:AH)(r:ki1)(v:AV)(h':AH):Prop:=∃s1:Sl,∃s2:Sl,v=.tup [.agg [.bool r.1,s1.v,s2.v],.i r.2.2.2]/\Nats h' s1 r.2.1/\Nats h' s2 r.2.2.1/\Grow h0 h'/\Own h0 s1/\Own h0 s2
def kro(r:ki1):kki->Prop
 | .fn a1 a2 a3 a4 a5=>∀{h:AH},Runs (go (.fn kq9 [.i a1,.agg [.i a2,.i a3],.agg [.i a4,.i a5]]) h) (k0g h r)
 | .no=>True
theorem k6x{r:ki1}{o:kki⊕ki1}{a1 a2 a3 a4 a5:Int}(e:kl7 a1 a2 a3 a4 a5=some o)(bz:GoodS (kro r) r o):kro r (.fn a1 a2 a3 a4 a5):=by
 intro h;rw[k61];unfold kl7 at e;refine q0 λH6 b6 g6=>?_;refine q0 λH7 b7 g7=>?_;refine q0 λH8 b8 g8=>?_;refine q0 λH9 b9 g9=>?_;refine qz (qbf ((g8.trans g9).has b7) 0 rfl qcn) (qz (qbf ((g8.trans g9).has b7) 1 rfl qcn) (qz (qbf (g9.has b8) 0 rfl qcn) (qz (qbf (g9.has b8) 1 rfl qcn) ?_)));obtain⟨_,h4,gg,rfl,y⟩:=kbls a2 a3 a4 a5;refine qz gg (qz rfl (qz rfl ?_));refine qbb rfl ?_;refine qz (seenAt rfl qcn) (qz (seenAt rfl qcn) (qz (seen rfl) ?_));refine q0 λh5 gh Y=>?_;refine qba gh rfl λh6 bq Z=>?_;refine qbd (λeg=>?_) (λeg=>?_)
 ·replace e:=(condT eg).symm.trans e;have eh:=((y.trans Y).updr (qbq (y).size (qbp _)) Z);have ei:=eh.has b9;refine qba ei rfl λh7 ej e2=>?_;have fy:=qx bq (Nat.ne_of_gt (qbr (y.has b9).lt (qbp _))) e2;refine qz (qbf ej 0 rfl rfl) (qz (qbf ej 1 rfl qcm) (qz (qbf ej 2 rfl qcm) ?_));cases e;cases bz;have gi:=((((g6.trans g7).trans g8).trans g9).trans y);have gj:=((g6.trans g7).trans g8);have gl:=(((((((g6.trans g7).trans g8).trans g9).trans y).trans Y).updr (qbq (gi).size (qbp _)) Z).updr (qbq (gj).size (qbp _)) e2);exact qy ⟨(⟨none,0,.is 0⟩:Sl),(⟨none,0,.is 0⟩:Sl),rfl,(qw _),(qw _),gl,(qu _),(qu _)⟩
 ·replace e:=(condF eg).symm.trans e;have gm:=(((g7.trans g8).trans g9).trans y);have eh:=(((((g7.trans g8).trans g9).trans y).trans Y).updr (qbq (gm).size (qbp _)) Z);have ap:=eh.has b6;refine qz (AH.has.rd0 ap rfl qcn) ?_;obtain⟨_,h8,gn,rfl,A⟩:=ku2 a1;refine qz gn (qz (seen rfl) ?_);refine qbd (λek=>?_) (λek=>?_)
  ·replace e:=(condT ek).symm.trans e;have b0:=(((y.trans Y).updr (qbq (y).size (qbp _)) Z).trans A);have el:=b0.has b9;refine qba el rfl λgp aq em=>?_;have gq:=qx (A.has ap) (Nat.ne_of_lt (qbr ((g7.trans g8).has b6).lt (qbp _))) em;have fz:=qx (A.has bq) (Nat.ne_of_gt (qbr (y.has b9).lt (qbp _))) em;refine qz (qbf aq 0 rfl rfl) (qz (qbf aq 1 rfl qcm) (qz (qbf aq 2 rfl qcm) ?_));cases e;cases bz;have gr:=((((g6.trans g7).trans g8).trans g9).trans y);have gs:=((g6.trans g7).trans g8);have gt:=((((((((g6.trans g7).trans g8).trans g9).trans y).trans Y).updr (qbq (gr).size (qbp _)) Z).trans A).updr (qbq (gs).size (qbp _)) em);exact qy ⟨(⟨none,0,.is 0⟩:Sl),(⟨none,0,.is 0⟩:Sl),rfl,(qw _),(qw _),gt,(qu _),(qu _)⟩
  ·replace e:=(condF ek).symm.trans e;refine q0 λgp aq ai=>?_;have b0:=((g8.trans g9).trans y);have gu:=((((((g8.trans g9).trans y).trans Y).updr (qbq (b0).size (qbp _)) Z).trans A).trans ai);have bi:=gu.has b7;refine qz (qbf bi 0 rfl qcn) (qz (qbf bi 1 rfl qcn) (qz (qbf ((A.trans ai).has bq) 0 rfl qcn) (qz (qbf ((A.trans ai).has bq) 1 rfl qcn) ?_)));rw[kuw];refine Runs.newB λh9 en ah=>?_;refine Runs.newB λia c7 U=>?_;have eo:=(((A.trans ai).trans ah).trans U);have b1:=eo.has ap;refine qbk (AH.has.rd0 b1 rfl qcn) ?_;refine qbk (qbf (U.has en) 0 rfl qcn) ?_;refine qbk (qbf (U.has en) 1 rfl qcn) ?_;obtain⟨_,ib,gv,ic,hz,rfl,gw,e3,aa,ep,b2⟩:=ku0 a1 a2 a3;refine qbk gv ?_;refine qbk rfl ?_;refine qbk rfl ?_;refine Runs.ifTB rfl ?_;refine qbk (seenAt rfl rfl) ?_;refine qbk (seenAt rfl qcm) ?_;refine qbk (seenAt rfl qcm) ?_;refine qbk (seen qcn) ?_;refine Runs.newB λid gx V=>?_;refine Runs.putsB gx rfl λie c8 X=>?_;refine qbk (qbf c8 0 rfl rfl) ?_;refine qbk (qbf c8 1 rfl qcm) ?_;refine qbk (qbf c8 2 rfl qcm) ?_;have e4:=((aa.trans V).updr (qbq (aa).size (qbp _)) X);have c9:=e4.has c7;refine Runs.putsB c9 rfl λig da Q=>?_;have db:=(gw.grow (V.updr (qbp _) X)).upda (qbj ep (c7).lt) Q;have b3:=(e3.grow (V.updr (qbp _) X)).upda (qbj b2 (c7).lt) Q;have eq:=e4.has b1;have dc:=((A.trans ai).trans ah);have b4:=qx eq (Nat.ne_of_lt (qbr (dc.has ap).lt (qbp _))) Q;have dd:=qx c8 (Nat.ne_of_gt (qbr (aa.has c7).lt (qbp _))) Q;refine qbk (qbf da 0 rfl rfl) ?_;refine qbk (qbf da 1 rfl qcm) ?_;refine qbk (qbf da 2 rfl qcm) ?_;refine Runs.retB ?_;refine qz rfl ?_;refine qbb rfl ?_;refine qz (seenAt rfl rfl) (qz (seenAt rfl qcm) (qz (seenAt rfl qcm) ?_));have e5:=((ah.trans U).trans aa);have br:=(((((ah.trans U).trans aa).trans V).updr (qbq (e5).size (qbp _)) X).updr (qbq (ah).size (qbp _)) Q);refine qbe (br.same ((A.trans ai).has bq) 0 2) ?_;refine qbe (br.same aq 0 0) ?_;rw[kuw];refine Runs.newB λih er C=>?_;refine Runs.newB λii de K=>?_;refine qbk (AH.has.rd0 ((C.trans K).has b4) rfl qcn) ?_;refine qbk (qbf (K.has er) 0 rfl qcn) ?_;refine qbk (qbf (K.has er) 1 rfl qcn) ?_;obtain⟨_,ij,gy,ik,h1,rfl,gz,e6,ac,et,b5⟩:=ku0 a1 (((((kba a2 a3 a4 a5).1)))) (((((kba a2 a3 a4 a5).2.1))));refine qbk gy ?_;refine qbk rfl ?_;refine qbk rfl ?_;refine Runs.ifTB rfl ?_;refine qbk (seenAt rfl rfl) ?_;refine qbk (seenAt rfl qcm) ?_;refine qbk (seenAt rfl qcm) ?_;refine qbk (seen qcn) ?_;refine Runs.newB λil g0 ae=>?_;refine Runs.putsB g0 rfl λim df af=>?_;refine qbk (qbf df 0 rfl rfl) ?_;refine qbk (qbf df 1 rfl qcm) ?_;refine qbk (qbf df 2 rfl qcm) ?_;have g1:=((ac.trans ae).updr (qbq (ac).size (qbp _)) af);have dg:=g1.has de;refine Runs.putsB dg rfl λio dh ag=>?_;have bk:=(gz.grow (ae.updr (qbp _) af)).upda (qbj et (de).lt) ag;have az:=(e6.grow (ae.updr (qbp _) af)).upda (qbj b5 (de).lt) ag;have di:=qx df (Nat.ne_of_gt (qbr (ac.has de).lt (qbp _))) ag;refine qbk (qbf dh 0 rfl rfl) ?_;refine qbk (qbf dh 1 rfl qcm) ?_;refine qbk (qbf dh 2 rfl qcm) ?_;refine Runs.retB ?_;refine qz rfl ?_;refine qbb rfl ?_;refine qz (seenAt rfl rfl) (qz (seenAt rfl qcm) (qz (seenAt rfl qcm) ?_));have ad:=br.has aq;have e7:=((C.trans K).trans ac);have ca:=(((((C.trans K).trans ac).trans ae).updr (qbq (e7).size (qbp _)) af).updr (qbq (C).size (qbp _)) ag);refine qbe (ca.same ad 0 0) ?_;have bm:=db.grow ca;have a0:=b3.grow ca;obtain⟨ip,g2,e⟩:=qbu.1 e;obtain⟨_,iq,g3,ir,h2,rfl,g4,e8,I,e9,ea⟩:=kbal bm a0 bk az (Option.some.inj g2);refine qz g3 (qz rfl (qz rfl ?_));refine qbb rfl ?_;refine qz (seenAt rfl rfl) (qz (seenAt rfl qcm) (qz (seenAt rfl qcm) (qz (seen qcn) ?_)));have an:=ca.has ad;refine qbe (I.same an 0 0) ?_;refine qba (I.has an) rfl λit cb F=>?_;have dj:=(bm.grow I).upda (qbj ep ((ah.trans U).has aq).lt) F;have cc:=(a0.grow I).upda (qbj b2 ((ah.trans U).has aq).lt) F;have dk:=(bk.grow I).upda (qbj et ((C.trans K).has ad).lt) F;have cd:=(az.grow I).upda (qbj b5 ((C.trans K).has ad).lt) F;have dl:=g4.upda (qbj e9 (an).lt) F;have ce:=e8.upda (qbj ea (an).lt) F;have eu:=(ca.trans I);have ev:=eu.has b4;have cf:=qx ev (Nat.ne_of_lt (qbr (A.has ap).lt (qbp _))) F;have g5:=(((br.trans C).trans K).trans ac);have ha:=(br.trans C);have hb:=(((((((br.trans C).trans K).trans ac).trans ae).updr (qbq (g5).size (qbp _)) af).updr (qbq (ha).size (qbp _)) ag).trans I);have ew:=hb.has bi;have hc:=(((b0.trans Y).updr (qbq (b0).size (qbp _)) Z).trans A);have ex:=qx ew (Nat.ne_of_lt (qbr (hc.has b7).lt (qbp _))) F;have hd:=(((((((U.trans aa).trans V).updr (qbq ((U.trans aa)).size (qbp _)) X).updr (qbp _) Q).trans C).trans K).trans ac);have he:=(((((U.trans aa).trans V).updr (qbq ((U.trans aa)).size (qbp _)) X).updr (qbp _) Q).trans C);have hf:=(((((((((((U.trans aa).trans V).updr (qbq ((U.trans aa)).size (qbp _)) X).updr (qbp _) Q).trans C).trans K).trans ac).trans ae).updr (qbq (hd).size (qbp _)) af).updr (qbq (he).size (qbp _)) ag).trans I);have dm:=hf.has en;have dn:=qx dm (Nat.ne_of_gt (qbr (aq).lt (qbp _))) F;have dp:=eu.has da;have dq:=qx dp (Nat.ne_of_gt (qbr (ah.has aq).lt (qbp _))) F;have dr:=eu.has dd;have dt:=qx dr (Nat.ne_of_gt (qbr (e5.has aq).lt (qbp _))) F;have hg:=(((((K.trans ac).trans ae).updr (qbq ((K.trans ac)).size (qbp _)) af).updr (qbp _) ag).trans I);have du:=hg.has er;have dv:=qx du (Nat.ne_of_gt (qbr (ad).lt (qbp _))) F;have dw:=qx (I.has dh) (Nat.ne_of_gt (qbr (C.has ad).lt (qbp _))) F;have dx:=qx (I.has di) (Nat.ne_of_gt (qbr (e7.has ad).lt (qbp _))) F;refine qz (qbf cb 0 rfl rfl) (qz (qbf cb 1 rfl qcm) (qz (qbf cb 2 rfl qcm) ?_));have cg:=((((((((g9.trans y).trans Y).updr (qbq ((g9.trans y)).size (qbp _)) Z).trans A).trans ai).trans ah).trans U).trans aa);have ey:=((((((g9.trans y).trans Y).updr (qbq ((g9.trans y)).size (qbp _)) Z).trans A).trans ai).trans ah);have hh:=((((((cg.trans V).updr (qbq (cg).size (qbp _)) X).updr (qbq (ey).size (qbp _)) Q).trans C).trans K).trans ac);have hj:=((((cg.trans V).updr (qbq (cg).size (qbp _)) X).updr (qbq (ey).size (qbp _)) Q).trans C);have hk:=((((g9.trans y).trans Y).updr (qbq ((g9.trans y)).size (qbp _)) Z).trans A);have hl:=(((((((((((((((((((g9.trans y).trans Y).updr (qbq ((g9.trans y)).size (qbp _)) Z).trans A).trans ai).trans ah).trans U).trans aa).trans V).updr (qbq (cg).size (qbp _)) X).updr (qbq (ey).size (qbp _)) Q).trans C).trans K).trans ac).trans ae).updr (qbq (hh).size (qbp _)) af).updr (qbq (hj).size (qbp _)) ag).trans I).updr (qbq (hk).size (qbp _)) F);have bj:=hl.has b8;refine qz (qbf bj 0 rfl qcn) (qz (qbf bj 1 rfl qcn) ?_);rw[kuw];refine Runs.newB λiu ez al=>?_;refine Runs.newB λiv dy aj=>?_;refine qbk (AH.has.rd0 ((al.trans aj).has cf) rfl qcn) ?_;refine qbk (qbf (aj.has ez) 0 rfl qcn) ?_;refine qbk (qbf (aj.has ez) 1 rfl qcn) ?_;obtain⟨_,iw,hm,ix,h3,rfl,hn,fa,am,fb,eb⟩:=ku0 a1 a4 a5;refine qbk hm ?_;refine qbk rfl ?_;refine qbk rfl ?_;refine Runs.ifTB rfl ?_;refine qbk (seenAt rfl rfl) ?_;refine qbk (seenAt rfl qcm) ?_;refine qbk (seenAt rfl qcm) ?_;refine qbk (seen qcn) ?_;refine Runs.newB λiy ho aw=>?_;refine Runs.putsB ho rfl λiz dz ax=>?_;refine qbk (qbf dz 0 rfl rfl) ?_;refine qbk (qbf dz 1 rfl qcm) ?_;refine qbk (qbf dz 2 rfl qcm) ?_;have hp:=((am.trans aw).updr (qbq (am).size (qbp _)) ax);have d0:=hp.has dy;refine Runs.putsB d0 rfl λi0 d1 ay=>?_;have bn:=(hn.grow (aw.updr (qbp _) ax)).upda (qbj fb (dy).lt) ay;have ba:=(fa.grow (aw.updr (qbp _) ax)).upda (qbj eb (dy).lt) ay;have d2:=qx dz (Nat.ne_of_gt (qbr (am.has dy).lt (qbp _))) ay;refine qbk (qbf d1 0 rfl rfl) ?_;refine qbk (qbf d1 1 rfl qcm) ?_;refine qbk (qbf d1 2 rfl qcm) ?_;refine Runs.retB ?_;refine qz rfl ?_;refine qbb rfl ?_;refine qz (seenAt rfl rfl) (qz (seenAt rfl qcm) (qz (seenAt rfl qcm) ?_));have hq:=((al.trans aj).trans am);have d3:=(((((al.trans aj).trans am).trans aw).updr (qbq (hq).size (qbp _)) ax).updr (qbq (al).size (qbp _)) ay);refine qbe (d3.same cb 0 3) ?_;have bp:=dl.grow d3;have bb:=ce.grow d3;obtain⟨i1,hr,e⟩:=qbu.1 e;obtain⟨_,i2,hs,ht,fc,rfl,hu,fd,ar,fe,ec⟩:=k8j bp bb bn ba (Option.some.inj hr);refine qz hs (qz rfl (qz rfl ?_));refine qbb rfl ?_;refine qz (seenAt rfl rfl) (qz (seenAt rfl qcm) (qz (seenAt rfl qcm) (qz (seen qcn) ?_)));have bc:=(((((((y.trans Y).updr (qbq (y).size (qbp _)) Z).trans A).trans ai).trans ah).trans U).trans aa);have bt:=(((((y.trans Y).updr (qbq (y).size (qbp _)) Z).trans A).trans ai).trans ah);have bd:=((((((bc.trans V).updr (qbq (bc).size (qbp _)) X).updr (qbq (bt).size (qbp _)) Q).trans C).trans K).trans ac);have bu:=((((bc.trans V).updr (qbq (bc).size (qbp _)) X).updr (qbq (bt).size (qbp _)) Q).trans C);have bv:=(((y.trans Y).updr (qbq (y).size (qbp _)) Z).trans A);have d4:=((((((((bd.trans ae).updr (qbq (bd).size (qbp _)) af).updr (qbq (bu).size (qbp _)) ag).trans I).updr (qbq (bv).size (qbp _)) F).trans al).trans aj).trans am);have d5:=((((((bd.trans ae).updr (qbq (bd).size (qbp _)) af).updr (qbq (bu).size (qbp _)) ag).trans I).updr (qbq (bv).size (qbp _)) F).trans al);have hv:=(((((((((((((((((((((((((y.trans Y).updr (qbq (y).size (qbp _)) Z).trans A).trans ai).trans ah).trans U).trans aa).trans V).updr (qbq (bc).size (qbp _)) X).updr (qbq (bt).size (qbp _)) Q).trans C).trans K).trans ac).trans ae).updr (qbq (bd).size (qbp _)) af).updr (qbq (bu).size (qbp _)) ag).trans I).updr (qbq (bv).size (qbp _)) F).trans al).trans aj).trans am).trans aw).updr (qbq (d4).size (qbp _)) ax).updr (qbq (d5).size (qbp _)) ay).trans ar);have e0:=hv.has b9;refine qba e0 rfl λi3 e1 H=>?_;have ff:=(bt.trans U);have ak:=(d3.trans ar);have ci:=dj.grow ak;have f0:=ci.upda (qbj ep (ff.has b9).lt) H;have bw:=cc.grow ak;have fg:=bw.upda (qbj b2 (ff.has b9).lt) H;have ed:=(bu.trans K);have cj:=dk.grow ak;have f1:=cj.upda (qbj et (ed.has b9).lt) H;have bx:=cd.grow ak;have fh:=bx.upda (qbj b5 (ed.has b9).lt) H;have cl:=(((bd.trans ae).updr (qbq (bd).size (qbp _)) af).updr (qbq (bu).size (qbp _)) ag);have f2:=(bp.grow ar).upda (qbj e9 (cl.has b9).lt) H;have fi:=(bb.grow ar).upda (qbj ea (cl.has b9).lt) H;have ee:=(d5.trans aj);have f3:=(bn.grow ar).upda (qbj fb (ee.has b9).lt) H;have fj:=(ba.grow ar).upda (qbj eb (ee.has b9).lt) H;have ef:=(((d4.trans aw).updr (qbq (d4).size (qbp _)) ax).updr (qbq (d5).size (qbp _)) ay);have d6:=hu.upda (qbj fe (ef.has b9).lt) H;have cm:=fd.upda (qbj ec (ef.has b9).lt) H;have d7:=ak.has cf;have hw:=qx d7 (Nat.ne_of_lt (qbr ((g7.trans g8).has b6).lt (qbp _))) H;have d8:=ak.has ex;have hx:=qx d8 (Nat.ne_of_lt (qbr (g8.has b7).lt (qbp _))) H;have d9:=ak.has bj;have hy:=qx d9 (Nat.ne_of_lt (qbr (b8).lt (qbp _))) H;have be:=(eo.trans aa);have bf:=((((((be.trans V).updr (qbq (be).size (qbp _)) X).updr (qbq (dc).size (qbp _)) Q).trans C).trans K).trans ac);have cp:=((((be.trans V).updr (qbq (be).size (qbp _)) X).updr (qbq (dc).size (qbp _)) Q).trans C);have fk:=((((((((bf.trans ae).updr (qbq (bf).size (qbp _)) af).updr (qbq (cp).size (qbp _)) ag).trans I).updr (qbq (A).size (qbp _)) F).trans al).trans aj).trans am);have fl:=((((((bf.trans ae).updr (qbq (bf).size (qbp _)) af).updr (qbq (cp).size (qbp _)) ag).trans I).updr (qbq (A).size (qbp _)) F).trans al);have fm:=(((((((((((((((((((eo.trans aa).trans V).updr (qbq (be).size (qbp _)) X).updr (qbq (dc).size (qbp _)) Q).trans C).trans K).trans ac).trans ae).updr (qbq (bf).size (qbp _)) af).updr (qbq (cp).size (qbp _)) ag).trans I).updr (qbq (A).size (qbp _)) F).trans al).trans aj).trans am).trans aw).updr (qbq (fk).size (qbp _)) ax).updr (qbq (fl).size (qbp _)) ay).trans ar);have cu:=fm.has bq;have f4:=qx cu (Nat.ne_of_gt (qbr (y.has b9).lt (qbp _))) H;have cv:=ak.has cb;have f5:=qx cv (Nat.ne_of_gt (qbr (bv.has b9).lt (qbp _))) H;have cw:=ak.has dn;have fo:=(bv.trans ai);have f6:=qx cw (Nat.ne_of_gt (qbr (fo.has b9).lt (qbp _))) H;have cx:=ak.has dq;have f7:=qx cx (Nat.ne_of_gt (qbr (bt.has b9).lt (qbp _))) H;have cy:=ak.has dt;have f8:=qx cy (Nat.ne_of_gt (qbr (bc.has b9).lt (qbp _))) H;have cz:=ak.has dv;have fq:=(((bc.trans V).updr (qbq (bc).size (qbp _)) X).updr (qbq (bt).size (qbp _)) Q);have f9:=qx cz (Nat.ne_of_gt (qbr (fq.has b9).lt (qbp _))) H;have c0:=ak.has dw;have ga:=qx c0 (Nat.ne_of_gt (qbr (bu.has b9).lt (qbp _))) H;have c1:=ak.has dx;have gb:=qx c1 (Nat.ne_of_gt (qbr (bd.has b9).lt (qbp _))) H;have fs:=(((((aj.trans am).trans aw).updr (qbq ((aj.trans am)).size (qbp _)) ax).updr (qbp _) ay).trans ar);have c2:=fs.has ez;have ft:=((cl.trans I).updr (qbq (bv).size (qbp _)) F);have gc:=qx c2 (Nat.ne_of_gt (qbr (ft.has b9).lt (qbp _))) H;have gd:=qx (ar.has d1) (Nat.ne_of_gt (qbr (d5.has b9).lt (qbp _))) H;have gf:=qx (ar.has d2) (Nat.ne_of_gt (qbr (d4.has b9).lt (qbp _))) H;refine qz (qbf e1 0 rfl rfl) (qz (qbf e1 1 rfl qcm) (qz (qbf e1 2 rfl qcm) ?_));cases e;cases bz;have au:=((((g6.trans g7).trans g8).trans g9).trans y);have bg:=(((((((au.trans Y).updr (qbq (au).size (qbp _)) Z).trans A).trans ai).trans ah).trans U).trans aa);have c3:=(((((au.trans Y).updr (qbq (au).size (qbp _)) Z).trans A).trans ai).trans ah);have bh:=((((((bg.trans V).updr (qbq (bg).size (qbp _)) X).updr (qbq (c3).size (qbp _)) Q).trans C).trans K).trans ac);have c4:=((((bg.trans V).updr (qbq (bg).size (qbp _)) X).updr (qbq (c3).size (qbp _)) Q).trans C);have c5:=(((au.trans Y).updr (qbq (au).size (qbp _)) Z).trans A);have fu:=((((((((bh.trans ae).updr (qbq (bh).size (qbp _)) af).updr (qbq (c4).size (qbp _)) ag).trans I).updr (qbq (c5).size (qbp _)) F).trans al).trans aj).trans am);have fv:=((((((bh.trans ae).updr (qbq (bh).size (qbp _)) af).updr (qbq (c4).size (qbp _)) ag).trans I).updr (qbq (c5).size (qbp _)) F).trans al);have c6:=((((((((((((((((((((((((((((g6.trans g7).trans g8).trans g9).trans y).trans Y).updr (qbq (au).size (qbp _)) Z).trans A).trans ai).trans ah).trans U).trans aa).trans V).updr (qbq (bg).size (qbp _)) X).updr (qbq (c3).size (qbp _)) Q).trans C).trans K).trans ac).trans ae).updr (qbq (bh).size (qbp _)) af).updr (qbq (c4).size (qbp _)) ag).trans I).updr (qbq (c5).size (qbp _)) F).trans al).trans aj).trans am).trans aw).updr (qbq (fu).size (qbp _)) ax).updr (qbq (fv).size (qbp _)) ay);have fw:=((g6.trans g7).trans g8);have fx:=((c6.trans ar).updr (qbq (fw).size (qbp _)) H);exact qy ⟨ht,fc,rfl,d6,cm,fx,(fe.of_le c6),(ec.of_le c6)⟩
theorem kbjh{s:kki}{r:ki1}(A:Iter k1i s r):kro r s:=qbg (λs o e y=>by
 cases s with
 | fn a1 a2 a3 a4 a5=>exact @k6x _ _ a1 a2 a3 a4 a5 e y
 | no=>exact True.intro
 ) A
inductive kj6
 | fn (a1:Int) (a2:Int) (a3:Int) (a4:Int) (a5:Int)
 | no
abbrev kiy:=Bool×List Nat×List Nat×Int
noncomputable def kl8(a1 a2 a3 a4 a5:Int):Option (kj6⊕kiy) :=
 cond (!((kba a2 a3 a4 a5).2.2)) (some (.inr (false,[],[],1))) (cond (decide (a1<1)) (some (.inr (false,[],[],1))) (cond (decide (a1>1048576)) (some (.inr (false,[],[],1))) ((some (kb2 (((scoreF a1 a2 a3).1)) ((scoreF a1 a2 a3).2.1) ((scoreF a1 a2 a3).2.2.1) (((scoreF a1 (((kba a2 a3 a4 a5).1)) (((kba a2 a3 a4 a5).2.1))).1)) ((scoreF a1 (((kba a2 a3 a4 a5).1)) (((kba a2 a3 a4 a5).2.1))).2.1) ((scoreF a1 (((kba a2 a3 a4 a5).1)) (((kba a2 a3 a4 a5).2.1))).2.2.1))).bind λA=>(some (kcw ((A.1)) A.2.1 A.2.2.1 (((scoreF a1 a4 a5).1)) ((scoreF a1 a4 a5).2.1) ((scoreF a1 a4 a5).2.2.1))).bind λy=>some (.inr (((y.1)),y.2.1,y.2.2.1,(y.2.2.2))))))
noncomputable def kyb:kj6->Option (kj6⊕kiy)
 | .fn a1 a2 a3 a4 a5=>kl8 a1 a2 a3 a4 a5
 | .no=>none
@[reducible] def k3d(h0:AH)(r:kiy)(v:AV)(h':AH):Prop:=∃s1:Sl,∃s2:Sl,v=.tup [.agg [.bool r.1,s1.v,s2.v],.i r.2.2.2]/\Nats h' s1 r.2.1/\Nats h' s2 r.2.2.1/\Grow h0 h'/\Own h0 s1/\Own h0 s2
def ktu(r:kiy):kj6->Prop
 | .fn a1 a2 a3 a4 a5=>∀{h:AH},Runs (go (.fn kpq [.i a1,.agg [.i a2,.i a3],.agg [.i a4,.i a5]]) h) (k3d h r)
 | .no=>True
theorem k7y{r:kiy}{o:kj6⊕kiy}{a1 a2 a3 a4 a5:Int}(e:kl8 a1 a2 a3 a4 a5=some o)(ap:GoodS (ktu r) r o):ktu r (.fn a1 a2 a3 a4 a5):=by
 intro h;rw[kbhn];unfold kl8 at e;refine q0 λH6 b6 g6=>?_;refine q0 λH7 b7 g7=>?_;refine q0 λH8 b8 g8=>?_;refine qz (qbf ((g7.trans g8).has b6) 0 rfl qcn) (qz (qbf ((g7.trans g8).has b6) 1 rfl qcn) (qz (qbf (g8.has b7) 0 rfl qcn) (qz (qbf (g8.has b7) 1 rfl qcn) ?_)));obtain⟨_,H9,e9,rfl,A⟩:=k2w a2 a3 a4 a5;refine qz e9 (qz rfl (qz rfl ?_));refine qbb rfl ?_;refine qz (seenAt rfl qcn) (qz (seenAt rfl qcn) (qz (seen rfl) ?_));refine q0 λfg d3 C=>?_;refine qba d3 rfl λfh be F=>?_;refine qbd (λbt=>?_) (λbt=>?_)
 ·replace e:=(condT bt).symm.trans e;have d4:=((A.trans C).updr (qbq (A).size (qbp _)) F);have bu:=d4.has b8;refine qba bu rfl λfi bv cx=>?_;have dq:=qx be (Nat.ne_of_gt (qbr (A.has b8).lt (qbp _))) cx;refine qz (qbf bv 0 rfl rfl) (qz (qbf bv 1 rfl qcm) (qz (qbf bv 2 rfl qcm) ?_));cases e;cases ap;have a0:=(((g6.trans g7).trans g8).trans A);have bw:=((((((g6.trans g7).trans g8).trans A).trans C).updr (qbq (a0).size (qbp _)) F).updr (qbq ((g6.trans g7)).size (qbp _)) cx);exact qy ⟨(⟨none,0,.is 0⟩:Sl),(⟨none,0,.is 0⟩:Sl),rfl,(qw _),(qw _),bw,(qu _),(qu _)⟩
 ·replace e:=(condF bt).symm.trans e;refine qbd (λbx=>?_) (λbx=>?_)
  ·replace e:=(condT bx).symm.trans e;have bz:=((A.trans C).updr (qbq (A).size (qbp _)) F);have b0:=bz.has b8;refine qba b0 rfl λfj b1 cy=>?_;have dr:=qx be (Nat.ne_of_gt (qbr (A.has b8).lt (qbp _))) cy;refine qz (qbf b1 0 rfl rfl) (qz (qbf b1 1 rfl qcm) (qz (qbf b1 2 rfl qcm) ?_));cases e;cases ap;have bw:=(((g6.trans g7).trans g8).trans A);have b2:=((((((g6.trans g7).trans g8).trans A).trans C).updr (qbq (bw).size (qbp _)) F).updr (qbq ((g6.trans g7)).size (qbp _)) cy);exact qy ⟨(⟨none,0,.is 0⟩:Sl),(⟨none,0,.is 0⟩:Sl),rfl,(qw _),(qw _),b2,(qu _),(qu _)⟩
  ·replace e:=(condF bx).symm.trans e;refine qbd (λb3=>?_) (λb3=>?_)
   ·replace e:=(condT b3).symm.trans e;have a0:=((A.trans C).updr (qbq (A).size (qbp _)) F);have b4:=a0.has b8;refine qba b4 rfl λfk b5 cz=>?_;have dt:=qx be (Nat.ne_of_gt (qbr (A.has b8).lt (qbp _))) cz;refine qz (qbf b5 0 rfl rfl) (qz (qbf b5 1 rfl qcm) (qz (qbf b5 2 rfl qcm) ?_));cases e;cases ap;have b2:=(((g6.trans g7).trans g8).trans A);have d5:=((((((g6.trans g7).trans g8).trans A).trans C).updr (qbq (b2).size (qbp _)) F).updr (qbq ((g6.trans g7)).size (qbp _)) cz);exact qy ⟨(⟨none,0,.is 0⟩:Sl),(⟨none,0,.is 0⟩:Sl),rfl,(qw _),(qw _),d5,(qu _),(qu _)⟩
   ·replace e:=(condF b3).symm.trans e;have bz:=((g7.trans g8).trans A);have a0:=((((g7.trans g8).trans A).trans C).updr (qbq (bz).size (qbp _)) F);have am:=a0.has b6;refine qz (qbf am 0 rfl qcn) (qz (qbf am 1 rfl qcn) ?_);obtain⟨_,fl,d6,fm,fc,rfl,d7,c0,ai,d8,c1⟩:=ktz a1 a2 a3;refine qz d6 (qz rfl (qz rfl ?_));refine qbb rfl ?_;refine qz (seenAt rfl rfl) (qz (seenAt rfl qcm) (qz (seenAt rfl qcm) (qz (seen qcn) ?_)));refine q0 λfo d9 af=>?_;refine qba d9 rfl λfq ea ag=>?_;have b9:=((ai.trans af).updr (qbq (ai).size (qbp _)) ag);have ah:=b9.has be;refine qz (qbf ah 0 rfl qcn) (qz (qbf ah 1 rfl qcn) ?_);obtain⟨_,fs,eb,ft,fd,rfl,ec,c2,H,ed,c3⟩:=ktz a1 (((kba a2 a3 a4 a5).1)) (((kba a2 a3 a4 a5).2.1));refine qz eb (qz rfl (qz rfl ?_));refine qbb rfl ?_;refine qz (seenAt rfl rfl) (qz (seenAt rfl qcm) (qz (seenAt rfl qcm) (qz (seen qcn) ?_)));refine q0 λfu ee I=>?_;refine qba ee rfl λfv ef K=>?_;have ca:=((((g8.trans A).trans C).updr (qbq ((g8.trans A)).size (qbp _)) F).trans ai);have eg:=(((ca.trans af).updr (qbq (ca).size (qbp _)) ag).trans H);have eh:=(((((((((g8.trans A).trans C).updr (qbq ((g8.trans A)).size (qbp _)) F).trans ai).trans af).updr (qbq (ca).size (qbp _)) ag).trans H).trans I).updr (qbq (eg).size (qbp _)) K);have an:=eh.has b7;refine qz (qbf an 0 rfl qcn) (qz (qbf an 1 rfl qcn) ?_);obtain⟨_,fw,ei,fx,fe,rfl,ej,c4,Q,ek,c5⟩:=ktz a1 a4 a5;refine qz ei (qz rfl (qz rfl ?_));refine qbb rfl ?_;refine qz (seenAt rfl rfl) (qz (seenAt rfl qcm) (qz (seenAt rfl qcm) (qz (seen qcn) ?_)));refine q0 λfy el V=>?_;refine qba el rfl λfz em X=>?_;have en:=(((H.trans I).updr (qbq (H).size (qbp _)) K).trans Q);have cb:=(((((H.trans I).updr (qbq (H).size (qbp _)) K).trans Q).trans V).updr (qbq (en).size (qbp _)) X);have Y:=cb.has ea;refine qz (qbf Y 0 rfl rfl) (qz (qbf Y 1 rfl qcm) (qz (qbf Y 2 rfl qcm) ?_));have cc:=((Q.trans V).updr (qbq (Q).size (qbp _)) X);have Z:=cc.has ef;refine qz (qbf Z 0 rfl rfl) (qz (qbf Z 1 rfl qcm) (qz (qbf Z 2 rfl qcm) ?_));have cd:=((af.updr (qbp _) ag).trans H);have eo:=(((cd.trans I).updr (qbq (cd).size (qbp _)) K).trans Q);have c6:=(((((((af.updr (qbp _) ag).trans H).trans I).updr (qbq (cd).size (qbp _)) K).trans Q).trans V).updr (qbq (eo).size (qbp _)) X);have aq:=d7.grow c6;have aj:=c0.grow c6;have ep:=((I.updr (qbp _) K).trans Q);have c7:=((((I.updr (qbp _) K).trans Q).trans V).updr (qbq (ep).size (qbp _)) X);have ar:=ec.grow c7;have ak:=c2.grow c7;obtain⟨f0,eq,e⟩:=qbu.1 e;obtain⟨_,f1,er,f2,ff,rfl,c8,bq,U,et,c9⟩:=k6b aq aj ar ak (Option.some.inj eq);refine qz er (qz rfl (qz rfl ?_));refine qbb rfl ?_;refine qz (seenAt rfl rfl) (qz (seenAt rfl qcm) (qz (seenAt rfl qcm) (qz (seen qcn) ?_)));refine q0 λf3 eu ac=>?_;refine qba eu rfl λf4 bf ad=>?_;refine qz (qbf bf 0 rfl rfl) (qz (qbf bf 1 rfl qcm) (qz (qbf bf 2 rfl qcm) ?_));have da:=((U.trans ac).updr (qbq (U).size (qbp _)) ad);have aa:=da.has em;refine qz (qbf aa 0 rfl rfl) (qz (qbf aa 1 rfl qcm) (qz (qbf aa 2 rfl qcm) ?_));have ev:=((V.updr (qbp _) X).trans U);have db:=((((V.updr (qbp _) X).trans U).trans ac).updr (qbq (ev).size (qbp _)) ad);have au:=ej.grow db;have al:=c4.grow db;obtain⟨f5,ew,e⟩:=qbu.1 e;obtain⟨_,f6,ex,ey,dc,rfl,ez,dd,ae,de,br⟩:=kbh5 (c8.grow (ac.updr (qbp _) ad)) (bq.grow (ac.updr (qbp _) ad)) au al (Option.some.inj ew);refine qz ex (qz rfl (qz rfl ?_));refine qbb rfl ?_;refine qz (seenAt rfl rfl) (qz (seenAt rfl qcm) (qz (seenAt rfl qcm) (qz (seen qcn) ?_)));have aw:=(((A.trans C).updr (qbq (A).size (qbp _)) F).trans ai);have ax:=(((aw.trans af).updr (qbq (aw).size (qbp _)) ag).trans H);have ay:=(((ax.trans I).updr (qbq (ax).size (qbp _)) K).trans Q);have bg:=(((ay.trans V).updr (qbq (ay).size (qbp _)) X).trans U);have e0:=(((((((((((((((A.trans C).updr (qbq (A).size (qbp _)) F).trans ai).trans af).updr (qbq (aw).size (qbp _)) ag).trans H).trans I).updr (qbq (ax).size (qbp _)) K).trans Q).trans V).updr (qbq (ay).size (qbp _)) X).trans U).trans ac).updr (qbq (bg).size (qbp _)) ad).trans ae);have ce:=e0.has b8;refine qba ce rfl λf7 cf y=>?_;have df:=((A.trans C).updr (qbq (A).size (qbp _)) F);have az:=(da.trans ae);have bh:=aq.grow az;have du:=bh.upda (qbj d8 (df.has b8).lt) y;have ba:=aj.grow az;have dg:=ba.upda (qbj c1 (df.has b8).lt) y;have dh:=((aw.trans af).updr (qbq (aw).size (qbp _)) ag);have bi:=ar.grow az;have dv:=bi.upda (qbj ed (dh.has b8).lt) y;have bb:=ak.grow az;have di:=bb.upda (qbj c3 (dh.has b8).lt) y;have dj:=((ax.trans I).updr (qbq (ax).size (qbp _)) K);have dw:=(au.grow ae).upda (qbj ek (dj.has b8).lt) y;have dk:=(al.grow ae).upda (qbj c5 (dj.has b8).lt) y;have dl:=((ay.trans V).updr (qbq (ay).size (qbp _)) X);have dm:=((ac.updr (qbp _) ad).trans ae);have bj:=c8.grow dm;have dx:=bj.upda (qbj et (dl.has b8).lt) y;have bc:=bq.grow dm;have dn:=bc.upda (qbj c9 (dl.has b8).lt) y;have dp:=((bg.trans ac).updr (qbq (bg).size (qbp _)) ad);have bk:=ez.upda (qbj de (dp.has b8).lt) y;have bd:=dd.upda (qbj br (dp.has b8).lt) y;have cg:=(b9.trans H);have ci:=(((cg.trans I).updr (qbq (cg).size (qbp _)) K).trans Q);have e1:=(((ci.trans V).updr (qbq (ci).size (qbp _)) X).trans U);have e2:=((((((((((b9.trans H).trans I).updr (qbq (cg).size (qbp _)) K).trans Q).trans V).updr (qbq (ci).size (qbp _)) X).trans U).trans ac).updr (qbq (e1).size (qbp _)) ad).trans ae);have cj:=e2.has am;have e3:=qx cj (Nat.ne_of_lt (qbr (g7.has b6).lt (qbp _))) y;have e4:=(cc.trans U);have e5:=((((cc.trans U).trans ac).updr (qbq (e4).size (qbp _)) ad).trans ae);have cl:=e5.has an;have e6:=qx cl (Nat.ne_of_lt (qbr (b7).lt (qbp _))) y;have e7:=(cb.trans U);have e8:=((((cb.trans U).trans ac).updr (qbq (e7).size (qbp _)) ad).trans ae);have bm:=e8.has ah;have dy:=qx bm (Nat.ne_of_gt (qbr (A.has b8).lt (qbp _))) y;have bn:=az.has Y;have dz:=qx bn (Nat.ne_of_gt (qbr (aw.has b8).lt (qbp _))) y;have bp:=az.has Z;have d0:=qx bp (Nat.ne_of_gt (qbr (ax.has b8).lt (qbp _))) y;have d1:=qx (ae.has aa) (Nat.ne_of_gt (qbr (ay.has b8).lt (qbp _))) y;have d2:=qx (ae.has bf) (Nat.ne_of_gt (qbr (bg.has b8).lt (qbp _))) y;refine qz (qbf cf 0 rfl rfl) (qz (qbf cf 1 rfl qcm) (qz (qbf cf 2 rfl qcm) ?_));cases e;cases ap;have cm:=(((g6.trans g7).trans g8).trans A);have cp:=(((cm.trans C).updr (qbq (cm).size (qbp _)) F).trans ai);have cu:=(((cp.trans af).updr (qbq (cp).size (qbp _)) ag).trans H);have cv:=(((cu.trans I).updr (qbq (cu).size (qbp _)) K).trans Q);have fa:=(((cv.trans V).updr (qbq (cv).size (qbp _)) X).trans U);have cw:=(((((((((((((((((g6.trans g7).trans g8).trans A).trans C).updr (qbq (cm).size (qbp _)) F).trans ai).trans af).updr (qbq (cp).size (qbp _)) ag).trans H).trans I).updr (qbq (cu).size (qbp _)) K).trans Q).trans V).updr (qbq (cv).size (qbp _)) X).trans U).trans ac).updr (qbq (fa).size (qbp _)) ad);have fb:=((cw.trans ae).updr (qbq ((g6.trans g7)).size (qbp _)) y);exact qy ⟨ey,dc,rfl,bk,bd,fb,(de.of_le cw),(br.of_le cw)⟩
theorem kbim{s:kj6}{r:kiy}(A:Iter kyb s r):ktu r s:=qbg (λs o e y=>by
 cases s with
 | fn a1 a2 a3 a4 a5=>exact @k7y _ _ a1 a2 a3 a4 a5 e y
 | no=>exact True.intro
 ) A
abbrev Frc:=Bool×List Nat×List Nat×Int
theorem eta4(x:Frc):(x.1,x.2.1,x.2.2.1,x.2.2.2)=x:=rfl
def addQ(a b:Frc):Frc:=kc4 a.1 a.2.1 a.2.2.1 b.1 b.2.1 b.2.2.1
def subQ(a b:Frc):Frc:=kdh a.1 a.2.1 a.2.2.1 b.1 b.2.1 b.2.2.1
def gainF(l g n G N:Int):Frc :=
 cond (!(kba g n G N).2.2) (false,[],[],1) (cond (!kbk l) (false,[],[],1) (subQ (addQ (scoreF l g n) (scoreF l (kba g n G N).1 (kba g n G N).2.1)) (scoreF l G N)))
def Frc.Lt(a:Frc):Prop:=(∀x∈a.2.1,x<B)/\∀x∈a.2.2.1,x<B
theorem k1x(z:Int)(d:Nat):Frc.Lt (fracM z d):=by
 unfold fracM Frc.Lt;split
 ·exact⟨kbu B2 _,kbu B2 _⟩
 ·exact⟨by simp,by simp⟩
theorem no_lt(n:Int):Frc.Lt (false,[],[],n):=⟨by simp,by simp⟩
theorem kkz(l g n:Int):Frc.Lt (scoreF l g n):=by
 unfold scoreF;split
 ·exact k1x _ _
 ·exact no_lt _
theorem k1c{a b:Frc}(y:a.Lt)(A:b.Lt):(addQ a b).Lt:=by
 unfold addQ;cases h:(kbb a.1 a.2.1 a.2.2.1&&kbb b.1 b.2.1 b.2.2.1)with
 | false=>rw[Add_no h];exact no_lt _
 | true =>
  obtain⟨z,d,w,e,f,k⟩:=k7a y.1 y.2 A.1 A.2 h;rw[Add_of f k];exact k1x _ _
theorem kblj(l g n G N:Int):Iter k1i (.fn l g n G N) (gainF l g n G N):=.done (by
 show kl7 _ _ _ _ _=_;unfold kl7 gainF;cases(kba g n G N).2.2 with
 | false=>rfl
 | true =>
  cases kbk l with
  | false=>rfl
  | true =>
   simp only[Bool.not_true,cond_false];unfold subQ addQ;exact congrArg (λr=>some (Sum.inr r)) (eta4 _))
theorem kbkc(l g n G N:Int):Iter kyb (.fn l g n G N) (gainF l g n G N):=.done (by
 show kl8 _ _ _ _ _=_;unfold kl8 gainF;have e:=kbfn (p:=(addQ (scoreF l g n) (scoreF l (kba g n G N).1 (kba g n G N).2.1)).1) (q:=(scoreF l G N).1) (k1c (kkz l g n) (kkz l (kba g n G N).1 (kba g n G N).2.1)).1 (k1c (kkz l g n) (kkz l (kba g n G N).1 (kba g n G N).2.1)).2 (kkz l G N).1 (kkz l G N).2;unfold addQ at e;simp only[qbt];rw[k3g,e];cases(kba g n G N).2.2 with
 | false=>rfl
 | true =>
  cases y:kbk l with
  | false =>
   have y:¬(1<=l/\l<=1048576):=λe=>by rw[kkm.2 e]at y;cases y
   simp only[Bool.not_true,cond_false];refine kga (λ_=>rfl) λA=>?_;rw[qbv]at A;rw[condT (by rw[qbw];omega)];rfl
  | true =>
   obtain⟨b1,b2⟩:=kkm.1 y;rw[qby (by omega:¬l<1),qby (by omega:¬l>1048576)];simp only[Bool.not_true,cond_false];unfold subQ addQ;exact congrArg (λr=>some (Sum.inr r)) (eta4 _))
theorem k63{h:AH}(l g n G N:Int):Runs (go (.fn kq9 [.i l,.agg [.i g,.i n],.agg [.i G,.i N]]) h) (k0g h (gainF l g n G N)):=kbjh (kblj l g n G N)
theorem k5r{h:AH}(l g n G N:Int):Runs (go (.fn kpq [.i l,.agg [.i g,.i n],.agg [.i G,.i N]]) h) (k3d h (gainF l g n G N)):=kbim (kbkc l g n G N)
theorem ks8{z:Int}{d:Nat}(C:0<d)(F:z.natAbs<B^16)(y:d<B^16):∃(w:Int)(e:Nat),fracM z d=((intD w).1,(intD w).2,digs B e,0)/\IsFrac (fracM z d).1 (fracM z d).2.1 (fracM z d).2.2.1 w e/\w.natAbs<=z.natAbs/\e<=d:=by
 have h0:(fracM z d).2.2.2=0:=by
  unfold fracM;rw[if_pos ⟨qbs (Nat.div_le_self _ _) F,qbs (Nat.div_le_self _ _) y⟩]
 obtain⟨w,e,H,f,_,g,A,I,K⟩:=k9w C h0;refine⟨w,e,H,f,?_,?_⟩
 ·rw[I,Int.natAbs_mul,Int.natAbs_natCast];exact Nat.le_mul_of_pos_right _ A
 ·rw[K];exact Nat.le_mul_of_pos_left _ A
theorem k0r{g n G N:Int}(h:(kba g n G N).2.2=true):kbg g n=true/\kbg G N=true/\kbg (G-g) (N-n)=true/\kba g n G N=(G-g,N-n,true):=by
 unfold kba at h|-;cases h1:kbg g n with
 | false=>rw[h1]at h;cases h
 | true =>
  cases y:kbg G N with
  | false=>rw[h1,y]at h;cases h
  | true =>
   obtain⟨a1,a2,a3,a4⟩:=kl2.1 h1;obtain⟨b1,b2,b3,b4⟩:=kl2.1 y;rw[h1,y,wrap64 (by omega) (by omega),wrap64 (by omega) (by omega)]at h;have h:kbg (G-g) (N-n)=true:=h;rw[wrap64 (by omega) (by omega),wrap64 (by omega) (by omega),h];exact⟨rfl,rfl,rfl,rfl⟩
theorem kxv:1099511627776*1099511627776*2097152*8<B^16:=by decide +kernel
theorem krv{l g n:Int}(h1:kbg g n=true)(y:kbk l=true):∃(w:Int)(e:Nat),scoreF l g n=((intD w).1,(intD w).2,digs B e,0)/\IsFrac (scoreF l g n).1 (scoreF l g n).2.1 (scoreF l g n).2.2.1 w e/\w.natAbs<=1099511627776*1099511627776/\e<=2097152:=by
 obtain⟨a1,a2,a3,a4⟩:=kl2.1 h1;obtain⟨b1,b2⟩:=kkm.1 y;have C:=sq_lt a1 a2;have F:=kxv;unfold scoreF;rw[if_pos ⟨h1,y⟩];obtain⟨w,e,A,f,H,I⟩:=ks8 (z:=g*g) (d:=(n+l).toNat) (by omega) (by omega) (by omega);exact⟨w,e,A,f,by omega,by omega⟩
theorem kjg{a b c d:Nat}(h1:a<=c)(y:b<=d):a*b<=c*d:=Nat.mul_le_mul h1 y
theorem kbgn{l g n y A:Int}(h1:kbg g n=true)(H:kbg y A=true)(K:kbk l=true):∃(w:Int)(e:Nat),addQ (scoreF l g n) (scoreF l y A)=((intD w).1,(intD w).2,digs B e,0)/\IsFrac (addQ (scoreF l g n) (scoreF l y A)).1 (addQ (scoreF l g n) (scoreF l y A)).2.1 (addQ (scoreF l g n) (scoreF l y A)).2.2.1 w e/\w.natAbs<=1099511627776*1099511627776*2097152*2/\e<=2097152*2097152:=by
 obtain⟨w,e,_,f,V,Q⟩:=krv h1 K;obtain⟨w',C,_,U,I,F⟩:=krv H K;have Z:=kxv;unfold addQ;rw[Add_of f U];have p1:(w*(C:Int)).natAbs<=1099511627776*1099511627776*2097152:=by rw[Int.natAbs_mul,Int.natAbs_natCast];exact kjg V F
 have p2:(w'*(e:Int)).natAbs<=1099511627776*1099511627776*2097152:=by rw[Int.natAbs_mul,Int.natAbs_natCast];exact kjg I Q
 have p3:e*C<=2097152*2097152:=kjg Q F;have p4:0<e*C:=Nat.mul_pos f.pos U.pos;obtain⟨x,c,X,Y,m1,m2⟩:=ks8 (z:=w*(C:Int)+w'*(e:Int)) (d:=e*C) p4 (by omega) (by omega);exact⟨x,c,X,Y,by omega,by omega⟩
theorem kbix:1099511627776*1099511627776*2097152*2*2097152+1099511627776*1099511627776*(2097152*2097152)<B^16:=by decide +kernel
theorem k2z{l g n G N:Int}(h1:(kba g n G N).2.2=true)(F:kbk l=true):(gainF l g n G N).2.2.2=0:=by
 obtain⟨I,K,V,e⟩:=k0r h1;unfold gainF;rw[h1,F,e];obtain⟨w,c,_,f,X,Q⟩:=kbgn I V F;obtain⟨w',A,_,U,H,C⟩:=krv K F;have Z:=kbix;simp only[Bool.not_true,cond_false];unfold subQ;rw[Sub_of f U];have p1:(w*(A:Int)).natAbs<=1099511627776*1099511627776*2097152*2*2097152:=by rw[Int.natAbs_mul,Int.natAbs_natCast];exact kjg X C
 have p2:(w'*(c:Int)).natAbs<=1099511627776*1099511627776*(2097152*2097152):=by rw[Int.natAbs_mul,Int.natAbs_natCast];exact kjg H Q
 have p3:c*A<=2097152*2097152*2097152:=kjg Q C;have p4:0<c*A:=Nat.mul_pos f.pos U.pos;obtain⟨x,y,Y,fx,I,K⟩:=ks8 (z:=w*(A:Int)-w'*(c:Int)) (d:=c*A) p4 (by omega) (by omega);rw[Y]
theorem k45(l g n G N:Int):(gainF l g n G N).2.2.2=0\/(gainF l g n G N).2.2.2=1:=by
 cases h1:(kba g n G N).2.2 with
 | false=>right;unfold gainF;rw[h1];rfl
 | true =>
  cases y:kbk l with
  | false=>right;unfold gainF;rw[h1,y];rfl
  | true=>exact Or.inl (k2z h1 y)
theorem kbk1{l g n G N:Int}(h:(gainF l g n G N).2.2.2=0):(kba g n G N).2.2=true/\kbk l=true:=by
 unfold gainF at h;cases h1:(kba g n G N).2.2 with
 | false=>rw[h1]at h;cases h
 | true =>
  cases y:kbk l with
  | false=>rw[h1,y]at h;cases h
  | true=>exact⟨rfl,rfl⟩
theorem kbhx{m:Nat}(h:m<18446744073709551616):smallN (digs B m)=(m,true):=by
 have y:m<B^64:=by have:=kg2;omega
 unfold smallN
 have A:(digs B m).length<=1:=by
  rw[kbj B2,Nat.pow_one];exact h
 rw[if_pos ⟨kbp y,A⟩];by_cases h0:m=0
 ·subst h0;rw[kcc];rfl
 ·rw[ke2 B2 h0,Nat.mod_eq_of_lt h];rfl
theorem kzk{z:Int}(h1:-9223372036854775808<=z)(F:z<=9223372036854775807):smallI (intD z).1 (intD z).2=(z,true):=by
 have A:z.natAbs<18446744073709551616:=by omega
 have C:z.natAbs<B^64:=by have:=kg2;omega
 unfold smallI;have e:smallN (intD z).2=(z.natAbs,true):=kbhx A;rw[e,kdc C];have s:(intD z).1=decide (z<0):=rfl;rw[s];by_cases y:z<0
 ·simp only[y,decide_true,if_true,true_and];rw[if_pos (by omega)];congr 1;omega
 ·simp only[y,decide_false,qcl,if_false,true_and];rw[if_pos (by omega)];congr 1;omega
theorem k1g(n a b:Int){h:AH}:go (.fn kdf [.i n,.i a,.i b]) h=some (.bool (decide (a<=n/\n<=b)),h):=kso n a b h
theorem kbhy(a1 a2 a3 a4 a5 a6 a7 a8:Int){h:AH}:∃h',go (.fn kj9 [.agg [.i a1,.i a2,.i a3,.i a4,.i a5,.i a6,.i a7,.i a8]]) h=some (.bool (Cfg.right ⟨a1,a2,a3,a4,a5,a6,a7,a8⟩),h')/\Grow h h':=kuk ⟨a1,a2,a3,a4,a5,a6,a7,a8⟩ h
theorem kbh7(a1 a2 a3 a4 a5 a6 a7 a8:Int){h:AH}:∃h',go (.fn kj3 [.agg [.i a1,.i a2,.i a3,.i a4,.i a5,.i a6,.i a7,.i a8]]) h=some (.bool (Cfg.right ⟨a1,a2,a3,a4,a5,a6,a7,a8⟩),h')/\Grow h h':=ks2 ⟨a1,a2,a3,a4,a5,a6,a7,a8⟩ h
end Go.Ab
set_option maxRecDepth 10000
namespace Go.Ab
open IntKind (wrap)
open Go.Proofs Go.Num
inductive kjb
 | fn (a1:Int) (a2:Int)
 | no
abbrev kgx:=Bool×List Nat
noncomputable def klh(a1 a2:Int):Option (kjb⊕kgx) :=
 (need (-9223372036854775808<=(a1:Int)/\(a1:Int)<=9223372036854775807)).bind λy=>(need (-9223372036854775808<=(a2:Int)/\(a2:Int)<=9223372036854775807)).bind λA=>some (.inr (((((kw ((ofI a1).1) ((ofI a1).2) ((ofI a2).1) ((ofI a2).2)).1))),(kw ((ofI a1).1) ((ofI a1).2) ((ofI a2).1) ((ofI a2).2)).2.1))
noncomputable def klg:kjb->Option (kjb⊕kgx)
 | .fn a1 a2=>klh a1 a2
 | .no=>none
@[reducible] def kwx(h0:AH)(r:kgx)(v:AV)(h':AH):Prop:=∃s1:Sl,v=.agg [.bool r.1,s1.v]/\Nats h' s1 r.2/\Grow h0 h'/\Own h0 s1
def ksc(r:kgx):kjb->Prop
 | .fn a1 a2=>∀{h:AH},Runs (go (.fn kmz [.i a1,.i a2]) h) (kwx h r)
 | .no=>True
theorem k91{r:kgx}{o:kjb⊕kgx}{a1 a2:Int}(e:klh a1 a2=some o)(F:GoodS (ksc r) r o):ksc r (.fn a1 a2):=by
 intro h;rw[kbeo];unfold klh at e;refine q0 λH3 b3 X=>?_;obtain⟨H,Z,e⟩:=qbu.1 e;obtain⟨s4,H4,e4,n4,C,o4⟩:=kox a1  H.down;refine qz e4 (qz rfl ?_);refine qbb rfl ?_;refine qz (seenAt rfl rfl) (qz (seenAt rfl qcm) ?_);obtain⟨I,aa,e⟩:=qbu.1 e;obtain⟨s5,H5,e5,n5,y,o5⟩:=kox a2  I.down;refine qz e5 (qz rfl ?_);refine qbb rfl ?_;refine qz (seenAt rfl rfl) (qz (seenAt rfl qcm) ?_);obtain⟨_,H6,e6,s6,rfl,n6,A,o6⟩:=ks7 (n4.grow y) n5 ((ofI a1).1) ((ofI a2).1);refine qz e6 (qz rfl (qz rfl ?_));refine qbb rfl ?_;refine qz (seenAt rfl rfl) (qz (seenAt rfl qcm) (qz (seen qcn) ?_));refine q0 λH7 b7 K=>?_;refine qba b7 rfl λH8 Y Q=>?_;refine qz (qbf Y 0 rfl rfl) (qz (qbf Y 1 rfl qcm) ?_);refine qba (((((C.trans y).trans A).trans K).updr (qbq (((C.trans y).trans A)).size (qbp _)) Q).has b3) rfl λH9 b9 U=>?_;have ac:=(n4.grow (((y.trans A).trans K).updr (qbq ((y.trans A)).size (qbp _)) Q)).upda (qbj o4 (b3).lt) U;have ad:=(n5.grow ((A.trans K).updr (qbq (A).size (qbp _)) Q)).upda (qbj o5 (C.has b3).lt) U;have V:=(n6.grow (K.updr (qbp _) Q)).upda (qbj o6 ((C.trans y).has b3).lt) U;have ae:=qx Y (Nat.ne_of_gt (qbr (((C.trans y).trans A).has b3).lt (qbp _))) U;refine qz (qbf b9 0 rfl rfl) (qz (qbf b9 1 rfl qcm) ?_);cases e;cases F;exact qy ⟨s6,rfl,V,((((((X.trans C).trans y).trans A).trans K).updr (qbq ((((X.trans C).trans y).trans A)).size (qbp _)) Q).updr (qbp _) U),(o6.of_le ((X.trans C).trans y))⟩
theorem k82{s:kjb}{r:kgx}(A:Iter klg s r):ksc r s:=qbg (λs o e y=>by
 cases s with
 | fn a1 a2=>exact @k91 _ _ a1 a2 e y
 | no=>exact True.intro
 ) A
theorem kvt{h:AH}  {a1 a2:Int}  {r:kgx}(q:runP klg (.fn a1 a2)=some r):Runs (go (.fn kmz [.i a1,.i a2]) h) (kwx h r):=k82 (krr q)
inductive kjr
 | fn (a1:Int) (a2:Int) (a3:Int) (a4:Int) (a5:Int) (a6:Int) (a7:Int) (a8:Int) (a9:Int) (a10:Int)
 | no
abbrev kho:=Int×Int
noncomputable def kl4(a1 a2 a3 a4 a5 a6 a7 a8 a9 a10:Int):Option (kjr⊕kho) :=
 cond (!((Cfg.right ⟨a1,a2,a3,a4,a5,a6,a7,a8⟩))) (some (.inr (0,1))) (cond (!((decide ((-1099511627776)<=a9/\a9<=1099511627776)))) (some (.inr (0,1))) (cond (!((decide (0<=a10/\a10<=1048576)))) (some (.inr (0,1))) ((runP klg (.fn (wrap .i64 (0-a9)) a5)).bind λy=>(runP klg (.fn (wrap .i64 (a10+a3)) a6)).bind λA=>some (.inr (((smallI (((floorI (y.1) y.2 (A.1) A.2).1)) ((floorI (y.1) y.2 (A.1) A.2).2.1)).1),((floorI (y.1) y.2 (A.1) A.2).2.2.2.2))))))
noncomputable def k2p:kjr->Option (kjr⊕kho)
 | .fn a1 a2 a3 a4 a5 a6 a7 a8 a9 a10=>kl4 a1 a2 a3 a4 a5 a6 a7 a8 a9 a10
 | .no=>none
@[reducible] def k3v(h0:AH)(r:kho)(v:AV)(h':AH):Prop:=v=.tup [.i r.1,.i r.2]/\Grow h0 h'
def kul(r:kho):kjr->Prop
 | .fn a1 a2 a3 a4 a5 a6 a7 a8 a9 a10=>∀{h:AH},Runs (go (.fn klb [.agg [.i a1,.i a2,.i a3,.i a4,.i a5,.i a6,.i a7,.i a8],.agg [.i a9,.i a10]]) h) (k3v h r)
 | .no=>True
theorem kbjt{r:kho}{o:kjr⊕kho}{a1 a2 a3 a4 a5 a6 a7 a8 a9 a10:Int}(e:kl4 a1 a2 a3 a4 a5 a6 a7 a8 a9 a10=some o)(X:GoodS (kul r) r o):kul r (.fn a1 a2 a3 a4 a5 a6 a7 a8 a9 a10):=by
 intro h;rw[k8p];unfold kl4 at e;refine q0 λbp H Z=>?_;refine q0 λbq ad y=>?_;refine qz (qbf (y.has H) 0 rfl qcn) (qz (qbf (y.has H) 1 rfl qcn) (qz (qbf (y.has H) 2 rfl qcn) (qz (qbf (y.has H) 3 rfl qcn) (qz (qbf (y.has H) 4 rfl qcn) (qz (qbf (y.has H) 5 rfl qcn) (qz (qbf (y.has H) 6 rfl qcn) (qz (qbf (y.has H) 7 rfl qcn) ?_)))))));obtain⟨br,bc,F⟩:=kbhy a1 a2 a3 a4 a5 a6 a7 a8;refine qz bc (qz (seen rfl) ?_);refine qbd (λal=>?_) (λal=>?_)
 ·replace e:=(condT al).symm.trans e;cases e;cases X;exact qy ⟨rfl,((Z.trans y).trans F)⟩
 ·replace e:=(condF al).symm.trans e;refine qz (qbf (F.has ad) 0 rfl qcn) (qz (k1g a9 (-1099511627776) 1099511627776) (qz (seen rfl) ?_));refine qbd (λam=>?_) (λam=>?_)
  ·replace e:=(condT am).symm.trans e;cases e;cases X;exact qy ⟨rfl,((Z.trans y).trans F)⟩
  ·replace e:=(condF am).symm.trans e;refine qz (qbf (F.has ad) 1 rfl qcn) (qz (k1g a10 0 1048576) (qz (seen rfl) ?_));refine qbd (λan=>?_) (λan=>?_)
   ·replace e:=(condT an).symm.trans e;cases e;cases X;exact qy ⟨rfl,((Z.trans y).trans F)⟩
   ·replace e:=(condF an).symm.trans e;refine q0 λbt K Q=>?_;refine q0 λbu U C=>?_;refine qz (qbf (((F.trans Q).trans C).has ad) 0 rfl qcn) (qz (qbf ((((y.trans F).trans Q).trans C).has H) 4 rfl qcn) (qz (qbf (((F.trans Q).trans C).has ad) 1 rfl qcn) (qz (qbf ((((y.trans F).trans Q).trans C).has H) 2 rfl qcn) (qz (qbf ((((y.trans F).trans Q).trans C).has H) 5 rfl qcn) ?_))));obtain⟨ap,bd,e⟩:=qbu.1 e;obtain⟨_,bv,be,bw,rfl,ar,A,au⟩:=kvt bd;refine qz be (qz rfl ?_);refine qbb rfl ?_;refine qz (seenAt rfl rfl) (qz (seenAt rfl qcm) ?_);refine qbe (A.same ((((y.trans F).trans Q).trans C).has H) 5 1) ?_;refine qbe (A.same ((((y.trans F).trans Q).trans C).has H) 2 1) ?_;refine qbe (A.same (((F.trans Q).trans C).has ad) 1 1) ?_;refine qbe (A.same U 0 0) ?_;refine qbe (A.same (C.has K) 0 0) ?_;obtain⟨aq,bf,e⟩:=qbu.1 e;obtain⟨_,bx,bg,bz,rfl,aw,I,ax⟩:=kvt bf;refine qz bg (qz rfl ?_);refine qbb rfl ?_;refine qz (seenAt rfl rfl) (qz (seenAt rfl qcm) ?_);refine qbe (I.same (A.has U) 0 0) ?_;refine qbe (I.same ((C.trans A).has K) 0 0) ?_;obtain⟨_,b0,bh,b1,bn,rfl,bi,ay,V,az,ak⟩:=k4c (ar.grow I) aw (ap.1) (aq.1);refine qz bh (qz rfl (qz rfl ?_));refine qbb rfl ?_;refine qz (seenAt rfl rfl) (qz (seenAt rfl qcm) (qz rfl ?_));refine qbb rfl ?_;refine qz (seenAt rfl rfl) (qz (seenAt rfl qcm) (qz (seen qcn) ?_));refine qbe (V.same ((A.trans I).has U) 0 0) ?_;refine qbe (V.same (((C.trans A).trans I).has K) 0 0) ?_;refine qba ((((C.trans A).trans I).trans V).has K) rfl λb2 bj aa=>?_;have af:=(ar.grow (I.trans V)).upda (qbj au (C.has K).lt) aa;have ag:=(aw.grow V).upda (qbj ax ((C.trans A).has K).lt) aa;have ah:=bi.upda (qbj az (((C.trans A).trans I).has K).lt) aa;have ae:=ay.upda (qbj ak (((C.trans A).trans I).has K).lt) aa;have ai:=qx (((A.trans I).trans V).has U) (Nat.ne_of_gt (qbr (K).lt (qbp _))) aa;refine qba ai rfl λb3 b4 ac=>?_;have ba:=af.upda (qbj au (U).lt) ac;have bb:=ag.upda (qbj ax (A.has U).lt) ac;have aj:=ah.upda (qbj az ((A.trans I).has U).lt) ac;have a0:=ae.upda (qbj ak ((A.trans I).has U).lt) ac;have Y:=qx bj (Nat.ne_of_lt (qbr (K).lt (qbp _))) ac;refine qz (qbf Y 0 rfl rfl) (qz (qbf Y 1 rfl qcm) ?_);obtain⟨b5,bk,bm⟩:=k77 aj (((floorI (ap.1) ap.2 (aq.1) aq.2).1));refine qz bk (qz rfl (qz (seen qcn) (qz (seen rfl) ?_)));cases e;cases X;exact qy ⟨rfl,((((((((((Z.trans y).trans F).trans Q).trans C).trans A).trans I).trans V).updr (qbq (((Z.trans y).trans F)).size (qbp _)) aa).updr (qbq ((((Z.trans y).trans F).trans Q)).size (qbp _)) ac).trans bm)⟩
theorem kbhb{s:kjr}{r:kho}(A:Iter k2p s r):kul r s:=qbg (λs o e y=>by
 cases s with
 | fn a1 a2 a3 a4 a5 a6 a7 a8 a9 a10=>exact @kbjt _ _ a1 a2 a3 a4 a5 a6 a7 a8 a9 a10 e y
 | no=>exact True.intro
 ) A
inductive kjn
 | fn (a1:Int) (a2:Int) (a3:Int) (a4:Int) (a5:Int) (a6:Int) (a7:Int) (a8:Int) (a9:Int) (a10:Int)
 | no
abbrev kio:=Int×Int
noncomputable def kmc(a1 a2 a3 a4 a5 a6 a7 a8 a9 a10:Int):Option (kjn⊕kio) :=
 cond (!((Cfg.right ⟨a1,a2,a3,a4,a5,a6,a7,a8⟩))) (some (.inr (0,1))) (cond (!((kdo a9 a10))) (some (.inr (0,1))) ((need (-9223372036854775808<=((wrap .i64 (0-a9)):Int)/\((wrap .i64 (0-a9)):Int)<=9223372036854775807)).bind λy=>(need (-9223372036854775808<=(a5:Int)/\(a5:Int)<=9223372036854775807)).bind λA=>(need (-9223372036854775808<=((wrap .i64 (a10+a3)):Int)/\((wrap .i64 (a10+a3)):Int)<=9223372036854775807)).bind λC=>(need (-9223372036854775808<=(a6:Int)/\(a6:Int)<=9223372036854775807)).bind λF=>some (.inr (((smallI (((floorI (((kw ((ofI (wrap .i64 (0-a9))).1) ((ofI (wrap .i64 (0-a9))).2) ((ofI a5).1) ((ofI a5).2)).1)) ((kw ((ofI (wrap .i64 (0-a9))).1) ((ofI (wrap .i64 (0-a9))).2) ((ofI a5).1) ((ofI a5).2)).2.1) (((kw ((ofI (wrap .i64 (a10+a3))).1) ((ofI (wrap .i64 (a10+a3))).2) ((ofI a6).1) ((ofI a6).2)).1)) ((kw ((ofI (wrap .i64 (a10+a3))).1) ((ofI (wrap .i64 (a10+a3))).2) ((ofI a6).1) ((ofI a6).2)).2.1)).1)) ((floorI (((kw ((ofI (wrap .i64 (0-a9))).1) ((ofI (wrap .i64 (0-a9))).2) ((ofI a5).1) ((ofI a5).2)).1)) ((kw ((ofI (wrap .i64 (0-a9))).1) ((ofI (wrap .i64 (0-a9))).2) ((ofI a5).1) ((ofI a5).2)).2.1) (((kw ((ofI (wrap .i64 (a10+a3))).1) ((ofI (wrap .i64 (a10+a3))).2) ((ofI a6).1) ((ofI a6).2)).1)) ((kw ((ofI (wrap .i64 (a10+a3))).1) ((ofI (wrap .i64 (a10+a3))).2) ((ofI a6).1) ((ofI a6).2)).2.1)).2.1)).1),0))))
noncomputable def k1m:kjn->Option (kjn⊕kio)
 | .fn a1 a2 a3 a4 a5 a6 a7 a8 a9 a10=>kmc a1 a2 a3 a4 a5 a6 a7 a8 a9 a10
 | .no=>none
@[reducible] def kxn(h0:AH)(r:kio)(v:AV)(h':AH):Prop:=v=.tup [.i r.1,.i r.2]/\Grow h0 h'
def ku9(r:kio):kjn->Prop
 | .fn a1 a2 a3 a4 a5 a6 a7 a8 a9 a10=>∀{h:AH},Runs (go (.fn kmf [.agg [.i a1,.i a2,.i a3,.i a4,.i a5,.i a6,.i a7,.i a8],.agg [.i a9,.i a10]]) h) (kxn h r)
 | .no=>True
theorem kbb0{r:kio}{o:kjn⊕kio}{a1 a2 a3 a4 a5 a6 a7 a8 a9 a10:Int}(e:kmc a1 a2 a3 a4 a5 a6 a7 a8 a9 a10=some o)(ag:GoodS (ku9 r) r o):ku9 r (.fn a1 a2 a3 a4 a5 a6 a7 a8 a9 a10):=by
 intro h;rw[k67];unfold kmc at e;refine q0 λci Q I=>?_;refine q0 λcj ah y=>?_;refine qz (qbf (y.has Q) 0 rfl qcn) (qz (qbf (y.has Q) 1 rfl qcn) (qz (qbf (y.has Q) 2 rfl qcn) (qz (qbf (y.has Q) 3 rfl qcn) (qz (qbf (y.has Q) 4 rfl qcn) (qz (qbf (y.has Q) 5 rfl qcn) (qz (qbf (y.has Q) 6 rfl qcn) (qz (qbf (y.has Q) 7 rfl qcn) ?_)))))));obtain⟨cl,bk,A⟩:=kbh7 a1 a2 a3 a4 a5 a6 a7 a8;refine qz bk (qz (seen rfl) (qz (qbf (A.has ah) 0 rfl qcn) (qz (qbf (A.has ah) 1 rfl qcn) ?_)));obtain⟨_,cm,bm,rfl,C⟩:=k3j a9 a10;refine qz bm (qz (seen rfl) ?_);refine qbd (λam=>?_) (λam=>?_)
 ·replace e:=(condT am).symm.trans e;cases e;cases ag;exact qy ⟨rfl,(((I.trans y).trans A).trans C)⟩
 ·replace e:=(condF am).symm.trans e;refine qbd (λan=>?_) (λan=>?_)
  ·replace e:=(condT an).symm.trans e;cases e;cases ag;exact qy ⟨rfl,(((I.trans y).trans A).trans C)⟩
  ·replace e:=(condF an).symm.trans e;refine q0 λcp ad U=>?_;refine qz (qbf (((A.trans C).trans U).has ah) 0 rfl qcn) (qz (qbf ((((y.trans A).trans C).trans U).has Q) 4 rfl qcn) ?_);obtain⟨ap,bn,e⟩:=qbu.1 e;obtain⟨cu,cv,bp,ba,F,bq⟩:=khg (wrap .i64 (0-a9))  ap.down;refine qz bp (qz rfl ?_);refine qbb rfl ?_;refine qz (seenAt rfl rfl) (qz (seenAt rfl qcm) ?_);refine qbe (F.same ((((y.trans A).trans C).trans U).has Q) 4 1) ?_;refine qbe (F.same ad 0 0) ?_;obtain⟨aq,br,e⟩:=qbu.1 e;obtain⟨cw,cx,bt,bb,H,bu⟩:=khg a5  aq.down;refine qz bt (qz rfl ?_);refine qbb rfl ?_;refine qz (seenAt rfl rfl) (qz (seenAt rfl qcm) ?_);refine qbe (H.same (F.has ad) 0 0) ?_;obtain⟨_,cy,bv,cz,rfl,bw,K,bx⟩:=kpa (ba.grow H) bb ((ofI (wrap .i64 (0-a9))).1) ((ofI a5).1);refine qz bv (qz rfl (qz rfl ?_));refine qbb rfl ?_;refine qz (seenAt rfl rfl) (qz (seenAt rfl qcm) (qz (seen qcn) ?_));refine qbe (K.same ((F.trans H).has ad) 0 0) ?_;refine qba (((F.trans H).trans K).has ad) rfl λc0 bc V=>?_;have bg:=(ba.grow (H.trans K)).upda (qbj bq (ad).lt) V;have bh:=(bb.grow K).upda (qbj bu (F.has ad).lt) V;have ai:=bw.upda (qbj bx ((F.trans H).has ad).lt) V;refine q0 λc1 ae Z=>?_;refine qz (qbf ((((((((A.trans C).trans U).trans F).trans H).trans K).updr (qbq ((A.trans C)).size (qbp _)) V).trans Z).has ah) 1 rfl qcn) (qz (qbf (((((((((y.trans A).trans C).trans U).trans F).trans H).trans K).updr (qbq (((y.trans A).trans C)).size (qbp _)) V).trans Z).has Q) 2 rfl qcn) (qz (qbf (((((((((y.trans A).trans C).trans U).trans F).trans H).trans K).updr (qbq (((y.trans A).trans C)).size (qbp _)) V).trans Z).has Q) 5 rfl qcn) ?_));obtain⟨ar,bz,e⟩:=qbu.1 e;obtain⟨c2,c3,b0,bd,X,b1⟩:=khg (wrap .i64 (a10+a3))  ar.down;refine qz b0 (qz rfl ?_);refine qbb rfl ?_;refine qz (seenAt rfl rfl) (qz (seenAt rfl qcm) ?_);refine qbe (X.same (((((((((y.trans A).trans C).trans U).trans F).trans H).trans K).updr (qbq (((y.trans A).trans C)).size (qbp _)) V).trans Z).has Q) 5 1) ?_;refine qbe (X.same ae 0 0) ?_;obtain⟨au,b2,e⟩:=qbu.1 e;obtain⟨c4,c5,b3,be,Y,b4⟩:=khg a6  au.down;refine qz b3 (qz rfl ?_);refine qbb rfl ?_;refine qz (seenAt rfl rfl) (qz (seenAt rfl qcm) ?_);refine qbe (Y.same (X.has ae) 0 0) ?_;obtain⟨_,c6,b5,c7,rfl,b6,aa,b7⟩:=kpa (bd.grow Y) be ((ofI (wrap .i64 (a10+a3))).1) ((ofI a6).1);refine qz b5 (qz rfl (qz rfl ?_));refine qbb rfl ?_;refine qz (seenAt rfl rfl) (qz (seenAt rfl qcm) (qz (seen qcn) ?_));refine qbe (aa.same ((X.trans Y).has ae) 0 0) ?_;refine qba (((X.trans Y).trans aa).has ae) rfl λc8 bf ac=>?_;have bi:=(bd.grow (Y.trans aa)).upda (qbj b1 (ae).lt) ac;have bj:=(be.grow aa).upda (qbj b4 (X.has ae).lt) ac;have aj:=b6.upda (qbj b7 ((X.trans Y).has ae).lt) ac;refine qz (qbf (((((Z.trans X).trans Y).trans aa).updr (qbp _) ac).has bc) 0 rfl rfl) (qz (qbf (((((Z.trans X).trans Y).trans aa).updr (qbp _) ac).has bc) 1 rfl qcm) (qz (qbf bf 0 rfl rfl) (qz (qbf bf 1 rfl qcm) ?_)));obtain⟨_,c9,b8,da,ce,rfl,b9,cf,aw,db,cg⟩:=kbco (ai.grow ((((Z.trans X).trans Y).trans aa).updr (qbp _) ac)) aj (((kw ((ofI (wrap .i64 (0-a9))).1) ((ofI (wrap .i64 (0-a9))).2) ((ofI a5).1) ((ofI a5).2)).1)) (((kw ((ofI (wrap .i64 (a10+a3))).1) ((ofI (wrap .i64 (a10+a3))).2) ((ofI a6).1) ((ofI a6).2)).1));refine qz b8 (qz rfl (qz rfl ?_));refine qbb rfl ?_;refine qz (seenAt rfl rfl) (qz (seenAt rfl qcm) (qz rfl ?_));refine qbb rfl ?_;refine qz (seenAt rfl rfl) (qz (seenAt rfl qcm) (qz (seen qcn) ?_));refine q0 λdc ax ak=>?_;refine q0 λdd ca ay=>?_;refine qba (ay.has ax) rfl λde cb az=>?_;have al:=qx ca (Nat.ne_of_gt (qbr (ax).lt (qbp _))) az;refine qba al rfl λdf dg a0=>?_;have af:=qx cb (Nat.ne_of_lt (qbr (ax).lt (qbp _))) a0;refine qz (qbf af 0 rfl rfl) (qz (qbf af 1 rfl qcm) ?_);obtain⟨dh,cc,cd⟩:=kbjs (b9.grow (((ak.trans ay).updr (qbp _) az).updr (qbq (ak).size (qbp _)) a0)) (((floorI (((kw ((ofI (wrap .i64 (0-a9))).1) ((ofI (wrap .i64 (0-a9))).2) ((ofI a5).1) ((ofI a5).2)).1)) ((kw ((ofI (wrap .i64 (0-a9))).1) ((ofI (wrap .i64 (0-a9))).2) ((ofI a5).1) ((ofI a5).2)).2.1) (((kw ((ofI (wrap .i64 (a10+a3))).1) ((ofI (wrap .i64 (a10+a3))).2) ((ofI a6).1) ((ofI a6).2)).1)) ((kw ((ofI (wrap .i64 (a10+a3))).1) ((ofI (wrap .i64 (a10+a3))).2) ((ofI a6).1) ((ofI a6).2)).2.1)).1));refine qz cc (qz rfl (qz (seen qcn) (qz (seen rfl) ?_)));cases e;cases ag;exact qy ⟨rfl,(((((((((((((((((((I.trans y).trans A).trans C).trans U).trans F).trans H).trans K).updr (qbq ((((I.trans y).trans A).trans C)).size (qbp _)) V).trans Z).trans X).trans Y).trans aa).updr (qbq (((((((((I.trans y).trans A).trans C).trans U).trans F).trans H).trans K).updr (qbq ((((I.trans y).trans A).trans C)).size (qbp _)) V)).size (qbp _)) ac).trans aw).trans ak).trans ay).updr (qbq (((((((((((((((I.trans y).trans A).trans C).trans U).trans F).trans H).trans K).updr (qbq ((((I.trans y).trans A).trans C)).size (qbp _)) V).trans Z).trans X).trans Y).trans aa).updr (qbq (((((((((I.trans y).trans A).trans C).trans U).trans F).trans H).trans K).updr (qbq ((((I.trans y).trans A).trans C)).size (qbp _)) V)).size (qbp _)) ac).trans aw)).size (qbp _)) az).updr (qbq ((((((((((((((((I.trans y).trans A).trans C).trans U).trans F).trans H).trans K).updr (qbq ((((I.trans y).trans A).trans C)).size (qbp _)) V).trans Z).trans X).trans Y).trans aa).updr (qbq (((((((((I.trans y).trans A).trans C).trans U).trans F).trans H).trans K).updr (qbq ((((I.trans y).trans A).trans C)).size (qbp _)) V)).size (qbp _)) ac).trans aw).trans ak)).size (qbp _)) a0).trans cd)⟩
theorem k4m{s:kjn}{r:kio}(A:Iter k1m s r):ku9 r s:=qbg (λs o e y=>by
 cases s with
 | fn a1 a2 a3 a4 a5 a6 a7 a8 a9 a10=>exact @kbb0 _ _ a1 a2 a3 a4 a5 a6 a7 a8 a9 a10 e y
 | no=>exact True.intro
 ) A
end Go.Ab
set_option maxRecDepth 10000
namespace Go.Ab
open Go.Proofs Go.Num
theorem kv6{a b:Int}(y:-9223372036854775808<=a/\a<=9223372036854775807)(A:-9223372036854775808<=b/\b<=9223372036854775807):Iter klg (.fn a b) (intD (a*b)):=by
 refine .done ?_;show klh _ _=_;unfold klh;have C:=kg2
 have F:(a*b).natAbs<B^64:=by
  rw[Int.natAbs_mul];have:a.natAbs*b.natAbs<=9223372036854775808*9223372036854775808:=Nat.mul_le_mul (by omega) (by omega);omega
 rw[kq y,qbt,kq A,qbt,kge (by omega),kge (by omega),kjd (by omega) (by omega),if_pos F]
def kig(a1 a2 a3 a4 a5 a6 a7 a8 a9 a10:Int):Int×Int :=
 cond (Cfg.right ⟨a1,a2,a3,a4,a5,a6,a7,a8⟩&&decide (-1099511627776<=a9/\a9<=1099511627776/\0<=a10/\a10<=1048576)) ((-a9*a5)/((a10+a3)*a6),0) (0,1)
theorem Cfg.right_parts{c:Cfg}(h:c.right=true):1<=c.lambda/\c.lambda<=1048576/\1<=c.den/\c.den<=1048576/\1<=c.num/\c.num<=c.den:=by
 unfold Cfg.right at h;rw[qbw]at h;omega
theorem kyr{a3 a5 a6 a9 a10:Int}(y:1<=a3)(A:a3<=1048576)(d1:1<=a6)(C:a6<=1048576)(n1:1<=a5)(F:a5<=a6)(H:-1099511627776<=a9)(I:a9<=1099511627776)(h1:0<=a10)(K:a10<=1048576) :
  (-a9*a5).natAbs<=1152921504606846976/\0<(a10+a3)*a6/\((a10+a3)*a6).natAbs<=2199023255552:=by
 refine⟨?_,Int.mul_pos (by omega) (by omega),?_⟩
 ·rw[Int.natAbs_mul];have:(-a9).natAbs*a5.natAbs<=1099511627776*1048576:=Nat.mul_le_mul (by omega) (by omega);omega
 ·rw[Int.natAbs_mul];have:(a10+a3).natAbs*a6.natAbs<=2097152*1048576:=Nat.mul_le_mul (by omega) (by omega);omega
theorem k4k(a1 a2 a3 a4 a5 a6 a7 a8 a9 a10:Int):Iter k2p (.fn a1 a2 a3 a4 a5 a6 a7 a8 a9 a10) (kig a1 a2 a3 a4 a5 a6 a7 a8 a9 a10):=by
 refine .done ?_;show kl4 _ _ _ _ _ _ _ _ _ _=_;unfold kl4 kig;cases U:Cfg.right ⟨a1,a2,a3,a4,a5,a6,a7,a8⟩with
 | false=>rfl
 | true =>
  obtain⟨F,H,d1,I,n1,K⟩:=Cfg.right_parts U;dsimp only at F H d1 I n1 K;by_cases Q:-1099511627776<=a9/\a9<=1099511627776/\0<=a10/\a10<=1048576
  ·obtain⟨y,A,h1,C⟩:=Q;obtain⟨s1,s2,s3⟩:=kyr F H d1 I n1 K y A h1 C;have V:=kg2;obtain⟨Z,f2⟩:=kx2 (u:=-a9*a5) (v:=(a10+a3)*a6) (by omega) s2;rw[show decide (-1099511627776<=a9/\a9<=1099511627776/\0<=a10/\a10<=1048576)=true from qbx ⟨y,A,h1,C⟩,show decide (-1099511627776<=a9/\a9<=1099511627776)=true from qbx ⟨y,A⟩,show decide (0<=a10/\a10<=1048576)=true from qbx ⟨h1,C⟩];rw[show IntKind.wrap .i64 (0-a9)=-a9 from by rw[wrap64 (by omega) (by omega)];omega,wrap64 (n:=a10+a3) (by omega) (by omega)];rw[kmv (kv6 (a:=-a9) (b:=a5) ⟨by omega,by omega⟩ ⟨by omega,by omega⟩),kmv (kv6 (a:=a10+a3) (b:=a6) ⟨by omega,by omega⟩ ⟨by omega,by omega⟩),qbt,qbt,k2c (by omega) (by omega) s2];dsimp only;rw[kzk (by omega) (by omega)];rfl
  ·rw[show decide (-1099511627776<=a9/\a9<=1099511627776/\0<=a10/\a10<=1048576)=false from qby Q];simp only[Bool.not_true,cond_false,Bool.true_and];refine kga (λ_=>rfl) λX=>?_;refine kga (λ_=>rfl) λY=>?_;exfalso;simp only[qci,qbw]at X Y;omega
theorem k73(a1 a2 a3 a4 a5 a6 a7 a8 a9 a10:Int):Iter k1m (.fn a1 a2 a3 a4 a5 a6 a7 a8 a9 a10) (kig a1 a2 a3 a4 a5 a6 a7 a8 a9 a10):=by
 refine .done ?_;show kmc _ _ _ _ _ _ _ _ _ _=_;unfold kmc kig
 have I:kdo a9 a10=decide (-1099511627776<=a9/\a9<=1099511627776/\0<=a10/\a10<=1048576):=by
  unfold kdo;by_cases K:a9>=-1099511627776<;>by_cases Q:a9<=1099511627776<;>by_cases U:a10>=0<;>by_cases V:a10<=1048576<;>simp[K,Q,U,V]<;>omega
 rw[I];cases X:Cfg.right ⟨a1,a2,a3,a4,a5,a6,a7,a8⟩with
 | false=>rfl
 | true =>
  obtain⟨A,C,d1,F,n1,H⟩:=Cfg.right_parts X;dsimp only at A C d1 F n1 H;by_cases y:-1099511627776<=a9/\a9<=1099511627776/\0<=a10/\a10<=1048576
  ·rw[qbx y];obtain⟨Y,Z,h1,h2⟩:=y;obtain⟨s1,s2,s3⟩:=kyr A C d1 F n1 H Y Z h1 h2;have aa:=kg2;obtain⟨f1,f2⟩:=kx2 (u:=-a9*a5) (v:=(a10+a3)*a6) (by omega) s2;rw[show IntKind.wrap .i64 (0-a9)=-a9 from by rw[wrap64 (by omega) (by omega)];omega,wrap64 (n:=a10+a3) (by omega) (by omega)];simp only[Bool.not_true,cond_false,Bool.and_self,cond_true];rw[kq ⟨by omega,by omega⟩,qbt,kq ⟨by omega,by omega⟩,qbt,kq ⟨by omega,by omega⟩,qbt,kq ⟨by omega,by omega⟩,qbt];rw[kge (n:=-a9) (by omega),kge (n:=a5) (by omega),kge (n:=a10+a3) (by omega),kge (n:=a6) (by omega),kjd (by omega) (by omega),kjd (by omega) (by omega),if_pos (by omega),if_pos (by omega)];dsimp only;rw[k2c (by omega) (by omega) s2];dsimp only;rw[kzk (by omega) (by omega)]
  ·rw[qby y];rfl
theorem kbga(a1 a2 a3 a4 a5 a6 a7 a8 a9 a10:Int){h:AH}:Runs (go (.fn klb [.agg [.i a1,.i a2,.i a3,.i a4,.i a5,.i a6,.i a7,.i a8],.agg [.i a9,.i a10]]) h) (k3v h (kig a1 a2 a3 a4 a5 a6 a7 a8 a9 a10)):=kbhb (k4k a1 a2 a3 a4 a5 a6 a7 a8 a9 a10)
theorem kbax(a1 a2 a3 a4 a5 a6 a7 a8 a9 a10:Int){h:AH}:Runs (go (.fn kmf [.agg [.i a1,.i a2,.i a3,.i a4,.i a5,.i a6,.i a7,.i a8],.agg [.i a9,.i a10]]) h) (kxn h (kig a1 a2 a3 a4 a5 a6 a7 a8 a9 a10)):=k4m (k73 a1 a2 a3 a4 a5 a6 a7 a8 a9 a10)
end Go.Ab
namespace Go.Ab
variable{P:Program}
inductive All2{α β:Type}(R:α->β->Prop):List α->List β->Prop
 | nil:All2 R [] []
 | cons {a:α} {b:β} {ls:List α} {bs:List β}:R a b->All2 R ls bs->All2 R (a::ls) (b::bs)
section
variable{α β:Type}{R S:α->β->Prop}
theorem All2.imp(f:∀a b,R a b->S a b){ls:List α}{bs:List β}(a:All2 R ls bs):All2 S ls bs:=by
 induction a with
 | nil=>exact .nil
 | cons h _ ih=>exact .cons (f _ _ h) ih
theorem All2.length{ls:List α}{bs:List β}(a:All2 R ls bs):ls.length=bs.length:=by
 induction a with
 | nil=>rfl
 | cons h _ ih=>simp[ih]
abbrev qbl:=@All2.length
theorem All2.get{ls:List α}{bs:List β}(a:All2 R ls bs):∀{i:Nat}{y:β},bs[i]?=some y->∃x,ls[i]?=some x/\R x y:=by
 induction a with
 | nil=>intro i y h;simp at h
 | cons h _ ih =>
  intro i y A;cases i with
  | zero=>cases A;exact⟨_,rfl,h⟩
  | succ i=>exact ih A
theorem All2.snoc{ls:List α}{bs:List β}(a:All2 R ls bs){x:α}{y:β}(h:R x y):All2 R (ls++[x]) (bs++[y]):=by
 induction a with
 | nil=>exact .cons h .nil
 | cons h' _ ih=>exact .cons h' ih
end
structure El(α:Type) where
 w:Nat
 pos:0<w
 has:AH->List AV->α->Prop
 av:Nat->List AV->α->Prop
 len:∀{h:AH}{cs:List AV}{a:α},has h cs a->cs.length=w
 grow:∀{h h':AH}{cs:List AV}{a:α},Grow h h'->has h cs a->has h' cs a
 upd:∀{h h':AH}{i:Nat}{cs:List AV}{a:α},has h cs a->av i cs a->Upd h h' i->has h' cs a
 new:∀{h:AH}{i:Nat}{cs:List AV}{a:α},has h cs a->h.blks.size<=i->av i cs a
def El.int(k:IntKind):El Int where
 w:=1
 pos:=by decide
 has _ cs n:=cs=[.int k n]
 av _ _ _:=True
 len e:=by rw[e];rfl
 grow _ e:=e
 upd e _ _:=e
 new _ _:=trivial
def El.bool:El Bool where
 w:=1
 pos:=by decide
 has _ cs b:=cs=[.bool b]
 av _ _ _:=True
 len e:=by rw[e];rfl
 grow _ e:=e
 upd e _ _:=e
 new _ _:=trivial
theorem Sl.vs_inj{s t:Sl}(h:[Sl.v s]=[Sl.v t]):s=t:=by
 cases s;cases t;simp only[Sl.v,List.cons.injEq,AV.slice.injEq,and_true]at h;obtain⟨rfl,rfl,rfl⟩:=h;rfl
def El.nats:El (List Nat) where
 w:=1
 pos:=by decide
 has h cs xs:=∃s,cs=[Sl.v s]/\Nats h s xs
 av i cs xs:=∃s,cs=[Sl.v s]/\Av s i xs
 len:=λ⟨s,e,_⟩=>by rw[e];rfl
 grow g:=λ⟨s,e,n⟩=>⟨s,e,n.grow g⟩
 upd:=λ⟨s,e,n⟩ ⟨t,y,a⟩ u=>by
  rw[e]at y;cases Sl.vs_inj y;exact⟨s,e,n.upda a u⟩
 new:=λ⟨s,e,n⟩ hi=>⟨s,e,qbi n hi⟩
def El.pair{α β:Type}(A:El α)(B:El β):El (α×β) where
 w:=A.w+B.w
 pos:=by have:=A.pos;omega
 has h cs p:=∃y C,cs=y++C/\A.has h y p.1/\B.has h C p.2
 av i cs p:=∃y C,cs=y++C/\y.length=A.w/\A.av i y p.1/\B.av i C p.2
 len:=λ⟨y,C,e,a,b⟩=>by rw[e,qbz,A.len a,B.len b]
 grow g:=λ⟨y,C,e,a,b⟩=>⟨y,C,e,A.grow g a,B.grow g b⟩
 upd:=λ⟨y,C,e,a,b⟩ ⟨d1,H,F,l,a',b'⟩ u=>by
  rw[e]at F;obtain⟨rfl,rfl⟩:=List.append_inj F (by rw[A.len a,l]);exact⟨y,C,e,A.upd a a' u,B.upd b b' u⟩
 new:=λ⟨y,C,e,a,b⟩ hi=>⟨y,C,e,A.len a,A.new a hi,B.new b hi⟩
theorem kd4{w:Nat}:∀{rows:List (List AV)},(∀r∈rows,r.length=w)->rows.flatten.length=rows.length*w
 | [],_=>by simp
 | r::rows,h=>by
  rw[List.flatten_cons,qbz,kd4 (λq y=>h q (by simp[y])),h r (by simp),qb1,Nat.add_mul];omega
theorem kqi{w:Nat}:∀{rows:List (List AV)},(∀r∈rows,r.length=w)->∀{i:Nat}{r:List AV}{k:Nat}{v:AV},rows[i]?=some r->r[k]?=some v->rows.flatten[i*w+k]?=some v
 | [],_,i,r,k,v,hi,_=>by simp at hi
 | q::rows,h,0,r,k,v,hi,y=>by
  cases hi;rw[List.flatten_cons,List.getElem?_append_left (by have:=(qcd.1 y).1;omega)]
  simpa using y
 | q::rows,h,i+1,r,k,v,hi,y=>by
  have:=kqi (λq A=>h q (by simp[A])) (show rows[i]?=some r from hi) y;rw[List.flatten_cons,List.getElem?_append_right (by rw[h q (by simp),Nat.add_mul];omega),h q (by simp),show(i+1)*w+k-w=i*w+k from by rw[Nat.add_mul];omega];exact this
def atX{α:Type}(xs:List α)(i:Int):Option α:=if 0<=i then xs[i.toNat]? else none
theorem k6j{α:Type}{xs:List α}{i:Int}{y:α}(q:atX xs i=some y):∃j:Nat,i=(j:Int)/\xs[j]?=some y:=by
 unfold atX at q;split at q
 ·exact⟨i.toNat,by omega,q⟩
 ·cases q
theorem kii{α:Type}{xs:List α}{i:Nat}(h:i<xs.length):atX xs (i:Int)=some xs[i]:=by
 unfold atX;rw[if_pos (by omega),Int.toNat_natCast,qb3 h]
structure Lies(h:AH)(r:Ref)(cs:List AV):Prop where
 at':∀k v,cs[k]?=some v->h.cell (r.add k)=some v
theorem Lies.rd{A:Type}{f:AV->Option A}{h h':AH}{r:Ref}{cs:List AV}(l:Lies h r cs)(g:Grow h h')(k:Nat){v:AV}{x:A}(y:cs[k]?=some v)(C:f v=some x):(h'.cell (r.add k)).bind f=some x:=by
 rw[g.cell_some (l.at' k v y)];exact C
theorem Lies.rd0{A:Type}{f:AV->Option A}{h h':AH}{r:Ref}{cs:List AV}(l:Lies h r cs)(g:Grow h h'){v:AV}{x:A}(y:cs[0]?=some v)(C:f v=some x):(h'.cell r).bind f=some x:=by
 have:=l.rd g 0 y C;rwa[Ref.add_zero]at this
theorem AH.kill_Upd(h:AH)(i:Nat):Upd h (h.kill (some (.new i 0))) i :=
 ⟨rfl,by simp[AH.kill],λj y _=>by
  show(h.blks.setIfInBounds i .dead)[j]?=_;rw[Array.getElem?_setIfInBounds_ne (λx=>y x.symm)]⟩
theorem kch{h:AH}{i n:Nat}{cs:List AV}{e elem:TypeId}(b:h.has i cs e)(y:n*P.cellsOf elem=cs.length):kbh P elem (Sl.v ⟨some (.new i 0),n,.is n⟩) h=some (cs,n) :=
 kkj (qr b y)
section
variable{Q:AV->AH->Prop}
theorem Runs.putAt{h:AH}{i o:Nat}{cs cs' vs:List AV}{e:TypeId}{K:AH->Option (AV×AH)}(b:h.has i cs e)(y:o+vs.length<=cs.length)(A:cs.take o++vs++cs.drop (o+vs.length)=cs')(H:∀h',h'.has i cs' e->Upd h h' i->Runs (K h') Q):Runs ((h.puts ((Ref.new i 0).add o) vs).bind K) Q:=by
 subst A;rw[qj,Nat.zero_add,b.puts y];exact H _ (qp b _ e) (AH.upd_Upd h i _ e)
end
end Go.Ab
namespace Go.Ab
variable{P:Program}
def UpdO(h h':AH):Option Nat->Prop
 | none=>Grow h h'
 | some k=>Upd h h' k
def AvO(s:Sl)(xs:List Nat):Option Nat->Prop
 | none=>True
 | some k=>Av s k xs
def LeO(n:Nat):Option Nat->Prop
 | none=>True
 | some k=>n<=k
def LtO(n:Nat):Option Nat->Prop
 | none=>True
 | some k=>k<n
def NeO(j:Nat):Option Nat->Prop
 | none=>True
 | some k=>j≠k
theorem LeO.trans{m n:Nat}(h:m<=n):∀{i:Option Nat},LeO n i->LeO m i
 | none,_=>trivial
 | some k,l=>qbq h l
theorem AvO.of_own{h1:AH}{s:Sl}{xs:List Nat}(o:Own h1 s):∀{i:Option Nat},LtO h1.blks.size i->AvO s xs i
 | none,_=>trivial
 | some k,l=>qbj o l
theorem Grow.updo{h h1 y:AH}(g:Grow h h1):∀{i:Option Nat},LeO h.blks.size i->UpdO h1 y i->Grow h y
 | none,_,u=>g.trans u
 | some k,l,u=>g.updr l u
theorem AH.has.updo{h1 y:AH}{j:Nat}{cs:List AV}{e:TypeId}(b:h1.has j cs e):∀{i:Option Nat},NeO j i->UpdO h1 y i->y.has j cs e
 | none,_,u=>u.has b
 | some k,l,u=>qx b l u
theorem Nats.updo{h1 y:AH}{s:Sl}{xs:List Nat}(b:Nats h1 s xs):∀{i:Option Nat},AvO s xs i->UpdO h1 y i->Nats y s xs
 | none,_,u=>b.grow u
 | some k,l,u=>b.upda l u
variable{α:Type}{E:El α}{elem:TypeId}
theorem kuc{n m:Nat}(h:growOk P n elem m=true):n<=9223372036854775807:=by
 unfold growOk at h;rw[qb8,qbw]at h;have:=h.1.2;simp only[kx]at this;omega
end Go.Ab
namespace Go.Ab
variable{P:Program}
abbrev Fp:=Nat->Prop
def Fp.no:Fp:=λ_=>False
def Fp.all:Fp:=λ_=>True
def Fp.or(S T:Fp):Fp:=λj=>S j\/T j
def Fp.below(n:Nat):Fp:=λj=>j<n
def Fp.from(n:Nat):Fp:=λj=>n<=j
def Fp.sl(s:Sl)(xs:List Nat):Fp:=λj=>¬Av s j xs
theorem Fp.not_no{i:Nat}:¬Fp.no i:=λh=>h
abbrev qbm:=@Fp.not_no
def NotO(S:Fp):Option Nat->Prop
 | none=>True
 | some k=>¬S k
theorem NotO.no:∀{i:Option Nat},NotO Fp.no i
 | none=>trivial
 | some _=>qbm
abbrev qbn:=@NotO.no
structure Ef(α:Type) where
 w:Nat
 pos:0<w
 has:AH->Fp->List AV->α->Prop
 len:∀{h:AH}{S:Fp}{cs:List AV}{a:α},has h S cs a->cs.length=w
 grow:∀{h h':AH}{S:Fp}{cs:List AV}{a:α},Grow h h'->has h S cs a->has h' S cs a
 mono:∀{h:AH}{S T:Fp}{cs:List AV}{a:α},(∀j,S j->T j)->has h S cs a->has h T cs a
 upd:∀{h h':AH}{S:Fp}{i:Nat}{cs:List AV}{a:α},¬S i->Upd h h' i->has h S cs a->has h' S cs a
 bound:∀{h:AH}{S:Fp}{cs:List AV}{a:α},has h S cs a->has h (λj=>S j/\j<h.blks.size) cs a
def Ef.int(k:IntKind):Ef Int where
 w:=1
 pos:=by decide
 has _ _ cs n:=cs=[.int k n]
 len e:=by rw[e];rfl
 grow _ e:=e
 mono _ e:=e
 upd _ _ e:=e
 bound e:=e
def Ef.bool:Ef Bool where
 w:=1
 pos:=by decide
 has _ _ cs b:=cs=[.bool b]
 len e:=by rw[e];rfl
 grow _ e:=e
 mono _ e:=e
 upd _ _ e:=e
 bound e:=e
def Ef.str:Ef ByteArray where
 w:=1
 pos:=by decide
 has _ _ cs b:=cs=[.str b]
 len e:=by rw[e];rfl
 grow _ e:=e
 mono _ e:=e
 upd _ _ e:=e
 bound e:=e
def Ef.nats:Ef (List Nat) where
 w:=1
 pos:=by decide
 has h S cs xs:=∃s,cs=[Sl.v s]/\Nats h s xs/\∀j,¬Av s j xs->S j
 len:=λ⟨s,e,_,_⟩=>by rw[e];rfl
 grow g:=λ⟨s,e,n,a⟩=>⟨s,e,n.grow g,a⟩
 mono m:=λ⟨s,e,n,a⟩=>⟨s,e,n,λj k=>m j (a j k)⟩
 upd no u:=λ⟨s,e,n,a⟩=>⟨s,e,n.upda (Classical.byContradiction λk=>no (a _ k)) u,a⟩
 bound:=λ{h} _ _ _ ⟨s,e,n,a⟩=>⟨s,e,n,λj k=>⟨a j k,by
  rcases Nat.lt_or_ge j h.blks.size with h1 | h1
  ·exact h1
  ·exact absurd (qbi n h1) k⟩⟩
def Ef.pair{α β:Type}(A:Ef α)(B:Ef β):Ef (α×β) where
 w:=A.w+B.w
 pos:=by have:=A.pos;omega
 has h S cs p:=∃y C,cs=y++C/\A.has h S y p.1/\B.has h S C p.2
 len:=λ⟨y,C,e,a,b⟩=>by rw[e,qbz,A.len a,B.len b]
 grow g:=λ⟨y,C,e,a,b⟩=>⟨y,C,e,A.grow g a,B.grow g b⟩
 mono m:=λ⟨y,C,e,a,b⟩=>⟨y,C,e,A.mono m a,B.mono m b⟩
 upd no u:=λ⟨y,C,e,a,b⟩=>⟨y,C,e,A.upd no u a,B.upd no u b⟩
 bound:=λ⟨y,C,e,a,b⟩=>⟨y,C,e,A.bound a,B.bound b⟩
theorem All2.set{α β:Type}{R:α->β->Prop}{l:List α}{m:List β}(a:All2 R l m){x:α}{y:β}(h:R x y):∀j:Nat,All2 R (l.set j x) (m.set j y):=by
 induction a with
 | nil=>intro j;exact .nil
 | cons h1 A ih =>
  intro j;cases j with
  | zero=>exact .cons h A
  | succ j=>exact .cons h1 (ih j)
def RefIn(S:Fp)(s:Sl)(n:Nat):Prop:=n=0\/∀j o,s.ref=some (.new j o)->S j
structure Sq{α:Type}(E:Ef α)(h:AH)(S:Fp)(s:Sl)(xs:List α):Prop where
 rows:∃rows,Cells h s E.w rows.flatten/\All2 (E.has h S) rows xs
 len:s.len=xs.length
 short:xs.length<=9223372036854775807
 at':RefIn S s xs.length
variable{α:Type}{E:Ef α}
theorem Ef.rows{h:AH}{S:Fp}{rows:List (List AV)}{xs:List α}(a:All2 (E.has h S) rows xs):∀r∈rows,r.length=E.w:=by
 induction a with
 | nil=>simp
 | cons h' _ ih =>
  intro r y;rcases qb5.1 y with rfl | y
  ·exact E.len h'
  ·exact ih r y
theorem Cells.updn{h h':AH}{s:Sl}{n:Nat}{flat:List AV}(c:Cells h s n flat){i:Nat}(hi:∀o,s.ref≠some (.new i o))(u:Upd h h' i):Cells h' s n flat :=
 ⟨c.fit,c.len,λk v C=>by
  obtain⟨r,A,F⟩:=c.get k v C;refine⟨r,A,u.cell F λo y=>?_⟩;cases r with
  | old a=>cases y
  | new j p =>
   simp only[qj,Ref.new.injEq]at y;exact hi p (by rw[A,y.1])⟩
theorem Sq.grow{h h':AH}{S:Fp}{s:Sl}{xs:List α}(n:Sq E h S s xs)(g:Grow h h'):Sq E h' S s xs:=by
 obtain⟨⟨rows,c,a⟩,l,y,at'⟩:=n;exact⟨⟨rows,c.grow g,a.imp λ_ _=>E.grow g⟩,l,y,at'⟩
theorem Sq.mono{h:AH}{S T:Fp}{s:Sl}{xs:List α}(n:Sq E h S s xs)(m:∀j,S j->T j):Sq E h T s xs:=by
 obtain⟨⟨rows,c,a⟩,l,y,at'⟩:=n;exact⟨⟨rows,c,a.imp λ_ _=>E.mono m⟩,l,y,at'.imp id λf j o e=>m j (f j o e)⟩
theorem Sq.nil(E:Ef α)(h:AH)(S:Fp):Sq E h S ⟨none,0,.is 0⟩ []:=⟨⟨[],Cells.nil h _,.nil⟩,rfl,by simp,.inl rfl⟩
theorem Sq.upd{h h':AH}{S:Fp}{s:Sl}{xs:List α}(n:Sq E h S s xs){i:Nat}(no:¬S i)(u:Upd h h' i):Sq E h' S s xs:=by
 obtain⟨⟨rows,c,a⟩,l,A,at'⟩:=n;refine⟨⟨rows,?_,a.imp λ_ _=>E.upd no u⟩,l,A,at'⟩;rcases at' with e | f
 ·have y:rows.length=0:=by rw[qbl a,e]
  have y:rows=[]:=List.length_eq_zero_iff.1 y;subst y;exact⟨c.fit,c.len,λk v C=>by simp at C⟩
 ·exact c.updn (λo F=>no (f i o F)) u
theorem Sq.bound{h:AH}{S:Fp}{s:Sl}{xs:List α}(n:Sq E h S s xs):Sq E h (λj=>S j/\j<h.blks.size) s xs:=by
 obtain⟨⟨rows,c,a⟩,l,C,at'⟩:=n;refine⟨⟨rows,c,a.imp λ_ _=>E.bound⟩,l,C,?_⟩;rcases Nat.eq_zero_or_pos xs.length with e | e
 ·exact .inl e
 ·refine .inr λj o y=>⟨(at'.resolve_left (by omega)) j o y,?_⟩;have F:=kd4 (w:=E.w) (rows:=rows) (Ef.rows a)
  have h0:0<rows.flatten.length:=by
   rw[F,qbl a];exact Nat.mul_pos e E.pos
  obtain⟨r,A,H⟩:=c.get 0 _ (qb3 h0);rw[y]at A;cases A;have:=AH.cell_inn H;rw[qj]at this;exact this
def Ef.seq{α:Type}(E:Ef α):Ef (List α) where
 w:=1
 pos:=by decide
 has h S cs xs:=∃s,cs=[Sl.v s]/\Sq E h S s xs
 len:=λ⟨s,e,_⟩=>by rw[e];rfl
 grow g:=λ⟨s,e,n⟩=>⟨s,e,n.grow g⟩
 mono m:=λ⟨s,e,n⟩=>⟨s,e,n.mono m⟩
 upd no u:=λ⟨s,e,n⟩=>⟨s,e,n.upd no u⟩
 bound:=λ⟨s,e,n⟩=>⟨s,e,n.bound⟩
theorem Sq.at{h:AH}{S:Fp}{s:Sl}{xs:List α}(n:Sq E h S s xs){i:Int}{y:α}(q:atX xs i=some y):∃(r:Ref)(cs:List AV),idx s.ref xs.length i E.w=some r/\E.has h S cs y/\Lies h r cs:=by
 obtain⟨⟨rows,c,a⟩,l,V,at'⟩:=n;obtain⟨j,rfl,C⟩:=k6j q;obtain⟨cs,I,F⟩:=a.get C;have K:=(qcd.1 C).1;have Q:=Ef.rows a;have key:∀k v,cs[k]?=some v->∃r,s.ref=some r/\h.cell (r.add (j*E.w+k))=some v:=λk v A=>c.get _ _ (kqi Q I A);cases H:s.ref with
 | none =>
  exfalso;cases cs with
  | nil=>have:=E.len F;have:=E.pos;simp at *;omega
  | cons v vs =>
   obtain⟨r,e,_⟩:=key 0 v rfl;rw[H]at e;cases e
 | some r =>
  refine⟨r.add (j*E.w),cs,?_,F,⟨λk v A=>?_⟩⟩
  ·rw[kdx _ _ _ _ (by omega) (by omega)];simp
  ·obtain⟨X,e,U⟩:=key k v A;rw[H]at e;cases e;rw[Ref.add_add];exact U
theorem Sq.lit{h:AH}{S:Fp}{i n:Nat}{rows:List (List AV)}{e:TypeId}{xs:List α}(b:h.has i rows.flatten e)(a:All2 (E.has h S) rows xs)(y:xs.length=n)(A:n<=9223372036854775807:=by decide):Sq E h (Fp.or (λj=>j=i) S) ⟨some (.new i 0),n,.is n⟩ xs:=by
 refine⟨⟨rows,qr b ?_,a.imp λ_ _=>E.mono λj k=>.inr k⟩,y.symm,by omega,.inr λj o e=>?_⟩
 ·rw[kd4 (Ef.rows a),qbl a,y]
 ·cases e;exact .inl rfl
def GF{α:Type}(E:Ef α)(elem:TypeId)(h:AH)(S:Fp)(s:Sl)(i:Option Nat)(xs:List α):Prop :=
 xs.length<=9223372036854775807/\match i with
 | none=>s=⟨none,0,.is 0⟩/\xs=[]
 | some k=>¬S k/\s.ref=some (.new k 0)/\s.len=xs.length/\∃rows e,h.has k rows.flatten e/\(s.cap=.is s.len\/s.cap=.opn E.w/\e=elem)/\All2 (E.has h S) rows xs
variable{elem:TypeId}
theorem GF.none(E:Ef α)(elem:TypeId)(h:AH)(S:Fp):GF E elem h S ⟨none,0,.is 0⟩ none []:=⟨by simp,rfl,rfl⟩
theorem GF.one{h:AH}{S:Fp}{i:Nat}{cs:List AV}{x:α}{e:TypeId}(b:h.has i cs e)(c:E.has h S cs x)(a:¬S i):GF E elem h S ⟨some (.new i 0),1,.is 1⟩ (some i) [x] :=
 ⟨by simp,a,rfl,rfl,[cs],e,by simpa using b,.inl rfl,.cons c .nil⟩
theorem GF.lit{h:AH}{S:Fp}{i n:Nat}{rows:List (List AV)}{xs:List α}{e:TypeId}(b:h.has i rows.flatten e)(c:All2 (E.has h S) rows xs)(a:¬S i)(y:xs.length=n)(A:n<=9223372036854775807:=by decide):GF E elem h S ⟨some (.new i 0),n,.is n⟩ (some i) xs :=
 ⟨by omega,a,rfl,y.symm,rows,e,b,.inl rfl,c⟩
theorem GF.grow{h h':AH}{S:Fp}{s:Sl}:∀{i:Option Nat}{xs:List α},GF E elem h S s i xs->Grow h h'->GF E elem h' S s i xs
 | .none,_,v,g=>v
 | .some k,_,⟨l,a,r,ln,rows,e,b,c,r2⟩,g=>⟨l,a,r,ln,rows,e,g.has b,c,r2.imp λ_ _=>E.grow g⟩
theorem GF.lt{h:AH}{S:Fp}{s:Sl}:∀{i:Option Nat}{xs:List α},GF E elem h S s i xs->LtO h.blks.size i
 | .none,_,_=>trivial
 | .some k,_,⟨l,a,r,ln,rows,e,b,c,r2⟩=>b.lt
theorem GF.mono{h:AH}{S T:Fp}{s:Sl}:∀{i:Option Nat}{xs:List α},GF E elem h S s i xs->(∀j,S j->T j)->NotO T i->GF E elem h T s i xs
 | .none,_,v,_,_=>v
 | .some k,_,⟨l,a,r,ln,rows,e,b,c,r2⟩,m,no=>⟨l,no,r,ln,rows,e,b,c,r2.imp λ_ _=>E.mono m⟩
theorem GF.bound{h:AH}{S:Fp}{s:Sl}:∀{i:Option Nat}{xs:List α},GF E elem h S s i xs->GF E elem h (λj=>S j/\j<h.blks.size) s i xs
 | .none,_,v=>v
 | .some k,_,⟨l,a,r,ln,rows,e,b,c,r2⟩=>⟨l,λx=>a x.1,r,ln,rows,e,b,c,r2.imp λ_ _=>E.bound⟩
def Fp.opt(i:Option Nat):Fp:=λj=>i=some j
theorem GF.sq{h:AH}{S:Fp}{s:Sl}:∀{i:Option Nat}{xs:List α},GF E elem h S s i xs->Sq E h (Fp.or (Fp.opt i) S) s xs
 | .none,xs,⟨_,C,F⟩=>by
  subst C;subst F;exact Sq.nil E h _
 | .some k,_,⟨l,a,r,ln,rows,e,b,c,r2⟩=>by
  have y:=qr (n:=E.w) (m:=s.len) b (by rw[kd4 (Ef.rows r2),qbl r2,ln]);refine⟨⟨rows,⟨?_,?_,?_⟩,r2.imp λ_ _=>E.mono λj x=>.inr x⟩,ln,l,.inr λj o A=>?_⟩
  ·rcases c with c | c
   ·unfold Sl.fit;rw[c];exact qbp _
   ·unfold Sl.fit;rw[c.1]
  ·exact y.len
  ·rw[r];exact y.get
  ·rw[r]at A;cases A;exact .inl rfl
theorem GF.len{h:AH}{S:Fp}{s:Sl}{i:Option Nat}{xs:List α}(v:GF E elem h S s i xs):s.len=xs.length:=v.sq.len
theorem GF.upd{h h':AH}{S:Fp}{s:Sl}{i:Nat}(u:Upd h h' i)(no:¬S i):∀{j:Option Nat}{xs:List α},GF E elem h S s j xs->(∀k,j=some k->k≠i)->GF E elem h' S s j xs
 | .none,_,v,_=>v
 | .some k,_,⟨l,a,r,ln,rows,e,b,c,r2⟩,ne=>⟨l,a,r,ln,rows,e,b.updr (ne k rfl) u,c,r2.imp λ_ _=>E.upd no u⟩
theorem GF.set{h:AH}{S T:Fp}{s:Sl}{i:Option Nat}{xs:List α}(v:GF E elem h S s i xs){cs:List AV}{x:α}(c:E.has h T cs x)(no:NotO T i){z:Int}{j:Nat}(q:inI xs.length z=some j) :
  ∃r h',idx s.ref xs.length z E.w=some r/\h.puts r cs=some h'/\GF E elem h' (Fp.or S T) s i (xs.set j x)/\UpdO h h' i:=by
 obtain⟨U,V⟩:=kqa q;cases i with
 | none =>
  obtain⟨_,e1,X⟩:=v;subst X;simp at V
 | some k =>
  obtain⟨l,a,r,Y,rows,e,b,Z,r2⟩:=v;have aa:=qbl r2;have C:=Ef.rows r2;have I:=E.len c;have F:=kd4 C
  have H:j*E.w+cs.length<=rows.flatten.length:=by
   rw[F,I,<- Nat.succ_mul];exact Nat.mul_le_mul_right _ (by omega)
  have A:∀(rs:List (List AV))(n:Nat),(∀r∈rs,r.length=E.w)->rs.flatten.take (n*E.w)=(rs.take n).flatten/\rs.flatten.drop (n*E.w)=(rs.drop n).flatten:=by
   intro rs
   induction rs with
   | nil=>intro n _;simp
   | cons r rs ih =>
    intro n K;cases n with
    | zero=>simp
    | succ n =>
     have h1:=ih n λq hq=>K q (by simp[hq]);have Q:=K r (by simp);rw[Nat.succ_mul,List.flatten_cons,List.take_succ_cons,List.drop_succ_cons,List.flatten_cons,<- h1.1,<- h1.2];constructor
     ·rw[List.take_append,Q,List.take_of_length_le (by omega),Nat.add_sub_cancel]
     ·rw[List.drop_append,Q,List.drop_eq_nil_of_le (by omega),Nat.add_sub_cancel,List.nil_append]
  have key:rows.flatten.take (j*E.w)++cs++rows.flatten.drop (j*E.w+cs.length)=(rows.set j cs).flatten:=by
   have h3:j*E.w+cs.length=(j+1)*E.w:=by rw[I,Nat.succ_mul]
   rw[h3,(A rows j C).1,(A rows (j+1) C).2,List.set_eq_take_append_cons_drop,if_pos (by omega)];simp
  refine⟨.new k (j*E.w),h.upd k (rows.set j cs).flatten e,?_,?_,⟨by simpa using l,λx=>x.elim a no,r,by simpa using Y,rows.set j cs,e,qp b _ _,Z,?_⟩,AH.upd_Upd h k _ e⟩
  ·rw[r,U,kdx _ _ _ _ (by omega) (by omega)];simp
  ·rw[b.puts H,key]
  ·have:All2 (λcs a=>E.has h (Fp.or S T) cs a) (rows.set j cs) (xs.set j x):=All2.set (r2.imp λ_ _=>E.mono λj k=>.inl k) (E.mono (λj k=>.inr k) c) j;exact this.imp λ_ _ y=>E.upd (λx=>x.elim a no) (AH.upd_Upd h k _ e) y
theorem GF.push{h:AH}{S T:Fp}{s:Sl}{i:Option Nat}{xs:List α}(v:GF E elem h S s i xs){cs:List AV}{x:α}(c:E.has h T cs x)(no:NotO T i)(C:growOk P (xs.length+1) elem E.w=true) :
  ∃s' h',kv P s cs 1 elem E.w h=some (s'.v,h')/\GF E elem h' (λj=>(Fp.or S T) j/\j<h.blks.size) s' (some h.blks.size) (xs++[x])/\UpdO h h' i:=by
 have Q:=kuc C;have hw:=E.len c;have H:¬((Fp.or S T) h.blks.size/\h.blks.size<h.blks.size):=λk=>Nat.lt_irrefl _ k.2;cases i with
 | none =>
  obtain⟨_,Y,Z⟩:=v;subst Y;subst Z;rw[kfj (c:=0) rfl (by simp) (by simpa using C) (Cells.nil h E.w)];refine⟨_,_,rfl,⟨by simp,H,rfl,by simp,[cs],elem,?_,.inr ⟨rfl,rfl⟩,.cons ?_ .nil⟩,qm _ _⟩
  ·simpa using qo h cs elem
  ·refine E.grow (qm _ _) (E.mono (λj k=>⟨.inr k.1,k.2⟩) (E.bound c))
 | some k =>
  have sq:=v.sq;obtain⟨l,a,r,F,rows,e,b,U,r2⟩:=v;have hr:=Ef.rows r2
  have V:Cells h s E.w rows.flatten:=by
   have X:=qr (n:=E.w) (m:=s.len) b (by rw[kd4 hr,qbl r2,F]);refine⟨?_,X.len,by rw[r];exact X.get⟩;rcases U with c | c
   ·unfold Sl.fit;rw[c];exact qbp _
   ·unfold Sl.fit;rw[c.1]
  rw[<- F]at C;rcases U with I | ⟨I,rfl⟩
  ·rw[kfj I (by omega) C V];refine⟨_,_,rfl,⟨by simpa using Q,H,rfl,by simp[F],rows++[cs],elem,?_,.inr ⟨rfl,rfl⟩,All2.snoc (r2.imp λ_ _ y=>?_) ?_⟩,(qm _ _).toUpd k⟩
   ·have:=qo h (rows.flatten++cs) elem
    simpa using this
   ·exact E.grow (qm _ _) (E.mono (λj q=>⟨.inl q.1,q.2⟩) (E.bound y))
   ·exact E.grow (qm _ _) (E.mono (λj q=>⟨.inr q.1,q.2⟩) (E.bound c))
  ·have K:kv P s cs 1 e E.w h=some (Sl.v ⟨some (.new h.blks.size 0),s.len+1,.opn E.w⟩,(h.kill s.ref).push (.cells (rows.flatten++cs) e)):=by
    unfold kv;simp only[I];rw[show Nat.beq 1 0=false from rfl,show Nat.beq E.w E.w=true from Nat.beq_refl _];simp only[cond_false,C,Bool.and_true,cond_true,r,show h.blks[k]?=_ from b];have A:=V.gets;rw[r]at A;simp only[A,qbt];rw[show Nat.beq e e=true from Nat.beq_refl _,cond_true];have:(AH.kill h (some (Ref.new k 0))).blks.size=h.blks.size:=by simp[AH.kill]
    simp[AH.next,this,Sl.v];rfl
   rw[K,r];have sz:(h.kill (some (.new k 0))).blks.size=h.blks.size:=by simp[AH.kill]
   have u:Upd h (h.kill (some (.new k 0))) k:=AH.kill_Upd h k;refine⟨_,_,rfl,⟨by simpa using Q,H,rfl,by simp[F],rows++[cs],e,?_,.inr ⟨rfl,rfl⟩,All2.snoc (r2.imp λ_ _ y=>?_) ?_⟩,u.trans ((qm _ _).toUpd k)⟩
   ·have:=qo (h.kill (some (.new k 0))) (rows.flatten++cs) e;rw[sz]at this
    simpa using this
   ·exact E.grow (qm _ _) (E.mono (λj q=>⟨.inl q.1,q.2⟩) (E.upd (λq=>a q.1) u (E.bound y)))
   ·exact E.grow (qm _ _) (E.mono (λj q=>⟨.inr q.1,q.2⟩) (E.upd (λq=>no q.1) u (E.bound c)))
end Go.Ab
namespace Go.Ab
variable{P:Program}
theorem kw0{h:AH}:∀(n:Nat){r:Ref}{es:List AV},h.gets r n=some es->es.length=n/\∀(k:Nat)(v:AV),es[k]?=some v->h.cell (r.add k)=some v
 | 0,r,es,e=>by
  simp only[AH.gets,qca]at e;subst e;exact⟨rfl,λk v A=>by simp at A⟩
 | n+1,r,es,e=>by
  simp only[AH.gets,qbu,Option.map_eq_some_iff]at e;obtain⟨v,C,l,F,rfl⟩:=e;obtain⟨h1,H⟩:=kw0 n F;refine⟨by simp[h1],λk u y=>?_⟩;cases k with
  | zero =>
   simp at y;subst y;rw[Ref.add_zero];exact C
  | succ k =>
   have:=H k u (by simpa using y);rw[<- this,Ref.add_add,Nat.add_comm]
theorem Sq.of_arg{α:Type}{E:Ef α}{S:Fp}{h:AH}{t e:TypeId}{cs:List AV}(hu:P.underlying t=some (.slice e))(hw:P.cellsOf e=E.w)(elem:∀es,ArgT P h e es->∃a,E.has h S es a)(a:ArgT P h t cs):∃(s:Sl)(xs:List α),cs=[s.v]/\Sq E h S s xs:=by
 rcases a.slice hu with rfl | ⟨A,len,cap,rfl,h1,U,V⟩
 ·exact⟨⟨none,0,.is 0⟩,[],rfl,Sq.nil _ _ _⟩
 ·rw[hw]at V
  have mk:∀n,n<=len->∃(rows:List (List AV))(xs:List α),rows.length=n/\All2 (E.has h S) rows xs/\∀(i:Nat)(r:List AV),rows[i]?=some r->h.gets (.old (A.add (i*E.w))) E.w=some r:=by
   intro n
   induction n with
   | zero=>exactλ_=>⟨[],[],rfl,.nil,λi r hi=>by simp at hi⟩
   | succ n ih =>
    intro hn;obtain⟨rows,xs,C,F,I⟩:=ih (by omega);obtain⟨es,k1,k2⟩:=V n (by omega);obtain⟨x,k3⟩:=elem es k2;refine⟨rows++[es],xs++[x],by simp[C],F.snoc k3,λi r hi=>?_⟩;by_cases K:i<rows.length
    ·rw[List.getElem?_append_left K]at hi;exact I i r hi
    ·rw[List.getElem?_append_right (by omega)]at hi
     have:i=n:=by
      rcases Nat.eq_zero_or_pos (i-rows.length)with h0 | h0
      ·omega
      ·rw[List.getElem?_eq_none (by simp;omega)]at hi;cases hi
     subst this;rw[C,Nat.sub_self]at hi;simp at hi;subst hi;exact k1
  obtain⟨rows,xs,C,F,I⟩:=mk len (qbp _);have H:=Ef.rows F;have y:=qbl F;refine⟨⟨some (.old A),len,.is cap⟩,xs,rfl,⟨⟨rows,⟨h1,by rw[kd4 H,C],λk v X=>⟨_,rfl,?_⟩⟩,F⟩,by rw[<- y,C],?_,.inr λj o Q=>by cases Q⟩⟩
  ·have hk:k<rows.length*E.w:=by
    rw[<- kd4 H];exact(qcd.1 X).1
   have hi:k/E.w<rows.length:=Nat.div_lt_of_lt_mul (by rw[Nat.mul_comm];exact hk);have Q:k%E.w<E.w:=Nat.mod_lt _ E.pos;have Y:=qb3 hi;have Z:(rows[k/E.w])[k%E.w]?=some ((rows[k/E.w])[k%E.w]'(by rw[H _ (qb2 _)];exact Q)):=qb3 _;have e3:=kqi H Y Z
   have e4:k/E.w*E.w+k%E.w=k:=by
    rw[Nat.mul_comm];exact Nat.div_add_mod k E.w
   rw[e4,X]at e3;have e5:=(kw0 E.w (I _ _ Y)).2 _ _ Z;rw[<- Option.some.inj e3]at e5
   have e6:(Ref.old (A.add (k/E.w*E.w))).add (k%E.w)=(Ref.old A).add k:=by
    rw[show Ref.old (A.add (k/E.w*E.w))=(Ref.old A).add (k/E.w*E.w)from rfl,Ref.add_add,e4]
   rw[<- e6];exact e5
  ·have hm:maxLen=9223372036854775807:=by decide
   rw[<- y,C];rw[hm]at U;exact qbq h1 U
end Go.Ab
namespace Go.Ab
theorem All2.take{α β:Type}{R:α->β->Prop}{l:List α}{m:List β}(a:All2 R l m):∀k:Nat,All2 R (l.take k) (m.take k):=by
 induction a with
 | nil=>intro k;simp;exact .nil
 | cons h t ih =>
  intro k;cases k with
  | zero=>exact .nil
  | succ k=>exact .cons h (ih k)
theorem AH.setBlk_get{h:AH}{l:Nat}{b:ABlk}(y:l<h.blks.size):(h.setBlk l b).blks[l]?=some b:=by
 simp[AH.setBlk,y]
theorem AH.setBlk_ne{h:AH}{l i:Nat}{b:ABlk}(hi:i≠l):(h.setBlk l b).blks[i]?=h.blks[i]?:=by
 simp only[AH.setBlk];rw[Array.getElem?_setIfInBounds_ne (λe=>hi e.symm)]
theorem AH.setBlk_size(h:AH)(l:Nat)(b:ABlk):(h.setBlk l b).blks.size=h.blks.size:=by simp[AH.setBlk]
theorem k7p{h:AH}{l:Nat}{y:Option Code}{f:FuncId}{fr:Fr}{ps:Array Tmp}{bs bd:Code}{d:Nat}(A:h.blks[l]?=some (.loop .ready y f fr ps bs bd d)) :
  beginA l h=some (h.setBlk l (.loop .busy y f fr ps bs bd d)):=by
 simp only[beginA,A]
theorem kbbv{h:AH}{l:Nat}{st:LoopState}{y:Option Code}{f:FuncId}{fr:Fr}{ps:Array Tmp}{bs bd:Code}{d:Nat}(A:h.blks[l]?=some (.loop st y f fr ps bs bd d))(j:Option Code) :
  khp l j h=some (.bool j.isNone,h.setBlk l (.loop (cond j.isNone .ready .done) j f fr ps bs bd d)):=by
 simp only[khp,A]
theorem k93{h:AH}{l:Nat}{y:Option Code}{f:FuncId}{fr:Fr}{ps:Array Tmp}{bs bd:Code}{d:Nat}(A:h.blks[l]?=some (.loop .ready y f fr ps bs bd d)):kku l h=some (y,h.setBlk l .dead):=by
 simp only[kku,A];rfl
theorem kbis{R:Type}{f:FuncId}{a c:List AV}{k:FuncId->List AV->List AV->Option R}:funcK (.func (.func f) a c) k=k f a c:=rfl
theorem Runs.newM{P:AV->AH->Prop}{h:AH}{b:ABlk}{K:Nat->AH->Option (AV×AH)}(H:∀h',h'.blks[h.blks.size]?=some b->Grow h h'->Runs (K h.blks.size h') P):Runs (newM h b K) P :=
 H _ (by simp[AH.alloc]) (qm h _)
variable{P:Program}
structure Md(T:Fp)(h h':AH):Prop where
 old:h'.old=h.old
 size:h.blks.size<=h'.blks.size
 blk:∀j,j<h.blks.size->¬T j->h'.blks[j]?=h.blks[j]?
theorem Md.refl(T:Fp)(h:AH):Md T h h:=⟨rfl,qbp _,λ_ _ _=>rfl⟩
theorem Grow.md{h h':AH}(g:Grow h h')(T:Fp):Md T h h':=⟨g.old,g.size,λj y _=>g.blk j y⟩
theorem Upd.md{h h':AH}{i:Nat}(u:Upd h h' i){T:Fp}(t:T i):Md T h h':=⟨u.old,u.size,λj y n=>u.blk j (λe=>n (e▸t)) y⟩
theorem UpdO.md{h h':AH}{T:Fp}:∀{i:Option Nat},UpdO h h' i->(∀k,i=some k->T k)->Md T h h'
 | none,u,_=>Grow.md u T
 | some k,u,t=>Upd.md u (t k rfl)
theorem Md.grow{h h':AH}{T:Fp}(m:Md T h h')(n:∀j,j<h.blks.size->¬T j):Grow h h':=⟨m.old,m.size,λj y=>m.blk j y (n j y)⟩
theorem Md.mono{h h':AH}{S T:Fp}(m:Md S h h')(f:∀j,j<h.blks.size->S j->T j):Md T h h':=⟨m.old,m.size,λj y n=>m.blk j y λs=>n (f j y s)⟩
theorem Md.next{h h1 A:AH}{S T:Fp}(a:Md S h h1)(b:Md T h1 A)(f:∀j,j<h.blks.size->T j->S j):Md S h A :=
 ⟨b.old.trans a.old,qbq a.size b.size,λj y n=>(b.blk j (qbr y a.size) λt=>n (f j y t)).trans (a.blk j y n)⟩
theorem Md.trans{h h1 y:AH}{T:Fp}(a:Md T h h1)(b:Md T h1 y):Md T h y:=a.next b λ_ _ t=>t
theorem Md.thenG{h h1 y:AH}{T:Fp}(a:Md T h h1)(b:Grow h1 y):Md T h y:=a.next (b.md Fp.no) λ_ _ t=>t.elim
def Dis(S T:Fp):Prop:=∀j,S j->T j->False
theorem Md.has{h h':AH}{T:Fp}(m:Md T h h'){i:Nat}{cs:List AV}{e:TypeId}(b:h.has i cs e)(n:¬T i):h'.has i cs e:=(m.blk i b.lt n).trans b
theorem Md.get{h h':AH}{T:Fp}(m:Md T h h'){i:Nat}{b:ABlk}(e:h.blks[i]?=some b)(n:¬T i):h'.blks[i]?=some b :=
 (m.blk i (qcc.1 e).1 n).trans e
def mixA(h h':AH)(k:Nat):AH:=⟨h'.old,((List.range h.blks.size).map λi=>(if i<k then h'.blks[i]? else h.blks[i]?).getD .dead).toArray⟩
theorem kgh(h h':AH)(k:Nat):(mixA h h' k).blks.size=h.blks.size:=by simp[mixA]
theorem kjv{h h':AH}{k i:Nat}(A:h.blks.size<=h'.blks.size)(hi:i<h.blks.size):(mixA h h' k).blks[i]?=if i<k then h'.blks[i]? else h.blks[i]?:=by
 have y:i<h'.blks.size:=qbr hi A;simp only[mixA,List.getElem?_toArray,List.getElem?_map,List.getElem?_range hi,Option.map_some];split
 ·rw[Array.getElem?_eq_getElem y];rfl
 ·rw[Array.getElem?_eq_getElem hi];rfl
theorem Ef.md{α:Type}(E:Ef α){h h':AH}{S T:Fp}{cs:List AV}{a:α}(m:Md T h h')(d:Dis S T)(e:E.has h S cs a):E.has h' S cs a:=by
 have key:∀k,k<=h.blks.size->E.has (mixA h h' k) S cs a:=by
  intro k
  induction k with
  | zero =>
   intro _;refine E.grow ⟨m.old,by rw[kgh];exact qbp _,λi hi=>?_⟩ e;rw[kjv m.size hi,if_neg (by omega)]
  | succ k ih =>
   intro I;have A:=ih (by omega);by_cases C:S k
   ·have F:¬T k:=λt=>d k C t;refine E.grow (show Grow (mixA h h' k) (mixA h h' (k+1))from⟨rfl,by rw[kgh,kgh];exact qbp _,λi hi=>?_⟩) A;rw[kgh]at hi;rw[kjv m.size hi,kjv m.size hi];by_cases h1:i=k
    ·subst h1;rw[if_pos (by omega),if_neg (by omega),m.blk i hi F]
    ·by_cases y:i<k
     ·rw[if_pos (by omega),if_pos y]
     ·rw[if_neg (by omega),if_neg y]
   ·refine E.upd C (show Upd (mixA h h' k) (mixA h h' (k+1)) k from⟨rfl,by rw[kgh,kgh];exact qbp _,λi H hi=>?_⟩) A;rw[kgh]at hi;rw[kjv m.size hi,kjv m.size hi];by_cases y:i<k
    ·rw[if_pos (by omega),if_pos y]
    ·rw[if_neg (by omega),if_neg y]
 refine E.grow (show Grow (mixA h h' h.blks.size) h' from⟨rfl,by rw[kgh];exact m.size,λi hi=>?_⟩) (key _ (qbp _));rw[kgh]at hi;rw[kjv m.size hi,if_pos hi]
section
variable{α:Type}{E:Ef α}
theorem Sq.md{h h':AH}{S T:Fp}{s:Sl}{xs:List α}(n:Sq E h S s xs)(m:Md T h h')(d:Dis S T):Sq E h' S s xs:=by
 obtain⟨s',e,y⟩:=Ef.md (Ef.seq E) m d (show(Ef.seq E).has h S [s.v] xs from⟨s,rfl,n⟩);cases Sl.vs_inj e;exact y
theorem Nats.mdE{h h':AH}{S T:Fp}{s:Sl}{xs:List Nat}(n:Nats h s xs)(a:∀j,¬Av s j xs->S j)(m:Md T h h')(d:Dis S T):Nats h' s xs:=by
 obtain⟨s',e,y,_⟩:=Ef.md Ef.nats m d (show Ef.nats.has h S [s.v] xs from⟨s,rfl,n,a⟩);cases Sl.vs_inj e;exact y
theorem GF.md{elem:TypeId}{h h':AH}{S T:Fp}{s:Sl}(m:Md T h h')(d:Dis S T):∀{j:Option Nat}{xs:List α},GF E elem h S s j xs->(∀k,j=some k->¬T k)->GF E elem h' S s j xs
 | .none,_,v,_=>v
 | .some k,_,⟨l,a,r,ln,rows,e,b,c,r2⟩,ne=>⟨l,a,r,ln,rows,e,m.has b (ne k rfl),c,r2.imp λ_ _=>E.md m d⟩
end
end Go.Ab
namespace Go.Ab
def kvGet{A:Type}:List (Int×A)->Int->Option A
 | [],_=>none
 | (k,v)::t,n=>if n=k then some v else kvGet t n
def kvPut{A:Type}:List (Int×A)->Int->A->List (Int×A)
 | [],n,v=>[(n,v)]
 | (k,w)::t,n,v=>if n=k then(k,v)::t else(k,w)::kvPut t n v
def kvDel{A:Type}:List (Int×A)->Int->List (Int×A)
 | [],_=>[]
 | (k,w)::t,n=>if n=k then t else(k,w)::kvDel t n
theorem k84{A:Type}(l:List (Int×A))(n m:Int)(v:A):kvGet (kvPut l n v) m=if m=n then some v else kvGet l m:=by
 induction l with
 | nil=>simp[kvPut,kvGet]
 | cons p t ih =>
  obtain⟨k,w⟩:=p;simp only[kvPut];by_cases h:n=k
  ·subst h;rw[if_pos rfl];simp only[kvGet];by_cases y:m=n
   ·rw[if_pos y,if_pos y]
   ·rw[if_neg y,if_neg y,if_neg y]
  ·rw[if_neg h];simp only[kvGet,ih];by_cases y:m=k
   ·rw[if_pos y,if_pos y,if_neg (by omega)]
   ·rw[if_neg y,if_neg y]
theorem k3o{A:Type}{l:List (Int×A)}{n:Int}(v:A)(h:kvGet l n=none):kvPut l n v=l++[(n,v)]:=by
 induction l with
 | nil=>rfl
 | cons p t ih =>
  obtain⟨k,w⟩:=p;simp only[kvGet]at h;by_cases e:n=k
  ·rw[if_pos e]at h;cases h
  ·rw[if_neg e]at h;simp only[kvPut,if_neg e,ih h,List.cons_append]
theorem kza{A:Type}{l:List (Int×A)}{n:Int}{w:A}(v:A)(h:kvGet l n=some w):(kvPut l n v).length=l.length:=by
 induction l with
 | nil=>cases h
 | cons p t ih =>
  obtain⟨k,u⟩:=p;simp only[kvGet]at h;by_cases e:n=k
  ·simp only[kvPut,if_pos e,qb1]
  ·rw[if_neg e]at h;simp only[kvPut,if_neg e,qb1,ih h]
def Kv(es:List AEnt)(l:List (Int×AV)):Prop:=es.map (λe=>(e.key,e.val))=l.map λp=>(AV.int .i64 p.1,p.2)
theorem Kv.nil:Kv [] []:=rfl
theorem Kv.len{es:List AEnt}{l:List (Int×AV)}(k:Kv es l):es.length=l.length:=by
 have:=congrArg List.length k
 simpa using this
theorem k08{n:Int}:∀{es:List AEnt}{l:List (Int×AV)}(j:Nat),Kv es l->
  (findA .i64 n es j=some none/\kvGet l n=none/\(∀v b,Kv (es++[⟨.int .i64 n,v,b⟩]) (kvPut l n v))/\kvDel l n=l)\/
  ∃t v,findA .i64 n es j=some (some (j+t,v))/\t<es.length/\kvGet l n=some v/\(∀w,Kv (es.modify t λe=>⟨.int .i64 n,w,e.born⟩) (kvPut l n w))/\Kv (es.eraseIdx t) (kvDel l n)
 | [],l,j,k=>by
  cases l with
  | nil=>exact .inl ⟨rfl,rfl,λv b=>rfl,rfl⟩
  | cons p t=>simp[Kv]at k
 | e::es,l,j,k=>by
  cases l with
  | nil=>simp[Kv]at k
  | cons p t =>
   obtain⟨m,w⟩:=p;simp only[Kv,List.map_cons,List.cons.injEq,qcb]at k;obtain⟨⟨y,A⟩,C⟩:=k;have ih:=k08 (n:=n) (j+1) (show Kv es t from C);simp only[findA,y,decide_true,cond_true,kvGet,kvPut,kvDel];by_cases h:n=m
   ·subst h
    right
    refine⟨0,e.val,by simp,by simp,by rw[if_pos rfl,A],λu=>?_,?_⟩
    ·simp only[if_true];simp only[Kv,List.modify_zero_cons,List.map_cons];rw[show es.map _=t.map _ from C]
    ·simp only[if_true];exact C
   ·rw[qby h,cond_false];simp only[if_neg h];rcases ih with⟨a,b,c,d⟩ | ⟨x,v,a,b,c,d,f⟩
    ·left
     refine⟨a,b,λv F=>?_,by rw[d]⟩;have:=c v F;simp only[Kv,List.map_append,List.cons_append,List.map_cons]at this|-;rw[this,y,A]
    ·right
     refine⟨x+1,v,by rw[a];congr 3;omega,by simp;omega,c,λu=>?_,?_⟩
     ·have:=d u;simp only[Kv,List.modify_succ_cons,List.map_cons]at this|-;rw[this,y,A]
     ·simp only[Kv,List.eraseIdx_cons_succ,List.map_cons]at f|-;rw[f,y,A]
def MapIs(h:AH)(i:Nat)(l:List (Int×AV)):Prop:=∃es ck,h.blks[i]?=some (.map es ck)/\Kv es l
theorem MapIs.lt{h:AH}{i:Nat}{l:List (Int×AV)}(m:MapIs h i l):i<h.blks.size:=by
 obtain⟨es,ck,e,_⟩:=m;exact(qcc.1 e).1
theorem AH.setBlk_Upd{h:AH}{i:Nat}(b:ABlk):Upd h (h.setBlk i b) i:=⟨rfl,by rw[AH.setBlk_size];exact qbp _,λj y _=>AH.setBlk_ne y⟩
section
variable{h:AH}{i:Nat}{l:List (Int×AV)}
theorem MapIs.at(m:MapIs h i l):∃es ck,h.mapAt i=some (es,ck)/\Kv es l:=by
 obtain⟨es,ck,e,k⟩:=m;exact⟨es,ck,by simp only[AH.mapAt,e],k⟩
theorem MapIs.put(m:MapIs h i l)(n:Int)(v:AV):∃h',mapPut h i .i64 n v=some h'/\MapIs h' i (kvPut l n v)/\Upd h h' i:=by
 have y:=m.lt;obtain⟨es,ck,e,k⟩:=m.at;simp only[mapPut,e,qbt];rcases k08 (n:=n) 0 k with⟨a,b,c,_⟩ | ⟨t,w,a,_,b,c,_⟩
 ·rw[a];exact⟨_,rfl,⟨_,_,AH.setBlk_get y,c v ck⟩,AH.setBlk_Upd _⟩
 ·rw[a,Nat.zero_add];exact⟨_,rfl,⟨_,_,AH.setBlk_get y,c v⟩,AH.setBlk_Upd _⟩
theorem MapIs.size(m:MapIs h i l):mapLen h (some i)=some l.length:=by
 obtain⟨es,ck,e,k⟩:=m.at;simp only[mapLen,e,Option.map_some,k.len]
end
section
variable{P:AV->AH->Prop}
theorem Runs.call{x:Option (AV×AH)}{Q:AV->AH->Prop}{K:AV×AH->Option (AV×AH)}(r:Runs x Q)(H:∀v h',Q v h'->Runs (K (v,h')) P):Runs (x.bind K) P:=by
 obtain⟨v,h',e,q⟩:=r;subst e;exact H v h' q
theorem Runs.newMap{h:AH}{K:Nat->AH->Option (AV×AH)}(H:∀h',MapIs h' h.blks.size []->Grow h h'->Runs (K h.blks.size h') P):Runs (Go.Ab.newM h (.map [] 0) K) P :=
 Runs.newM λh' e g=>H h' ⟨[],0,e,Kv.nil⟩ g
theorem ko4{n:Nat}{G:Int->AH->Option (AV×AH)}{p:Nat->Bool}{h0:AH}
  (step:∀(i:Nat)(h:AH)(P:AV->AH->Prop),i<n->Grow h0 h->(∀h',Grow h0 h'->p i=true->P (.int .i64 (i:Int)) h')->(∀h',Grow h0 h'->p i=false->Runs (G ((i+1:Nat):Int) h') P)->Runs (G (i:Int) h) P)
  (done:∀(h:AH),Grow h0 h->G (n:Int) h=some (.int .i64 (-1),h)):∀(k i:Nat),i+k=n->∀{h:AH},Grow h0 h->(∀j,j<i->p j=false)->
  Runs (G (i:Int) h) λv h'=>Grow h0 h'/\((v=.int .i64 (-1)/\∀j,j<n->p j=false)\/∃j,j<n/\v=.int .i64 (j:Int)/\p j=true/\∀t,t<j->p t=false):=by
 intro k
 induction k with
 | zero =>
  intro i hi h g y;have:i=n:=by omega
  subst this;rw[done h g];exact qy ⟨g,.inl ⟨rfl,y⟩⟩
 | succ k ih =>
  intro i hi h g y;refine step i h _ (by omega) g (λh' A e=>⟨A,.inr ⟨i,by omega,rfl,e,y⟩⟩) λh' A e=>ih (i+1) (by omega) A λj C=>?_;rcases Nat.lt_or_ge j i with h1 | h1
  ·exact y j h1
  ·have:j=i:=by omega
   subst this;exact e
theorem Runs.contains{α:Type}{xs:List α}{p:α->Bool}{x:Option (AV×AH)}{h0:AH}(R:Runs x λv h'=>Grow h0 h'/\((v=.int .i64 (-1)/\∀j,j<xs.length->(xs[j]?).any p=false)\/∃j,j<xs.length/\v=.int .i64 (j:Int)/\(xs[j]?).any p=true/\∀t,t<j->(xs[t]?).any p=false)) :
  Runs (x.bind λq=>((some q.1).bind (AV.asInt .i64)).bind λn=>some (.bool (decide (n>=0)),q.2)) λv h'=>v=.bool (xs.any p)/\Grow h0 h':=by
 refine R.call λv h' ⟨g,d⟩=>?_;rcases d with⟨rfl,a⟩ | ⟨j,A,rfl,a,_⟩
 ·refine qz (seen qcn) (qy ⟨?_,g⟩)
  have:xs.any p=false:=by
   rw[List.any_eq_false];intro y F;obtain⟨t,C,rfl⟩:=List.getElem_of_mem F;have:=a t C;rw[qb3 C]at this
   simpa using this
  rw[this];exact congrArg AV.bool (qby (by omega))
 ·refine qz (seen qcn) (qy ⟨?_,g⟩)
  have:xs.any p=true:=by
   rw[List.any_eq_true];rw[qb3 A]at a;exact⟨xs[j],qb2 A,by simpa using a⟩
  rw[this];exact congrArg AV.bool (qbx (by omega))
end
abbrev EI:Ef Int:=Ef.int .i64
section
variable{h:AH}{S:Fp}{s:Sl}
theorem Sq.int{k:IntKind}{xs:List Int}(n:Sq (Ef.int k) h S s xs){i:Nat}(hi:i<xs.length):∃r:Ref,idx s.ref s.len (i:Int) 1=some r/\(h.cell r).bind (AV.asInt k)=some xs[i]:=by
 obtain⟨r,cs,A,y,l⟩:=n.at (kii hi);have y:cs=[.int k xs[i]]:=y;subst y;rw[n.len];exact⟨r,A,l.rd0 (ql _) rfl qcn⟩
theorem Sq.sl{α:Type}{E:Ef α}{xs:List (List α)}(n:Sq (Ef.seq E) h S s xs){i:Nat}(hi:i<xs.length):∃(r:Ref)(s':Sl),idx s.ref s.len (i:Int) 1=some r/\(h.cell r).bind AV.asSl=some s'/\(h.cell (r.add 0)).bind AV.asSl=some s'/\Sq E h S s' xs[i]:=by
 obtain⟨r,cs,y,⟨s',rfl,A⟩,l⟩:=n.at (kii hi);rw[n.len];exact⟨r,s',y,l.rd0 (ql _) rfl qcm,l.rd (ql _) 0 rfl qcm,A⟩
end
theorem k8v{P:Program}{h:AH}{t e:TypeId}{cs:List AV}{k:IntKind}(S:Fp)(A:P.underlying t=some (.slice e))(C:P.underlying e=some (.int k))(F:P.cellsOf e=1)(a:ArgT P h t cs):∃(s:Sl)(xs:List Int),cs=[s.v]/\Sq (Ef.int k) h S s xs :=
 Sq.of_arg (E:=Ef.int k) A F (λes t=>by
  obtain⟨y,rfl,w⟩:=t.int C;exact⟨y,rfl⟩) a
structure Nd where
 leaf:Bool
 weight:Int
 party:Int
 feature:Int
 cut:Int
 left:Int
 right:Int
 deriving DecidableEq
def Nd.cells(x:Nd):List AV:=[.bool x.leaf,.int .i64 x.weight,.int .i64 x.party,.int .i64 x.feature,.int .i64 x.cut,.int .i64 x.left,.int .i64 x.right]
@[reducible] def Ef.nd:Ef Nd where
 w:=7
 pos:=by decide
 has _ _ cs x:=cs=x.cells
 len e:=by rw[e];rfl
 grow _ e:=e
 mono _ e:=e
 upd _ _ e:=e
 bound e:=e
theorem Sq.nd{h:AH}{S:Fp}{s:Sl}{xs:List Nd}(n:Sq Ef.nd h S s xs){i:Nat}(hi:i<xs.length):∃r:Ref,idx s.ref s.len (i:Int) 7=some r/\(h.cell (r.add 0)).bind AV.asBool=some xs[i].leaf/\(h.cell (r.add 1)).bind (AV.asInt .i64)=some xs[i].weight/\
  (h.cell (r.add 2)).bind (AV.asInt .i64)=some xs[i].party/\(h.cell (r.add 3)).bind (AV.asInt .i64)=some xs[i].feature/\(h.cell (r.add 4)).bind (AV.asInt .i64)=some xs[i].cut/\(h.cell (r.add 5)).bind (AV.asInt .i64)=some xs[i].left/\(h.cell (r.add 6)).bind (AV.asInt .i64)=some xs[i].right:=by
 obtain⟨r,cs,A,y,l⟩:=n.at (kii hi);have y:cs=xs[i].cells:=y;subst y;rw[n.len];have g:=ql h;exact⟨r,A,l.rd g 0 rfl rfl,l.rd g 1 rfl qcn,l.rd g 2 rfl qcn,l.rd g 3 rfl qcn,l.rd g 4 rfl qcn,l.rd g 5 rfl qcn,l.rd g 6 rfl qcn⟩
theorem kbbf{α:Type}{xs:List α}{i:Nat}(hi:i<xs.length)(p:α->Bool):(xs.drop i).all p=(p xs[i]&&(xs.drop (i+1)).all p):=by
 rw[qcf hi,List.all_cons]
theorem kxx{α:Type}{xs:List α}{i:Nat}(hi:xs.length<=i)(p:α->Bool):(xs.drop i).all p=true:=by
 rw[List.drop_of_length_le hi];rfl
theorem kzc{n i:Nat}(hi:i<n)(p:Nat->Bool):((List.range n).drop i).all p=(p i&&((List.range n).drop (i+1)).all p):=by
 rw[kbbf (by simpa using hi),List.getElem_range]
variable{P:Program}{α:Type}{E:Ef α}{elem:TypeId}
def GQ{α:Type}(E:Ef α)(elem:TypeId)(h:AH)(S:Fp)(s:Sl)(k:Nat)(xs:List α):Prop :=
 ¬S k/\s.ref=some (.new k 0)/\s.len=xs.length/\∃(rows y:List (List AV))(e:TypeId),h.has k (rows++y).flatten e/\(∀r∈y,r.length=E.w)/\(s.cap=.is (rows.length+y.length)\/s.cap=.opn E.w/\e=elem)/\All2 (E.has h S) rows xs/\rows.length+y.length<=9223372036854775807
variable{h h':AH}{S T:Fp}{s:Sl}{k:Nat}{xs:List α}
theorem GQ.lit{i n:Nat}{rows:List (List AV)}{e:TypeId}(b:h.has i rows.flatten e)(c:All2 (E.has h S) rows xs)(a:¬S i)(y:xs.length=n)(A:n<=9223372036854775807:=by decide):GQ E elem h S ⟨some (.new i 0),n,.is n⟩ i xs :=
 ⟨a,rfl,y.symm,rows,[],e,by simpa using b,by simp,.inl (by simp[qbl c,y]),c,by simp[qbl c];omega⟩
theorem GQ.grow(v:GQ E elem h S s k xs)(g:Grow h h'):GQ E elem h' S s k xs:=by
 obtain⟨a,r,y,rows,A,e,b,w,c,r2,l⟩:=v;exact⟨a,r,y,rows,A,e,g.has b,w,c,r2.imp λ_ _=>E.grow g,l⟩
theorem GQ.lt(v:GQ E elem h S s k xs):k<h.blks.size:=by
 obtain⟨a,r,y,rows,A,e,b,w,c,r2,l⟩:=v;exact b.lt
theorem GQ.not(v:GQ E elem h S s k xs):¬S k:=v.1
theorem GQ.mono(v:GQ E elem h S s k xs)(m:∀j,S j->T j)(no:¬T k):GQ E elem h T s k xs:=by
 obtain⟨a,r,y,rows,A,e,b,w,c,r2,l⟩:=v;exact⟨no,r,y,rows,A,e,b,w,c,r2.imp λ_ _=>E.mono m,l⟩
theorem GQ.bound(v:GQ E elem h S s k xs):GQ E elem h (λj=>S j/\j<h.blks.size) s k xs:=by
 obtain⟨a,r,y,rows,A,e,b,w,c,r2,l⟩:=v;exact⟨λx=>a x.1,r,y,rows,A,e,b,w,c,r2.imp λ_ _=>E.bound,l⟩
theorem GQ.upd{i:Nat}(v:GQ E elem h S s k xs)(u:Upd h h' i)(no:¬S i)(ne:k≠i):GQ E elem h' S s k xs:=by
 obtain⟨a,r,y,rows,A,e,b,w,c,r2,l⟩:=v;exact⟨a,r,y,rows,A,e,b.updr ne u,w,c,r2.imp λ_ _=>E.upd no u,l⟩
theorem GQ.md(v:GQ E elem h S s k xs)(m:Md T h h')(d:Dis S T)(ne:¬T k):GQ E elem h' S s k xs:=by
 obtain⟨a,r,y,rows,A,e,b,w,c,r2,l⟩:=v;exact⟨a,r,y,rows,A,e,m.has b ne,w,c,r2.imp λ_ _=>E.md m d,l⟩
theorem GQ.cells{rows y:List (List AV)}{e:TypeId}(r:s.ref=some (.new k 0))(A:s.len=xs.length)(b:h.has k (rows++y).flatten e)(c:s.cap=.is (rows.length+y.length)\/s.cap=.opn E.w/\e=elem)(r2:All2 (E.has h S) rows xs):Cells h s E.w rows.flatten:=by
 have F:s.len*E.w=rows.flatten.length:=by rw[kd4 (Ef.rows r2),qbl r2,A]
 refine⟨?_,F,λi v C=>⟨_,r,?_⟩⟩
 ·unfold Sl.fit;rcases c with c | c
  ·rw[c,A,<- qbl r2];exact Nat.le_add_right _ _
  ·rw[c.1]
 ·rw[qj,Nat.zero_add,b.cell,List.flatten_append,List.getElem?_append_left (qcd.1 C).1];exact C
theorem GQ.sq(v:GQ E elem h S s k xs):Sq E h (Fp.or (λj=>j=k) S) s xs:=by
 obtain⟨a,r,y,rows,C,e,b,w,c,r2,l⟩:=v;refine⟨⟨rows,GQ.cells r y b c r2,r2.imp λ_ _=>E.mono λj x=>.inr x⟩,y,?_,.inr λj o A=>?_⟩
 ·have:=qbl r2;omega
 ·rw[r]at A;cases A;exact .inl rfl
theorem ksn{w:Nat}:∀{rs:List (List AV)}(n:Nat),(∀r∈rs,r.length=w)->rs.flatten.take (n*w)=(rs.take n).flatten/\rs.flatten.drop (n*w)=(rs.drop n).flatten
 | [],n,_=>by simp
 | r::rs,0,y=>by simp
 | r::rs,n+1,y=>by
  have h1:=ksn (rs:=rs) n λq C=>y q (by simp[C]);have A:=y r (by simp);rw[Nat.succ_mul,List.flatten_cons,List.take_succ_cons,List.drop_succ_cons,List.flatten_cons,<- h1.1,<- h1.2];constructor
  ·rw[List.take_append,A,List.take_of_length_le (by omega),Nat.add_sub_cancel]
  ·rw[List.drop_append,A,List.drop_eq_nil_of_le (by omega),Nat.add_sub_cancel,List.nil_append]
theorem kz4{w:Nat}{rs:List (List AV)}{j:Nat}{cs:List AV}(y:∀r∈rs,r.length=w)(A:j<rs.length)(C:cs.length=w):rs.flatten.take (j*w)++cs++rs.flatten.drop (j*w+cs.length)=(rs.set j cs).flatten:=by
 have F:j*w+cs.length=(j+1)*w:=by rw[C,Nat.succ_mul]
 rw[F,(ksn j y).1,(ksn (j+1) y).2,List.set_eq_take_append_cons_drop,if_pos A];simp
theorem GQ.rowsW{rows y:List (List AV)}(r2:All2 (E.has h S) rows xs)(w:∀r∈y,r.length=E.w):∀r∈rows++y,r.length=E.w:=λr A=>(qb4.1 A).elim (Ef.rows r2 r) (w r)
theorem GQ.at(v:GQ E elem h S s k xs){i:Nat}(hi:i<xs.length):∃(r:Ref)(cs:List AV),idx s.ref s.len (i:Int) E.w=some r/\E.has h S cs xs[i]/\Lies h r cs:=by
 obtain⟨a,r,H,rows,I,e,b,w,c,r2,l⟩:=v;obtain⟨cs,y,A⟩:=r2.get (qb3 hi);have C:=qbl r2;refine⟨.new k (i*E.w),cs,?_,A,⟨λj x F=>?_⟩⟩
 ·rw[r,kdx _ _ _ _ (by omega) (by omega)];simp
 ·rw[qj,b.cell];exact kqi (GQ.rowsW r2 w) (by rw[List.getElem?_append_left (by omega)];exact y) F
theorem GQ.set(v:GQ E elem h S s k xs){cs:List AV}{x:α}(c:E.has h T cs x)(no:¬T k){j:Nat}(V:j<xs.length) :
  ∃r h',idx s.ref s.len (j:Int) E.w=some r/\h.puts r cs=some h'/\GQ E elem h' (Fp.or S T) s k (xs.set j x)/\Upd h h' k:=by
 obtain⟨a,r,K,rows,A,e,b,w,Q,r2,l⟩:=v;have U:=qbl r2;have H:=GQ.rowsW r2 w;have I:=E.len c
 have F:j*E.w+cs.length<=(rows++A).flatten.length:=by
  rw[kd4 H,I,<- Nat.succ_mul,qbz];exact Nat.mul_le_mul_right _ (by omega)
 have key:=kz4 (j:=j) H (by rw[qbz];omega) I;have C:(rows++A).set j cs=rows.set j cs++A:=List.set_append_left _ _ (by omega);rw[C]at key;refine⟨.new k (j*E.w),h.upd k (rows.set j cs++A).flatten e,?_,?_,⟨λx=>x.elim a no,r,by simpa using K,rows.set j cs,A,e,qp b _ _,w,by simpa using Q,?_,by simpa using l⟩,AH.upd_Upd h k _ e⟩
 ·rw[r,kdx _ _ _ _ (by omega) (by omega)];simp
 ·rw[b.puts F,key]
 ·have:All2 (λcs a=>E.has h (Fp.or S T) cs a) (rows.set j cs) (xs.set j x):=All2.set (r2.imp λ_ _=>E.mono λj k=>.inl k) (E.mono (λj k=>.inr k) c) j;exact this.imp λ_ _ y=>E.upd (λx=>x.elim a no) (AH.upd_Upd h k _ e) y
theorem GQ.push(v:GQ E elem h S s k xs){cs:List AV}{x:α}(c:E.has h T cs x)(no:¬T k)(Q:growOk P (xs.length+1) elem E.w=true) :
  ∃s' h' X,kv P s cs 1 elem E.w h=some (s'.v,h')/\GQ E elem h' (λj=>(Fp.or S T) j/\j<h.blks.size) s' X (xs++[x])/\Upd h h' k/\(X=k\/X=h.blks.size):=by
 have hl:=kuc Q;have hw:=E.len c;have nS:¬((Fp.or S T) h.blks.size/\h.blks.size<h.blks.size):=λk=>Nat.lt_irrefl _ k.2;obtain⟨a,r,H,rows,C,e,b,w,cp,r2,l⟩:=v;have Y:=qbl r2;have cc:=GQ.cells r H b cp r2;rw[<- H]at Q hl
 have newB:∀{h1 U:AH},h1.blks.size=h.blks.size->Upd h h1 k->U=h1.push (.cells (rows.flatten++cs) elem)->GQ E elem U (λj=>(Fp.or S T) j/\j<h.blks.size) ⟨some (.new h.blks.size 0),s.len+1,.opn E.w⟩ h.blks.size (xs++[x])/\Upd h U k:=by
  intro h1 U sz u e2;subst e2;refine⟨⟨nS,rfl,by simp[H],rows++[cs],[],elem,?_,by simp,.inr ⟨rfl,rfl⟩,All2.snoc (r2.imp λ_ _ y=>?_) ?_,by simp;omega⟩,u.trans ((qm _ _).toUpd k)⟩
  ·have:=qo h1 (rows.flatten++cs) elem;rw[sz]at this
   simpa using this
  ·exact E.grow (qm _ _) (E.mono (λj q=>⟨.inl q.1,q.2⟩) (E.upd (λq=>a q.1) u (E.bound y)))
  ·exact E.grow (qm _ _) (E.mono (λj q=>⟨.inr q.1,q.2⟩) (E.upd (λq=>no q.1) u (E.bound c)))
 rcases cp with I | ⟨I,rfl⟩
 ·cases C with
  | nil =>
   rw[kfj I (by simp;omega) Q cc];obtain⟨Z,u2⟩:=newB (h1:=h) rfl ((ql h).toUpd k) rfl;exact⟨_,_,_,rfl,Z,u2,.inr rfl⟩
  | cons q C =>
   have V:=GQ.rowsW r2 w
   have aa:rows.length*E.w+cs.length<=(rows++q::C).flatten.length:=by
    rw[kd4 V,hw,<- Nat.succ_mul,qbz,qb1];exact Nat.mul_le_mul_right _ (by omega)
   have key:=kz4 (j:=rows.length) V (by simp) hw
   have K:(rows++q::C).set rows.length cs=(rows++[cs])++C:=by
    rw[List.set_append_right _ _ (qbp _)];simp
   rw[K]at key
   have F:kv P s cs 1 elem E.w h=some (Sl.v ⟨s.ref,s.len+1,s.cap⟩,h.upd k ((rows++[cs])++C).flatten e):=by
    unfold kv;simp only[I];rw[show Nat.ble (s.len+1) (rows.length+(q::C).length)=true from Nat.ble_eq_true_of_le (by simp;omega)];simp only[cond_true,r];rw[show(Ref.new k 0).add (s.len*E.w)=Ref.new k (rows.length*E.w)from by rw[qj,Nat.zero_add,H,Y],b.puts aa,key];rfl
   rw[F];have u:=AH.upd_Upd h k ((rows++[cs])++C).flatten e;refine⟨_,_,k,rfl,⟨λx=>x.1.elim a no,r,by simp[H],rows++[cs],C,e,qp b _ _,λr V=>w r (by simp[V]),.inl ?_,All2.snoc (r2.imp λ_ _ y=>?_) ?_,by simp at l|-;omega⟩,u,.inl rfl⟩
   ·rw[I];simp;omega
   ·exact E.mono (λj q=>⟨.inl q.1,q.2⟩) (E.upd (λq=>a q.1) u (E.bound y))
   ·exact E.mono (λj q=>⟨.inr q.1,q.2⟩) (E.upd (λq=>no q.1) u (E.bound c))
 ·have F:kv P s cs 1 e E.w h=some (Sl.v ⟨some (.new h.blks.size 0),s.len+1,.opn E.w⟩,(h.kill s.ref).push (.cells (rows.flatten++cs) e)):=by
   unfold kv;simp only[I];rw[show Nat.beq 1 0=false from rfl,show Nat.beq E.w E.w=true from Nat.beq_refl _];simp only[cond_false,Q,Bool.and_true,cond_true,r,show h.blks[k]?=_ from b];have A:=cc.gets;rw[r]at A;simp only[A,qbt];rw[show Nat.beq e e=true from Nat.beq_refl _,cond_true];have:(AH.kill h (some (Ref.new k 0))).blks.size=h.blks.size:=by simp[AH.kill]
   simp[AH.next,this,Sl.v];rfl
  rw[F,r];obtain⟨Z,u2⟩:=newB (h1:=h.kill (some (.new k 0))) (by simp[AH.kill]) (AH.kill_Upd h k) rfl;exact⟨_,_,_,rfl,Z,u2,.inr rfl⟩
theorem GQ.cut(v:GQ E elem h S s k xs){n:Nat}(X:n<=xs.length):∃s',cutSl s 0 (n:Int) E.w=some s'/\GQ E elem h S s' k (xs.take n):=by
 obtain⟨a,r,Y,rows,y,e,b,w,K,r2,l⟩:=v;have Q:=qbl r2;have U:=Ef.rows r2;have H:(rows++y)=rows.take n++(rows.drop n++y):=by rw[<- List.append_assoc,List.take_append_drop]
 have t2:All2 (E.has h S) (rows.take n) (xs.take n):=All2.take r2 n;have I:∀r∈rows.drop n++y,r.length=E.w:=λr C=>(qb4.1 C).elim (λx=>U r (List.mem_of_mem_drop x)) (w r);have A:(rows.take n).length+(rows.drop n++y).length=rows.length+y.length:=by simp;omega
 rcases K with F | ⟨F,V⟩
 ·refine⟨⟨some (.new k 0),n,.is (rows.length+y.length)⟩,?_,a,rfl,by simp;omega,rows.take n,rows.drop n++y,e,by rw[<- H];exact b,I,.inl (by rw[A]),t2,by omega⟩;unfold cutSl;simp only[F];rw[qbx (show(0:Int)<=0/\(0:Int)<=(n:Int)/\(n:Int)<=((rows.length+y.length:Nat):Int)from⟨by omega,by omega,by omega⟩),cond_true,r];simp
 ·refine⟨⟨some (.new k 0),n,.opn E.w⟩,?_,a,rfl,by simp;omega,rows.take n,rows.drop n++y,e,by rw[<- H];exact b,I,.inr ⟨rfl,V⟩,t2,by omega⟩;unfold cutSl;simp only[F];rw[show Nat.beq E.w E.w=true from Nat.beq_refl _,cond_true,qbx (show(0:Int)<=0/\(0:Int)<=(n:Int)/\(n:Int)<=(s.len:Int)from⟨by omega,by omega,by omega⟩),cond_true,r];simp
theorem All2.app{α β:Type}{R:α->β->Prop}:∀{l:List α}{m:List β}{y:List α}{A:List β},All2 R l m->All2 R y A->All2 R (l++y) (m++A)
 | _,_,_,_,.nil,b=>b
 | _,_,_,_,.cons h a,b=>.cons h (All2.app a b)
theorem GF.pushs{h:AH}{S T:Fp}{s:Sl}{i:Option Nat}{xs ys:List α}{rows':List (List AV)}{n:Nat}(v:GF E elem h S s i xs)(c:All2 (E.has h T) rows' ys)(hn:rows'.length=n)(h0:0<n)(no:NotO T i)(C:growOk P (xs.length+n) elem E.w=true) :
  ∃s' h',kv P s rows'.flatten n elem E.w h=some (s'.v,h')/\GF E elem h' (λj=>(Fp.or S T) j/\j<h.blks.size) s' (some h.blks.size) (xs++ys)/\UpdO h h' i:=by
 have X:=kuc C;have Y:=qbl c;have F:¬((Fp.or S T) h.blks.size/\h.blks.size<h.blks.size):=λk=>Nat.lt_irrefl _ k.2;cases i with
 | none =>
  obtain⟨_,Z,e2⟩:=v;subst Z;subst e2;rw[kfj (c:=0) rfl (by simpa using h0) (by simpa using C) (Cells.nil h E.w)];refine⟨_,_,rfl,⟨by simp at X|-;omega,F,rfl,by simp;omega,rows',elem,?_,.inr ⟨rfl,rfl⟩,?_⟩,qm _ _⟩
  ·simpa using qo h rows'.flatten elem
  ·rw[List.nil_append];exact c.imp λ_ _ y=>E.grow (qm _ _) (E.mono (λj k=>⟨.inr k.1,k.2⟩) (E.bound y))
 | some k =>
  have sq:=v.sq;obtain⟨l,a,r,K,rows,e,b,Q,r2⟩:=v;have hr:=Ef.rows r2
  have U:Cells h s E.w rows.flatten:=by
   have V:=qr (n:=E.w) (m:=s.len) b (by rw[kd4 hr,qbl r2,K]);refine⟨?_,V.len,by rw[r];exact V.get⟩;rcases Q with c | c
   ·unfold Sl.fit;rw[c];exact qbp _
   ·unfold Sl.fit;rw[c.1]
  rw[<- K]at C;rcases Q with H | ⟨H,rfl⟩
  ·rw[kfj H (by omega) C U];refine⟨_,_,rfl,⟨by rw[qbz];omega,F,rfl,by rw[qbz];show s.len+n=_;omega,rows++rows',elem,?_,.inr ⟨rfl,rfl⟩,All2.app (r2.imp λ_ _ y=>?_) (c.imp λ_ _ y=>?_)⟩,(qm _ _).toUpd k⟩
   ·have:=qo h (rows.flatten++rows'.flatten) elem
    simpa using this
   ·exact E.grow (qm _ _) (E.mono (λj q=>⟨.inl q.1,q.2⟩) (E.bound y))
   ·exact E.grow (qm _ _) (E.mono (λj q=>⟨.inr q.1,q.2⟩) (E.bound y))
  ·have I:kv P s rows'.flatten n e E.w h=some (Sl.v ⟨some (.new h.blks.size 0),s.len+n,.opn E.w⟩,(h.kill s.ref).push (.cells (rows.flatten++rows'.flatten) e)):=by
    unfold kv;simp only[H]
    rw[show Nat.beq n 0=false from by
     cases hb:Nat.beq n 0 with
     | false=>rfl
     | true=>have:=Nat.eq_of_beq_eq_true hb;omega,show Nat.beq E.w E.w=true from Nat.beq_refl _]
    simp only[cond_false,C,Bool.and_true,cond_true,r,show h.blks[k]?=_ from b];have A:=U.gets;rw[r]at A;simp only[A,qbt];rw[show Nat.beq e e=true from Nat.beq_refl _,cond_true];have:(AH.kill h (some (Ref.new k 0))).blks.size=h.blks.size:=by simp[AH.kill]
    simp[AH.next,this,Sl.v];rfl
   rw[I,r];have sz:(h.kill (some (.new k 0))).blks.size=h.blks.size:=by simp[AH.kill]
   have u:Upd h (h.kill (some (.new k 0))) k:=AH.kill_Upd h k;refine⟨_,_,rfl,⟨by rw[qbz];omega,F,rfl,by rw[qbz];show s.len+n=_;omega,rows++rows',e,?_,.inr ⟨rfl,rfl⟩,All2.app (r2.imp λ_ _ y=>?_) (c.imp λ_ _ y=>?_)⟩,u.trans ((qm _ _).toUpd k)⟩
   ·have:=qo (h.kill (some (.new k 0))) (rows.flatten++rows'.flatten) e;rw[sz]at this
    simpa using this
   ·exact E.grow (qm _ _) (E.mono (λj q=>⟨.inl q.1,q.2⟩) (E.upd (λq=>a q.1) u (E.bound y)))
   ·exact E.grow (qm _ _) (E.mono (λj q=>⟨.inr q.1,q.2⟩) (E.upd (λq=>no q.1) u (E.bound y)))
theorem kv4(l:List AV):∀n:Nat,repC l n=(List.replicate n l).flatten
 | 0=>rfl
 | n+1=>by rw[List.replicate_succ,List.flatten_cons,<- kv4 l n];rfl
theorem All2.rep{α β:Type}{R:α->β->Prop}{a:α}{b:β}(h:R a b):∀n:Nat,All2 R (List.replicate n a) (List.replicate n b)
 | 0=>.nil
 | n+1=>.cons h (All2.rep h n)
theorem GF.mk{h:AH}{S:Fp}{n bytes:Nat}{l c:Int}{cs:List AV}{x:α}(y:∀h',E.has h' S cs x)(no:¬S h.blks.size)(h1:l=(n:Int))(A:c=(n:Int))(C:n*bytes<=70368744177664)(F:n<=70368744177664) :
  ∃h',kby l c elem bytes cs h=some (⟨some (.new h.blks.size 0),n,.is n⟩,h')/\Grow h h'/\GF E elem h' S ⟨some (.new h.blks.size 0),n,.is n⟩ (some h.blks.size) (List.replicate n x):=by
 refine⟨_,kva h1 A C F,qm _ _,?_⟩
 have b:AH.has (h.push (.cells (repC cs n) elem)) h.blks.size (List.replicate n cs).flatten elem:=by
  have:=qo h (repC cs n) elem;rw[kv4]at this|-;exact this
 exact GF.lit (e:=elem) b (All2.rep (y _) n) no (by simp) (by omega)
end Go.Ab
namespace Go.Heap
variable{α:Type}
def swapL(l:List α)(i j:Nat):List α:=match l[i]?,l[j]? with
 | some a,some b=>(l.set i b).set j a
 | _,_=>l
theorem khc(l:List α)(i j:Nat):(swapL l i j).length=l.length:=by
 unfold swapL;split<;>simp
theorem krs{l:List α}{i j:Nat}(hi:i<l.length)(y:j<l.length)(k:Nat):(swapL l i j)[k]?=if k=j then l[i]? else if k=i then l[j]? else l[k]?:=by
 unfold swapL;rw[List.getElem?_eq_getElem hi,List.getElem?_eq_getElem y];simp only[List.getElem?_set]
 grind
theorem kzw{l:List α}{i j:Nat}(hi:i<l.length)(y:j<l.length):(swapL l i j).Perm l:=by
 unfold swapL;rw[List.getElem?_eq_getElem hi,List.getElem?_eq_getElem y];exact List.set_set_perm hi y
variable(key:α->Int)
def at'(l:List α)(i:Nat):Int:=((l[i]?).map key).getD 0
def kidL(n i:Nat)(l:List α):Nat:=if 2*i+2<n/\at' key l (2*i+2)<at' key l (2*i+1)then 2*i+2 else 2*i+1
def downL(n:Nat):Nat->Nat->List α->List α
 | 0,_,l=>l
 | m+1,i,l=>if 2*i+1<n then if at' key l (kidL key n i l)<at' key l i then downL n m (kidL key n i l) (swapL l i (kidL key n i l))else l else l
theorem ktv(n i:Nat)(l:List α):(kidL key n i l=2*i+2/\2*i+2<n/\at' key l (2*i+2)<at' key l (2*i+1))\/(kidL key n i l=2*i+1/\(2*i+2<n->at' key l (2*i+1)<=at' key l (2*i+2))):=by
 unfold kidL;split
 ·rename_i y;exact .inl ⟨rfl,y⟩
 ·rename_i y;refine .inr ⟨rfl,λA=>Int.not_lt.1 λC=>y ⟨A,C⟩⟩
theorem kz1{n i:Nat}{l:List α}(h:2*i+1<n):kidL key n i l<n:=by
 rcases ktv key n i l with⟨e,h1,_⟩ | ⟨e,_⟩<;>omega
theorem kvd(n:Nat):∀(m i:Nat)(l:List α),(downL key n m i l).length=l.length
 | 0,_,_=>rfl
 | m+1,i,l=>by
  unfold downL;split
  ·split
   ·rw[kvd n m,khc]
   ·rfl
  ·rfl
theorem kvm{n:Nat}:∀(m i:Nat)(l:List α),n<=l.length->(downL key n m i l).Perm l
 | 0,_,_,_=>List.Perm.refl _
 | m+1,i,l,h=>by
  unfold downL;split
  ·rename_i h1;have:=kz1 key (l:=l) h1;split
   ·exact(kvm m _ _ (by rw[khc];exact h)).trans (kzw (by omega) (by omega))
   ·exact List.Perm.refl _
  ·exact List.Perm.refl _
theorem kx0{n:Nat}:∀(m i:Nat)(l:List α),n<=l.length->∀k,n<=k->(downL key n m i l)[k]?=l[k]?
 | 0,_,_,_,_,_=>rfl
 | m+1,i,l,h,k,y=>by
  unfold downL;split
  ·rename_i h1;have:=kz1 key (l:=l) h1;split
   ·rw[kx0 m _ _ (by rw[khc];exact h) k y,krs (by omega) (by omega),if_neg (by omega),if_neg (by omega)]
   ·rfl
  ·rfl
def IsHeap(n:Nat)(l:List α):Prop:=∀k,0<k->k<n->at' key l ((k-1)/2)<=at' key l k
def IsHole(n i:Nat)(l:List α):Prop:=(∀k,0<k->k<n->(k-1)/2≠i->at' key l ((k-1)/2)<=at' key l k)/\(0<i->∀k,0<k->k<n->(k-1)/2=i->at' key l ((i-1)/2)<=at' key l k)
theorem kkc{l:List α}{i j:Nat}(hi:i<l.length)(y:j<l.length)(k:Nat):at' key (swapL l i j) k=if k=j then at' key l i else if k=i then at' key l j else at' key l k:=by
 unfold at';rw[krs hi y];split
 ·rfl
 ·split<;>rfl
theorem k21{n:Nat}:∀(m i:Nat)(l:List α),n<=l.length->n<=m+i->IsHole key n i l->IsHeap key n (downL key n m i l)
 | 0,i,l,h,hm,⟨h1,Y⟩=>λk y A=>h1 k y A (by omega)
 | m+1,i,l,h,hm,⟨h1,Y⟩=>by
  unfold downL;split
  ·rename_i hc;have C:=ktv key n i l;generalize kidL key n i l=j at *
   have Q:j<n:=by rcases C with⟨e,h,_⟩ | ⟨e,_⟩<;>omega
   have I:(j-1)/2=i:=by rcases C with⟨e,_⟩ | ⟨e,_⟩<;>omega
   have U:0<j:=by rcases C with⟨e,_⟩ | ⟨e,_⟩<;>omega
   have F:∀k,0<k->k<n->(k-1)/2=i->at' key l j<=at' key l k:=by
    intro k y A K;have:k=2*i+1\/k=2*i+2:=by omega
    rcases C with⟨e,Z,h4⟩ | ⟨e,Z⟩
    ·rcases this with rfl | rfl
     ·rw[e];omega
     ·rw[e];omega
    ·rcases this with rfl | rfl
     ·rw[e];omega
     ·rw[e];exact Z A
   split
   ·rename_i V;refine k21 m j _ (by rw[khc];exact h) (by omega) ⟨?_,?_⟩
    ·intro k y A K;rw[kkc key (by omega) (by omega),kkc key (by omega) (by omega)];by_cases e1:k=j
     ·subst e1;rw[if_pos rfl,if_neg (by omega),if_pos I];omega
     ·rw[if_neg e1,if_neg K];by_cases X:k=i
      ·rw[if_pos X,if_neg (by omega)];subst X;exact Y y j U Q I
      ·rw[if_neg X];by_cases H:(k-1)/2=i
       ·rw[if_pos H];exact F k y A H
       ·rw[if_neg H];exact h1 k y A H
    ·intro _ k y A K;rw[kkc key (by omega) (by omega),kkc key (by omega) (by omega),I,if_neg (by omega),if_pos rfl,if_neg (by omega),if_neg (by omega)];have:=h1 k y A (by omega);rw[K]at this;exact this
   ·rename_i V;intro k y A;by_cases H:(k-1)/2=i
    ·rw[H];have:=F k y A H;omega
    ·exact h1 k y A H
  ·rename_i hc;intro k y A;exact h1 k y A (by omega)
theorem kbar{n:Nat}{l:List α}(h:IsHeap key n l):∀k,k<n->at' key l 0<=at' key l k:=by
 intro k
 induction k using Nat.strongRecOn with
 | ind k ih =>
  intro y;by_cases A:k=0
  ·subst A;exact Int.le_refl _
  ·exact Int.le_trans (ih _ (by omega) (by omega)) (h k (by omega) y)
def popL(l:List α):List α:=(downL key (l.length-1) l.length 0 (swapL l 0 (l.length-1))).take (l.length-1)
theorem k55{l:List α}(h:IsHeap key l.length l){x:α}{W:List α}(Y:∀y∈W,key x<key y)(p:l.Perm (x::W)) :
  l[0]?=some x/\(downL key (l.length-1) l.length 0 (swapL l 0 (l.length-1)))[l.length-1]?=some x/\(popL key l).Perm W/\IsHeap key (popL key l).length (popL key l):=by
 have hl:l.length=W.length+1:=by rw[p.length_eq];rfl
 have h0:0<l.length:=by omega
 have X:l[0]?=some x:=by
  obtain⟨k,I,e⟩:=List.getElem_of_mem (p.mem_iff.2 (List.mem_cons_self (a:=x) (l:=W)));have K:=kbar key h k I;have Z:=p.mem_iff.1 (List.getElem_mem h0);unfold at' at K;rw[List.getElem?_eq_getElem h0,List.getElem?_eq_getElem I]at K;simp only[Option.map_some,Option.getD_some,e]at K;rcases List.mem_cons.1 Z with Q | Q
  ·rw[List.getElem?_eq_getElem h0,Q]
  ·have:=Y _ Q;omega
 generalize hn:l.length-1=n at *
 have C:n<l.length:=by omega
 have hs:=khc l 0 n
 have H:(downL key n l.length 0 (swapL l 0 n))[n]?=some x:=by
  rw[kx0 key _ _ _ (by omega) n (Nat.le_refl _),krs h0 C,if_pos rfl,X]
 have hd:=kvd key n l.length 0 (swapL l 0 n);have pd:(downL key n l.length 0 (swapL l 0 n)).Perm l:=(kvm key _ _ _ (by omega)).trans (kzw h0 C)
 have hh:IsHeap key n (downL key n l.length 0 (swapL l 0 n)):=by
  refine k21 key _ _ _ (by omega) (by omega) ⟨?_,λh=>absurd h (Nat.lt_irrefl _)⟩;intro k U V I;rw[kkc key h0 C,kkc key h0 C,if_neg (by omega),if_neg I,if_neg (by omega),if_neg (by omega)];exact h k U (by omega)
 have A:popL key l=(downL key n l.length 0 (swapL l 0 n)).take n:=by unfold popL;rw[hn]
 refine⟨X,H,?_,?_⟩
 ·rw[A];have F:(downL key n l.length 0 (swapL l 0 n)).length=n+1:=by omega
  generalize downL key n l.length 0 (swapL l 0 n)=d at *
  have:d=d.take n++[x]:=by
   have h1:n<d.length:=by omega
   rw[List.getElem?_eq_getElem h1]at H;have H:d[n]=x:=by simpa using H
   rw[<- H,List.take_append_getElem h1,List.take_of_length_le (by omega)]
  have p2:(d.take n++[x]).Perm (x::W):=by rw[<- this];exact pd.trans p
  exact(List.perm_append_singleton x (d.take n)).symm.trans p2 |>.cons_inv
 ·have F:(popL key l).length=n:=by rw[A,List.length_take];omega
  rw[F];intro k U V;have:=hh k U V;rw[A];unfold at' at this|-;rw[List.getElem?_take,List.getElem?_take,if_pos V,if_pos (by omega)];exact this
theorem k3t{l:List α}(h:IsHeap key l.length l){y:α}(F:∀x∈l,key x<=key y):IsHeap key (l++[y]).length (l++[y]):=by
 intro k H I;rw[List.length_append,List.length_singleton]at I;have A:(k-1)/2<l.length:=by omega
 unfold at';rw[List.getElem?_append_left A];by_cases C:k<l.length
 ·rw[List.getElem?_append_left C];exact h k H C
 ·obtain rfl:k=l.length:=by omega
  rw[List.getElem?_append_right (Nat.le_refl _),List.getElem?_eq_getElem A];simp only[Nat.sub_self,List.getElem?_cons_zero,Option.map_some,Option.getD_some];exact F _ (List.getElem_mem A)
end Go.Heap
set_option maxRecDepth 10000
namespace Go.Ab
open Go.Proofs Go.Num
abbrev Fr3:=Bool×List Nat×List Nat
theorem kue{n:Nat}(h:n<=1000000):growOk Pg n T.int 1=true:=by
 unfold growOk;rw[kxo,kll];have h1:n*8<=kx:=by simp only[kx];omega
 have y:n<=kx:=by simp only[kx];omega
 simp[h1,y]
structure Off(h:AH)(t:Sl)(xs:List Nat)(iB iO:Nat)(oi:Option Nat):Prop where
 n:Nats h t xs
 b:Av t iB xs
 o:Av t iO xs
 g:AvO t xs oi
theorem Off.grow{h h':AH}{t:Sl}{xs:List Nat}{iB iO:Nat}{oi:Option Nat}(x:Off h t xs iB iO oi)(g:Grow h h'):Off h' t xs iB iO oi:=⟨x.n.grow g,x.b,x.o,x.g⟩
theorem Off.updB{h h':AH}{t:Sl}{xs:List Nat}{iB iO:Nat}{oi:Option Nat}(x:Off h t xs iB iO oi)(u:Upd h h' iB):Off h' t xs iB iO oi:=⟨x.n.upda x.b u,x.b,x.o,x.g⟩
theorem Off.updO{h h':AH}{t:Sl}{xs:List Nat}{iB iO:Nat}{oi:Option Nat}(x:Off h t xs iB iO oi)(u:Upd h h' iO):Off h' t xs iB iO oi:=⟨x.n.upda x.o u,x.b,x.o,x.g⟩
theorem Off.updG{h h':AH}{t:Sl}{xs:List Nat}{iB iO:Nat}{oi:Option Nat}(x:Off h t xs iB iO oi)(u:UpdO h h' oi):Off h' t xs iB iO oi:=⟨x.n.updo x.g u,x.b,x.o,x.g⟩
theorem Off.anew{h:AH}{t:Sl}{xs:List Nat}{iB iO:Nat}{oi:Option Nat}(x:Off h t xs iB iO oi){k:Nat}{h0:AH}(y:Nats h0 t xs)(A:h0.blks.size<=k):Off h t xs iB iO (some k):=⟨x.n,x.b,x.o,qbi y A⟩
structure BestAt(h0 h:AH)(iA iB iO:Nat)(oi:Option Nat)(G N:Int)(st:List Int×Fr3):Prop where
 grow:Grow h0 h
 hA:h.has iA [.i G,.i N] ks
 best:∃t1 t2:Sl,h.has iB [.bool st.2.1,t1.v,t2.v] ky/\Off h t1 st.2.2.1 iB iO oi/\Off h t2 st.2.2.2 iB iO oi
 outs:∃s:Sl,h.has iO [s.v] kc1/\GF (Ef.int .i64) T.int h Fp.no s oi st.1
 ab:iA≠iB
 ao:iA≠iO
 bo:iB≠iO
 na:NeO iA oi
 nb:NeO iB oi
 no:NeO iO oi
 la:h0.blks.size<=iA
 lb:h0.blks.size<=iB
 lo:h0.blks.size<=iO
 lg:LeO h0.blks.size oi
theorem GF.toNo{k:IntKind}{elem:TypeId}{h:AH}{S:Fp}{s:Sl}:∀{i:Option Nat}{xs:List Int},GF (Ef.int k) elem h S s i xs->GF (Ef.int k) elem h Fp.no s i xs
 | .none,_,v=>v
 | .some _,_,⟨l,a,r,ln,rows,e,b,c,r2⟩=>⟨l,id,r,ln,rows,e,b,c,r2.imp λ_ _ x=>x⟩
def askF(i:Int)(g:Fr3)(st:List Int×Fr3):List Int×Fr3 :=
 if kfw g.1 g.2.1 g.2.2 st.2.1 st.2.2.1 st.2.2.2>0 then([i],g)
 else if kfw g.1 g.2.1 g.2.2 st.2.1 st.2.2.1 st.2.2.2=0/\st.1.length>0 then(st.1++[i],st.2)else st
theorem ask_is{h0 h:AH}{iA iB iO:Nat}{oi:Option Nat}{G N:Int}{st:List Int×Fr3}(e:BestAt h0 h iA iB iO oi G N st)(aq:st.1.length<=100000){g:Fr3}{u1 u2:Sl}(o1:Off h u1 g.2.1 iB iO oi)(o2:Off h u2 g.2.2 iB iO oi)(i:Int) :
  Runs (go (.fn kfl [.i i,.agg [.bool g.1,u1.v,u2.v],.p (.new iB 0),.p (.new iO 0)]) h) λv h'=>v=.tup []/\∃af,BestAt h0 h' iA iB iO af G N (askF i g st):=by
 obtain⟨t1,t2,bB,x1,x2⟩:=e.best;obtain⟨s,bO,gf⟩:=e.outs;rw[k62];refine q0 λh7 b7 X=>?_;refine qz (b7.rd 0 (f:=AV.asBool) rfl rfl) (qz (b7.rd 1 (f:=AV.asSl) rfl qcm) (qz (b7.rd 2 (f:=AV.asSl) rfl qcm) ?_));have cB:=X.has bB;refine qz (cB.rd 0 (f:=AV.asBool) rfl rfl) (qz (cB.rd 1 (f:=AV.asSl) rfl qcm) (qz (cB.rd 2 (f:=AV.asSl) rfl qcm) ?_));obtain⟨_,A,ag,rfl,V⟩:=kbew (o1.n.grow X) (o2.n.grow X) (x1.n.grow X) (x2.n.grow X) g.1 st.2.1;refine qz ag (qz (seen qcn) ?_);dsimp only;have y:=X.trans V;have Z:=e.grow.trans y;have dB:=V.has cB;have dO:=y.has bO;have dA:=y.has e.hA;have lB:iB<h.blks.size:=bB.lt;have lO:iO<h.blks.size:=bO.lt;have lA:iA<h.blks.size:=e.hA.lt;have sz:=y.size;refine qbd (λk=>?_) (λk=>?_)
 ·
  rw[qbw]at k;have Y:=V.has b7;refine qz (Y.rd 0 (f:=AV.asBool) rfl rfl) (qz (Y.rd 1 (f:=AV.asSl) rfl qcm) (qz (Y.rd 2 (f:=AV.asSl) rfl qcm) ?_));refine q0 λah aa C=>?_;refine qbe (C.same Y 0 3) ?_;have ar:A.blks.size<ah.blks.size:=aa.lt;refine qba (C.has dO) rfl λau ai H=>?_;have f7:=(C.has Y).updr (i:=iO) (by omega) H;refine qbe (kwl (C.has Y) f7 0 3) ?_;have fB:=(C.has dB).updr (i:=iO) e.bo H;refine qba fB rfl λaj ak K=>?_;refine qy ⟨rfl,some A.blks.size,?_⟩;have ea:askF i g st=([i],g):=by unfold askF;rw[if_pos k]
  rw[ea]
  have up:∀{t:Sl}{xs:List Nat},Off h t xs iB iO oi->Off aj t xs iB iO (some A.blks.size):=λx =>
   ((((x.anew x.n (by omega)).grow y).grow C).updO H).updB K
  refine⟨?_,?_,⟨u1,u2,ak,up o1,up o2⟩,⟨_,ai.updr (λe'=>e.bo e'.symm) K,?_⟩,e.ab,e.ao,e.bo,?_,?_,?_,e.la,e.lb,e.lo,?_⟩
  ·exact((Z.trans C).updr e.lo H).updr e.lb K
  ·exact((C.has dA).updr e.ao H).updr e.ab K
  ·have ac:=(aa.updr (i:=iO) (by omega) H).updr (i:=iB) (by omega) K;exact GF.one ac rfl id
  ·show iA≠A.blks.size;omega
  ·show iB≠A.blks.size;omega
  ·show iO≠A.blks.size;omega
  ·exact Z.size
 ·rw[qbv]at k
  have same:askF i g st=st->BestAt h0 A iA iB iO oi G N (askF i g st):=λhs=>by
   rw[hs];exact⟨Z,dA,⟨t1,t2,dB,x1.grow y,x2.grow y⟩,⟨s,dO,gf.grow y⟩,e.ab,e.ao,e.bo,e.na,e.nb,e.no,e.la,e.lb,e.lo,e.lg⟩
  refine qbd (λk0=>?_) (λk0=>?_)
  ·rw[qbw]at k0;refine qz (dO.rd0 (f:=AV.asSl) rfl qcm) ?_;rw[gf.len];refine qbd (λkl=>?_) (λkl=>?_)
   ·rw[qbw]at kl;refine qz (dO.rd0 (f:=AV.asSl) rfl qcm) ?_;refine q0 λI ad F=>?_;refine qz (kch (n:=1) ad (by rw[kfd];rfl)) ?_;obtain⟨s',al,am,ae,Q⟩:=((gf.grow y).grow F).push (P:=Pg) (T:=Fp.no) (cs:=[.i i]) (x:=i) rfl qbn (kue (by omega));refine qz am (qz (seen qcm) ?_);dsimp only;have aw:=y.trans F;have ax:A.blks.size<I.blks.size:=ad.lt;have hO:=(F.has dO).updo e.no Q;refine qba hO rfl λan ap U=>?_;refine qy ⟨rfl,some I.blks.size,?_⟩
    have ea:askF i g st=(st.1++[i],st.2):=by
     unfold askF;rw[if_neg k,if_pos ⟨k0,by omega⟩]
    rw[ea]
    have up:∀{t:Sl}{xs:List Nat},Off h t xs iB iO oi->Off an t xs iB iO (some I.blks.size):=λx =>
     (((((x.grow y).grow F).updG Q).anew x.n (by omega)).updO U)
    have Gu:Grow h0 al:=(Z.trans F).updo e.lg Q;refine⟨Gu.updr e.lo U,((F.has dA).updo e.na Q).updr e.ao U,⟨t1,t2,((F.has dB).updo e.nb Q).updr e.bo U,up x1,up x2⟩,⟨s',ap,?_⟩,e.ab,e.ao,e.bo,?_,?_,?_,e.la,e.lb,e.lo,?_⟩
    ·refine(ae.toNo).upd U id λk hk=>?_;cases hk;omega
    ·show iA≠I.blks.size;omega
    ·show iB≠I.blks.size;omega
    ·show iO≠I.blks.size;omega
    ·exact(Z.trans F).size
   ·rw[qbv]at kl;refine qy ⟨rfl,oi,same ?_⟩;unfold askF;rw[if_neg k,if_neg (λh=>kl (by omega))]
  ·rw[qbv]at k0;refine qy ⟨rfl,oi,same ?_⟩;unfold askF;rw[if_neg k,if_neg (λh=>k0 h.1)]
abbrev Fr3.of(g:Frc):Fr3:=(g.1,g.2.1,g.2.2.1)
def kc7(l G N:Int)(x:Int×Int)(i:Int)(st:List Int×Fr3):List Int×Fr3 :=
 if x.2>0/\x.2<N then askF i (Fr3.of (gainF l x.1 x.2 G N)) st else st
def bestGo(l G N:Int):List (Int×Int)->Int->List Int×Fr3->List Int×Int
 | [],_,st=>(st.1,0)
 | x::xs,i,st=>if(gainF l x.1 x.2 G N).2.2.2=0 then bestGo l G N xs (i+1) (kc7 l G N x i st)else([],1)
abbrev E2:Ef (Int×Int):=Ef.pair (Ef.int .i64) (Ef.int .i64)
def IntsP(h0:AH)(r:List Int×Int)(v:AV)(h':AH):Prop:=∃s1:Sl,v=.tup [s1.v,.i r.2]/\Sq (Ef.int .i64) h' Fp.all s1 r.1/\Grow h0 h'
theorem BestAt.more{h0 h h':AH}{iA iB iO:Nat}{oi:Option Nat}{G N:Int}{st:List Int×Fr3}(e:BestAt h0 h iA iB iO oi G N st)(g:Grow h h'):BestAt h0 h' iA iB iO oi G N st:=by
 obtain⟨t1,t2,y,x1,x2⟩:=e.best;obtain⟨s,A,C⟩:=e.outs;exact⟨e.grow.trans g,g.has e.hA,⟨t1,t2,g.has y,x1.grow g,x2.grow g⟩,⟨s,g.has A,C.grow g⟩,e.ab,e.ao,e.bo,e.na,e.nb,e.no,e.la,e.lb,e.lo,e.lg⟩
theorem kbf9(i:Int)(g:Fr3)(st:List Int×Fr3):(askF i g st).1.length<=st.1.length+1:=by
 unfold askF;split
 ·simp
 ·split
  ·simp
  ·simp
theorem E2_at{h:AH}{S:Fp}{s:Sl}{xs:List (Int×Int)}(n:Sq E2 h S s xs){i:Nat}(hi:i<xs.length):∃r:Ref,idx s.ref s.len (i:Int) 2=some r/\h.cell (r.add 0)=some (.i xs[i].1)/\h.cell (r.add 1)=some (.i xs[i].2):=by
 obtain⟨r,cs,A,C,y⟩:=n.at (i:=(i:Int)) (kii hi);obtain⟨F,H,rfl,rfl,rfl⟩:=C;rw[n.len];exact⟨r,A,y.at' 0 _ rfl,y.at' 1 _ rfl⟩
theorem k6t{h0:AH}{iA iB iO:Nat}{l G N:Int}{s:Sl}{xs:List (Int×Int)}(n0:Sq E2 h0 Fp.all s xs)(aj:xs.length<=16384):∀(k i:Nat),i+k=xs.length->∀{h:AH}{oi:Option Nat}{st:List Int×Fr3},BestAt h0 h iA iB iO oi G N st->st.1.length<=i->
  Runs (go (.pt kez kh8 [(0,.i l),(6,.p (.new iA 0)),(10,.p (.new iO 0)),(13,.func (.func kfl) [] [.p (.new iB 0),.p (.new iO 0)]),(47,s.v),(48,.i (xs.length:Int)),(49,.i (i:Int))]) h) (IntsP h0 (bestGo l G N (xs.drop i) (i:Int) st)):=by
 intro k
 induction k with
 | zero =>
  intro i hi h oi st e hl;rw[k2u];obtain⟨t,bO,gf⟩:=e.outs;refine qbc (by rw[qbv];omega) ?_;refine qz (bO.rd0 (f:=AV.asSl) rfl qcm) ?_;rw[List.drop_of_length_le (by omega)];exact qy ⟨t,rfl,gf.sq.mono λ_ _=>trivial,e.grow⟩
 | succ k ih =>
  intro i hi h oi st e hl;have hx:i<xs.length:=by omega
  rw[k2u];refine qbb (by rw[qbw];omega) ?_;obtain⟨r,e1,c0,c1⟩:=E2_at (n0.grow e.grow) hx;refine qz e1 (qz (rdc c0 qcn) (qz (rdc c1 qcn) ?_));refine q0 λak ac ad=>?_;refine qba ac rfl λF H ae=>?_;have I:Grow h F:=ad.updr (qbp _) ae;refine qz (H.rd 0 (f:=AV.asInt .i64) rfl qcn) (qz (H.rd 1 (f:=AV.asInt .i64) rfl qcn) ?_);have Q:=I.has e.hA;refine qz (Q.rd 0 (f:=AV.asInt .i64) rfl qcn) (qz (Q.rd 1 (f:=AV.asInt .i64) rfl qcn) ?_);obtain⟨_,U,af,u1,u2,rfl,n1,n2,V,w1,w2⟩:=k63 (h:=F) l xs[i].1 xs[i].2 G N;refine qz af (qz rfl (qz rfl ?_));refine qbb rfl ?_;refine qz rfl (qz qcm (qz qcm (qz (seen qcn) ?_)));dsimp only;refine q0 λal ag X=>?_;refine qba ag rfl λy K Y=>?_;have C:Grow U y:=X.updr (qbp _) Y;have A:Grow h y:=(I.trans V).trans C;rw[qcf hx];rcases k45 l xs[i].1 xs[i].2 G N with Z | Z
  ·rw[Z];refine qbc rfl ?_
   have ah:bestGo l G N (xs[i]::xs.drop (i+1)) (i:Int) st=bestGo l G N (xs.drop (i+1)) ((i+1:Nat):Int) (kc7 l G N xs[i] (i:Int) st):=by
    rw[bestGo,if_pos Z];rfl
   rw[ah,kj (by omega)];have aa:=(V.trans C).has H
   have skip:¬(xs[i].2>0/\xs[i].2<N)->Runs (go (.pt kez kh8 [(0,.i l),(6,.p (.new iA 0)),(10,.p (.new iO 0)),(13,.func (.func kfl) [] [.p (.new iB 0),.p (.new iO 0)]),(47,s.v),(48,.i (xs.length:Int)),(49,.i ((i+1:Nat):Int))]) y) (IntsP h0 (bestGo l G N (xs.drop (i+1)) ((i+1:Nat):Int) (kc7 l G N xs[i] (i:Int) st))):=λhn=>by
    unfold kc7;rw[if_neg hn];exact ih (i+1) (by omega) (e.more A) (by omega)
   refine qz (aa.rd 1 (f:=AV.asInt .i64) rfl qcn) ?_;refine qbd (λk1=>?_) (λk1=>?_)
   ·rw[qbw]at k1;refine qz (aa.rd 1 (f:=AV.asInt .i64) rfl qcn) (qz ((A.has e.hA).rd 1 (f:=AV.asInt .i64) rfl qcn) ?_);refine qbd (λk2=>?_) (λk2=>?_)
    ·rw[qbw]at k2;refine qz (K.rd 0 (f:=AV.asBool) rfl rfl) (qz (K.rd 1 (f:=AV.asSl) rfl qcm) (qz (K.rd 2 (f:=AV.asSl) rfl qcm) ?_));obtain⟨t1,t2,bB,x1,x2⟩:=e.best;obtain⟨so,bO,gf⟩:=e.outs;have lB:=bB.lt;have lO:=bO.lt;have sz:=I.size
     have off:∀{u:Sl}{ys:List Nat},Nats U u ys->Own F u->Off y u ys iB iO oi:=λnn ww =>
      ⟨(nn.grow X).upda (qbi nn (qbp _)) Y,qbj ww (by omega),qbj ww (by omega),AvO.of_own ww (by
       have:=gf.lt;revert this;cases oi with
       | none=>exactλ_=>trivial
       | some q=>exactλhq=>qbr hq sz)⟩
     obtain⟨_,am,ai,rfl,an,e'⟩:=ask_is (g:=Fr3.of (gainF l xs[i].1 xs[i].2 G N)) (e.more A) (by omega) (off n1 w1) (off n2 w2) (i:Int);refine qz ai (qz rfl ?_)
     have hs:kc7 l G N xs[i] (i:Int) st=askF (i:Int) (Fr3.of (gainF l xs[i].1 xs[i].2 G N)) st:=by
      unfold kc7;rw[if_pos ⟨k1,k2⟩]
     rw[hs];exact ih (i+1) (by omega) e' (qbq (kbf9 _ _ _) (by omega))
    ·rw[qbv]at k2;exact skip λhh=>k2 hh.2
   ·rw[qbv]at k1;exact skip λhh=>k1 hh.1
  ·rw[Z];refine qbb rfl ?_;rw[bestGo,if_neg (by rw[Z];decide)];exact qy ⟨⟨none,0,.is 0⟩,rfl,Sq.nil _ _ _,e.grow.trans A⟩
def gammaF(γ:Int):Fr3:=Fr3.of (kbd (ofI γ).1 (ofI γ).2 [1])
def bestF(l γ G N:Int)(xs:List (Int×Int)):List Int×Int :=
 cond (!kbg G N) ([],1) (cond (!kbk l) ([],1) (cond (decide (γ<0)) ([],1) (cond (decide (γ>1048576)) ([],1) (cond (decide ((xs.length:Int)>16384)) ([],1) (bestGo l G N xs 0 ([],gammaF γ))))))
theorem k81{h:AH}{s:Sl}{xs:List (Int×Int)}(n:Sq E2 h Fp.all s xs)(l γ G N:Int):Runs (go (.fn kez [.i l,.i γ,.agg [.i G,.i N],s.v]) h) (IntsP h (bestF l γ G N xs)):=by
 have y:∀{h':AH},Grow h h'->bestF l γ G N xs=([],1)->Runs (some (.tup [nV,.i 1],h')) (IntsP h (bestF l γ G N xs)):=λg e=>by
  rw[e];exact qy ⟨⟨none,0,.is 0⟩,rfl,Sq.nil _ _ _,g⟩
 rw[kbfq];refine q0 λh6 b6 g6=>?_;refine qz (b6.rd 0 (f:=AV.asInt .i64) rfl qcn) (qz (b6.rd 1 (f:=AV.asInt .i64) rfl qcn) ?_);obtain⟨_,h9,e9,rfl,g9⟩:=kng (h:=h6) G N;refine qz e9 (qz (seen rfl) ?_);refine qbd (λF=>?_) (λF=>?_)
 ·exact y (g6.trans g9) (by unfold bestF;rw[F];rfl)
 obtain⟨_,H,ah,rfl,I⟩:=ku2 (h:=h9) l;refine qz ah (qz (seen rfl) ?_);have A:=(g6.trans g9).trans I;refine qbd (λU=>?_) (λU=>?_)
 ·exact y A (by unfold bestF;rw[F,cond_false,U];rfl)
 refine qbd (λV=>?_) (λV=>?_)
 ·exact y A (by unfold bestF;rw[F,cond_false,U,cond_false,V];rfl)
 refine qbd (λX=>?_) (λX=>?_)
 ·exact y A (by unfold bestF;rw[F,cond_false,U,cond_false,V,cond_false,X];rfl)
 rw[n.len];refine qbd (λk5=>?_) (λk5=>?_)
 ·exact y A (by unfold bestF;rw[F,cond_false,U,cond_false,V,cond_false,X,cond_false,k5];rfl)
 have ef:bestF l γ G N xs=bestGo l G N xs 0 ([],gammaF γ):=by
  unfold bestF;rw[F,cond_false,U,cond_false,V,cond_false,X,cond_false,k5,cond_false]
 rw[ef];rw[qbv]at V X k5;dsimp only;refine q0 λY Z aa=>?_;obtain⟨ai,aj,ak,al,ac,au⟩:=kox (h:=Y) γ (by omega);refine qz ak (qz rfl ?_);refine qbb rfl ?_;refine qz rfl (qz qcm ?_);dsimp only;refine q0 λad am K=>?_;have n1:Nats ad (⟨some (.new aj.blks.size 0),1,.is 1⟩:Sl) [1]:=Nats.of_has (xs:=[1]) am (by decide) (by simp);obtain⟨_,C,an,u1,u2,rfl,m1,m2,ae,w1,w2⟩:=kuh (al.grow K) n1 (ofI γ).1;refine qz an (qz rfl (qz rfl ?_));refine qbb rfl ?_;refine qz rfl (qz qcm (qz qcm (qz (seen qcn) ?_)));dsimp only;refine q0 λaw ap af=>?_;refine qba ap rfl λQ aq ag=>?_;have l6:h.blks.size<h6.blks.size:=b6.lt;have s9:=g9.size;have ax:=I.size;have ay:H.blks.size<Y.blks.size:=Z.lt;have ai:=ac.size;have az:=K.size;have a0:=ae.size;have gU:Grow C Q:=af.updr (qbp _) ag
 have off:∀{u:Sl}{ys:List Nat},Nats C u ys->Own ad u->Off Q u ys C.blks.size H.blks.size none:=λnn ww =>
  ⟨(nn.grow af).upda (qbi nn (qbp _)) ag,qbi nn (qbp _),qbj ww (by omega),trivial⟩
 have gX:=((ac.trans K).trans ae).trans gU
 have ar:BestAt h Q h.blks.size C.blks.size H.blks.size none G N ([],gammaF γ):=by
  refine⟨(A.trans aa).trans gX,gX.has (aa.has ((g9.trans I).has b6)),⟨u1,u2,aq,off m1 w1,off m2 w2⟩,⟨_,gX.has Z,GF.none _ _ _ _⟩,?_,?_,?_,trivial,trivial,trivial,?_,?_,?_,trivial⟩<;>omega
 have:=k6t n (by omega) (l:=l) (s:=s) xs.length 0 (by omega) ar (qbp _)
 simpa using this
structure RefAt(h0 h:AH)(iA iB:Nat)(oi:Option Nat)(so:Sl)(G N:Int)(st:List Int×Fr3):Prop where
 grow:Grow h0 h
 hA:h.has iA [.i G,.i N] ks
 best:∃t1 t2:Sl,h.has iB [.bool st.2.1,t1.v,t2.v] ky/\Off h t1 st.2.2.1 iB iB oi/\Off h t2 st.2.2.2 iB iB oi
 outs:GF (Ef.int .i64) T.int h Fp.no so oi st.1
 ab:iA≠iB
 na:NeO iA oi
 nb:NeO iB oi
 la:h0.blks.size<=iA
 lb:h0.blks.size<=iB
 lg:LeO h0.blks.size oi
theorem RefAt.more{h0 h h':AH}{iA iB:Nat}{oi:Option Nat}{so:Sl}{G N:Int}{st:List Int×Fr3}(e:RefAt h0 h iA iB oi so G N st)(g:Grow h h'):RefAt h0 h' iA iB oi so G N st:=by
 obtain⟨t1,t2,y,x1,x2⟩:=e.best;exact⟨e.grow.trans g,g.has e.hA,⟨t1,t2,g.has y,x1.grow g,x2.grow g⟩,e.outs.grow g,e.ab,e.na,e.nb,e.la,e.lb,e.lg⟩
theorem kbe7{h0:AH}{iA iB:Nat}{l G N:Int}{s:Sl}{xs:List (Int×Int)}(n0:Sq E2 h0 Fp.all s xs)(bh:xs.length<=16384)(ok:∀x∈xs,(kba x.1 x.2 G N).2.2=true)(hl:kbk l=true):∀(k i:Nat),i+k=xs.length->∀{h:AH}{oi:Option Nat}{so:Sl}{st:List Int×Fr3},RefAt h0 h iA iB oi so G N st->st.1.length<=i->
  Runs (go (.pt kb9 kdn [(0,.i l),(3,s.v),(6,.p (.new iA 0)),(14,.p (.new iB 0)),(16,so.v),(17,.i (i:Int))]) h) (IntsP h0 (bestGo l G N (xs.drop i) (i:Int) st)):=by
 intro k
 induction k with
 | zero =>
  intro i hi h oi so st e ar;rw[kws,n0.len];refine qbc (by rw[qbv];omega) ?_;rw[List.drop_of_length_le (by omega)];exact qy ⟨so,rfl,e.outs.sq.mono λ_ _=>trivial,e.grow⟩
 | succ k ih =>
  intro i hi h oi so st e ar;have hx:i<xs.length:=by omega
  have ad:=ok xs[i] (qb2 _);have er:=k2z ad hl;obtain⟨m1,m2,m3,-⟩:=k0r ad;rw[kws];refine qbb (by rw[qbw,n0.len];omega) ?_;have nh:=n0.grow e.grow;obtain⟨r,e1,c0,c1⟩:=E2_at nh hx;refine qz e1 (qz (rdc c1 qcn) ?_);rw[qcf hx]
  have au:bestGo l G N (xs[i]::xs.drop (i+1)) (i:Int) st=bestGo l G N (xs.drop (i+1)) ((i+1:Nat):Int) (kc7 l G N xs[i] (i:Int) st):=by
   rw[bestGo,if_pos er];rfl
  rw[au,kj (by omega)]
  have skip:¬(xs[i].2>0/\xs[i].2<N)->Runs (go (.pt kb9 kdn [(0,.i l),(3,s.v),(6,.p (.new iA 0)),(14,.p (.new iB 0)),(16,so.v),(17,.i ((i+1:Nat):Int))]) h) (IntsP h0 (bestGo l G N (xs.drop (i+1)) ((i+1:Nat):Int) (kc7 l G N xs[i] (i:Int) st))):=λhn=>by
   unfold kc7;rw[if_neg hn];exact ih (i+1) (by omega) e (by omega)
  have hN:IntKind.wrap .i64 (N-xs[i].2)=N-xs[i].2:=by
   unfold kbg at m1 m2;simp at m1 m2;rw[IntKind.wrap_i64];omega
  refine qbd (λk1=>?_) (λk1=>?_)
  ·rw[qbw]at k1;exact skip λhh=>by omega
  rw[qbv]at k1;refine qz (e.hA.rd 1 (f:=AV.asInt .i64) rfl qcn) (qz e1 (qz (rdc c1 qcn) ?_));rw[hN];refine qbd (λk2=>?_) (λk2=>?_)
  ·rw[qbw]at k2;exact skip λhh=>by omega
  rw[qbv]at k2
  have hs:kc7 l G N xs[i] (i:Int) st=askF (i:Int) (Fr3.of (gainF l xs[i].1 xs[i].2 G N)) st:=by
   unfold kc7;rw[if_pos ⟨by omega,by omega⟩]
  rw[hs];refine q0 λY Z U=>?_;refine qz e1 (qz (rdc (U.cell_some c0) qcn) (qz (rdc (U.cell_some c1) qcn) ?_));have ae:=U.has e.hA;refine qz (ae.rd 0 (f:=AV.asInt .i64) rfl qcn) (qz (ae.rd 1 (f:=AV.asInt .i64) rfl qcn) ?_);obtain⟨_,aw,ax,u1,u2,rfl,n1,n2,aa,w1,w2⟩:=k5r (h:=Y) l xs[i].1 xs[i].2 G N;refine qz ax (qz rfl (qz rfl ?_));refine qbb rfl ?_;refine qz rfl (qz qcm (qz qcm (qz (seen qcn) ?_)));refine qbe (aa.same Z 0 0) ?_;have af:h.blks.size<Y.blks.size:=Z.lt;refine qba (aa.has Z) rfl λag V ah=>?_;have ay:=U.trans aa;have ai:Grow h ag:=ay.updr (qbp _) ah;have aj:=e.more ai;refine qz (V.rd 0 (f:=AV.asBool) rfl rfl) (qz (V.rd 1 (f:=AV.asSl) rfl qcm) (qz (V.rd 2 (f:=AV.asSl) rfl qcm) ?_));obtain⟨t1,t2,bB,x1,x2⟩:=aj.best;obtain⟨_,_,az,_,_⟩:=e.best;have lB:=az.lt;refine qz (bB.rd 0 (f:=AV.asBool) rfl rfl) (qz (bB.rd 1 (f:=AV.asSl) rfl qcm) (qz (bB.rd 2 (f:=AV.asSl) rfl qcm) ?_))
  have off:∀{u:Sl}{ys:List Nat},Nats aw u ys->Own Y u->Off ag u ys iB iB oi:=λnn ww =>
   ⟨nn.upda (qbj ww af) ah,qbj ww (by omega),qbj ww (by omega),AvO.of_own ww (by
    have:=e.outs.lt;revert this;cases oi with
    | none=>exactλ_=>trivial
    | some q=>exactλhq=>Nat.lt_trans hq af)⟩
  have o1:=off n1 w1;have o2:=off n2 w2;obtain⟨_,a0,ba,rfl,F⟩:=k7g o1.n o2.n x1.n x2.n (gainF l xs[i].1 xs[i].2 G N).1 st.2.1;refine qz ba (qz (seen qcn) ?_);dsimp only;have y:=aj.more F;rw[kbgm];have ak:=F.has bB;have ac:=F.has V;have bi:=ai.size;have bj:=F.size;refine qbd (λk=>?_) (λk=>?_)
  ·have kk:=k;rw[qbw]at k;have ea:askF (i:Int) (Fr3.of (gainF l xs[i].1 xs[i].2 G N)) st=([(i:Int)],Fr3.of (gainF l xs[i].1 xs[i].2 G N)):=by unfold askF;rw[if_pos k]
   rw[ea];refine qz (ac.rd 0 (f:=AV.asBool) rfl rfl) (qz (ac.rd 1 (f:=AV.asSl) rfl qcm) (qz (ac.rd 2 (f:=AV.asSl) rfl qcm) ?_));refine qba ak rfl λbb bc H=>?_;refine qbb kk ?_;refine q0 λC al I=>?_;refine qz (kch (n:=1) al (by rw[kfd];rfl)) ?_;obtain⟨s',bd,be,am,bf⟩:=(GF.none (Ef.int .i64) T.int C Fp.no).push (P:=Pg) (T:=Fp.no) (cs:=[.i (i:Int)]) (x:=(i:Int)) rfl qbn (kue (by simp));refine qz be (qz (seen qcm) ?_);dsimp only;have bk:=H.size;have bm:bb.blks.size<C.blks.size:=al.lt;have A:Grow C bd:=bf;refine ih (i+1) (by omega) (oi:=some C.blks.size) (st:=([(i:Int)],Fr3.of (gainF l xs[i].1 xs[i].2 G N))) ⟨?_,?_,⟨u1,u2,?_,?_,?_⟩,am.toNo,e.ab,?_,?_,e.la,e.lb,?_⟩ (by simp)
   ·exact((y.grow.updr e.lb H).trans I).trans A
   ·exact A.has (I.has (y.hA.updr e.ab H))
   ·exact A.has (I.has bc)
   ·exact(((((o1.anew o1.n (by omega)).grow F).updB H).grow I).grow A)
   ·exact(((((o2.anew o2.n (by omega)).grow F).updB H).grow I).grow A)
   ·have:=y.hA.lt;show iA≠C.blks.size;omega
   ·show iB≠C.blks.size;omega
   ·have:=y.grow.size;show h0.blks.size<=C.blks.size;omega
  ·have kk:=k;rw[qbv]at k;refine qbc kk ?_;refine qbd (λk0=>?_) (λk0=>?_)
   ·rw[qbw]at k0;rw[y.outs.len];refine qbd (λkl=>?_) (λkl=>?_)
    ·rw[qbw]at kl
     have ea:askF (i:Int) (Fr3.of (gainF l xs[i].1 xs[i].2 G N)) st=(st.1++[(i:Int)],st.2):=by
      unfold askF;rw[if_neg k,if_pos ⟨k0,by omega⟩]
     rw[ea];refine q0 λX an ap=>?_;refine qz (kch (n:=1) an (by rw[kfd];rfl)) ?_;obtain⟨s',bn,bg,aq,K⟩:=(y.outs.grow ap).push (P:=Pg) (T:=Fp.no) (cs:=[.i (i:Int)]) (x:=(i:Int)) rfl qbn (kue (by omega));refine qz bg (qz (seen qcm) ?_);dsimp only;have bp:a0.blks.size<X.blks.size:=an.lt;have Q:=y.more ap;obtain⟨y1,y2,bC,z1,z2⟩:=Q.best;refine ih (i+1) (by omega) (oi:=some X.blks.size) (st:=(st.1++[(i:Int)],st.2)) ⟨Q.grow.updo e.lg K,Q.hA.updo e.na K,⟨y1,y2,bC.updo e.nb K,(z1.updG K).anew z1.n (qbp _),(z2.updG K).anew z2.n (qbp _)⟩,aq.toNo,e.ab,?_,?_,e.la,e.lb,Q.grow.size⟩ (by simp;omega)
     ·have:=Q.hA.lt;show iA≠X.blks.size;omega
     ·have:=bC.lt;show iB≠X.blks.size;omega
    ·rw[qbv]at kl
     have ea:askF (i:Int) (Fr3.of (gainF l xs[i].1 xs[i].2 G N)) st=st:=by
      unfold askF;rw[if_neg k,if_neg (λh=>kl (by omega))]
     rw[ea];exact ih (i+1) (by omega) y (by omega)
   ·rw[qbv]at k0
    have ea:askF (i:Int) (Fr3.of (gainF l xs[i].1 xs[i].2 G N)) st=st:=by
     unfold askF;rw[if_neg k,if_neg (λh=>k0 h.1)]
    rw[ea];exact ih (i+1) (by omega) y (by omega)
theorem kzj(l G N:Int):∀(xs:List (Int×Int))(i:Int)(st:List Int×Fr3),(∃x∈xs,(kba x.1 x.2 G N).2.2=false)->bestGo l G N xs i st=([],1)
 | [],_,_,⟨_,h,_⟩=>by cases h
 | x::xs,i,st,⟨y,A,C⟩=>by
  rw[bestGo];by_cases F:(gainF l x.1 x.2 G N).2.2.2=0
  ·rw[if_pos F];rcases qb5.1 A with rfl | A
   ·rw[(kbk1 F).1]at C;cases C
   ·exact kzj l G N xs _ _ ⟨y,A,C⟩
  ·rw[if_neg F]
theorem kbf1:(ofI 1).2=[1]:=by decide +kernel
theorem k6q{h0:AH}{iA:Nat}{l γ G N:Int}{s:Sl}{xs:List (Int×Int)}(Z:Sq E2 h0 Fp.all s xs)(I:xs.length<=16384)(hl:kbk l=true)(hγ:0<=γ/\γ<=1048576):∀(k i:Nat),i+k=xs.length->∀{h:AH},Grow h0 h->h0.blks.size<=iA->h.has iA [.i G,.i N] ks->(∀x∈xs.take i,(kba x.1 x.2 G N).2.2=true)->
  Runs (go (.pt kb9 kra [(0,.i l),(1,.i γ),(3,s.v),(6,.p (.new iA 0)),(11,.i (i:Int))]) h) (IntsP h0 (bestGo l G N xs 0 ([],gammaF γ))):=by
 intro k
 induction k with
 | zero =>
  intro i hi h g lA hA ok;rw[k3n,Z.len];refine qbc (by rw[qbv];omega) ?_;rw[List.take_of_length_le (by omega)]at ok;obtain⟨am,aa,ac,ad,K,an⟩:=khg (h:=h) γ (by omega);refine qz ac (qz rfl ?_);refine qbb rfl ?_;refine qz rfl (qz qcm ?_);obtain⟨ap,aq,ae,Q,A,ar⟩:=khg (h:=aa) 1 (by omega);refine qz ae (qz rfl ?_);refine qbb rfl ?_;refine qz rfl (qz qcm ?_);rw[kbf1]at Q;obtain⟨_,y,af,u1,u2,rfl,m1,m2,U,w1,w2⟩:=kr4 (ad.grow A) Q (ofI γ).1;refine qz af (qz rfl (qz rfl ?_));refine qbb rfl ?_;refine qz rfl (qz qcm (qz qcm (qz (seen qcn) ?_)));dsimp only;refine q0 λau ag V=>?_;refine qba ag rfl λC ah X=>?_;have gU:Grow y C:=V.updr (qbp _) X;have gX:=((K.trans A).trans U).trans gU;have sz:h.blks.size<=y.blks.size:=((K.trans A).trans U).size;have aw:=hA.lt
  have off:∀{u:Sl}{ys:List Nat},Nats y u ys->Off C u ys y.blks.size y.blks.size none:=λnn =>
   ⟨(nn.grow V).upda (qbi nn (qbp _)) X,qbi nn (qbp _),qbi nn (qbp _),trivial⟩
  have gs:=g.size
  have ai:RefAt h0 C iA y.blks.size none ⟨none,0,.is 0⟩ G N ([],gammaF γ) :=
   ⟨g.trans gX,gX.has hA,⟨u1,u2,ah,off m1,off m2⟩,GF.none _ _ _ _,by omega,trivial,trivial,lA,by omega,trivial⟩
  have:=kbe7 Z I ok hl xs.length 0 (by omega) ai (qbp _)
  simpa using this
 | succ k ih =>
  intro i hi h g lA hA ok;have hx:i<xs.length:=by omega
  rw[k3n];refine qbb (by rw[qbw,Z.len];omega) ?_;refine q0 λh6 b6 g6=>?_;obtain⟨r,e1,c0,c1⟩:=E2_at (Z.grow g) hx;refine qz e1 (qz (rdc (g6.cell_some c0) qcn) (qz (rdc (g6.cell_some c1) qcn) ?_));have a6:=g6.has hA;refine qz (a6.rd 0 (f:=AV.asInt .i64) rfl qcn) (qz (a6.rd 1 (f:=AV.asInt .i64) rfl qcn) ?_);obtain⟨_,ax,aj,rfl,F⟩:=k2w (h:=h6) xs[i].1 xs[i].2 G N;refine qz aj (qz rfl (qz rfl ?_));refine qbb rfl ?_;refine qz rfl (qz rfl (qz (seen rfl) ?_));refine qbe (F.same b6 0 0) ?_;refine qba (F.has b6) rfl λak ay al=>?_;have H:Grow h ak:=(g6.trans F).updr (qbp _) al;refine qbd (λkk=>?_) (λkk=>?_)
  ·rw[kzj l G N xs _ _ ⟨xs[i],qb2 _,by simpa using kk⟩];exact qy ⟨⟨none,0,.is 0⟩,rfl,Sq.nil _ _ _,g.trans H⟩
  ·rw[kj (by omega)];refine ih (i+1) (by omega) (g.trans H) lA (H.has hA) λx Y=>?_;rw[List.take_add_one,qb3 hx]at Y;rcases qb4.1 Y with h' | h'
   ·exact ok x h'
   ·simp at h';rw[h']
    simpa using kk
theorem kbhv{h:AH}{s:Sl}{xs:List (Int×Int)}(n:Sq E2 h Fp.all s xs)(l γ G N:Int):Runs (go (.fn kb9 [.i l,.i γ,.agg [.i G,.i N],s.v]) h) (IntsP h (bestF l γ G N xs)):=by
 have y:∀{h':AH},Grow h h'->bestF l γ G N xs=([],1)->Runs (some (.tup [nV,.i 1],h')) (IntsP h (bestF l γ G N xs)):=λg e=>by
  rw[e];exact qy ⟨⟨none,0,.is 0⟩,rfl,Sq.nil _ _ _,g⟩
 have C:∀{c:Bool},kbk l=c->(c=false↔(l<1\/l>1048576)):=λe=>by
  rw[<- e];unfold kbk;by_cases h1:l>=1
  ·rw[qbx h1,cond_true,qbv];omega
  ·rw[qby h1,cond_false];simp;omega
 rw[kblq];refine q0 λZ U g6=>?_;refine qz (U.rd 0 (f:=AV.asInt .i64) rfl qcn) (qz (U.rd 1 (f:=AV.asInt .i64) rfl qcn) ?_);obtain⟨_,h9,e9,rfl,X⟩:=klu (h:=Z) G N;refine qz e9 (qz (seen rfl) ?_);have F:=g6.trans X;unfold bestF at y|-;refine qbd (λV=>?_) (λV=>?_)
 ·exact y F (by rw[V];rfl)
 rw[V]at y|-;rw[cond_false]at y|-
 have tail:∀{b:Bool}{x:List Int×Int},b=true->cond (!kbk l) ([],1) (cond b ([],1) x)=(([],1):List Int×Int):=λhb=>by
  rw[hb];cases kbk l<;>rfl
 refine qbd (λH=>?_) (λH=>?_)
 ·exact y F (by rw[H];cases kbk l<;>rfl)
 rw[H]at y|-;rw[cond_false]at y|-;refine qbd (λI=>?_) (λI=>?_)
 ·exact y F (by rw[I];cases kbk l<;>rfl)
 rw[I]at y|-;rw[cond_false]at y|-;refine qbd (λK=>?_) (λK=>?_)
 ·rw[qbw]at K;exact y F (by rw[(C rfl).2 (.inl K)];rfl)
 refine qbd (λA=>?_) (λA=>?_)
 ·rw[qbw]at A;exact y F (by rw[(C rfl).2 (.inr A)];rfl)
 rw[qbv]at K A
 have Y:kbk l=true:=by
  cases hc:kbk l with
  | true=>rfl
  | false=>rcases(C hc).1 rfl with h' | h'<;>omega
 rw[Y]at y|-;rw[Bool.not_true,cond_false]at y|-;rw[n.len];refine qbd (λQ=>?_) (λQ=>?_)
 ·exact y F (by rw[Q];rfl)
 rw[Q,cond_false];rw[qbv]at H I Q;exact k6q n (by omega) Y (by omega) xs.length 0 (by omega) F (qbp _) (X.has U) (λx hx=>by simp at hx)
end Go.Ab
set_option maxRecDepth 10000
namespace Go.Ab
open Go.Proofs
def idsR(l:List Int):Bool:=decide (l.length<=256)&&(!(l.any λx=>decide (x<0)||decide (x>1073741824))&&decide l.Nodup)
structure Tb where
 ids:List Int
 bins:List Int
 cols:List (List Int)
def colR(t:Tb)(i:Nat):Bool:=!decide (t.bins.getD i 0<2)&&!decide (t.bins.getD i 0>32)&&decide ((t.cols.getD i []).length=t.ids.length)&&!((t.cols.getD i []).any λx=>decide (x<0)||decide (x>=t.bins.getD i 0))
def tabR(t:Tb):Bool:=idsR t.ids&&!decide (t.cols.length>16)&&decide (t.bins.length=t.cols.length)&&(List.range t.cols.length).all (colR t)
structure TabAt(h:AH)(S:Fp)(s1 s2 s3:Sl)(t:Tb):Prop where
 ids:Sq EI h S s1 t.ids
 bins:Sq EI h S s2 t.bins
 cols:Sq (Ef.seq EI) h S s3 t.cols
theorem TabAt.grow{h h':AH}{S:Fp}{s1 s2 s3:Sl}{t:Tb}(n:TabAt h S s1 s2 s3 t)(g:Grow h h'):TabAt h' S s1 s2 s3 t:=⟨n.ids.grow g,n.bins.grow g,n.cols.grow g⟩
section
variable{h0:AH}{S:Fp}{s:Sl}{xs:List Int}
theorem kbig(n:Sq EI h0 S s xs):Runs (go (.fn kea [s.v,.func (.func kee) [] []]) h0) λv h'=>v=.bool (xs.any λx=>decide (x<0)||decide (x>1073741824))/\Grow h0 h':=by
 rw[kbki];refine Runs.contains (xs:=xs) ?_;rw[k7b,n.len];refine ko4 (n:=xs.length) (G:=λz h=>go (.pt kbw kcv [(0,s.v),(1,.func (.func kee) [] []),(7,.i (xs.length:Int)),(8,.i z)]) h) (λi h P hi g y A=>?_) (λh g=>?_) xs.length 0 (by omega) (ql h0) (λj H=>by omega)
 ·obtain⟨r,C,F⟩:=(n.grow g).int hi;rw[qb3 hi]at y A;simp only[Option.any_some]at y A;show Runs (go _ _) _;rw[kzq];refine qbb (qbx (by omega)) (qz C (qz F ?_))
  have key:go (.fn kee [.i xs[i]]) h=some (.bool (decide (xs[i]<0)||decide (xs[i]>1073741824)),h):=by
   rw[kbjw];cases decide (xs[i]<0)<;>rfl
  refine qz key (qz (seen rfl) ?_);rw[kj (by have:=n.short;omega)];exact qbd (λc=>qy (y h g c)) λc=>A h g c
 ·rw[kzq,condF (qby (by omega))]
theorem kbb4(n:Sq EI h0 S s xs)(hl:xs.length<=256){m:Nat}(X:h0.blks.size<=m):∀(k i:Nat),i+k=xs.length->∀{h:AH}{l:List (Int×AV)},Grow h0 h->MapIs h m l->(∀x,(kvGet l x).isSome=true↔x∈xs.take i)->l.length<=i->(l.length=i↔(xs.take i).Nodup)->
  Runs (go (.pt kh6 kqn [(3,.map (some m)),(7,s.v),(8,.i (xs.length:Int)),(9,.i (i:Int))]) h) λv h'=>Grow h0 h'/\v=.map (some m)/\∃l,MapIs h' m l/\(l.length=xs.length↔xs.Nodup):=by
 intro k
 induction k with
 | zero =>
  intro i hi h l g M H I A;rw[kzl];refine qbc (qby (by omega)) (qy ⟨g,rfl,l,M,?_⟩);rw[show i=xs.length from by omega,List.take_length]at A;exact A
 | succ k ih =>
  intro i hi h l g M H I A;have C:i<xs.length:=by omega
  obtain⟨r,Y,Z⟩:=(n.grow g).int C;rw[kzl];refine qbb (qbx (by omega)) (qz Y (qz Z ?_));obtain⟨h1,e3,M1,u1⟩:=M.put xs[i] (.i (i:Int));refine qz e3 ?_;rw[kj (by omega)];have U:xs.take (i+1)=xs.take i++[xs[i]]:=qcg C;have hi:=H xs[i];refine ih (i+1) (by omega) (g.updr X u1) M1 (λx=>?_) ?_ ?_
  ·rw[k84,U,qb4,List.mem_singleton];by_cases F:x=xs[i]
   ·rw[if_pos F];exact⟨λ_=>.inr F,λ_=>rfl⟩
   ·rw[if_neg F,H x];exact⟨.inl,λh=>h.resolve_right F⟩
  ·cases y:kvGet l xs[i]with
   | none=>rw[k3o _ y];simp;omega
   | some w=>rw[kza _ y];omega
  ·rw[U,List.nodup_append];cases y:kvGet l xs[i]with
   | none =>
    rw[y]at hi;have K:xs[i]∉xs.take i:=λh=>by simpa using hi.2 h
    rw[k3o _ y];simp only[qbz,List.length_singleton];constructor
    ·intro e;refine⟨A.1 (by omega),by simp,λa ha b V=>?_⟩;rw[List.mem_singleton]at V;subst V
     rintro rfl
     exact K ha
    ·intro e;rw[A.2 e.1]
   | some w =>
    rw[y]at hi;have Q:xs[i]∈xs.take i:=hi.1 rfl;rw[kza _ y];constructor
    ·intro e;omega
    ·intro e;exact absurd rfl (e.2.2 _ Q _ (by simp))
theorem k6i(n:Sq EI h0 S s xs):Runs (go (.fn kum [s.v]) h0) λv h'=>v=.bool (idsR xs)/\Grow h0 h':=by
 rw[kblh,n.len];unfold idsR;refine qbd (λc=>?_) (λc=>?_)
 ·rw[qbw]at c;rw[qbx (show xs.length<=256 by omega),Bool.true_and];refine(kbig n).call λv h1 ⟨e,y⟩=>?_;subst e;refine qz (seen rfl) ?_;refine qbd (λA=>?_) (λA=>?_)
  ·rw[A,Bool.true_and]
   have key:Runs (go (.fn kh6 [s.v]) h1) λv h'=>Grow h1 h'/\∃m l,v=.map (some m)/\MapIs h' m l/\(l.length=xs.length↔xs.Nodup):=by
    rw[kbic,n.len];refine Runs.newMap λH M C=>?_;exact(kbb4 (n.grow y) (by omega) (m:=h1.blks.size) (qbp _) xs.length 0 (by omega) (l:=[]) C M (λx=>by simp[kvGet]) (qbp _) (by simp)).imp λv h' ⟨g,e,l,M,F⟩=>⟨g,_,l,e,M,F⟩
   refine key.call λv H ⟨C,m,l,e,M,F⟩=>?_;subst e;refine qz (seen rfl) (qz M.size (qy ⟨congrArg AV.bool ?_,y.trans C⟩));rw[decide_eq_decide,<- F];omega
  ·rw[A,Bool.false_and];exact qy ⟨rfl,y⟩
 ·rw[qbv]at c;rw[qby (show¬xs.length<=256 by omega),Bool.false_and];exact qy ⟨rfl,ql _⟩
end
end Go.Ab
