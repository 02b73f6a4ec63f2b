/- Words and laws that the last text joins. -/
import Derived.Test.YtgfeahhgoiidiaaGreatDoorPS43
import Derived.Test.YtgfeahhgoiidiaaGreatDoorPAbsL
import Derived.Test.YtgfeahhgoiidiaaGreatDoorPU1
set_option linter.unusedVariables false
set_option linter.unusedSimpArgs false
set_option linter.unusedSectionVars false
set_option maxRecDepth 10000
namespace Go.Ab
open Go.Proofs Go.Num
inductive kj7
 | fn (a1:Int) (a2:Int) (a3:Int) (a4:Int) (a5:Int)
 | no
abbrev ki8:=Bool×List Nat×List Nat×Int
noncomputable def klj(a1 a2 a3 a4 a5:Int):Option (kj7⊕ki8):=cond (!((kba a2 a3 a4 a5).2.2)) (some (.inr (false,[],[],1))) (cond (!((kbm a1))) (some (.inr (false,[],[],1))) ((some (kc8 (((((scoreF a1 a2 a3).1)))) ((scoreF a1 a2 a3).2.1) ((scoreF a1 a2 a3).2.2.1) (((((scoreF a1 (((((kba a2 a3 a4 a5).1)))) (((((kba a2 a3 a4 a5).2.1))))).1)))) ((scoreF a1 (((((kba a2 a3 a4 a5).1)))) (((((kba a2 a3 a4 a5).2.1))))).2.1) ((scoreF a1 (((((kba a2 a3 a4 a5).1)))) (((((kba a2 a3 a4 a5).2.1))))).2.2.1))).bind λC=>(some (kdi ((C.1)) C.2.1 C.2.2.1 (((((scoreF a1 a4 a5).1)))) ((scoreF a1 a4 a5).2.1) ((scoreF a1 a4 a5).2.2.1))).bind λA=>some (.inr (((A.1)),A.2.1,A.2.2.1,(A.2.2.2)))))
noncomputable def kyo:kj7->Option (kj7⊕ki8)
 | .fn a1 a2 a3 a4 a5=>klj a1 a2 a3 a4 a5
 | .no=>none
@[reducible] def kwx(h0:AH)(r:ki8)(v:AV)(h':AH):Prop:=∃s1:Sl,∃s2:Sl,v=.tup [.agg [.bool r.1,s1.v,s2.v],.i r.2.2.2]/\Nats h' s1 r.2.1/\Nats h' s2 r.2.2.1/\Grow h0 h'/\Own h0 s1/\Own h0 s2
def ktt(r:ki8):kj7->Prop
 | .fn a1 a2 a3 a4 a5=>∀{h:AH},Runs (go (.fn krk [.i a1,.agg [.i a2,.i a3],.agg [.i a4,.i a5]]) h) (kwx h r)
 | .no=>True
theorem k9k{r:ki8}{o:kj7⊕ki8}{a1 a2 a3 a4 a5:Int}(e:klj a1 a2 a3 a4 a5=some o)(b1:GoodS (ktt r) r o):ktt r (.fn a1 a2 a3 a4 a5):=by
 intro h;rw[kbh5];unfold klj at e;refine q0 λH6 b6 g6=>?_;refine q0 λH7 b7 g7=>?_;refine q0 λH8 b8 g8=>?_;refine q0 λH9 b9 g9=>?_;refine qz (qbf ((g8.trans g9).has b7) 0 rfl qcp) (qz (qbf ((g8.trans g9).has b7) 1 rfl qcp) (qz (qbf (g9.has b8) 0 rfl qcp) (qz (qbf (g9.has b8) 1 rfl qcp) ?_)));obtain⟨_,h6,gi,rfl,A⟩:=k7a a2 a3 a4 a5;refine qz gi (qz rfl (qz rfl ?_));refine qbb rfl ?_;refine qz (seenAt rfl qcp) (qz (seenAt rfl qcp) (qz (seen rfl) ?_));refine q0 λh7 gj aa=>?_;refine qba gj rfl λh8 bt ac=>?_;refine qbd (λei=>?_) (λei=>?_)
 ·replace e:=(condT ei).symm.trans e;have ej:=((A.trans aa).updr (qbq (A).size (qbp _)) ac);have ek:=ej.has b9;refine qba ek rfl λh9 el e4=>?_;have f0:=qx bt (Nat.ne_of_gt (qbr (A.has b9).lt (qbp _))) e4;refine qz (qbf el 0 rfl rfl) (qz (qbf el 1 rfl qco) (qz (qbf el 2 rfl qco) ?_));cases e;cases b1;have gl:=((((g6.trans g7).trans g8).trans g9).trans A);have gm:=((g6.trans g7).trans g8);have gn:=(((((((g6.trans g7).trans g8).trans g9).trans A).trans aa).updr (qbq (gl).size (qbp _)) ac).updr (qbq (gm).size (qbp _)) e4);exact qy ⟨(⟨none,0,.is 0⟩:Sl),(⟨none,0,.is 0⟩:Sl),rfl,(qw _),(qw _),gn,(qu _),(qu _)⟩
 ·replace e:=(condF ei).symm.trans e;have gp:=(((g7.trans g8).trans g9).trans A);have ej:=(((((g7.trans g8).trans g9).trans A).trans aa).updr (qbq (gp).size (qbp _)) ac);have ar:=ej.has b6;refine qz (AH.has.rd0 ar rfl qcp) ?_;obtain⟨_,ia,gq,rfl,C⟩:=ks0 a1;refine qz gq (qz (seen rfl) ?_);refine qbd (λem=>?_) (λem=>?_)
  ·replace e:=(condT em).symm.trans e;have b2:=(((A.trans aa).updr (qbq (A).size (qbp _)) ac).trans C);have en:=b2.has b9;refine qba en rfl λgr au eo=>?_;have gs:=qx (C.has ar) (Nat.ne_of_lt (qbr ((g7.trans g8).has b6).lt (qbp _))) eo;have f1:=qx (C.has bt) (Nat.ne_of_gt (qbr (A.has b9).lt (qbp _))) eo;refine qz (qbf au 0 rfl rfl) (qz (qbf au 1 rfl qco) (qz (qbf au 2 rfl qco) ?_));cases e;cases b1;have gt:=((((g6.trans g7).trans g8).trans g9).trans A);have gu:=((g6.trans g7).trans g8);have gv:=((((((((g6.trans g7).trans g8).trans g9).trans A).trans aa).updr (qbq (gt).size (qbp _)) ac).trans C).updr (qbq (gu).size (qbp _)) eo);exact qy ⟨(⟨none,0,.is 0⟩:Sl),(⟨none,0,.is 0⟩:Sl),rfl,(qw _),(qw _),gv,(qu _),(qu _)⟩
  ·replace e:=(condF em).symm.trans e;refine q0 λgr au ak=>?_;have b2:=((g8.trans g9).trans A);have gw:=((((((g8.trans g9).trans A).trans aa).updr (qbq (b2).size (qbp _)) ac).trans C).trans ak);have bk:=gw.has b7;refine qz (qbf bk 0 rfl qcp) (qz (qbf bk 1 rfl qcp) (qz (qbf ((C.trans ak).has bt) 0 rfl qcp) (qz (qbf ((C.trans ak).has bt) 1 rfl qcp) ?_)));rw[kvz];refine Runs.newB λib ep aj=>?_;refine Runs.newB λic c9 X=>?_;have eq:=(((C.trans ak).trans aj).trans X);have b3:=eq.has ar;refine qbk (AH.has.rd0 b3 rfl qcp) ?_;refine qbk (qbf (X.has ep) 0 rfl qcp) ?_;refine qbk (qbf (X.has ep) 1 rfl qcp) ?_;obtain⟨_,id,gx,ie,h2,rfl,gy,e5,ad,er,b4⟩:=ksw a1 a2 a3;refine qbk gx ?_;refine qbk rfl ?_;refine qbk rfl ?_;refine Runs.ifTB rfl ?_;refine qbk (seenAt rfl rfl) ?_;refine qbk (seenAt rfl qco) ?_;refine qbk (seenAt rfl qco) ?_;refine qbk (seen qcp) ?_;refine Runs.newB λig gz Y=>?_;refine Runs.putsB gz rfl λih da Z=>?_;refine qbk (qbf da 0 rfl rfl) ?_;refine qbk (qbf da 1 rfl qco) ?_;refine qbk (qbf da 2 rfl qco) ?_;have e6:=((ad.trans Y).updr (qbq (ad).size (qbp _)) Z);have db:=e6.has c9;refine Runs.putsB db rfl λii dc U=>?_;have dd:=(gy.grow (Y.updr (qbp _) Z)).upda (qbj er (c9).lt) U;have b5:=(e5.grow (Y.updr (qbp _) Z)).upda (qbj b4 (c9).lt) U;have et:=e6.has b3;have de:=((C.trans ak).trans aj);have ca:=qx et (Nat.ne_of_lt (qbr (de.has ar).lt (qbp _))) U;have df:=qx da (Nat.ne_of_gt (qbr (ad.has c9).lt (qbp _))) U;refine qbk (qbf dc 0 rfl rfl) ?_;refine qbk (qbf dc 1 rfl qco) ?_;refine qbk (qbf dc 2 rfl qco) ?_;refine Runs.retB ?_;refine qz rfl ?_;refine qbb rfl ?_;refine qz (seenAt rfl rfl) (qz (seenAt rfl qco) (qz (seenAt rfl qco) ?_));have e7:=((aj.trans X).trans ad);have bu:=(((((aj.trans X).trans ad).trans Y).updr (qbq (e7).size (qbp _)) Z).updr (qbq (aj).size (qbp _)) U);refine qbe (bu.same ((C.trans ak).has bt) 0 2) ?_;refine qbe (bu.same au 0 0) ?_;rw[kvz];refine Runs.newB λij eu F=>?_;refine Runs.newB λik dg Q=>?_;refine qbk (AH.has.rd0 ((F.trans Q).has ca) rfl qcp) ?_;refine qbk (qbf (Q.has eu) 0 rfl qcp) ?_;refine qbk (qbf (Q.has eu) 1 rfl qcp) ?_;obtain⟨_,il,g0,im,h3,rfl,g1,e8,ae,ev,cb⟩:=ksw a1 (((((kba a2 a3 a4 a5).1)))) (((((kba a2 a3 a4 a5).2.1))));refine qbk g0 ?_;refine qbk rfl ?_;refine qbk rfl ?_;refine Runs.ifTB rfl ?_;refine qbk (seenAt rfl rfl) ?_;refine qbk (seenAt rfl qco) ?_;refine qbk (seenAt rfl qco) ?_;refine qbk (seen qcp) ?_;refine Runs.newB λio g2 ag=>?_;refine Runs.putsB g2 rfl λip dh ah=>?_;refine qbk (qbf dh 0 rfl rfl) ?_;refine qbk (qbf dh 1 rfl qco) ?_;refine qbk (qbf dh 2 rfl qco) ?_;have g3:=((ae.trans ag).updr (qbq (ae).size (qbp _)) ah);have di:=g3.has dg;refine Runs.putsB di rfl λiq dj ai=>?_;have bn:=(g1.grow (ag.updr (qbp _) ah)).upda (qbj ev (dg).lt) ai;have ba:=(e8.grow (ag.updr (qbp _) ah)).upda (qbj cb (dg).lt) ai;have dk:=qx dh (Nat.ne_of_gt (qbr (ae.has dg).lt (qbp _))) ai;refine qbk (qbf dj 0 rfl rfl) ?_;refine qbk (qbf dj 1 rfl qco) ?_;refine qbk (qbf dj 2 rfl qco) ?_;refine Runs.retB ?_;refine qz rfl ?_;refine qbb rfl ?_;refine qz (seenAt rfl rfl) (qz (seenAt rfl qco) (qz (seenAt rfl qco) ?_));have af:=bu.has au;have e9:=((F.trans Q).trans ae);have cc:=(((((F.trans Q).trans ae).trans ag).updr (qbq (e9).size (qbp _)) ah).updr (qbq (F).size (qbp _)) ai);refine qbe (cc.same af 0 0) ?_;have bp:=dd.grow cc;have bb:=b5.grow cc;obtain⟨ir,g4,e⟩:=qbu.1 e;obtain⟨_,it,g5,iu,h4,rfl,ha,fa,K,fb,ec⟩:=k5q bp bb bn ba (Option.some.inj g4);refine qz g5 (qz rfl (qz rfl ?_));refine qbb rfl ?_;refine qz (seenAt rfl rfl) (qz (seenAt rfl qco) (qz (seenAt rfl qco) (qz (seen qcp) ?_)));have aq:=cc.has af;refine qbe (K.same aq 0 0) ?_;refine qba (K.has aq) rfl λiv cd H=>?_;have dl:=(bp.grow K).upda (qbj er ((aj.trans X).has au).lt) H;have ce:=(bb.grow K).upda (qbj b4 ((aj.trans X).has au).lt) H;have dm:=(bn.grow K).upda (qbj ev ((F.trans Q).has af).lt) H;have cf:=(ba.grow K).upda (qbj cb ((F.trans Q).has af).lt) H;have dn:=ha.upda (qbj fb (aq).lt) H;have cg:=fa.upda (qbj ec (aq).lt) H;have ew:=(cc.trans K);have ex:=ew.has ca;have ci:=qx ex (Nat.ne_of_lt (qbr (C.has ar).lt (qbp _))) H;have hb:=(((bu.trans F).trans Q).trans ae);have hc:=(bu.trans F);have hd:=(((((((bu.trans F).trans Q).trans ae).trans ag).updr (qbq (hb).size (qbp _)) ah).updr (qbq (hc).size (qbp _)) ai).trans K);have ey:=hd.has bk;have he:=(((b2.trans aa).updr (qbq (b2).size (qbp _)) ac).trans C);have ez:=qx ey (Nat.ne_of_lt (qbr (he.has b7).lt (qbp _))) H;have hf:=(((((((X.trans ad).trans Y).updr (qbq ((X.trans ad)).size (qbp _)) Z).updr (qbp _) U).trans F).trans Q).trans ae);have hg:=(((((X.trans ad).trans Y).updr (qbq ((X.trans ad)).size (qbp _)) Z).updr (qbp _) U).trans F);have hh:=(((((((((((X.trans ad).trans Y).updr (qbq ((X.trans ad)).size (qbp _)) Z).updr (qbp _) U).trans F).trans Q).trans ae).trans ag).updr (qbq (hf).size (qbp _)) ah).updr (qbq (hg).size (qbp _)) ai).trans K);have dp:=hh.has ep;have dq:=qx dp (Nat.ne_of_gt (qbr (au).lt (qbp _))) H;have dr:=ew.has dc;have dt:=qx dr (Nat.ne_of_gt (qbr (aj.has au).lt (qbp _))) H;have du:=ew.has df;have dv:=qx du (Nat.ne_of_gt (qbr (e7.has au).lt (qbp _))) H;have hj:=(((((Q.trans ae).trans ag).updr (qbq ((Q.trans ae)).size (qbp _)) ah).updr (qbp _) ai).trans K);have dw:=hj.has eu;have dx:=qx dw (Nat.ne_of_gt (qbr (af).lt (qbp _))) H;have dy:=qx (K.has dj) (Nat.ne_of_gt (qbr (F.has af).lt (qbp _))) H;have dz:=qx (K.has dk) (Nat.ne_of_gt (qbr (e9.has af).lt (qbp _))) H;refine qz (qbf cd 0 rfl rfl) (qz (qbf cd 1 rfl qco) (qz (qbf cd 2 rfl qco) ?_));have cj:=((((((((g9.trans A).trans aa).updr (qbq ((g9.trans A)).size (qbp _)) ac).trans C).trans ak).trans aj).trans X).trans ad);have e0:=((((((g9.trans A).trans aa).updr (qbq ((g9.trans A)).size (qbp _)) ac).trans C).trans ak).trans aj);have hk:=((((((cj.trans Y).updr (qbq (cj).size (qbp _)) Z).updr (qbq (e0).size (qbp _)) U).trans F).trans Q).trans ae);have hl:=((((cj.trans Y).updr (qbq (cj).size (qbp _)) Z).updr (qbq (e0).size (qbp _)) U).trans F);have hm:=((((g9.trans A).trans aa).updr (qbq ((g9.trans A)).size (qbp _)) ac).trans C);have hn:=(((((((((((((((((((g9.trans A).trans aa).updr (qbq ((g9.trans A)).size (qbp _)) ac).trans C).trans ak).trans aj).trans X).trans ad).trans Y).updr (qbq (cj).size (qbp _)) Z).updr (qbq (e0).size (qbp _)) U).trans F).trans Q).trans ae).trans ag).updr (qbq (hk).size (qbp _)) ah).updr (qbq (hl).size (qbp _)) ai).trans K).updr (qbq (hm).size (qbp _)) H);have bm:=hn.has b8;refine qz (qbf bm 0 rfl qcp) (qz (qbf bm 1 rfl qcp) ?_);rw[kvz];refine Runs.newB λiw e1 an=>?_;refine Runs.newB λix d0 al=>?_;refine qbk (AH.has.rd0 ((an.trans al).has ci) rfl qcp) ?_;refine qbk (qbf (al.has e1) 0 rfl qcp) ?_;refine qbk (qbf (al.has e1) 1 rfl qcp) ?_;obtain⟨_,iy,ho,iz,h5,rfl,hp,fc,ap,fd,ed⟩:=ksw a1 a4 a5;refine qbk ho ?_;refine qbk rfl ?_;refine qbk rfl ?_;refine Runs.ifTB rfl ?_;refine qbk (seenAt rfl rfl) ?_;refine qbk (seenAt rfl qco) ?_;refine qbk (seenAt rfl qco) ?_;refine qbk (seen qcp) ?_;refine Runs.newB λi0 hq ay=>?_;refine Runs.putsB hq rfl λi1 d1 az=>?_;refine qbk (qbf d1 0 rfl rfl) ?_;refine qbk (qbf d1 1 rfl qco) ?_;refine qbk (qbf d1 2 rfl qco) ?_;have hr:=((ap.trans ay).updr (qbq (ap).size (qbp _)) az);have d2:=hr.has d0;refine Runs.putsB d2 rfl λi2 d3 a0=>?_;have bq:=(hp.grow (ay.updr (qbp _) az)).upda (qbj fd (d0).lt) a0;have bc:=(fc.grow (ay.updr (qbp _) az)).upda (qbj ed (d0).lt) a0;have d4:=qx d1 (Nat.ne_of_gt (qbr (ap.has d0).lt (qbp _))) a0;refine qbk (qbf d3 0 rfl rfl) ?_;refine qbk (qbf d3 1 rfl qco) ?_;refine qbk (qbf d3 2 rfl qco) ?_;refine Runs.retB ?_;refine qz rfl ?_;refine qbb rfl ?_;refine qz (seenAt rfl rfl) (qz (seenAt rfl qco) (qz (seenAt rfl qco) ?_));have hs:=((an.trans al).trans ap);have d5:=(((((an.trans al).trans ap).trans ay).updr (qbq (hs).size (qbp _)) az).updr (qbq (an).size (qbp _)) a0);refine qbe (d5.same cd 0 3) ?_;have br:=dn.grow d5;have bd:=cg.grow d5;obtain⟨i3,ht,e⟩:=qbu.1 e;obtain⟨_,i4,hu,hv,fe,rfl,hw,ff,aw,fg,ee⟩:=k93 br bd bq bc (Option.some.inj ht);refine qz hu (qz rfl (qz rfl ?_));refine qbb rfl ?_;refine qz (seenAt rfl rfl) (qz (seenAt rfl qco) (qz (seenAt rfl qco) (qz (seen qcp) ?_)));have be:=(((((((A.trans aa).updr (qbq (A).size (qbp _)) ac).trans C).trans ak).trans aj).trans X).trans ad);have bv:=(((((A.trans aa).updr (qbq (A).size (qbp _)) ac).trans C).trans ak).trans aj);have bf:=((((((be.trans Y).updr (qbq (be).size (qbp _)) Z).updr (qbq (bv).size (qbp _)) U).trans F).trans Q).trans ae);have bw:=((((be.trans Y).updr (qbq (be).size (qbp _)) Z).updr (qbq (bv).size (qbp _)) U).trans F);have bx:=(((A.trans aa).updr (qbq (A).size (qbp _)) ac).trans C);have d6:=((((((((bf.trans ag).updr (qbq (bf).size (qbp _)) ah).updr (qbq (bw).size (qbp _)) ai).trans K).updr (qbq (bx).size (qbp _)) H).trans an).trans al).trans ap);have d7:=((((((bf.trans ag).updr (qbq (bf).size (qbp _)) ah).updr (qbq (bw).size (qbp _)) ai).trans K).updr (qbq (bx).size (qbp _)) H).trans an);have hx:=(((((((((((((((((((((((((A.trans aa).updr (qbq (A).size (qbp _)) ac).trans C).trans ak).trans aj).trans X).trans ad).trans Y).updr (qbq (be).size (qbp _)) Z).updr (qbq (bv).size (qbp _)) U).trans F).trans Q).trans ae).trans ag).updr (qbq (bf).size (qbp _)) ah).updr (qbq (bw).size (qbp _)) ai).trans K).updr (qbq (bx).size (qbp _)) H).trans an).trans al).trans ap).trans ay).updr (qbq (d6).size (qbp _)) az).updr (qbq (d7).size (qbp _)) a0).trans aw);have e2:=hx.has b9;refine qba e2 rfl λi5 e3 I=>?_;have fh:=(bv.trans X);have am:=(d5.trans aw);have cl:=dl.grow am;have f2:=cl.upda (qbj er (fh.has b9).lt) I;have bz:=ce.grow am;have fi:=bz.upda (qbj b4 (fh.has b9).lt) I;have ef:=(bw.trans Q);have cm:=dm.grow am;have f3:=cm.upda (qbj ev (ef.has b9).lt) I;have b0:=cf.grow am;have fj:=b0.upda (qbj cb (ef.has b9).lt) I;have cp:=(((bf.trans ag).updr (qbq (bf).size (qbp _)) ah).updr (qbq (bw).size (qbp _)) ai);have f4:=(br.grow aw).upda (qbj fb (cp.has b9).lt) I;have fk:=(bd.grow aw).upda (qbj ec (cp.has b9).lt) I;have eg:=(d7.trans al);have f5:=(bq.grow aw).upda (qbj fd (eg.has b9).lt) I;have fl:=(bc.grow aw).upda (qbj ed (eg.has b9).lt) I;have eh:=(((d6.trans ay).updr (qbq (d6).size (qbp _)) az).updr (qbq (d7).size (qbp _)) a0);have d8:=hw.upda (qbj fg (eh.has b9).lt) I;have cu:=ff.upda (qbj ee (eh.has b9).lt) I;have d9:=am.has ci;have hy:=qx d9 (Nat.ne_of_lt (qbr ((g7.trans g8).has b6).lt (qbp _))) I;have ea:=am.has ez;have hz:=qx ea (Nat.ne_of_lt (qbr (g8.has b7).lt (qbp _))) I;have eb:=am.has bm;have h1:=qx eb (Nat.ne_of_lt (qbr (b8).lt (qbp _))) I;have bg:=(eq.trans ad);have bh:=((((((bg.trans Y).updr (qbq (bg).size (qbp _)) Z).updr (qbq (de).size (qbp _)) U).trans F).trans Q).trans ae);have cv:=((((bg.trans Y).updr (qbq (bg).size (qbp _)) Z).updr (qbq (de).size (qbp _)) U).trans F);have fm:=((((((((bh.trans ag).updr (qbq (bh).size (qbp _)) ah).updr (qbq (cv).size (qbp _)) ai).trans K).updr (qbq (C).size (qbp _)) H).trans an).trans al).trans ap);have fo:=((((((bh.trans ag).updr (qbq (bh).size (qbp _)) ah).updr (qbq (cv).size (qbp _)) ai).trans K).updr (qbq (C).size (qbp _)) H).trans an);have fq:=(((((((((((((((((((eq.trans ad).trans Y).updr (qbq (bg).size (qbp _)) Z).updr (qbq (de).size (qbp _)) U).trans F).trans Q).trans ae).trans ag).updr (qbq (bh).size (qbp _)) ah).updr (qbq (cv).size (qbp _)) ai).trans K).updr (qbq (C).size (qbp _)) H).trans an).trans al).trans ap).trans ay).updr (qbq (fm).size (qbp _)) az).updr (qbq (fo).size (qbp _)) a0).trans aw);have cw:=fq.has bt;have f6:=qx cw (Nat.ne_of_gt (qbr (A.has b9).lt (qbp _))) I;have cx:=am.has cd;have f7:=qx cx (Nat.ne_of_gt (qbr (bx.has b9).lt (qbp _))) I;have cy:=am.has dq;have fs:=(bx.trans ak);have f8:=qx cy (Nat.ne_of_gt (qbr (fs.has b9).lt (qbp _))) I;have cz:=am.has dt;have f9:=qx cz (Nat.ne_of_gt (qbr (bv.has b9).lt (qbp _))) I;have c0:=am.has dv;have ga:=qx c0 (Nat.ne_of_gt (qbr (be.has b9).lt (qbp _))) I;have c1:=am.has dx;have ft:=(((be.trans Y).updr (qbq (be).size (qbp _)) Z).updr (qbq (bv).size (qbp _)) U);have gb:=qx c1 (Nat.ne_of_gt (qbr (ft.has b9).lt (qbp _))) I;have c2:=am.has dy;have gc:=qx c2 (Nat.ne_of_gt (qbr (bw.has b9).lt (qbp _))) I;have c3:=am.has dz;have gd:=qx c3 (Nat.ne_of_gt (qbr (bf.has b9).lt (qbp _))) I;have fu:=(((((al.trans ap).trans ay).updr (qbq ((al.trans ap)).size (qbp _)) az).updr (qbp _) a0).trans aw);have c4:=fu.has e1;have fv:=((cp.trans K).updr (qbq (bx).size (qbp _)) H);have gf:=qx c4 (Nat.ne_of_gt (qbr (fv.has b9).lt (qbp _))) I;have gg:=qx (aw.has d3) (Nat.ne_of_gt (qbr (d7.has b9).lt (qbp _))) I;have gh:=qx (aw.has d4) (Nat.ne_of_gt (qbr (d6.has b9).lt (qbp _))) I;refine qz (qbf e3 0 rfl rfl) (qz (qbf e3 1 rfl qco) (qz (qbf e3 2 rfl qco) ?_));cases e;cases b1;have ax:=((((g6.trans g7).trans g8).trans g9).trans A);have bi:=(((((((ax.trans aa).updr (qbq (ax).size (qbp _)) ac).trans C).trans ak).trans aj).trans X).trans ad);have c5:=(((((ax.trans aa).updr (qbq (ax).size (qbp _)) ac).trans C).trans ak).trans aj);have bj:=((((((bi.trans Y).updr (qbq (bi).size (qbp _)) Z).updr (qbq (c5).size (qbp _)) U).trans F).trans Q).trans ae);have c6:=((((bi.trans Y).updr (qbq (bi).size (qbp _)) Z).updr (qbq (c5).size (qbp _)) U).trans F);have c7:=(((ax.trans aa).updr (qbq (ax).size (qbp _)) ac).trans C);have fw:=((((((((bj.trans ag).updr (qbq (bj).size (qbp _)) ah).updr (qbq (c6).size (qbp _)) ai).trans K).updr (qbq (c7).size (qbp _)) H).trans an).trans al).trans ap);have fx:=((((((bj.trans ag).updr (qbq (bj).size (qbp _)) ah).updr (qbq (c6).size (qbp _)) ai).trans K).updr (qbq (c7).size (qbp _)) H).trans an);have c8:=((((((((((((((((((((((((((((g6.trans g7).trans g8).trans g9).trans A).trans aa).updr (qbq (ax).size (qbp _)) ac).trans C).trans ak).trans aj).trans X).trans ad).trans Y).updr (qbq (bi).size (qbp _)) Z).updr (qbq (c5).size (qbp _)) U).trans F).trans Q).trans ae).trans ag).updr (qbq (bj).size (qbp _)) ah).updr (qbq (c6).size (qbp _)) ai).trans K).updr (qbq (c7).size (qbp _)) H).trans an).trans al).trans ap).trans ay).updr (qbq (fw).size (qbp _)) az).updr (qbq (fx).size (qbp _)) a0);have fy:=((g6.trans g7).trans g8);have fz:=((c8.trans aw).updr (qbq (fy).size (qbp _)) I);exact qy ⟨hv,fe,rfl,d8,cu,fz,(fg.of_le c8),(ee.of_le c8)⟩
theorem kbfp{s:kj7}{r:ki8}(C:Iter kyo s r):ktt r s:=qbg (λs o e A=>by
 cases s with
 | fn a1 a2 a3 a4 a5=>exact @k9k _ _ a1 a2 a3 a4 a5 e A
 | no=>exact True.intro
 ) C
inductive kji
 | fn (a1:Int) (a2:Int) (a3:Int) (a4:Int) (a5:Int)
 | no
abbrev kja:=Bool×List Nat×List Nat×Int
noncomputable def knb(a1 a2 a3 a4 a5:Int):Option (kji⊕kja):=cond (!((kba a2 a3 a4 a5).2.2)) (some (.inr (false,[],[],1))) (cond (decide (a1<1)) (some (.inr (false,[],[],1))) (cond (decide (a1>1048576)) (some (.inr (false,[],[],1))) ((some (kb4 (((scoreF a1 a2 a3).1)) ((scoreF a1 a2 a3).2.1) ((scoreF a1 a2 a3).2.2.1) (((scoreF a1 (((kba a2 a3 a4 a5).1)) (((kba a2 a3 a4 a5).2.1))).1)) ((scoreF a1 (((kba a2 a3 a4 a5).1)) (((kba a2 a3 a4 a5).2.1))).2.1) ((scoreF a1 (((kba a2 a3 a4 a5).1)) (((kba a2 a3 a4 a5).2.1))).2.2.1))).bind λC=>(some (kcz ((C.1)) C.2.1 C.2.2.1 (((scoreF a1 a4 a5).1)) ((scoreF a1 a4 a5).2.1) ((scoreF a1 a4 a5).2.2.1))).bind λA=>some (.inr (((A.1)),A.2.1,A.2.2.1,(A.2.2.2))))))
noncomputable def kwa:kji->Option (kji⊕kja)
 | .fn a1 a2 a3 a4 a5=>knb a1 a2 a3 a4 a5
 | .no=>none
@[reducible] def kwe(h0:AH)(r:kja)(v:AV)(h':AH):Prop:=∃s1:Sl,∃s2:Sl,v=.tup [.agg [.bool r.1,s1.v,s2.v],.i r.2.2.2]/\Nats h' s1 r.2.1/\Nats h' s2 r.2.2.1/\Grow h0 h'/\Own h0 s1/\Own h0 s2
def ksu(r:kja):kji->Prop
 | .fn a1 a2 a3 a4 a5=>∀{h:AH},Runs (go (.fn kof [.i a1,.agg [.i a2,.i a3],.agg [.i a4,.i a5]]) h) (kwe h r)
 | .no=>True
theorem kbc9{r:kja}{o:kji⊕kja}{a1 a2 a3 a4 a5:Int}(e:knb a1 a2 a3 a4 a5=some o)(ar:GoodS (ksu r) r o):ksu r (.fn a1 a2 a3 a4 a5):=by
 intro h;rw[k8i];unfold knb at e;refine q0 λH6 b6 g6=>?_;refine q0 λH7 b7 g7=>?_;refine q0 λH8 b8 g8=>?_;refine qz (qbf ((g7.trans g8).has b6) 0 rfl qcp) (qz (qbf ((g7.trans g8).has b6) 1 rfl qcp) (qz (qbf (g8.has b7) 0 rfl qcp) (qz (qbf (g8.has b7) 1 rfl qcp) ?_)));obtain⟨_,H9,e9,rfl,C⟩:=kw3 a2 a3 a4 a5;refine qz e9 (qz rfl (qz rfl ?_));refine qbb rfl ?_;refine qz (seenAt rfl qcp) (qz (seenAt rfl qcp) (qz (seen rfl) ?_));refine q0 λfi d5 F=>?_;refine qba d5 rfl λfj bg H=>?_;refine qbd (λbv=>?_) (λbv=>?_)
 ·replace e:=(condT bv).symm.trans e;have d6:=((C.trans F).updr (qbq (C).size (qbp _)) H);have bw:=d6.has b8;refine qba bw rfl λfk bx cz=>?_;have dt:=qx bg (Nat.ne_of_gt (qbr (C.has b8).lt (qbp _))) cz;refine qz (qbf bx 0 rfl rfl) (qz (qbf bx 1 rfl qco) (qz (qbf bx 2 rfl qco) ?_));cases e;cases ar;have bb:=(((g6.trans g7).trans g8).trans C);have bz:=((((((g6.trans g7).trans g8).trans C).trans F).updr (qbq (bb).size (qbp _)) H).updr (qbq ((g6.trans g7)).size (qbp _)) cz);exact qy ⟨(⟨none,0,.is 0⟩:Sl),(⟨none,0,.is 0⟩:Sl),rfl,(qw _),(qw _),bz,(qu _),(qu _)⟩
 ·replace e:=(condF bv).symm.trans e;refine qbd (λb0=>?_) (λb0=>?_)
  ·replace e:=(condT b0).symm.trans e;have b1:=((C.trans F).updr (qbq (C).size (qbp _)) H);have b2:=b1.has b8;refine qba b2 rfl λfl b3 c0=>?_;have du:=qx bg (Nat.ne_of_gt (qbr (C.has b8).lt (qbp _))) c0;refine qz (qbf b3 0 rfl rfl) (qz (qbf b3 1 rfl qco) (qz (qbf b3 2 rfl qco) ?_));cases e;cases ar;have bz:=(((g6.trans g7).trans g8).trans C);have b4:=((((((g6.trans g7).trans g8).trans C).trans F).updr (qbq (bz).size (qbp _)) H).updr (qbq ((g6.trans g7)).size (qbp _)) c0);exact qy ⟨(⟨none,0,.is 0⟩:Sl),(⟨none,0,.is 0⟩:Sl),rfl,(qw _),(qw _),b4,(qu _),(qu _)⟩
  ·replace e:=(condF b0).symm.trans e;refine qbd (λb5=>?_) (λb5=>?_)
   ·replace e:=(condT b5).symm.trans e;have bb:=((C.trans F).updr (qbq (C).size (qbp _)) H);have b9:=bb.has b8;refine qba b9 rfl λfm ca c1=>?_;have dv:=qx bg (Nat.ne_of_gt (qbr (C.has b8).lt (qbp _))) c1;refine qz (qbf ca 0 rfl rfl) (qz (qbf ca 1 rfl qco) (qz (qbf ca 2 rfl qco) ?_));cases e;cases ar;have b4:=(((g6.trans g7).trans g8).trans C);have d7:=((((((g6.trans g7).trans g8).trans C).trans F).updr (qbq (b4).size (qbp _)) H).updr (qbq ((g6.trans g7)).size (qbp _)) c1);exact qy ⟨(⟨none,0,.is 0⟩:Sl),(⟨none,0,.is 0⟩:Sl),rfl,(qw _),(qw _),d7,(qu _),(qu _)⟩
   ·replace e:=(condF b5).symm.trans e;have b1:=((g7.trans g8).trans C);have bb:=((((g7.trans g8).trans C).trans F).updr (qbq (b1).size (qbp _)) H);have ap:=bb.has b6;refine qz (qbf ap 0 rfl qcp) (qz (qbf ap 1 rfl qcp) ?_);obtain⟨_,fo,d8,fq,fe,rfl,d9,c2,ak,ea,c3⟩:=kt5 a1 a2 a3;refine qz d8 (qz rfl (qz rfl ?_));refine qbb rfl ?_;refine qz (seenAt rfl rfl) (qz (seenAt rfl qco) (qz (seenAt rfl qco) (qz (seen qcp) ?_)));refine q0 λfs eb ah=>?_;refine qba eb rfl λft ec ai=>?_;have cb:=((ak.trans ah).updr (qbq (ak).size (qbp _)) ai);have aj:=cb.has bg;refine qz (qbf aj 0 rfl qcp) (qz (qbf aj 1 rfl qcp) ?_);obtain⟨_,fu,ed,fv,ff,rfl,ee,c4,I,ef,c5⟩:=kt5 a1 (((kba a2 a3 a4 a5).1)) (((kba a2 a3 a4 a5).2.1));refine qz ed (qz rfl (qz rfl ?_));refine qbb rfl ?_;refine qz (seenAt rfl rfl) (qz (seenAt rfl qco) (qz (seenAt rfl qco) (qz (seen qcp) ?_)));refine q0 λfw eg K=>?_;refine qba eg rfl λfx eh Q=>?_;have cc:=((((g8.trans C).trans F).updr (qbq ((g8.trans C)).size (qbp _)) H).trans ak);have ei:=(((cc.trans ah).updr (qbq (cc).size (qbp _)) ai).trans I);have ej:=(((((((((g8.trans C).trans F).updr (qbq ((g8.trans C)).size (qbp _)) H).trans ak).trans ah).updr (qbq (cc).size (qbp _)) ai).trans I).trans K).updr (qbq (ei).size (qbp _)) Q);have aq:=ej.has b7;refine qz (qbf aq 0 rfl qcp) (qz (qbf aq 1 rfl qcp) ?_);obtain⟨_,fy,ek,fz,fg,rfl,el,c6,U,em,c7⟩:=kt5 a1 a4 a5;refine qz ek (qz rfl (qz rfl ?_));refine qbb rfl ?_;refine qz (seenAt rfl rfl) (qz (seenAt rfl qco) (qz (seenAt rfl qco) (qz (seen qcp) ?_)));refine q0 λf0 en Y=>?_;refine qba en rfl λf1 eo Z=>?_;have ep:=(((I.trans K).updr (qbq (I).size (qbp _)) Q).trans U);have cd:=(((((I.trans K).updr (qbq (I).size (qbp _)) Q).trans U).trans Y).updr (qbq (ep).size (qbp _)) Z);have aa:=cd.has ec;refine qz (qbf aa 0 rfl rfl) (qz (qbf aa 1 rfl qco) (qz (qbf aa 2 rfl qco) ?_));have ce:=((U.trans Y).updr (qbq (U).size (qbp _)) Z);have ac:=ce.has eh;refine qz (qbf ac 0 rfl rfl) (qz (qbf ac 1 rfl qco) (qz (qbf ac 2 rfl qco) ?_));have cf:=((ah.updr (qbp _) ai).trans I);have eq:=(((cf.trans K).updr (qbq (cf).size (qbp _)) Q).trans U);have c8:=(((((((ah.updr (qbp _) ai).trans I).trans K).updr (qbq (cf).size (qbp _)) Q).trans U).trans Y).updr (qbq (eq).size (qbp _)) Z);have au:=d9.grow c8;have al:=c2.grow c8;have er:=((K.updr (qbp _) Q).trans U);have c9:=((((K.updr (qbp _) Q).trans U).trans Y).updr (qbq (er).size (qbp _)) Z);have aw:=ee.grow c9;have am:=c4.grow c9;obtain⟨f2,et,e⟩:=qbu.1 e;obtain⟨_,f3,eu,f4,fh,rfl,da,bt,X,ev,db⟩:=kbe7 au al aw am (Option.some.inj et);refine qz eu (qz rfl (qz rfl ?_));refine qbb rfl ?_;refine qz (seenAt rfl rfl) (qz (seenAt rfl qco) (qz (seenAt rfl qco) (qz (seen qcp) ?_)));refine q0 λf5 ew ae=>?_;refine qba ew rfl λf6 bh af=>?_;refine qz (qbf bh 0 rfl rfl) (qz (qbf bh 1 rfl qco) (qz (qbf bh 2 rfl qco) ?_));have dc:=((X.trans ae).updr (qbq (X).size (qbp _)) af);have ad:=dc.has eo;refine qz (qbf ad 0 rfl rfl) (qz (qbf ad 1 rfl qco) (qz (qbf ad 2 rfl qco) ?_));have ex:=((Y.updr (qbp _) Z).trans X);have dd:=((((Y.updr (qbp _) Z).trans X).trans ae).updr (qbq (ex).size (qbp _)) af);have ax:=el.grow dd;have an:=c6.grow dd;obtain⟨f7,ey,e⟩:=qbu.1 e;obtain⟨_,f8,ez,e0,de,rfl,e1,df,ag,dg,bu⟩:=kbet (da.grow (ae.updr (qbp _) af)) (bt.grow (ae.updr (qbp _) af)) ax an (Option.some.inj ey);refine qz ez (qz rfl (qz rfl ?_));refine qbb rfl ?_;refine qz (seenAt rfl rfl) (qz (seenAt rfl qco) (qz (seenAt rfl qco) (qz (seen qcp) ?_)));have ay:=(((C.trans F).updr (qbq (C).size (qbp _)) H).trans ak);have az:=(((ay.trans ah).updr (qbq (ay).size (qbp _)) ai).trans I);have a0:=(((az.trans K).updr (qbq (az).size (qbp _)) Q).trans U);have bi:=(((a0.trans Y).updr (qbq (a0).size (qbp _)) Z).trans X);have e2:=(((((((((((((((C.trans F).updr (qbq (C).size (qbp _)) H).trans ak).trans ah).updr (qbq (ay).size (qbp _)) ai).trans I).trans K).updr (qbq (az).size (qbp _)) Q).trans U).trans Y).updr (qbq (a0).size (qbp _)) Z).trans X).trans ae).updr (qbq (bi).size (qbp _)) af).trans ag);have cg:=e2.has b8;refine qba cg rfl λf9 ci A=>?_;have dh:=((C.trans F).updr (qbq (C).size (qbp _)) H);have ba:=(dc.trans ag);have bj:=au.grow ba;have dw:=bj.upda (qbj ea (dh.has b8).lt) A;have bc:=al.grow ba;have di:=bc.upda (qbj c3 (dh.has b8).lt) A;have dj:=((ay.trans ah).updr (qbq (ay).size (qbp _)) ai);have bk:=aw.grow ba;have dx:=bk.upda (qbj ef (dj.has b8).lt) A;have bd:=am.grow ba;have dk:=bd.upda (qbj c5 (dj.has b8).lt) A;have dl:=((az.trans K).updr (qbq (az).size (qbp _)) Q);have dy:=(ax.grow ag).upda (qbj em (dl.has b8).lt) A;have dm:=(an.grow ag).upda (qbj c7 (dl.has b8).lt) A;have dn:=((a0.trans Y).updr (qbq (a0).size (qbp _)) Z);have dp:=((ae.updr (qbp _) af).trans ag);have bm:=da.grow dp;have dz:=bm.upda (qbj ev (dn.has b8).lt) A;have be:=bt.grow dp;have dq:=be.upda (qbj db (dn.has b8).lt) A;have dr:=((bi.trans ae).updr (qbq (bi).size (qbp _)) af);have bn:=e1.upda (qbj dg (dr.has b8).lt) A;have bf:=df.upda (qbj bu (dr.has b8).lt) A;have cj:=(cb.trans I);have cl:=(((cj.trans K).updr (qbq (cj).size (qbp _)) Q).trans U);have e3:=(((cl.trans Y).updr (qbq (cl).size (qbp _)) Z).trans X);have e4:=((((((((((cb.trans I).trans K).updr (qbq (cj).size (qbp _)) Q).trans U).trans Y).updr (qbq (cl).size (qbp _)) Z).trans X).trans ae).updr (qbq (e3).size (qbp _)) af).trans ag);have cm:=e4.has ap;have e5:=qx cm (Nat.ne_of_lt (qbr (g7.has b6).lt (qbp _))) A;have e6:=(ce.trans X);have e7:=((((ce.trans X).trans ae).updr (qbq (e6).size (qbp _)) af).trans ag);have cp:=e7.has aq;have e8:=qx cp (Nat.ne_of_lt (qbr (b7).lt (qbp _))) A;have fa:=(cd.trans X);have fb:=((((cd.trans X).trans ae).updr (qbq (fa).size (qbp _)) af).trans ag);have bp:=fb.has aj;have d0:=qx bp (Nat.ne_of_gt (qbr (C.has b8).lt (qbp _))) A;have bq:=ba.has aa;have d1:=qx bq (Nat.ne_of_gt (qbr (ay.has b8).lt (qbp _))) A;have br:=ba.has ac;have d2:=qx br (Nat.ne_of_gt (qbr (az.has b8).lt (qbp _))) A;have d3:=qx (ag.has ad) (Nat.ne_of_gt (qbr (a0.has b8).lt (qbp _))) A;have d4:=qx (ag.has bh) (Nat.ne_of_gt (qbr (bi.has b8).lt (qbp _))) A;refine qz (qbf ci 0 rfl rfl) (qz (qbf ci 1 rfl qco) (qz (qbf ci 2 rfl qco) ?_));cases e;cases ar;have cu:=(((g6.trans g7).trans g8).trans C);have cv:=(((cu.trans F).updr (qbq (cu).size (qbp _)) H).trans ak);have cw:=(((cv.trans ah).updr (qbq (cv).size (qbp _)) ai).trans I);have cx:=(((cw.trans K).updr (qbq (cw).size (qbp _)) Q).trans U);have fc:=(((cx.trans Y).updr (qbq (cx).size (qbp _)) Z).trans X);have cy:=(((((((((((((((((g6.trans g7).trans g8).trans C).trans F).updr (qbq (cu).size (qbp _)) H).trans ak).trans ah).updr (qbq (cv).size (qbp _)) ai).trans I).trans K).updr (qbq (cw).size (qbp _)) Q).trans U).trans Y).updr (qbq (cx).size (qbp _)) Z).trans X).trans ae).updr (qbq (fc).size (qbp _)) af);have fd:=((cy.trans ag).updr (qbq ((g6.trans g7)).size (qbp _)) A);exact qy ⟨e0,de,rfl,bn,bf,fd,(dg.of_le cy),(bu.of_le cy)⟩
theorem kbl0{s:kji}{r:kja}(C:Iter kwa s r):ksu r s:=qbg (λs o e A=>by
 cases s with
 | fn a1 a2 a3 a4 a5=>exact @kbc9 _ _ a1 a2 a3 a4 a5 e A
 | no=>exact True.intro
 ) C
abbrev Frc:=Bool×List Nat×List Nat×Int
theorem eta4(x:Frc):(x.1,x.2.1,x.2.2.1,x.2.2.2)=x:=rfl
def addQ(a b:Frc):Frc:=kc8 a.1 a.2.1 a.2.2.1 b.1 b.2.1 b.2.2.1
def subQ(a b:Frc):Frc:=kdi a.1 a.2.1 a.2.2.1 b.1 b.2.1 b.2.2.1
def gainF(l g n G N:Int):Frc:=cond (!(kba g n G N).2.2) (false,[],[],1) (cond (!kbm l) (false,[],[],1) (subQ (addQ (scoreF l g n) (scoreF l (kba g n G N).1 (kba g n G N).2.1)) (scoreF l G N)))
def Frc.Lt(a:Frc):Prop:=(∀x∈a.2.1,x<B)/\∀x∈a.2.2.1,x<B
theorem kx4(z:Int)(d:Nat):Frc.Lt (fracM z d):=by
 unfold fracM Frc.Lt;split
 ·exact⟨kbv B2 _,kbv B2 _⟩
 ·exact⟨by simp,by simp⟩
theorem no_lt(n:Int):Frc.Lt (false,[],[],n):=⟨by simp,by simp⟩
theorem kla(l g n:Int):Frc.Lt (scoreF l g n):=by
 unfold scoreF;split
 ·exact kx4 _ _
 ·exact no_lt _
theorem kxg{a b:Frc}(A:a.Lt)(C:b.Lt):(addQ a b).Lt:=by
 unfold addQ;cases h:(kbb a.1 a.2.1 a.2.2.1&&kbb b.1 b.2.1 b.2.2.1)with
 | false=>rw[Add_no h];exact no_lt _
 | true =>obtain⟨z,d,w,e,f,k⟩:=kbee A.1 A.2 C.1 C.2 h;rw[Add_of f k];exact kx4 _ _
theorem kbbw(l g n G N:Int):Iter kyo (.fn l g n G N) (gainF l g n G N):=.done (by
 show klj _ _ _ _ _=_;unfold klj gainF;cases(kba g n G N).2.2 with
 | false=>rfl
 | true =>
  cases kbm l with
  | false=>rfl
  | true =>simp only[Bool.not_true,cond_false];unfold subQ addQ;exact congrArg (λr=>some (Sum.inr r)) (eta4 _))
theorem kbas(l g n G N:Int):Iter kwa (.fn l g n G N) (gainF l g n G N):=.done (by
 show knb _ _ _ _ _=_;unfold knb gainF;have e:=k9x (p:=(addQ (scoreF l g n) (scoreF l (kba g n G N).1 (kba g n G N).2.1)).1) (q:=(scoreF l G N).1) (kxg (kla l g n) (kla l (kba g n G N).1 (kba g n G N).2.1)).1 (kxg (kla l g n) (kla l (kba g n G N).1 (kba g n G N).2.1)).2 (kla l G N).1 (kla l G N).2;unfold addQ at e;simp only[qbt];rw[k4o,e];cases(kba g n G N).2.2 with
 | false=>rfl
 | true =>
  cases A:kbm l with
  | false =>
   have A:¬(1<=l/\l<=1048576):=λe=>by rw[kkz.2 e]at A;cases A
   simp only[Bool.not_true,cond_false];refine kft (λ_=>rfl) λC=>?_;rw[qbv]at C;rw[condT (by rw[qbw];omega)];rfl
  | true =>obtain⟨b1,b2⟩:=kkz.1 A;rw[qby (by omega:¬l<1),qby (by omega:¬l>1048576)];simp only[Bool.not_true,cond_false];unfold subQ addQ;exact congrArg (λr=>some (Sum.inr r)) (eta4 _))
theorem kbcy{h:AH}(l g n G N:Int):Runs (go (.fn krk [.i l,.agg [.i g,.i n],.agg [.i G,.i N]]) h) (kwx h (gainF l g n G N)):=kbfp (kbbw l g n G N)
theorem k6h{h:AH}(l g n G N:Int):Runs (go (.fn kof [.i l,.agg [.i g,.i n],.agg [.i G,.i N]]) h) (kwe h (gainF l g n G N)):=kbl0 (kbas l g n G N)
theorem ks1{z:Int}{d:Nat}(F:0<d)(H:z.natAbs<B^16)(A:d<B^16):∃(w:Int)(e:Nat),fracM z d=((intD w).1,(intD w).2,digs B e,0)/\IsFrac (fracM z d).1 (fracM z d).2.1 (fracM z d).2.2.1 w e/\w.natAbs<=z.natAbs/\e<=d:=by
 have h0:(fracM z d).2.2.2=0:=by unfold fracM;rw[if_pos ⟨qbs (Nat.div_le_self _ _) H,qbs (Nat.div_le_self _ _) A⟩]
 obtain⟨w,e,I,f,_,g,C,K,Q⟩:=k8z F h0;refine⟨w,e,I,f,?_,?_⟩
 ·rw[K,Int.natAbs_mul,Int.natAbs_natCast];exact Nat.le_mul_of_pos_right _ C
 ·rw[Q];exact Nat.le_mul_of_pos_left _ C
theorem kxs{g n G N:Int}(h:(kba g n G N).2.2=true):kbh g n=true/\kbh G N=true/\kbh (G-g) (N-n)=true/\kba g n G N=(G-g,N-n,true):=by
 unfold kba at h|-;cases h1:kbh g n with
 | false=>rw[h1]at h;cases h
 | true =>
  cases A:kbh G N with
  | false=>rw[h1,A]at h;cases h
  | true =>obtain⟨a1,a2,a3,a4⟩:=kns.1 h1;obtain⟨b1,b2,b3,b4⟩:=kns.1 A;rw[h1,A,wrap64 (by omega) (by omega),wrap64 (by omega) (by omega)]at h;have h:kbh (G-g) (N-n)=true:=h;rw[wrap64 (by omega) (by omega),wrap64 (by omega) (by omega),h];exact⟨rfl,rfl,rfl,rfl⟩
theorem kxy:1099511627776*1099511627776*2097152*8<B^16:=by decide +kernel
theorem kvt{l g n:Int}(h1:kbh g n=true)(A:kbm l=true):∃(w:Int)(e:Nat),scoreF l g n=((intD w).1,(intD w).2,digs B e,0)/\IsFrac (scoreF l g n).1 (scoreF l g n).2.1 (scoreF l g n).2.2.1 w e/\w.natAbs<=1099511627776*1099511627776/\e<=2097152:=by obtain⟨a1,a2,a3,a4⟩:=kns.1 h1;obtain⟨b1,b2⟩:=kkz.1 A;have F:=sq_lt a1 a2;have H:=kxy;unfold scoreF;rw[if_pos ⟨h1,A⟩];obtain⟨w,e,C,f,I,K⟩:=ks1 (z:=g*g) (d:=(n+l).toNat) (by omega) (by omega) (by omega);exact⟨w,e,C,f,by omega,by omega⟩
theorem kjw{a b c d:Nat}(h1:a<=c)(A:b<=d):a*b<=c*d:=Nat.mul_le_mul h1 A
theorem kbl6{l g n A C:Int}(h1:kbh g n=true)(I:kbh A C=true)(Q:kbm l=true):∃(w:Int)(e:Nat),addQ (scoreF l g n) (scoreF l A C)=((intD w).1,(intD w).2,digs B e,0)/\IsFrac (addQ (scoreF l g n) (scoreF l A C)).1 (addQ (scoreF l g n) (scoreF l A C)).2.1 (addQ (scoreF l g n) (scoreF l A C)).2.2.1 w e/\w.natAbs<=1099511627776*1099511627776*2097152*2/\e<=2097152*2097152:=by
 obtain⟨w,e,_,f,Y,U⟩:=kvt h1 Q;obtain⟨w',F,_,X,K,H⟩:=kvt I Q;have hb:=kxy;unfold addQ;rw[Add_of f X];have p1:(w*(F:Int)).natAbs<=1099511627776*1099511627776*2097152:=by rw[Int.natAbs_mul,Int.natAbs_natCast];exact kjw Y H
 have p2:(w'*(e:Int)).natAbs<=1099511627776*1099511627776*2097152:=by rw[Int.natAbs_mul,Int.natAbs_natCast];exact kjw K U
 have p3:e*F<=2097152*2097152:=kjw U H;have p4:0<e*F:=Nat.mul_pos f.pos X.pos;obtain⟨x,c,Z,fx,m1,m2⟩:=ks1 (z:=w*(F:Int)+w'*(e:Int)) (d:=e*F) p4 (by omega) (by omega);exact⟨x,c,Z,fx,by omega,by omega⟩
theorem kbfa:1099511627776*1099511627776*2097152*2*2097152+1099511627776*1099511627776*(2097152*2097152)<B^16:=by decide +kernel
theorem k1r{l g n G N:Int}(h1:(kba g n G N).2.2=true)(F:kbm l=true):(gainF l g n G N).2.2.2=0:=by
 obtain⟨I,K,X,e⟩:=kxs h1;unfold gainF;rw[h1,F,e];obtain⟨w,c,_,f,Y,Q⟩:=kbl6 I X F;obtain⟨w',A,_,U,H,C⟩:=kvt K F;have hb:=kbfa;simp only[Bool.not_true,cond_false];unfold subQ;rw[Sub_of f U];have p1:(w*(A:Int)).natAbs<=1099511627776*1099511627776*2097152*2*2097152:=by rw[Int.natAbs_mul,Int.natAbs_natCast];exact kjw Y C
 have p2:(w'*(c:Int)).natAbs<=1099511627776*1099511627776*(2097152*2097152):=by rw[Int.natAbs_mul,Int.natAbs_natCast];exact kjw H Q
 have p3:c*A<=2097152*2097152*2097152:=kjw Q C;have p4:0<c*A:=Nat.mul_pos f.pos U.pos;obtain⟨x,y,Z,fx,I,K⟩:=ks1 (z:=w*(A:Int)-w'*(c:Int)) (d:=c*A) p4 (by omega) (by omega);rw[Z]
theorem k7z(l g n G N:Int):(gainF l g n G N).2.2.2=0\/(gainF l g n G N).2.2.2=1:=by
 cases h1:(kba g n G N).2.2 with
 | false=>right;unfold gainF;rw[h1];rfl
 | true =>
  cases A:kbm l with
  | false=>right;unfold gainF;rw[h1,A];rfl
  | true=>exact Or.inl (k1r h1 A)
theorem k5k{l g n G N:Int}(h:(gainF l g n G N).2.2.2=0):(kba g n G N).2.2=true/\kbm l=true:=by
 unfold gainF at h;cases h1:(kba g n G N).2.2 with
 | false=>rw[h1]at h;cases h
 | true =>
  cases A:kbm l with
  | false=>rw[h1,A]at h;cases h
  | true=>exact⟨rfl,rfl⟩
theorem k46{m:Nat}(h:m<18446744073709551616):smallN (digs B m)=(m,true):=by
 have A:m<B^64:=by have:=kg2;omega
 unfold smallN
 have C:(digs B m).length<=1:=by rw[kbl B2,Nat.pow_one];exact h
 rw[if_pos ⟨kbr A,C⟩];by_cases h0:m=0
 ·subst h0;rw[kcg];rfl
 ·rw[kfc B2 h0,Nat.mod_eq_of_lt h];rfl
theorem k0y{z:Int}(h1:-9223372036854775808<=z)(H:z<=9223372036854775807):smallI (intD z).1 (intD z).2=(z,true):=by
 have C:z.natAbs<18446744073709551616:=by omega
 have F:z.natAbs<B^64:=by have:=kg2;omega
 unfold smallI;have e:smallN (intD z).2=(z.natAbs,true):=k46 C;rw[e,kdc F];have s:(intD z).1=decide (z<0):=rfl;rw[s];by_cases A:z<0
 ·simp only[A,decide_true,if_true,true_and];rw[if_pos (by omega)];congr 1;omega
 ·simp only[A,decide_false,qcn,if_false,true_and];rw[if_pos (by omega)];congr 1;omega
theorem k2y(n a b:Int){h:AH}:go (.fn kdk [.i n,.i a,.i b]) h=some (.bool (decide (a<=n/\n<=b)),h):=ks6 n a b h
theorem kbg9(a1 a2 a3 a4 a5 a6 a7 a8:Int){h:AH}:∃h',go (.fn kjm [.agg [.i a1,.i a2,.i a3,.i a4,.i a5,.i a6,.i a7,.i a8]]) h=some (.bool (Cfg.right ⟨a1,a2,a3,a4,a5,a6,a7,a8⟩),h')/\Grow h h':=kti ⟨a1,a2,a3,a4,a5,a6,a7,a8⟩ h
theorem kbcl(a1 a2 a3 a4 a5 a6 a7 a8:Int){h:AH}:∃h',go (.fn kjl [.agg [.i a1,.i a2,.i a3,.i a4,.i a5,.i a6,.i a7,.i a8]]) h=some (.bool (Cfg.right ⟨a1,a2,a3,a4,a5,a6,a7,a8⟩),h')/\Grow h h':=kt9 ⟨a1,a2,a3,a4,a5,a6,a7,a8⟩ h
end Go.Ab
set_option maxRecDepth 10000
namespace Go.Ab
open IntKind (wrap)
open Go.Proofs Go.Num
inductive kk1
 | fn (a1:Int) (a2:Int)
 | no
abbrev khj:=Bool×List Nat
noncomputable def kmy(a1 a2:Int):Option (kk1⊕khj):=(need (-9223372036854775808<=(a1:Int)/\(a1:Int)<=9223372036854775807)).bind λA=>(need (-9223372036854775808<=(a2:Int)/\(a2:Int)<=9223372036854775807)).bind λC=>some (.inr (((((kx ((ofI a1).1) ((ofI a1).2) ((ofI a2).1) ((ofI a2).2)).1))),(kx ((ofI a1).1) ((ofI a1).2) ((ofI a2).1) ((ofI a2).2)).2.1))
noncomputable def kn2:kk1->Option (kk1⊕khj)
 | .fn a1 a2=>kmy a1 a2
 | .no=>none
@[reducible] def k1t(h0:AH)(r:khj)(v:AV)(h':AH):Prop:=∃s1:Sl,v=.agg [.bool r.1,s1.v]/\Nats h' s1 r.2/\Grow h0 h'/\Own h0 s1
def ksf(r:khj):kk1->Prop
 | .fn a1 a2=>∀{h:AH},Runs (go (.fn kme [.i a1,.i a2]) h) (k1t h r)
 | .no=>True
theorem k8t{r:khj}{o:kk1⊕khj}{a1 a2:Int}(e:kmy a1 a2=some o)(H:GoodS (ksf r) r o):ksf r (.fn a1 a2):=by intro h;rw[k48];unfold kmy at e;refine q0 λH3 b3 Z=>?_;obtain⟨I,aa,e⟩:=qbu.1 e;obtain⟨s4,H4,e4,n4,F,o4⟩:=kqb a1  I.down;refine qz e4 (qz rfl ?_);refine qbb rfl ?_;refine qz (seenAt rfl rfl) (qz (seenAt rfl qco) ?_);obtain⟨K,ac,e⟩:=qbu.1 e;obtain⟨s5,H5,e5,n5,A,o5⟩:=kqb a2  K.down;refine qz e5 (qz rfl ?_);refine qbb rfl ?_;refine qz (seenAt rfl rfl) (qz (seenAt rfl qco) ?_);obtain⟨_,H6,e6,s6,rfl,n6,C,o6⟩:=kt8 (n4.grow A) n5 ((ofI a1).1) ((ofI a2).1);refine qz e6 (qz rfl (qz rfl ?_));refine qbb rfl ?_;refine qz (seenAt rfl rfl) (qz (seenAt rfl qco) (qz (seen qcp) ?_));refine q0 λH7 b7 Q=>?_;refine qba b7 rfl λH8 b8 U=>?_;refine qz (qbf b8 0 rfl rfl) (qz (qbf b8 1 rfl qco) ?_);refine qba (((((F.trans A).trans C).trans Q).updr (qbq (((F.trans A).trans C)).size (qbp _)) U).has b3) rfl λH9 b9 X=>?_;have ad:=(n4.grow (((A.trans C).trans Q).updr (qbq ((A.trans C)).size (qbp _)) U)).upda (qbj o4 (b3).lt) X;have ae:=(n5.grow ((C.trans Q).updr (qbq (C).size (qbp _)) U)).upda (qbj o5 (F.has b3).lt) X;have Y:=(n6.grow (Q.updr (qbp _) U)).upda (qbj o6 ((F.trans A).has b3).lt) X;have af:=qx b8 (Nat.ne_of_gt (qbr (((F.trans A).trans C).has b3).lt (qbp _))) X;refine qz (qbf b9 0 rfl rfl) (qz (qbf b9 1 rfl qco) ?_);cases e;cases H;exact qy ⟨s6,rfl,Y,((((((Z.trans F).trans A).trans C).trans Q).updr (qbq ((((Z.trans F).trans A).trans C)).size (qbp _)) U).updr (qbp _) X),(o6.of_le ((Z.trans F).trans A))⟩
theorem kbm6{s:kk1}{r:khj}(C:Iter kn2 s r):ksf r s:=qbg (λs o e A=>by
 cases s with
 | fn a1 a2=>exact @k8t _ _ a1 a2 e A
 | no=>exact True.intro
 ) C
theorem k4f{h:AH}  {a1 a2:Int}  {r:khj}(q:runP kn2 (.fn a1 a2)=some r):Runs (go (.fn kme [.i a1,.i a2]) h) (k1t h r):=kbm6 (ktw q)
inductive klc
 | fn (a1:Int) (a2:Int) (a3:Int) (a4:Int) (a5:Int) (a6:Int) (a7:Int) (a8:Int) (a9:Int) (a10:Int)
 | no
abbrev khu:=Int×Int
noncomputable def kmc(a1 a2 a3 a4 a5 a6 a7 a8 a9 a10:Int):Option (klc⊕khu):=cond (!((Cfg.right ⟨a1,a2,a3,a4,a5,a6,a7,a8⟩))) (some (.inr (0,1))) (cond (!((decide ((-1099511627776)<=a9/\a9<=1099511627776)))) (some (.inr (0,1))) (cond (!((decide (0<=a10/\a10<=1048576)))) (some (.inr (0,1))) ((runP kn2 (.fn (wrap .i64 (0-a9)) a5)).bind λA=>(runP kn2 (.fn (wrap .i64 (a10+a3)) a6)).bind λC=>some (.inr (((smallI (((floorI (A.1) A.2 (C.1) C.2).1)) ((floorI (A.1) A.2 (C.1) C.2).2.1)).1),((floorI (A.1) A.2 (C.1) C.2).2.2.2.2))))))
noncomputable def k36:klc->Option (klc⊕khu)
 | .fn a1 a2 a3 a4 a5 a6 a7 a8 a9 a10=>kmc a1 a2 a3 a4 a5 a6 a7 a8 a9 a10
 | .no=>none
@[reducible] def kwh(h0:AH)(r:khu)(v:AV)(h':AH):Prop:=v=.tup [.i r.1,.i r.2]/\Grow h0 h'
def kvw(r:khu):klc->Prop
 | .fn a1 a2 a3 a4 a5 a6 a7 a8 a9 a10=>∀{h:AH},Runs (go (.fn kmi [.agg [.i a1,.i a2,.i a3,.i a4,.i a5,.i a6,.i a7,.i a8],.agg [.i a9,.i a10]]) h) (kwh h r)
 | .no=>True
theorem kbgx{r:khu}{o:klc⊕khu}{a1 a2 a3 a4 a5 a6 a7 a8 a9 a10:Int}(e:kmc a1 a2 a3 a4 a5 a6 a7 a8 a9 a10=some o)(Z:GoodS (kvw r) r o):kvw r (.fn a1 a2 a3 a4 a5 a6 a7 a8 a9 a10):=by
 intro h;rw[kbhl];unfold kmc at e;refine q0 λbr I ac=>?_;refine q0 λbt af A=>?_;refine qz (qbf (A.has I) 0 rfl qcp) (qz (qbf (A.has I) 1 rfl qcp) (qz (qbf (A.has I) 2 rfl qcp) (qz (qbf (A.has I) 3 rfl qcp) (qz (qbf (A.has I) 4 rfl qcp) (qz (qbf (A.has I) 5 rfl qcp) (qz (qbf (A.has I) 6 rfl qcp) (qz (qbf (A.has I) 7 rfl qcp) ?_)))))));obtain⟨bu,be,H⟩:=kbg9 a1 a2 a3 a4 a5 a6 a7 a8;refine qz be (qz (seen rfl) ?_);refine qbd (λan=>?_) (λan=>?_)
 ·replace e:=(condT an).symm.trans e;cases e;cases Z;exact qy ⟨rfl,((ac.trans A).trans H)⟩
 ·replace e:=(condF an).symm.trans e;refine qz (qbf (H.has af) 0 rfl qcp) (qz (k2y a9 (-1099511627776) 1099511627776) (qz (seen rfl) ?_));refine qbd (λap=>?_) (λap=>?_)
  ·replace e:=(condT ap).symm.trans e;cases e;cases Z;exact qy ⟨rfl,((ac.trans A).trans H)⟩
  ·replace e:=(condF ap).symm.trans e;refine qz (qbf (H.has af) 1 rfl qcp) (qz (k2y a10 0 1048576) (qz (seen rfl) ?_));refine qbd (λaq=>?_) (λaq=>?_)
   ·replace e:=(condT aq).symm.trans e;cases e;cases Z;exact qy ⟨rfl,((ac.trans A).trans H)⟩
   ·replace e:=(condF aq).symm.trans e;refine q0 λbv Q U=>?_;refine q0 λbw X F=>?_;refine qz (qbf (((H.trans U).trans F).has af) 0 rfl qcp) (qz (qbf ((((A.trans H).trans U).trans F).has I) 4 rfl qcp) (qz (qbf (((H.trans U).trans F).has af) 1 rfl qcp) (qz (qbf ((((A.trans H).trans U).trans F).has I) 2 rfl qcp) (qz (qbf ((((A.trans H).trans U).trans F).has I) 5 rfl qcp) ?_))));obtain⟨ar,bf,e⟩:=qbu.1 e;obtain⟨_,bx,bg,bz,rfl,aw,C,ax⟩:=k4f bf;refine qz bg (qz rfl ?_);refine qbb rfl ?_;refine qz (seenAt rfl rfl) (qz (seenAt rfl qco) ?_);refine qbe (C.same ((((A.trans H).trans U).trans F).has I) 5 1) ?_;refine qbe (C.same ((((A.trans H).trans U).trans F).has I) 2 1) ?_;refine qbe (C.same (((H.trans U).trans F).has af) 1 1) ?_;refine qbe (C.same X 0 0) ?_;refine qbe (C.same (F.has Q) 0 0) ?_;obtain⟨au,bh,e⟩:=qbu.1 e;obtain⟨_,b0,bi,b1,rfl,ay,K,az⟩:=k4f bh;refine qz bi (qz rfl ?_);refine qbb rfl ?_;refine qz (seenAt rfl rfl) (qz (seenAt rfl qco) ?_);refine qbe (K.same (C.has X) 0 0) ?_;refine qbe (K.same ((F.trans C).has Q) 0 0) ?_;obtain⟨_,b2,bj,b3,bq,rfl,bk,a0,Y,ba,am⟩:=k7f (aw.grow K) ay (ar.1) (au.1);refine qz bj (qz rfl (qz rfl ?_));refine qbb rfl ?_;refine qz (seenAt rfl rfl) (qz (seenAt rfl qco) (qz rfl ?_));refine qbb rfl ?_;refine qz (seenAt rfl rfl) (qz (seenAt rfl qco) (qz (seen qcp) ?_));refine qbe (Y.same ((C.trans K).has X) 0 0) ?_;refine qbe (Y.same (((F.trans C).trans K).has Q) 0 0) ?_;refine qba ((((F.trans C).trans K).trans Y).has Q) rfl λb4 bm ad=>?_;have ah:=(aw.grow (K.trans Y)).upda (qbj ax (F.has Q).lt) ad;have ai:=(ay.grow Y).upda (qbj az ((F.trans C).has Q).lt) ad;have aj:=bk.upda (qbj ba (((F.trans C).trans K).has Q).lt) ad;have ag:=a0.upda (qbj am (((F.trans C).trans K).has Q).lt) ad;have ak:=qx (((C.trans K).trans Y).has X) (Nat.ne_of_gt (qbr (Q).lt (qbp _))) ad;refine qba ak rfl λb5 b6 ae=>?_;have bc:=ah.upda (qbj ax (X).lt) ae;have bd:=ai.upda (qbj az (C.has X).lt) ae;have al:=aj.upda (qbj ba ((C.trans K).has X).lt) ae;have bb:=ag.upda (qbj am ((C.trans K).has X).lt) ae;have aa:=qx bm (Nat.ne_of_lt (qbr (Q).lt (qbp _))) ae;refine qz (qbf aa 0 rfl rfl) (qz (qbf aa 1 rfl qco) ?_);obtain⟨b7,bn,bp⟩:=kbhj al (((floorI (ar.1) ar.2 (au.1) au.2).1));refine qz bn (qz rfl (qz (seen qcp) (qz (seen rfl) ?_)));cases e;cases Z;exact qy ⟨rfl,((((((((((ac.trans A).trans H).trans U).trans F).trans C).trans K).trans Y).updr (qbq (((ac.trans A).trans H)).size (qbp _)) ad).updr (qbq ((((ac.trans A).trans H).trans U)).size (qbp _)) ae).trans bp)⟩
theorem kbbe{s:klc}{r:khu}(C:Iter k36 s r):kvw r s:=qbg (λs o e A=>by
 cases s with
 | fn a1 a2 a3 a4 a5 a6 a7 a8 a9 a10=>exact @kbgx _ _ a1 a2 a3 a4 a5 a6 a7 a8 a9 a10 e A
 | no=>exact True.intro
 ) C
inductive kj8
 | fn (a1:Int) (a2:Int) (a3:Int) (a4:Int) (a5:Int) (a6:Int) (a7:Int) (a8:Int) (a9:Int) (a10:Int)
 | no
abbrev khy:=Int×Int
noncomputable def km2(a1 a2 a3 a4 a5 a6 a7 a8 a9 a10:Int):Option (kj8⊕khy):=cond (!((Cfg.right ⟨a1,a2,a3,a4,a5,a6,a7,a8⟩))) (some (.inr (0,1))) (cond (!((kds a9 a10))) (some (.inr (0,1))) ((need (-9223372036854775808<=((wrap .i64 (0-a9)):Int)/\((wrap .i64 (0-a9)):Int)<=9223372036854775807)).bind λA=>(need (-9223372036854775808<=(a5:Int)/\(a5:Int)<=9223372036854775807)).bind λC=>(need (-9223372036854775808<=((wrap .i64 (a10+a3)):Int)/\((wrap .i64 (a10+a3)):Int)<=9223372036854775807)).bind λF=>(need (-9223372036854775808<=(a6:Int)/\(a6:Int)<=9223372036854775807)).bind λH=>some (.inr (((smallI (((floorI (((kx ((ofI (wrap .i64 (0-a9))).1) ((ofI (wrap .i64 (0-a9))).2) ((ofI a5).1) ((ofI a5).2)).1)) ((kx ((ofI (wrap .i64 (0-a9))).1) ((ofI (wrap .i64 (0-a9))).2) ((ofI a5).1) ((ofI a5).2)).2.1) (((kx ((ofI (wrap .i64 (a10+a3))).1) ((ofI (wrap .i64 (a10+a3))).2) ((ofI a6).1) ((ofI a6).2)).1)) ((kx ((ofI (wrap .i64 (a10+a3))).1) ((ofI (wrap .i64 (a10+a3))).2) ((ofI a6).1) ((ofI a6).2)).2.1)).1)) ((floorI (((kx ((ofI (wrap .i64 (0-a9))).1) ((ofI (wrap .i64 (0-a9))).2) ((ofI a5).1) ((ofI a5).2)).1)) ((kx ((ofI (wrap .i64 (0-a9))).1) ((ofI (wrap .i64 (0-a9))).2) ((ofI a5).1) ((ofI a5).2)).2.1) (((kx ((ofI (wrap .i64 (a10+a3))).1) ((ofI (wrap .i64 (a10+a3))).2) ((ofI a6).1) ((ofI a6).2)).1)) ((kx ((ofI (wrap .i64 (a10+a3))).1) ((ofI (wrap .i64 (a10+a3))).2) ((ofI a6).1) ((ofI a6).2)).2.1)).2.1)).1),0))))
noncomputable def kx2:kj8->Option (kj8⊕khy)
 | .fn a1 a2 a3 a4 a5 a6 a7 a8 a9 a10=>km2 a1 a2 a3 a4 a5 a6 a7 a8 a9 a10
 | .no=>none
@[reducible] def kzw(h0:AH)(r:khy)(v:AV)(h':AH):Prop:=v=.tup [.i r.1,.i r.2]/\Grow h0 h'
def ksj(r:khy):kj8->Prop
 | .fn a1 a2 a3 a4 a5 a6 a7 a8 a9 a10=>∀{h:AH},Runs (go (.fn kng [.agg [.i a1,.i a2,.i a3,.i a4,.i a5,.i a6,.i a7,.i a8],.agg [.i a9,.i a10]]) h) (kzw h r)
 | .no=>True
theorem kbah{r:khy}{o:kj8⊕khy}{a1 a2 a3 a4 a5 a6 a7 a8 a9 a10:Int}(e:km2 a1 a2 a3 a4 a5 a6 a7 a8 a9 a10=some o)(ai:GoodS (ksj r) r o):ksj r (.fn a1 a2 a3 a4 a5 a6 a7 a8 a9 a10):=by
 intro h;rw[kbjd];unfold km2 at e;refine q0 λcl U K=>?_;refine q0 λcm aj A=>?_;refine qz (qbf (A.has U) 0 rfl qcp) (qz (qbf (A.has U) 1 rfl qcp) (qz (qbf (A.has U) 2 rfl qcp) (qz (qbf (A.has U) 3 rfl qcp) (qz (qbf (A.has U) 4 rfl qcp) (qz (qbf (A.has U) 5 rfl qcp) (qz (qbf (A.has U) 6 rfl qcp) (qz (qbf (A.has U) 7 rfl qcp) ?_)))))));obtain⟨cp,bn,C⟩:=kbcl a1 a2 a3 a4 a5 a6 a7 a8;refine qz bn (qz (seen rfl) (qz (qbf (C.has aj) 0 rfl qcp) (qz (qbf (C.has aj) 1 rfl qcp) ?_)));obtain⟨_,cu,bp,rfl,F⟩:=kzj a9 a10;refine qz bp (qz (seen rfl) ?_);refine qbd (λap=>?_) (λap=>?_)
 ·replace e:=(condT ap).symm.trans e;cases e;cases ai;exact qy ⟨rfl,(((K.trans A).trans C).trans F)⟩
 ·replace e:=(condF ap).symm.trans e;refine qbd (λaq=>?_) (λaq=>?_)
  ·replace e:=(condT aq).symm.trans e;cases e;cases ai;exact qy ⟨rfl,(((K.trans A).trans C).trans F)⟩
  ·replace e:=(condF aq).symm.trans e;refine q0 λcv af X=>?_;refine qz (qbf (((C.trans F).trans X).has aj) 0 rfl qcp) (qz (qbf ((((A.trans C).trans F).trans X).has U) 4 rfl qcp) ?_);obtain⟨ar,bq,e⟩:=qbu.1 e;obtain⟨cw,cx,br,bc,H,bt⟩:=kho (wrap .i64 (0-a9))  ar.down;refine qz br (qz rfl ?_);refine qbb rfl ?_;refine qz (seenAt rfl rfl) (qz (seenAt rfl qco) ?_);refine qbe (H.same ((((A.trans C).trans F).trans X).has U) 4 1) ?_;refine qbe (H.same af 0 0) ?_;obtain⟨au,bu,e⟩:=qbu.1 e;obtain⟨cy,cz,bv,bd,I,bw⟩:=kho a5  au.down;refine qz bv (qz rfl ?_);refine qbb rfl ?_;refine qz (seenAt rfl rfl) (qz (seenAt rfl qco) ?_);refine qbe (I.same (H.has af) 0 0) ?_;obtain⟨_,c0,bx,c1,rfl,bz,Q,b0⟩:=kr2 (bc.grow I) bd ((ofI (wrap .i64 (0-a9))).1) ((ofI a5).1);refine qz bx (qz rfl (qz rfl ?_));refine qbb rfl ?_;refine qz (seenAt rfl rfl) (qz (seenAt rfl qco) (qz (seen qcp) ?_));refine qbe (Q.same ((H.trans I).has af) 0 0) ?_;refine qba (((H.trans I).trans Q).has af) rfl λc2 be Y=>?_;have bi:=(bc.grow (I.trans Q)).upda (qbj bt (af).lt) Y;have bj:=(bd.grow Q).upda (qbj bw (H.has af).lt) Y;have ak:=bz.upda (qbj b0 ((H.trans I).has af).lt) Y;refine q0 λc3 ag ac=>?_;refine qz (qbf ((((((((C.trans F).trans X).trans H).trans I).trans Q).updr (qbq ((C.trans F)).size (qbp _)) Y).trans ac).has aj) 1 rfl qcp) (qz (qbf (((((((((A.trans C).trans F).trans X).trans H).trans I).trans Q).updr (qbq (((A.trans C).trans F)).size (qbp _)) Y).trans ac).has U) 2 rfl qcp) (qz (qbf (((((((((A.trans C).trans F).trans X).trans H).trans I).trans Q).updr (qbq (((A.trans C).trans F)).size (qbp _)) Y).trans ac).has U) 5 rfl qcp) ?_));obtain⟨aw,b1,e⟩:=qbu.1 e;obtain⟨c4,c5,b2,bf,Z,b3⟩:=kho (wrap .i64 (a10+a3))  aw.down;refine qz b2 (qz rfl ?_);refine qbb rfl ?_;refine qz (seenAt rfl rfl) (qz (seenAt rfl qco) ?_);refine qbe (Z.same (((((((((A.trans C).trans F).trans X).trans H).trans I).trans Q).updr (qbq (((A.trans C).trans F)).size (qbp _)) Y).trans ac).has U) 5 1) ?_;refine qbe (Z.same ag 0 0) ?_;obtain⟨ax,b4,e⟩:=qbu.1 e;obtain⟨c6,c7,b5,bg,aa,b6⟩:=kho a6  ax.down;refine qz b5 (qz rfl ?_);refine qbb rfl ?_;refine qz (seenAt rfl rfl) (qz (seenAt rfl qco) ?_);refine qbe (aa.same (Z.has ag) 0 0) ?_;obtain⟨_,c8,b7,c9,rfl,b8,ad,b9⟩:=kr2 (bf.grow aa) bg ((ofI (wrap .i64 (a10+a3))).1) ((ofI a6).1);refine qz b7 (qz rfl (qz rfl ?_));refine qbb rfl ?_;refine qz (seenAt rfl rfl) (qz (seenAt rfl qco) (qz (seen qcp) ?_));refine qbe (ad.same ((Z.trans aa).has ag) 0 0) ?_;refine qba (((Z.trans aa).trans ad).has ag) rfl λda bh ae=>?_;have bk:=(bf.grow (aa.trans ad)).upda (qbj b3 (ag).lt) ae;have bm:=(bg.grow ad).upda (qbj b6 (Z.has ag).lt) ae;have al:=b8.upda (qbj b9 ((Z.trans aa).has ag).lt) ae;refine qz (qbf (((((ac.trans Z).trans aa).trans ad).updr (qbp _) ae).has be) 0 rfl rfl) (qz (qbf (((((ac.trans Z).trans aa).trans ad).updr (qbp _) ae).has be) 1 rfl qco) (qz (qbf bh 0 rfl rfl) (qz (qbf bh 1 rfl qco) ?_)));obtain⟨_,db,ca,dc,cg,rfl,cb,ci,ay,dd,cj⟩:=kbnd (ak.grow ((((ac.trans Z).trans aa).trans ad).updr (qbp _) ae)) al (((kx ((ofI (wrap .i64 (0-a9))).1) ((ofI (wrap .i64 (0-a9))).2) ((ofI a5).1) ((ofI a5).2)).1)) (((kx ((ofI (wrap .i64 (a10+a3))).1) ((ofI (wrap .i64 (a10+a3))).2) ((ofI a6).1) ((ofI a6).2)).1));refine qz ca (qz rfl (qz rfl ?_));refine qbb rfl ?_;refine qz (seenAt rfl rfl) (qz (seenAt rfl qco) (qz rfl ?_));refine qbb rfl ?_;refine qz (seenAt rfl rfl) (qz (seenAt rfl qco) (qz (seen qcp) ?_));refine q0 λde az am=>?_;refine q0 λdf cc a0=>?_;refine qba (a0.has az) rfl λdg cd ba=>?_;have an:=qx cc (Nat.ne_of_gt (qbr (az).lt (qbp _))) ba;refine qba an rfl λdh di bb=>?_;have ah:=qx cd (Nat.ne_of_lt (qbr (az).lt (qbp _))) bb;refine qz (qbf ah 0 rfl rfl) (qz (qbf ah 1 rfl qco) ?_);obtain⟨dj,ce,cf⟩:=kbgk (cb.grow (((am.trans a0).updr (qbp _) ba).updr (qbq (am).size (qbp _)) bb)) (((floorI (((kx ((ofI (wrap .i64 (0-a9))).1) ((ofI (wrap .i64 (0-a9))).2) ((ofI a5).1) ((ofI a5).2)).1)) ((kx ((ofI (wrap .i64 (0-a9))).1) ((ofI (wrap .i64 (0-a9))).2) ((ofI a5).1) ((ofI a5).2)).2.1) (((kx ((ofI (wrap .i64 (a10+a3))).1) ((ofI (wrap .i64 (a10+a3))).2) ((ofI a6).1) ((ofI a6).2)).1)) ((kx ((ofI (wrap .i64 (a10+a3))).1) ((ofI (wrap .i64 (a10+a3))).2) ((ofI a6).1) ((ofI a6).2)).2.1)).1));refine qz ce (qz rfl (qz (seen qcp) (qz (seen rfl) ?_)));cases e;cases ai;exact qy ⟨rfl,(((((((((((((((((((K.trans A).trans C).trans F).trans X).trans H).trans I).trans Q).updr (qbq ((((K.trans A).trans C).trans F)).size (qbp _)) Y).trans ac).trans Z).trans aa).trans ad).updr (qbq (((((((((K.trans A).trans C).trans F).trans X).trans H).trans I).trans Q).updr (qbq ((((K.trans A).trans C).trans F)).size (qbp _)) Y)).size (qbp _)) ae).trans ay).trans am).trans a0).updr (qbq (((((((((((((((K.trans A).trans C).trans F).trans X).trans H).trans I).trans Q).updr (qbq ((((K.trans A).trans C).trans F)).size (qbp _)) Y).trans ac).trans Z).trans aa).trans ad).updr (qbq (((((((((K.trans A).trans C).trans F).trans X).trans H).trans I).trans Q).updr (qbq ((((K.trans A).trans C).trans F)).size (qbp _)) Y)).size (qbp _)) ae).trans ay)).size (qbp _)) ba).updr (qbq ((((((((((((((((K.trans A).trans C).trans F).trans X).trans H).trans I).trans Q).updr (qbq ((((K.trans A).trans C).trans F)).size (qbp _)) Y).trans ac).trans Z).trans aa).trans ad).updr (qbq (((((((((K.trans A).trans C).trans F).trans X).trans H).trans I).trans Q).updr (qbq ((((K.trans A).trans C).trans F)).size (qbp _)) Y)).size (qbp _)) ae).trans ay).trans am)).size (qbp _)) bb).trans cf)⟩
theorem kbcv{s:kj8}{r:khy}(C:Iter kx2 s r):ksj r s:=qbg (λs o e A=>by
 cases s with
 | fn a1 a2 a3 a4 a5 a6 a7 a8 a9 a10=>exact @kbah _ _ a1 a2 a3 a4 a5 a6 a7 a8 a9 a10 e A
 | no=>exact True.intro
 ) C
end Go.Ab
set_option maxRecDepth 10000
namespace Go.Ab
open Go.Proofs Go.Num
theorem kyw{a b:Int}(A:-9223372036854775808<=a/\a<=9223372036854775807)(C:-9223372036854775808<=b/\b<=9223372036854775807):Iter kn2 (.fn a b) (intD (a*b)):=by
 refine .done ?_;show kmy _ _=_;unfold kmy;have F:=kg2
 have H:(a*b).natAbs<B^64:=by rw[Int.natAbs_mul];have:a.natAbs*b.natAbs<=9223372036854775808*9223372036854775808:=Nat.mul_le_mul (by omega) (by omega);omega
 rw[kq A,qbt,kq C,qbt,kfv (by omega),kfv (by omega),kkw (by omega) (by omega),if_pos H]
def khi(a1 a2 a3 a4 a5 a6 a7 a8 a9 a10:Int):Int×Int:=cond (Cfg.right ⟨a1,a2,a3,a4,a5,a6,a7,a8⟩&&decide (-1099511627776<=a9/\a9<=1099511627776/\0<=a10/\a10<=1048576)) ((-a9*a5)/((a10+a3)*a6),0) (0,1)
theorem Cfg.right_parts{c:Cfg}(h:c.right=true):1<=c.lambda/\c.lambda<=1048576/\1<=c.den/\c.den<=1048576/\1<=c.num/\c.num<=c.den:=by unfold Cfg.right at h;rw[qbw]at h;omega
theorem k0x{a3 a5 a6 a9 a10:Int}(A:1<=a3)(C:a3<=1048576)(d1:1<=a6)(F:a6<=1048576)(n1:1<=a5)(H:a5<=a6)(I:-1099511627776<=a9)(K:a9<=1099511627776)(h1:0<=a10)(Q:a10<=1048576) :
  (-a9*a5).natAbs<=1152921504606846976/\0<(a10+a3)*a6/\((a10+a3)*a6).natAbs<=2199023255552:=by
 refine⟨?_,Int.mul_pos (by omega) (by omega),?_⟩
 ·rw[Int.natAbs_mul];have:(-a9).natAbs*a5.natAbs<=1099511627776*1048576:=Nat.mul_le_mul (by omega) (by omega);omega
 ·rw[Int.natAbs_mul];have:(a10+a3).natAbs*a6.natAbs<=2097152*1048576:=Nat.mul_le_mul (by omega) (by omega);omega
theorem kbb2(a1 a2 a3 a4 a5 a6 a7 a8 a9 a10:Int):Iter k36 (.fn a1 a2 a3 a4 a5 a6 a7 a8 a9 a10) (khi a1 a2 a3 a4 a5 a6 a7 a8 a9 a10):=by
 refine .done ?_;show kmc _ _ _ _ _ _ _ _ _ _=_;unfold kmc khi;cases X:Cfg.right ⟨a1,a2,a3,a4,a5,a6,a7,a8⟩with
 | false=>rfl
 | true =>
  obtain⟨H,I,d1,K,n1,Q⟩:=Cfg.right_parts X;dsimp only at H I d1 K n1 Q;by_cases U:-1099511627776<=a9/\a9<=1099511627776/\0<=a10/\a10<=1048576
  ·obtain⟨A,C,h1,F⟩:=U;obtain⟨s1,s2,s3⟩:=k0x H I d1 K n1 Q A C h1 F;have Y:=kg2;obtain⟨f1,f2⟩:=kya (u:=-a9*a5) (v:=(a10+a3)*a6) (by omega) s2;rw[show decide (-1099511627776<=a9/\a9<=1099511627776/\0<=a10/\a10<=1048576)=true from qbx ⟨A,C,h1,F⟩,show decide (-1099511627776<=a9/\a9<=1099511627776)=true from qbx ⟨A,C⟩,show decide (0<=a10/\a10<=1048576)=true from qbx ⟨h1,F⟩];rw[show IntKind.wrap .i64 (0-a9)=-a9 from by rw[wrap64 (by omega) (by omega)];omega,wrap64 (n:=a10+a3) (by omega) (by omega)];rw[kn3 (kyw (a:=-a9) (b:=a5) ⟨by omega,by omega⟩ ⟨by omega,by omega⟩),kn3 (kyw (a:=a10+a3) (b:=a6) ⟨by omega,by omega⟩ ⟨by omega,by omega⟩),qbt,qbt,k4d (by omega) (by omega) s2];dsimp only;rw[k0y (by omega) (by omega)];rfl
  ·rw[show decide (-1099511627776<=a9/\a9<=1099511627776/\0<=a10/\a10<=1048576)=false from qby U];simp only[Bool.not_true,cond_false,Bool.true_and];refine kft (λ_=>rfl) λZ=>?_;refine kft (λ_=>rfl) λk2=>?_;exfalso;simp only[qcj,qbw]at Z k2;omega
theorem kbjp(a1 a2 a3 a4 a5 a6 a7 a8 a9 a10:Int):Iter kx2 (.fn a1 a2 a3 a4 a5 a6 a7 a8 a9 a10) (khi a1 a2 a3 a4 a5 a6 a7 a8 a9 a10):=by
 refine .done ?_;show km2 _ _ _ _ _ _ _ _ _ _=_;unfold km2 khi
 have K:kds a9 a10=decide (-1099511627776<=a9/\a9<=1099511627776/\0<=a10/\a10<=1048576):=by unfold kds;by_cases Q:a9>=-1099511627776<;>by_cases U:a9<=1099511627776<;>by_cases X:a10>=0<;>by_cases Y:a10<=1048576<;>simp[Q,U,X,Y]<;>omega
 rw[K];cases Z:Cfg.right ⟨a1,a2,a3,a4,a5,a6,a7,a8⟩with
 | false=>rfl
 | true =>
  obtain⟨C,F,d1,H,n1,I⟩:=Cfg.right_parts Z;dsimp only at C F d1 H n1 I;by_cases A:-1099511627776<=a9/\a9<=1099511627776/\0<=a10/\a10<=1048576
  ·rw[qbx A];obtain⟨g1,g2,h1,h2⟩:=A;obtain⟨s1,s2,s3⟩:=k0x C F d1 H n1 I g1 g2 h1 h2;have aa:=kg2;obtain⟨f1,f2⟩:=kya (u:=-a9*a5) (v:=(a10+a3)*a6) (by omega) s2;rw[show IntKind.wrap .i64 (0-a9)=-a9 from by rw[wrap64 (by omega) (by omega)];omega,wrap64 (n:=a10+a3) (by omega) (by omega)];simp only[Bool.not_true,cond_false,Bool.and_self,cond_true];rw[kq ⟨by omega,by omega⟩,qbt,kq ⟨by omega,by omega⟩,qbt,kq ⟨by omega,by omega⟩,qbt,kq ⟨by omega,by omega⟩,qbt];rw[kfv (n:=-a9) (by omega),kfv (n:=a5) (by omega),kfv (n:=a10+a3) (by omega),kfv (n:=a6) (by omega),kkw (by omega) (by omega),kkw (by omega) (by omega),if_pos (by omega),if_pos (by omega)];dsimp only;rw[k4d (by omega) (by omega) s2];dsimp only;rw[k0y (by omega) (by omega)]
  ·rw[qby A];rfl
theorem kbav(a1 a2 a3 a4 a5 a6 a7 a8 a9 a10:Int){h:AH}:Runs (go (.fn kmi [.agg [.i a1,.i a2,.i a3,.i a4,.i a5,.i a6,.i a7,.i a8],.agg [.i a9,.i a10]]) h) (kwh h (khi a1 a2 a3 a4 a5 a6 a7 a8 a9 a10)):=kbbe (kbb2 a1 a2 a3 a4 a5 a6 a7 a8 a9 a10)
theorem kbm4(a1 a2 a3 a4 a5 a6 a7 a8 a9 a10:Int){h:AH}:Runs (go (.fn kng [.agg [.i a1,.i a2,.i a3,.i a4,.i a5,.i a6,.i a7,.i a8],.agg [.i a9,.i a10]]) h) (kzw h (khi a1 a2 a3 a4 a5 a6 a7 a8 a9 a10)):=kbcv (kbjp a1 a2 a3 a4 a5 a6 a7 a8 a9 a10)
end Go.Ab
namespace Go.Ab
variable{P:Program}
inductive All2{α β:Type}(R:α->β->Prop):List α->List β->Prop
 | nil:All2 R [] []
 | cons {a:α} {b:β} {ls:List α} {bs:List β}:R a b->All2 R ls bs->All2 R (a::ls) (b::bs)
section
variable{α β:Type}{R S:α->β->Prop}
theorem All2.imp(f:∀a b,R a b->S a b){ls:List α}{bs:List β}(a:All2 R ls bs):All2 S ls bs:=by
 induction a with
 | nil=>exact .nil
 | cons h _ ih=>exact .cons (f _ _ h) ih
theorem All2.length{ls:List α}{bs:List β}(a:All2 R ls bs):ls.length=bs.length:=by
 induction a with
 | nil=>rfl
 | cons h _ ih=>simp[ih]
abbrev qbl:=@All2.length
theorem All2.get{ls:List α}{bs:List β}(a:All2 R ls bs):∀{i:Nat}{y:β},bs[i]?=some y->∃x,ls[i]?=some x/\R x y:=by
 induction a with
 | nil=>intro i y h;simp at h
 | cons h _ ih =>
  intro i y A;cases i with
  | zero=>cases A;exact⟨_,rfl,h⟩
  | succ i=>exact ih A
theorem All2.snoc{ls:List α}{bs:List β}(a:All2 R ls bs){x:α}{y:β}(h:R x y):All2 R (ls++[x]) (bs++[y]):=by
 induction a with
 | nil=>exact .cons h .nil
 | cons h' _ ih=>exact .cons h' ih
end
structure El(α:Type) where
 w:Nat
 pos:0<w
 has:AH->List AV->α->Prop
 av:Nat->List AV->α->Prop
 len:∀{h:AH}{cs:List AV}{a:α},has h cs a->cs.length=w
 grow:∀{h h':AH}{cs:List AV}{a:α},Grow h h'->has h cs a->has h' cs a
 upd:∀{h h':AH}{i:Nat}{cs:List AV}{a:α},has h cs a->av i cs a->Upd h h' i->has h' cs a
 new:∀{h:AH}{i:Nat}{cs:List AV}{a:α},has h cs a->h.blks.size<=i->av i cs a
def El.int(k:IntKind):El Int where
 w:=1
 pos:=by decide
 has _ cs n:=cs=[.int k n]
 av _ _ _:=True
 len e:=by rw[e];rfl
 grow _ e:=e
 upd e _ _:=e
 new _ _:=trivial
def El.bool:El Bool where
 w:=1
 pos:=by decide
 has _ cs b:=cs=[.bool b]
 av _ _ _:=True
 len e:=by rw[e];rfl
 grow _ e:=e
 upd e _ _:=e
 new _ _:=trivial
theorem Sl.vs_inj{s t:Sl}(h:[Sl.v s]=[Sl.v t]):s=t:=by
 cases s;cases t;simp only[Sl.v,List.cons.injEq,AV.slice.injEq,and_true]at h;obtain⟨rfl,rfl,rfl⟩:=h;rfl
def El.nats:El (List Nat) where
 w:=1
 pos:=by decide
 has h cs xs:=∃s,cs=[Sl.v s]/\Nats h s xs
 av i cs xs:=∃s,cs=[Sl.v s]/\Av s i xs
 len:=λ⟨s,e,_⟩=>by rw[e];rfl
 grow g:=λ⟨s,e,n⟩=>⟨s,e,n.grow g⟩
 upd:=λ⟨s,e,n⟩ ⟨t,A,a⟩ u=>by rw[e]at A;cases Sl.vs_inj A;exact⟨s,e,n.upda a u⟩
 new:=λ⟨s,e,n⟩ hi=>⟨s,e,qbi n hi⟩
def El.pair{α β:Type}(A:El α)(B:El β):El (α×β) where
 w:=A.w+B.w
 pos:=by have:=A.pos;omega
 has h cs p:=∃C F,cs=C++F/\A.has h C p.1/\B.has h F p.2
 av i cs p:=∃C F,cs=C++F/\C.length=A.w/\A.av i C p.1/\B.av i F p.2
 len:=λ⟨C,F,e,a,b⟩=>by rw[e,qb0,A.len a,B.len b]
 grow g:=λ⟨C,F,e,a,b⟩=>⟨C,F,e,A.grow g a,B.grow g b⟩
 upd:=λ⟨C,F,e,a,b⟩ ⟨d1,I,H,l,a',b'⟩ u=>by rw[e]at H;obtain⟨rfl,rfl⟩:=List.append_inj H (by rw[A.len a,l]);exact⟨C,F,e,A.upd a a' u,B.upd b b' u⟩
 new:=λ⟨C,F,e,a,b⟩ hi=>⟨C,F,e,A.len a,A.new a hi,B.new b hi⟩
theorem kef{w:Nat}:∀{rows:List (List AV)},(∀r∈rows,r.length=w)->rows.flatten.length=rows.length*w
 | [],_=>by simp
 | r::rows,h=>by rw[List.flatten_cons,qb0,kef (λq A=>h q (by simp[A])),h r (by simp),qb2,Nat.add_mul];omega
theorem kpu{w:Nat}:∀{rows:List (List AV)},(∀r∈rows,r.length=w)->∀{i:Nat}{r:List AV}{k:Nat}{v:AV},rows[i]?=some r->r[k]?=some v->rows.flatten[i*w+k]?=some v
 | [],_,i,r,k,v,hi,_=>by simp at hi
 | q::rows,h,0,r,k,v,hi,A=>by
  cases hi;rw[List.flatten_cons,List.getElem?_append_left (by have:=(qce.1 A).1;omega)]
  simpa using A
 | q::rows,h,i+1,r,k,v,hi,A=>by have:=kpu (λq C=>h q (by simp[C])) (show rows[i]?=some r from hi) A;rw[List.flatten_cons,List.getElem?_append_right (by rw[h q (by simp),Nat.add_mul];omega),h q (by simp),show(i+1)*w+k-w=i*w+k from by rw[Nat.add_mul];omega];exact this
def atX{α:Type}(xs:List α)(i:Int):Option α:=if 0<=i then xs[i.toNat]? else none
theorem kbkb{α:Type}{xs:List α}{i:Int}{y:α}(q:atX xs i=some y):∃j:Nat,i=(j:Int)/\xs[j]?=some y:=by
 unfold atX at q;split at q
 ·exact⟨i.toNat,by omega,q⟩
 ·cases q
theorem kh8{α:Type}{xs:List α}{i:Nat}(h:i<xs.length):atX xs (i:Int)=some xs[i]:=by unfold atX;rw[if_pos (by omega),Int.toNat_natCast,qb4 h]
structure Lies(h:AH)(r:Ref)(cs:List AV):Prop where
 at':∀k v,cs[k]?=some v->h.cell (r.add k)=some v
theorem Lies.rd{A:Type}{f:AV->Option A}{h h':AH}{r:Ref}{cs:List AV}(l:Lies h r cs)(g:Grow h h')(k:Nat){v:AV}{x:A}(C:cs[k]?=some v)(F:f v=some x):(h'.cell (r.add k)).bind f=some x:=by rw[g.cell_some (l.at' k v C)];exact F
theorem Lies.rd0{A:Type}{f:AV->Option A}{h h':AH}{r:Ref}{cs:List AV}(l:Lies h r cs)(g:Grow h h'){v:AV}{x:A}(C:cs[0]?=some v)(F:f v=some x):(h'.cell r).bind f=some x:=by have:=l.rd g 0 C F;rwa[Ref.add_zero]at this
theorem AH.kill_Upd(h:AH)(i:Nat):Upd h (h.kill (some (.new i 0))) i :=
 ⟨rfl,by simp[AH.kill],λj A _=>by show(h.blks.setIfInBounds i .dead)[j]?=_;rw[Array.getElem?_setIfInBounds_ne (λx=>A x.symm)]⟩
theorem kcc{h:AH}{i n:Nat}{cs:List AV}{e elem:TypeId}(b:h.has i cs e)(A:n*P.cellsOf elem=cs.length):kbg P elem (Sl.v ⟨some (.new i 0),n,.is n⟩) h=some (cs,n):=kk5 (qr b A)
section
variable{Q:AV->AH->Prop}
theorem Runs.putAt{h:AH}{i o:Nat}{cs cs' vs:List AV}{e:TypeId}{K:AH->Option (AV×AH)}(b:h.has i cs e)(A:o+vs.length<=cs.length)(C:cs.take o++vs++cs.drop (o+vs.length)=cs')(H:∀h',h'.has i cs' e->Upd h h' i->Runs (K h') Q):Runs ((h.puts ((Ref.new i 0).add o) vs).bind K) Q:=by subst C;rw[qj,Nat.zero_add,b.puts A];exact H _ (qp b _ e) (AH.upd_Upd h i _ e)
end
end Go.Ab
namespace Go.Ab
variable{P:Program}
def UpdO(h h':AH):Option Nat->Prop
 | none=>Grow h h'
 | some k=>Upd h h' k
def AvO(s:Sl)(xs:List Nat):Option Nat->Prop
 | none=>True
 | some k=>Av s k xs
def LeO(n:Nat):Option Nat->Prop
 | none=>True
 | some k=>n<=k
def LtO(n:Nat):Option Nat->Prop
 | none=>True
 | some k=>k<n
def NeO(j:Nat):Option Nat->Prop
 | none=>True
 | some k=>j≠k
theorem LeO.trans{m n:Nat}(h:m<=n):∀{i:Option Nat},LeO n i->LeO m i
 | none,_=>trivial
 | some k,l=>qbq h l
theorem AvO.of_own{h1:AH}{s:Sl}{xs:List Nat}(o:Own h1 s):∀{i:Option Nat},LtO h1.blks.size i->AvO s xs i
 | none,_=>trivial
 | some k,l=>qbj o l
theorem Grow.updo{h h1 A:AH}(g:Grow h h1):∀{i:Option Nat},LeO h.blks.size i->UpdO h1 A i->Grow h A
 | none,_,u=>g.trans u
 | some k,l,u=>g.updr l u
theorem AH.has.updo{h1 A:AH}{j:Nat}{cs:List AV}{e:TypeId}(b:h1.has j cs e):∀{i:Option Nat},NeO j i->UpdO h1 A i->A.has j cs e
 | none,_,u=>u.has b
 | some k,l,u=>qx b l u
theorem Nats.updo{h1 A:AH}{s:Sl}{xs:List Nat}(b:Nats h1 s xs):∀{i:Option Nat},AvO s xs i->UpdO h1 A i->Nats A s xs
 | none,_,u=>b.grow u
 | some k,l,u=>b.upda l u
variable{α:Type}{E:El α}{elem:TypeId}
theorem kub{n m:Nat}(h:growOk P n elem m=true):n<=9223372036854775807:=by unfold growOk at h;rw[qb9,qbw]at h;have:=h.1.2;simp only[ks]at this;omega
end Go.Ab
namespace Go.Ab
variable{P:Program}
abbrev Fp:=Nat->Prop
def Fp.no:Fp:=λ_=>False
def Fp.all:Fp:=λ_=>True
def Fp.or(S T:Fp):Fp:=λj=>S j\/T j
def Fp.below(n:Nat):Fp:=λj=>j<n
def Fp.from(n:Nat):Fp:=λj=>n<=j
def Fp.sl(s:Sl)(xs:List Nat):Fp:=λj=>¬Av s j xs
theorem Fp.not_no{i:Nat}:¬Fp.no i:=λh=>h
abbrev qbm:=@Fp.not_no
def NotO(S:Fp):Option Nat->Prop
 | none=>True
 | some k=>¬S k
theorem NotO.no:∀{i:Option Nat},NotO Fp.no i
 | none=>trivial
 | some _=>qbm
abbrev qbn:=@NotO.no
structure Ef(α:Type) where
 w:Nat
 pos:0<w
 has:AH->Fp->List AV->α->Prop
 len:∀{h:AH}{S:Fp}{cs:List AV}{a:α},has h S cs a->cs.length=w
 grow:∀{h h':AH}{S:Fp}{cs:List AV}{a:α},Grow h h'->has h S cs a->has h' S cs a
 mono:∀{h:AH}{S T:Fp}{cs:List AV}{a:α},(∀j,S j->T j)->has h S cs a->has h T cs a
 upd:∀{h h':AH}{S:Fp}{i:Nat}{cs:List AV}{a:α},¬S i->Upd h h' i->has h S cs a->has h' S cs a
 bound:∀{h:AH}{S:Fp}{cs:List AV}{a:α},has h S cs a->has h (λj=>S j/\j<h.blks.size) cs a
def Ef.int(k:IntKind):Ef Int where
 w:=1
 pos:=by decide
 has _ _ cs n:=cs=[.int k n]
 len e:=by rw[e];rfl
 grow _ e:=e
 mono _ e:=e
 upd _ _ e:=e
 bound e:=e
def Ef.bool:Ef Bool where
 w:=1
 pos:=by decide
 has _ _ cs b:=cs=[.bool b]
 len e:=by rw[e];rfl
 grow _ e:=e
 mono _ e:=e
 upd _ _ e:=e
 bound e:=e
def Ef.str:Ef ByteArray where
 w:=1
 pos:=by decide
 has _ _ cs b:=cs=[.str b]
 len e:=by rw[e];rfl
 grow _ e:=e
 mono _ e:=e
 upd _ _ e:=e
 bound e:=e
def Ef.nats:Ef (List Nat) where
 w:=1
 pos:=by decide
 has h S cs xs:=∃s,cs=[Sl.v s]/\Nats h s xs/\∀j,¬Av s j xs->S j
 len:=λ⟨s,e,_,_⟩=>by rw[e];rfl
 grow g:=λ⟨s,e,n,a⟩=>⟨s,e,n.grow g,a⟩
 mono m:=λ⟨s,e,n,a⟩=>⟨s,e,n,λj k=>m j (a j k)⟩
 upd no u:=λ⟨s,e,n,a⟩=>⟨s,e,n.upda (Classical.byContradiction λk=>no (a _ k)) u,a⟩
 bound:=λ{h} _ _ _ ⟨s,e,n,a⟩=>⟨s,e,n,λj k=>⟨a j k,by
  rcases Nat.lt_or_ge j h.blks.size with h1 | h1
  ·exact h1
  ·exact absurd (qbi n h1) k⟩⟩
def Ef.pair{α β:Type}(A:Ef α)(B:Ef β):Ef (α×β) where
 w:=A.w+B.w
 pos:=by have:=A.pos;omega
 has h S cs p:=∃C F,cs=C++F/\A.has h S C p.1/\B.has h S F p.2
 len:=λ⟨C,F,e,a,b⟩=>by rw[e,qb0,A.len a,B.len b]
 grow g:=λ⟨C,F,e,a,b⟩=>⟨C,F,e,A.grow g a,B.grow g b⟩
 mono m:=λ⟨C,F,e,a,b⟩=>⟨C,F,e,A.mono m a,B.mono m b⟩
 upd no u:=λ⟨C,F,e,a,b⟩=>⟨C,F,e,A.upd no u a,B.upd no u b⟩
 bound:=λ⟨C,F,e,a,b⟩=>⟨C,F,e,A.bound a,B.bound b⟩
theorem All2.set{α β:Type}{R:α->β->Prop}{l:List α}{m:List β}(a:All2 R l m){x:α}{y:β}(h:R x y):∀j:Nat,All2 R (l.set j x) (m.set j y):=by
 induction a with
 | nil=>intro j;exact .nil
 | cons h1 A ih =>
  intro j;cases j with
  | zero=>exact .cons h A
  | succ j=>exact .cons h1 (ih j)
def RefIn(S:Fp)(s:Sl)(n:Nat):Prop:=n=0\/∀j o,s.ref=some (.new j o)->S j
structure Sq{α:Type}(E:Ef α)(h:AH)(S:Fp)(s:Sl)(xs:List α):Prop where
 rows:∃rows,Cells h s E.w rows.flatten/\All2 (E.has h S) rows xs
 len:s.len=xs.length
 short:xs.length<=9223372036854775807
 at':RefIn S s xs.length
variable{α:Type}{E:Ef α}
theorem Ef.rows{h:AH}{S:Fp}{rows:List (List AV)}{xs:List α}(a:All2 (E.has h S) rows xs):∀r∈rows,r.length=E.w:=by
 induction a with
 | nil=>simp
 | cons h' _ ih =>
  intro r A;rcases qb6.1 A with rfl | A
  ·exact E.len h'
  ·exact ih r A
theorem Cells.updn{h h':AH}{s:Sl}{n:Nat}{flat:List AV}(c:Cells h s n flat){i:Nat}(hi:∀o,s.ref≠some (.new i o))(u:Upd h h' i):Cells h' s n flat :=
 ⟨c.fit,c.len,λk v F=>by
  obtain⟨r,C,H⟩:=c.get k v F;refine⟨r,C,u.cell H λo A=>?_⟩;cases r with
  | old a=>cases A
  | new j p =>simp only[qj,Ref.new.injEq]at A;exact hi p (by rw[C,A.1])⟩
theorem Sq.grow{h h':AH}{S:Fp}{s:Sl}{xs:List α}(n:Sq E h S s xs)(g:Grow h h'):Sq E h' S s xs:=by obtain⟨⟨rows,c,a⟩,l,A,at'⟩:=n;exact⟨⟨rows,c.grow g,a.imp λ_ _=>E.grow g⟩,l,A,at'⟩
theorem Sq.mono{h:AH}{S T:Fp}{s:Sl}{xs:List α}(n:Sq E h S s xs)(m:∀j,S j->T j):Sq E h T s xs:=by obtain⟨⟨rows,c,a⟩,l,A,at'⟩:=n;exact⟨⟨rows,c,a.imp λ_ _=>E.mono m⟩,l,A,at'.imp id λf j o e=>m j (f j o e)⟩
theorem Sq.nil(E:Ef α)(h:AH)(S:Fp):Sq E h S ⟨none,0,.is 0⟩ []:=⟨⟨[],Cells.nil h _,.nil⟩,rfl,by simp,.inl rfl⟩
theorem Sq.upd{h h':AH}{S:Fp}{s:Sl}{xs:List α}(n:Sq E h S s xs){i:Nat}(no:¬S i)(u:Upd h h' i):Sq E h' S s xs:=by
 obtain⟨⟨rows,c,a⟩,l,C,at'⟩:=n;refine⟨⟨rows,?_,a.imp λ_ _=>E.upd no u⟩,l,C,at'⟩;rcases at' with e | f
 ·have A:rows.length=0:=by rw[qbl a,e]
  have A:rows=[]:=List.length_eq_zero_iff.1 A;subst A;exact⟨c.fit,c.len,λk v F=>by simp at F⟩
 ·exact c.updn (λo H=>no (f i o H)) u
theorem Sq.bound{h:AH}{S:Fp}{s:Sl}{xs:List α}(n:Sq E h S s xs):Sq E h (λj=>S j/\j<h.blks.size) s xs:=by
 obtain⟨⟨rows,c,a⟩,l,F,at'⟩:=n;refine⟨⟨rows,c,a.imp λ_ _=>E.bound⟩,l,F,?_⟩;rcases Nat.eq_zero_or_pos xs.length with e | e
 ·exact .inl e
 ·refine .inr λj o A=>⟨(at'.resolve_left (by omega)) j o A,?_⟩;have H:=kef (w:=E.w) (rows:=rows) (Ef.rows a)
  have h0:0<rows.flatten.length:=by rw[H,qbl a];exact Nat.mul_pos e E.pos
  obtain⟨r,C,I⟩:=c.get 0 _ (qb4 h0);rw[A]at C;cases C;have:=AH.cell_inn I;rw[qj]at this;exact this
def Ef.seq{α:Type}(E:Ef α):Ef (List α) where
 w:=1
 pos:=by decide
 has h S cs xs:=∃s,cs=[Sl.v s]/\Sq E h S s xs
 len:=λ⟨s,e,_⟩=>by rw[e];rfl
 grow g:=λ⟨s,e,n⟩=>⟨s,e,n.grow g⟩
 mono m:=λ⟨s,e,n⟩=>⟨s,e,n.mono m⟩
 upd no u:=λ⟨s,e,n⟩=>⟨s,e,n.upd no u⟩
 bound:=λ⟨s,e,n⟩=>⟨s,e,n.bound⟩
theorem Sq.at{h:AH}{S:Fp}{s:Sl}{xs:List α}(n:Sq E h S s xs){i:Int}{y:α}(q:atX xs i=some y):∃(r:Ref)(cs:List AV),idx s.ref xs.length i E.w=some r/\E.has h S cs y/\Lies h r cs:=by
 obtain⟨⟨rows,c,a⟩,l,X,at'⟩:=n;obtain⟨j,rfl,C⟩:=kbkb q;obtain⟨cs,I,F⟩:=a.get C;have K:=(qce.1 C).1;have Q:=Ef.rows a;have key:∀k v,cs[k]?=some v->∃r,s.ref=some r/\h.cell (r.add (j*E.w+k))=some v:=λk v A=>c.get _ _ (kpu Q I A);cases H:s.ref with
 | none =>
  exfalso;cases cs with
  | nil=>have:=E.len F;have:=E.pos;simp at *;omega
  | cons v vs =>
   obtain⟨r,e,_⟩:=key 0 v rfl;rw[H]at e;cases e
 | some r =>
  refine⟨r.add (j*E.w),cs,?_,F,⟨λk v A=>?_⟩⟩
  ·rw[kdq _ _ _ _ (by omega) (by omega)];simp
  ·obtain⟨Y,e,U⟩:=key k v A;rw[H]at e;cases e;rw[Ref.add_add];exact U
theorem Sq.lit{h:AH}{S:Fp}{i n:Nat}{rows:List (List AV)}{e:TypeId}{xs:List α}(b:h.has i rows.flatten e)(a:All2 (E.has h S) rows xs)(A:xs.length=n)(C:n<=9223372036854775807:=by decide):Sq E h (Fp.or (λj=>j=i) S) ⟨some (.new i 0),n,.is n⟩ xs:=by
 refine⟨⟨rows,qr b ?_,a.imp λ_ _=>E.mono λj k=>.inr k⟩,A.symm,by omega,.inr λj o e=>?_⟩
 ·rw[kef (Ef.rows a),qbl a,A]
 ·cases e;exact .inl rfl
def GF{α:Type}(E:Ef α)(elem:TypeId)(h:AH)(S:Fp)(s:Sl)(i:Option Nat)(xs:List α):Prop :=
 xs.length<=9223372036854775807/\match i with
 | none=>s=⟨none,0,.is 0⟩/\xs=[]
 | some k=>¬S k/\s.ref=some (.new k 0)/\s.len=xs.length/\∃rows e,h.has k rows.flatten e/\(s.cap=.is s.len\/s.cap=.opn E.w/\e=elem)/\All2 (E.has h S) rows xs
variable{elem:TypeId}
theorem GF.none(E:Ef α)(elem:TypeId)(h:AH)(S:Fp):GF E elem h S ⟨none,0,.is 0⟩ none []:=⟨by simp,rfl,rfl⟩
theorem GF.one{h:AH}{S:Fp}{i:Nat}{cs:List AV}{x:α}{e:TypeId}(b:h.has i cs e)(c:E.has h S cs x)(a:¬S i):GF E elem h S ⟨some (.new i 0),1,.is 1⟩ (some i) [x]:=⟨by simp,a,rfl,rfl,[cs],e,by simpa using b,.inl rfl,.cons c .nil⟩
theorem GF.lit{h:AH}{S:Fp}{i n:Nat}{rows:List (List AV)}{xs:List α}{e:TypeId}(b:h.has i rows.flatten e)(c:All2 (E.has h S) rows xs)(a:¬S i)(A:xs.length=n)(C:n<=9223372036854775807:=by decide):GF E elem h S ⟨some (.new i 0),n,.is n⟩ (some i) xs:=⟨by omega,a,rfl,A.symm,rows,e,b,.inl rfl,c⟩
theorem GF.grow{h h':AH}{S:Fp}{s:Sl}:∀{i:Option Nat}{xs:List α},GF E elem h S s i xs->Grow h h'->GF E elem h' S s i xs
 | .none,_,v,g=>v
 | .some k,_,⟨l,a,r,ln,rows,e,b,c,r2⟩,g=>⟨l,a,r,ln,rows,e,g.has b,c,r2.imp λ_ _=>E.grow g⟩
theorem GF.lt{h:AH}{S:Fp}{s:Sl}:∀{i:Option Nat}{xs:List α},GF E elem h S s i xs->LtO h.blks.size i
 | .none,_,_=>trivial
 | .some k,_,⟨l,a,r,ln,rows,e,b,c,r2⟩=>b.lt
theorem GF.mono{h:AH}{S T:Fp}{s:Sl}:∀{i:Option Nat}{xs:List α},GF E elem h S s i xs->(∀j,S j->T j)->NotO T i->GF E elem h T s i xs
 | .none,_,v,_,_=>v
 | .some k,_,⟨l,a,r,ln,rows,e,b,c,r2⟩,m,no=>⟨l,no,r,ln,rows,e,b,c,r2.imp λ_ _=>E.mono m⟩
theorem GF.bound{h:AH}{S:Fp}{s:Sl}:∀{i:Option Nat}{xs:List α},GF E elem h S s i xs->GF E elem h (λj=>S j/\j<h.blks.size) s i xs
 | .none,_,v=>v
 | .some k,_,⟨l,a,r,ln,rows,e,b,c,r2⟩=>⟨l,λx=>a x.1,r,ln,rows,e,b,c,r2.imp λ_ _=>E.bound⟩
def Fp.opt(i:Option Nat):Fp:=λj=>i=some j
theorem GF.sq{h:AH}{S:Fp}{s:Sl}:∀{i:Option Nat}{xs:List α},GF E elem h S s i xs->Sq E h (Fp.or (Fp.opt i) S) s xs
 | .none,xs,⟨_,F,H⟩=>by
  subst F;subst H;exact Sq.nil E h _
 | .some k,_,⟨l,a,r,ln,rows,e,b,c,r2⟩=>by
  have A:=qr (n:=E.w) (m:=s.len) b (by rw[kef (Ef.rows r2),qbl r2,ln]);refine⟨⟨rows,⟨?_,?_,?_⟩,r2.imp λ_ _=>E.mono λj x=>.inr x⟩,ln,l,.inr λj o C=>?_⟩
  ·rcases c with c | c
   ·unfold Sl.fit;rw[c];exact qbp _
   ·unfold Sl.fit;rw[c.1]
  ·exact A.len
  ·rw[r];exact A.get
  ·rw[r]at C;cases C;exact .inl rfl
theorem GF.len{h:AH}{S:Fp}{s:Sl}{i:Option Nat}{xs:List α}(v:GF E elem h S s i xs):s.len=xs.length:=v.sq.len
theorem GF.upd{h h':AH}{S:Fp}{s:Sl}{i:Nat}(u:Upd h h' i)(no:¬S i):∀{j:Option Nat}{xs:List α},GF E elem h S s j xs->(∀k,j=some k->k≠i)->GF E elem h' S s j xs
 | .none,_,v,_=>v
 | .some k,_,⟨l,a,r,ln,rows,e,b,c,r2⟩,ne=>⟨l,a,r,ln,rows,e,b.updr (ne k rfl) u,c,r2.imp λ_ _=>E.upd no u⟩
theorem GF.set{h:AH}{S T:Fp}{s:Sl}{i:Option Nat}{xs:List α}(v:GF E elem h S s i xs){cs:List AV}{x:α}(c:E.has h T cs x)(no:NotO T i){z:Int}{j:Nat}(q:inI xs.length z=some j) :
  ∃r h',idx s.ref xs.length z E.w=some r/\h.puts r cs=some h'/\GF E elem h' (Fp.or S T) s i (xs.set j x)/\UpdO h h' i:=by
 obtain⟨U,X⟩:=krp q;cases i with
 | none =>
  obtain⟨_,e1,Y⟩:=v;subst Y;simp at X
 | some k =>
  obtain⟨l,a,r,Z,rows,e,b,cp,r2⟩:=v;have aa:=qbl r2;have C:=Ef.rows r2;have I:=E.len c;have F:=kef C
  have H:j*E.w+cs.length<=rows.flatten.length:=by rw[F,I,<- Nat.succ_mul];exact Nat.mul_le_mul_right _ (by omega)
  have A:∀(rs:List (List AV))(n:Nat),(∀r∈rs,r.length=E.w)->rs.flatten.take (n*E.w)=(rs.take n).flatten/\rs.flatten.drop (n*E.w)=(rs.drop n).flatten:=by
   intro rs
   induction rs with
   | nil=>intro n _;simp
   | cons r rs ih =>
    intro n K;cases n with
    | zero=>simp
    | succ n =>
     have h1:=ih n λq hq=>K q (by simp[hq]);have Q:=K r (by simp);rw[Nat.succ_mul,List.flatten_cons,List.take_succ_cons,List.drop_succ_cons,List.flatten_cons,<- h1.1,<- h1.2];constructor
     ·rw[List.take_append,Q,List.take_of_length_le (by omega),Nat.add_sub_cancel]
     ·rw[List.drop_append,Q,List.drop_eq_nil_of_le (by omega),Nat.add_sub_cancel,List.nil_append]
  have key:rows.flatten.take (j*E.w)++cs++rows.flatten.drop (j*E.w+cs.length)=(rows.set j cs).flatten:=by
   have h3:j*E.w+cs.length=(j+1)*E.w:=by rw[I,Nat.succ_mul]
   rw[h3,(A rows j C).1,(A rows (j+1) C).2,List.set_eq_take_append_cons_drop,if_pos (by omega)];simp
  refine⟨.new k (j*E.w),h.upd k (rows.set j cs).flatten e,?_,?_,⟨by simpa using l,λx=>x.elim a no,r,by simpa using Z,rows.set j cs,e,qp b _ _,cp,?_⟩,AH.upd_Upd h k _ e⟩
  ·rw[r,U,kdq _ _ _ _ (by omega) (by omega)];simp
  ·rw[b.puts H,key]
  ·have:All2 (λcs a=>E.has h (Fp.or S T) cs a) (rows.set j cs) (xs.set j x):=All2.set (r2.imp λ_ _=>E.mono λj k=>.inl k) (E.mono (λj k=>.inr k) c) j;exact this.imp λ_ _ y=>E.upd (λx=>x.elim a no) (AH.upd_Upd h k _ e) y
theorem GF.push{h:AH}{S T:Fp}{s:Sl}{i:Option Nat}{xs:List α}(v:GF E elem h S s i xs){cs:List AV}{x:α}(c:E.has h T cs x)(no:NotO T i)(C:growOk P (xs.length+1) elem E.w=true) :
  ∃s' h',kv P s cs 1 elem E.w h=some (s'.v,h')/\GF E elem h' (λj=>(Fp.or S T) j/\j<h.blks.size) s' (some h.blks.size) (xs++[x])/\UpdO h h' i:=by
 have Q:=kub C;have hw:=E.len c;have H:¬((Fp.or S T) h.blks.size/\h.blks.size<h.blks.size):=λk=>Nat.lt_irrefl _ k.2;cases i with
 | none =>
  obtain⟨_,Z,e2⟩:=v;subst Z;subst e2;rw[kfa (c:=0) rfl (by simp) (by simpa using C) (Cells.nil h E.w)];refine⟨_,_,rfl,⟨by simp,H,rfl,by simp,[cs],elem,?_,.inr ⟨rfl,rfl⟩,.cons ?_ .nil⟩,qm _ _⟩
  ·simpa using qo h cs elem
  ·refine E.grow (qm _ _) (E.mono (λj k=>⟨.inr k.1,k.2⟩) (E.bound c))
 | some k =>
  have sq:=v.sq;obtain⟨l,a,r,F,rows,e,b,U,r2⟩:=v;have hr:=Ef.rows r2
  have X:Cells h s E.w rows.flatten:=by
   have Y:=qr (n:=E.w) (m:=s.len) b (by rw[kef hr,qbl r2,F]);refine⟨?_,Y.len,by rw[r];exact Y.get⟩;rcases U with c | c
   ·unfold Sl.fit;rw[c];exact qbp _
   ·unfold Sl.fit;rw[c.1]
  rw[<- F]at C;rcases U with I | ⟨I,rfl⟩
  ·rw[kfa I (by omega) C X];refine⟨_,_,rfl,⟨by simpa using Q,H,rfl,by simp[F],rows++[cs],elem,?_,.inr ⟨rfl,rfl⟩,All2.snoc (r2.imp λ_ _ y=>?_) ?_⟩,(qm _ _).toUpd k⟩
   ·have:=qo h (rows.flatten++cs) elem
    simpa using this
   ·exact E.grow (qm _ _) (E.mono (λj q=>⟨.inl q.1,q.2⟩) (E.bound y))
   ·exact E.grow (qm _ _) (E.mono (λj q=>⟨.inr q.1,q.2⟩) (E.bound c))
  ·have K:kv P s cs 1 e E.w h=some (Sl.v ⟨some (.new h.blks.size 0),s.len+1,.opn E.w⟩,(h.kill s.ref).push (.cells (rows.flatten++cs) e)):=by
    unfold kv;simp only[I];rw[show Nat.beq 1 0=false from rfl,show Nat.beq E.w E.w=true from Nat.beq_refl _];simp only[cond_false,C,Bool.and_true,cond_true,r,show h.blks[k]?=_ from b];have A:=X.gets;rw[r]at A;simp only[A,qbt];rw[show Nat.beq e e=true from Nat.beq_refl _,cond_true];have:(AH.kill h (some (Ref.new k 0))).blks.size=h.blks.size:=by simp[AH.kill]
    simp[AH.next,this,Sl.v];rfl
   rw[K,r];have sz:(h.kill (some (.new k 0))).blks.size=h.blks.size:=by simp[AH.kill]
   have u:Upd h (h.kill (some (.new k 0))) k:=AH.kill_Upd h k;refine⟨_,_,rfl,⟨by simpa using Q,H,rfl,by simp[F],rows++[cs],e,?_,.inr ⟨rfl,rfl⟩,All2.snoc (r2.imp λ_ _ y=>?_) ?_⟩,u.trans ((qm _ _).toUpd k)⟩
   ·have:=qo (h.kill (some (.new k 0))) (rows.flatten++cs) e;rw[sz]at this
    simpa using this
   ·exact E.grow (qm _ _) (E.mono (λj q=>⟨.inl q.1,q.2⟩) (E.upd (λq=>a q.1) u (E.bound y)))
   ·exact E.grow (qm _ _) (E.mono (λj q=>⟨.inr q.1,q.2⟩) (E.upd (λq=>no q.1) u (E.bound c)))
end Go.Ab
namespace Go.Ab
variable{P:Program}
theorem k0f{h:AH}:∀(n:Nat){r:Ref}{es:List AV},h.gets r n=some es->es.length=n/\∀(k:Nat)(v:AV),es[k]?=some v->h.cell (r.add k)=some v
 | 0,r,es,e=>by
  simp only[AH.gets,qcb]at e;subst e;exact⟨rfl,λk v C=>by simp at C⟩
 | n+1,r,es,e=>by
  simp only[AH.gets,qbu,Option.map_eq_some_iff]at e;obtain⟨v,F,l,H,rfl⟩:=e;obtain⟨h1,I⟩:=k0f n H;refine⟨by simp[h1],λk u A=>?_⟩;cases k with
  | zero =>
   simp at A;subst A;rw[Ref.add_zero];exact F
  | succ k =>have:=I k u (by simpa using A);rw[<- this,Ref.add_add,Nat.add_comm]
theorem Sq.of_arg{α:Type}{E:Ef α}{S:Fp}{h:AH}{t e:TypeId}{cs:List AV}(hu:P.underlying t=some (.slice e))(hw:P.cellsOf e=E.w)(elem:∀es,ArgT P h e es->∃a,E.has h S es a)(a:ArgT P h t cs):∃(s:Sl)(xs:List α),cs=[s.v]/\Sq E h S s xs:=by
 rcases a.slice hu with rfl | ⟨C,len,cap,rfl,h1,X,Y⟩
 ·exact⟨⟨none,0,.is 0⟩,[],rfl,Sq.nil _ _ _⟩
 ·rw[hw]at Y
  have mk:∀n,n<=len->∃(rows:List (List AV))(xs:List α),rows.length=n/\All2 (E.has h S) rows xs/\∀(i:Nat)(r:List AV),rows[i]?=some r->h.gets (.old (C.add (i*E.w))) E.w=some r:=by
   intro n
   induction n with
   | zero=>exactλ_=>⟨[],[],rfl,.nil,λi r hi=>by simp at hi⟩
   | succ n ih =>
    intro hn;obtain⟨rows,xs,F,H,K⟩:=ih (by omega);obtain⟨es,k1,k2⟩:=Y n (by omega);obtain⟨x,k3⟩:=elem es k2;refine⟨rows++[es],xs++[x],by simp[F],H.snoc k3,λi r hi=>?_⟩;by_cases Q:i<rows.length
    ·rw[List.getElem?_append_left Q]at hi;exact K i r hi
    ·rw[List.getElem?_append_right (by omega)]at hi
     have:i=n:=by
      rcases Nat.eq_zero_or_pos (i-rows.length)with h0 | h0
      ·omega
      ·rw[List.getElem?_eq_none (by simp;omega)]at hi;cases hi
     subst this;rw[F,Nat.sub_self]at hi;simp at hi;subst hi;exact k1
  obtain⟨rows,xs,F,H,K⟩:=mk len (qbp _);have I:=Ef.rows H;have A:=qbl H;refine⟨⟨some (.old C),len,.is cap⟩,xs,rfl,⟨⟨rows,⟨h1,by rw[kef I,F],λk v Z=>⟨_,rfl,?_⟩⟩,H⟩,by rw[<- A,F],?_,.inr λj o U=>by cases U⟩⟩
  ·have hk:k<rows.length*E.w:=by
    rw[<- kef I];exact(qce.1 Z).1
   have hi:k/E.w<rows.length:=Nat.div_lt_of_lt_mul (by rw[Nat.mul_comm];exact hk);have U:k%E.w<E.w:=Nat.mod_lt _ E.pos;have e1:=qb4 hi;have e2:(rows[k/E.w])[k%E.w]?=some ((rows[k/E.w])[k%E.w]'(by rw[I _ (qb3 _)];exact U)):=qb4 _;have e3:=kpu I e1 e2
   have e4:k/E.w*E.w+k%E.w=k:=by rw[Nat.mul_comm];exact Nat.div_add_mod k E.w
   rw[e4,Z]at e3;have e5:=(k0f E.w (K _ _ e1)).2 _ _ e2;rw[<- Option.some.inj e3]at e5
   have e6:(Ref.old (C.add (k/E.w*E.w))).add (k%E.w)=(Ref.old C).add k:=by rw[show Ref.old (C.add (k/E.w*E.w))=(Ref.old C).add (k/E.w*E.w)from rfl,Ref.add_add,e4]
   rw[<- e6];exact e5
  ·have hm:maxLen=9223372036854775807:=by decide
   rw[<- A,F];rw[hm]at X;exact qbq h1 X
end Go.Ab
namespace Go.Ab
theorem All2.take{α β:Type}{R:α->β->Prop}{l:List α}{m:List β}(a:All2 R l m):∀k:Nat,All2 R (l.take k) (m.take k):=by
 induction a with
 | nil=>intro k;simp;exact .nil
 | cons h t ih =>
  intro k;cases k with
  | zero=>exact .nil
  | succ k=>exact .cons h (ih k)
theorem AH.setBlk_get{h:AH}{l:Nat}{b:ABlk}(A:l<h.blks.size):(h.setBlk l b).blks[l]?=some b:=by simp[AH.setBlk,A]
theorem AH.setBlk_ne{h:AH}{l i:Nat}{b:ABlk}(hi:i≠l):(h.setBlk l b).blks[i]?=h.blks[i]?:=by simp only[AH.setBlk];rw[Array.getElem?_setIfInBounds_ne (λe=>hi e.symm)]
theorem AH.setBlk_size(h:AH)(l:Nat)(b:ABlk):(h.setBlk l b).blks.size=h.blks.size:=by simp[AH.setBlk]
theorem kbel{h:AH}{l:Nat}{A:Option Code}{f:FuncId}{fr:Fr}{ps:Array Tmp}{bs bd:Code}{d:Nat}(C:h.blks[l]?=some (.loop .ready A f fr ps bs bd d)) :
  beginA l h=some (h.setBlk l (.loop .busy A f fr ps bs bd d)):=by
 simp only[beginA,C]
theorem kbfh{h:AH}{l:Nat}{st:LoopState}{A:Option Code}{f:FuncId}{fr:Fr}{ps:Array Tmp}{bs bd:Code}{d:Nat}(C:h.blks[l]?=some (.loop st A f fr ps bs bd d))(j:Option Code) :
  kh1 l j h=some (.bool j.isNone,h.setBlk l (.loop (cond j.isNone .ready .done) j f fr ps bs bd d)):=by
 simp only[kh1,C]
theorem kbey{h:AH}{l:Nat}{A:Option Code}{f:FuncId}{fr:Fr}{ps:Array Tmp}{bs bd:Code}{d:Nat}(C:h.blks[l]?=some (.loop .ready A f fr ps bs bd d)):kk0 l h=some (A,h.setBlk l .dead):=by simp only[kk0,C];rfl
theorem kbie{R:Type}{f:FuncId}{a c:List AV}{k:FuncId->List AV->List AV->Option R}:funcK (.func (.func f) a c) k=k f a c:=rfl
theorem Runs.newM{P:AV->AH->Prop}{h:AH}{b:ABlk}{K:Nat->AH->Option (AV×AH)}(H:∀h',h'.blks[h.blks.size]?=some b->Grow h h'->Runs (K h.blks.size h') P):Runs (newM h b K) P:=H _ (by simp[AH.alloc]) (qm h _)
variable{P:Program}
structure Md(T:Fp)(h h':AH):Prop where
 old:h'.old=h.old
 size:h.blks.size<=h'.blks.size
 blk:∀j,j<h.blks.size->¬T j->h'.blks[j]?=h.blks[j]?
theorem Md.refl(T:Fp)(h:AH):Md T h h:=⟨rfl,qbp _,λ_ _ _=>rfl⟩
theorem Grow.md{h h':AH}(g:Grow h h')(T:Fp):Md T h h':=⟨g.old,g.size,λj A _=>g.blk j A⟩
theorem Upd.md{h h':AH}{i:Nat}(u:Upd h h' i){T:Fp}(t:T i):Md T h h':=⟨u.old,u.size,λj A n=>u.blk j (λe=>n (e▸t)) A⟩
theorem UpdO.md{h h':AH}{T:Fp}:∀{i:Option Nat},UpdO h h' i->(∀k,i=some k->T k)->Md T h h'
 | none,u,_=>Grow.md u T
 | some k,u,t=>Upd.md u (t k rfl)
theorem Md.grow{h h':AH}{T:Fp}(m:Md T h h')(n:∀j,j<h.blks.size->¬T j):Grow h h':=⟨m.old,m.size,λj A=>m.blk j A (n j A)⟩
theorem Md.mono{h h':AH}{S T:Fp}(m:Md S h h')(f:∀j,j<h.blks.size->S j->T j):Md T h h':=⟨m.old,m.size,λj A n=>m.blk j A λs=>n (f j A s)⟩
theorem Md.next{h h1 C:AH}{S T:Fp}(a:Md S h h1)(b:Md T h1 C)(f:∀j,j<h.blks.size->T j->S j):Md S h C:=⟨b.old.trans a.old,qbq a.size b.size,λj A n=>(b.blk j (qbr A a.size) λt=>n (f j A t)).trans (a.blk j A n)⟩
theorem Md.trans{h h1 A:AH}{T:Fp}(a:Md T h h1)(b:Md T h1 A):Md T h A:=a.next b λ_ _ t=>t
theorem Md.thenG{h h1 A:AH}{T:Fp}(a:Md T h h1)(b:Grow h1 A):Md T h A:=a.next (b.md Fp.no) λ_ _ t=>t.elim
def Dis(S T:Fp):Prop:=∀j,S j->T j->False
theorem Md.has{h h':AH}{T:Fp}(m:Md T h h'){i:Nat}{cs:List AV}{e:TypeId}(b:h.has i cs e)(n:¬T i):h'.has i cs e:=(m.blk i b.lt n).trans b
theorem Md.get{h h':AH}{T:Fp}(m:Md T h h'){i:Nat}{b:ABlk}(e:h.blks[i]?=some b)(n:¬T i):h'.blks[i]?=some b:=(m.blk i (qcd.1 e).1 n).trans e
def mixA(h h':AH)(k:Nat):AH:=⟨h'.old,((List.range h.blks.size).map λi=>(if i<k then h'.blks[i]? else h.blks[i]?).getD .dead).toArray⟩
theorem kf1(h h':AH)(k:Nat):(mixA h h' k).blks.size=h.blks.size:=by simp[mixA]
theorem kjq{h h':AH}{k i:Nat}(C:h.blks.size<=h'.blks.size)(hi:i<h.blks.size):(mixA h h' k).blks[i]?=if i<k then h'.blks[i]? else h.blks[i]?:=by
 have A:i<h'.blks.size:=qbr hi C;simp only[mixA,List.getElem?_toArray,List.getElem?_map,List.getElem?_range hi,Option.map_some];split
 ·rw[Array.getElem?_eq_getElem A];rfl
 ·rw[Array.getElem?_eq_getElem hi];rfl
theorem Ef.md{α:Type}(E:Ef α){h h':AH}{S T:Fp}{cs:List AV}{a:α}(m:Md T h h')(d:Dis S T)(e:E.has h S cs a):E.has h' S cs a:=by
 have key:∀k,k<=h.blks.size->E.has (mixA h h' k) S cs a:=by
  intro k
  induction k with
  | zero =>
   intro _;refine E.grow ⟨m.old,by rw[kf1];exact qbp _,λi hi=>?_⟩ e;rw[kjq m.size hi,if_neg (by omega)]
  | succ k ih =>
   intro K;have C:=ih (by omega);by_cases F:S k
   ·have H:¬T k:=λt=>d k F t;refine E.grow (show Grow (mixA h h' k) (mixA h h' (k+1))from⟨rfl,by rw[kf1,kf1];exact qbp _,λi hi=>?_⟩) C;rw[kf1]at hi;rw[kjq m.size hi,kjq m.size hi];by_cases h1:i=k
    ·subst h1;rw[if_pos (by omega),if_neg (by omega),m.blk i hi H]
    ·by_cases A:i<k
     ·rw[if_pos (by omega),if_pos A]
     ·rw[if_neg (by omega),if_neg A]
   ·refine E.upd F (show Upd (mixA h h' k) (mixA h h' (k+1)) k from⟨rfl,by rw[kf1,kf1];exact qbp _,λi I hi=>?_⟩) C;rw[kf1]at hi;rw[kjq m.size hi,kjq m.size hi];by_cases A:i<k
    ·rw[if_pos (by omega),if_pos A]
    ·rw[if_neg (by omega),if_neg A]
 refine E.grow (show Grow (mixA h h' h.blks.size) h' from⟨rfl,by rw[kf1];exact m.size,λi hi=>?_⟩) (key _ (qbp _));rw[kf1]at hi;rw[kjq m.size hi,if_pos hi]
section
variable{α:Type}{E:Ef α}
theorem Sq.md{h h':AH}{S T:Fp}{s:Sl}{xs:List α}(n:Sq E h S s xs)(m:Md T h h')(d:Dis S T):Sq E h' S s xs:=by obtain⟨s',e,A⟩:=Ef.md (Ef.seq E) m d (show(Ef.seq E).has h S [s.v] xs from⟨s,rfl,n⟩);cases Sl.vs_inj e;exact A
theorem Nats.mdE{h h':AH}{S T:Fp}{s:Sl}{xs:List Nat}(n:Nats h s xs)(a:∀j,¬Av s j xs->S j)(m:Md T h h')(d:Dis S T):Nats h' s xs:=by obtain⟨s',e,A,_⟩:=Ef.md Ef.nats m d (show Ef.nats.has h S [s.v] xs from⟨s,rfl,n,a⟩);cases Sl.vs_inj e;exact A
theorem GF.md{elem:TypeId}{h h':AH}{S T:Fp}{s:Sl}(m:Md T h h')(d:Dis S T):∀{j:Option Nat}{xs:List α},GF E elem h S s j xs->(∀k,j=some k->¬T k)->GF E elem h' S s j xs
 | .none,_,v,_=>v
 | .some k,_,⟨l,a,r,ln,rows,e,b,c,r2⟩,ne=>⟨l,a,r,ln,rows,e,m.has b (ne k rfl),c,r2.imp λ_ _=>E.md m d⟩
end
end Go.Ab
namespace Go.Ab
def kvGet{A:Type}:List (Int×A)->Int->Option A
 | [],_=>none
 | (k,v)::t,n=>if n=k then some v else kvGet t n
def kvPut{A:Type}:List (Int×A)->Int->A->List (Int×A)
 | [],n,v=>[(n,v)]
 | (k,w)::t,n,v=>if n=k then(k,v)::t else(k,w)::kvPut t n v
def kvDel{A:Type}:List (Int×A)->Int->List (Int×A)
 | [],_=>[]
 | (k,w)::t,n=>if n=k then t else(k,w)::kvDel t n
theorem kbhp{A:Type}(l:List (Int×A))(n m:Int)(v:A):kvGet (kvPut l n v) m=if m=n then some v else kvGet l m:=by
 induction l with
 | nil=>simp[kvPut,kvGet]
 | cons p t ih =>
  obtain⟨k,w⟩:=p;simp only[kvPut];by_cases h:n=k
  ·subst h;rw[if_pos rfl];simp only[kvGet];by_cases C:m=n
   ·rw[if_pos C,if_pos C]
   ·rw[if_neg C,if_neg C,if_neg C]
  ·rw[if_neg h];simp only[kvGet,ih];by_cases C:m=k
   ·rw[if_pos C,if_pos C,if_neg (by omega)]
   ·rw[if_neg C,if_neg C]
theorem k2i{A:Type}{l:List (Int×A)}{n:Int}(v:A)(h:kvGet l n=none):kvPut l n v=l++[(n,v)]:=by
 induction l with
 | nil=>rfl
 | cons p t ih =>
  obtain⟨k,w⟩:=p;simp only[kvGet]at h;by_cases e:n=k
  ·rw[if_pos e]at h;cases h
  ·rw[if_neg e]at h;simp only[kvPut,if_neg e,ih h,List.cons_append]
theorem k26{A:Type}{l:List (Int×A)}{n:Int}{w:A}(v:A)(h:kvGet l n=some w):(kvPut l n v).length=l.length:=by
 induction l with
 | nil=>cases h
 | cons p t ih =>
  obtain⟨k,u⟩:=p;simp only[kvGet]at h;by_cases e:n=k
  ·simp only[kvPut,if_pos e,qb2]
  ·rw[if_neg e]at h;simp only[kvPut,if_neg e,qb2,ih h]
def Kv(es:List AEnt)(l:List (Int×AV)):Prop:=es.map (λe=>(e.key,e.val))=l.map λp=>(AV.int .i64 p.1,p.2)
theorem Kv.nil:Kv [] []:=rfl
theorem Kv.len{es:List AEnt}{l:List (Int×AV)}(k:Kv es l):es.length=l.length:=by
 have:=congrArg List.length k
 simpa using this
theorem kwd{n:Int}:∀{es:List AEnt}{l:List (Int×AV)}(j:Nat),Kv es l->
  (findA .i64 n es j=some none/\kvGet l n=none/\(∀v b,Kv (es++[⟨.int .i64 n,v,b⟩]) (kvPut l n v))/\kvDel l n=l)\/
  ∃t v,findA .i64 n es j=some (some (j+t,v))/\t<es.length/\kvGet l n=some v/\(∀w,Kv (es.modify t λe=>⟨.int .i64 n,w,e.born⟩) (kvPut l n w))/\Kv (es.eraseIdx t) (kvDel l n)
 | [],l,j,k=>by
  cases l with
  | nil=>exact .inl ⟨rfl,rfl,λv b=>rfl,rfl⟩
  | cons p t=>simp[Kv]at k
 | e::es,l,j,k=>by
  cases l with
  | nil=>simp[Kv]at k
  | cons p t =>
   obtain⟨m,w⟩:=p;simp only[Kv,List.map_cons,List.cons.injEq,qcc]at k;obtain⟨⟨A,C⟩,F⟩:=k;have ih:=kwd (n:=n) (j+1) (show Kv es t from F);simp only[findA,A,decide_true,cond_true,kvGet,kvPut,kvDel];by_cases h:n=m
   ·subst h
    right
    refine⟨0,e.val,by simp,by simp,by rw[if_pos rfl,C],λu=>?_,?_⟩
    ·simp only[if_true];simp only[Kv,List.modify_zero_cons,List.map_cons];rw[show es.map _=t.map _ from F]
    ·simp only[if_true];exact F
   ·rw[qby h,cond_false];simp only[if_neg h];rcases ih with⟨a,b,c,d⟩ | ⟨x,v,a,b,c,d,f⟩
    ·left
     refine⟨a,b,λv H=>?_,by rw[d]⟩;have:=c v H;simp only[Kv,List.map_append,List.cons_append,List.map_cons]at this|-;rw[this,A,C]
    ·right
     refine⟨x+1,v,by rw[a];congr 3;omega,by simp;omega,c,λu=>?_,?_⟩
     ·have:=d u;simp only[Kv,List.modify_succ_cons,List.map_cons]at this|-;rw[this,A,C]
     ·simp only[Kv,List.eraseIdx_cons_succ,List.map_cons]at f|-;rw[f,A,C]
def MapIs(h:AH)(i:Nat)(l:List (Int×AV)):Prop:=∃es ck,h.blks[i]?=some (.map es ck)/\Kv es l
theorem MapIs.lt{h:AH}{i:Nat}{l:List (Int×AV)}(m:MapIs h i l):i<h.blks.size:=by obtain⟨es,ck,e,_⟩:=m;exact(qcd.1 e).1
theorem AH.setBlk_Upd{h:AH}{i:Nat}(b:ABlk):Upd h (h.setBlk i b) i:=⟨rfl,by rw[AH.setBlk_size];exact qbp _,λj A _=>AH.setBlk_ne A⟩
section
variable{h:AH}{i:Nat}{l:List (Int×AV)}
theorem MapIs.at(m:MapIs h i l):∃es ck,h.mapAt i=some (es,ck)/\Kv es l:=by obtain⟨es,ck,e,k⟩:=m;exact⟨es,ck,by simp only[AH.mapAt,e],k⟩
theorem MapIs.put(m:MapIs h i l)(n:Int)(v:AV):∃h',mapPut h i .i64 n v=some h'/\MapIs h' i (kvPut l n v)/\Upd h h' i:=by
 have A:=m.lt;obtain⟨es,ck,e,k⟩:=m.at;simp only[mapPut,e,qbt];rcases kwd (n:=n) 0 k with⟨a,b,c,_⟩ | ⟨t,w,a,_,b,c,_⟩
 ·rw[a];exact⟨_,rfl,⟨_,_,AH.setBlk_get A,c v ck⟩,AH.setBlk_Upd _⟩
 ·rw[a,Nat.zero_add];exact⟨_,rfl,⟨_,_,AH.setBlk_get A,c v⟩,AH.setBlk_Upd _⟩
theorem MapIs.size(m:MapIs h i l):mapLen h (some i)=some l.length:=by obtain⟨es,ck,e,k⟩:=m.at;simp only[mapLen,e,Option.map_some,k.len]
end
section
variable{P:AV->AH->Prop}
theorem Runs.call{x:Option (AV×AH)}{Q:AV->AH->Prop}{K:AV×AH->Option (AV×AH)}(r:Runs x Q)(H:∀v h',Q v h'->Runs (K (v,h')) P):Runs (x.bind K) P:=by obtain⟨v,h',e,q⟩:=r;subst e;exact H v h' q
theorem Runs.newMap{h:AH}{K:Nat->AH->Option (AV×AH)}(H:∀h',MapIs h' h.blks.size []->Grow h h'->Runs (K h.blks.size h') P):Runs (Go.Ab.newM h (.map [] 0) K) P:=Runs.newM λh' e g=>H h' ⟨[],0,e,Kv.nil⟩ g
theorem ko0{n:Nat}{G:Int->AH->Option (AV×AH)}{p:Nat->Bool}{h0:AH}
  (step:∀(i:Nat)(h:AH)(P:AV->AH->Prop),i<n->Grow h0 h->(∀h',Grow h0 h'->p i=true->P (.int .i64 (i:Int)) h')->(∀h',Grow h0 h'->p i=false->Runs (G ((i+1:Nat):Int) h') P)->Runs (G (i:Int) h) P)
  (done:∀(h:AH),Grow h0 h->G (n:Int) h=some (.int .i64 (-1),h)):∀(k i:Nat),i+k=n->∀{h:AH},Grow h0 h->(∀j,j<i->p j=false)->
  Runs (G (i:Int) h) λv h'=>Grow h0 h'/\((v=.int .i64 (-1)/\∀j,j<n->p j=false)\/∃j,j<n/\v=.int .i64 (j:Int)/\p j=true/\∀t,t<j->p t=false):=by
 intro k
 induction k with
 | zero =>
  intro i hi h g A;have:i=n:=by omega
  subst this;rw[done h g];exact qy ⟨g,.inl ⟨rfl,A⟩⟩
 | succ k ih =>
  intro i hi h g A;refine step i h _ (by omega) g (λh' C e=>⟨C,.inr ⟨i,by omega,rfl,e,A⟩⟩) λh' C e=>ih (i+1) (by omega) C λj F=>?_;rcases Nat.lt_or_ge j i with h1 | h1
  ·exact A j h1
  ·have:j=i:=by omega
   subst this;exact e
theorem Runs.contains{α:Type}{xs:List α}{p:α->Bool}{x:Option (AV×AH)}{h0:AH}(R:Runs x λv h'=>Grow h0 h'/\((v=.int .i64 (-1)/\∀j,j<xs.length->(xs[j]?).any p=false)\/∃j,j<xs.length/\v=.int .i64 (j:Int)/\(xs[j]?).any p=true/\∀t,t<j->(xs[t]?).any p=false)) :
  Runs (x.bind λq=>((some q.1).bind (AV.asInt .i64)).bind λn=>some (.bool (decide (n>=0)),q.2)) λv h'=>v=.bool (xs.any p)/\Grow h0 h':=by
 refine R.call λv h' ⟨g,d⟩=>?_;rcases d with⟨rfl,a⟩ | ⟨j,A,rfl,a,_⟩
 ·refine qz (seen qcp) (qy ⟨?_,g⟩)
  have:xs.any p=false:=by
   rw[List.any_eq_false];intro y F;obtain⟨t,C,rfl⟩:=List.getElem_of_mem F;have:=a t C;rw[qb4 C]at this
   simpa using this
  rw[this];exact congrArg AV.bool (qby (by omega))
 ·refine qz (seen qcp) (qy ⟨?_,g⟩)
  have:xs.any p=true:=by rw[List.any_eq_true];rw[qb4 A]at a;exact⟨xs[j],qb3 A,by simpa using a⟩
  rw[this];exact congrArg AV.bool (qbx (by omega))
end
abbrev EI:Ef Int:=Ef.int .i64
section
variable{h:AH}{S:Fp}{s:Sl}
theorem Sq.int{k:IntKind}{xs:List Int}(n:Sq (Ef.int k) h S s xs){i:Nat}(hi:i<xs.length):∃r:Ref,idx s.ref s.len (i:Int) 1=some r/\(h.cell r).bind (AV.asInt k)=some xs[i]:=by obtain⟨r,cs,C,A,l⟩:=n.at (kh8 hi);have A:cs=[.int k xs[i]]:=A;subst A;rw[n.len];exact⟨r,C,l.rd0 (ql _) rfl qcp⟩
theorem Sq.sl{α:Type}{E:Ef α}{xs:List (List α)}(n:Sq (Ef.seq E) h S s xs){i:Nat}(hi:i<xs.length):∃(r:Ref)(s':Sl),idx s.ref s.len (i:Int) 1=some r/\(h.cell r).bind AV.asSl=some s'/\(h.cell (r.add 0)).bind AV.asSl=some s'/\Sq E h S s' xs[i]:=by obtain⟨r,cs,A,⟨s',rfl,C⟩,l⟩:=n.at (kh8 hi);rw[n.len];exact⟨r,s',A,l.rd0 (ql _) rfl qco,l.rd (ql _) 0 rfl qco,C⟩
end
theorem kbct{P:Program}{h:AH}{t e:TypeId}{cs:List AV}{k:IntKind}(S:Fp)(A:P.underlying t=some (.slice e))(C:P.underlying e=some (.int k))(F:P.cellsOf e=1)(a:ArgT P h t cs):∃(s:Sl)(xs:List Int),cs=[s.v]/\Sq (Ef.int k) h S s xs :=
 Sq.of_arg (E:=Ef.int k) A F (λes t=>by obtain⟨y,rfl,w⟩:=t.int C;exact⟨y,rfl⟩) a
structure Nd where
 leaf:Bool
 weight:Int
 party:Int
 feature:Int
 cut:Int
 left:Int
 right:Int
 deriving DecidableEq
def Nd.cells(x:Nd):List AV:=[.bool x.leaf,.int .i64 x.weight,.int .i64 x.party,.int .i64 x.feature,.int .i64 x.cut,.int .i64 x.left,.int .i64 x.right]
@[reducible] def Ef.nd:Ef Nd where
 w:=7
 pos:=by decide
 has _ _ cs x:=cs=x.cells
 len e:=by rw[e];rfl
 grow _ e:=e
 mono _ e:=e
 upd _ _ e:=e
 bound e:=e
theorem Sq.nd{h:AH}{S:Fp}{s:Sl}{xs:List Nd}(n:Sq Ef.nd h S s xs){i:Nat}(hi:i<xs.length):∃r:Ref,idx s.ref s.len (i:Int) 7=some r/\(h.cell (r.add 0)).bind AV.asBool=some xs[i].leaf/\(h.cell (r.add 1)).bind (AV.asInt .i64)=some xs[i].weight/\
  (h.cell (r.add 2)).bind (AV.asInt .i64)=some xs[i].party/\(h.cell (r.add 3)).bind (AV.asInt .i64)=some xs[i].feature/\(h.cell (r.add 4)).bind (AV.asInt .i64)=some xs[i].cut/\(h.cell (r.add 5)).bind (AV.asInt .i64)=some xs[i].left/\(h.cell (r.add 6)).bind (AV.asInt .i64)=some xs[i].right:=by
 obtain⟨r,cs,C,A,l⟩:=n.at (kh8 hi);have A:cs=xs[i].cells:=A;subst A;rw[n.len];have g:=ql h;exact⟨r,C,l.rd g 0 rfl rfl,l.rd g 1 rfl qcp,l.rd g 2 rfl qcp,l.rd g 3 rfl qcp,l.rd g 4 rfl qcp,l.rd g 5 rfl qcp,l.rd g 6 rfl qcp⟩
theorem kvn{α:Type}{xs:List α}{i:Nat}(hi:i<xs.length)(p:α->Bool):(xs.drop i).all p=(p xs[i]&&(xs.drop (i+1)).all p):=by rw[qcg hi,List.all_cons]
theorem kkm{α:Type}{xs:List α}{i:Nat}(hi:xs.length<=i)(p:α->Bool):(xs.drop i).all p=true:=by rw[List.drop_of_length_le hi];rfl
theorem kpk{n i:Nat}(hi:i<n)(p:Nat->Bool):((List.range n).drop i).all p=(p i&&((List.range n).drop (i+1)).all p):=by rw[kvn (by simpa using hi),List.getElem_range]
variable{P:Program}{α:Type}{E:Ef α}{elem:TypeId}
def GQ{α:Type}(E:Ef α)(elem:TypeId)(h:AH)(S:Fp)(s:Sl)(k:Nat)(xs:List α):Prop:=¬S k/\s.ref=some (.new k 0)/\s.len=xs.length/\∃(rows A:List (List AV))(e:TypeId),h.has k (rows++A).flatten e/\(∀r∈A,r.length=E.w)/\(s.cap=.is (rows.length+A.length)\/s.cap=.opn E.w/\e=elem)/\All2 (E.has h S) rows xs/\rows.length+A.length<=9223372036854775807
variable{h h':AH}{S T:Fp}{s:Sl}{k:Nat}{xs:List α}
theorem GQ.lit{i n:Nat}{rows:List (List AV)}{e:TypeId}(b:h.has i rows.flatten e)(c:All2 (E.has h S) rows xs)(a:¬S i)(A:xs.length=n)(C:n<=9223372036854775807:=by decide):GQ E elem h S ⟨some (.new i 0),n,.is n⟩ i xs:=⟨a,rfl,A.symm,rows,[],e,by simpa using b,by simp,.inl (by simp[qbl c,A]),c,by simp[qbl c];omega⟩
theorem GQ.grow(v:GQ E elem h S s k xs)(g:Grow h h'):GQ E elem h' S s k xs:=by obtain⟨a,r,A,rows,C,e,b,w,c,r2,l⟩:=v;exact⟨a,r,A,rows,C,e,g.has b,w,c,r2.imp λ_ _=>E.grow g,l⟩
theorem GQ.lt(v:GQ E elem h S s k xs):k<h.blks.size:=by obtain⟨a,r,A,rows,C,e,b,w,c,r2,l⟩:=v;exact b.lt
theorem GQ.not(v:GQ E elem h S s k xs):¬S k:=v.1
theorem GQ.mono(v:GQ E elem h S s k xs)(m:∀j,S j->T j)(no:¬T k):GQ E elem h T s k xs:=by obtain⟨a,r,A,rows,C,e,b,w,c,r2,l⟩:=v;exact⟨no,r,A,rows,C,e,b,w,c,r2.imp λ_ _=>E.mono m,l⟩
theorem GQ.bound(v:GQ E elem h S s k xs):GQ E elem h (λj=>S j/\j<h.blks.size) s k xs:=by obtain⟨a,r,A,rows,C,e,b,w,c,r2,l⟩:=v;exact⟨λx=>a x.1,r,A,rows,C,e,b,w,c,r2.imp λ_ _=>E.bound,l⟩
theorem GQ.upd{i:Nat}(v:GQ E elem h S s k xs)(u:Upd h h' i)(no:¬S i)(ne:k≠i):GQ E elem h' S s k xs:=by obtain⟨a,r,A,rows,C,e,b,w,c,r2,l⟩:=v;exact⟨a,r,A,rows,C,e,b.updr ne u,w,c,r2.imp λ_ _=>E.upd no u,l⟩
theorem GQ.md(v:GQ E elem h S s k xs)(m:Md T h h')(d:Dis S T)(ne:¬T k):GQ E elem h' S s k xs:=by obtain⟨a,r,A,rows,C,e,b,w,c,r2,l⟩:=v;exact⟨a,r,A,rows,C,e,m.has b ne,w,c,r2.imp λ_ _=>E.md m d,l⟩
theorem GQ.cells{rows A:List (List AV)}{e:TypeId}(r:s.ref=some (.new k 0))(C:s.len=xs.length)(b:h.has k (rows++A).flatten e)(c:s.cap=.is (rows.length+A.length)\/s.cap=.opn E.w/\e=elem)(r2:All2 (E.has h S) rows xs):Cells h s E.w rows.flatten:=by
 have H:s.len*E.w=rows.flatten.length:=by rw[kef (Ef.rows r2),qbl r2,C]
 refine⟨?_,H,λi v F=>⟨_,r,?_⟩⟩
 ·unfold Sl.fit;rcases c with c | c
  ·rw[c,C,<- qbl r2];exact Nat.le_add_right _ _
  ·rw[c.1]
 ·rw[qj,Nat.zero_add,b.cell,List.flatten_append,List.getElem?_append_left (qce.1 F).1];exact F
theorem GQ.sq(v:GQ E elem h S s k xs):Sq E h (Fp.or (λj=>j=k) S) s xs:=by
 obtain⟨a,r,A,rows,F,e,b,w,c,r2,l⟩:=v;refine⟨⟨rows,GQ.cells r A b c r2,r2.imp λ_ _=>E.mono λj x=>.inr x⟩,A,?_,.inr λj o C=>?_⟩
 ·have:=qbl r2;omega
 ·rw[r]at C;cases C;exact .inl rfl
theorem kum{w:Nat}:∀{rs:List (List AV)}(n:Nat),(∀r∈rs,r.length=w)->rs.flatten.take (n*w)=(rs.take n).flatten/\rs.flatten.drop (n*w)=(rs.drop n).flatten
 | [],n,_=>by simp
 | r::rs,0,A=>by simp
 | r::rs,n+1,A=>by
  have h1:=kum (rs:=rs) n λq F=>A q (by simp[F]);have C:=A r (by simp);rw[Nat.succ_mul,List.flatten_cons,List.take_succ_cons,List.drop_succ_cons,List.flatten_cons,<- h1.1,<- h1.2];constructor
  ·rw[List.take_append,C,List.take_of_length_le (by omega),Nat.add_sub_cancel]
  ·rw[List.drop_append,C,List.drop_eq_nil_of_le (by omega),Nat.add_sub_cancel,List.nil_append]
theorem kw8{w:Nat}{rs:List (List AV)}{j:Nat}{cs:List AV}(A:∀r∈rs,r.length=w)(C:j<rs.length)(F:cs.length=w):rs.flatten.take (j*w)++cs++rs.flatten.drop (j*w+cs.length)=(rs.set j cs).flatten:=by
 have H:j*w+cs.length=(j+1)*w:=by rw[F,Nat.succ_mul]
 rw[H,(kum j A).1,(kum (j+1) A).2,List.set_eq_take_append_cons_drop,if_pos C];simp
theorem GQ.rowsW{rows A:List (List AV)}(r2:All2 (E.has h S) rows xs)(w:∀r∈A,r.length=E.w):∀r∈rows++A,r.length=E.w:=λr C=>(qb5.1 C).elim (Ef.rows r2 r) (w r)
theorem GQ.at(v:GQ E elem h S s k xs){i:Nat}(hi:i<xs.length):∃(r:Ref)(cs:List AV),idx s.ref s.len (i:Int) E.w=some r/\E.has h S cs xs[i]/\Lies h r cs:=by
 obtain⟨a,r,I,rows,K,e,b,w,c,r2,l⟩:=v;obtain⟨cs,A,C⟩:=r2.get (qb4 hi);have F:=qbl r2;refine⟨.new k (i*E.w),cs,?_,C,⟨λj x H=>?_⟩⟩
 ·rw[r,kdq _ _ _ _ (by omega) (by omega)];simp
 ·rw[qj,b.cell];exact kpu (GQ.rowsW r2 w) (by rw[List.getElem?_append_left (by omega)];exact A) H
theorem GQ.set(v:GQ E elem h S s k xs){cs:List AV}{x:α}(c:E.has h T cs x)(no:¬T k){j:Nat}(X:j<xs.length) :
  ∃r h',idx s.ref s.len (j:Int) E.w=some r/\h.puts r cs=some h'/\GQ E elem h' (Fp.or S T) s k (xs.set j x)/\Upd h h' k:=by
 obtain⟨a,r,K,rows,A,e,b,w,Q,r2,l⟩:=v;have U:=qbl r2;have H:=GQ.rowsW r2 w;have I:=E.len c
 have F:j*E.w+cs.length<=(rows++A).flatten.length:=by rw[kef H,I,<- Nat.succ_mul,qb0];exact Nat.mul_le_mul_right _ (by omega)
 have key:=kw8 (j:=j) H (by rw[qb0];omega) I;have C:(rows++A).set j cs=rows.set j cs++A:=List.set_append_left _ _ (by omega);rw[C]at key;refine⟨.new k (j*E.w),h.upd k (rows.set j cs++A).flatten e,?_,?_,⟨λx=>x.elim a no,r,by simpa using K,rows.set j cs,A,e,qp b _ _,w,by simpa using Q,?_,by simpa using l⟩,AH.upd_Upd h k _ e⟩
 ·rw[r,kdq _ _ _ _ (by omega) (by omega)];simp
 ·rw[b.puts F,key]
 ·have:All2 (λcs a=>E.has h (Fp.or S T) cs a) (rows.set j cs) (xs.set j x):=All2.set (r2.imp λ_ _=>E.mono λj k=>.inl k) (E.mono (λj k=>.inr k) c) j;exact this.imp λ_ _ y=>E.upd (λx=>x.elim a no) (AH.upd_Upd h k _ e) y
theorem GQ.push(v:GQ E elem h S s k xs){cs:List AV}{x:α}(c:E.has h T cs x)(no:¬T k)(Q:growOk P (xs.length+1) elem E.w=true) :
  ∃s' h' Y,kv P s cs 1 elem E.w h=some (s'.v,h')/\GQ E elem h' (λj=>(Fp.or S T) j/\j<h.blks.size) s' Y (xs++[x])/\Upd h h' k/\(Y=k\/Y=h.blks.size):=by
 have hl:=kub Q;have hw:=E.len c;have nS:¬((Fp.or S T) h.blks.size/\h.blks.size<h.blks.size):=λk=>Nat.lt_irrefl _ k.2;obtain⟨a,r,H,rows,C,e,b,w,cp,r2,l⟩:=v;have Z:=qbl r2;have cc:=GQ.cells r H b cp r2;rw[<- H]at Q hl
 have newB:∀{h1 U:AH},h1.blks.size=h.blks.size->Upd h h1 k->U=h1.push (.cells (rows.flatten++cs) elem)->GQ E elem U (λj=>(Fp.or S T) j/\j<h.blks.size) ⟨some (.new h.blks.size 0),s.len+1,.opn E.w⟩ h.blks.size (xs++[x])/\Upd h U k:=by
  intro h1 U sz u e2;subst e2;refine⟨⟨nS,rfl,by simp[H],rows++[cs],[],elem,?_,by simp,.inr ⟨rfl,rfl⟩,All2.snoc (r2.imp λ_ _ y=>?_) ?_,by simp;omega⟩,u.trans ((qm _ _).toUpd k)⟩
  ·have:=qo h1 (rows.flatten++cs) elem;rw[sz]at this
   simpa using this
  ·exact E.grow (qm _ _) (E.mono (λj q=>⟨.inl q.1,q.2⟩) (E.upd (λq=>a q.1) u (E.bound y)))
  ·exact E.grow (qm _ _) (E.mono (λj q=>⟨.inr q.1,q.2⟩) (E.upd (λq=>no q.1) u (E.bound c)))
 rcases cp with I | ⟨I,rfl⟩
 ·cases C with
  | nil =>
   rw[kfa I (by simp;omega) Q cc];obtain⟨v2,u2⟩:=newB (h1:=h) rfl ((ql h).toUpd k) rfl;exact⟨_,_,_,rfl,v2,u2,.inr rfl⟩
  | cons q C =>
   have X:=GQ.rowsW r2 w
   have aa:rows.length*E.w+cs.length<=(rows++q::C).flatten.length:=by rw[kef X,hw,<- Nat.succ_mul,qb0,qb2];exact Nat.mul_le_mul_right _ (by omega)
   have key:=kw8 (j:=rows.length) X (by simp) hw
   have K:(rows++q::C).set rows.length cs=(rows++[cs])++C:=by rw[List.set_append_right _ _ (qbp _)];simp
   rw[K]at key
   have F:kv P s cs 1 elem E.w h=some (Sl.v ⟨s.ref,s.len+1,s.cap⟩,h.upd k ((rows++[cs])++C).flatten e):=by unfold kv;simp only[I];rw[show Nat.ble (s.len+1) (rows.length+(q::C).length)=true from Nat.ble_eq_true_of_le (by simp;omega)];simp only[cond_true,r];rw[show(Ref.new k 0).add (s.len*E.w)=Ref.new k (rows.length*E.w)from by rw[qj,Nat.zero_add,H,Z],b.puts aa,key];rfl
   rw[F];have u:=AH.upd_Upd h k ((rows++[cs])++C).flatten e;refine⟨_,_,k,rfl,⟨λx=>x.1.elim a no,r,by simp[H],rows++[cs],C,e,qp b _ _,λr X=>w r (by simp[X]),.inl ?_,All2.snoc (r2.imp λ_ _ y=>?_) ?_,by simp at l|-;omega⟩,u,.inl rfl⟩
   ·rw[I];simp;omega
   ·exact E.mono (λj q=>⟨.inl q.1,q.2⟩) (E.upd (λq=>a q.1) u (E.bound y))
   ·exact E.mono (λj q=>⟨.inr q.1,q.2⟩) (E.upd (λq=>no q.1) u (E.bound c))
 ·have F:kv P s cs 1 e E.w h=some (Sl.v ⟨some (.new h.blks.size 0),s.len+1,.opn E.w⟩,(h.kill s.ref).push (.cells (rows.flatten++cs) e)):=by
   unfold kv;simp only[I];rw[show Nat.beq 1 0=false from rfl,show Nat.beq E.w E.w=true from Nat.beq_refl _];simp only[cond_false,Q,Bool.and_true,cond_true,r,show h.blks[k]?=_ from b];have A:=cc.gets;rw[r]at A;simp only[A,qbt];rw[show Nat.beq e e=true from Nat.beq_refl _,cond_true];have:(AH.kill h (some (Ref.new k 0))).blks.size=h.blks.size:=by simp[AH.kill]
   simp[AH.next,this,Sl.v];rfl
  rw[F,r];obtain⟨v2,u2⟩:=newB (h1:=h.kill (some (.new k 0))) (by simp[AH.kill]) (AH.kill_Upd h k) rfl;exact⟨_,_,_,rfl,v2,u2,.inr rfl⟩
theorem GQ.cut(v:GQ E elem h S s k xs){n:Nat}(Z:n<=xs.length):∃s',cutSl s 0 (n:Int) E.w=some s'/\GQ E elem h S s' k (xs.take n):=by
 obtain⟨a,r,ln,rows,A,e,b,w,Q,r2,l⟩:=v;have U:=qbl r2;have X:=Ef.rows r2;have I:(rows++A)=rows.take n++(rows.drop n++A):=by rw[<- List.append_assoc,List.take_append_drop]
 have t2:All2 (E.has h S) (rows.take n) (xs.take n):=All2.take r2 n;have K:∀r∈rows.drop n++A,r.length=E.w:=λr F=>(qb5.1 F).elim (λx=>X r (List.mem_of_mem_drop x)) (w r);have C:(rows.take n).length+(rows.drop n++A).length=rows.length+A.length:=by simp;omega
 rcases Q with H | ⟨H,Y⟩
 ·refine⟨⟨some (.new k 0),n,.is (rows.length+A.length)⟩,?_,a,rfl,by simp;omega,rows.take n,rows.drop n++A,e,by rw[<- I];exact b,K,.inl (by rw[C]),t2,by omega⟩;unfold cutSl;simp only[H];rw[qbx (show(0:Int)<=0/\(0:Int)<=(n:Int)/\(n:Int)<=((rows.length+A.length:Nat):Int)from⟨by omega,by omega,by omega⟩),cond_true,r];simp
 ·refine⟨⟨some (.new k 0),n,.opn E.w⟩,?_,a,rfl,by simp;omega,rows.take n,rows.drop n++A,e,by rw[<- I];exact b,K,.inr ⟨rfl,Y⟩,t2,by omega⟩;unfold cutSl;simp only[H];rw[show Nat.beq E.w E.w=true from Nat.beq_refl _,cond_true,qbx (show(0:Int)<=0/\(0:Int)<=(n:Int)/\(n:Int)<=(s.len:Int)from⟨by omega,by omega,by omega⟩),cond_true,r];simp
theorem All2.app{α β:Type}{R:α->β->Prop}:∀{l:List α}{m:List β}{A:List α}{C:List β},All2 R l m->All2 R A C->All2 R (l++A) (m++C)
 | _,_,_,_,.nil,b=>b
 | _,_,_,_,.cons h a,b=>.cons h (All2.app a b)
theorem GF.pushs{h:AH}{S T:Fp}{s:Sl}{i:Option Nat}{xs ys:List α}{rows':List (List AV)}{n:Nat}(v:GF E elem h S s i xs)(c:All2 (E.has h T) rows' ys)(hn:rows'.length=n)(h0:0<n)(no:NotO T i)(C:growOk P (xs.length+n) elem E.w=true) :
  ∃s' h',kv P s rows'.flatten n elem E.w h=some (s'.v,h')/\GF E elem h' (λj=>(Fp.or S T) j/\j<h.blks.size) s' (some h.blks.size) (xs++ys)/\UpdO h h' i:=by
 have Y:=kub C;have Z:=qbl c;have F:¬((Fp.or S T) h.blks.size/\h.blks.size<h.blks.size):=λk=>Nat.lt_irrefl _ k.2;cases i with
 | none =>
  obtain⟨_,e1,e2⟩:=v;subst e1;subst e2;rw[kfa (c:=0) rfl (by simpa using h0) (by simpa using C) (Cells.nil h E.w)];refine⟨_,_,rfl,⟨by simp at Y|-;omega,F,rfl,by simp;omega,rows',elem,?_,.inr ⟨rfl,rfl⟩,?_⟩,qm _ _⟩
  ·simpa using qo h rows'.flatten elem
  ·rw[List.nil_append];exact c.imp λ_ _ y=>E.grow (qm _ _) (E.mono (λj k=>⟨.inr k.1,k.2⟩) (E.bound y))
 | some k =>
  have sq:=v.sq;obtain⟨l,a,r,K,rows,e,b,Q,r2⟩:=v;have hr:=Ef.rows r2
  have U:Cells h s E.w rows.flatten:=by
   have X:=qr (n:=E.w) (m:=s.len) b (by rw[kef hr,qbl r2,K]);refine⟨?_,X.len,by rw[r];exact X.get⟩;rcases Q with c | c
   ·unfold Sl.fit;rw[c];exact qbp _
   ·unfold Sl.fit;rw[c.1]
  rw[<- K]at C;rcases Q with H | ⟨H,rfl⟩
  ·rw[kfa H (by omega) C U];refine⟨_,_,rfl,⟨by rw[qb0];omega,F,rfl,by rw[qb0];show s.len+n=_;omega,rows++rows',elem,?_,.inr ⟨rfl,rfl⟩,All2.app (r2.imp λ_ _ y=>?_) (c.imp λ_ _ y=>?_)⟩,(qm _ _).toUpd k⟩
   ·have:=qo h (rows.flatten++rows'.flatten) elem
    simpa using this
   ·exact E.grow (qm _ _) (E.mono (λj q=>⟨.inl q.1,q.2⟩) (E.bound y))
   ·exact E.grow (qm _ _) (E.mono (λj q=>⟨.inr q.1,q.2⟩) (E.bound y))
  ·have I:kv P s rows'.flatten n e E.w h=some (Sl.v ⟨some (.new h.blks.size 0),s.len+n,.opn E.w⟩,(h.kill s.ref).push (.cells (rows.flatten++rows'.flatten) e)):=by
    unfold kv;simp only[H]
    rw[show Nat.beq n 0=false from by
     cases hb:Nat.beq n 0 with
     | false=>rfl
     | true=>have:=Nat.eq_of_beq_eq_true hb;omega,show Nat.beq E.w E.w=true from Nat.beq_refl _]
    simp only[cond_false,C,Bool.and_true,cond_true,r,show h.blks[k]?=_ from b];have A:=U.gets;rw[r]at A;simp only[A,qbt];rw[show Nat.beq e e=true from Nat.beq_refl _,cond_true];have:(AH.kill h (some (Ref.new k 0))).blks.size=h.blks.size:=by simp[AH.kill]
    simp[AH.next,this,Sl.v];rfl
   rw[I,r];have sz:(h.kill (some (.new k 0))).blks.size=h.blks.size:=by simp[AH.kill]
   have u:Upd h (h.kill (some (.new k 0))) k:=AH.kill_Upd h k;refine⟨_,_,rfl,⟨by rw[qb0];omega,F,rfl,by rw[qb0];show s.len+n=_;omega,rows++rows',e,?_,.inr ⟨rfl,rfl⟩,All2.app (r2.imp λ_ _ y=>?_) (c.imp λ_ _ y=>?_)⟩,u.trans ((qm _ _).toUpd k)⟩
   ·have:=qo (h.kill (some (.new k 0))) (rows.flatten++rows'.flatten) e;rw[sz]at this
    simpa using this
   ·exact E.grow (qm _ _) (E.mono (λj q=>⟨.inl q.1,q.2⟩) (E.upd (λq=>a q.1) u (E.bound y)))
   ·exact E.grow (qm _ _) (E.mono (λj q=>⟨.inr q.1,q.2⟩) (E.upd (λq=>no q.1) u (E.bound y)))
theorem k1n(l:List AV):∀n:Nat,repC l n=(List.replicate n l).flatten
 | 0=>rfl
 | n+1=>by rw[List.replicate_succ,List.flatten_cons,<- k1n l n];rfl
theorem All2.rep{α β:Type}{R:α->β->Prop}{a:α}{b:β}(h:R a b):∀n:Nat,All2 R (List.replicate n a) (List.replicate n b)
 | 0=>.nil
 | n+1=>.cons h (All2.rep h n)
theorem GF.mk{h:AH}{S:Fp}{n bytes:Nat}{l c:Int}{cs:List AV}{x:α}(A:∀h',E.has h' S cs x)(no:¬S h.blks.size)(h1:l=(n:Int))(C:c=(n:Int))(F:n*bytes<=70368744177664)(H:n<=70368744177664) :
  ∃h',kby l c elem bytes cs h=some (⟨some (.new h.blks.size 0),n,.is n⟩,h')/\Grow h h'/\GF E elem h' S ⟨some (.new h.blks.size 0),n,.is n⟩ (some h.blks.size) (List.replicate n x):=by
 refine⟨_,kvh h1 C F H,qm _ _,?_⟩
 have b:AH.has (h.push (.cells (repC cs n) elem)) h.blks.size (List.replicate n cs).flatten elem:=by have:=qo h (repC cs n) elem;rw[k1n]at this|-;exact this
 exact GF.lit (e:=elem) b (All2.rep (A _) n) no (by simp) (by omega)
end Go.Ab
namespace Go.Heap
variable{α:Type}
def swapL(l:List α)(i j:Nat):List α:=match l[i]?,l[j]? with
 | some a,some b=>(l.set i b).set j a
 | _,_=>l
theorem kg5(l:List α)(i j:Nat):(swapL l i j).length=l.length:=by unfold swapL;split<;>simp
theorem kt4{l:List α}{i j:Nat}(hi:i<l.length)(A:j<l.length)(k:Nat):(swapL l i j)[k]?=if k=j then l[i]? else if k=i then l[j]? else l[k]?:=by
 unfold swapL;rw[List.getElem?_eq_getElem hi,List.getElem?_eq_getElem A];simp only[List.getElem?_set]
 grind
theorem ky5{l:List α}{i j:Nat}(hi:i<l.length)(A:j<l.length):(swapL l i j).Perm l:=by unfold swapL;rw[List.getElem?_eq_getElem hi,List.getElem?_eq_getElem A];exact List.set_set_perm hi A
variable(key:α->Int)
def at'(l:List α)(i:Nat):Int:=((l[i]?).map key).getD 0
def kidL(n i:Nat)(l:List α):Nat:=if 2*i+2<n/\at' key l (2*i+2)<at' key l (2*i+1)then 2*i+2 else 2*i+1
def downL(n:Nat):Nat->Nat->List α->List α
 | 0,_,l=>l
 | m+1,i,l=>if 2*i+1<n then if at' key l (kidL key n i l)<at' key l i then downL n m (kidL key n i l) (swapL l i (kidL key n i l))else l else l
theorem kse(n i:Nat)(l:List α):(kidL key n i l=2*i+2/\2*i+2<n/\at' key l (2*i+2)<at' key l (2*i+1))\/(kidL key n i l=2*i+1/\(2*i+2<n->at' key l (2*i+1)<=at' key l (2*i+2))):=by
 unfold kidL;split
 ·rename_i A;exact .inl ⟨rfl,A⟩
 ·rename_i A;refine .inr ⟨rfl,λC=>Int.not_lt.1 λF=>A ⟨C,F⟩⟩
theorem kxp{n i:Nat}{l:List α}(h:2*i+1<n):kidL key n i l<n:=by rcases kse key n i l with⟨e,h1,_⟩ | ⟨e,_⟩<;>omega
theorem kv5(n:Nat):∀(m i:Nat)(l:List α),(downL key n m i l).length=l.length
 | 0,_,_=>rfl
 | m+1,i,l=>by
  unfold downL;split
  ·split
   ·rw[kv5 n m,kg5]
   ·rfl
  ·rfl
theorem k0j{n:Nat}:∀(m i:Nat)(l:List α),n<=l.length->(downL key n m i l).Perm l
 | 0,_,_,_=>List.Perm.refl _
 | m+1,i,l,h=>by
  unfold downL;split
  ·rename_i h1;have:=kxp key (l:=l) h1;split
   ·exact(k0j m _ _ (by rw[kg5];exact h)).trans (ky5 (by omega) (by omega))
   ·exact List.Perm.refl _
  ·exact List.Perm.refl _
theorem k0s{n:Nat}:∀(m i:Nat)(l:List α),n<=l.length->∀k,n<=k->(downL key n m i l)[k]?=l[k]?
 | 0,_,_,_,_,_=>rfl
 | m+1,i,l,h,k,A=>by
  unfold downL;split
  ·rename_i h1;have:=kxp key (l:=l) h1;split
   ·rw[k0s m _ _ (by rw[kg5];exact h) k A,kt4 (by omega) (by omega),if_neg (by omega),if_neg (by omega)]
   ·rfl
  ·rfl
def IsHeap(n:Nat)(l:List α):Prop:=∀k,0<k->k<n->at' key l ((k-1)/2)<=at' key l k
def IsHole(n i:Nat)(l:List α):Prop:=(∀k,0<k->k<n->(k-1)/2≠i->at' key l ((k-1)/2)<=at' key l k)/\(0<i->∀k,0<k->k<n->(k-1)/2=i->at' key l ((i-1)/2)<=at' key l k)
theorem kkf{l:List α}{i j:Nat}(hi:i<l.length)(A:j<l.length)(k:Nat):at' key (swapL l i j) k=if k=j then at' key l i else if k=i then at' key l j else at' key l k:=by
 unfold at';rw[kt4 hi A];split
 ·rfl
 ·split<;>rfl
theorem kyt{n:Nat}:∀(m i:Nat)(l:List α),n<=l.length->n<=m+i->IsHole key n i l->IsHeap key n (downL key n m i l)
 | 0,i,l,h,hm,⟨h1,h2⟩=>λk A C=>h1 k A C (by omega)
 | m+1,i,l,h,hm,⟨h1,h2⟩=>by
  unfold downL;split
  ·rename_i hc;have F:=kse key n i l;generalize kidL key n i l=j at *
   have U:j<n:=by rcases F with⟨e,h,_⟩ | ⟨e,_⟩<;>omega
   have K:(j-1)/2=i:=by rcases F with⟨e,_⟩ | ⟨e,_⟩<;>omega
   have X:0<j:=by rcases F with⟨e,_⟩ | ⟨e,_⟩<;>omega
   have H:∀k,0<k->k<n->(k-1)/2=i->at' key l j<=at' key l k:=by
    intro k A C Q;have:k=2*i+1\/k=2*i+2:=by omega
    rcases F with⟨e,h3,h4⟩ | ⟨e,h3⟩
    ·rcases this with rfl | rfl
     ·rw[e];omega
     ·rw[e];omega
    ·rcases this with rfl | rfl
     ·rw[e];omega
     ·rw[e];exact h3 C
   split
   ·rename_i Y;refine kyt m j _ (by rw[kg5];exact h) (by omega) ⟨?_,?_⟩
    ·intro k A C Q;rw[kkf key (by omega) (by omega),kkf key (by omega) (by omega)];by_cases e1:k=j
     ·subst e1;rw[if_pos rfl,if_neg (by omega),if_pos K];omega
     ·rw[if_neg e1,if_neg Q];by_cases Z:k=i
      ·rw[if_pos Z,if_neg (by omega)];subst Z;exact h2 A j X U K
      ·rw[if_neg Z];by_cases I:(k-1)/2=i
       ·rw[if_pos I];exact H k A C I
       ·rw[if_neg I];exact h1 k A C I
    ·intro _ k A C Q;rw[kkf key (by omega) (by omega),kkf key (by omega) (by omega),K,if_neg (by omega),if_pos rfl,if_neg (by omega),if_neg (by omega)];have:=h1 k A C (by omega);rw[Q]at this;exact this
   ·rename_i Y;intro k A C;by_cases I:(k-1)/2=i
    ·rw[I];have:=H k A C I;omega
    ·exact h1 k A C I
  ·rename_i hc;intro k A C;exact h1 k A C (by omega)
theorem kbm8{n:Nat}{l:List α}(h:IsHeap key n l):∀k,k<n->at' key l 0<=at' key l k:=by
 intro k
 induction k using Nat.strongRecOn with
 | ind k ih =>
  intro A;by_cases C:k=0
  ·subst C;exact Int.le_refl _
  ·exact Int.le_trans (ih _ (by omega) (by omega)) (h k (by omega) A)
def popL(l:List α):List α:=(downL key (l.length-1) l.length 0 (swapL l 0 (l.length-1))).take (l.length-1)
theorem kbaw{l:List α}(h:IsHeap key l.length l){x:α}{W:List α}(Z:∀y∈W,key x<key y)(p:l.Perm (x::W)) :
  l[0]?=some x/\(downL key (l.length-1) l.length 0 (swapL l 0 (l.length-1)))[l.length-1]?=some x/\(popL key l).Perm W/\IsHeap key (popL key l).length (popL key l):=by
 have hl:l.length=W.length+1:=by rw[p.length_eq];rfl
 have h0:0<l.length:=by omega
 have Y:l[0]?=some x:=by
  obtain⟨k,I,e⟩:=List.getElem_of_mem (p.mem_iff.2 (List.mem_cons_self (a:=x) (l:=W)));have K:=kbm8 key h k I;have m0:=p.mem_iff.1 (List.getElem_mem h0);unfold at' at K;rw[List.getElem?_eq_getElem h0,List.getElem?_eq_getElem I]at K;simp only[Option.map_some,Option.getD_some,e]at K;rcases List.mem_cons.1 m0 with Q | Q
  ·rw[List.getElem?_eq_getElem h0,Q]
  ·have:=Z _ Q;omega
 generalize hn:l.length-1=n at *
 have C:n<l.length:=by omega
 have hs:=kg5 l 0 n
 have H:(downL key n l.length 0 (swapL l 0 n))[n]?=some x:=by rw[k0s key _ _ _ (by omega) n (Nat.le_refl _),kt4 h0 C,if_pos rfl,Y]
 have hd:=kv5 key n l.length 0 (swapL l 0 n);have pd:(downL key n l.length 0 (swapL l 0 n)).Perm l:=(k0j key _ _ _ (by omega)).trans (ky5 h0 C)
 have hh:IsHeap key n (downL key n l.length 0 (swapL l 0 n)):=by refine kyt key _ _ _ (by omega) (by omega) ⟨?_,λh=>absurd h (Nat.lt_irrefl _)⟩;intro k U X I;rw[kkf key h0 C,kkf key h0 C,if_neg (by omega),if_neg I,if_neg (by omega),if_neg (by omega)];exact h k U (by omega)
 have A:popL key l=(downL key n l.length 0 (swapL l 0 n)).take n:=by unfold popL;rw[hn]
 refine⟨Y,H,?_,?_⟩
 ·rw[A];have F:(downL key n l.length 0 (swapL l 0 n)).length=n+1:=by omega
  generalize downL key n l.length 0 (swapL l 0 n)=d at *
  have:d=d.take n++[x]:=by
   have h1:n<d.length:=by omega
   rw[List.getElem?_eq_getElem h1]at H;have H:d[n]=x:=by simpa using H
   rw[<- H,List.take_append_getElem h1,List.take_of_length_le (by omega)]
  have p2:(d.take n++[x]).Perm (x::W):=by rw[<- this];exact pd.trans p
  exact(List.perm_append_singleton x (d.take n)).symm.trans p2 |>.cons_inv
 ·have F:(popL key l).length=n:=by rw[A,List.length_take];omega
  rw[F];intro k U X;have:=hh k U X;rw[A];unfold at' at this|-;rw[List.getElem?_take,List.getElem?_take,if_pos X,if_pos (by omega)];exact this
theorem k4k{l:List α}(h:IsHeap key l.length l){y:α}(F:∀x∈l,key x<=key y):IsHeap key (l++[y]).length (l++[y]):=by
 intro k H I;rw[List.length_append,List.length_singleton]at I;have A:(k-1)/2<l.length:=by omega
 unfold at';rw[List.getElem?_append_left A];by_cases C:k<l.length
 ·rw[List.getElem?_append_left C];exact h k H C
 ·obtain rfl:k=l.length:=by omega
  rw[List.getElem?_append_right (Nat.le_refl _),List.getElem?_eq_getElem A];simp only[Nat.sub_self,List.getElem?_cons_zero,Option.map_some,Option.getD_some];exact F _ (List.getElem_mem A)
end Go.Heap
set_option maxRecDepth 10000
namespace Go.Ab
open Go.Proofs Go.Num
abbrev Fr3:=Bool×List Nat×List Nat
theorem ksl{n:Nat}(h:n<=1000000):growOk Pg n T.int 1=true:=by
 unfold growOk;rw[kwg,kks];have h1:n*8<=ks:=by simp only[ks];omega
 have A:n<=ks:=by simp only[ks];omega
 simp[h1,A]
structure Off(h:AH)(t:Sl)(xs:List Nat)(iB iO:Nat)(oi:Option Nat):Prop where
 n:Nats h t xs
 b:Av t iB xs
 o:Av t iO xs
 g:AvO t xs oi
theorem Off.grow{h h':AH}{t:Sl}{xs:List Nat}{iB iO:Nat}{oi:Option Nat}(x:Off h t xs iB iO oi)(g:Grow h h'):Off h' t xs iB iO oi:=⟨x.n.grow g,x.b,x.o,x.g⟩
theorem Off.updB{h h':AH}{t:Sl}{xs:List Nat}{iB iO:Nat}{oi:Option Nat}(x:Off h t xs iB iO oi)(u:Upd h h' iB):Off h' t xs iB iO oi:=⟨x.n.upda x.b u,x.b,x.o,x.g⟩
theorem Off.updO{h h':AH}{t:Sl}{xs:List Nat}{iB iO:Nat}{oi:Option Nat}(x:Off h t xs iB iO oi)(u:Upd h h' iO):Off h' t xs iB iO oi:=⟨x.n.upda x.o u,x.b,x.o,x.g⟩
theorem Off.updG{h h':AH}{t:Sl}{xs:List Nat}{iB iO:Nat}{oi:Option Nat}(x:Off h t xs iB iO oi)(u:UpdO h h' oi):Off h' t xs iB iO oi:=⟨x.n.updo x.g u,x.b,x.o,x.g⟩
theorem Off.anew{h:AH}{t:Sl}{xs:List Nat}{iB iO:Nat}{oi:Option Nat}(x:Off h t xs iB iO oi){k:Nat}{h0:AH}(A:Nats h0 t xs)(C:h0.blks.size<=k):Off h t xs iB iO (some k):=⟨x.n,x.b,x.o,qbi A C⟩
structure BestAt(h0 h:AH)(iA iB iO:Nat)(oi:Option Nat)(G N:Int)(st:List Int×Fr3):Prop where
 grow:Grow h0 h
 hA:h.has iA [.i G,.i N] kw
 best:∃t1 t2:Sl,h.has iB [.bool st.2.1,t1.v,t2.v] ky/\Off h t1 st.2.2.1 iB iO oi/\Off h t2 st.2.2.2 iB iO oi
 outs:∃s:Sl,h.has iO [s.v] kbx/\GF (Ef.int .i64) T.int h Fp.no s oi st.1
 ab:iA≠iB
 ao:iA≠iO
 bo:iB≠iO
 na:NeO iA oi
 nb:NeO iB oi
 no:NeO iO oi
 la:h0.blks.size<=iA
 lb:h0.blks.size<=iB
 lo:h0.blks.size<=iO
 lg:LeO h0.blks.size oi
theorem GF.toNo{k:IntKind}{elem:TypeId}{h:AH}{S:Fp}{s:Sl}:∀{i:Option Nat}{xs:List Int},GF (Ef.int k) elem h S s i xs->GF (Ef.int k) elem h Fp.no s i xs
 | .none,_,v=>v
 | .some _,_,⟨l,a,r,ln,rows,e,b,c,r2⟩=>⟨l,id,r,ln,rows,e,b,c,r2.imp λ_ _ x=>x⟩
def askF(i:Int)(g:Fr3)(st:List Int×Fr3):List Int×Fr3 :=
 if kfz g.1 g.2.1 g.2.2 st.2.1 st.2.2.1 st.2.2.2>0 then([i],g)
 else if kfz g.1 g.2.1 g.2.2 st.2.1 st.2.2.1 st.2.2.2=0/\st.1.length>0 then(st.1++[i],st.2)else st
theorem ask_is{h0 h:AH}{iA iB iO:Nat}{oi:Option Nat}{G N:Int}{st:List Int×Fr3}(e:BestAt h0 h iA iB iO oi G N st)(aq:st.1.length<=100000){g:Fr3}{u1 u2:Sl}(o1:Off h u1 g.2.1 iB iO oi)(o2:Off h u2 g.2.2 iB iO oi)(i:Int) :
  Runs (go (.fn kfq [.i i,.agg [.bool g.1,u1.v,u2.v],.p (.new iB 0),.p (.new iO 0)]) h) λv h'=>v=.tup []/\∃af,BestAt h0 h' iA iB iO af G N (askF i g st):=by
 obtain⟨t1,t2,bB,x1,x2⟩:=e.best;obtain⟨s,bO,gf⟩:=e.outs;rw[kbky];refine q0 λh7 b7 Z=>?_;refine qz (b7.rd 0 (f:=AV.asBool) rfl rfl) (qz (b7.rd 1 (f:=AV.asSl) rfl qco) (qz (b7.rd 2 (f:=AV.asSl) rfl qco) ?_));have cB:=Z.has bB;refine qz (cB.rd 0 (f:=AV.asBool) rfl rfl) (qz (cB.rd 1 (f:=AV.asSl) rfl qco) (qz (cB.rd 2 (f:=AV.asSl) rfl qco) ?_));obtain⟨_,C,ag,rfl,Y⟩:=k8f (o1.n.grow Z) (o2.n.grow Z) (x1.n.grow Z) (x2.n.grow Z) g.1 st.2.1;refine qz ag (qz (seen qcp) ?_);dsimp only;have A:=Z.trans Y;have G0:=e.grow.trans A;have dB:=Y.has cB;have dO:=A.has bO;have dA:=A.has e.hA;have lB:iB<h.blks.size:=bB.lt;have lO:iO<h.blks.size:=bO.lt;have lA:iA<h.blks.size:=e.hA.lt;have sz:=A.size;refine qbd (λk=>?_) (λk=>?_)
 ·
  rw[qbw]at k;have e7:=Y.has b7;refine qz (e7.rd 0 (f:=AV.asBool) rfl rfl) (qz (e7.rd 1 (f:=AV.asSl) rfl qco) (qz (e7.rd 2 (f:=AV.asSl) rfl qco) ?_));refine q0 λah aa F=>?_;refine qbe (F.same e7 0 3) ?_;have ar:C.blks.size<ah.blks.size:=aa.lt;refine qba (F.has dO) rfl λau ai I=>?_;have f7:=(F.has e7).updr (i:=iO) (by omega) I;refine qbe (kwm (F.has e7) f7 0 3) ?_;have fB:=(F.has dB).updr (i:=iO) e.bo I;refine qba fB rfl λaj ak Q=>?_;refine qy ⟨rfl,some C.blks.size,?_⟩;have ea:askF i g st=([i],g):=by unfold askF;rw[if_pos k]
  rw[ea]
  have up:∀{t:Sl}{xs:List Nat},Off h t xs iB iO oi->Off aj t xs iB iO (some C.blks.size):=λx =>((((x.anew x.n (by omega)).grow A).grow F).updO I).updB Q
  refine⟨?_,?_,⟨u1,u2,ak,up o1,up o2⟩,⟨_,ai.updr (λe'=>e.bo e'.symm) Q,?_⟩,e.ab,e.ao,e.bo,?_,?_,?_,e.la,e.lb,e.lo,?_⟩
  ·exact((G0.trans F).updr e.lo I).updr e.lb Q
  ·exact((F.has dA).updr e.ao I).updr e.ab Q
  ·have ac:=(aa.updr (i:=iO) (by omega) I).updr (i:=iB) (by omega) Q;exact GF.one ac rfl id
  ·show iA≠C.blks.size;omega
  ·show iB≠C.blks.size;omega
  ·show iO≠C.blks.size;omega
  ·exact G0.size
 ·rw[qbv]at k
  have same:askF i g st=st->BestAt h0 C iA iB iO oi G N (askF i g st):=λhs=>by rw[hs];exact⟨G0,dA,⟨t1,t2,dB,x1.grow A,x2.grow A⟩,⟨s,dO,gf.grow A⟩,e.ab,e.ao,e.bo,e.na,e.nb,e.no,e.la,e.lb,e.lo,e.lg⟩
  refine qbd (λk0=>?_) (λk0=>?_)
  ·rw[qbw]at k0;refine qz (dO.rd0 (f:=AV.asSl) rfl qco) ?_;rw[gf.len];refine qbd (λkl=>?_) (λkl=>?_)
   ·rw[qbw]at kl;refine qz (dO.rd0 (f:=AV.asSl) rfl qco) ?_;refine q0 λK ad H=>?_;refine qz (kcc (n:=1) ad (by rw[kew];rfl)) ?_;obtain⟨s',al,am,ae,U⟩:=((gf.grow A).grow H).push (P:=Pg) (T:=Fp.no) (cs:=[.i i]) (x:=i) rfl qbn (ksl (by omega));refine qz am (qz (seen qco) ?_);dsimp only;have aw:=A.trans H;have ax:C.blks.size<K.blks.size:=ad.lt;have hO:=(H.has dO).updo e.no U;refine qba hO rfl λan ap X=>?_;refine qy ⟨rfl,some K.blks.size,?_⟩
    have ea:askF i g st=(st.1++[i],st.2):=by unfold askF;rw[if_neg k,if_pos ⟨k0,by omega⟩]
    rw[ea]
    have up:∀{t:Sl}{xs:List Nat},Off h t xs iB iO oi->Off an t xs iB iO (some K.blks.size):=λx =>(((((x.grow A).grow H).updG U).anew x.n (by omega)).updO X)
    have Gu:Grow h0 al:=(G0.trans H).updo e.lg U;refine⟨Gu.updr e.lo X,((H.has dA).updo e.na U).updr e.ao X,⟨t1,t2,((H.has dB).updo e.nb U).updr e.bo X,up x1,up x2⟩,⟨s',ap,?_⟩,e.ab,e.ao,e.bo,?_,?_,?_,e.la,e.lb,e.lo,?_⟩
    ·refine(ae.toNo).upd X id λk hk=>?_;cases hk;omega
    ·show iA≠K.blks.size;omega
    ·show iB≠K.blks.size;omega
    ·show iO≠K.blks.size;omega
    ·exact(G0.trans H).size
   ·rw[qbv]at kl;refine qy ⟨rfl,oi,same ?_⟩;unfold askF;rw[if_neg k,if_neg (λh=>kl (by omega))]
  ·rw[qbv]at k0;refine qy ⟨rfl,oi,same ?_⟩;unfold askF;rw[if_neg k,if_neg (λh=>k0 h.1)]
abbrev Fr3.of(g:Frc):Fr3:=(g.1,g.2.1,g.2.2.1)
def kdb(l G N:Int)(x:Int×Int)(i:Int)(st:List Int×Fr3):List Int×Fr3:=if x.2>0/\x.2<N then askF i (Fr3.of (gainF l x.1 x.2 G N)) st else st
def bestGo(l G N:Int):List (Int×Int)->Int->List Int×Fr3->List Int×Int
 | [],_,st=>(st.1,0)
 | x::xs,i,st=>if(gainF l x.1 x.2 G N).2.2.2=0 then bestGo l G N xs (i+1) (kdb l G N x i st)else([],1)
abbrev E2:Ef (Int×Int):=Ef.pair (Ef.int .i64) (Ef.int .i64)
def IntsP(h0:AH)(r:List Int×Int)(v:AV)(h':AH):Prop:=∃s1:Sl,v=.tup [s1.v,.i r.2]/\Sq (Ef.int .i64) h' Fp.all s1 r.1/\Grow h0 h'
theorem BestAt.more{h0 h h':AH}{iA iB iO:Nat}{oi:Option Nat}{G N:Int}{st:List Int×Fr3}(e:BestAt h0 h iA iB iO oi G N st)(g:Grow h h'):BestAt h0 h' iA iB iO oi G N st:=by obtain⟨t1,t2,A,x1,x2⟩:=e.best;obtain⟨s,C,F⟩:=e.outs;exact⟨e.grow.trans g,g.has e.hA,⟨t1,t2,g.has A,x1.grow g,x2.grow g⟩,⟨s,g.has C,F.grow g⟩,e.ab,e.ao,e.bo,e.na,e.nb,e.no,e.la,e.lb,e.lo,e.lg⟩
theorem kbja(i:Int)(g:Fr3)(st:List Int×Fr3):(askF i g st).1.length<=st.1.length+1:=by
 unfold askF;split
 ·simp
 ·split
  ·simp
  ·simp
theorem E2_at{h:AH}{S:Fp}{s:Sl}{xs:List (Int×Int)}(n:Sq E2 h S s xs){i:Nat}(hi:i<xs.length):∃r:Ref,idx s.ref s.len (i:Int) 2=some r/\h.cell (r.add 0)=some (.i xs[i].1)/\h.cell (r.add 1)=some (.i xs[i].2):=by obtain⟨r,cs,C,F,A⟩:=n.at (i:=(i:Int)) (kh8 hi);obtain⟨H,I,rfl,rfl,rfl⟩:=F;rw[n.len];exact⟨r,C,A.at' 0 _ rfl,A.at' 1 _ rfl⟩
theorem kbku{h0:AH}{iA iB iO:Nat}{l G N:Int}{s:Sl}{xs:List (Int×Int)}(n0:Sq E2 h0 Fp.all s xs)(ak:xs.length<=16384):∀(k i:Nat),i+k=xs.length->∀{h:AH}{oi:Option Nat}{st:List Int×Fr3},BestAt h0 h iA iB iO oi G N st->st.1.length<=i->
  Runs (go (.pt kfg khr [(0,.i l),(6,.p (.new iA 0)),(10,.p (.new iO 0)),(13,.func (.func kfq) [] [.p (.new iB 0),.p (.new iO 0)]),(47,s.v),(48,.i (xs.length:Int)),(49,.i (i:Int))]) h) (IntsP h0 (bestGo l G N (xs.drop i) (i:Int) st)):=by
 intro k
 induction k with
 | zero =>
  intro i hi h oi st e hl;rw[k4i];obtain⟨t,bO,gf⟩:=e.outs;refine qbc (by rw[qbv];omega) ?_;refine qz (bO.rd0 (f:=AV.asSl) rfl qco) ?_;rw[List.drop_of_length_le (by omega)];exact qy ⟨t,rfl,gf.sq.mono λ_ _=>trivial,e.grow⟩
 | succ k ih =>
  intro i hi h oi st e hl;have hx:i<xs.length:=by omega
  rw[k4i];refine qbb (by rw[qbw];omega) ?_;obtain⟨r,e1,c0,c1⟩:=E2_at (n0.grow e.grow) hx;refine qz e1 (qz (rdc c0 qcp) (qz (rdc c1 qcp) ?_));refine q0 λal ad ae=>?_;refine qba ad rfl λH I af=>?_;have K:Grow h H:=ae.updr (qbp _) af;refine qz (I.rd 0 (f:=AV.asInt .i64) rfl qcp) (qz (I.rd 1 (f:=AV.asInt .i64) rfl qcp) ?_);have U:=K.has e.hA;refine qz (U.rd 0 (f:=AV.asInt .i64) rfl qcp) (qz (U.rd 1 (f:=AV.asInt .i64) rfl qcp) ?_);obtain⟨_,X,ag,u1,u2,rfl,n1,n2,Y,w1,w2⟩:=kbcy (h:=H) l xs[i].1 xs[i].2 G N;refine qz ag (qz rfl (qz rfl ?_));refine qbb rfl ?_;refine qz rfl (qz qco (qz qco (qz (seen qcp) ?_)));dsimp only;refine q0 λam ah Z=>?_;refine qba ah rfl λA Q aa=>?_;have F:Grow X A:=Z.updr (qbp _) aa;have C:Grow h A:=(K.trans Y).trans F;rw[qcg hx];rcases k7z l xs[i].1 xs[i].2 G N with er | er
  ·rw[er];refine qbc rfl ?_
   have ai:bestGo l G N (xs[i]::xs.drop (i+1)) (i:Int) st=bestGo l G N (xs.drop (i+1)) ((i+1:Nat):Int) (kdb l G N xs[i] (i:Int) st):=by rw[bestGo,if_pos er];rfl
   rw[ai,kj (by omega)];have ac:=(Y.trans F).has I
   have skip:¬(xs[i].2>0/\xs[i].2<N)->Runs (go (.pt kfg khr [(0,.i l),(6,.p (.new iA 0)),(10,.p (.new iO 0)),(13,.func (.func kfq) [] [.p (.new iB 0),.p (.new iO 0)]),(47,s.v),(48,.i (xs.length:Int)),(49,.i ((i+1:Nat):Int))]) A) (IntsP h0 (bestGo l G N (xs.drop (i+1)) ((i+1:Nat):Int) (kdb l G N xs[i] (i:Int) st))):=λhn=>by unfold kdb;rw[if_neg hn];exact ih (i+1) (by omega) (e.more C) (by omega)
   refine qz (ac.rd 1 (f:=AV.asInt .i64) rfl qcp) ?_;refine qbd (λk1=>?_) (λk1=>?_)
   ·rw[qbw]at k1;refine qz (ac.rd 1 (f:=AV.asInt .i64) rfl qcp) (qz ((C.has e.hA).rd 1 (f:=AV.asInt .i64) rfl qcp) ?_);refine qbd (λk2=>?_) (λk2=>?_)
    ·rw[qbw]at k2;refine qz (Q.rd 0 (f:=AV.asBool) rfl rfl) (qz (Q.rd 1 (f:=AV.asSl) rfl qco) (qz (Q.rd 2 (f:=AV.asSl) rfl qco) ?_));obtain⟨t1,t2,bB,x1,x2⟩:=e.best;obtain⟨so,bO,gf⟩:=e.outs;have lB:=bB.lt;have lO:=bO.lt;have sz:=K.size
     have off:∀{u:Sl}{ys:List Nat},Nats X u ys->Own H u->Off A u ys iB iO oi:=λnn ww =>
      ⟨(nn.grow Z).upda (qbi nn (qbp _)) aa,qbj ww (by omega),qbj ww (by omega),AvO.of_own ww (by
       have:=gf.lt;revert this;cases oi with
       | none=>exactλ_=>trivial
       | some q=>exactλhq=>qbr hq sz)⟩
     obtain⟨_,an,aj,rfl,ap,e'⟩:=ask_is (g:=Fr3.of (gainF l xs[i].1 xs[i].2 G N)) (e.more C) (by omega) (off n1 w1) (off n2 w2) (i:Int);refine qz aj (qz rfl ?_)
     have hs:kdb l G N xs[i] (i:Int) st=askF (i:Int) (Fr3.of (gainF l xs[i].1 xs[i].2 G N)) st:=by unfold kdb;rw[if_pos ⟨k1,k2⟩]
     rw[hs];exact ih (i+1) (by omega) e' (qbq (kbja _ _ _) (by omega))
    ·rw[qbv]at k2;exact skip λhh=>k2 hh.2
   ·rw[qbv]at k1;exact skip λhh=>k1 hh.1
  ·rw[er];refine qbb rfl ?_;rw[bestGo,if_neg (by rw[er];decide)];exact qy ⟨⟨none,0,.is 0⟩,rfl,Sq.nil _ _ _,e.grow.trans C⟩
def gammaF(γ:Int):Fr3:=Fr3.of (kbd (ofI γ).1 (ofI γ).2 [1])
def bestF(l γ G N:Int)(xs:List (Int×Int)):List Int×Int:=cond (!kbh G N) ([],1) (cond (!kbm l) ([],1) (cond (decide (γ<0)) ([],1) (cond (decide (γ>1048576)) ([],1) (cond (decide ((xs.length:Int)>16384)) ([],1) (bestGo l G N xs 0 ([],gammaF γ))))))
theorem k63{h:AH}{s:Sl}{xs:List (Int×Int)}(n:Sq E2 h Fp.all s xs)(l γ G N:Int):Runs (go (.fn kfg [.i l,.i γ,.agg [.i G,.i N],s.v]) h) (IntsP h (bestF l γ G N xs)):=by
 have A:∀{h':AH},Grow h h'->bestF l γ G N xs=([],1)->Runs (some (.tup [nV,.i 1],h')) (IntsP h (bestF l γ G N xs)):=λg e=>by rw[e];exact qy ⟨⟨none,0,.is 0⟩,rfl,Sq.nil _ _ _,g⟩
 rw[kbc3];refine q0 λh6 b6 g6=>?_;refine qz (b6.rd 0 (f:=AV.asInt .i64) rfl qcp) (qz (b6.rd 1 (f:=AV.asInt .i64) rfl qcp) ?_);obtain⟨_,h9,e9,rfl,g9⟩:=km8 (h:=h6) G N;refine qz e9 (qz (seen rfl) ?_);refine qbd (λH=>?_) (λH=>?_)
 ·exact A (g6.trans g9) (by unfold bestF;rw[H];rfl)
 obtain⟨_,I,aj,rfl,K⟩:=ks0 (h:=h9) l;refine qz aj (qz (seen rfl) ?_);have C:=(g6.trans g9).trans K;refine qbd (λX=>?_) (λX=>?_)
 ·exact A C (by unfold bestF;rw[H,cond_false,X];rfl)
 refine qbd (λY=>?_) (λY=>?_)
 ·exact A C (by unfold bestF;rw[H,cond_false,X,cond_false,Y];rfl)
 refine qbd (λZ=>?_) (λZ=>?_)
 ·exact A C (by unfold bestF;rw[H,cond_false,X,cond_false,Y,cond_false,Z];rfl)
 rw[n.len];refine qbd (λk5=>?_) (λk5=>?_)
 ·exact A C (by unfold bestF;rw[H,cond_false,X,cond_false,Y,cond_false,Z,cond_false,k5];rfl)
 have ef:bestF l γ G N xs=bestGo l G N xs 0 ([],gammaF γ):=by unfold bestF;rw[H,cond_false,X,cond_false,Y,cond_false,Z,cond_false,k5,cond_false]
 rw[ef];rw[qbv]at Y Z k5;dsimp only;refine q0 λaa ac ad=>?_;obtain⟨ak,al,am,an,ae,ax⟩:=kqb (h:=aa) γ (by omega);refine qz am (qz rfl ?_);refine qbb rfl ?_;refine qz rfl (qz qco ?_);dsimp only;refine q0 λaf ap Q=>?_;have n1:Nats af (⟨some (.new al.blks.size 0),1,.is 1⟩:Sl) [1]:=Nats.of_has (xs:=[1]) ap (by decide) (by simp);obtain⟨_,F,aq,u1,u2,rfl,m1,m2,ag,w1,w2⟩:=ks2 (an.grow Q) n1 (ofI γ).1;refine qz aq (qz rfl (qz rfl ?_));refine qbb rfl ?_;refine qz rfl (qz qco (qz qco (qz (seen qcp) ?_)));dsimp only;refine q0 λay ar ah=>?_;refine qba ar rfl λU au ai=>?_;have l6:h.blks.size<h6.blks.size:=b6.lt;have s9:=g9.size;have az:=K.size;have a0:I.blks.size<aa.blks.size:=ac.lt;have ak:=ae.size;have ba:=Q.size;have bb:=ag.size;have gU:Grow F U:=ah.updr (qbp _) ai
 have off:∀{u:Sl}{ys:List Nat},Nats F u ys->Own af u->Off U u ys F.blks.size I.blks.size none:=λnn ww =>⟨(nn.grow ah).upda (qbi nn (qbp _)) ai,qbi nn (qbp _),qbj ww (by omega),trivial⟩
 have gX:=((ae.trans Q).trans ag).trans gU
 have aw:BestAt h U h.blks.size F.blks.size I.blks.size none G N ([],gammaF γ):=by refine⟨(C.trans ad).trans gX,gX.has (ad.has ((g9.trans K).has b6)),⟨u1,u2,au,off m1 w1,off m2 w2⟩,⟨_,gX.has ac,GF.none _ _ _ _⟩,?_,?_,?_,trivial,trivial,trivial,?_,?_,?_,trivial⟩<;>omega
 have:=kbku n (by omega) (l:=l) (s:=s) xs.length 0 (by omega) aw (qbp _)
 simpa using this
structure RefAt(h0 h:AH)(iA iB:Nat)(oi:Option Nat)(so:Sl)(G N:Int)(st:List Int×Fr3):Prop where
 grow:Grow h0 h
 hA:h.has iA [.i G,.i N] kw
 best:∃t1 t2:Sl,h.has iB [.bool st.2.1,t1.v,t2.v] ky/\Off h t1 st.2.2.1 iB iB oi/\Off h t2 st.2.2.2 iB iB oi
 outs:GF (Ef.int .i64) T.int h Fp.no so oi st.1
 ab:iA≠iB
 na:NeO iA oi
 nb:NeO iB oi
 la:h0.blks.size<=iA
 lb:h0.blks.size<=iB
 lg:LeO h0.blks.size oi
theorem RefAt.more{h0 h h':AH}{iA iB:Nat}{oi:Option Nat}{so:Sl}{G N:Int}{st:List Int×Fr3}(e:RefAt h0 h iA iB oi so G N st)(g:Grow h h'):RefAt h0 h' iA iB oi so G N st:=by obtain⟨t1,t2,A,x1,x2⟩:=e.best;exact⟨e.grow.trans g,g.has e.hA,⟨t1,t2,g.has A,x1.grow g,x2.grow g⟩,e.outs.grow g,e.ab,e.na,e.nb,e.la,e.lb,e.lg⟩
theorem kbjr{h0:AH}{iA iB:Nat}{l G N:Int}{s:Sl}{xs:List (Int×Int)}(n0:Sq E2 h0 Fp.all s xs)(bj:xs.length<=16384)(ok:∀x∈xs,(kba x.1 x.2 G N).2.2=true)(hl:kbm l=true):∀(k i:Nat),i+k=xs.length->∀{h:AH}{oi:Option Nat}{so:Sl}{st:List Int×Fr3},RefAt h0 h iA iB oi so G N st->st.1.length<=i->
  Runs (go (.pt kcd kdr [(0,.i l),(3,s.v),(6,.p (.new iA 0)),(14,.p (.new iB 0)),(16,so.v),(17,.i (i:Int))]) h) (IntsP h0 (bestGo l G N (xs.drop i) (i:Int) st)):=by
 intro k
 induction k with
 | zero =>
  intro i hi h oi so st e aw;rw[kwv,n0.len];refine qbc (by rw[qbv];omega) ?_;rw[List.drop_of_length_le (by omega)];exact qy ⟨so,rfl,e.outs.sq.mono λ_ _=>trivial,e.grow⟩
 | succ k ih =>
  intro i hi h oi so st e aw;have hx:i<xs.length:=by omega
  have af:=ok xs[i] (qb3 _);have er:=k1r af hl;obtain⟨m1,m2,m3,-⟩:=kxs af;rw[kwv];refine qbb (by rw[qbw,n0.len];omega) ?_;have nh:=n0.grow e.grow;obtain⟨r,e1,c0,c1⟩:=E2_at nh hx;refine qz e1 (qz (rdc c1 qcp) ?_);rw[qcg hx]
  have ax:bestGo l G N (xs[i]::xs.drop (i+1)) (i:Int) st=bestGo l G N (xs.drop (i+1)) ((i+1:Nat):Int) (kdb l G N xs[i] (i:Int) st):=by rw[bestGo,if_pos er];rfl
  rw[ax,kj (by omega)]
  have skip:¬(xs[i].2>0/\xs[i].2<N)->Runs (go (.pt kcd kdr [(0,.i l),(3,s.v),(6,.p (.new iA 0)),(14,.p (.new iB 0)),(16,so.v),(17,.i ((i+1:Nat):Int))]) h) (IntsP h0 (bestGo l G N (xs.drop (i+1)) ((i+1:Nat):Int) (kdb l G N xs[i] (i:Int) st))):=λhn=>by unfold kdb;rw[if_neg hn];exact ih (i+1) (by omega) e (by omega)
  have hN:IntKind.wrap .i64 (N-xs[i].2)=N-xs[i].2:=by unfold kbh at m1 m2;simp at m1 m2;rw[IntKind.wrap_i64];omega
  refine qbd (λk1=>?_) (λk1=>?_)
  ·rw[qbw]at k1;exact skip λhh=>by omega
  rw[qbv]at k1;refine qz (e.hA.rd 1 (f:=AV.asInt .i64) rfl qcp) (qz e1 (qz (rdc c1 qcp) ?_));rw[hN];refine qbd (λk2=>?_) (λk2=>?_)
  ·rw[qbw]at k2;exact skip λhh=>by omega
  rw[qbv]at k2
  have hs:kdb l G N xs[i] (i:Int) st=askF (i:Int) (Fr3.of (gainF l xs[i].1 xs[i].2 G N)) st:=by unfold kdb;rw[if_pos ⟨by omega,by omega⟩]
  rw[hs];refine q0 λaa ac X=>?_;refine qz e1 (qz (rdc (X.cell_some c0) qcp) (qz (rdc (X.cell_some c1) qcp) ?_));have ag:=X.has e.hA;refine qz (ag.rd 0 (f:=AV.asInt .i64) rfl qcp) (qz (ag.rd 1 (f:=AV.asInt .i64) rfl qcp) ?_);obtain⟨_,ay,az,u1,u2,rfl,n1,n2,ad,w1,w2⟩:=k6h (h:=aa) l xs[i].1 xs[i].2 G N;refine qz az (qz rfl (qz rfl ?_));refine qbb rfl ?_;refine qz rfl (qz qco (qz qco (qz (seen qcp) ?_)));refine qbe (ad.same ac 0 0) ?_;have ah:h.blks.size<aa.blks.size:=ac.lt;refine qba (ad.has ac) rfl λai Y aj=>?_;have a0:=X.trans ad;have ak:Grow h ai:=a0.updr (qbp _) aj;have al:=e.more ak;refine qz (Y.rd 0 (f:=AV.asBool) rfl rfl) (qz (Y.rd 1 (f:=AV.asSl) rfl qco) (qz (Y.rd 2 (f:=AV.asSl) rfl qco) ?_));obtain⟨t1,t2,bB,x1,x2⟩:=al.best;obtain⟨_,_,ba,_,_⟩:=e.best;have lB:=ba.lt;refine qz (bB.rd 0 (f:=AV.asBool) rfl rfl) (qz (bB.rd 1 (f:=AV.asSl) rfl qco) (qz (bB.rd 2 (f:=AV.asSl) rfl qco) ?_))
  have off:∀{u:Sl}{ys:List Nat},Nats ay u ys->Own aa u->Off ai u ys iB iB oi:=λnn ww =>
   ⟨nn.upda (qbj ww ah) aj,qbj ww (by omega),qbj ww (by omega),AvO.of_own ww (by
    have:=e.outs.lt;revert this;cases oi with
    | none=>exactλ_=>trivial
    | some q=>exactλhq=>Nat.lt_trans hq ah)⟩
  have o1:=off n1 w1;have o2:=off n2 w2;obtain⟨_,bb,bc,rfl,H⟩:=kbft o1.n o2.n x1.n x2.n (gainF l xs[i].1 xs[i].2 G N).1 st.2.1;refine qz bc (qz (seen qcp) ?_);dsimp only;have A:=al.more H;rw[kbbl];have am:=H.has bB;have ae:=H.has Y;have bk:=ak.size;have bm:=H.size;refine qbd (λk=>?_) (λk=>?_)
  ·have kk:=k;rw[qbw]at k;have ea:askF (i:Int) (Fr3.of (gainF l xs[i].1 xs[i].2 G N)) st=([(i:Int)],Fr3.of (gainF l xs[i].1 xs[i].2 G N)):=by unfold askF;rw[if_pos k]
   rw[ea];refine qz (ae.rd 0 (f:=AV.asBool) rfl rfl) (qz (ae.rd 1 (f:=AV.asSl) rfl qco) (qz (ae.rd 2 (f:=AV.asSl) rfl qco) ?_));refine qba am rfl λbd be I=>?_;refine qbb kk ?_;refine q0 λF an K=>?_;refine qz (kcc (n:=1) an (by rw[kew];rfl)) ?_;obtain⟨s',bf,bg,ap,bh⟩:=(GF.none (Ef.int .i64) T.int F Fp.no).push (P:=Pg) (T:=Fp.no) (cs:=[.i (i:Int)]) (x:=(i:Int)) rfl qbn (ksl (by simp));refine qz bg (qz (seen qco) ?_);dsimp only;have bn:=I.size;have bp:bd.blks.size<F.blks.size:=an.lt;have C:Grow F bf:=bh;refine ih (i+1) (by omega) (oi:=some F.blks.size) (st:=([(i:Int)],Fr3.of (gainF l xs[i].1 xs[i].2 G N))) ⟨?_,?_,⟨u1,u2,?_,?_,?_⟩,ap.toNo,e.ab,?_,?_,e.la,e.lb,?_⟩ (by simp)
   ·exact((A.grow.updr e.lb I).trans K).trans C
   ·exact C.has (K.has (A.hA.updr e.ab I))
   ·exact C.has (K.has be)
   ·exact(((((o1.anew o1.n (by omega)).grow H).updB I).grow K).grow C)
   ·exact(((((o2.anew o2.n (by omega)).grow H).updB I).grow K).grow C)
   ·have:=A.hA.lt;show iA≠F.blks.size;omega
   ·show iB≠F.blks.size;omega
   ·have:=A.grow.size;show h0.blks.size<=F.blks.size;omega
  ·have kk:=k;rw[qbv]at k;refine qbc kk ?_;refine qbd (λk0=>?_) (λk0=>?_)
   ·rw[qbw]at k0;rw[A.outs.len];refine qbd (λkl=>?_) (λkl=>?_)
    ·rw[qbw]at kl
     have ea:askF (i:Int) (Fr3.of (gainF l xs[i].1 xs[i].2 G N)) st=(st.1++[(i:Int)],st.2):=by unfold askF;rw[if_neg k,if_pos ⟨k0,by omega⟩]
     rw[ea];refine q0 λZ aq ar=>?_;refine qz (kcc (n:=1) aq (by rw[kew];rfl)) ?_;obtain⟨s',bq,bi,au,Q⟩:=(A.outs.grow ar).push (P:=Pg) (T:=Fp.no) (cs:=[.i (i:Int)]) (x:=(i:Int)) rfl qbn (ksl (by omega));refine qz bi (qz (seen qco) ?_);dsimp only;have br:bb.blks.size<Z.blks.size:=aq.lt;have U:=A.more ar;obtain⟨y1,y2,bC,z1,z2⟩:=U.best;refine ih (i+1) (by omega) (oi:=some Z.blks.size) (st:=(st.1++[(i:Int)],st.2)) ⟨U.grow.updo e.lg Q,U.hA.updo e.na Q,⟨y1,y2,bC.updo e.nb Q,(z1.updG Q).anew z1.n (qbp _),(z2.updG Q).anew z2.n (qbp _)⟩,au.toNo,e.ab,?_,?_,e.la,e.lb,U.grow.size⟩ (by simp;omega)
     ·have:=U.hA.lt;show iA≠Z.blks.size;omega
     ·have:=bC.lt;show iB≠Z.blks.size;omega
    ·rw[qbv]at kl
     have ea:askF (i:Int) (Fr3.of (gainF l xs[i].1 xs[i].2 G N)) st=st:=by unfold askF;rw[if_neg k,if_neg (λh=>kl (by omega))]
     rw[ea];exact ih (i+1) (by omega) A (by omega)
   ·rw[qbv]at k0
    have ea:askF (i:Int) (Fr3.of (gainF l xs[i].1 xs[i].2 G N)) st=st:=by unfold askF;rw[if_neg k,if_neg (λh=>k0 h.1)]
    rw[ea];exact ih (i+1) (by omega) A (by omega)
theorem kv9(l G N:Int):∀(xs:List (Int×Int))(i:Int)(st:List Int×Fr3),(∃x∈xs,(kba x.1 x.2 G N).2.2=false)->bestGo l G N xs i st=([],1)
 | [],_,_,⟨_,h,_⟩=>by cases h
 | x::xs,i,st,⟨y,A,C⟩=>by
  rw[bestGo];by_cases F:(gainF l x.1 x.2 G N).2.2.2=0
  ·rw[if_pos F];rcases qb6.1 A with rfl | A
   ·rw[(k5k F).1]at C;cases C
   ·exact kv9 l G N xs _ _ ⟨y,A,C⟩
  ·rw[if_neg F]
theorem kbgq:(ofI 1).2=[1]:=by decide +kernel
theorem kbeq{h0:AH}{iA:Nat}{l γ G N:Int}{s:Sl}{xs:List (Int×Int)}(n0:Sq E2 h0 Fp.all s xs)(K:xs.length<=16384)(hl:kbm l=true)(hγ:0<=γ/\γ<=1048576):∀(k i:Nat),i+k=xs.length->∀{h:AH},Grow h0 h->h0.blks.size<=iA->h.has iA [.i G,.i N] kw->(∀x∈xs.take i,(kba x.1 x.2 G N).2.2=true)->
  Runs (go (.pt kcd kod [(0,.i l),(1,.i γ),(3,s.v),(6,.p (.new iA 0)),(11,.i (i:Int))]) h) (IntsP h0 (bestGo l G N xs 0 ([],gammaF γ))):=by
 intro k
 induction k with
 | zero =>
  intro i hi h g lA hA ok;rw[k1e,n0.len];refine qbc (by rw[qbv];omega) ?_;rw[List.take_of_length_le (by omega)]at ok;obtain⟨an,ac,ad,ae,Q,ap⟩:=kho (h:=h) γ (by omega);refine qz ad (qz rfl ?_);refine qbb rfl ?_;refine qz rfl (qz qco ?_);obtain⟨aq,ar,af,U,C,au⟩:=kho (h:=ac) 1 (by omega);refine qz af (qz rfl ?_);refine qbb rfl ?_;refine qz rfl (qz qco ?_);rw[kbgq]at U;obtain⟨_,A,ag,u1,u2,rfl,m1,m2,X,w1,w2⟩:=kuc (ae.grow C) U (ofI γ).1;refine qz ag (qz rfl (qz rfl ?_));refine qbb rfl ?_;refine qz rfl (qz qco (qz qco (qz (seen qcp) ?_)));dsimp only;refine q0 λaw ah Y=>?_;refine qba ah rfl λF ai Z=>?_;have gU:Grow A F:=Y.updr (qbp _) Z;have gX:=((Q.trans C).trans X).trans gU;have sz:h.blks.size<=A.blks.size:=((Q.trans C).trans X).size;have ax:=hA.lt
  have off:∀{u:Sl}{ys:List Nat},Nats A u ys->Off F u ys A.blks.size A.blks.size none:=λnn =>⟨(nn.grow Y).upda (qbi nn (qbp _)) Z,qbi nn (qbp _),qbi nn (qbp _),trivial⟩
  have gs:=g.size
  have aj:RefAt h0 F iA A.blks.size none ⟨none,0,.is 0⟩ G N ([],gammaF γ):=⟨g.trans gX,gX.has hA,⟨u1,u2,ai,off m1,off m2⟩,GF.none _ _ _ _,by omega,trivial,trivial,lA,by omega,trivial⟩
  have:=kbjr n0 K ok hl xs.length 0 (by omega) aj (qbp _)
  simpa using this
 | succ k ih =>
  intro i hi h g lA hA ok;have hx:i<xs.length:=by omega
  rw[k1e];refine qbb (by rw[qbw,n0.len];omega) ?_;refine q0 λh6 b6 g6=>?_;obtain⟨r,e1,c0,c1⟩:=E2_at (n0.grow g) hx;refine qz e1 (qz (rdc (g6.cell_some c0) qcp) (qz (rdc (g6.cell_some c1) qcp) ?_));have a6:=g6.has hA;refine qz (a6.rd 0 (f:=AV.asInt .i64) rfl qcp) (qz (a6.rd 1 (f:=AV.asInt .i64) rfl qcp) ?_);obtain⟨_,ay,ak,rfl,H⟩:=kw3 (h:=h6) xs[i].1 xs[i].2 G N;refine qz ak (qz rfl (qz rfl ?_));refine qbb rfl ?_;refine qz rfl (qz rfl (qz (seen rfl) ?_));refine qbe (H.same b6 0 0) ?_;refine qba (H.has b6) rfl λal az am=>?_;have I:Grow h al:=(g6.trans H).updr (qbp _) am;refine qbd (λkk=>?_) (λkk=>?_)
  ·rw[kv9 l G N xs _ _ ⟨xs[i],qb3 _,by simpa using kk⟩];exact qy ⟨⟨none,0,.is 0⟩,rfl,Sq.nil _ _ _,g.trans I⟩
  ·rw[kj (by omega)];refine ih (i+1) (by omega) (g.trans I) lA (I.has hA) λx aa=>?_;rw[List.take_add_one,qb4 hx]at aa;rcases qb5.1 aa with h' | h'
   ·exact ok x h'
   ·simp at h';rw[h']
    simpa using kk
theorem k67{h:AH}{s:Sl}{xs:List (Int×Int)}(n:Sq E2 h Fp.all s xs)(l γ G N:Int):Runs (go (.fn kcd [.i l,.i γ,.agg [.i G,.i N],s.v]) h) (IntsP h (bestF l γ G N xs)):=by
 have A:∀{h':AH},Grow h h'->bestF l γ G N xs=([],1)->Runs (some (.tup [nV,.i 1],h')) (IntsP h (bestF l γ G N xs)):=λg e=>by rw[e];exact qy ⟨⟨none,0,.is 0⟩,rfl,Sq.nil _ _ _,g⟩
 have F:∀{c:Bool},kbm l=c->(c=false↔(l<1\/l>1048576)):=λe=>by
  rw[<- e];unfold kbm;by_cases h1:l>=1
  ·rw[qbx h1,cond_true,qbv];omega
  ·rw[qby h1,cond_false];simp;omega
 rw[kbcz];refine q0 λh6 X g6=>?_;refine qz (X.rd 0 (f:=AV.asInt .i64) rfl qcp) (qz (X.rd 1 (f:=AV.asInt .i64) rfl qcp) ?_);obtain⟨_,h9,e9,rfl,Z⟩:=knn (h:=h6) G N;refine qz e9 (qz (seen rfl) ?_);have H:=g6.trans Z;unfold bestF at A|-;refine qbd (λY=>?_) (λY=>?_)
 ·exact A H (by rw[Y];rfl)
 rw[Y]at A|-;rw[cond_false]at A|-
 have tail:∀{b:Bool}{x:List Int×Int},b=true->cond (!kbm l) ([],1) (cond b ([],1) x)=(([],1):List Int×Int):=λhb=>by rw[hb];cases kbm l<;>rfl
 refine qbd (λI=>?_) (λI=>?_)
 ·exact A H (by rw[I];cases kbm l<;>rfl)
 rw[I]at A|-;rw[cond_false]at A|-;refine qbd (λK=>?_) (λK=>?_)
 ·exact A H (by rw[K];cases kbm l<;>rfl)
 rw[K]at A|-;rw[cond_false]at A|-;refine qbd (λQ=>?_) (λQ=>?_)
 ·rw[qbw]at Q;exact A H (by rw[(F rfl).2 (.inl Q)];rfl)
 refine qbd (λC=>?_) (λC=>?_)
 ·rw[qbw]at C;exact A H (by rw[(F rfl).2 (.inr C)];rfl)
 rw[qbv]at Q C
 have hl:kbm l=true:=by
  cases hc:kbm l with
  | true=>rfl
  | false=>rcases(F hc).1 rfl with h' | h'<;>omega
 rw[hl]at A|-;rw[Bool.not_true,cond_false]at A|-;rw[n.len];refine qbd (λU=>?_) (λU=>?_)
 ·exact A H (by rw[U];rfl)
 rw[U,cond_false];rw[qbv]at I K U;exact kbeq n (by omega) hl (by omega) xs.length 0 (by omega) H (qbp _) (Z.has X) (λx hx=>by simp at hx)
end Go.Ab
set_option maxRecDepth 10000
namespace Go.Ab
open Go.Proofs
def idsR(l:List Int):Bool:=decide (l.length<=256)&&(!(l.any λx=>decide (x<0)||decide (x>1073741824))&&decide l.Nodup)
structure Tb where
 ids:List Int
 bins:List Int
 cols:List (List Int)
def colR(t:Tb)(i:Nat):Bool:=!decide (t.bins.getD i 0<2)&&!decide (t.bins.getD i 0>32)&&decide ((t.cols.getD i []).length=t.ids.length)&&!((t.cols.getD i []).any λx=>decide (x<0)||decide (x>=t.bins.getD i 0))
def tabR(t:Tb):Bool:=idsR t.ids&&!decide (t.cols.length>16)&&decide (t.bins.length=t.cols.length)&&(List.range t.cols.length).all (colR t)
structure TabAt(h:AH)(S:Fp)(s1 s2 s3:Sl)(t:Tb):Prop where
 ids:Sq EI h S s1 t.ids
 bins:Sq EI h S s2 t.bins
 cols:Sq (Ef.seq EI) h S s3 t.cols
theorem TabAt.grow{h h':AH}{S:Fp}{s1 s2 s3:Sl}{t:Tb}(n:TabAt h S s1 s2 s3 t)(g:Grow h h'):TabAt h' S s1 s2 s3 t:=⟨n.ids.grow g,n.bins.grow g,n.cols.grow g⟩
section
variable{h0:AH}{S:Fp}{s:Sl}{xs:List Int}
theorem kbem(n:Sq EI h0 S s xs):Runs (go (.fn keg [s.v,.func (.func kek) [] []]) h0) λv h'=>v=.bool (xs.any λx=>decide (x<0)||decide (x>1073741824))/\Grow h0 h':=by
 rw[kbh1];refine Runs.contains (xs:=xs) ?_;rw[kbe0,n.len];refine ko0 (n:=xs.length) (G:=λz h=>go (.pt kbz kcy [(0,s.v),(1,.func (.func kek) [] []),(7,.i (xs.length:Int)),(8,.i z)]) h) (λi h P hi g A C=>?_) (λh g=>?_) xs.length 0 (by omega) (ql h0) (λj I=>by omega)
 ·obtain⟨r,F,H⟩:=(n.grow g).int hi;rw[qb4 hi]at A C;simp only[Option.any_some]at A C;show Runs (go _ _) _;rw[k3q];refine qbb (qbx (by omega)) (qz F (qz H ?_))
  have key:go (.fn kek [.i xs[i]]) h=some (.bool (decide (xs[i]<0)||decide (xs[i]>1073741824)),h):=by rw[kbgi];cases decide (xs[i]<0)<;>rfl
  refine qz key (qz (seen rfl) ?_);rw[kj (by have:=n.short;omega)];exact qbd (λc=>qy (A h g c)) λc=>C h g c
 ·rw[k3q,condF (qby (by omega))]
theorem kbln(n:Sq EI h0 S s xs)(hl:xs.length<=256){m:Nat}(Z:h0.blks.size<=m):∀(k i:Nat),i+k=xs.length->∀{h:AH}{l:List (Int×AV)},Grow h0 h->MapIs h m l->(∀x,(kvGet l x).isSome=true↔x∈xs.take i)->l.length<=i->(l.length=i↔(xs.take i).Nodup)->
  Runs (go (.pt kip kqo [(3,.map (some m)),(7,s.v),(8,.i (xs.length:Int)),(9,.i (i:Int))]) h) λv h'=>Grow h0 h'/\v=.map (some m)/\∃l,MapIs h' m l/\(l.length=xs.length↔xs.Nodup):=by
 intro k
 induction k with
 | zero =>
  intro i hi h l g M I K C;rw[k2v];refine qbc (qby (by omega)) (qy ⟨g,rfl,l,M,?_⟩);rw[show i=xs.length from by omega,List.take_length]at C;exact C
 | succ k ih =>
  intro i hi h l g M I K C;have F:i<xs.length:=by omega
  obtain⟨r,e1,e2⟩:=(n.grow g).int F;rw[k2v];refine qbb (qbx (by omega)) (qz e1 (qz e2 ?_));obtain⟨h1,e3,M1,u1⟩:=M.put xs[i] (.i (i:Int));refine qz e3 ?_;rw[kj (by omega)];have X:xs.take (i+1)=xs.take i++[xs[i]]:=qch F;have hi:=I xs[i];refine ih (i+1) (by omega) (g.updr Z u1) M1 (λx=>?_) ?_ ?_
  ·rw[kbhp,X,qb5,List.mem_singleton];by_cases H:x=xs[i]
   ·rw[if_pos H];exact⟨λ_=>.inr H,λ_=>rfl⟩
   ·rw[if_neg H,I x];exact⟨.inl,λh=>h.resolve_right H⟩
  ·cases A:kvGet l xs[i]with
   | none=>rw[k2i _ A];simp;omega
   | some w=>rw[k26 _ A];omega
  ·rw[X,List.nodup_append];cases A:kvGet l xs[i]with
   | none =>
    rw[A]at hi;have Q:xs[i]∉xs.take i:=λh=>by simpa using hi.2 h
    rw[k2i _ A];simp only[qb0,List.length_singleton];constructor
    ·intro e;refine⟨C.1 (by omega),by simp,λa ha b Y=>?_⟩;rw[List.mem_singleton]at Y;subst Y
     rintro rfl
     exact Q ha
    ·intro e;rw[C.2 e.1]
   | some w =>
    rw[A]at hi;have U:xs[i]∈xs.take i:=hi.1 rfl;rw[k26 _ A];constructor
    ·intro e;omega
    ·intro e;exact absurd rfl (e.2.2 _ U _ (by simp))
theorem kbby(n:Sq EI h0 S s xs):Runs (go (.fn ksg [s.v]) h0) λv h'=>v=.bool (idsR xs)/\Grow h0 h':=by
 rw[kba3,n.len];unfold idsR;refine qbd (λc=>?_) (λc=>?_)
 ·rw[qbw]at c;rw[qbx (show xs.length<=256 by omega),Bool.true_and];refine(kbem n).call λv h1 ⟨e,A⟩=>?_;subst e;refine qz (seen rfl) ?_;refine qbd (λC=>?_) (λC=>?_)
  ·rw[C,Bool.true_and]
   have key:Runs (go (.fn kip [s.v]) h1) λv h'=>Grow h1 h'/\∃m l,v=.map (some m)/\MapIs h' m l/\(l.length=xs.length↔xs.Nodup):=by rw[kbk3,n.len];refine Runs.newMap λI M F=>?_;exact(kbln (n.grow A) (by omega) (m:=h1.blks.size) (qbp _) xs.length 0 (by omega) (l:=[]) F M (λx=>by simp[kvGet]) (qbp _) (by simp)).imp λv h' ⟨g,e,l,M,H⟩=>⟨g,_,l,e,M,H⟩
   refine key.call λv I ⟨F,m,l,e,M,H⟩=>?_;subst e;refine qz (seen rfl) (qz M.size (qy ⟨congrArg AV.bool ?_,A.trans F⟩));rw[decide_eq_decide,<- H];omega
  ·rw[C,Bool.false_and];exact qy ⟨rfl,A⟩
 ·rw[qbv]at c;rw[qby (show¬xs.length<=256 by omega),Bool.false_and];exact qy ⟨rfl,ql _⟩
end
end Go.Ab
