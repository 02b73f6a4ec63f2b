/- squeezed -/
import Derived.Test.YtpbgcebgmgjnjaaGreatPR3
import Derived.Test.YtpbgcebgmgjnjaaGreatPAbsQ

set_option linter.unusedVariables false
set_option linter.unusedSimpArgs false
set_option maxRecDepth 10000
namespace Go.Ab
open Go.Proofs Go.Num
inductive khr
 | fn (a1 : Int) (a2 : Int) (a3 : Int) (a4 : Int) (a5 : Int)
 | no
abbrev kgg := Bool × List Nat × List Nat × Int
noncomputable def kjk (a1 : Int) (a2 : Int) (a3 : Int) (a4 : Int) (a5 : Int) : Option (khr ⊕ kgg) :=
 cond (!((kq a2 a3 a4 a5).2.2)) (some (.inr (false, [], [], 1))) (cond (!((kba a1))) (some (.inr (false, [], [], 1))) ((some (kcc (((((scoreF a1 a2 a3).1)))) ((scoreF a1 a2 a3).2.1) ((scoreF a1 a2 a3).2.2.1) (((((scoreF a1 (((((kq a2 a3 a4 a5).1)))) (((((kq a2 a3 a4 a5).2.1))))).1)))) ((scoreF a1 (((((kq a2 a3 a4 a5).1)))) (((((kq a2 a3 a4 a5).2.1))))).2.1) ((scoreF a1 (((((kq a2 a3 a4 a5).1)))) (((((kq a2 a3 a4 a5).2.1))))).2.2.1))).bind fun p50 => (some (kcf ((p50.1)) p50.2.1 p50.2.2.1 (((((scoreF a1 a4 a5).1)))) ((scoreF a1 a4 a5).2.1) ((scoreF a1 a4 a5).2.2.1))).bind fun p87 => some (.inr (((p87.1)), p87.2.1, p87.2.2.1, (p87.2.2.2)))))
noncomputable def kp8 : khr → Option (khr ⊕ kgg)
 | .fn a1 a2 a3 a4 a5 => kjk a1 a2 a3 a4 a5
 | .no => none
@[reducible] def ks4 (h0 : AH) (r : kgg) (v : AV) (h' : AH) : Prop := ∃ s1 : Sl, ∃ s2 : Sl, v = .tup [.agg [.bool r.1, s1.v, s2.v], .int .i64 r.2.2.2] ∧ Nats h' s1 r.2.1 ∧ Nats h' s2 r.2.2.1 ∧ Grow h0 h' ∧ Own h0 s1 ∧ Own h0 s2
def kpb (r : kgg) : khr → Prop
 | .fn a1 a2 a3 a4 a5 => ∀ {h : AH}, Runs (go (.fn F.klu [.int .i64 a1, .agg [.int .i64 a2, .int .i64 a3], .agg [.int .i64 a4, .int .i64 a5]]) h) (ks4 h r)
 | .no => True
theorem k34 {r : kgg} {o : khr ⊕ kgg} {a1 : Int} {a2 : Int} {a3 : Int} {a4 : Int} {a5 : Int} (e : kjk a1 a2 a3 a4 a5 = some o) (good : GoodS (kpb r) r o) : kpb r (.fn a1 a2 a3 a4 a5) := by
 intro h
 rw [k2j]
 unfold kjk at e
 refine Runs.new fun H6 b6 g6 => ?_
 refine Runs.new fun H7 b7 g7 => ?_
 refine Runs.new fun H8 b8 g8 => ?_
 refine Runs.new fun H9 b9 g9 => ?_
 refine Runs.step (AH.has.rd ((g8.trans g9).has b7) 0 rfl (kb _ _)) ?_
 refine Runs.step (AH.has.rd ((g8.trans g9).has b7) 1 rfl (kb _ _)) ?_
 refine Runs.step (AH.has.rd (g9.has b8) 0 rfl (kb _ _)) ?_
 refine Runs.step (AH.has.rd (g9.has b8) 1 rfl (kb _ _)) ?_
 obtain ⟨_, H10, e10, rfl, g10⟩ := k0t a2 a3 a4 a5
 refine Runs.step e10 ?_
 refine Runs.step rfl ?_
 refine Runs.step rfl ?_
 refine Runs.ifT rfl ?_
 refine Runs.step (seenAt rfl (kb _ _)) ?_
 refine Runs.step (seenAt rfl (kb _ _)) ?_
 refine Runs.step (seen rfl) ?_
 refine Runs.new fun H11 b11 g11 => ?_
 refine Runs.puts b11 rfl fun H12 b12 u12 => ?_
 refine Runs.cond (fun k13 => ?_) (fun k13 => ?_)
 ·replace e := (condT k13).symm.trans e
  have G15 := ((g10.trans g11).updr (Nat.le_trans (g10).size (Nat.le_refl _)) u12)
  have b9_16 := G15.has b9
  refine Runs.puts b9_16 rfl fun H14 b14 u14 => ?_
  have b12_14 := AH.has.updr b12 (Nat.ne_of_gt (Nat.lt_of_lt_of_le (g10.has b9).lt (Nat.le_refl _))) u14
  refine Runs.step (AH.has.rd b14 0 rfl rfl) ?_
  refine Runs.step (AH.has.rd b14 1 rfl (asSl_v _)) ?_
  refine Runs.step (AH.has.rd b14 2 rfl (asSl_v _)) ?_
  cases e
  cases good
  have G17 := ((((g6.trans g7).trans g8).trans g9).trans g10)
  have G18 := ((g6.trans g7).trans g8)
  have G19 := (((((((g6.trans g7).trans g8).trans g9).trans g10).trans g11).updr (Nat.le_trans (G17).size (Nat.le_refl _)) u12).updr (Nat.le_trans (G18).size (Nat.le_refl _)) u14)
  exact Runs.ret ⟨(⟨none, 0, .is 0⟩ : Sl), (⟨none, 0, .is 0⟩ : Sl), rfl, (Nats.nil _), (Nats.nil _), G19, (Own.nil _), (Own.nil _)⟩
 ·replace e := (condF k13).symm.trans e
  have G14 := (((g7.trans g8).trans g9).trans g10)
  have G15 := (((((g7.trans g8).trans g9).trans g10).trans g11).updr (Nat.le_trans (G14).size (Nat.le_refl _)) u12)
  have b6_16 := G15.has b6
  refine Runs.step (AH.has.rd0 b6_16 rfl (kb _ _)) ?_
  obtain ⟨_, H17, e17, rfl, g17⟩ := kms a1
  refine Runs.step e17 ?_
  refine Runs.step (seen rfl) ?_
  refine Runs.cond (fun k18 => ?_) (fun k18 => ?_)
  ·replace e := (condT k18).symm.trans e
   have G20 := (((g10.trans g11).updr (Nat.le_trans (g10).size (Nat.le_refl _)) u12).trans g17)
   have b9_21 := G20.has b9
   refine Runs.puts b9_21 rfl fun H19 b19 u19 => ?_
   have b6_19 := AH.has.updr (g17.has b6_16) (Nat.ne_of_lt (Nat.lt_of_lt_of_le ((g7.trans g8).has b6).lt (Nat.le_refl _))) u19
   have b12_19 := AH.has.updr (g17.has b12) (Nat.ne_of_gt (Nat.lt_of_lt_of_le (g10.has b9).lt (Nat.le_refl _))) u19
   refine Runs.step (AH.has.rd b19 0 rfl rfl) ?_
   refine Runs.step (AH.has.rd b19 1 rfl (asSl_v _)) ?_
   refine Runs.step (AH.has.rd b19 2 rfl (asSl_v _)) ?_
   cases e
   cases good
   have G22 := ((((g6.trans g7).trans g8).trans g9).trans g10)
   have G23 := ((g6.trans g7).trans g8)
   have G24 := ((((((((g6.trans g7).trans g8).trans g9).trans g10).trans g11).updr (Nat.le_trans (G22).size (Nat.le_refl _)) u12).trans g17).updr (Nat.le_trans (G23).size (Nat.le_refl _)) u19)
   exact Runs.ret ⟨(⟨none, 0, .is 0⟩ : Sl), (⟨none, 0, .is 0⟩ : Sl), rfl, (Nats.nil _), (Nats.nil _), G24, (Own.nil _), (Own.nil _)⟩
  ·replace e := (condF k18).symm.trans e
   refine Runs.new fun H19 b19 g19 => ?_
   have G20 := ((g8.trans g9).trans g10)
   have G21 := ((((((g8.trans g9).trans g10).trans g11).updr (Nat.le_trans (G20).size (Nat.le_refl _)) u12).trans g17).trans g19)
   have b7_22 := G21.has b7
   refine Runs.step (AH.has.rd b7_22 0 rfl (kb _ _)) ?_
   refine Runs.step (AH.has.rd b7_22 1 rfl (kb _ _)) ?_
   refine Runs.step (AH.has.rd ((g17.trans g19).has b12) 0 rfl (kb _ _)) ?_
   refine Runs.step (AH.has.rd ((g17.trans g19).has b12) 1 rfl (kb _ _)) ?_
   rw [knw]
   refine Runs.newB fun H23 b23 g23 => ?_
   refine Runs.newB fun H24 b24 g24 => ?_
   have G25 := (((g17.trans g19).trans g23).trans g24)
   have b6_26 := G25.has b6_16
   refine Runs.stepB (AH.has.rd0 b6_26 rfl (kb _ _)) ?_
   refine Runs.stepB (AH.has.rd (g24.has b23) 0 rfl (kb _ _)) ?_
   refine Runs.stepB (AH.has.rd (g24.has b23) 1 rfl (kb _ _)) ?_
   obtain ⟨_, H27, e27, s27, s27b, rfl, n27, n27b, g27, o27, o27b⟩ := klq a1 a2 a3
   refine Runs.stepB e27 ?_
   refine Runs.stepB rfl ?_
   refine Runs.stepB rfl ?_
   refine Runs.ifTB rfl ?_
   refine Runs.stepB (seenAt rfl rfl) ?_
   refine Runs.stepB (seenAt rfl (asSl_v _)) ?_
   refine Runs.stepB (seenAt rfl (asSl_v _)) ?_
   refine Runs.stepB (seen (kb _ _)) ?_
   refine Runs.newB fun H28 b28 g28 => ?_
   refine Runs.putsB b28 rfl fun H29 b29 u29 => ?_
   refine Runs.stepB (AH.has.rd b29 0 rfl rfl) ?_
   refine Runs.stepB (AH.has.rd b29 1 rfl (asSl_v _)) ?_
   refine Runs.stepB (AH.has.rd b29 2 rfl (asSl_v _)) ?_
   have G31 := ((g27.trans g28).updr (Nat.le_trans (g27).size (Nat.le_refl _)) u29)
   have b24_32 := G31.has b24
   refine Runs.putsB b24_32 rfl fun H30 b30 u30 => ?_
   have n27_30 := (n27.grow (g28.updr (Nat.le_refl _) u29)).upda (Av.of_own o27 (b24).lt) u30
   have n27b_30 := (n27b.grow (g28.updr (Nat.le_refl _) u29)).upda (Av.of_own o27b (b24).lt) u30
   have b6_33 := G31.has b6_26
   have G34 := ((g17.trans g19).trans g23)
   have b6_30 := AH.has.updr b6_33 (Nat.ne_of_lt (Nat.lt_of_lt_of_le (G34.has b6_16).lt (Nat.le_refl _))) u30
   have b29_30 := AH.has.updr b29 (Nat.ne_of_gt (Nat.lt_of_lt_of_le (g27.has b24).lt (Nat.le_refl _))) u30
   refine Runs.stepB (AH.has.rd b30 0 rfl rfl) ?_
   refine Runs.stepB (AH.has.rd b30 1 rfl (asSl_v _)) ?_
   refine Runs.stepB (AH.has.rd b30 2 rfl (asSl_v _)) ?_
   refine Runs.retB ?_
   refine Runs.step rfl ?_
   refine Runs.ifT rfl ?_
   refine Runs.step (seenAt rfl rfl) ?_
   refine Runs.step (seenAt rfl (asSl_v _)) ?_
   refine Runs.step (seenAt rfl (asSl_v _)) ?_
   have G35 := ((g23.trans g24).trans g27)
   have G36 := (((((g23.trans g24).trans g27).trans g28).updr (Nat.le_trans (G35).size (Nat.le_refl _)) u29).updr (Nat.le_trans (g23).size (Nat.le_refl _)) u30)
   refine Runs.when (G36.same ((g17.trans g19).has b12) 0 2) ?_
   refine Runs.when (G36.same b19 0 0) ?_
   rw [knw]
   refine Runs.newB fun H37 b37 g37 => ?_
   refine Runs.newB fun H38 b38 g38 => ?_
   refine Runs.stepB (AH.has.rd0 ((g37.trans g38).has b6_30) rfl (kb _ _)) ?_
   refine Runs.stepB (AH.has.rd (g38.has b37) 0 rfl (kb _ _)) ?_
   refine Runs.stepB (AH.has.rd (g38.has b37) 1 rfl (kb _ _)) ?_
   obtain ⟨_, H39, e39, s39, s39b, rfl, n39, n39b, g39, o39, o39b⟩ := klq a1 (((((kq a2 a3 a4 a5).1)))) (((((kq a2 a3 a4 a5).2.1))))
   refine Runs.stepB e39 ?_
   refine Runs.stepB rfl ?_
   refine Runs.stepB rfl ?_
   refine Runs.ifTB rfl ?_
   refine Runs.stepB (seenAt rfl rfl) ?_
   refine Runs.stepB (seenAt rfl (asSl_v _)) ?_
   refine Runs.stepB (seenAt rfl (asSl_v _)) ?_
   refine Runs.stepB (seen (kb _ _)) ?_
   refine Runs.newB fun H40 b40 g40 => ?_
   refine Runs.putsB b40 rfl fun H41 b41 u41 => ?_
   refine Runs.stepB (AH.has.rd b41 0 rfl rfl) ?_
   refine Runs.stepB (AH.has.rd b41 1 rfl (asSl_v _)) ?_
   refine Runs.stepB (AH.has.rd b41 2 rfl (asSl_v _)) ?_
   have G43 := ((g39.trans g40).updr (Nat.le_trans (g39).size (Nat.le_refl _)) u41)
   have b38_44 := G43.has b38
   refine Runs.putsB b38_44 rfl fun H42 b42 u42 => ?_
   have n39_42 := (n39.grow (g40.updr (Nat.le_refl _) u41)).upda (Av.of_own o39 (b38).lt) u42
   have n39b_42 := (n39b.grow (g40.updr (Nat.le_refl _) u41)).upda (Av.of_own o39b (b38).lt) u42
   have b41_42 := AH.has.updr b41 (Nat.ne_of_gt (Nat.lt_of_lt_of_le (g39.has b38).lt (Nat.le_refl _))) u42
   refine Runs.stepB (AH.has.rd b42 0 rfl rfl) ?_
   refine Runs.stepB (AH.has.rd b42 1 rfl (asSl_v _)) ?_
   refine Runs.stepB (AH.has.rd b42 2 rfl (asSl_v _)) ?_
   refine Runs.retB ?_
   refine Runs.step rfl ?_
   refine Runs.ifT rfl ?_
   refine Runs.step (seenAt rfl rfl) ?_
   refine Runs.step (seenAt rfl (asSl_v _)) ?_
   refine Runs.step (seenAt rfl (asSl_v _)) ?_
   have b19_45 := G36.has b19
   have G46 := ((g37.trans g38).trans g39)
   have G47 := (((((g37.trans g38).trans g39).trans g40).updr (Nat.le_trans (G46).size (Nat.le_refl _)) u41).updr (Nat.le_trans (g37).size (Nat.le_refl _)) u42)
   refine Runs.when (G47.same b19_45 0 0) ?_
   have n27_48 := n27_30.grow G47
   have n27b_49 := n27b_30.grow G47
   obtain ⟨p50, q50, e⟩ := Option.bind_eq_some_iff.1 e
   obtain ⟨_, H50, e50, s50, s50b, rfl, n50, n50b, g50, o50, o50b⟩ := k33 n27_48 n27b_49 n39_42 n39b_42 (Option.some.inj q50)
   refine Runs.step e50 ?_
   refine Runs.step rfl ?_
   refine Runs.step rfl ?_
   refine Runs.ifT rfl ?_
   refine Runs.step (seenAt rfl rfl) ?_
   refine Runs.step (seenAt rfl (asSl_v _)) ?_
   refine Runs.step (seenAt rfl (asSl_v _)) ?_
   refine Runs.step (seen (kb _ _)) ?_
   have b19_51 := G47.has b19_45
   refine Runs.when (g50.same b19_51 0 0) ?_
   refine Runs.puts (g50.has b19_51) rfl fun H52 b52 u52 => ?_
   have n27_52 := (n27_48.grow g50).upda (Av.of_own o27 ((g23.trans g24).has b19).lt) u52
   have n27b_52 := (n27b_49.grow g50).upda (Av.of_own o27b ((g23.trans g24).has b19).lt) u52
   have n39_52 := (n39_42.grow g50).upda (Av.of_own o39 ((g37.trans g38).has b19_45).lt) u52
   have n39b_52 := (n39b_42.grow g50).upda (Av.of_own o39b ((g37.trans g38).has b19_45).lt) u52
   have n50_52 := n50.upda (Av.of_own o50 (b19_51).lt) u52
   have n50b_52 := n50b.upda (Av.of_own o50b (b19_51).lt) u52
   have G53 := (G47.trans g50)
   have b6_54 := G53.has b6_30
   have b6_52 := AH.has.updr b6_54 (Nat.ne_of_lt (Nat.lt_of_lt_of_le (g17.has b6_16).lt (Nat.le_refl _))) u52
   have G55 := (((G36.trans g37).trans g38).trans g39)
   have G56 := (G36.trans g37)
   have G57 := (((((((G36.trans g37).trans g38).trans g39).trans g40).updr (Nat.le_trans (G55).size (Nat.le_refl _)) u41).updr (Nat.le_trans (G56).size (Nat.le_refl _)) u42).trans g50)
   have b7_58 := G57.has b7_22
   have G59 := (((G20.trans g11).updr (Nat.le_trans (G20).size (Nat.le_refl _)) u12).trans g17)
   have b7_52 := AH.has.updr b7_58 (Nat.ne_of_lt (Nat.lt_of_lt_of_le (G59.has b7).lt (Nat.le_refl _))) u52
   have G60 := (((((((g24.trans g27).trans g28).updr (Nat.le_trans ((g24.trans g27)).size (Nat.le_refl _)) u29).updr (Nat.le_refl _) u30).trans g37).trans g38).trans g39)
   have G61 := (((((g24.trans g27).trans g28).updr (Nat.le_trans ((g24.trans g27)).size (Nat.le_refl _)) u29).updr (Nat.le_refl _) u30).trans g37)
   have G62 := (((((((((((g24.trans g27).trans g28).updr (Nat.le_trans ((g24.trans g27)).size (Nat.le_refl _)) u29).updr (Nat.le_refl _) u30).trans g37).trans g38).trans g39).trans g40).updr (Nat.le_trans (G60).size (Nat.le_refl _)) u41).updr (Nat.le_trans (G61).size (Nat.le_refl _)) u42).trans g50)
   have b23_63 := G62.has b23
   have b23_52 := AH.has.updr b23_63 (Nat.ne_of_gt (Nat.lt_of_lt_of_le (b19).lt (Nat.le_refl _))) u52
   have b30_64 := G53.has b30
   have b30_52 := AH.has.updr b30_64 (Nat.ne_of_gt (Nat.lt_of_lt_of_le (g23.has b19).lt (Nat.le_refl _))) u52
   have b29_65 := G53.has b29_30
   have b29_52 := AH.has.updr b29_65 (Nat.ne_of_gt (Nat.lt_of_lt_of_le (G35.has b19).lt (Nat.le_refl _))) u52
   have G66 := (((((g38.trans g39).trans g40).updr (Nat.le_trans ((g38.trans g39)).size (Nat.le_refl _)) u41).updr (Nat.le_refl _) u42).trans g50)
   have b37_67 := G66.has b37
   have b37_52 := AH.has.updr b37_67 (Nat.ne_of_gt (Nat.lt_of_lt_of_le (b19_45).lt (Nat.le_refl _))) u52
   have b42_52 := AH.has.updr (g50.has b42) (Nat.ne_of_gt (Nat.lt_of_lt_of_le (g37.has b19_45).lt (Nat.le_refl _))) u52
   have b41_52 := AH.has.updr (g50.has b41_42) (Nat.ne_of_gt (Nat.lt_of_lt_of_le (G46.has b19_45).lt (Nat.le_refl _))) u52
   refine Runs.step (AH.has.rd b52 0 rfl rfl) ?_
   refine Runs.step (AH.has.rd b52 1 rfl (asSl_v _)) ?_
   refine Runs.step (AH.has.rd b52 2 rfl (asSl_v _)) ?_
   have G68 := ((((((((g9.trans g10).trans g11).updr (Nat.le_trans ((g9.trans g10)).size (Nat.le_refl _)) u12).trans g17).trans g19).trans g23).trans g24).trans g27)
   have G69 := ((((((g9.trans g10).trans g11).updr (Nat.le_trans ((g9.trans g10)).size (Nat.le_refl _)) u12).trans g17).trans g19).trans g23)
   have G70 := ((((((G68.trans g28).updr (Nat.le_trans (G68).size (Nat.le_refl _)) u29).updr (Nat.le_trans (G69).size (Nat.le_refl _)) u30).trans g37).trans g38).trans g39)
   have G71 := ((((G68.trans g28).updr (Nat.le_trans (G68).size (Nat.le_refl _)) u29).updr (Nat.le_trans (G69).size (Nat.le_refl _)) u30).trans g37)
   have G72 := ((((g9.trans g10).trans g11).updr (Nat.le_trans ((g9.trans g10)).size (Nat.le_refl _)) u12).trans g17)
   have G73 := (((((((((((((((((((g9.trans g10).trans g11).updr (Nat.le_trans ((g9.trans g10)).size (Nat.le_refl _)) u12).trans g17).trans g19).trans g23).trans g24).trans g27).trans g28).updr (Nat.le_trans (G68).size (Nat.le_refl _)) u29).updr (Nat.le_trans (G69).size (Nat.le_refl _)) u30).trans g37).trans g38).trans g39).trans g40).updr (Nat.le_trans (G70).size (Nat.le_refl _)) u41).updr (Nat.le_trans (G71).size (Nat.le_refl _)) u42).trans g50).updr (Nat.le_trans (G72).size (Nat.le_refl _)) u52)
   have b8_74 := G73.has b8
   refine Runs.step (AH.has.rd b8_74 0 rfl (kb _ _)) ?_
   refine Runs.step (AH.has.rd b8_74 1 rfl (kb _ _)) ?_
   rw [knw]
   refine Runs.newB fun H75 b75 g75 => ?_
   refine Runs.newB fun H76 b76 g76 => ?_
   refine Runs.stepB (AH.has.rd0 ((g75.trans g76).has b6_52) rfl (kb _ _)) ?_
   refine Runs.stepB (AH.has.rd (g76.has b75) 0 rfl (kb _ _)) ?_
   refine Runs.stepB (AH.has.rd (g76.has b75) 1 rfl (kb _ _)) ?_
   obtain ⟨_, H77, e77, s77, s77b, rfl, n77, n77b, g77, o77, o77b⟩ := klq a1 a4 a5
   refine Runs.stepB e77 ?_
   refine Runs.stepB rfl ?_
   refine Runs.stepB rfl ?_
   refine Runs.ifTB rfl ?_
   refine Runs.stepB (seenAt rfl rfl) ?_
   refine Runs.stepB (seenAt rfl (asSl_v _)) ?_
   refine Runs.stepB (seenAt rfl (asSl_v _)) ?_
   refine Runs.stepB (seen (kb _ _)) ?_
   refine Runs.newB fun H78 b78 g78 => ?_
   refine Runs.putsB b78 rfl fun H79 b79 u79 => ?_
   refine Runs.stepB (AH.has.rd b79 0 rfl rfl) ?_
   refine Runs.stepB (AH.has.rd b79 1 rfl (asSl_v _)) ?_
   refine Runs.stepB (AH.has.rd b79 2 rfl (asSl_v _)) ?_
   have G81 := ((g77.trans g78).updr (Nat.le_trans (g77).size (Nat.le_refl _)) u79)
   have b76_82 := G81.has b76
   refine Runs.putsB b76_82 rfl fun H80 b80 u80 => ?_
   have n77_80 := (n77.grow (g78.updr (Nat.le_refl _) u79)).upda (Av.of_own o77 (b76).lt) u80
   have n77b_80 := (n77b.grow (g78.updr (Nat.le_refl _) u79)).upda (Av.of_own o77b (b76).lt) u80
   have b79_80 := AH.has.updr b79 (Nat.ne_of_gt (Nat.lt_of_lt_of_le (g77.has b76).lt (Nat.le_refl _))) u80
   refine Runs.stepB (AH.has.rd b80 0 rfl rfl) ?_
   refine Runs.stepB (AH.has.rd b80 1 rfl (asSl_v _)) ?_
   refine Runs.stepB (AH.has.rd b80 2 rfl (asSl_v _)) ?_
   refine Runs.retB ?_
   refine Runs.step rfl ?_
   refine Runs.ifT rfl ?_
   refine Runs.step (seenAt rfl rfl) ?_
   refine Runs.step (seenAt rfl (asSl_v _)) ?_
   refine Runs.step (seenAt rfl (asSl_v _)) ?_
   have G83 := ((g75.trans g76).trans g77)
   have G84 := (((((g75.trans g76).trans g77).trans g78).updr (Nat.le_trans (G83).size (Nat.le_refl _)) u79).updr (Nat.le_trans (g75).size (Nat.le_refl _)) u80)
   refine Runs.when (G84.same b52 0 3) ?_
   have n50_85 := n50_52.grow G84
   have n50b_86 := n50b_52.grow G84
   obtain ⟨p87, q87, e⟩ := Option.bind_eq_some_iff.1 e
   obtain ⟨_, H87, e87, s87, s87b, rfl, n87, n87b, g87, o87, o87b⟩ := kxi n50_85 n50b_86 n77_80 n77b_80 (Option.some.inj q87)
   refine Runs.step e87 ?_
   refine Runs.step rfl ?_
   refine Runs.step rfl ?_
   refine Runs.ifT rfl ?_
   refine Runs.step (seenAt rfl rfl) ?_
   refine Runs.step (seenAt rfl (asSl_v _)) ?_
   refine Runs.step (seenAt rfl (asSl_v _)) ?_
   refine Runs.step (seen (kb _ _)) ?_
   have G89 := (((((((g10.trans g11).updr (Nat.le_trans (g10).size (Nat.le_refl _)) u12).trans g17).trans g19).trans g23).trans g24).trans g27)
   have G90 := (((((g10.trans g11).updr (Nat.le_trans (g10).size (Nat.le_refl _)) u12).trans g17).trans g19).trans g23)
   have G91 := ((((((G89.trans g28).updr (Nat.le_trans (G89).size (Nat.le_refl _)) u29).updr (Nat.le_trans (G90).size (Nat.le_refl _)) u30).trans g37).trans g38).trans g39)
   have G92 := ((((G89.trans g28).updr (Nat.le_trans (G89).size (Nat.le_refl _)) u29).updr (Nat.le_trans (G90).size (Nat.le_refl _)) u30).trans g37)
   have G93 := (((g10.trans g11).updr (Nat.le_trans (g10).size (Nat.le_refl _)) u12).trans g17)
   have G94 := ((((((((G91.trans g40).updr (Nat.le_trans (G91).size (Nat.le_refl _)) u41).updr (Nat.le_trans (G92).size (Nat.le_refl _)) u42).trans g50).updr (Nat.le_trans (G93).size (Nat.le_refl _)) u52).trans g75).trans g76).trans g77)
   have G95 := ((((((G91.trans g40).updr (Nat.le_trans (G91).size (Nat.le_refl _)) u41).updr (Nat.le_trans (G92).size (Nat.le_refl _)) u42).trans g50).updr (Nat.le_trans (G93).size (Nat.le_refl _)) u52).trans g75)
   have G96 := (((((((((((((((((((((((((g10.trans g11).updr (Nat.le_trans (g10).size (Nat.le_refl _)) u12).trans g17).trans g19).trans g23).trans g24).trans g27).trans g28).updr (Nat.le_trans (G89).size (Nat.le_refl _)) u29).updr (Nat.le_trans (G90).size (Nat.le_refl _)) u30).trans g37).trans g38).trans g39).trans g40).updr (Nat.le_trans (G91).size (Nat.le_refl _)) u41).updr (Nat.le_trans (G92).size (Nat.le_refl _)) u42).trans g50).updr (Nat.le_trans (G93).size (Nat.le_refl _)) u52).trans g75).trans g76).trans g77).trans g78).updr (Nat.le_trans (G94).size (Nat.le_refl _)) u79).updr (Nat.le_trans (G95).size (Nat.le_refl _)) u80).trans g87)
   have b9_97 := G96.has b9
   refine Runs.puts b9_97 rfl fun H88 b88 u88 => ?_
   have G98 := (G90.trans g24)
   have G99 := (G84.trans g87)
   have n27_100 := n27_52.grow G99
   have n27_88 := n27_100.upda (Av.of_own o27 (G98.has b9).lt) u88
   have n27b_101 := n27b_52.grow G99
   have n27b_88 := n27b_101.upda (Av.of_own o27b (G98.has b9).lt) u88
   have G102 := (G92.trans g38)
   have n39_103 := n39_52.grow G99
   have n39_88 := n39_103.upda (Av.of_own o39 (G102.has b9).lt) u88
   have n39b_104 := n39b_52.grow G99
   have n39b_88 := n39b_104.upda (Av.of_own o39b (G102.has b9).lt) u88
   have G105 := (((G91.trans g40).updr (Nat.le_trans (G91).size (Nat.le_refl _)) u41).updr (Nat.le_trans (G92).size (Nat.le_refl _)) u42)
   have n50_88 := (n50_85.grow g87).upda (Av.of_own o50 (G105.has b9).lt) u88
   have n50b_88 := (n50b_86.grow g87).upda (Av.of_own o50b (G105.has b9).lt) u88
   have G106 := (G95.trans g76)
   have n77_88 := (n77_80.grow g87).upda (Av.of_own o77 (G106.has b9).lt) u88
   have n77b_88 := (n77b_80.grow g87).upda (Av.of_own o77b (G106.has b9).lt) u88
   have G107 := (((G94.trans g78).updr (Nat.le_trans (G94).size (Nat.le_refl _)) u79).updr (Nat.le_trans (G95).size (Nat.le_refl _)) u80)
   have n87_88 := n87.upda (Av.of_own o87 (G107.has b9).lt) u88
   have n87b_88 := n87b.upda (Av.of_own o87b (G107.has b9).lt) u88
   have b6_108 := G99.has b6_52
   have b6_88 := AH.has.updr b6_108 (Nat.ne_of_lt (Nat.lt_of_lt_of_le ((g7.trans g8).has b6).lt (Nat.le_refl _))) u88
   have b7_109 := G99.has b7_52
   have b7_88 := AH.has.updr b7_109 (Nat.ne_of_lt (Nat.lt_of_lt_of_le (g8.has b7).lt (Nat.le_refl _))) u88
   have b8_110 := G99.has b8_74
   have b8_88 := AH.has.updr b8_110 (Nat.ne_of_lt (Nat.lt_of_lt_of_le (b8).lt (Nat.le_refl _))) u88
   have G111 := (G25.trans g27)
   have G112 := ((((((G111.trans g28).updr (Nat.le_trans (G111).size (Nat.le_refl _)) u29).updr (Nat.le_trans (G34).size (Nat.le_refl _)) u30).trans g37).trans g38).trans g39)
   have G113 := ((((G111.trans g28).updr (Nat.le_trans (G111).size (Nat.le_refl _)) u29).updr (Nat.le_trans (G34).size (Nat.le_refl _)) u30).trans g37)
   have G114 := ((((((((G112.trans g40).updr (Nat.le_trans (G112).size (Nat.le_refl _)) u41).updr (Nat.le_trans (G113).size (Nat.le_refl _)) u42).trans g50).updr (Nat.le_trans (g17).size (Nat.le_refl _)) u52).trans g75).trans g76).trans g77)
   have G115 := ((((((G112.trans g40).updr (Nat.le_trans (G112).size (Nat.le_refl _)) u41).updr (Nat.le_trans (G113).size (Nat.le_refl _)) u42).trans g50).updr (Nat.le_trans (g17).size (Nat.le_refl _)) u52).trans g75)
   have G116 := (((((((((((((((((((G25.trans g27).trans g28).updr (Nat.le_trans (G111).size (Nat.le_refl _)) u29).updr (Nat.le_trans (G34).size (Nat.le_refl _)) u30).trans g37).trans g38).trans g39).trans g40).updr (Nat.le_trans (G112).size (Nat.le_refl _)) u41).updr (Nat.le_trans (G113).size (Nat.le_refl _)) u42).trans g50).updr (Nat.le_trans (g17).size (Nat.le_refl _)) u52).trans g75).trans g76).trans g77).trans g78).updr (Nat.le_trans (G114).size (Nat.le_refl _)) u79).updr (Nat.le_trans (G115).size (Nat.le_refl _)) u80).trans g87)
   have b12_117 := G116.has b12
   have b12_88 := AH.has.updr b12_117 (Nat.ne_of_gt (Nat.lt_of_lt_of_le (g10.has b9).lt (Nat.le_refl _))) u88
   have b52_118 := G99.has b52
   have b52_88 := AH.has.updr b52_118 (Nat.ne_of_gt (Nat.lt_of_lt_of_le (G93.has b9).lt (Nat.le_refl _))) u88
   have b23_119 := G99.has b23_52
   have G120 := (G93.trans g19)
   have b23_88 := AH.has.updr b23_119 (Nat.ne_of_gt (Nat.lt_of_lt_of_le (G120.has b9).lt (Nat.le_refl _))) u88
   have b30_121 := G99.has b30_52
   have b30_88 := AH.has.updr b30_121 (Nat.ne_of_gt (Nat.lt_of_lt_of_le (G90.has b9).lt (Nat.le_refl _))) u88
   have b29_122 := G99.has b29_52
   have b29_88 := AH.has.updr b29_122 (Nat.ne_of_gt (Nat.lt_of_lt_of_le (G89.has b9).lt (Nat.le_refl _))) u88
   have b37_123 := G99.has b37_52
   have G124 := (((G89.trans g28).updr (Nat.le_trans (G89).size (Nat.le_refl _)) u29).updr (Nat.le_trans (G90).size (Nat.le_refl _)) u30)
   have b37_88 := AH.has.updr b37_123 (Nat.ne_of_gt (Nat.lt_of_lt_of_le (G124.has b9).lt (Nat.le_refl _))) u88
   have b42_125 := G99.has b42_52
   have b42_88 := AH.has.updr b42_125 (Nat.ne_of_gt (Nat.lt_of_lt_of_le (G92.has b9).lt (Nat.le_refl _))) u88
   have b41_126 := G99.has b41_52
   have b41_88 := AH.has.updr b41_126 (Nat.ne_of_gt (Nat.lt_of_lt_of_le (G91.has b9).lt (Nat.le_refl _))) u88
   have G127 := (((((g76.trans g77).trans g78).updr (Nat.le_trans ((g76.trans g77)).size (Nat.le_refl _)) u79).updr (Nat.le_refl _) u80).trans g87)
   have b75_128 := G127.has b75
   have G129 := ((G105.trans g50).updr (Nat.le_trans (G93).size (Nat.le_refl _)) u52)
   have b75_88 := AH.has.updr b75_128 (Nat.ne_of_gt (Nat.lt_of_lt_of_le (G129.has b9).lt (Nat.le_refl _))) u88
   have b80_88 := AH.has.updr (g87.has b80) (Nat.ne_of_gt (Nat.lt_of_lt_of_le (G95.has b9).lt (Nat.le_refl _))) u88
   have b79_88 := AH.has.updr (g87.has b79_80) (Nat.ne_of_gt (Nat.lt_of_lt_of_le (G94.has b9).lt (Nat.le_refl _))) u88
   refine Runs.step (AH.has.rd b88 0 rfl rfl) ?_
   refine Runs.step (AH.has.rd b88 1 rfl (asSl_v _)) ?_
   refine Runs.step (AH.has.rd b88 2 rfl (asSl_v _)) ?_
   cases e
   cases good
   have G130 := ((((g6.trans g7).trans g8).trans g9).trans g10)
   have G131 := (((((((G130.trans g11).updr (Nat.le_trans (G130).size (Nat.le_refl _)) u12).trans g17).trans g19).trans g23).trans g24).trans g27)
   have G132 := (((((G130.trans g11).updr (Nat.le_trans (G130).size (Nat.le_refl _)) u12).trans g17).trans g19).trans g23)
   have G133 := ((((((G131.trans g28).updr (Nat.le_trans (G131).size (Nat.le_refl _)) u29).updr (Nat.le_trans (G132).size (Nat.le_refl _)) u30).trans g37).trans g38).trans g39)
   have G134 := ((((G131.trans g28).updr (Nat.le_trans (G131).size (Nat.le_refl _)) u29).updr (Nat.le_trans (G132).size (Nat.le_refl _)) u30).trans g37)
   have G135 := (((G130.trans g11).updr (Nat.le_trans (G130).size (Nat.le_refl _)) u12).trans g17)
   have G136 := ((((((((G133.trans g40).updr (Nat.le_trans (G133).size (Nat.le_refl _)) u41).updr (Nat.le_trans (G134).size (Nat.le_refl _)) u42).trans g50).updr (Nat.le_trans (G135).size (Nat.le_refl _)) u52).trans g75).trans g76).trans g77)
   have G137 := ((((((G133.trans g40).updr (Nat.le_trans (G133).size (Nat.le_refl _)) u41).updr (Nat.le_trans (G134).size (Nat.le_refl _)) u42).trans g50).updr (Nat.le_trans (G135).size (Nat.le_refl _)) u52).trans g75)
   have G138 := ((((((((((((((((((((((((((((g6.trans g7).trans g8).trans g9).trans g10).trans g11).updr (Nat.le_trans (G130).size (Nat.le_refl _)) u12).trans g17).trans g19).trans g23).trans g24).trans g27).trans g28).updr (Nat.le_trans (G131).size (Nat.le_refl _)) u29).updr (Nat.le_trans (G132).size (Nat.le_refl _)) u30).trans g37).trans g38).trans g39).trans g40).updr (Nat.le_trans (G133).size (Nat.le_refl _)) u41).updr (Nat.le_trans (G134).size (Nat.le_refl _)) u42).trans g50).updr (Nat.le_trans (G135).size (Nat.le_refl _)) u52).trans g75).trans g76).trans g77).trans g78).updr (Nat.le_trans (G136).size (Nat.le_refl _)) u79).updr (Nat.le_trans (G137).size (Nat.le_refl _)) u80)
   have G139 := ((g6.trans g7).trans g8)
   have G140 := ((G138.trans g87).updr (Nat.le_trans (G139).size (Nat.le_refl _)) u88)
   exact Runs.ret ⟨s87, s87b, rfl, n87_88, n87b_88, G140, (o87.of_le G138), (o87b.of_le G138)⟩
theorem kvb {s : khr} {r : kgg} (it : Iter kp8 s r) : kpb r s := Iter.ind (fun s o e good => by
 cases s with
 | fn a1 a2 a3 a4 a5 => exact @k34 _ _ a1 a2 a3 a4 a5 e good
 | no => exact True.intro
 ) it
inductive kg2
 | fn (a1 : Int) (a2 : Int) (a3 : Int) (a4 : Int) (a5 : Int)
 | no
abbrev kf7 := Bool × List Nat × List Nat × Int
noncomputable def kif (a1 : Int) (a2 : Int) (a3 : Int) (a4 : Int) (a5 : Int) : Option (kg2 ⊕ kf7) :=
 cond (!((kq a2 a3 a4 a5).2.2)) (some (.inr (false, [], [], 1))) (cond (decide (a1 < 1)) (some (.inr (false, [], [], 1))) (cond (decide (a1 > 1048576)) (some (.inr (false, [], [], 1))) ((some (kbk (((scoreF a1 a2 a3).1)) ((scoreF a1 a2 a3).2.1) ((scoreF a1 a2 a3).2.2.1) (((scoreF a1 (((kq a2 a3 a4 a5).1)) (((kq a2 a3 a4 a5).2.1))).1)) ((scoreF a1 (((kq a2 a3 a4 a5).1)) (((kq a2 a3 a4 a5).2.1))).2.1) ((scoreF a1 (((kq a2 a3 a4 a5).1)) (((kq a2 a3 a4 a5).2.1))).2.2.1))).bind fun p47 => (some (kb6 ((p47.1)) p47.2.1 p47.2.2.1 (((scoreF a1 a4 a5).1)) ((scoreF a1 a4 a5).2.1) ((scoreF a1 a4 a5).2.2.1))).bind fun p56 => some (.inr (((p56.1)), p56.2.1, p56.2.2.1, (p56.2.2.2))))))
noncomputable def kpy : kg2 → Option (kg2 ⊕ kf7)
 | .fn a1 a2 a3 a4 a5 => kif a1 a2 a3 a4 a5
 | .no => none
@[reducible] def kri (h0 : AH) (r : kf7) (v : AV) (h' : AH) : Prop := ∃ s1 : Sl, ∃ s2 : Sl, v = .tup [.agg [.bool r.1, s1.v, s2.v], .int .i64 r.2.2.2] ∧ Nats h' s1 r.2.1 ∧ Nats h' s2 r.2.2.1 ∧ Grow h0 h' ∧ Own h0 s1 ∧ Own h0 s2
def knx (r : kf7) : kg2 → Prop
 | .fn a1 a2 a3 a4 a5 => ∀ {h : AH}, Runs (go (.fn F.kj0 [.int .i64 a1, .agg [.int .i64 a2, .int .i64 a3], .agg [.int .i64 a4, .int .i64 a5]]) h) (kri h r)
 | .no => True
theorem k0p {r : kf7} {o : kg2 ⊕ kf7} {a1 : Int} {a2 : Int} {a3 : Int} {a4 : Int} {a5 : Int} (e : kif a1 a2 a3 a4 a5 = some o) (good : GoodS (knx r) r o) : knx r (.fn a1 a2 a3 a4 a5) := by
 intro h
 rw [k0u]
 unfold kif at e
 refine Runs.new fun H6 b6 g6 => ?_
 refine Runs.new fun H7 b7 g7 => ?_
 refine Runs.new fun H8 b8 g8 => ?_
 refine Runs.step (AH.has.rd ((g7.trans g8).has b6) 0 rfl (kb _ _)) ?_
 refine Runs.step (AH.has.rd ((g7.trans g8).has b6) 1 rfl (kb _ _)) ?_
 refine Runs.step (AH.has.rd (g8.has b7) 0 rfl (kb _ _)) ?_
 refine Runs.step (AH.has.rd (g8.has b7) 1 rfl (kb _ _)) ?_
 obtain ⟨_, H9, e9, rfl, g9⟩ := kur a2 a3 a4 a5
 refine Runs.step e9 ?_
 refine Runs.step rfl ?_
 refine Runs.step rfl ?_
 refine Runs.ifT rfl ?_
 refine Runs.step (seenAt rfl (kb _ _)) ?_
 refine Runs.step (seenAt rfl (kb _ _)) ?_
 refine Runs.step (seen rfl) ?_
 refine Runs.new fun H10 b10 g10 => ?_
 refine Runs.puts b10 rfl fun H11 b11 u11 => ?_
 refine Runs.cond (fun k12 => ?_) (fun k12 => ?_)
 ·replace e := (condT k12).symm.trans e
  have G14 := ((g9.trans g10).updr (Nat.le_trans (g9).size (Nat.le_refl _)) u11)
  have b8_15 := G14.has b8
  refine Runs.puts b8_15 rfl fun H13 b13 u13 => ?_
  have b11_13 := AH.has.updr b11 (Nat.ne_of_gt (Nat.lt_of_lt_of_le (g9.has b8).lt (Nat.le_refl _))) u13
  refine Runs.step (AH.has.rd b13 0 rfl rfl) ?_
  refine Runs.step (AH.has.rd b13 1 rfl (asSl_v _)) ?_
  refine Runs.step (AH.has.rd b13 2 rfl (asSl_v _)) ?_
  cases e
  cases good
  have G16 := (((g6.trans g7).trans g8).trans g9)
  have G17 := ((((((g6.trans g7).trans g8).trans g9).trans g10).updr (Nat.le_trans (G16).size (Nat.le_refl _)) u11).updr (Nat.le_trans ((g6.trans g7)).size (Nat.le_refl _)) u13)
  exact Runs.ret ⟨(⟨none, 0, .is 0⟩ : Sl), (⟨none, 0, .is 0⟩ : Sl), rfl, (Nats.nil _), (Nats.nil _), G17, (Own.nil _), (Own.nil _)⟩
 ·replace e := (condF k12).symm.trans e
  refine Runs.cond (fun k13 => ?_) (fun k13 => ?_)
  ·replace e := (condT k13).symm.trans e
   have G15 := ((g9.trans g10).updr (Nat.le_trans (g9).size (Nat.le_refl _)) u11)
   have b8_16 := G15.has b8
   refine Runs.puts b8_16 rfl fun H14 b14 u14 => ?_
   have b11_14 := AH.has.updr b11 (Nat.ne_of_gt (Nat.lt_of_lt_of_le (g9.has b8).lt (Nat.le_refl _))) u14
   refine Runs.step (AH.has.rd b14 0 rfl rfl) ?_
   refine Runs.step (AH.has.rd b14 1 rfl (asSl_v _)) ?_
   refine Runs.step (AH.has.rd b14 2 rfl (asSl_v _)) ?_
   cases e
   cases good
   have G17 := (((g6.trans g7).trans g8).trans g9)
   have G18 := ((((((g6.trans g7).trans g8).trans g9).trans g10).updr (Nat.le_trans (G17).size (Nat.le_refl _)) u11).updr (Nat.le_trans ((g6.trans g7)).size (Nat.le_refl _)) u14)
   exact Runs.ret ⟨(⟨none, 0, .is 0⟩ : Sl), (⟨none, 0, .is 0⟩ : Sl), rfl, (Nats.nil _), (Nats.nil _), G18, (Own.nil _), (Own.nil _)⟩
  ·replace e := (condF k13).symm.trans e
   refine Runs.cond (fun k14 => ?_) (fun k14 => ?_)
   ·replace e := (condT k14).symm.trans e
    have G16 := ((g9.trans g10).updr (Nat.le_trans (g9).size (Nat.le_refl _)) u11)
    have b8_17 := G16.has b8
    refine Runs.puts b8_17 rfl fun H15 b15 u15 => ?_
    have b11_15 := AH.has.updr b11 (Nat.ne_of_gt (Nat.lt_of_lt_of_le (g9.has b8).lt (Nat.le_refl _))) u15
    refine Runs.step (AH.has.rd b15 0 rfl rfl) ?_
    refine Runs.step (AH.has.rd b15 1 rfl (asSl_v _)) ?_
    refine Runs.step (AH.has.rd b15 2 rfl (asSl_v _)) ?_
    cases e
    cases good
    have G18 := (((g6.trans g7).trans g8).trans g9)
    have G19 := ((((((g6.trans g7).trans g8).trans g9).trans g10).updr (Nat.le_trans (G18).size (Nat.le_refl _)) u11).updr (Nat.le_trans ((g6.trans g7)).size (Nat.le_refl _)) u15)
    exact Runs.ret ⟨(⟨none, 0, .is 0⟩ : Sl), (⟨none, 0, .is 0⟩ : Sl), rfl, (Nats.nil _), (Nats.nil _), G19, (Own.nil _), (Own.nil _)⟩
   ·replace e := (condF k14).symm.trans e
    have G15 := ((g7.trans g8).trans g9)
    have G16 := ((((g7.trans g8).trans g9).trans g10).updr (Nat.le_trans (G15).size (Nat.le_refl _)) u11)
    have b6_17 := G16.has b6
    refine Runs.step (AH.has.rd b6_17 0 rfl (kb _ _)) ?_
    refine Runs.step (AH.has.rd b6_17 1 rfl (kb _ _)) ?_
    obtain ⟨_, H18, e18, s18, s18b, rfl, n18, n18b, g18, o18, o18b⟩ := knp a1 a2 a3
    refine Runs.step e18 ?_
    refine Runs.step rfl ?_
    refine Runs.step rfl ?_
    refine Runs.ifT rfl ?_
    refine Runs.step (seenAt rfl rfl) ?_
    refine Runs.step (seenAt rfl (asSl_v _)) ?_
    refine Runs.step (seenAt rfl (asSl_v _)) ?_
    refine Runs.step (seen (kb _ _)) ?_
    refine Runs.new fun H19 b19 g19 => ?_
    refine Runs.puts b19 rfl fun H20 b20 u20 => ?_
    have G21 := ((g18.trans g19).updr (Nat.le_trans (g18).size (Nat.le_refl _)) u20)
    have b11_22 := G21.has b11
    refine Runs.step (AH.has.rd b11_22 0 rfl (kb _ _)) ?_
    refine Runs.step (AH.has.rd b11_22 1 rfl (kb _ _)) ?_
    obtain ⟨_, H23, e23, s23, s23b, rfl, n23, n23b, g23, o23, o23b⟩ := knp a1 (((kq a2 a3 a4 a5).1)) (((kq a2 a3 a4 a5).2.1))
    refine Runs.step e23 ?_
    refine Runs.step rfl ?_
    refine Runs.step rfl ?_
    refine Runs.ifT rfl ?_
    refine Runs.step (seenAt rfl rfl) ?_
    refine Runs.step (seenAt rfl (asSl_v _)) ?_
    refine Runs.step (seenAt rfl (asSl_v _)) ?_
    refine Runs.step (seen (kb _ _)) ?_
    refine Runs.new fun H24 b24 g24 => ?_
    refine Runs.puts b24 rfl fun H25 b25 u25 => ?_
    have G26 := ((((g8.trans g9).trans g10).updr (Nat.le_trans ((g8.trans g9)).size (Nat.le_refl _)) u11).trans g18)
    have G27 := (((G26.trans g19).updr (Nat.le_trans (G26).size (Nat.le_refl _)) u20).trans g23)
    have G28 := (((((((((g8.trans g9).trans g10).updr (Nat.le_trans ((g8.trans g9)).size (Nat.le_refl _)) u11).trans g18).trans g19).updr (Nat.le_trans (G26).size (Nat.le_refl _)) u20).trans g23).trans g24).updr (Nat.le_trans (G27).size (Nat.le_refl _)) u25)
    have b7_29 := G28.has b7
    refine Runs.step (AH.has.rd b7_29 0 rfl (kb _ _)) ?_
    refine Runs.step (AH.has.rd b7_29 1 rfl (kb _ _)) ?_
    obtain ⟨_, H30, e30, s30, s30b, rfl, n30, n30b, g30, o30, o30b⟩ := knp a1 a4 a5
    refine Runs.step e30 ?_
    refine Runs.step rfl ?_
    refine Runs.step rfl ?_
    refine Runs.ifT rfl ?_
    refine Runs.step (seenAt rfl rfl) ?_
    refine Runs.step (seenAt rfl (asSl_v _)) ?_
    refine Runs.step (seenAt rfl (asSl_v _)) ?_
    refine Runs.step (seen (kb _ _)) ?_
    refine Runs.new fun H31 b31 g31 => ?_
    refine Runs.puts b31 rfl fun H32 b32 u32 => ?_
    have G33 := (((g23.trans g24).updr (Nat.le_trans (g23).size (Nat.le_refl _)) u25).trans g30)
    have G34 := (((((g23.trans g24).updr (Nat.le_trans (g23).size (Nat.le_refl _)) u25).trans g30).trans g31).updr (Nat.le_trans (G33).size (Nat.le_refl _)) u32)
    have b20_35 := G34.has b20
    refine Runs.step (AH.has.rd b20_35 0 rfl rfl) ?_
    refine Runs.step (AH.has.rd b20_35 1 rfl (asSl_v _)) ?_
    refine Runs.step (AH.has.rd b20_35 2 rfl (asSl_v _)) ?_
    have G36 := ((g30.trans g31).updr (Nat.le_trans (g30).size (Nat.le_refl _)) u32)
    have b25_37 := G36.has b25
    refine Runs.step (AH.has.rd b25_37 0 rfl rfl) ?_
    refine Runs.step (AH.has.rd b25_37 1 rfl (asSl_v _)) ?_
    refine Runs.step (AH.has.rd b25_37 2 rfl (asSl_v _)) ?_
    have G38 := ((g19.updr (Nat.le_refl _) u20).trans g23)
    have G39 := (((G38.trans g24).updr (Nat.le_trans (G38).size (Nat.le_refl _)) u25).trans g30)
    have G40 := (((((((g19.updr (Nat.le_refl _) u20).trans g23).trans g24).updr (Nat.le_trans (G38).size (Nat.le_refl _)) u25).trans g30).trans g31).updr (Nat.le_trans (G39).size (Nat.le_refl _)) u32)
    have n18_41 := n18.grow G40
    have n18b_42 := n18b.grow G40
    have G43 := ((g24.updr (Nat.le_refl _) u25).trans g30)
    have G44 := ((((g24.updr (Nat.le_refl _) u25).trans g30).trans g31).updr (Nat.le_trans (G43).size (Nat.le_refl _)) u32)
    have n23_45 := n23.grow G44
    have n23b_46 := n23b.grow G44
    obtain ⟨p47, q47, e⟩ := Option.bind_eq_some_iff.1 e
    obtain ⟨_, H47, e47, s47, s47b, rfl, n47, n47b, g47, o47, o47b⟩ := kzv n18_41 n18b_42 n23_45 n23b_46 (Option.some.inj q47)
    refine Runs.step e47 ?_
    refine Runs.step rfl ?_
    refine Runs.step rfl ?_
    refine Runs.ifT rfl ?_
    refine Runs.step (seenAt rfl rfl) ?_
    refine Runs.step (seenAt rfl (asSl_v _)) ?_
    refine Runs.step (seenAt rfl (asSl_v _)) ?_
    refine Runs.step (seen (kb _ _)) ?_
    refine Runs.new fun H48 b48 g48 => ?_
    refine Runs.puts b48 rfl fun H49 b49 u49 => ?_
    refine Runs.step (AH.has.rd b49 0 rfl rfl) ?_
    refine Runs.step (AH.has.rd b49 1 rfl (asSl_v _)) ?_
    refine Runs.step (AH.has.rd b49 2 rfl (asSl_v _)) ?_
    have G50 := ((g47.trans g48).updr (Nat.le_trans (g47).size (Nat.le_refl _)) u49)
    have b32_51 := G50.has b32
    refine Runs.step (AH.has.rd b32_51 0 rfl rfl) ?_
    refine Runs.step (AH.has.rd b32_51 1 rfl (asSl_v _)) ?_
    refine Runs.step (AH.has.rd b32_51 2 rfl (asSl_v _)) ?_
    have G52 := ((g31.updr (Nat.le_refl _) u32).trans g47)
    have G53 := ((((g31.updr (Nat.le_refl _) u32).trans g47).trans g48).updr (Nat.le_trans (G52).size (Nat.le_refl _)) u49)
    have n30_54 := n30.grow G53
    have n30b_55 := n30b.grow G53
    obtain ⟨p56, q56, e⟩ := Option.bind_eq_some_iff.1 e
    obtain ⟨_, H56, e56, s56, s56b, rfl, n56, n56b, g56, o56, o56b⟩ := kva (n47.grow (g48.updr (Nat.le_refl _) u49)) (n47b.grow (g48.updr (Nat.le_refl _) u49)) n30_54 n30b_55 (Option.some.inj q56)
    refine Runs.step e56 ?_
    refine Runs.step rfl ?_
    refine Runs.step rfl ?_
    refine Runs.ifT rfl ?_
    refine Runs.step (seenAt rfl rfl) ?_
    refine Runs.step (seenAt rfl (asSl_v _)) ?_
    refine Runs.step (seenAt rfl (asSl_v _)) ?_
    refine Runs.step (seen (kb _ _)) ?_
    have G58 := (((g9.trans g10).updr (Nat.le_trans (g9).size (Nat.le_refl _)) u11).trans g18)
    have G59 := (((G58.trans g19).updr (Nat.le_trans (G58).size (Nat.le_refl _)) u20).trans g23)
    have G60 := (((G59.trans g24).updr (Nat.le_trans (G59).size (Nat.le_refl _)) u25).trans g30)
    have G61 := (((G60.trans g31).updr (Nat.le_trans (G60).size (Nat.le_refl _)) u32).trans g47)
    have G62 := (((((((((((((((g9.trans g10).updr (Nat.le_trans (g9).size (Nat.le_refl _)) u11).trans g18).trans g19).updr (Nat.le_trans (G58).size (Nat.le_refl _)) u20).trans g23).trans g24).updr (Nat.le_trans (G59).size (Nat.le_refl _)) u25).trans g30).trans g31).updr (Nat.le_trans (G60).size (Nat.le_refl _)) u32).trans g47).trans g48).updr (Nat.le_trans (G61).size (Nat.le_refl _)) u49).trans g56)
    have b8_63 := G62.has b8
    refine Runs.puts b8_63 rfl fun H57 b57 u57 => ?_
    have G64 := ((g9.trans g10).updr (Nat.le_trans (g9).size (Nat.le_refl _)) u11)
    have G65 := (G50.trans g56)
    have n18_66 := n18_41.grow G65
    have n18_57 := n18_66.upda (Av.of_own o18 (G64.has b8).lt) u57
    have n18b_67 := n18b_42.grow G65
    have n18b_57 := n18b_67.upda (Av.of_own o18b (G64.has b8).lt) u57
    have G68 := ((G58.trans g19).updr (Nat.le_trans (G58).size (Nat.le_refl _)) u20)
    have n23_69 := n23_45.grow G65
    have n23_57 := n23_69.upda (Av.of_own o23 (G68.has b8).lt) u57
    have n23b_70 := n23b_46.grow G65
    have n23b_57 := n23b_70.upda (Av.of_own o23b (G68.has b8).lt) u57
    have G71 := ((G59.trans g24).updr (Nat.le_trans (G59).size (Nat.le_refl _)) u25)
    have n30_57 := (n30_54.grow g56).upda (Av.of_own o30 (G71.has b8).lt) u57
    have n30b_57 := (n30b_55.grow g56).upda (Av.of_own o30b (G71.has b8).lt) u57
    have G72 := ((G60.trans g31).updr (Nat.le_trans (G60).size (Nat.le_refl _)) u32)
    have G73 := ((g48.updr (Nat.le_refl _) u49).trans g56)
    have n47_74 := n47.grow G73
    have n47_57 := n47_74.upda (Av.of_own o47 (G72.has b8).lt) u57
    have n47b_75 := n47b.grow G73
    have n47b_57 := n47b_75.upda (Av.of_own o47b (G72.has b8).lt) u57
    have G76 := ((G61.trans g48).updr (Nat.le_trans (G61).size (Nat.le_refl _)) u49)
    have n56_57 := n56.upda (Av.of_own o56 (G76.has b8).lt) u57
    have n56b_57 := n56b.upda (Av.of_own o56b (G76.has b8).lt) u57
    have G77 := (G21.trans g23)
    have G78 := (((G77.trans g24).updr (Nat.le_trans (G77).size (Nat.le_refl _)) u25).trans g30)
    have G79 := (((G78.trans g31).updr (Nat.le_trans (G78).size (Nat.le_refl _)) u32).trans g47)
    have G80 := ((((((((((G21.trans g23).trans g24).updr (Nat.le_trans (G77).size (Nat.le_refl _)) u25).trans g30).trans g31).updr (Nat.le_trans (G78).size (Nat.le_refl _)) u32).trans g47).trans g48).updr (Nat.le_trans (G79).size (Nat.le_refl _)) u49).trans g56)
    have b6_81 := G80.has b6_17
    have b6_57 := AH.has.updr b6_81 (Nat.ne_of_lt (Nat.lt_of_lt_of_le (g7.has b6).lt (Nat.le_refl _))) u57
    have G82 := (G36.trans g47)
    have G83 := ((((G36.trans g47).trans g48).updr (Nat.le_trans (G82).size (Nat.le_refl _)) u49).trans g56)
    have b7_84 := G83.has b7_29
    have b7_57 := AH.has.updr b7_84 (Nat.ne_of_lt (Nat.lt_of_lt_of_le (b7).lt (Nat.le_refl _))) u57
    have G85 := (G34.trans g47)
    have G86 := ((((G34.trans g47).trans g48).updr (Nat.le_trans (G85).size (Nat.le_refl _)) u49).trans g56)
    have b11_87 := G86.has b11_22
    have b11_57 := AH.has.updr b11_87 (Nat.ne_of_gt (Nat.lt_of_lt_of_le (g9.has b8).lt (Nat.le_refl _))) u57
    have b20_88 := G65.has b20_35
    have b20_57 := AH.has.updr b20_88 (Nat.ne_of_gt (Nat.lt_of_lt_of_le (G58.has b8).lt (Nat.le_refl _))) u57
    have b25_89 := G65.has b25_37
    have b25_57 := AH.has.updr b25_89 (Nat.ne_of_gt (Nat.lt_of_lt_of_le (G59.has b8).lt (Nat.le_refl _))) u57
    have b32_57 := AH.has.updr (g56.has b32_51) (Nat.ne_of_gt (Nat.lt_of_lt_of_le (G60.has b8).lt (Nat.le_refl _))) u57
    have b49_57 := AH.has.updr (g56.has b49) (Nat.ne_of_gt (Nat.lt_of_lt_of_le (G61.has b8).lt (Nat.le_refl _))) u57
    refine Runs.step (AH.has.rd b57 0 rfl rfl) ?_
    refine Runs.step (AH.has.rd b57 1 rfl (asSl_v _)) ?_
    refine Runs.step (AH.has.rd b57 2 rfl (asSl_v _)) ?_
    cases e
    cases good
    have G90 := (((g6.trans g7).trans g8).trans g9)
    have G91 := (((G90.trans g10).updr (Nat.le_trans (G90).size (Nat.le_refl _)) u11).trans g18)
    have G92 := (((G91.trans g19).updr (Nat.le_trans (G91).size (Nat.le_refl _)) u20).trans g23)
    have G93 := (((G92.trans g24).updr (Nat.le_trans (G92).size (Nat.le_refl _)) u25).trans g30)
    have G94 := (((G93.trans g31).updr (Nat.le_trans (G93).size (Nat.le_refl _)) u32).trans g47)
    have G95 := (((((((((((((((((g6.trans g7).trans g8).trans g9).trans g10).updr (Nat.le_trans (G90).size (Nat.le_refl _)) u11).trans g18).trans g19).updr (Nat.le_trans (G91).size (Nat.le_refl _)) u20).trans g23).trans g24).updr (Nat.le_trans (G92).size (Nat.le_refl _)) u25).trans g30).trans g31).updr (Nat.le_trans (G93).size (Nat.le_refl _)) u32).trans g47).trans g48).updr (Nat.le_trans (G94).size (Nat.le_refl _)) u49)
    have G96 := ((G95.trans g56).updr (Nat.le_trans ((g6.trans g7)).size (Nat.le_refl _)) u57)
    exact Runs.ret ⟨s56, s56b, rfl, n56_57, n56b_57, G96, (o56.of_le G95), (o56b.of_le G95)⟩
theorem k21 {s : kg2} {r : kf7} (it : Iter kpy s r) : knx r s := Iter.ind (fun s o e good => by
 cases s with
 | fn a1 a2 a3 a4 a5 => exact @k0p _ _ a1 a2 a3 a4 a5 e good
 | no => exact True.intro
 ) it
end Go.Ab

/- squeezed -/
set_option linter.unusedVariables false
set_option linter.unusedSimpArgs false
set_option maxRecDepth 10000
namespace Go.Ab
open Go.Proofs Go.Num
abbrev Frc := Bool × List Nat × List Nat × Int
theorem eta4 (x : Frc) : (x.1, x.2.1, x.2.2.1, x.2.2.2) = x := rfl
def addQ (a b : Frc) : Frc := kcc a.1 a.2.1 a.2.2.1 b.1 b.2.1 b.2.2.1
def subQ (a b : Frc) : Frc := kcf a.1 a.2.1 a.2.2.1 b.1 b.2.1 b.2.2.1
def gainF (l g n G N : Int) : Frc :=
 cond (!(kq g n G N).2.2) (false, [], [], 1) (cond (!kba l) (false, [], [], 1) (subQ (addQ (scoreF l g n) (scoreF l (kq g n G N).1 (kq g n G N).2.1)) (scoreF l G N)))
def Frc.Lt (a : Frc) : Prop := (∀ x ∈ a.2.1, x < B) ∧ ∀ x ∈ a.2.2.1, x < B
theorem kt2 (z : Int) (d : Nat) : Frc.Lt (fracM z d) := by
 unfold fracM Frc.Lt
 split
 ·exact ⟨kbe B2 _, kbe B2 _⟩
 ·exact ⟨by simp, by simp⟩
theorem no_lt (n : Int) : Frc.Lt (false, [], [], n) := ⟨by simp, by simp⟩
theorem khu (l g n : Int) : Frc.Lt (scoreF l g n) := by
 unfold scoreF
 split
 ·exact kt2 _ _
 ·exact no_lt _
theorem kst {a b : Frc} (ha : a.Lt) (hb : b.Lt) : (addQ a b).Lt := by
 unfold addQ
 cases h : (kr a.1 a.2.1 a.2.2.1 && kr b.1 b.2.1 b.2.2.1) with
 | false => rw [Add_no h]; exact no_lt _
 | true =>
  obtain ⟨z, d, w, e, f, k⟩ := k62 ha.1 ha.2 hb.1 hb.2 h
  rw [Add_of f k]
  exact kt2 _ _
theorem k01 (l g n G N : Int) : Iter kp8 (.fn l g n G N) (gainF l g n G N) := .done (by
 show kjk _ _ _ _ _ = _
 unfold kjk gainF
 cases (kq g n G N).2.2 with
 | false => rfl
 | true =>
  cases kba l with
  | false => rfl
  | true =>
   simp only [Bool.not_true, cond_false]
   unfold subQ addQ
   exact congrArg (fun r => some (Sum.inr r)) (eta4 _))
theorem k2u (l g n G N : Int) : Iter kpy (.fn l g n G N) (gainF l g n G N) := .done (by
 show kif _ _ _ _ _ = _
 unfold kif gainF
 have e := k5x (p := (addQ (scoreF l g n) (scoreF l (kq g n G N).1 (kq g n G N).2.1)).1) (q := (scoreF l G N).1) (kst (khu l g n) (khu l (kq g n G N).1 (kq g n G N).2.1)).1 (kst (khu l g n) (khu l (kq g n G N).1 (kq g n G N).2.1)).2 (khu l G N).1 (khu l G N).2
 unfold addQ at e
 simp only [Option.bind_some]
 rw [krl, e]
 cases (kq g n G N).2.2 with
 | false => rfl
 | true =>
  cases h2 : kba l with
  | false =>
   have h2 : ¬ (1 ≤ l ∧ l ≤ 1048576) := fun e => by rw [kg9.2 e] at h2; cases h2
   simp only [Bool.not_true, cond_false]
   refine kgb (fun _ => rfl) fun k1 => ?_
   rw [decide_eq_false_iff_not] at k1
   rw [condT (by rw [decide_eq_true_eq]; omega)]
   rfl
  | true =>
   obtain ⟨b1, b2⟩ := kg9.1 h2
   rw [decide_eq_false (by omega : ¬ l < 1), decide_eq_false (by omega : ¬ l > 1048576)]
   simp only [Bool.not_true, cond_false]
   unfold subQ addQ
   exact congrArg (fun r => some (Sum.inr r)) (eta4 _))
theorem k5d {h : AH} (l g n G N : Int) : Runs (go (.fn F.klu [.int .i64 l, .agg [.int .i64 g, .int .i64 n], .agg [.int .i64 G, .int .i64 N]]) h) (ks4 h (gainF l g n G N)) := kvb (k01 l g n G N)
theorem kx1 {h : AH} (l g n G N : Int) : Runs (go (.fn F.kj0 [.int .i64 l, .agg [.int .i64 g, .int .i64 n], .agg [.int .i64 G, .int .i64 N]]) h) (kri h (gainF l g n G N)) := k21 (k2u l g n G N)
theorem knz {z : Int} {d : Nat} (hd : 0 < d) (hz : z.natAbs < B ^ 16) (hd' : d < B ^ 16) : ∃ (w : Int) (e : Nat), fracM z d = ((intD w).1, (intD w).2, digs B e, 0) ∧ IsFrac (fracM z d).1 (fracM z d).2.1 (fracM z d).2.2.1 w e ∧ w.natAbs ≤ z.natAbs ∧ e ≤ d := by
 have h0 : (fracM z d).2.2.2 = 0 := by
  unfold fracM
  rw [if_pos ⟨Nat.lt_of_le_of_lt (Nat.div_le_self _ _) hz, Nat.lt_of_le_of_lt (Nat.div_le_self _ _) hd'⟩]
 obtain ⟨w, e, e1, f, _, g, hg, e2, e3⟩ := kz6 hd h0
 refine ⟨w, e, e1, f, ?_, ?_⟩
 ·rw [e2, Int.natAbs_mul, Int.natAbs_natCast]
  exact Nat.le_mul_of_pos_right _ hg
 ·rw [e3]
  exact Nat.le_mul_of_pos_left _ hg
theorem kp2 {g n G N : Int} (h : (kq g n G N).2.2 = true) : kw g n = true ∧ kw G N = true ∧ kw (G - g) (N - n) = true ∧ kq g n G N = (G - g, N - n, true) := by
 unfold kq at h ⊢
 cases h1 : kw g n with
 | false => rw [h1] at h; cases h
 | true =>
  cases h2 : kw G N with
  | false => rw [h1, h2] at h; cases h
  | true =>
   obtain ⟨a1, a2, a3, a4⟩ := kib.1 h1
   obtain ⟨b1, b2, b3, b4⟩ := kib.1 h2
   rw [h1, h2, wrap64 (by omega) (by omega), wrap64 (by omega) (by omega)] at h
   have h : kw (G - g) (N - n) = true := h
   rw [wrap64 (by omega) (by omega), wrap64 (by omega) (by omega), h]
   exact ⟨rfl, rfl, rfl, rfl⟩
theorem kqe : 1099511627776 * 1099511627776 * 2097152 * 8 < B ^ 16 := by decide +kernel
theorem kpd {l g n : Int} (h1 : kw g n = true) (h2 : kba l = true) : ∃ (w : Int) (e : Nat), scoreF l g n = ((intD w).1, (intD w).2, digs B e, 0) ∧ IsFrac (scoreF l g n).1 (scoreF l g n).2.1 (scoreF l g n).2.2.1 w e ∧ w.natAbs ≤ 1099511627776 * 1099511627776 ∧ e ≤ 2097152 := by
 obtain ⟨a1, a2, a3, a4⟩ := kib.1 h1
 obtain ⟨b1, b2⟩ := kg9.1 h2
 have hs := sq_lt a1 a2
 have hb := kqe
 unfold scoreF
 rw [if_pos ⟨h1, h2⟩]
 obtain ⟨w, e, e1, f, l1, l2⟩ := knz (z := g * g) (d := (n + l).toNat) (by omega) (by omega) (by omega)
 exact ⟨w, e, e1, f, by omega, by omega⟩
theorem kgz {a b c d : Nat} (h1 : a ≤ c) (h2 : b ≤ d) : a * b ≤ c * d := Nat.mul_le_mul h1 h2
theorem kvo {l g n g' n' : Int} (h1 : kw g n = true) (h1' : kw g' n' = true) (h2 : kba l = true) : ∃ (w : Int) (e : Nat), addQ (scoreF l g n) (scoreF l g' n') = ((intD w).1, (intD w).2, digs B e, 0) ∧ IsFrac (addQ (scoreF l g n) (scoreF l g' n')).1 (addQ (scoreF l g n) (scoreF l g' n')).2.1 (addQ (scoreF l g n) (scoreF l g' n')).2.2.1 w e ∧ w.natAbs ≤ 1099511627776 * 1099511627776 * 2097152 * 2 ∧ e ≤ 2097152 * 2097152 := by
 obtain ⟨w, e, _, f, l1, l2⟩ := kpd h1 h2
 obtain ⟨w', e', _, f', l1', l2'⟩ := kpd h1' h2
 have hb := kqe
 unfold addQ
 rw [Add_of f f']
 have p1 : (w * (e' : Int)).natAbs ≤ 1099511627776 * 1099511627776 * 2097152 := by rw [Int.natAbs_mul, Int.natAbs_natCast]; exact kgz l1 l2'
 have p2 : (w' * (e : Int)).natAbs ≤ 1099511627776 * 1099511627776 * 2097152 := by rw [Int.natAbs_mul, Int.natAbs_natCast]; exact kgz l1' l2
 have p3 : e * e' ≤ 2097152 * 2097152 := kgz l2 l2'
 have p4 : 0 < e * e' := Nat.mul_pos f.pos f'.pos
 obtain ⟨x, c, e1, fx, m1, m2⟩ := knz (z := w * (e' : Int) + w' * (e : Int)) (d := e * e') p4 (by omega) (by omega)
 exact ⟨x, c, e1, fx, by omega, by omega⟩
theorem k68 : 1099511627776 * 1099511627776 * 2097152 * 2 * 2097152 + 1099511627776 * 1099511627776 * (2097152 * 2097152) < B ^ 16 := by decide +kernel
theorem ktj {l g n G N : Int} (h1 : (kq g n G N).2.2 = true) (h2 : kba l = true) : (gainF l g n G N).2.2.2 = 0 := by
 obtain ⟨m1, m2, m3, e⟩ := kp2 h1
 unfold gainF
 rw [h1, h2, e]
 obtain ⟨w, c, _, f, l1, l2⟩ := kvo m1 m3 h2
 obtain ⟨w', c', _, f', l1', l2'⟩ := kpd m2 h2
 have hb := k68
 simp only [Bool.not_true, cond_false]
 unfold subQ
 rw [Sub_of f f']
 have p1 : (w * (c' : Int)).natAbs ≤ 1099511627776 * 1099511627776 * 2097152 * 2 * 2097152 := by rw [Int.natAbs_mul, Int.natAbs_natCast]; exact kgz l1 l2'
 have p2 : (w' * (c : Int)).natAbs ≤ 1099511627776 * 1099511627776 * (2097152 * 2097152) := by rw [Int.natAbs_mul, Int.natAbs_natCast]; exact kgz l1' l2
 have p3 : c * c' ≤ 2097152 * 2097152 * 2097152 := kgz l2 l2'
 have p4 : 0 < c * c' := Nat.mul_pos f.pos f'.pos
 obtain ⟨x, y, e1, fx, m1, m2⟩ := knz (z := w * (c' : Int) - w' * (c : Int)) (d := c * c') p4 (by omega) (by omega)
 rw [e1]
theorem k2o (l g n G N : Int) : (gainF l g n G N).2.2.2 = 0 ∨ (gainF l g n G N).2.2.2 = 1 := by
 cases h1 : (kq g n G N).2.2 with
 | false => right; unfold gainF; rw [h1]; rfl
 | true =>
  cases h2 : kba l with
  | false => right; unfold gainF; rw [h1, h2]; rfl
  | true => exact Or.inl (ktj h1 h2)
theorem k4a {l g n G N : Int} (h : (gainF l g n G N).2.2.2 = 0) : (kq g n G N).2.2 = true ∧ kba l = true := by
 unfold gainF at h
 cases h1 : (kq g n G N).2.2 with
 | false => rw [h1] at h; cases h
 | true =>
  cases h2 : kba l with
  | false => rw [h1, h2] at h; cases h
  | true => exact ⟨rfl, rfl⟩
end Go.Ab

/- squeezed -/
set_option linter.unusedVariables false
set_option linter.unusedSimpArgs false
set_option maxRecDepth 10000
namespace Go.Ab
open Go.Proofs Go.Num
inductive kg0
 | fn
 | no
abbrev kfz := Bool
noncomputable def kji  : Option (kg0 ⊕ kfz) :=
 cond (decide (((scoreF 1 4 1).2.2.2) = 0)) (cond (decide ((List.length ((scoreF 1 4 1).2.1) : Int) = 1)) ((atI ((scoreF 1 4 1).2.1) 0).bind fun y6 => some (.inr (decide (((y6 : Int)) = 8)))) (some (.inr false))) (some (.inr false))
noncomputable def kue : kg0 → Option (kg0 ⊕ kfz)
 | .fn  => kji
 | .no => none
@[reducible] def k5s (h0 : AH) (r : kfz) (v : AV) (h' : AH) : Prop := v = .bool r ∧ Grow h0 h'
def koe (r : kfz) : kg0 → Prop
 | .fn  => ∀ {h : AH}, Runs (go (.fn F.klh []) h) (k5s h r)
 | .no => True
theorem k3j {r : kfz} {o : kg0 ⊕ kfz}  (e : kji  = some o) (good : GoodS (koe r) r o) : koe r (.fn ) := by
 intro h
 rw [k1i]
 unfold kji at e
 obtain ⟨_, H1, e1, s1, s1b, rfl, n1, n1b, g1, o1, o1b⟩ := klq 1 4 1
 refine Runs.step e1 ?_
 refine Runs.step rfl ?_
 refine Runs.step rfl ?_
 refine Runs.ifT rfl ?_
 refine Runs.step (seenAt rfl rfl) ?_
 refine Runs.step (seenAt rfl (asSl_v _)) ?_
 refine Runs.step (seenAt rfl (asSl_v _)) ?_
 refine Runs.step (seen (kb _ _)) ?_
 refine Runs.new fun H2 b2 g2 => ?_
 refine Runs.puts b2 rfl fun H3 b3 u3 => ?_
 refine Runs.cond (fun k4 => ?_) (fun k4 => ?_)
 ·replace e := (condT k4).symm.trans e
  refine Runs.step (AH.has.rd b3 1 rfl (asSl_v _)) ?_
  rw [(n1.grow (g2.updr (Nat.le_refl _) u3)).len]
  refine Runs.cond (fun k5 => ?_) (fun k5 => ?_)
  ·replace e := (condT k5).symm.trans e
   refine Runs.step (AH.has.rd b3 1 rfl (asSl_v _)) ?_
   rw [(n1.grow (g2.updr (Nat.le_refl _) u3)).len]
   obtain ⟨y6, q6, e⟩ := Option.bind_eq_some_iff.1 e
   obtain ⟨r6, j6, l6⟩ := (n1.grow (g2.updr (Nat.le_refl _) u3)).atI q6
   refine Runs.step j6 ?_
   refine Runs.step (rdc l6 (kb _ _)) ?_
   cases e
   cases good
   have G7 := ((g1.trans g2).updr (Nat.le_trans (g1).size (Nat.le_refl _)) u3)
   exact Runs.ret ⟨rfl, G7⟩
  ·replace e := (condF k5).symm.trans e
   cases e
   cases good
   have G6 := ((g1.trans g2).updr (Nat.le_trans (g1).size (Nat.le_refl _)) u3)
   exact Runs.ret ⟨rfl, G6⟩
 ·replace e := (condF k4).symm.trans e
  cases e
  cases good
  have G5 := ((g1.trans g2).updr (Nat.le_trans (g1).size (Nat.le_refl _)) u3)
  exact Runs.ret ⟨rfl, G5⟩
theorem k02 {s : kg0} {r : kfz} (it : Iter kue s r) : koe r s := Iter.ind (fun s o e good => by
 cases s with
 | fn  => exact @k3j _ _  e good
 | no => exact True.intro
 ) it
theorem k1j : scoreF 1 4 1 = (false, [8], [1], 0) := by decide +kernel
theorem kyg {h : AH} : ∃ h', go (.fn F.klh []) h = some (.bool true, h') ∧ Grow h h' := by
 have it : Iter kue .fn true := .done (by
  show kji = _
  unfold kji
  rw [k1j]
  rfl)
 obtain ⟨_, h', e, rfl, g⟩ := k02 it (h := h)
 exact ⟨h', e, g⟩
end Go.Ab

/- squeezed -/
set_option linter.unusedVariables false
set_option linter.unusedSimpArgs false
set_option maxRecDepth 10000
namespace Go.Ab
open Go.Proofs Go.Num
end Go.Ab

/- squeezed -/
set_option linter.unusedVariables false
set_option linter.unusedSimpArgs false
namespace Go.Ab
variable {P : Program}
inductive All2 {α β : Type} (R : α → β → Prop) : List α → List β → Prop
 | nil : All2 R [] []
 | cons {a : α} {b : β} {ls : List α} {bs : List β} : R a b → All2 R ls bs → All2 R (a :: ls) (b :: bs)
section
variable {α β : Type} {R S : α → β → Prop}
theorem All2.imp (f : ∀ a b, R a b → S a b) {ls : List α} {bs : List β} (a : All2 R ls bs) : All2 S ls bs := by
 induction a with
 | nil => exact .nil
 | cons h _ ih => exact .cons (f _ _ h) ih
theorem All2.length {ls : List α} {bs : List β} (a : All2 R ls bs) : ls.length = bs.length := by
 induction a with
 | nil => rfl
 | cons h _ ih => simp [ih]
theorem All2.get {ls : List α} {bs : List β} (a : All2 R ls bs) : ∀ {i : Nat} {y : β}, bs[i]? = some y → ∃ x, ls[i]? = some x ∧ R x y := by
 induction a with
 | nil => intro i y h; simp at h
 | cons h _ ih =>
  intro i y hy
  cases i with
  | zero => cases hy; exact ⟨_, rfl, h⟩
  | succ i => exact ih hy
theorem All2.snoc {ls : List α} {bs : List β} (a : All2 R ls bs) {x : α} {y : β} (h : R x y) : All2 R (ls ++ [x]) (bs ++ [y]) := by
 induction a with
 | nil => exact .cons h .nil
 | cons h' _ ih => exact .cons h' ih
end
structure El (α : Type) where
 w : Nat
 pos : 0 < w
 has : AH → List AV → α → Prop
 av : Nat → List AV → α → Prop
 len : ∀ {h : AH} {cs : List AV} {a : α}, has h cs a → cs.length = w
 grow : ∀ {h h' : AH} {cs : List AV} {a : α}, Grow h h' → has h cs a → has h' cs a
 upd : ∀ {h h' : AH} {i : Nat} {cs : List AV} {a : α}, has h cs a → av i cs a → Upd h h' i → has h' cs a
 new : ∀ {h : AH} {i : Nat} {cs : List AV} {a : α}, has h cs a → h.blks.size ≤ i → av i cs a
def El.int (k : IntKind) : El Int where
 w := 1
 pos := by decide
 has _ cs n := cs = [.int k n]
 av _ _ _ := True
 len e := by rw [e]; rfl
 grow _ e := e
 upd e _ _ := e
 new _ _ := trivial
def El.bool : El Bool where
 w := 1
 pos := by decide
 has _ cs b := cs = [.bool b]
 av _ _ _ := True
 len e := by rw [e]; rfl
 grow _ e := e
 upd e _ _ := e
 new _ _ := trivial
theorem Sl.vs_inj {s t : Sl} (h : [Sl.v s] = [Sl.v t]) : s = t := by
 cases s; cases t
 simp only [Sl.v, List.cons.injEq, AV.slice.injEq, and_true] at h
 obtain ⟨rfl, rfl, rfl⟩ := h
 rfl
def El.nats : El (List Nat) where
 w := 1
 pos := by decide
 has h cs xs := ∃ s, cs = [Sl.v s] ∧ Nats h s xs
 av i cs xs := ∃ s, cs = [Sl.v s] ∧ Av s i xs
 len := fun ⟨s, e, _⟩ => by rw [e]; rfl
 grow g := fun ⟨s, e, n⟩ => ⟨s, e, n.grow g⟩
 upd := fun ⟨s, e, n⟩ ⟨t, e', a⟩ u => by
  rw [e] at e'
  cases Sl.vs_inj e'
  exact ⟨s, e, n.upda a u⟩
 new := fun ⟨s, e, n⟩ hi => ⟨s, e, Av.of_base n hi⟩
def El.pair {α β : Type} (A : El α) (B : El β) : El (α × β) where
 w := A.w + B.w
 pos := by have := A.pos; omega
 has h cs p := ∃ c1 c2, cs = c1 ++ c2 ∧ A.has h c1 p.1 ∧ B.has h c2 p.2
 av i cs p := ∃ c1 c2, cs = c1 ++ c2 ∧ c1.length = A.w ∧ A.av i c1 p.1 ∧ B.av i c2 p.2
 len := fun ⟨c1, c2, e, a, b⟩ => by rw [e, List.length_append, A.len a, B.len b]
 grow g := fun ⟨c1, c2, e, a, b⟩ => ⟨c1, c2, e, A.grow g a, B.grow g b⟩
 upd := fun ⟨c1, c2, e, a, b⟩ ⟨d1, d2, e', l, a', b'⟩ u => by
  rw [e] at e'
  obtain ⟨rfl, rfl⟩ := List.append_inj e' (by rw [A.len a, l])
  exact ⟨c1, c2, e, A.upd a a' u, B.upd b b' u⟩
 new := fun ⟨c1, c2, e, a, b⟩ hi => ⟨c1, c2, e, A.len a, A.new a hi, B.new b hi⟩
theorem kew {w : Nat} : ∀ {rows : List (List AV)}, (∀ r ∈ rows, r.length = w) → rows.flatten.length = rows.length * w
 | [], _ => by simp
 | r :: rows, h => by
  rw [List.flatten_cons, List.length_append, kew (fun q hq => h q (by simp [hq])), h r (by simp), List.length_cons, Nat.add_mul]
  omega
theorem kkl {w : Nat} : ∀ {rows : List (List AV)}, (∀ r ∈ rows, r.length = w) → ∀ {i : Nat} {r : List AV} {k : Nat} {v : AV}, rows[i]? = some r → r[k]? = some v → rows.flatten[i * w + k]? = some v
 | [], _, i, r, k, v, hi, _ => by simp at hi
 | q :: rows, h, 0, r, k, v, hi, hk => by
  cases hi
  rw [List.flatten_cons, List.getElem?_append_left (by have := (List.getElem?_eq_some_iff.1 hk).1; omega)]
  simpa using hk
 | q :: rows, h, i + 1, r, k, v, hi, hk => by
  have := kkl (fun q hq => h q (by simp [hq])) (show rows[i]? = some r from hi) hk
  rw [List.flatten_cons, List.getElem?_append_right (by rw [h q (by simp), Nat.add_mul]; omega), h q (by simp), show (i + 1) * w + k - w = i * w + k from by rw [Nat.add_mul]; omega]
  exact this
theorem All2.rows {α : Type} {E : El α} {h : AH} {rows : List (List AV)} {xs : List α} (a : All2 (E.has h) rows xs) : ∀ r ∈ rows, r.length = E.w := by
 induction a with
 | nil => simp
 | cons h' _ ih =>
  intro r hr
  rcases List.mem_cons.1 hr with rfl | hr
  ·exact E.len h'
  ·exact ih r hr
structure Seq {α : Type} (E : El α) (h : AH) (s : Sl) (xs : List α) : Prop where
 rows : ∃ rows, Cells h s E.w rows.flatten ∧ All2 (E.has h) rows xs
 len : s.len = xs.length
 short : xs.length ≤ 9223372036854775807
theorem Seq.grow {α : Type} {E : El α} {h h' : AH} {s : Sl} {xs : List α} (n : Seq E h s xs) (g : Grow h h') : Seq E h' s xs := by
 obtain ⟨⟨rows, c, a⟩, l, sh⟩ := n
 exact ⟨⟨rows, c.grow g, a.imp fun _ _ => E.grow g⟩, l, sh⟩
theorem Seq.nil {α : Type} (E : El α) (h : AH) : Seq E h ⟨none, 0, .is 0⟩ [] := ⟨⟨[], Cells.nil h _, .nil⟩, rfl, by simp⟩
def atX {α : Type} (xs : List α) (i : Int) : Option α := if 0 ≤ i then xs[i.toNat]? else none
theorem kq6 {α : Type} {xs : List α} {i : Int} {y : α} (q : atX xs i = some y) : ∃ j : Nat, i = (j : Int) ∧ xs[j]? = some y := by
 unfold atX at q
 split at q
 ·exact ⟨i.toNat, by omega, q⟩
 ·cases q
theorem kow {α : Type} {xs : List α} {i : Nat} (h : i < xs.length) : atX xs (i : Int) = some xs[i] := by
 unfold atX
 rw [if_pos (by omega), Int.toNat_natCast, List.getElem?_eq_getElem h]
structure Lies (h : AH) (r : Ref) (cs : List AV) : Prop where
 at' : ∀ k v, cs[k]? = some v → h.cell (r.add k) = some v
theorem Lies.rd {A : Type} {f : AV → Option A} {h h' : AH} {r : Ref} {cs : List AV} (l : Lies h r cs) (g : Grow h h') (k : Nat) {v : AV} {x : A} (hk : cs[k]? = some v) (hf : f v = some x) : (h'.cell (r.add k)).bind f = some x := by
 rw [g.cell_some (l.at' k v hk)]
 exact hf
theorem Lies.rd0 {A : Type} {f : AV → Option A} {h h' : AH} {r : Ref} {cs : List AV} (l : Lies h r cs) (g : Grow h h') {v : AV} {x : A} (hk : cs[0]? = some v) (hf : f v = some x) : (h'.cell r).bind f = some x := by
 have := l.rd g 0 hk hf
 rwa [Ref.add_zero] at this
theorem Seq.at {α : Type} {E : El α} {h : AH} {s : Sl} {xs : List α} (n : Seq E h s xs) {i : Int} {y : α} (q : atX xs i = some y) : ∃ (r : Ref) (cs : List AV), idx s.ref xs.length i E.w = some r ∧ E.has h cs y ∧ Lies h r cs := by
 obtain ⟨⟨rows, c, a⟩, l, sh⟩ := n
 obtain ⟨j, rfl, hj⟩ := kq6 q
 obtain ⟨cs, e1, e2⟩ := a.get hj
 have hjl := (List.getElem?_eq_some_iff.1 hj).1
 have hr := a.rows
 have key : ∀ k v, cs[k]? = some v → ∃ r, s.ref = some r ∧ h.cell (r.add (j * E.w + k)) = some v := fun k v hk => c.get _ _ (kkl hr e1 hk)
 cases hs : s.ref with
 | none =>
  exfalso
  cases cs with
  | nil => have := E.len e2; have := E.pos; simp at *; omega
  | cons v vs =>
   obtain ⟨r, e, _⟩ := key 0 v rfl
   rw [hs] at e
   cases e
 | some r =>
  refine ⟨r.add (j * E.w), cs, ?_, e2, ⟨fun k v hk => ?_⟩⟩
  ·rw [kc2 _ _ _ _ (by omega) (by omega)]
   simp
  ·obtain ⟨r', e, e'⟩ := key k v hk
   rw [hs] at e
   cases e
   rw [Ref.add_add]
   exact e'
structure GL {α : Type} (E : El α) (elem : TypeId) (h : AH) (s : Sl) (i : Nat) (xs : List α) : Prop where
 rows : ∃ rows, Cells h s E.w rows.flatten ∧ All2 (fun cs a => E.has h cs a ∧ E.av i cs a) rows xs
 len : s.len = xs.length
 own : s.cap = .is s.len ∨ (s.ref = some (.new i 0) ∧ s.cap = .opn E.w ∧ ∃ bs, h.has i bs elem)
 loc : ∀ r, s.ref = some r → ∃ o, r = .new i o
theorem GL.nil {α : Type} (E : El α) (elem : TypeId) (h : AH) (i : Nat) : GL E elem h ⟨none, 0, .is 0⟩ i [] :=
 ⟨⟨[], Cells.nil h _, .nil⟩, rfl, .inl rfl, fun r hr => by cases hr⟩
theorem GL.one {α : Type} {E : El α} {elem e : TypeId} {h : AH} {i : Nat} {cs : List AV} {x : α} (b : h.has i cs e) (c : E.has h cs x) (a : E.av i cs x) : GL E elem h ⟨some (.new i 0), 1, .is 1⟩ i [x] :=
 ⟨⟨[cs], Cells.of_has (by simpa using b) (by simp [E.len c]), .cons ⟨c, a⟩ .nil⟩, rfl, .inl rfl, fun r hr => by cases hr; exact ⟨_, rfl⟩⟩
theorem GL.grow {α : Type} {E : El α} {elem : TypeId} {h h' : AH} {s : Sl} {i : Nat} {xs : List α} (v : GL E elem h s i xs) (g : Grow h h') : GL E elem h' s i xs := by
 obtain ⟨⟨rows, c, a⟩, l, o, lo⟩ := v
 exact ⟨⟨rows, c.grow g, a.imp fun _ _ p => ⟨E.grow g p.1, p.2⟩⟩, l, o.imp id fun ⟨e1, e2, bs, b⟩ => ⟨e1, e2, bs, g.has b⟩, lo⟩
theorem GL.seq {α : Type} {E : El α} {elem : TypeId} {h : AH} {s : Sl} {i : Nat} {xs : List α} (v : GL E elem h s i xs) (hs : xs.length ≤ 9223372036854775807) : Seq E h s xs := by
 obtain ⟨⟨rows, c, a⟩, l, o, lo⟩ := v
 exact ⟨⟨rows, c, a.imp fun _ _ p => p.1⟩, l, hs⟩
theorem GL.own_of {α : Type} {E : El α} {elem : TypeId} {h h0 : AH} {s : Sl} {i : Nat} {xs : List α} (v : GL E elem h s i xs) (hi : h0.blks.size ≤ i) : Own h0 s := fun r hr => by
 obtain ⟨o, rfl⟩ := v.loc r hr
 exact ⟨i, o, rfl, hi⟩
theorem AH.kill_Upd (h : AH) (i : Nat) : Upd h (h.kill (some (.new i 0))) i :=
 ⟨rfl, by simp [AH.kill], fun j hj _ => by
  show (h.blks.setIfInBounds i .dead)[j]? = _
  rw [Array.getElem?_setIfInBounds_ne (fun x => hj x.symm)]⟩
theorem GL.push {α : Type} {E : El α} {elem : TypeId} {h : AH} {s : Sl} {i : Nat} {xs : List α} (v : GL E elem h s i xs) {cs : List AV} {x : α} (c : E.has h cs x) (a : E.av i cs x) (hg : growOk P (xs.length + 1) elem E.w = true) :
  ∃ s' h', kx P s cs 1 elem E.w h = some (s'.v, h') ∧ GL E elem h' s' h.blks.size (xs ++ [x]) ∧ Upd h h' i := by
 obtain ⟨⟨rows, cc, aa⟩, l, o, lo⟩ := v
 rw [← l] at hg
 have fl : (s.len + 1) * E.w = (rows.flatten ++ cs).length := by rw [Nat.add_mul, cc.len, List.length_append, E.len c, Nat.one_mul]
 have fr : rows.flatten ++ cs = (rows ++ [cs]).flatten := by simp
 rcases o with e | ⟨e1, e2, bs, b⟩
 ·rw [ke5 e (by omega) hg cc]
  refine ⟨_, _, rfl, ⟨⟨rows ++ [cs], ⟨rfl, by rw [← fr]; exact fl, fun j w hw => ⟨_, rfl, ?_⟩⟩, ?_⟩, by simp [l], .inr ⟨rfl, rfl, rows.flatten ++ cs, AH.has_push _ _ _⟩, fun r hr => by cases hr; exact ⟨_, rfl⟩⟩, (Grow.push _ _).toUpd i⟩
  ·rw [fr]
   simpa using hw
  ·refine All2.snoc (aa.imp fun _ _ p => ?_) ⟨E.grow (Grow.push _ _) c, E.new c (Nat.le_refl _)⟩
   exact ⟨E.grow (Grow.push _ _) p.1, E.new p.1 (Nat.le_refl _)⟩
 ·have hap : kx P s cs 1 elem E.w h = some (Sl.v ⟨some (.new h.blks.size 0), s.len + 1, .opn E.w⟩, (h.kill s.ref).push (.cells (rows.flatten ++ cs) elem)) := by
   unfold kx
   simp only [e2]
   rw [show Nat.beq 1 0 = false from rfl, show Nat.beq E.w E.w = true from Nat.beq_refl _]
   simp only [cond_false, hg, Bool.and_true, cond_true, e1, show h.blks[i]? = _ from b]
   have hgets := cc.gets
   rw [e1] at hgets
   simp only [hgets, Option.bind_some]
   rw [show Nat.beq elem elem = true from Nat.beq_refl _, cond_true]
   have : (AH.kill h (some (Ref.new i 0))).blks.size = h.blks.size := by simp [AH.kill]
   simp [AH.next, this, Sl.v]
   rfl
  rw [hap, e1]
  have sz : (h.kill (some (.new i 0))).blks.size = h.blks.size := by simp [AH.kill]
  have u : Upd h (h.kill (some (.new i 0))) i := AH.kill_Upd h i
  refine ⟨_, _, rfl, ⟨⟨rows ++ [cs], ⟨rfl, by rw [← fr]; exact fl, fun j w hw => ⟨_, rfl, ?_⟩⟩, ?_⟩, by simp [l], .inr ⟨rfl, rfl, rows.flatten ++ cs, ?_⟩, fun r hr => by cases hr; exact ⟨_, rfl⟩⟩, u.trans ((Grow.push _ _).toUpd i)⟩
  ·rw [fr, ← sz]
   simpa using hw
  ·refine All2.snoc (aa.imp fun _ _ p => ?_) ⟨E.grow (Grow.push _ _) (E.upd c a u), E.new c (Nat.le_refl _)⟩
   exact ⟨E.grow (Grow.push _ _) (E.upd p.1 p.2 u), E.new p.1 (Nat.le_refl _)⟩
  ·have := AH.has_push (h.kill (some (.new i 0))) (rows.flatten ++ cs) elem
   rw [sz] at this
   exact this
theorem koa {h : AH} {i n : Nat} {cs : List AV} {e elem : TypeId} (b : h.has i cs e) (hl : n * P.cellsOf elem = cs.length) : kbj P elem (Sl.v ⟨some (.new i 0), n, .is n⟩) h = some (cs, n) :=
 khm (Cells.of_has b hl)
section
variable {Q : AV → AH → Prop}
end
end Go.Ab

/- squeezed -/
set_option linter.unusedVariables false
set_option linter.unusedSimpArgs false
namespace Go.Ab
end Go.Ab

/- squeezed -/
set_option linter.unusedVariables false
set_option linter.unusedSimpArgs false
namespace Go.Ab
variable {P : Program}
def UpdO (h h' : AH) : Option Nat → Prop
 | none => Grow h h'
 | some k => Upd h h' k
def AvO (s : Sl) (xs : List Nat) : Option Nat → Prop
 | none => True
 | some k => Av s k xs
def LeO (n : Nat) : Option Nat → Prop
 | none => True
 | some k => n ≤ k
def LtO (n : Nat) : Option Nat → Prop
 | none => True
 | some k => k < n
def NeO (j : Nat) : Option Nat → Prop
 | none => True
 | some k => j ≠ k
def NeOO : Option Nat → Option Nat → Prop
 | none, _ => True
 | some j, i => NeO j i
theorem LeO.trans {m n : Nat} (h : m ≤ n) : ∀ {i : Option Nat}, LeO n i → LeO m i
 | none, _ => trivial
 | some k, l => Nat.le_trans h l
theorem NeO.of_le {j n : Nat} : ∀ {i : Option Nat}, LeO n i → j < n → NeO j i
 | none, _, _ => trivial
 | some k, l, h => by
  have : n ≤ k := l
  show j ≠ k
  omega
theorem NeOO.of_le {n : Nat} : ∀ {j i : Option Nat}, LtO n j → LeO n i → NeOO j i
 | none, _, _, _ => trivial
 | some j, _, l, h => NeO.of_le h l
theorem AvO.of_base {h0 : AH} {s : Sl} {xs : List Nat} (n : Nats h0 s xs) : ∀ {i : Option Nat}, LeO h0.blks.size i → AvO s xs i
 | none, _ => trivial
 | some k, l => Av.of_base n l
theorem AvO.of_own {h1 : AH} {s : Sl} {xs : List Nat} (o : Own h1 s) : ∀ {i : Option Nat}, LtO h1.blks.size i → AvO s xs i
 | none, _ => trivial
 | some k, l => Av.of_own o l
theorem AvO.nil (i : Option Nat) (s : Sl) : AvO s [] i := by
 cases i
 ·trivial
 ·exact .inl rfl
theorem UpdO.trans {h1 h2 h3 : AH} : ∀ {i : Option Nat}, UpdO h1 h2 i → UpdO h2 h3 i → UpdO h1 h3 i
 | none, u, w => Grow.trans u w
 | some k, u, w => Upd.trans u w
theorem Grow.updo {h h1 h2 : AH} (g : Grow h h1) : ∀ {i : Option Nat}, LeO h.blks.size i → UpdO h1 h2 i → Grow h h2
 | none, _, u => g.trans u
 | some k, l, u => g.updr l u
theorem AH.has.updo {h1 h2 : AH} {j : Nat} {cs : List AV} {e : TypeId} (b : h1.has j cs e) : ∀ {i : Option Nat}, NeO j i → UpdO h1 h2 i → h2.has j cs e
 | none, _, u => u.has b
 | some k, l, u => AH.has.updr b l u
theorem Vec.updo {h1 h2 : AH} {s : Sl} {j : Nat} {xs : List Nat} (b : Vec h1 s j xs) : ∀ {i : Option Nat}, NeO j i → UpdO h1 h2 i → Vec h2 s j xs
 | none, _, u => b.grow u
 | some k, l, u => b.updr l u
theorem Nats.updo {h1 h2 : AH} {s : Sl} {xs : List Nat} (b : Nats h1 s xs) : ∀ {i : Option Nat}, AvO s xs i → UpdO h1 h2 i → Nats h2 s xs
 | none, _, u => b.grow u
 | some k, l, u => b.upda l u
def GO {α : Type} (E : El α) (elem : TypeId) (h : AH) (s : Sl) (i : Option Nat) (xs : List α) : Prop :=
 xs.length ≤ 9223372036854775807 ∧ match i with
 | none => s = ⟨none, 0, .is 0⟩ ∧ xs = []
 | some k => GL E elem h s k xs ∧ k < h.blks.size
def AvE {α : Type} (E : El α) (cs : List AV) (x : α) : Option Nat → Prop
 | none => True
 | some k => E.av k cs x
variable {α : Type} {E : El α} {elem : TypeId}
theorem GO.none (E : El α) (elem : TypeId) (h : AH) : GO E elem h ⟨none, 0, .is 0⟩ none [] := ⟨by simp, rfl, rfl⟩
theorem GO.one {h : AH} {i : Nat} {cs : List AV} {x : α} {e : TypeId} (b : h.has i cs e) (c : E.has h cs x) (a : E.av i cs x) : GO E elem h ⟨some (.new i 0), 1, .is 1⟩ (some i) [x] :=
 ⟨by simp, GL.one b c a, b.lt⟩
theorem GO.grow {h h' : AH} {s : Sl} : ∀ {i : Option Nat} {xs : List α}, GO E elem h s i xs → Grow h h' → GO E elem h' s i xs
 | .none, _, v, g => v
 | .some k, _, ⟨l, v, lt⟩, g => ⟨l, v.grow g, Nat.lt_of_lt_of_le lt g.size⟩
theorem GO.lt {h : AH} {s : Sl} : ∀ {i : Option Nat} {xs : List α}, GO E elem h s i xs → LtO h.blks.size i
 | .none, _, _ => trivial
 | .some k, _, v => v.2.2
theorem GO.seq {h : AH} {s : Sl} : ∀ {i : Option Nat} {xs : List α}, GO E elem h s i xs → Seq E h s xs
 | .none, xs, ⟨_, e1, e2⟩ => by
  subst e1; subst e2
  exact Seq.nil E h
 | .some k, _, v => v.2.1.seq v.1
theorem GO.len {h : AH} {s : Sl} {i : Option Nat} {xs : List α} (v : GO E elem h s i xs) : s.len = xs.length := v.seq.len
theorem GO.own {h h0 : AH} {s : Sl} : ∀ {i : Option Nat} {xs : List α}, GO E elem h s i xs → LeO h0.blks.size i → Own h0 s
 | .none, _, v, _ => fun r hr => by rw [v.2.1] at hr; cases hr
 | .some k, _, v, l => v.2.1.own_of l
theorem GL.lt {h : AH} {s : Sl} {i : Nat} {x : α} {xs : List α} (v : GL E elem h s i (xs ++ [x])) : i < h.blks.size := by
 obtain ⟨⟨rows, c, a⟩, l, o, lo⟩ := v
 have hr : rows.length = xs.length + 1 := by have := All2.length a; simpa using this
 have hf := kew (w := E.w) (rows := rows) (All2.rows (a.imp fun _ _ p => p.1))
 have hp := E.pos
 have h0 : 0 < rows.flatten.length := by
  rw [hf, hr]
  exact Nat.mul_pos (by omega) hp
 obtain ⟨r, e1, e2⟩ := c.get 0 _ (List.getElem?_eq_getElem h0)
 obtain ⟨k, rfl⟩ := lo r e1
 have := AH.cell_inn e2
 rw [Ref.add_new] at this
 exact this
theorem kth {n m : Nat} (h : growOk P n elem m = true) : n ≤ 9223372036854775807 := by
 unfold growOk at h
 rw [Bool.and_eq_true, decide_eq_true_eq] at h
 have := h.1.2
 simp only [kbx] at this
 omega
theorem GO.push {h : AH} {s : Sl} {i : Option Nat} {xs : List α} (v : GO E elem h s i xs) {cs : List AV} {x : α} (c : E.has h cs x) (a : AvE E cs x i) (hg : growOk P (xs.length + 1) elem E.w = true) :
  ∃ s' h', kx P s cs 1 elem E.w h = some (s'.v, h') ∧ GO E elem h' s' (some h.blks.size) (xs ++ [x]) ∧ UpdO h h' i := by
 have hl := kth hg
 cases i with
 | none =>
  obtain ⟨_, e1, e2⟩ := v
  subst e1; subst e2
  obtain ⟨s', h', e, v', u⟩ := (GL.nil E elem h h.blks.size).push c (E.new c (Nat.le_refl _)) hg
  exact ⟨s', h', e, ⟨by simp, v', v'.lt⟩, (Grow.refl h).updr (Nat.le_refl _) u⟩
 | some k =>
  obtain ⟨s', h', e, v', u⟩ := v.2.1.push c a hg
  exact ⟨s', h', e, ⟨by simpa using hl, v', v'.lt⟩, u⟩
theorem AvE.nats {s : Sl} {xs : List Nat} : ∀ {i : Option Nat}, AvO s xs i → AvE El.nats [s.v] xs i
 | .none, _ => trivial
 | .some k, a => ⟨s, rfl, a⟩
theorem AvE.int {k : IntKind} {n : Int} {cs : List AV} : ∀ {i : Option Nat}, AvE (El.int k) cs n i
 | .none => trivial
 | .some _ => trivial
theorem AvE.bool {b : Bool} {cs : List AV} : ∀ {i : Option Nat}, AvE El.bool cs b i
 | .none => trivial
 | .some _ => trivial
theorem AvE.pair {α β : Type} {A : El α} {B : El β} {c1 c2 : List AV} {a : α} {b : β} : ∀ {i : Option Nat}, c1.length = A.w → AvE A c1 a i → AvE B c2 b i → AvE (El.pair A B) (c1 ++ c2) (a, b) i
 | .none, _, _, _ => trivial
 | .some k, l, x, y => ⟨c1, c2, rfl, l, x, y⟩
end Go.Ab

/- squeezed -/
set_option linter.unusedVariables false
set_option linter.unusedSimpArgs false
namespace Go.Ab
variable {P : Program}
abbrev Fp := Nat → Prop
def Fp.no : Fp := fun _ => False
def Fp.all : Fp := fun _ => True
def Fp.or (S T : Fp) : Fp := fun j => S j ∨ T j
def Fp.from (n : Nat) : Fp := fun j => n ≤ j
def Fp.sl (s : Sl) (xs : List Nat) : Fp := fun j => ¬ Av s j xs
theorem Fp.not_or {S T : Fp} {i : Nat} (a : ¬ S i) (b : ¬ T i) : ¬ (Fp.or S T) i := fun h => h.elim a b
theorem Fp.not_no {i : Nat} : ¬ Fp.no i := fun h => h
theorem Fp.not_from {n i : Nat} (h : i < n) : ¬ (Fp.from n) i := fun k => by
 have : n ≤ i := k
 omega
theorem Fp.not_sl {s : Sl} {xs : List Nat} {i : Nat} (a : Av s i xs) : ¬ (Fp.sl s xs) i := fun k => k a
def NotO (S : Fp) : Option Nat → Prop
 | none => True
 | some k => ¬ S k
theorem NotO.or {S T : Fp} : ∀ {i : Option Nat}, NotO S i → NotO T i → NotO (Fp.or S T) i
 | none, _, _ => trivial
 | some _, a, b => Fp.not_or a b
theorem NotO.no : ∀ {i : Option Nat}, NotO Fp.no i
 | none => trivial
 | some _ => Fp.not_no
theorem NotO.from {n : Nat} : ∀ {i : Option Nat}, LtO n i → NotO (Fp.from n) i
 | none, _ => trivial
 | some _, l => Fp.not_from l
theorem NotO.sl {s : Sl} {xs : List Nat} : ∀ {i : Option Nat}, AvO s xs i → NotO (Fp.sl s xs) i
 | none, _ => trivial
 | some _, l => Fp.not_sl l
theorem NotO.mono {S T : Fp} (h : ∀ j, S j → T j) : ∀ {i : Option Nat}, NotO T i → NotO S i
 | none, _ => trivial
 | some _, l => fun k => l (h _ k)
structure Ef (α : Type) where
 w : Nat
 pos : 0 < w
 has : AH → Fp → List AV → α → Prop
 len : ∀ {h : AH} {S : Fp} {cs : List AV} {a : α}, has h S cs a → cs.length = w
 grow : ∀ {h h' : AH} {S : Fp} {cs : List AV} {a : α}, Grow h h' → has h S cs a → has h' S cs a
 mono : ∀ {h : AH} {S T : Fp} {cs : List AV} {a : α}, (∀ j, S j → T j) → has h S cs a → has h T cs a
 upd : ∀ {h h' : AH} {S : Fp} {i : Nat} {cs : List AV} {a : α}, ¬ S i → Upd h h' i → has h S cs a → has h' S cs a
 bound : ∀ {h : AH} {S : Fp} {cs : List AV} {a : α}, has h S cs a → has h (fun j => S j ∧ j < h.blks.size) cs a
theorem Ef.updo {α : Type} (E : Ef α) {h h' : AH} {S : Fp} {cs : List AV} {a : α} : ∀ {i : Option Nat}, NotO S i → UpdO h h' i → E.has h S cs a → E.has h' S cs a
 | none, _, u, e => E.grow u e
 | some _, n, u, e => E.upd n u e
def Ef.int (k : IntKind) : Ef Int where
 w := 1
 pos := by decide
 has _ _ cs n := cs = [.int k n]
 len e := by rw [e]; rfl
 grow _ e := e
 mono _ e := e
 upd _ _ e := e
 bound e := e
def Ef.bool : Ef Bool where
 w := 1
 pos := by decide
 has _ _ cs b := cs = [.bool b]
 len e := by rw [e]; rfl
 grow _ e := e
 mono _ e := e
 upd _ _ e := e
 bound e := e
def Ef.str : Ef ByteArray where
 w := 1
 pos := by decide
 has _ _ cs b := cs = [.str b]
 len e := by rw [e]; rfl
 grow _ e := e
 mono _ e := e
 upd _ _ e := e
 bound e := e
def Ef.nats : Ef (List Nat) where
 w := 1
 pos := by decide
 has h S cs xs := ∃ s, cs = [Sl.v s] ∧ Nats h s xs ∧ ∀ j, ¬ Av s j xs → S j
 len := fun ⟨s, e, _, _⟩ => by rw [e]; rfl
 grow g := fun ⟨s, e, n, a⟩ => ⟨s, e, n.grow g, a⟩
 mono m := fun ⟨s, e, n, a⟩ => ⟨s, e, n, fun j k => m j (a j k)⟩
 upd no u := fun ⟨s, e, n, a⟩ => ⟨s, e, n.upda (Classical.byContradiction fun k => no (a _ k)) u, a⟩
 bound := fun {h} _ _ _ ⟨s, e, n, a⟩ => ⟨s, e, n, fun j k => ⟨a j k, by
  rcases Nat.lt_or_ge j h.blks.size with h1 | h1
  ·exact h1
  ·exact absurd (Av.of_base n h1) k⟩⟩
def Ef.pair {α β : Type} (A : Ef α) (B : Ef β) : Ef (α × β) where
 w := A.w + B.w
 pos := by have := A.pos; omega
 has h S cs p := ∃ c1 c2, cs = c1 ++ c2 ∧ A.has h S c1 p.1 ∧ B.has h S c2 p.2
 len := fun ⟨c1, c2, e, a, b⟩ => by rw [e, List.length_append, A.len a, B.len b]
 grow g := fun ⟨c1, c2, e, a, b⟩ => ⟨c1, c2, e, A.grow g a, B.grow g b⟩
 mono m := fun ⟨c1, c2, e, a, b⟩ => ⟨c1, c2, e, A.mono m a, B.mono m b⟩
 upd no u := fun ⟨c1, c2, e, a, b⟩ => ⟨c1, c2, e, A.upd no u a, B.upd no u b⟩
 bound := fun ⟨c1, c2, e, a, b⟩ => ⟨c1, c2, e, A.bound a, B.bound b⟩
theorem All2.set {α β : Type} {R : α → β → Prop} {l : List α} {m : List β} (a : All2 R l m) {x : α} {y : β} (h : R x y) : ∀ j : Nat, All2 R (l.set j x) (m.set j y) := by
 induction a with
 | nil => intro j; exact .nil
 | cons h1 h2 ih =>
  intro j
  cases j with
  | zero => exact .cons h h2
  | succ j => exact .cons h1 (ih j)
def RefIn (S : Fp) (s : Sl) (n : Nat) : Prop := n = 0 ∨ ∀ j o, s.ref = some (.new j o) → S j
structure Sq {α : Type} (E : Ef α) (h : AH) (S : Fp) (s : Sl) (xs : List α) : Prop where
 rows : ∃ rows, Cells h s E.w rows.flatten ∧ All2 (E.has h S) rows xs
 len : s.len = xs.length
 short : xs.length ≤ 9223372036854775807
 at' : RefIn S s xs.length
variable {α : Type} {E : Ef α}
theorem Ef.rows {h : AH} {S : Fp} {rows : List (List AV)} {xs : List α} (a : All2 (E.has h S) rows xs) : ∀ r ∈ rows, r.length = E.w := by
 induction a with
 | nil => simp
 | cons h' _ ih =>
  intro r hr
  rcases List.mem_cons.1 hr with rfl | hr
  ·exact E.len h'
  ·exact ih r hr
theorem Cells.updn {h h' : AH} {s : Sl} {n : Nat} {flat : List AV} (c : Cells h s n flat) {i : Nat} (hi : ∀ o, s.ref ≠ some (.new i o)) (u : Upd h h' i) : Cells h' s n flat :=
 ⟨c.fit, c.len, fun k v hv => by
  obtain ⟨r, e1, e2⟩ := c.get k v hv
  refine ⟨r, e1, u.cell e2 fun o he => ?_⟩
  cases r with
  | old a => cases he
  | new j p =>
   simp only [Ref.add_new, Ref.new.injEq] at he
   exact hi p (by rw [e1, he.1])⟩
theorem Sq.grow {h h' : AH} {S : Fp} {s : Sl} {xs : List α} (n : Sq E h S s xs) (g : Grow h h') : Sq E h' S s xs := by
 obtain ⟨⟨rows, c, a⟩, l, sh, at'⟩ := n
 exact ⟨⟨rows, c.grow g, a.imp fun _ _ => E.grow g⟩, l, sh, at'⟩
theorem Sq.mono {h : AH} {S T : Fp} {s : Sl} {xs : List α} (n : Sq E h S s xs) (m : ∀ j, S j → T j) : Sq E h T s xs := by
 obtain ⟨⟨rows, c, a⟩, l, sh, at'⟩ := n
 exact ⟨⟨rows, c, a.imp fun _ _ => E.mono m⟩, l, sh, at'.imp id fun f j o e => m j (f j o e)⟩
theorem Sq.nil (E : Ef α) (h : AH) (S : Fp) : Sq E h S ⟨none, 0, .is 0⟩ [] := ⟨⟨[], Cells.nil h _, .nil⟩, rfl, by simp, .inl rfl⟩
theorem Sq.upd {h h' : AH} {S : Fp} {s : Sl} {xs : List α} (n : Sq E h S s xs) {i : Nat} (no : ¬ S i) (u : Upd h h' i) : Sq E h' S s xs := by
 obtain ⟨⟨rows, c, a⟩, l, sh, at'⟩ := n
 refine ⟨⟨rows, ?_, a.imp fun _ _ => E.upd no u⟩, l, sh, at'⟩
 rcases at' with e | f
 ·have hr : rows.length = 0 := by rw [All2.length a, e]
  have hr : rows = [] := List.length_eq_zero_iff.1 hr
  subst hr
  exact ⟨c.fit, c.len, fun k v hv => by simp at hv⟩
 ·exact c.updn (fun o ho => no (f i o ho)) u
theorem Sq.updo {h h' : AH} {S : Fp} {s : Sl} {xs : List α} (n : Sq E h S s xs) : ∀ {i : Option Nat}, NotO S i → UpdO h h' i → Sq E h' S s xs
 | none, _, u => n.grow u
 | some _, no, u => n.upd no u
theorem Sq.bound {h : AH} {S : Fp} {s : Sl} {xs : List α} (n : Sq E h S s xs) : Sq E h (fun j => S j ∧ j < h.blks.size) s xs := by
 obtain ⟨⟨rows, c, a⟩, l, sh, at'⟩ := n
 refine ⟨⟨rows, c, a.imp fun _ _ => E.bound⟩, l, sh, ?_⟩
 rcases Nat.eq_zero_or_pos xs.length with e | e
 ·exact .inl e
 ·refine .inr fun j o hj => ⟨(at'.resolve_left (by omega)) j o hj, ?_⟩
  have hf := kew (w := E.w) (rows := rows) (Ef.rows a)
  have h0 : 0 < rows.flatten.length := by
   rw [hf, All2.length a]
   exact Nat.mul_pos e E.pos
  obtain ⟨r, e1, e2⟩ := c.get 0 _ (List.getElem?_eq_getElem h0)
  rw [hj] at e1
  cases e1
  have := AH.cell_inn e2
  rw [Ref.add_new] at this
  exact this
def Ef.seq {α : Type} (E : Ef α) : Ef (List α) where
 w := 1
 pos := by decide
 has h S cs xs := ∃ s, cs = [Sl.v s] ∧ Sq E h S s xs
 len := fun ⟨s, e, _⟩ => by rw [e]; rfl
 grow g := fun ⟨s, e, n⟩ => ⟨s, e, n.grow g⟩
 mono m := fun ⟨s, e, n⟩ => ⟨s, e, n.mono m⟩
 upd no u := fun ⟨s, e, n⟩ => ⟨s, e, n.upd no u⟩
 bound := fun ⟨s, e, n⟩ => ⟨s, e, n.bound⟩
theorem Sq.at {h : AH} {S : Fp} {s : Sl} {xs : List α} (n : Sq E h S s xs) {i : Int} {y : α} (q : atX xs i = some y) : ∃ (r : Ref) (cs : List AV), idx s.ref xs.length i E.w = some r ∧ E.has h S cs y ∧ Lies h r cs := by
 obtain ⟨⟨rows, c, a⟩, l, sh, at'⟩ := n
 obtain ⟨j, rfl, hj⟩ := kq6 q
 obtain ⟨cs, e1, e2⟩ := a.get hj
 have hjl := (List.getElem?_eq_some_iff.1 hj).1
 have hr := Ef.rows a
 have key : ∀ k v, cs[k]? = some v → ∃ r, s.ref = some r ∧ h.cell (r.add (j * E.w + k)) = some v := fun k v hk => c.get _ _ (kkl hr e1 hk)
 cases hs : s.ref with
 | none =>
  exfalso
  cases cs with
  | nil => have := E.len e2; have := E.pos; simp at *; omega
  | cons v vs =>
   obtain ⟨r, e, _⟩ := key 0 v rfl
   rw [hs] at e
   cases e
 | some r =>
  refine ⟨r.add (j * E.w), cs, ?_, e2, ⟨fun k v hk => ?_⟩⟩
  ·rw [kc2 _ _ _ _ (by omega) (by omega)]
   simp
  ·obtain ⟨r', e, e'⟩ := key k v hk
   rw [hs] at e
   cases e
   rw [Ref.add_add]
   exact e'
def GF {α : Type} (E : Ef α) (elem : TypeId) (h : AH) (S : Fp) (s : Sl) (i : Option Nat) (xs : List α) : Prop :=
 xs.length ≤ 9223372036854775807 ∧ match i with
 | none => s = ⟨none, 0, .is 0⟩ ∧ xs = []
 | some k => ¬ S k ∧ s.ref = some (.new k 0) ∧ s.len = xs.length ∧ ∃ rows e, h.has k rows.flatten e ∧ (s.cap = .is s.len ∨ s.cap = .opn E.w ∧ e = elem) ∧ All2 (E.has h S) rows xs
variable {elem : TypeId}
theorem GF.none (E : Ef α) (elem : TypeId) (h : AH) (S : Fp) : GF E elem h S ⟨none, 0, .is 0⟩ none [] := ⟨by simp, rfl, rfl⟩
theorem GF.one {h : AH} {S : Fp} {i : Nat} {cs : List AV} {x : α} {e : TypeId} (b : h.has i cs e) (c : E.has h S cs x) (a : ¬ S i) : GF E elem h S ⟨some (.new i 0), 1, .is 1⟩ (some i) [x] :=
 ⟨by simp, a, rfl, rfl, [cs], e, by simpa using b, .inl rfl, .cons c .nil⟩
theorem GF.grow {h h' : AH} {S : Fp} {s : Sl} : ∀ {i : Option Nat} {xs : List α}, GF E elem h S s i xs → Grow h h' → GF E elem h' S s i xs
 | .none, _, v, g => v
 | .some k, _, ⟨l, a, r, ln, rows, e, b, c, r2⟩, g => ⟨l, a, r, ln, rows, e, g.has b, c, r2.imp fun _ _ => E.grow g⟩
theorem GF.lt {h : AH} {S : Fp} {s : Sl} : ∀ {i : Option Nat} {xs : List α}, GF E elem h S s i xs → LtO h.blks.size i
 | .none, _, _ => trivial
 | .some k, _, ⟨l, a, r, ln, rows, e, b, c, r2⟩ => b.lt
theorem GF.mono {h : AH} {S T : Fp} {s : Sl} : ∀ {i : Option Nat} {xs : List α}, GF E elem h S s i xs → (∀ j, S j → T j) → NotO T i → GF E elem h T s i xs
 | .none, _, v, _, _ => v
 | .some k, _, ⟨l, a, r, ln, rows, e, b, c, r2⟩, m, no => ⟨l, no, r, ln, rows, e, b, c, r2.imp fun _ _ => E.mono m⟩
theorem GF.bound {h : AH} {S : Fp} {s : Sl} : ∀ {i : Option Nat} {xs : List α}, GF E elem h S s i xs → GF E elem h (fun j => S j ∧ j < h.blks.size) s i xs
 | .none, _, v => v
 | .some k, _, ⟨l, a, r, ln, rows, e, b, c, r2⟩ => ⟨l, fun x => a x.1, r, ln, rows, e, b, c, r2.imp fun _ _ => E.bound⟩
def Fp.opt (i : Option Nat) : Fp := fun j => i = some j
theorem GF.sq {h : AH} {S : Fp} {s : Sl} : ∀ {i : Option Nat} {xs : List α}, GF E elem h S s i xs → Sq E h (Fp.or (Fp.opt i) S) s xs
 | .none, xs, ⟨_, e1, e2⟩ => by
  subst e1; subst e2
  exact Sq.nil E h _
 | .some k, _, ⟨l, a, r, ln, rows, e, b, c, r2⟩ => by
  have hc := Cells.of_has (n := E.w) (m := s.len) b (by rw [kew (Ef.rows r2), All2.length r2, ln])
  refine ⟨⟨rows, ⟨?_, ?_, ?_⟩, r2.imp fun _ _ => E.mono fun j x => .inr x⟩, ln, l, .inr fun j o ho => ?_⟩
  ·rcases c with c | c
   ·unfold Sl.fit; rw [c]; exact Nat.le_refl _
   ·unfold Sl.fit; rw [c.1]
  ·exact hc.len
  ·rw [r]; exact hc.get
  ·rw [r] at ho
   cases ho
   exact .inl rfl
theorem GF.len {h : AH} {S : Fp} {s : Sl} {i : Option Nat} {xs : List α} (v : GF E elem h S s i xs) : s.len = xs.length := v.sq.len
theorem GF.own {h h0 : AH} {S : Fp} {s : Sl} : ∀ {i : Option Nat} {xs : List α}, GF E elem h S s i xs → LeO h0.blks.size i → Own h0 s
 | .none, _, v, _ => fun r hr => by rw [v.2.1] at hr; cases hr
 | .some k, _, ⟨_, _, r, _⟩, l => fun q hq => by
  rw [r] at hq
  cases hq
  exact ⟨k, 0, rfl, l⟩
theorem GF.upd {h h' : AH} {S : Fp} {s : Sl} {i : Nat} (u : Upd h h' i) (no : ¬ S i) : ∀ {j : Option Nat} {xs : List α}, GF E elem h S s j xs → (∀ k, j = some k → k ≠ i) → GF E elem h' S s j xs
 | .none, _, v, _ => v
 | .some k, _, ⟨l, a, r, ln, rows, e, b, c, r2⟩, ne => ⟨l, a, r, ln, rows, e, b.updr (ne k rfl) u, c, r2.imp fun _ _ => E.upd no u⟩
theorem GF.updo {h h' : AH} {S : Fp} {s : Sl} {j : Option Nat} {xs : List α} (v : GF E elem h S s j xs) : ∀ {i : Option Nat}, NotO S i → NeOO j i → UpdO h h' i → GF E elem h' S s j xs
 | .none, _, _, u => v.grow u
 | .some i, no, ne, u => v.upd u no fun k e => by
  subst e
  exact ne
theorem GF.set {h : AH} {S T : Fp} {s : Sl} {i : Option Nat} {xs : List α} (v : GF E elem h S s i xs) {cs : List AV} {x : α} (c : E.has h T cs x) (no : NotO T i) {z : Int} {j : Nat} (q : inI xs.length z = some j) :
  ∃ r h', idx s.ref xs.length z E.w = some r ∧ h.puts r cs = some h' ∧ GF E elem h' (Fp.or S T) s i (xs.set j x) ∧ UpdO h h' i := by
 obtain ⟨hz, hj⟩ := kl9 q
 cases i with
 | none =>
  obtain ⟨_, e1, e2⟩ := v
  subst e2
  simp at hj
 | some k =>
  obtain ⟨l, a, r, ln, rows, e, b, cp, r2⟩ := v
  have hrl := All2.length r2
  have hr := Ef.rows r2
  have hw := E.len c
  have hfl := kew hr
  have hle : j * E.w + cs.length ≤ rows.flatten.length := by
   rw [hfl, hw, ← Nat.succ_mul]
   exact Nat.mul_le_mul_right _ (by omega)
  have hfl2 : ∀ (rs : List (List AV)) (n : Nat), (∀ r ∈ rs, r.length = E.w) → rs.flatten.take (n * E.w) = (rs.take n).flatten ∧ rs.flatten.drop (n * E.w) = (rs.drop n).flatten := by
   intro rs
   induction rs with
   | nil => intro n _; simp
   | cons r rs ih =>
    intro n hh
    cases n with
    | zero => simp
    | succ n =>
     have h1 := ih n fun q hq => hh q (by simp [hq])
     have h2 := hh r (by simp)
     rw [Nat.succ_mul, List.flatten_cons, List.take_succ_cons, List.drop_succ_cons, List.flatten_cons, ← h1.1, ← h1.2]
     constructor
     ·rw [List.take_append, h2, List.take_of_length_le (by omega), Nat.add_sub_cancel]
     ·rw [List.drop_append, h2, List.drop_eq_nil_of_le (by omega), Nat.add_sub_cancel, List.nil_append]
  have key : rows.flatten.take (j * E.w) ++ cs ++ rows.flatten.drop (j * E.w + cs.length) = (rows.set j cs).flatten := by
   have h3 : j * E.w + cs.length = (j + 1) * E.w := by rw [hw, Nat.succ_mul]
   rw [h3, (hfl2 rows j hr).1, (hfl2 rows (j + 1) hr).2, List.set_eq_take_append_cons_drop, if_pos (by omega)]
   simp
  refine ⟨.new k (j * E.w), h.upd k (rows.set j cs).flatten e, ?_, ?_, ⟨by simpa using l, fun x => x.elim a no, r, by simpa using ln, rows.set j cs, e, AH.has_upd b _ _, cp, ?_⟩, AH.upd_Upd h k _ e⟩
  ·rw [r, hz, kc2 _ _ _ _ (by omega) (by omega)]
   simp
  ·rw [b.puts hle, key]
  ·have : All2 (fun cs a => E.has h (Fp.or S T) cs a) (rows.set j cs) (xs.set j x) := All2.set (r2.imp fun _ _ => E.mono fun j k => .inl k) (E.mono (fun j k => .inr k) c) j
   exact this.imp fun _ _ y => E.upd (fun x => x.elim a no) (AH.upd_Upd h k _ e) y
theorem GF.push {h : AH} {S T : Fp} {s : Sl} {i : Option Nat} {xs : List α} (v : GF E elem h S s i xs) {cs : List AV} {x : α} (c : E.has h T cs x) (no : NotO T i) (hg : growOk P (xs.length + 1) elem E.w = true) :
  ∃ s' h', kx P s cs 1 elem E.w h = some (s'.v, h') ∧ GF E elem h' (fun j => (Fp.or S T) j ∧ j < h.blks.size) s' (some h.blks.size) (xs ++ [x]) ∧ UpdO h h' i := by
 have hl := kth hg
 have hw := E.len c
 have nS : ¬ ((Fp.or S T) h.blks.size ∧ h.blks.size < h.blks.size) := fun k => Nat.lt_irrefl _ k.2
 cases i with
 | none =>
  obtain ⟨_, e1, e2⟩ := v
  subst e1; subst e2
  rw [ke5 (c := 0) rfl (by simp) (by simpa using hg) (Cells.nil h E.w)]
  refine ⟨_, _, rfl, ⟨by simp, nS, rfl, by simp, [cs], elem, ?_, .inr ⟨rfl, rfl⟩, .cons ?_ .nil⟩, Grow.push _ _⟩
  ·simpa using AH.has_push h cs elem
  ·refine E.grow (Grow.push _ _) (E.mono (fun j k => ⟨.inr k.1, k.2⟩) (E.bound c))
 | some k =>
  have sq := v.sq
  obtain ⟨l, a, r, ln, rows, e, b, cp, r2⟩ := v
  have hr := Ef.rows r2
  have cc : Cells h s E.w rows.flatten := by
   have hc := Cells.of_has (n := E.w) (m := s.len) b (by rw [kew hr, All2.length r2, ln])
   refine ⟨?_, hc.len, by rw [r]; exact hc.get⟩
   rcases cp with c | c
   ·unfold Sl.fit; rw [c]; exact Nat.le_refl _
   ·unfold Sl.fit; rw [c.1]
  rw [← ln] at hg
  rcases cp with ce | ⟨ce, rfl⟩
  ·rw [ke5 ce (by omega) hg cc]
   refine ⟨_, _, rfl, ⟨by simpa using hl, nS, rfl, by simp [ln], rows ++ [cs], elem, ?_, .inr ⟨rfl, rfl⟩, All2.snoc (r2.imp fun _ _ y => ?_) ?_⟩, (Grow.push _ _).toUpd k⟩
   ·have := AH.has_push h (rows.flatten ++ cs) elem
    simpa using this
   ·exact E.grow (Grow.push _ _) (E.mono (fun j q => ⟨.inl q.1, q.2⟩) (E.bound y))
   ·exact E.grow (Grow.push _ _) (E.mono (fun j q => ⟨.inr q.1, q.2⟩) (E.bound c))
  ·have hap : kx P s cs 1 e E.w h = some (Sl.v ⟨some (.new h.blks.size 0), s.len + 1, .opn E.w⟩, (h.kill s.ref).push (.cells (rows.flatten ++ cs) e)) := by
    unfold kx
    simp only [ce]
    rw [show Nat.beq 1 0 = false from rfl, show Nat.beq E.w E.w = true from Nat.beq_refl _]
    simp only [cond_false, hg, Bool.and_true, cond_true, r, show h.blks[k]? = _ from b]
    have hgets := cc.gets
    rw [r] at hgets
    simp only [hgets, Option.bind_some]
    rw [show Nat.beq e e = true from Nat.beq_refl _, cond_true]
    have : (AH.kill h (some (Ref.new k 0))).blks.size = h.blks.size := by simp [AH.kill]
    simp [AH.next, this, Sl.v]
    rfl
   rw [hap, r]
   have sz : (h.kill (some (.new k 0))).blks.size = h.blks.size := by simp [AH.kill]
   have u : Upd h (h.kill (some (.new k 0))) k := AH.kill_Upd h k
   refine ⟨_, _, rfl, ⟨by simpa using hl, nS, rfl, by simp [ln], rows ++ [cs], e, ?_, .inr ⟨rfl, rfl⟩, All2.snoc (r2.imp fun _ _ y => ?_) ?_⟩, u.trans ((Grow.push _ _).toUpd k)⟩
   ·have := AH.has_push (h.kill (some (.new k 0))) (rows.flatten ++ cs) e
    rw [sz] at this
    simpa using this
   ·exact E.grow (Grow.push _ _) (E.mono (fun j q => ⟨.inl q.1, q.2⟩) (E.upd (fun q => a q.1) u (E.bound y)))
   ·exact E.grow (Grow.push _ _) (E.mono (fun j q => ⟨.inr q.1, q.2⟩) (E.upd (fun q => no q.1) u (E.bound c)))
end Go.Ab

/- squeezed -/
set_option linter.unusedVariables false
set_option linter.unusedSimpArgs false
namespace Go.Ab
variable {P : Program}
theorem kuu {h : AH} : ∀ (n : Nat) {r : Ref} {es : List AV}, h.gets r n = some es → es.length = n ∧ ∀ (k : Nat) (v : AV), es[k]? = some v → h.cell (r.add k) = some v
 | 0, r, es, e => by
  simp only [AH.gets, Option.some.injEq] at e
  subst e
  exact ⟨rfl, fun k v hv => by simp at hv⟩
 | n + 1, r, es, e => by
  simp only [AH.gets, Option.bind_eq_some_iff, Option.map_eq_some_iff] at e
  obtain ⟨v, e1, l, e2, rfl⟩ := e
  obtain ⟨h1, h2⟩ := kuu n e2
  refine ⟨by simp [h1], fun k u hu => ?_⟩
  cases k with
  | zero =>
   simp at hu
   subst hu
   rw [Ref.add_zero]
   exact e1
  | succ k =>
   have := h2 k u (by simpa using hu)
   rw [← this, Ref.add_add, Nat.add_comm]
theorem Sq.of_arg {α : Type} {E : Ef α} {S : Fp} {h : AH} {t e : TypeId} {cs : List AV} (hu : P.underlying t = some (.slice e)) (hw : P.cellsOf e = E.w) (elem : ∀ es, ArgT P h e es → ∃ a, E.has h S es a) (a : ArgT P h t cs) : ∃ (s : Sl) (xs : List α), cs = [s.v] ∧ Sq E h S s xs := by
 rcases a.slice hu with rfl | ⟨ad, len, cap, rfl, h1, h2, h3⟩
 ·exact ⟨⟨none, 0, .is 0⟩, [], rfl, Sq.nil _ _ _⟩
 ·rw [hw] at h3
  have mk : ∀ n, n ≤ len → ∃ (rows : List (List AV)) (xs : List α), rows.length = n ∧ All2 (E.has h S) rows xs ∧ ∀ (i : Nat) (r : List AV), rows[i]? = some r → h.gets (.old (ad.add (i * E.w))) E.w = some r := by
   intro n
   induction n with
   | zero => exact fun _ => ⟨[], [], rfl, .nil, fun i r hi => by simp at hi⟩
   | succ n ih =>
    intro hn
    obtain ⟨rows, xs, hl, ha, hx⟩ := ih (by omega)
    obtain ⟨es, k1, k2⟩ := h3 n (by omega)
    obtain ⟨x, k3⟩ := elem es k2
    refine ⟨rows ++ [es], xs ++ [x], by simp [hl], ha.snoc k3, fun i r hi => ?_⟩
    by_cases hin : i < rows.length
    ·rw [List.getElem?_append_left hin] at hi
     exact hx i r hi
    ·rw [List.getElem?_append_right (by omega)] at hi
     have : i = n := by
      rcases Nat.eq_zero_or_pos (i - rows.length) with h0 | h0
      ·omega
      ·rw [List.getElem?_eq_none (by simp; omega)] at hi
       cases hi
     subst this
     rw [hl, Nat.sub_self] at hi
     simp at hi
     subst hi
     exact k1
  obtain ⟨rows, xs, hl, ha, hx⟩ := mk len (Nat.le_refl _)
  have hr := Ef.rows ha
  have hlen := All2.length ha
  refine ⟨⟨some (.old ad), len, .is cap⟩, xs, rfl, ⟨⟨rows, ⟨h1, by rw [kew hr, hl], fun k v hv => ⟨_, rfl, ?_⟩⟩, ha⟩, by rw [← hlen, hl], ?_, .inr fun j o hj => by cases hj⟩⟩
  ·have hk : k < rows.length * E.w := by
    rw [← kew hr]
    exact (List.getElem?_eq_some_iff.1 hv).1
   have hi : k / E.w < rows.length := Nat.div_lt_of_lt_mul (by rw [Nat.mul_comm]; exact hk)
   have hj : k % E.w < E.w := Nat.mod_lt _ E.pos
   have e1 := List.getElem?_eq_getElem hi
   have e2 : (rows[k / E.w])[k % E.w]? = some ((rows[k / E.w])[k % E.w]'(by rw [hr _ (List.getElem_mem _)]; exact hj)) := List.getElem?_eq_getElem _
   have e3 := kkl hr e1 e2
   have e4 : k / E.w * E.w + k % E.w = k := by
    rw [Nat.mul_comm]
    exact Nat.div_add_mod k E.w
   rw [e4, hv] at e3
   have e5 := (kuu E.w (hx _ _ e1)).2 _ _ e2
   rw [← Option.some.inj e3] at e5
   have e6 : (Ref.old (ad.add (k / E.w * E.w))).add (k % E.w) = (Ref.old ad).add k := by
    rw [show Ref.old (ad.add (k / E.w * E.w)) = (Ref.old ad).add (k / E.w * E.w) from rfl, Ref.add_add, e4]
   rw [← e6]
   exact e5
  ·have hm : maxLen = 9223372036854775807 := by decide
   rw [← hlen, hl]
   rw [hm] at h2
   exact Nat.le_trans h1 h2
end Go.Ab

/- squeezed -/
set_option linter.unusedVariables false
set_option linter.unusedSimpArgs false
set_option maxRecDepth 10000
namespace Go.Ab
open Go.Proofs Go.Num
abbrev Fr3 := Bool × List Nat × List Nat
theorem kn3 {n : Nat} (h : n ≤ 1000000) : growOk Pg n T.int 1 = true := by
 unfold growOk
 rw [kwd, kvv]
 have h1 : n * 8 ≤ kbx := by simp only [kbx]; omega
 have h2 : n ≤ kbx := by simp only [kbx]; omega
 simp [h1, h2]
structure Off (h : AH) (t : Sl) (xs : List Nat) (iB iO : Nat) (oi : Option Nat) : Prop where
 n : Nats h t xs
 b : Av t iB xs
 o : Av t iO xs
 g : AvO t xs oi
theorem Off.grow {h h' : AH} {t : Sl} {xs : List Nat} {iB iO : Nat} {oi : Option Nat} (x : Off h t xs iB iO oi) (g : Grow h h') : Off h' t xs iB iO oi := ⟨x.n.grow g, x.b, x.o, x.g⟩
theorem Off.updB {h h' : AH} {t : Sl} {xs : List Nat} {iB iO : Nat} {oi : Option Nat} (x : Off h t xs iB iO oi) (u : Upd h h' iB) : Off h' t xs iB iO oi := ⟨x.n.upda x.b u, x.b, x.o, x.g⟩
theorem Off.updO {h h' : AH} {t : Sl} {xs : List Nat} {iB iO : Nat} {oi : Option Nat} (x : Off h t xs iB iO oi) (u : Upd h h' iO) : Off h' t xs iB iO oi := ⟨x.n.upda x.o u, x.b, x.o, x.g⟩
theorem Off.updG {h h' : AH} {t : Sl} {xs : List Nat} {iB iO : Nat} {oi : Option Nat} (x : Off h t xs iB iO oi) (u : UpdO h h' oi) : Off h' t xs iB iO oi := ⟨x.n.updo x.g u, x.b, x.o, x.g⟩
theorem Off.anew {h : AH} {t : Sl} {xs : List Nat} {iB iO : Nat} {oi : Option Nat} (x : Off h t xs iB iO oi) {k : Nat} {h0 : AH} (n0 : Nats h0 t xs) (hk : h0.blks.size ≤ k) : Off h t xs iB iO (some k) := ⟨x.n, x.b, x.o, Av.of_base n0 hk⟩
structure BestAt (h0 h : AH) (iA iB iO : Nat) (oi : Option Nat) (G N : Int) (st : List Int × Fr3) : Prop where
 grow : Grow h0 h
 hA : h.has iA [.int .i64 G, .int .i64 N] T.kz
 best : ∃ t1 t2 : Sl, h.has iB [.bool st.2.1, t1.v, t2.v] T.kj ∧ Off h t1 st.2.2.1 iB iO oi ∧ Off h t2 st.2.2.2 iB iO oi
 outs : ∃ s : Sl, h.has iO [s.v] T.kul ∧ GF (Ef.int .i64) T.int h Fp.no s oi st.1
 ab : iA ≠ iB
 ao : iA ≠ iO
 bo : iB ≠ iO
 na : NeO iA oi
 nb : NeO iB oi
 no : NeO iO oi
 la : h0.blks.size ≤ iA
 lb : h0.blks.size ≤ iB
 lo : h0.blks.size ≤ iO
 lg : LeO h0.blks.size oi
theorem GF.toNo {k : IntKind} {elem : TypeId} {h : AH} {S : Fp} {s : Sl} : ∀ {i : Option Nat} {xs : List Int}, GF (Ef.int k) elem h S s i xs → GF (Ef.int k) elem h Fp.no s i xs
 | .none, _, v => v
 | .some _, _, ⟨l, a, r, ln, rows, e, b, c, r2⟩ => ⟨l, id, r, ln, rows, e, b, c, r2.imp fun _ _ x => x⟩
theorem NeO.ne {i : Nat} : ∀ {oi : Option Nat}, NeO i oi → ∀ k, oi = some k → k ≠ i
 | none, _, _, e => by cases e
 | some _, h, k, e => by
  cases e
  exact fun e => h e.symm
def askF (i : Int) (g : Fr3) (st : List Int × Fr3) : List Int × Fr3 :=
 if kea g.1 g.2.1 g.2.2 st.2.1 st.2.2.1 st.2.2.2 > 0 then ([i], g)
 else if kea g.1 g.2.1 g.2.2 st.2.1 st.2.2.1 st.2.2.2 = 0 ∧ st.1.length > 0 then (st.1 ++ [i], st.2) else st
theorem ask_is {h0 h : AH} {iA iB iO : Nat} {oi : Option Nat} {G N : Int} {st : List Int × Fr3} (e : BestAt h0 h iA iB iO oi G N st) (hlen : st.1.length ≤ 100000) {g : Fr3} {u1 u2 : Sl} (o1 : Off h u1 g.2.1 iB iO oi) (o2 : Off h u2 g.2.2 iB iO oi) (i : Int) :
  Runs (go (.fn F.kdj [.int .i64 i, .agg [.bool g.1, u1.v, u2.v], .ptr (some (.new iB 0)), .ptr (some (.new iO 0))]) h) fun v h' => v = .tup [] ∧ ∃ oi', BestAt h0 h' iA iB iO oi' G N (askF i g st) := by
 obtain ⟨t1, t2, bB, x1, x2⟩ := e.best
 obtain ⟨s, bO, gf⟩ := e.outs
 rw [kyx]
 refine Runs.new fun h7 b7 g7 => ?_
 refine Runs.step (b7.rd 0 (f := AV.asBool) rfl rfl) ?_
 refine Runs.step (b7.rd 1 (f := AV.asSl) rfl (asSl_v _)) ?_
 refine Runs.step (b7.rd 2 (f := AV.asSl) rfl (asSl_v _)) ?_
 have cB := g7.has bB
 refine Runs.step (cB.rd 0 (f := AV.asBool) rfl rfl) ?_
 refine Runs.step (cB.rd 1 (f := AV.asSl) rfl (asSl_v _)) ?_
 refine Runs.step (cB.rd 2 (f := AV.asSl) rfl (asSl_v _)) ?_
 obtain ⟨_, h14, e14, rfl, g14⟩ := k4g (o1.n.grow g7) (o2.n.grow g7) (x1.n.grow g7) (x2.n.grow g7) g.1 st.2.1
 refine Runs.step e14 ?_
 refine Runs.step (seen (kb _ _)) ?_
 dsimp only
 have G14 := g7.trans g14
 have G0 := e.grow.trans G14
 have dB := g14.has cB
 have dO := G14.has bO
 have dA := G14.has e.hA
 have lB : iB < h.blks.size := bB.lt
 have lO : iO < h.blks.size := bO.lt
 have lA : iA < h.blks.size := e.hA.lt
 have sz := G14.size
 refine Runs.cond (fun k => ?_) (fun k => ?_)
 ·
  rw [decide_eq_true_eq] at k
  have e7 := g14.has b7
  refine Runs.step (e7.rd 0 (f := AV.asBool) rfl rfl) ?_
  refine Runs.step (e7.rd 1 (f := AV.asSl) rfl (asSl_v _)) ?_
  refine Runs.step (e7.rd 2 (f := AV.asSl) rfl (asSl_v _)) ?_
  refine Runs.new fun h19 b19 g19 => ?_
  refine Runs.when (g19.same e7 0 3) ?_
  have l19 : h14.blks.size < h19.blks.size := b19.lt
  refine Runs.puts (g19.has dO) rfl fun h20 b20 u20 => ?_
  have f7 := (g19.has e7).updr (i := iO) (by omega) u20
  refine Runs.when (kwp (g19.has e7) f7 0 3) ?_
  have fB := (g19.has dB).updr (i := iO) e.bo u20
  refine Runs.puts fB rfl fun h21 b21 u21 => ?_
  refine Runs.ret ⟨rfl, some h14.blks.size, ?_⟩
  have ea : askF i g st = ([i], g) := by unfold askF; rw [if_pos k]
  rw [ea]
  have up : ∀ {t : Sl} {xs : List Nat}, Off h t xs iB iO oi → Off h21 t xs iB iO (some h14.blks.size) := fun x =>
   ((((x.anew x.n (by omega)).grow G14).grow g19).updO u20).updB u21
  refine ⟨?_, ?_, ⟨u1, u2, b21, up o1, up o2⟩, ⟨_, b20.updr (fun e' => e.bo e'.symm) u21, ?_⟩, e.ab, e.ao, e.bo, ?_, ?_, ?_, e.la, e.lb, e.lo, ?_⟩
  ·exact ((G0.trans g19).updr e.lo u20).updr e.lb u21
  ·exact ((g19.has dA).updr e.ao u20).updr e.ab u21
  ·have b19' := (b19.updr (i := iO) (by omega) u20).updr (i := iB) (by omega) u21
   exact GF.one b19' rfl id
  ·show iA ≠ h14.blks.size; omega
  ·show iB ≠ h14.blks.size; omega
  ·show iO ≠ h14.blks.size; omega
  ·exact G0.size
 ·rw [decide_eq_false_iff_not] at k
  have same : askF i g st = st → BestAt h0 h14 iA iB iO oi G N (askF i g st) := fun hs => by
   rw [hs]
   exact ⟨G0, dA, ⟨t1, t2, dB, x1.grow G14, x2.grow G14⟩, ⟨s, dO, gf.grow G14⟩, e.ab, e.ao, e.bo, e.na, e.nb, e.no, e.la, e.lb, e.lo, e.lg⟩
  refine Runs.cond (fun k0 => ?_) (fun k0 => ?_)
  ·rw [decide_eq_true_eq] at k0
   refine Runs.step (dO.rd0 (f := AV.asSl) rfl (asSl_v _)) ?_
   rw [gf.len]
   refine Runs.cond (fun kl => ?_) (fun kl => ?_)
   ·rw [decide_eq_true_eq] at kl
    refine Runs.step (dO.rd0 (f := AV.asSl) rfl (asSl_v _)) ?_
    refine Runs.new fun h24 b24 g24 => ?_
    refine Runs.step (koa (n := 1) b24 (by rw [kgt]; rfl)) ?_
    obtain ⟨s', h25, e25, gf25, u25⟩ := ((gf.grow G14).grow g24).push (P := Pg) (T := Fp.no) (cs := [.int .i64 i]) (x := i) rfl NotO.no (kn3 (by omega))
    refine Runs.step e25 ?_
    refine Runs.step (seen (asSl_v _)) ?_
    dsimp only
    have G24 := G14.trans g24
    have l24 : h14.blks.size < h24.blks.size := b24.lt
    have hO := (g24.has dO).updo e.no u25
    refine Runs.puts hO rfl fun h28 b28 u28 => ?_
    refine Runs.ret ⟨rfl, some h24.blks.size, ?_⟩
    have ea : askF i g st = (st.1 ++ [i], st.2) := by
     unfold askF
     rw [if_neg k, if_pos ⟨k0, by omega⟩]
    rw [ea]
    have up : ∀ {t : Sl} {xs : List Nat}, Off h t xs iB iO oi → Off h28 t xs iB iO (some h24.blks.size) := fun x =>
     (((((x.grow G14).grow g24).updG u25).anew x.n (by omega)).updO u28)
    have Gu : Grow h0 h25 := (G0.trans g24).updo e.lg u25
    refine ⟨Gu.updr e.lo u28, ((g24.has dA).updo e.na u25).updr e.ao u28, ⟨t1, t2, ((g24.has dB).updo e.nb u25).updr e.bo u28, up x1, up x2⟩, ⟨s', b28, ?_⟩, e.ab, e.ao, e.bo, ?_, ?_, ?_, e.la, e.lb, e.lo, ?_⟩
    ·refine (gf25.toNo).upd u28 id fun k hk => ?_
     cases hk
     omega
    ·show iA ≠ h24.blks.size; omega
    ·show iB ≠ h24.blks.size; omega
    ·show iO ≠ h24.blks.size; omega
    ·exact (G0.trans g24).size
   ·rw [decide_eq_false_iff_not] at kl
    refine Runs.ret ⟨rfl, oi, same ?_⟩
    unfold askF
    rw [if_neg k, if_neg (fun h => kl (by omega))]
  ·rw [decide_eq_false_iff_not] at k0
   refine Runs.ret ⟨rfl, oi, same ?_⟩
   unfold askF
   rw [if_neg k, if_neg (fun h => k0 h.1)]
end Go.Ab

/- squeezed -/
set_option linter.unusedVariables false
set_option linter.unusedSimpArgs false
set_option maxRecDepth 10000
namespace Go.Ab
open Go.Proofs Go.Num
abbrev Fr3.of (g : Frc) : Fr3 := (g.1, g.2.1, g.2.2.1)
def kc5 (l G N : Int) (x : Int × Int) (i : Int) (st : List Int × Fr3) : List Int × Fr3 :=
 if x.2 > 0 ∧ x.2 < N then askF i (Fr3.of (gainF l x.1 x.2 G N)) st else st
def bestGo (l G N : Int) : List (Int × Int) → Int → List Int × Fr3 → List Int × Int
 | [], _, st => (st.1, 0)
 | x :: xs, i, st => if (gainF l x.1 x.2 G N).2.2.2 = 0 then bestGo l G N xs (i + 1) (kc5 l G N x i st) else ([], 1)
abbrev E2 : Ef (Int × Int) := Ef.pair (Ef.int .i64) (Ef.int .i64)
def IntsP (h0 : AH) (r : List Int × Int) (v : AV) (h' : AH) : Prop := ∃ s1 : Sl, v = .tup [s1.v, .int .i64 r.2] ∧ Sq (Ef.int .i64) h' Fp.all s1 r.1 ∧ Grow h0 h'
theorem BestAt.more {h0 h h' : AH} {iA iB iO : Nat} {oi : Option Nat} {G N : Int} {st : List Int × Fr3} (e : BestAt h0 h iA iB iO oi G N st) (g : Grow h h') : BestAt h0 h' iA iB iO oi G N st := by
 obtain ⟨t1, t2, bB, x1, x2⟩ := e.best
 obtain ⟨s, bO, gf⟩ := e.outs
 exact ⟨e.grow.trans g, g.has e.hA, ⟨t1, t2, g.has bB, x1.grow g, x2.grow g⟩, ⟨s, g.has bO, gf.grow g⟩, e.ab, e.ao, e.bo, e.na, e.nb, e.no, e.la, e.lb, e.lo, e.lg⟩
theorem k53 (i : Int) (g : Fr3) (st : List Int × Fr3) : (askF i g st).1.length ≤ st.1.length + 1 := by
 unfold askF
 split
 ·simp
 ·split
  ·simp
  ·simp
theorem E2_at {h : AH} {S : Fp} {s : Sl} {xs : List (Int × Int)} (n : Sq E2 h S s xs) {i : Nat} (hi : i < xs.length) : ∃ r : Ref, idx s.ref s.len (i : Int) 2 = some r ∧ h.cell (r.add 0) = some (.int .i64 xs[i].1) ∧ h.cell (r.add 1) = some (.int .i64 xs[i].2) := by
 obtain ⟨r, cs, e1, e2, e3⟩ := n.at (i := (i : Int)) (kow hi)
 obtain ⟨c1, c2, rfl, rfl, rfl⟩ := e2
 rw [n.len]
 exact ⟨r, e1, e3.at' 0 _ rfl, e3.at' 1 _ rfl⟩
theorem k4u {h0 : AH} {iA iB iO : Nat} {l G N : Int} {s : Sl} {xs : List (Int × Int)} (n0 : Sq E2 h0 Fp.all s xs) (hlen : xs.length ≤ 16384) : ∀ (k i : Nat), i + k = xs.length → ∀ {h : AH} {oi : Option Nat} {st : List Int × Fr3}, BestAt h0 h iA iB iO oi G N st → st.1.length ≤ i →
  Runs (go (.pt F.kdx Td.kfr [(0, .int .i64 l), (6, .ptr (some (.new iA 0))), (10, .ptr (some (.new iO 0))), (13, .func (.func F.kdj) [] [.ptr (some (.new iB 0)), .ptr (some (.new iO 0))]), (47, s.v), (48, .int .i64 (xs.length : Int)), (49, .int .i64 (i : Int))]) h) (IntsP h0 (bestGo l G N (xs.drop i) (i : Int) st)) := by
 intro k
 induction k with
 | zero =>
  intro i hi h oi st e hl
  rw [ksg]
  obtain ⟨t, bO, gf⟩ := e.outs
  refine Runs.ifF (by rw [decide_eq_false_iff_not]; omega) ?_
  refine Runs.step (bO.rd0 (f := AV.asSl) rfl (asSl_v _)) ?_
  rw [List.drop_of_length_le (by omega)]
  exact Runs.ret ⟨t, rfl, gf.sq.mono fun _ _ => trivial, e.grow⟩
 | succ k ih =>
  intro i hi h oi st e hl
  have hx : i < xs.length := by omega
  rw [ksg]
  refine Runs.ifT (by rw [decide_eq_true_eq]; omega) ?_
  obtain ⟨r, e1, c0, c1⟩ := E2_at (n0.grow e.grow) hx
  refine Runs.step e1 ?_
  refine Runs.step (rdc c0 (kb _ _)) ?_
  refine Runs.step (rdc c1 (kb _ _)) ?_
  refine Runs.new fun h12 b12 g12 => ?_
  refine Runs.puts b12 rfl fun h13 b13 u13 => ?_
  have g13 : Grow h h13 := g12.updr (Nat.le_refl _) u13
  refine Runs.step (b13.rd 0 (f := AV.asInt .i64) rfl (kb _ _)) ?_
  refine Runs.step (b13.rd 1 (f := AV.asInt .i64) rfl (kb _ _)) ?_
  have a13 := g13.has e.hA
  refine Runs.step (a13.rd 0 (f := AV.asInt .i64) rfl (kb _ _)) ?_
  refine Runs.step (a13.rd 1 (f := AV.asInt .i64) rfl (kb _ _)) ?_
  obtain ⟨_, h18, e18, u1, u2, rfl, n1, n2, g18, w1, w2⟩ := k5d (h := h13) l xs[i].1 xs[i].2 G N
  refine Runs.step e18 ?_
  refine Runs.step rfl ?_
  refine Runs.step rfl ?_
  refine Runs.ifT rfl ?_
  refine Runs.step rfl ?_
  refine Runs.step (asSl_v _) ?_
  refine Runs.step (asSl_v _) ?_
  refine Runs.step (seen (kb _ _)) ?_
  dsimp only
  refine Runs.new fun h25 b25 g25 => ?_
  refine Runs.puts b25 rfl fun h26 b26 u26 => ?_
  have g26' : Grow h18 h26 := g25.updr (Nat.le_refl _) u26
  have g26 : Grow h h26 := (g13.trans g18).trans g26'
  rw [List.drop_eq_getElem_cons hx]
  rcases k2o l xs[i].1 xs[i].2 G N with er | er
  ·rw [er]
   refine Runs.ifF rfl ?_
   have hgo : bestGo l G N (xs[i] :: xs.drop (i + 1)) (i : Int) st = bestGo l G N (xs.drop (i + 1)) ((i + 1 : Nat) : Int) (kc5 l G N xs[i] (i : Int) st) := by
    rw [bestGo, if_pos er]
    rfl
   rw [hgo, kbb (by omega)]
   have d13 := (g18.trans g26').has b13
   have skip : ¬ (xs[i].2 > 0 ∧ xs[i].2 < N) → Runs (go (.pt F.kdx Td.kfr [(0, .int .i64 l), (6, .ptr (some (.new iA 0))), (10, .ptr (some (.new iO 0))), (13, .func (.func F.kdj) [] [.ptr (some (.new iB 0)), .ptr (some (.new iO 0))]), (47, s.v), (48, .int .i64 (xs.length : Int)), (49, .int .i64 ((i + 1 : Nat) : Int))]) h26) (IntsP h0 (bestGo l G N (xs.drop (i + 1)) ((i + 1 : Nat) : Int) (kc5 l G N xs[i] (i : Int) st))) := fun hn => by
    unfold kc5
    rw [if_neg hn]
    exact ih (i + 1) (by omega) (e.more g26) (by omega)
   refine Runs.step (d13.rd 1 (f := AV.asInt .i64) rfl (kb _ _)) ?_
   refine Runs.cond (fun k1 => ?_) (fun k1 => ?_)
   ·rw [decide_eq_true_eq] at k1
    refine Runs.step (d13.rd 1 (f := AV.asInt .i64) rfl (kb _ _)) ?_
    refine Runs.step ((g26.has e.hA).rd 1 (f := AV.asInt .i64) rfl (kb _ _)) ?_
    refine Runs.cond (fun k2 => ?_) (fun k2 => ?_)
    ·rw [decide_eq_true_eq] at k2
     refine Runs.step (b26.rd 0 (f := AV.asBool) rfl rfl) ?_
     refine Runs.step (b26.rd 1 (f := AV.asSl) rfl (asSl_v _)) ?_
     refine Runs.step (b26.rd 2 (f := AV.asSl) rfl (asSl_v _)) ?_
     obtain ⟨t1, t2, bB, x1, x2⟩ := e.best
     obtain ⟨so, bO, gf⟩ := e.outs
     have lB := bB.lt
     have lO := bO.lt
     have sz := g13.size
     have off : ∀ {u : Sl} {ys : List Nat}, Nats h18 u ys → Own h13 u → Off h26 u ys iB iO oi := fun nn ww =>
      ⟨(nn.grow g25).upda (Av.of_base nn (Nat.le_refl _)) u26, Av.of_own ww (by omega), Av.of_own ww (by omega), AvO.of_own ww (by
       have := gf.lt
       revert this
       cases oi with
       | none => exact fun _ => trivial
       | some q => exact fun hq => Nat.lt_of_lt_of_le hq sz)⟩
     obtain ⟨_, h33, e33, rfl, oi', e'⟩ := ask_is (g := Fr3.of (gainF l xs[i].1 xs[i].2 G N)) (e.more g26) (by omega) (off n1 w1) (off n2 w2) (i : Int)
     refine Runs.step e33 ?_
     refine Runs.step rfl ?_
     have hs : kc5 l G N xs[i] (i : Int) st = askF (i : Int) (Fr3.of (gainF l xs[i].1 xs[i].2 G N)) st := by
      unfold kc5
      rw [if_pos ⟨k1, k2⟩]
     rw [hs]
     exact ih (i + 1) (by omega) e' (Nat.le_trans (k53 _ _ _) (by omega))
    ·rw [decide_eq_false_iff_not] at k2
     exact skip fun hh => k2 hh.2
   ·rw [decide_eq_false_iff_not] at k1
    exact skip fun hh => k1 hh.1
  ·rw [er]
   refine Runs.ifT rfl ?_
   rw [bestGo, if_neg (by rw [er]; decide)]
   exact Runs.ret ⟨⟨none, 0, .is 0⟩, rfl, Sq.nil _ _ _, e.grow.trans g26⟩
end Go.Ab

/- squeezed -/
set_option linter.unusedVariables false
set_option linter.unusedSimpArgs false
set_option maxRecDepth 10000
namespace Go.Ab
open Go.Proofs Go.Num
def gammaF (γ : Int) : Fr3 := Fr3.of (kp (ofI γ).1 (ofI γ).2 [1])
def bestF (l γ G N : Int) (xs : List (Int × Int)) : List Int × Int :=
 cond (!kw G N) ([], 1) (cond (!kba l) ([], 1) (cond (decide (γ < 0)) ([], 1) (cond (decide (γ > 1048576)) ([], 1) (cond (decide ((xs.length : Int) > 16384)) ([], 1) (bestGo l G N xs 0 ([], gammaF γ))))))
theorem k0e {h : AH} {s : Sl} {xs : List (Int × Int)} (n : Sq E2 h Fp.all s xs) (l γ G N : Int) : Runs (go (.fn F.kdx [.int .i64 l, .int .i64 γ, .agg [.int .i64 G, .int .i64 N], s.v]) h) (IntsP h (bestF l γ G N xs)) := by
 have bad : ∀ {h' : AH}, Grow h h' → bestF l γ G N xs = ([], 1) → Runs (some (.tup [(⟨none, 0, .is 0⟩ : Sl).v, .int .i64 1], h')) (IntsP h (bestF l γ G N xs)) := fun g e => by
  rw [e]
  exact Runs.ret ⟨⟨none, 0, .is 0⟩, rfl, Sq.nil _ _ _, g⟩
 rw [k55]
 refine Runs.new fun h6 b6 g6 => ?_
 refine Runs.step (b6.rd 0 (f := AV.asInt .i64) rfl (kb _ _)) ?_
 refine Runs.step (b6.rd 1 (f := AV.asInt .i64) rfl (kb _ _)) ?_
 obtain ⟨_, h9, e9, rfl, g9⟩ := kit (h := h6) G N
 refine Runs.step e9 ?_
 refine Runs.step (seen rfl) ?_
 refine Runs.cond (fun k1 => ?_) (fun k1 => ?_)
 ·exact bad (g6.trans g9) (by unfold bestF; rw [k1]; rfl)
 obtain ⟨_, h11, e11, rfl, g11⟩ := kms (h := h9) l
 refine Runs.step e11 ?_
 refine Runs.step (seen rfl) ?_
 have G11 := (g6.trans g9).trans g11
 refine Runs.cond (fun k2 => ?_) (fun k2 => ?_)
 ·exact bad G11 (by unfold bestF; rw [k1, cond_false, k2]; rfl)
 refine Runs.cond (fun k3 => ?_) (fun k3 => ?_)
 ·exact bad G11 (by unfold bestF; rw [k1, cond_false, k2, cond_false, k3]; rfl)
 refine Runs.cond (fun k4 => ?_) (fun k4 => ?_)
 ·exact bad G11 (by unfold bestF; rw [k1, cond_false, k2, cond_false, k3, cond_false, k4]; rfl)
 rw [n.len]
 refine Runs.cond (fun k5 => ?_) (fun k5 => ?_)
 ·exact bad G11 (by unfold bestF; rw [k1, cond_false, k2, cond_false, k3, cond_false, k4, cond_false, k5]; rfl)
 have ef : bestF l γ G N xs = bestGo l G N xs 0 ([], gammaF γ) := by
  unfold bestF
  rw [k1, cond_false, k2, cond_false, k3, cond_false, k4, cond_false, k5, cond_false]
 rw [ef]
 rw [decide_eq_false_iff_not] at k3 k4 k5
 dsimp only
 refine Runs.new fun h13 b13 g13 => ?_
 obtain ⟨s14, h14, e14, n14, g14, o14⟩ := kr6 (h := h13) γ (by omega)
 refine Runs.step e14 ?_
 refine Runs.step rfl ?_
 refine Runs.ifT rfl ?_
 refine Runs.step rfl ?_
 refine Runs.step (asSl_v _) ?_
 dsimp only
 refine Runs.new fun h18 b18 g18 => ?_
 have n1 : Nats h18 (⟨some (.new h14.blks.size 0), 1, .is 1⟩ : Sl) [1] := Nats.of_has (xs := [1]) b18 (by decide) (by simp)
 obtain ⟨_, h19, e19, u1, u2, rfl, m1, m2, g19, w1, w2⟩ := kko (n14.grow g18) n1 (ofI γ).1
 refine Runs.step e19 ?_
 refine Runs.step rfl ?_
 refine Runs.step rfl ?_
 refine Runs.ifT rfl ?_
 refine Runs.step rfl ?_
 refine Runs.step (asSl_v _) ?_
 refine Runs.step (asSl_v _) ?_
 refine Runs.step (seen (kb _ _)) ?_
 dsimp only
 refine Runs.new fun h26 b26 g26 => ?_
 refine Runs.puts b26 rfl fun h27 b27 u27 => ?_
 have l6 : h.blks.size < h6.blks.size := b6.lt
 have s9 := g9.size
 have s11 := g11.size
 have l13 : h11.blks.size < h13.blks.size := b13.lt
 have s14 := g14.size
 have s18 := g18.size
 have s19 := g19.size
 have gU : Grow h19 h27 := g26.updr (Nat.le_refl _) u27
 have off : ∀ {u : Sl} {ys : List Nat}, Nats h19 u ys → Own h18 u → Off h27 u ys h19.blks.size h11.blks.size none := fun nn ww =>
  ⟨(nn.grow g26).upda (Av.of_base nn (Nat.le_refl _)) u27, Av.of_base nn (Nat.le_refl _), Av.of_own ww (by omega), trivial⟩
 have gX := ((g14.trans g18).trans g19).trans gU
 have at0 : BestAt h h27 h.blks.size h19.blks.size h11.blks.size none G N ([], gammaF γ) := by
  refine ⟨(G11.trans g13).trans gX, gX.has (g13.has ((g9.trans g11).has b6)), ⟨u1, u2, b27, off m1 w1, off m2 w2⟩, ⟨_, gX.has b13, GF.none _ _ _ _⟩, ?_, ?_, ?_, trivial, trivial, trivial, ?_, ?_, ?_, trivial⟩ <;> omega
 have := k4u n (by omega) (l := l) (s := s) xs.length 0 (by omega) at0 (Nat.le_refl _)
 simpa using this
end Go.Ab

/- squeezed -/
set_option linter.unusedVariables false
set_option linter.unusedSimpArgs false
set_option maxRecDepth 10000
namespace Go.Ab
open Go.Proofs Go.Num
structure RefAt (h0 h : AH) (iA iB : Nat) (oi : Option Nat) (so : Sl) (G N : Int) (st : List Int × Fr3) : Prop where
 grow : Grow h0 h
 hA : h.has iA [.int .i64 G, .int .i64 N] T.kz
 best : ∃ t1 t2 : Sl, h.has iB [.bool st.2.1, t1.v, t2.v] T.kj ∧ Off h t1 st.2.2.1 iB iB oi ∧ Off h t2 st.2.2.2 iB iB oi
 outs : GF (Ef.int .i64) T.int h Fp.no so oi st.1
 ab : iA ≠ iB
 na : NeO iA oi
 nb : NeO iB oi
 la : h0.blks.size ≤ iA
 lb : h0.blks.size ≤ iB
 lg : LeO h0.blks.size oi
theorem RefAt.more {h0 h h' : AH} {iA iB : Nat} {oi : Option Nat} {so : Sl} {G N : Int} {st : List Int × Fr3} (e : RefAt h0 h iA iB oi so G N st) (g : Grow h h') : RefAt h0 h' iA iB oi so G N st := by
 obtain ⟨t1, t2, bB, x1, x2⟩ := e.best
 exact ⟨e.grow.trans g, g.has e.hA, ⟨t1, t2, g.has bB, x1.grow g, x2.grow g⟩, e.outs.grow g, e.ab, e.na, e.nb, e.la, e.lb, e.lg⟩
theorem k45 {h0 : AH} {iA iB : Nat} {l G N : Int} {s : Sl} {xs : List (Int × Int)} (n0 : Sq E2 h0 Fp.all s xs) (hlen : xs.length ≤ 16384) (ok : ∀ x ∈ xs, (kq x.1 x.2 G N).2.2 = true) (hl : kba l = true) : ∀ (k i : Nat), i + k = xs.length → ∀ {h : AH} {oi : Option Nat} {so : Sl} {st : List Int × Fr3}, RefAt h0 h iA iB oi so G N st → st.1.length ≤ i →
  Runs (go (.pt F.kbq Td.kcu [(0, .int .i64 l), (3, s.v), (6, .ptr (some (.new iA 0))), (14, .ptr (some (.new iB 0))), (16, so.v), (17, .int .i64 (i : Int))]) h) (IntsP h0 (bestGo l G N (xs.drop i) (i : Int) st)) := by
 intro k
 induction k with
 | zero =>
  intro i hi h oi so st e hl'
  rw [kqp, n0.len]
  refine Runs.ifF (by rw [decide_eq_false_iff_not]; omega) ?_
  rw [List.drop_of_length_le (by omega)]
  exact Runs.ret ⟨so, rfl, e.outs.sq.mono fun _ _ => trivial, e.grow⟩
 | succ k ih =>
  intro i hi h oi so st e hl'
  have hx : i < xs.length := by omega
  have okx := ok xs[i] (List.getElem_mem _)
  have er := ktj okx hl
  obtain ⟨m1, m2, m3, -⟩ := kp2 okx
  rw [kqp]
  refine Runs.ifT (by rw [decide_eq_true_eq, n0.len]; omega) ?_
  have nh := n0.grow e.grow
  obtain ⟨r, e1, c0, c1⟩ := E2_at nh hx
  refine Runs.step e1 ?_
  refine Runs.step (rdc c1 (kb _ _)) ?_
  rw [List.drop_eq_getElem_cons hx]
  have hgo : bestGo l G N (xs[i] :: xs.drop (i + 1)) (i : Int) st = bestGo l G N (xs.drop (i + 1)) ((i + 1 : Nat) : Int) (kc5 l G N xs[i] (i : Int) st) := by
   rw [bestGo, if_pos er]
   rfl
  rw [hgo, kbb (by omega)]
  have skip : ¬ (xs[i].2 > 0 ∧ xs[i].2 < N) → Runs (go (.pt F.kbq Td.kcu [(0, .int .i64 l), (3, s.v), (6, .ptr (some (.new iA 0))), (14, .ptr (some (.new iB 0))), (16, so.v), (17, .int .i64 ((i + 1 : Nat) : Int))]) h) (IntsP h0 (bestGo l G N (xs.drop (i + 1)) ((i + 1 : Nat) : Int) (kc5 l G N xs[i] (i : Int) st))) := fun hn => by
   unfold kc5
   rw [if_neg hn]
   exact ih (i + 1) (by omega) e (by omega)
  have hN : IntKind.wrap .i64 (N - xs[i].2) = N - xs[i].2 := by
   unfold kw at m1 m2
   simp at m1 m2
   rw [IntKind.wrap_i64]
   omega
  refine Runs.cond (fun k1 => ?_) (fun k1 => ?_)
  ·rw [decide_eq_true_eq] at k1
   exact skip fun hh => by omega
  rw [decide_eq_false_iff_not] at k1
  refine Runs.step (e.hA.rd 1 (f := AV.asInt .i64) rfl (kb _ _)) ?_
  refine Runs.step e1 ?_
  refine Runs.step (rdc c1 (kb _ _)) ?_
  rw [hN]
  refine Runs.cond (fun k2 => ?_) (fun k2 => ?_)
  ·rw [decide_eq_true_eq] at k2
   exact skip fun hh => by omega
  rw [decide_eq_false_iff_not] at k2
  have hs : kc5 l G N xs[i] (i : Int) st = askF (i : Int) (Fr3.of (gainF l xs[i].1 xs[i].2 G N)) st := by
   unfold kc5
   rw [if_pos ⟨by omega, by omega⟩]
  rw [hs]
  refine Runs.new fun h12 b12 g12 => ?_
  refine Runs.step e1 ?_
  refine Runs.step (rdc (g12.cell_some c0) (kb _ _)) ?_
  refine Runs.step (rdc (g12.cell_some c1) (kb _ _)) ?_
  have a12 := g12.has e.hA
  refine Runs.step (a12.rd 0 (f := AV.asInt .i64) rfl (kb _ _)) ?_
  refine Runs.step (a12.rd 1 (f := AV.asInt .i64) rfl (kb _ _)) ?_
  obtain ⟨_, h18, e18, u1, u2, rfl, n1, n2, g18, w1, w2⟩ := kx1 (h := h12) l xs[i].1 xs[i].2 G N
  refine Runs.step e18 ?_
  refine Runs.step rfl ?_
  refine Runs.step rfl ?_
  refine Runs.ifT rfl ?_
  refine Runs.step rfl ?_
  refine Runs.step (asSl_v _) ?_
  refine Runs.step (asSl_v _) ?_
  refine Runs.step (seen (kb _ _)) ?_
  refine Runs.when (g18.same b12 0 0) ?_
  have l12 : h.blks.size < h12.blks.size := b12.lt
  refine Runs.puts (g18.has b12) rfl fun h25 b25 u25 => ?_
  have G18 := g12.trans g18
  have G25 : Grow h h25 := G18.updr (Nat.le_refl _) u25
  have E25 := e.more G25
  refine Runs.step (b25.rd 0 (f := AV.asBool) rfl rfl) ?_
  refine Runs.step (b25.rd 1 (f := AV.asSl) rfl (asSl_v _)) ?_
  refine Runs.step (b25.rd 2 (f := AV.asSl) rfl (asSl_v _)) ?_
  obtain ⟨t1, t2, bB, x1, x2⟩ := E25.best
  obtain ⟨_, _, bB0, _, _⟩ := e.best
  have lB := bB0.lt
  refine Runs.step (bB.rd 0 (f := AV.asBool) rfl rfl) ?_
  refine Runs.step (bB.rd 1 (f := AV.asSl) rfl (asSl_v _)) ?_
  refine Runs.step (bB.rd 2 (f := AV.asSl) rfl (asSl_v _)) ?_
  have off : ∀ {u : Sl} {ys : List Nat}, Nats h18 u ys → Own h12 u → Off h25 u ys iB iB oi := fun nn ww =>
   ⟨nn.upda (Av.of_own ww l12) u25, Av.of_own ww (by omega), Av.of_own ww (by omega), AvO.of_own ww (by
    have := e.outs.lt
    revert this
    cases oi with
    | none => exact fun _ => trivial
    | some q => exact fun hq => Nat.lt_trans hq l12)⟩
  have o1 := off n1 w1
  have o2 := off n2 w2
  obtain ⟨_, h32, e32, rfl, g32⟩ := k1s o1.n o2.n x1.n x2.n (gainF l xs[i].1 xs[i].2 G N).1 st.2.1
  refine Runs.step e32 ?_
  refine Runs.step (seen (kb _ _)) ?_
  dsimp only
  have E32 := E25.more g32
  rw [kxk]
  have bB32 := g32.has bB
  have b32 := g32.has b25
  have sz25 := G25.size
  have sz32 := g32.size
  refine Runs.cond (fun k => ?_) (fun k => ?_)
  ·have kk := k
   rw [decide_eq_true_eq] at k
   have ea : askF (i : Int) (Fr3.of (gainF l xs[i].1 xs[i].2 G N)) st = ([(i : Int)], Fr3.of (gainF l xs[i].1 xs[i].2 G N)) := by unfold askF; rw [if_pos k]
   rw [ea]
   refine Runs.step (b32.rd 0 (f := AV.asBool) rfl rfl) ?_
   refine Runs.step (b32.rd 1 (f := AV.asSl) rfl (asSl_v _)) ?_
   refine Runs.step (b32.rd 2 (f := AV.asSl) rfl (asSl_v _)) ?_
   refine Runs.puts bB32 rfl fun h37 b37 u37 => ?_
   refine Runs.ifT kk ?_
   refine Runs.new fun h38 b38 g38 => ?_
   refine Runs.step (koa (n := 1) b38 (by rw [kgt]; rfl)) ?_
   obtain ⟨s', h39, e39, gf39, u39⟩ := (GF.none (Ef.int .i64) T.int h38 Fp.no).push (P := Pg) (T := Fp.no) (cs := [.int .i64 (i : Int)]) (x := (i : Int)) rfl NotO.no (kn3 (by simp))
   refine Runs.step e39 ?_
   refine Runs.step (seen (asSl_v _)) ?_
   dsimp only
   have s37 := u37.size
   have l38 : h37.blks.size < h38.blks.size := b38.lt
   have u39' : Grow h38 h39 := u39
   refine ih (i + 1) (by omega) (oi := some h38.blks.size) (st := ([(i : Int)], Fr3.of (gainF l xs[i].1 xs[i].2 G N))) ⟨?_, ?_, ⟨u1, u2, ?_, ?_, ?_⟩, gf39.toNo, e.ab, ?_, ?_, e.la, e.lb, ?_⟩ (by simp)
   ·exact ((E32.grow.updr e.lb u37).trans g38).trans u39'
   ·exact u39'.has (g38.has (E32.hA.updr e.ab u37))
   ·exact u39'.has (g38.has b37)
   ·exact (((((o1.anew o1.n (by omega)).grow g32).updB u37).grow g38).grow u39')
   ·exact (((((o2.anew o2.n (by omega)).grow g32).updB u37).grow g38).grow u39')
   ·have := E32.hA.lt
    show iA ≠ h38.blks.size
    omega
   ·show iB ≠ h38.blks.size
    omega
   ·have := E32.grow.size
    show h0.blks.size ≤ h38.blks.size
    omega
  ·have kk := k
   rw [decide_eq_false_iff_not] at k
   refine Runs.ifF kk ?_
   refine Runs.cond (fun k0 => ?_) (fun k0 => ?_)
   ·rw [decide_eq_true_eq] at k0
    rw [E32.outs.len]
    refine Runs.cond (fun kl => ?_) (fun kl => ?_)
    ·rw [decide_eq_true_eq] at kl
     have ea : askF (i : Int) (Fr3.of (gainF l xs[i].1 xs[i].2 G N)) st = (st.1 ++ [(i : Int)], st.2) := by
      unfold askF
      rw [if_neg k, if_pos ⟨k0, by omega⟩]
     rw [ea]
     refine Runs.new fun h46 b46 g46 => ?_
     refine Runs.step (koa (n := 1) b46 (by rw [kgt]; rfl)) ?_
     obtain ⟨s', h47, e47, gf47, u47⟩ := (E32.outs.grow g46).push (P := Pg) (T := Fp.no) (cs := [.int .i64 (i : Int)]) (x := (i : Int)) rfl NotO.no (kn3 (by omega))
     refine Runs.step e47 ?_
     refine Runs.step (seen (asSl_v _)) ?_
     dsimp only
     have l46 : h32.blks.size < h46.blks.size := b46.lt
     have E46 := E32.more g46
     obtain ⟨y1, y2, bC, z1, z2⟩ := E46.best
     refine ih (i + 1) (by omega) (oi := some h46.blks.size) (st := (st.1 ++ [(i : Int)], st.2)) ⟨E46.grow.updo e.lg u47, E46.hA.updo e.na u47, ⟨y1, y2, bC.updo e.nb u47, (z1.updG u47).anew z1.n (Nat.le_refl _), (z2.updG u47).anew z2.n (Nat.le_refl _)⟩, gf47.toNo, e.ab, ?_, ?_, e.la, e.lb, E46.grow.size⟩ (by simp; omega)
     ·have := E46.hA.lt
      show iA ≠ h46.blks.size
      omega
     ·have := bC.lt
      show iB ≠ h46.blks.size
      omega
    ·rw [decide_eq_false_iff_not] at kl
     have ea : askF (i : Int) (Fr3.of (gainF l xs[i].1 xs[i].2 G N)) st = st := by
      unfold askF
      rw [if_neg k, if_neg (fun h => kl (by omega))]
     rw [ea]
     exact ih (i + 1) (by omega) E32 (by omega)
   ·rw [decide_eq_false_iff_not] at k0
    have ea : askF (i : Int) (Fr3.of (gainF l xs[i].1 xs[i].2 G N)) st = st := by
     unfold askF
     rw [if_neg k, if_neg (fun h => k0 h.1)]
    rw [ea]
    exact ih (i + 1) (by omega) E32 (by omega)
end Go.Ab

/- squeezed -/
set_option linter.unusedVariables false
set_option linter.unusedSimpArgs false
set_option maxRecDepth 10000
namespace Go.Ab
open Go.Proofs Go.Num
theorem kuc (l G N : Int) : ∀ (xs : List (Int × Int)) (i : Int) (st : List Int × Fr3), (∃ x ∈ xs, (kq x.1 x.2 G N).2.2 = false) → bestGo l G N xs i st = ([], 1)
 | [], _, _, ⟨_, h, _⟩ => by cases h
 | x :: xs, i, st, ⟨y, hy, hb⟩ => by
  rw [bestGo]
  by_cases hx : (gainF l x.1 x.2 G N).2.2.2 = 0
  ·rw [if_pos hx]
   rcases List.mem_cons.1 hy with rfl | hy
   ·rw [(k4a hx).1] at hb
    cases hb
   ·exact kuc l G N xs _ _ ⟨y, hy, hb⟩
  ·rw [if_neg hx]
theorem ky5 : (ofI 1).2 = [1] := by decide +kernel
theorem k6r {h0 : AH} {iA : Nat} {l γ G N : Int} {s : Sl} {xs : List (Int × Int)} (n0 : Sq E2 h0 Fp.all s xs) (hlen : xs.length ≤ 16384) (hl : kba l = true) (hγ : 0 ≤ γ ∧ γ ≤ 1048576) : ∀ (k i : Nat), i + k = xs.length → ∀ {h : AH}, Grow h0 h → h0.blks.size ≤ iA → h.has iA [.int .i64 G, .int .i64 N] T.kz → (∀ x ∈ xs.take i, (kq x.1 x.2 G N).2.2 = true) →
  Runs (go (.pt F.kbq Td.kln [(0, .int .i64 l), (1, .int .i64 γ), (3, s.v), (6, .ptr (some (.new iA 0))), (11, .int .i64 (i : Int))]) h) (IntsP h0 (bestGo l G N xs 0 ([], gammaF γ))) := by
 intro k
 induction k with
 | zero =>
  intro i hi h g lA hA ok
  rw [kt4, n0.len]
  refine Runs.ifF (by rw [decide_eq_false_iff_not]; omega) ?_
  rw [List.take_of_length_le (by omega)] at ok
  obtain ⟨s19, h19, e19, n19, g19, o19⟩ := klw (h := h) γ (by omega)
  refine Runs.step e19 ?_
  refine Runs.step rfl ?_
  refine Runs.ifT rfl ?_
  refine Runs.step rfl ?_
  refine Runs.step (asSl_v _) ?_
  obtain ⟨s23, h23, e23, n23, g23, o23⟩ := klw (h := h19) 1 (by omega)
  refine Runs.step e23 ?_
  refine Runs.step rfl ?_
  refine Runs.ifT rfl ?_
  refine Runs.step rfl ?_
  refine Runs.step (asSl_v _) ?_
  rw [ky5] at n23
  obtain ⟨_, h27, e27, u1, u2, rfl, m1, m2, g27, w1, w2⟩ := kpp (n19.grow g23) n23 (ofI γ).1
  refine Runs.step e27 ?_
  refine Runs.step rfl ?_
  refine Runs.step rfl ?_
  refine Runs.ifT rfl ?_
  refine Runs.step rfl ?_
  refine Runs.step (asSl_v _) ?_
  refine Runs.step (asSl_v _) ?_
  refine Runs.step (seen (kb _ _)) ?_
  dsimp only
  refine Runs.new fun h34 b34 g34 => ?_
  refine Runs.puts b34 rfl fun h35 b35 u35 => ?_
  have gU : Grow h27 h35 := g34.updr (Nat.le_refl _) u35
  have gX := ((g19.trans g23).trans g27).trans gU
  have sz : h.blks.size ≤ h27.blks.size := ((g19.trans g23).trans g27).size
  have lA' := hA.lt
  have off : ∀ {u : Sl} {ys : List Nat}, Nats h27 u ys → Off h35 u ys h27.blks.size h27.blks.size none := fun nn =>
   ⟨(nn.grow g34).upda (Av.of_base nn (Nat.le_refl _)) u35, Av.of_base nn (Nat.le_refl _), Av.of_base nn (Nat.le_refl _), trivial⟩
  have gs := g.size
  have at0 : RefAt h0 h35 iA h27.blks.size none ⟨none, 0, .is 0⟩ G N ([], gammaF γ) :=
   ⟨g.trans gX, gX.has hA, ⟨u1, u2, b35, off m1, off m2⟩, GF.none _ _ _ _, by omega, trivial, trivial, lA, by omega, trivial⟩
  have := k45 n0 hlen ok hl xs.length 0 (by omega) at0 (Nat.le_refl _)
  simpa using this
 | succ k ih =>
  intro i hi h g lA hA ok
  have hx : i < xs.length := by omega
  rw [kt4]
  refine Runs.ifT (by rw [decide_eq_true_eq, n0.len]; omega) ?_
  refine Runs.new fun h6 b6 g6 => ?_
  obtain ⟨r, e1, c0, c1⟩ := E2_at (n0.grow g) hx
  refine Runs.step e1 ?_
  refine Runs.step (rdc (g6.cell_some c0) (kb _ _)) ?_
  refine Runs.step (rdc (g6.cell_some c1) (kb _ _)) ?_
  have a6 := g6.has hA
  refine Runs.step (a6.rd 0 (f := AV.asInt .i64) rfl (kb _ _)) ?_
  refine Runs.step (a6.rd 1 (f := AV.asInt .i64) rfl (kb _ _)) ?_
  obtain ⟨_, h12, e12, rfl, g12⟩ := kur (h := h6) xs[i].1 xs[i].2 G N
  refine Runs.step e12 ?_
  refine Runs.step rfl ?_
  refine Runs.step rfl ?_
  refine Runs.ifT rfl ?_
  refine Runs.step rfl ?_
  refine Runs.step rfl ?_
  refine Runs.step (seen rfl) ?_
  refine Runs.when (g12.same b6 0 0) ?_
  refine Runs.puts (g12.has b6) rfl fun h18 b18 u18 => ?_
  have G18 : Grow h h18 := (g6.trans g12).updr (Nat.le_refl _) u18
  refine Runs.cond (fun kk => ?_) (fun kk => ?_)
  ·rw [kuc l G N xs _ _ ⟨xs[i], List.getElem_mem _, by simpa using kk⟩]
   exact Runs.ret ⟨⟨none, 0, .is 0⟩, rfl, Sq.nil _ _ _, g.trans G18⟩
  ·rw [kbb (by omega)]
   refine ih (i + 1) (by omega) (g.trans G18) lA (G18.has hA) fun x hx' => ?_
   rw [List.take_add_one, List.getElem?_eq_getElem hx] at hx'
   rcases List.mem_append.1 hx' with h' | h'
   ·exact ok x h'
   ·simp at h'
    rw [h']
    simpa using kk
theorem kwt {h : AH} {s : Sl} {xs : List (Int × Int)} (n : Sq E2 h Fp.all s xs) (l γ G N : Int) : Runs (go (.fn F.kbq [.int .i64 l, .int .i64 γ, .agg [.int .i64 G, .int .i64 N], s.v]) h) (IntsP h (bestF l γ G N xs)) := by
 have bad : ∀ {h' : AH}, Grow h h' → bestF l γ G N xs = ([], 1) → Runs (some (.tup [(⟨none, 0, .is 0⟩ : Sl).v, .int .i64 1], h')) (IntsP h (bestF l γ G N xs)) := fun g e => by
  rw [e]
  exact Runs.ret ⟨⟨none, 0, .is 0⟩, rfl, Sq.nil _ _ _, g⟩
 have lam : ∀ {c : Bool}, kba l = c → (c = false ↔ (l < 1 ∨ l > 1048576)) := fun e => by
  rw [← e]
  unfold kba
  by_cases h1 : l ≥ 1
  ·rw [decide_eq_true h1, cond_true, decide_eq_false_iff_not]; omega
  ·rw [decide_eq_false h1, cond_false]; simp; omega
 rw [k4z]
 refine Runs.new fun h6 b6 g6 => ?_
 refine Runs.step (b6.rd 0 (f := AV.asInt .i64) rfl (kb _ _)) ?_
 refine Runs.step (b6.rd 1 (f := AV.asInt .i64) rfl (kb _ _)) ?_
 obtain ⟨_, h9, e9, rfl, g9⟩ := ki4 (h := h6) G N
 refine Runs.step e9 ?_
 refine Runs.step (seen rfl) ?_
 have G9 := g6.trans g9
 unfold bestF at bad ⊢
 refine Runs.cond (fun k1 => ?_) (fun k1 => ?_)
 ·exact bad G9 (by rw [k1]; rfl)
 rw [k1] at bad ⊢
 rw [cond_false] at bad ⊢
 have tail : ∀ {b : Bool} {x : List Int × Int}, b = true → cond (!kba l) ([], 1) (cond b ([], 1) x) = (([], 1) : List Int × Int) := fun hb => by
  rw [hb]; cases kba l <;> rfl
 refine Runs.cond (fun k3 => ?_) (fun k3 => ?_)
 ·exact bad G9 (by rw [k3]; cases kba l <;> rfl)
 rw [k3] at bad ⊢
 rw [cond_false] at bad ⊢
 refine Runs.cond (fun k4 => ?_) (fun k4 => ?_)
 ·exact bad G9 (by rw [k4]; cases kba l <;> rfl)
 rw [k4] at bad ⊢
 rw [cond_false] at bad ⊢
 refine Runs.cond (fun k2 => ?_) (fun k2 => ?_)
 ·rw [decide_eq_true_eq] at k2
  exact bad G9 (by rw [(lam rfl).2 (.inl k2)]; rfl)
 refine Runs.cond (fun k2' => ?_) (fun k2' => ?_)
 ·rw [decide_eq_true_eq] at k2'
  exact bad G9 (by rw [(lam rfl).2 (.inr k2')]; rfl)
 rw [decide_eq_false_iff_not] at k2 k2'
 have hl : kba l = true := by
  cases hc : kba l with
  | true => rfl
  | false => rcases (lam hc).1 rfl with h' | h' <;> omega
 rw [hl] at bad ⊢
 rw [Bool.not_true, cond_false] at bad ⊢
 rw [n.len]
 refine Runs.cond (fun k5 => ?_) (fun k5 => ?_)
 ·exact bad G9 (by rw [k5]; rfl)
 rw [k5, cond_false]
 rw [decide_eq_false_iff_not] at k3 k4 k5
 exact k6r n (by omega) hl (by omega) xs.length 0 (by omega) G9 (Nat.le_refl _) (g9.has b6) (fun x hx => by simp at hx)
theorem kqn {h : AH} {S T : Fp} {s t : Sl} {xs : List Int} (n : Sq (Ef.int .i64) h S s xs) (m : Sq (Ef.int .i64) h T t xs) : ∀ (k i : Nat), i + k = xs.length →
  go (.pt F.kgk Td.kld [(0, s.v), (1, t.v), (5, .int .i64 (i : Int))]) h = some (.bool true, h)
 | 0, i, hi => by
  rw [ktu, condF (by rw [decide_eq_false_iff_not, n.len]; omega)]
 | k + 1, i, hi => by
  have hx : i < xs.length := by omega
  obtain ⟨r1, cs1, a1, rfl, l1⟩ := n.at (i := (i : Int)) (kow hx)
  obtain ⟨r2, cs2, a2, rfl, l2⟩ := m.at (i := (i : Int)) (kow hx)
  have hs := n.short
  rw [ktu, condT (by rw [decide_eq_true_eq, n.len]; omega), n.len, m.len, show idx s.ref xs.length (i : Int) 1 = some r1 from a1, Option.bind_some, l1.rd0 (Grow.refl h) (f := AV.asInt .i64) rfl (kb _ _), Option.bind_some, show idx t.ref xs.length (i : Int) 1 = some r2 from a2, Option.bind_some, l2.rd0 (Grow.refl h) (f := AV.asInt .i64) rfl (kb _ _), Option.bind_some, condF (by simp), kbb (by omega)]
  exact kqn n m k (i + 1) (by omega)
theorem k1d {h : AH} {S T : Fp} {s t : Sl} {xs : List Int} (n : Sq (Ef.int .i64) h S s xs) (m : Sq (Ef.int .i64) h T t xs) : go (.fn F.kgk [s.v, t.v]) h = some (.bool true, h) := by
 rw [kzm, condF (by rw [n.len, m.len]; simp)]
 exact kqn n m xs.length 0 (by omega)
end Go.Ab

/- squeezed -/
set_option linter.unusedVariables false
set_option linter.unusedSimpArgs false
set_option maxRecDepth 10000
namespace Go.Ab
open Go.Proofs Go.Num
theorem kwr {h : AH} {x : AV} (a : ArgV Pg h T.ko5 x) : ∃ (s : Sl) (xs : List (Int × Int)), x = s.v ∧ Sq E2 h Fp.all s xs := by
 unfold ArgV at a
 rw [kup] at a
 obtain ⟨s, xs, e, n⟩ := Sq.of_arg (E := E2) (S := Fp.all) kup kpj (fun es t => by
  obtain ⟨hl, hf⟩ := t.struct kpi
  rw [kpj] at hl
  match es, hl with
  | [x0, x1], _ =>
   simp [kgt] at hf
   obtain ⟨h0, h1⟩ := hf
   obtain ⟨m, e0, _⟩ := h0.int kho
   obtain ⟨n, e1, _⟩ := h1.int kho
   cases e0; cases e1
   exact ⟨(m, n), [.int .i64 m], [.int .i64 n], rfl, rfl, rfl⟩) a
 cases e
 exact ⟨s, xs, rfl, n⟩
theorem k6f {h : AH} {x : AV} (a : ArgV Pg h T.kh6 x) : ∃ m n : Int, x = .agg [.int .i64 m, .int .i64 n] := by
 unfold ArgV at a
 rw [kqb] at a
 obtain ⟨cs, rfl, t⟩ := a
 obtain ⟨hl, hf⟩ := t.array kqb
 rw [k08] at hl
 match cs, hl with
 | [x0, x1], _ =>
  have h0 := hf 0 (by omega)
  have h1 := hf 1 (by omega)
  simp [kgt] at h0 h1
  obtain ⟨m, e0, _⟩ := h0.int kho
  obtain ⟨n, e1, _⟩ := h1.int kho
  cases e0; cases e1
  exact ⟨m, n, rfl⟩
theorem k2v {h : AH} {x : AV} (a : ArgV Pg h T.kz x) : ∃ m n : Int, x = .agg [.int .i64 m, .int .i64 n] := by
 unfold ArgV at a
 rw [kpi] at a
 obtain ⟨cs, rfl, t⟩ := a
 obtain ⟨hl, hf⟩ := t.struct kpi
 rw [kpj] at hl
 match cs, hl with
 | [x0, x1], _ =>
  simp [kgt] at hf
  obtain ⟨h0, h1⟩ := hf
  obtain ⟨m, e0, _⟩ := h0.int kho
  obtain ⟨n, e1, _⟩ := h1.int kho
  cases e0; cases e1
  exact ⟨m, n, rfl⟩
theorem kw9 {h : AH} {s : Sl} {xs : List (Int × Int)} (n : Sq E2 h Fp.all s xs) (l γ G N : Int) : Runs (go (.fn F.kna [.agg [.int .i64 l, .int .i64 γ], .agg [.int .i64 G, .int .i64 N], s.v]) h) fun v h' => v = .bool true := by
 rw [k3v]
 refine Runs.new fun h6 b6 g6 => Runs.new fun h7 b7 g7 => ?_
 refine Runs.cond (fun k1 => Runs.ret rfl) (fun k1 => ?_)
 obtain ⟨h8, e8, g8⟩ := kyg (h := h7)
 refine Runs.step e8 ?_
 refine Runs.step (seen rfl) ?_
 have d6 := g8.has (g7.has b6)
 have d7 := g8.has b7
 have i0 : idx (some (Ref.new h.blks.size 0)) 2 0 1 = some (.new h.blks.size 0) := rfl
 have i1 : idx (some (Ref.new h.blks.size 0)) 2 1 1 = some (.new h.blks.size 1) := rfl
 have rd : ∀ {h' : AH}, h'.has h.blks.size [.int .i64 l, .int .i64 γ] T.kh6 → (h'.cell (.new h.blks.size 0)).bind (AV.asInt .i64) = some l ∧ (h'.cell (.new h.blks.size 1)).bind (AV.asInt .i64) = some γ := fun b => ⟨b.rd0 rfl (kb _ _), by rw [b.cell]; rfl⟩
 refine Runs.step i0 (Runs.step (rd d6).1 (Runs.step i1 (Runs.step (rd d6).2 ?_)))
 refine Runs.step (d7.rd 0 (f := AV.asInt .i64) rfl (kb _ _)) ?_
 refine Runs.step (d7.rd 1 (f := AV.asInt .i64) rfl (kb _ _)) ?_
 have n8 := n.grow ((g6.trans g7).trans g8)
 obtain ⟨_, h16, e16, s1, rfl, q1, g16⟩ := k0e n8 l γ G N
 refine Runs.step e16 ?_
 refine Runs.step rfl ?_
 refine Runs.step (seen (asSl_v _)) ?_
 refine Runs.step (seen (kb _ _)) ?_
 have f6 := g16.has d6
 have f7 := g16.has d7
 refine Runs.step i0 (Runs.step (rd f6).1 (Runs.step i1 (Runs.step (rd f6).2 ?_)))
 refine Runs.step (f7.rd 0 (f := AV.asInt .i64) rfl (kb _ _)) ?_
 refine Runs.step (f7.rd 1 (f := AV.asInt .i64) rfl (kb _ _)) ?_
 obtain ⟨_, h26, e26, s2, rfl, q2, g26⟩ := kwt (n8.grow g16) l γ G N
 refine Runs.step e26 ?_
 refine Runs.step rfl ?_
 refine Runs.step (seen (asSl_v _)) ?_
 refine Runs.step (seen (kb _ _)) ?_
 refine Runs.step (k1d (q1.grow g26) q2) ?_
 refine Runs.step (seen rfl) ?_
 refine Runs.ifT rfl ?_
 refine Runs.ifT rfl ?_
 exact Runs.ret (by simp)
theorem GainBest_law (h : AH) {x0 x1 x2 : AV} (z0 : ArgV Pg h T.kh6 x0) (z1 : ArgV Pg h T.kz x1) (z2 : ArgV Pg h T.ko5 x2) : ∃ h', go (.fn F.kna [x0, x1, x2]) h = some (.bool true, h') := by
 obtain ⟨l, γ, rfl⟩ := k6f z0
 obtain ⟨G, N, rfl⟩ := k2v z1
 obtain ⟨s, xs, rfl, n⟩ := kwr z2
 obtain ⟨_, h', e, rfl⟩ := kw9 n l γ G N
 exact ⟨h', e⟩
end Go.Ab
