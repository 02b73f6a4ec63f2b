/- squeezed -/
import Derived.Test.YtpbgcebgmgjnjaaGreatPS36

set_option linter.unusedVariables false
set_option linter.unusedSimpArgs false
set_option maxRecDepth 10000
namespace Go.Ab
open Go.Proofs Go.Num
def kbu (a1 : Bool) (x2 : List Nat) (x3 : List Nat) (a4 : Bool) (x5 : List Nat) (x6 : List Nat) : Bool × List Nat × List Nat × Int :=
 cond (!((kr a1 x2 x3 && kr a4 x5 x6))) ((false, [], [], 1)) (((((kp (((kn ((kc a1 x2 x3 a4 x5 x6).1) ((kc a1 x2 x3 a4 x5 x6).2) ((kc a4 x5 x6 a1 x2 x3).1) ((kc a4 x5 x6 a1 x2 x3).2)).1)) ((kn ((kc a1 x2 x3 a4 x5 x6).1) ((kc a1 x2 x3 a4 x5 x6).2) ((kc a4 x5 x6 a1 x2 x3).1) ((kc a4 x5 x6 a1 x2 x3).2)).2.1) ((mulN x3 x6).1)).1)), (kp (((kn ((kc a1 x2 x3 a4 x5 x6).1) ((kc a1 x2 x3 a4 x5 x6).2) ((kc a4 x5 x6 a1 x2 x3).1) ((kc a4 x5 x6 a1 x2 x3).2)).1)) ((kn ((kc a1 x2 x3 a4 x5 x6).1) ((kc a1 x2 x3 a4 x5 x6).2) ((kc a4 x5 x6 a1 x2 x3).1) ((kc a4 x5 x6 a1 x2 x3).2)).2.1) ((mulN x3 x6).1)).2.1, (kp (((kn ((kc a1 x2 x3 a4 x5 x6).1) ((kc a1 x2 x3 a4 x5 x6).2) ((kc a4 x5 x6 a1 x2 x3).1) ((kc a4 x5 x6 a1 x2 x3).2)).1)) ((kn ((kc a1 x2 x3 a4 x5 x6).1) ((kc a1 x2 x3 a4 x5 x6).2) ((kc a4 x5 x6 a1 x2 x3).1) ((kc a4 x5 x6 a1 x2 x3).2)).2.1) ((mulN x3 x6).1)).2.2.1, ((kp (((kn ((kc a1 x2 x3 a4 x5 x6).1) ((kc a1 x2 x3 a4 x5 x6).2) ((kc a4 x5 x6 a1 x2 x3).1) ((kc a4 x5 x6 a1 x2 x3).2)).1)) ((kn ((kc a1 x2 x3 a4 x5 x6).1) ((kc a1 x2 x3 a4 x5 x6).2) ((kc a4 x5 x6 a1 x2 x3).1) ((kc a4 x5 x6 a1 x2 x3).2)).2.1) ((mulN x3 x6).1)).2.2.2)))
theorem ku4 {h : AH} {a2 : Sl} {x2 : List Nat} {a3 : Sl} {x3 : List Nat} {a5 : Sl} {x5 : List Nat} {a6 : Sl} {x6 : List Nat} (n2 : Nats h a2 x2) (n3 : Nats h a3 x3) (n5 : Nats h a5 x5) (n6 : Nats h a6 x6) (a1 : Bool) (a4 : Bool) : Runs (go (.fn F.khx [.agg [.bool a1, a2.v, a3.v], .agg [.bool a4, a5.v, a6.v], .func (.func F.kf3) [] []]) h) fun v h' => ∃ s1 : Sl, ∃ s2 : Sl, v = .tup [.agg [.bool (kbu a1 x2 x3 a4 x5 x6).1, s1.v, s2.v], .int .i64 (kbu a1 x2 x3 a4 x5 x6).2.2.2] ∧ Nats h' s1 ((kbu a1 x2 x3 a4 x5 x6).2.1) ∧ Nats h' s2 ((kbu a1 x2 x3 a4 x5 x6).2.2.1) ∧ Grow h h' ∧ Own h s1 ∧ Own h s2 := by
 rw [k2q]
 refine Runs.new fun H7 b7 g7 => ?_
 refine Runs.new fun H8 b8 g8 => ?_
 refine Runs.new fun H9 b9 g9 => ?_
 refine Runs.step (AH.has.rd ((g8.trans g9).has b7) 0 rfl rfl) ?_
 refine Runs.step (AH.has.rd ((g8.trans g9).has b7) 1 rfl (asSl_v _)) ?_
 refine Runs.step (AH.has.rd ((g8.trans g9).has b7) 2 rfl (asSl_v _)) ?_
 refine Runs.step (AH.has.rd (g9.has b8) 0 rfl rfl) ?_
 refine Runs.step (AH.has.rd (g9.has b8) 1 rfl (asSl_v _)) ?_
 refine Runs.step (AH.has.rd (g9.has b8) 2 rfl (asSl_v _)) ?_
 refine Runs.new fun H10 b10 g10 => ?_
 have G11 := (((g7.trans g8).trans g9).trans g10)
 have n2_12 := n2.grow G11
 have n3_13 := n3.grow G11
 have n5_14 := n5.grow G11
 have n6_15 := n6.grow G11
 obtain ⟨H16, e16, g16⟩ := kox b10 n2_12 n3_13 n5_14 n6_15
 refine Runs.step e16 ?_
 refine Runs.step (seen rfl) ?_
 refine Runs.cond (fun k17 => ?_) (fun k17 => ?_)
 ·refine Runs.puts ((g10.trans g16).has b9) rfl fun H18 b18 u18 => ?_
  have n2_18 := (n2_12.grow g16).upda (Av.of_base n2 (Nat.le_trans ((g7.trans g8)).size (Nat.le_refl _))) u18
  have n3_18 := (n3_13.grow g16).upda (Av.of_base n3 (Nat.le_trans ((g7.trans g8)).size (Nat.le_refl _))) u18
  have n5_18 := (n5_14.grow g16).upda (Av.of_base n5 (Nat.le_trans ((g7.trans g8)).size (Nat.le_refl _))) u18
  have n6_18 := (n6_15.grow g16).upda (Av.of_base n6 (Nat.le_trans ((g7.trans g8)).size (Nat.le_refl _))) u18
  have b10_18 := AH.has.updr (g16.has b10) (Nat.ne_of_gt (Nat.lt_of_lt_of_le (b9).lt (Nat.le_refl _))) u18
  refine Runs.step (AH.has.rd b18 0 rfl rfl) ?_
  refine Runs.step (AH.has.rd b18 1 rfl (asSl_v _)) ?_
  refine Runs.step (AH.has.rd b18 2 rfl (asSl_v _)) ?_
  have z : kbu a1 x2 x3 a4 x5 x6 = (false, [], [], 1) := by unfold kbu; exact (condT k17).trans rfl
  rw [z]
  have G19 := ((G11.trans g16).updr (Nat.le_trans ((g7.trans g8)).size (Nat.le_refl _)) u18)
  exact Runs.ret ⟨(⟨none, 0, .is 0⟩ : Sl), (⟨none, 0, .is 0⟩ : Sl), rfl, (Nats.nil _), (Nats.nil _), G19, (Own.nil _), (Own.nil _)⟩
 ·refine Runs.new fun H18 b18 g18 => ?_
  have G19 := ((((g8.trans g9).trans g10).trans g16).trans g18)
  have b7_20 := G19.has b7
  refine Runs.step (AH.has.rd b7_20 0 rfl rfl) ?_
  refine Runs.step (AH.has.rd b7_20 1 rfl (asSl_v _)) ?_
  refine Runs.step (AH.has.rd b7_20 2 rfl (asSl_v _)) ?_
  have G21 := (((g9.trans g10).trans g16).trans g18)
  have b8_22 := G21.has b8
  refine Runs.step (AH.has.rd b8_22 0 rfl rfl) ?_
  refine Runs.step (AH.has.rd b8_22 1 rfl (asSl_v _)) ?_
  refine Runs.step (AH.has.rd b8_22 2 rfl (asSl_v _)) ?_
  refine Runs.step (AH.has.rd b8_22 0 rfl rfl) ?_
  refine Runs.step (AH.has.rd b8_22 1 rfl (asSl_v _)) ?_
  refine Runs.step (AH.has.rd b8_22 2 rfl (asSl_v _)) ?_
  refine Runs.step (AH.has.rd b7_20 0 rfl rfl) ?_
  refine Runs.step (AH.has.rd b7_20 1 rfl (asSl_v _)) ?_
  refine Runs.step (AH.has.rd b7_20 2 rfl (asSl_v _)) ?_
  obtain ⟨_, H23, e23, s23, rfl, n23, g23, o23⟩ := kgy (n2_12.grow (g16.trans g18)) (n3_13.grow (g16.trans g18)) (n5_14.grow (g16.trans g18)) (n6_15.grow (g16.trans g18)) a1 a4
  refine Runs.step e23 ?_
  refine Runs.step rfl ?_
  refine Runs.ifT rfl ?_
  refine Runs.step (seenAt rfl rfl) ?_
  refine Runs.step (seenAt rfl (asSl_v _)) ?_
  refine Runs.when (g23.same b7_20 0 3) ?_
  refine Runs.when (g23.same b8_22 0 3) ?_
  refine Runs.when (g23.same b18 0 0) ?_
  have G24 := ((g16.trans g18).trans g23)
  have n5_25 := n5_14.grow G24
  have n6_26 := n6_15.grow G24
  have n2_27 := n2_12.grow G24
  have n3_28 := n3_13.grow G24
  obtain ⟨_, H29, e29, s29, rfl, n29, g29, o29⟩ := kgy n5_25 n6_26 n2_27 n3_28 a4 a1
  refine Runs.step e29 ?_
  refine Runs.step rfl ?_
  refine Runs.ifT rfl ?_
  refine Runs.step (seenAt rfl rfl) ?_
  refine Runs.step (seenAt rfl (asSl_v _)) ?_
  refine Runs.when (g29.same (g23.has b18) 0 0) ?_
  obtain ⟨_, H30, e30, s30, rfl, n30, g30, o30⟩ := kp1 (n23.grow g29) n29 ((kc a1 x2 x3 a4 x5 x6).1) ((kc a4 x5 x6 a1 x2 x3).1)
  refine Runs.step e30 ?_
  refine Runs.step rfl ?_
  refine Runs.step rfl ?_
  refine Runs.ifT rfl ?_
  refine Runs.step (seenAt rfl rfl) ?_
  refine Runs.step (seenAt rfl (asSl_v _)) ?_
  refine Runs.step (seen (kb _ _)) ?_
  refine Runs.when (g30.same ((g23.trans g29).has b18) 0 0) ?_
  have G32 := ((g23.trans g29).trans g30)
  have b18_33 := G32.has b18
  refine Runs.puts b18_33 rfl fun H31 b31 u31 => ?_
  have G34 := (G11.trans g16)
  have n2_31 := (n2_27.grow (g29.trans g30)).upda (Av.of_base n2 (Nat.le_trans (G34).size (Nat.le_refl _))) u31
  have n3_31 := (n3_28.grow (g29.trans g30)).upda (Av.of_base n3 (Nat.le_trans (G34).size (Nat.le_refl _))) u31
  have n5_31 := (n5_25.grow (g29.trans g30)).upda (Av.of_base n5 (Nat.le_trans (G34).size (Nat.le_refl _))) u31
  have n6_31 := (n6_26.grow (g29.trans g30)).upda (Av.of_base n6 (Nat.le_trans (G34).size (Nat.le_refl _))) u31
  have n23_31 := (n23.grow (g29.trans g30)).upda (Av.of_own o23 (b18).lt) u31
  have n29_31 := (n29.grow g30).upda (Av.of_own o29 (g23.has b18).lt) u31
  have n30_31 := n30.upda (Av.of_own o30 ((g23.trans g29).has b18).lt) u31
  have b7_35 := G32.has b7_20
  have G36 := (((g8.trans g9).trans g10).trans g16)
  have b7_31 := AH.has.updr b7_35 (Nat.ne_of_lt (Nat.lt_of_lt_of_le (G36.has b7).lt (Nat.le_refl _))) u31
  have b8_37 := G32.has b8_22
  have G38 := ((g9.trans g10).trans g16)
  have b8_31 := AH.has.updr b8_37 (Nat.ne_of_lt (Nat.lt_of_lt_of_le (G38.has b8).lt (Nat.le_refl _))) u31
  refine Runs.step (AH.has.rd b7_31 2 rfl (asSl_v _)) ?_
  refine Runs.step (AH.has.rd b8_31 2 rfl (asSl_v _)) ?_
  obtain ⟨s39, H39, e39, n39, g39, o39⟩ := kor n3_31 n6_31
  refine Runs.step e39 ?_
  refine Runs.step rfl ?_
  refine Runs.step (seen (asSl_v _)) ?_
  refine Runs.step (seen (kb _ _)) ?_
  refine Runs.step (AH.has.rd (g39.has b31) 0 rfl rfl) ?_
  refine Runs.step (AH.has.rd (g39.has b31) 1 rfl (asSl_v _)) ?_
  obtain ⟨_, H40, e40, s40, s40b, rfl, n40, n40b, g40, o40, o40b⟩ := kko (n30_31.grow g39) n39 (((kn ((kc a1 x2 x3 a4 x5 x6).1) ((kc a1 x2 x3 a4 x5 x6).2) ((kc a4 x5 x6 a1 x2 x3).1) ((kc a4 x5 x6 a1 x2 x3).2)).1))
  refine Runs.step e40 ?_
  refine Runs.step rfl ?_
  refine Runs.step rfl ?_
  refine Runs.ifT rfl ?_
  refine Runs.step (seenAt rfl rfl) ?_
  refine Runs.step (seenAt rfl (asSl_v _)) ?_
  refine Runs.step (seenAt rfl (asSl_v _)) ?_
  refine Runs.step (seen (kb _ _)) ?_
  have G42 := ((((((((g10.trans g16).trans g18).trans g23).trans g29).trans g30).updr (Nat.le_trans ((g10.trans g16)).size (Nat.le_refl _)) u31).trans g39).trans g40)
  have b9_43 := G42.has b9
  refine Runs.puts b9_43 rfl fun H41 b41 u41 => ?_
  have n2_41 := (n2_31.grow (g39.trans g40)).upda (Av.of_base n2 (Nat.le_trans ((g7.trans g8)).size (Nat.le_refl _))) u41
  have n3_41 := (n3_31.grow (g39.trans g40)).upda (Av.of_base n3 (Nat.le_trans ((g7.trans g8)).size (Nat.le_refl _))) u41
  have n5_41 := (n5_31.grow (g39.trans g40)).upda (Av.of_base n5 (Nat.le_trans ((g7.trans g8)).size (Nat.le_refl _))) u41
  have n6_41 := (n6_31.grow (g39.trans g40)).upda (Av.of_base n6 (Nat.le_trans ((g7.trans g8)).size (Nat.le_refl _))) u41
  have G44 := ((g10.trans g16).trans g18)
  have n23_41 := (n23_31.grow (g39.trans g40)).upda (Av.of_own o23 (G44.has b9).lt) u41
  have G45 := (G44.trans g23)
  have n29_41 := (n29_31.grow (g39.trans g40)).upda (Av.of_own o29 (G45.has b9).lt) u41
  have G46 := (G45.trans g29)
  have n30_41 := (n30_31.grow (g39.trans g40)).upda (Av.of_own o30 (G46.has b9).lt) u41
  have G47 := ((G46.trans g30).updr (Nat.le_trans ((g10.trans g16)).size (Nat.le_refl _)) u31)
  have n39_41 := (n39.grow g40).upda (Av.of_own o39 (G47.has b9).lt) u41
  have G48 := (G47.trans g39)
  have n40_41 := n40.upda (Av.of_own o40 (G48.has b9).lt) u41
  have n40b_41 := n40b.upda (Av.of_own o40b (G48.has b9).lt) u41
  have b7_41 := AH.has.updr ((g39.trans g40).has b7_31) (Nat.ne_of_lt (Nat.lt_of_lt_of_le (g8.has b7).lt (Nat.le_refl _))) u41
  have b8_41 := AH.has.updr ((g39.trans g40).has b8_31) (Nat.ne_of_lt (Nat.lt_of_lt_of_le (b8).lt (Nat.le_refl _))) u41
  have G49 := (((((G24.trans g29).trans g30).updr (Nat.le_trans (g16).size (Nat.le_refl _)) u31).trans g39).trans g40)
  have b10_50 := G49.has b10
  have b10_41 := AH.has.updr b10_50 (Nat.ne_of_gt (Nat.lt_of_lt_of_le (b9).lt (Nat.le_refl _))) u41
  have b31_41 := AH.has.updr ((g39.trans g40).has b31) (Nat.ne_of_gt (Nat.lt_of_lt_of_le ((g10.trans g16).has b9).lt (Nat.le_refl _))) u41
  refine Runs.step (AH.has.rd b41 0 rfl rfl) ?_
  refine Runs.step (AH.has.rd b41 1 rfl (asSl_v _)) ?_
  refine Runs.step (AH.has.rd b41 2 rfl (asSl_v _)) ?_
  have z : kbu a1 x2 x3 a4 x5 x6 = ((((kp (((kn ((kc a1 x2 x3 a4 x5 x6).1) ((kc a1 x2 x3 a4 x5 x6).2) ((kc a4 x5 x6 a1 x2 x3).1) ((kc a4 x5 x6 a1 x2 x3).2)).1)) ((kn ((kc a1 x2 x3 a4 x5 x6).1) ((kc a1 x2 x3 a4 x5 x6).2) ((kc a4 x5 x6 a1 x2 x3).1) ((kc a4 x5 x6 a1 x2 x3).2)).2.1) ((mulN x3 x6).1)).1)), (kp (((kn ((kc a1 x2 x3 a4 x5 x6).1) ((kc a1 x2 x3 a4 x5 x6).2) ((kc a4 x5 x6 a1 x2 x3).1) ((kc a4 x5 x6 a1 x2 x3).2)).1)) ((kn ((kc a1 x2 x3 a4 x5 x6).1) ((kc a1 x2 x3 a4 x5 x6).2) ((kc a4 x5 x6 a1 x2 x3).1) ((kc a4 x5 x6 a1 x2 x3).2)).2.1) ((mulN x3 x6).1)).2.1, (kp (((kn ((kc a1 x2 x3 a4 x5 x6).1) ((kc a1 x2 x3 a4 x5 x6).2) ((kc a4 x5 x6 a1 x2 x3).1) ((kc a4 x5 x6 a1 x2 x3).2)).1)) ((kn ((kc a1 x2 x3 a4 x5 x6).1) ((kc a1 x2 x3 a4 x5 x6).2) ((kc a4 x5 x6 a1 x2 x3).1) ((kc a4 x5 x6 a1 x2 x3).2)).2.1) ((mulN x3 x6).1)).2.2.1, ((kp (((kn ((kc a1 x2 x3 a4 x5 x6).1) ((kc a1 x2 x3 a4 x5 x6).2) ((kc a4 x5 x6 a1 x2 x3).1) ((kc a4 x5 x6 a1 x2 x3).2)).1)) ((kn ((kc a1 x2 x3 a4 x5 x6).1) ((kc a1 x2 x3 a4 x5 x6).2) ((kc a4 x5 x6 a1 x2 x3).1) ((kc a4 x5 x6 a1 x2 x3).2)).2.1) ((mulN x3 x6).1)).2.2.2)) := by unfold kbu; exact (condF k17).trans rfl
  rw [z]
  have G51 := ((((((G34.trans g18).trans g23).trans g29).trans g30).updr (Nat.le_trans (G34).size (Nat.le_refl _)) u31).trans g39)
  have G52 := ((G51.trans g40).updr (Nat.le_trans ((g7.trans g8)).size (Nat.le_refl _)) u41)
  exact Runs.ret ⟨s40, s40b, rfl, n40_41, n40b_41, G52, (o40.of_le G51), (o40b.of_le G51)⟩
def kcc (a1 : Bool) (x2 : List Nat) (x3 : List Nat) (a4 : Bool) (x5 : List Nat) (x6 : List Nat) : Bool × List Nat × List Nat × Int :=
 ((((kbu a1 x2 x3 a4 x5 x6).1)), (kbu a1 x2 x3 a4 x5 x6).2.1, (kbu a1 x2 x3 a4 x5 x6).2.2.1, ((kbu a1 x2 x3 a4 x5 x6).2.2.2))
theorem k6b {h : AH} {a2 : Sl} {x2 : List Nat} {a3 : Sl} {x3 : List Nat} {a5 : Sl} {x5 : List Nat} {a6 : Sl} {x6 : List Nat} (n2 : Nats h a2 x2) (n3 : Nats h a3 x3) (n5 : Nats h a5 x5) (n6 : Nats h a6 x6) (a1 : Bool) (a4 : Bool) : Runs (go (.fn F.kl8 [.agg [.bool a1, a2.v, a3.v], .agg [.bool a4, a5.v, a6.v]]) h) fun v h' => ∃ s1 : Sl, ∃ s2 : Sl, v = .tup [.agg [.bool (kcc a1 x2 x3 a4 x5 x6).1, s1.v, s2.v], .int .i64 (kcc a1 x2 x3 a4 x5 x6).2.2.2] ∧ Nats h' s1 ((kcc a1 x2 x3 a4 x5 x6).2.1) ∧ Nats h' s2 ((kcc a1 x2 x3 a4 x5 x6).2.2.1) ∧ Grow h h' ∧ Own h s1 ∧ Own h s2 := by
 rw [ky4]
 refine Runs.new fun H7 b7 g7 => ?_
 refine Runs.new fun H8 b8 g8 => ?_
 refine Runs.new fun H9 b9 g9 => ?_
 refine Runs.step (AH.has.rd ((g8.trans g9).has b7) 0 rfl rfl) ?_
 refine Runs.step (AH.has.rd ((g8.trans g9).has b7) 1 rfl (asSl_v _)) ?_
 refine Runs.step (AH.has.rd ((g8.trans g9).has b7) 2 rfl (asSl_v _)) ?_
 refine Runs.step (AH.has.rd (g9.has b8) 0 rfl rfl) ?_
 refine Runs.step (AH.has.rd (g9.has b8) 1 rfl (asSl_v _)) ?_
 refine Runs.step (AH.has.rd (g9.has b8) 2 rfl (asSl_v _)) ?_
 have G10 := ((g7.trans g8).trans g9)
 have n2_11 := n2.grow G10
 have n3_12 := n3.grow G10
 have n5_13 := n5.grow G10
 have n6_14 := n6.grow G10
 obtain ⟨_, H15, e15, s15, s15b, rfl, n15, n15b, g15, o15, o15b⟩ := ku4 n2_11 n3_12 n5_13 n6_14 a1 a4
 refine Runs.step e15 ?_
 refine Runs.step rfl ?_
 refine Runs.step rfl ?_
 refine Runs.ifT rfl ?_
 refine Runs.step (seenAt rfl rfl) ?_
 refine Runs.step (seenAt rfl (asSl_v _)) ?_
 refine Runs.step (seenAt rfl (asSl_v _)) ?_
 refine Runs.step (seen (kb _ _)) ?_
 refine Runs.puts (g15.has b9) rfl fun H16 b16 u16 => ?_
 have n2_16 := (n2_11.grow g15).upda (Av.of_base n2 (Nat.le_trans ((g7.trans g8)).size (Nat.le_refl _))) u16
 have n3_16 := (n3_12.grow g15).upda (Av.of_base n3 (Nat.le_trans ((g7.trans g8)).size (Nat.le_refl _))) u16
 have n5_16 := (n5_13.grow g15).upda (Av.of_base n5 (Nat.le_trans ((g7.trans g8)).size (Nat.le_refl _))) u16
 have n6_16 := (n6_14.grow g15).upda (Av.of_base n6 (Nat.le_trans ((g7.trans g8)).size (Nat.le_refl _))) u16
 have n15_16 := n15.upda (Av.of_own o15 (b9).lt) u16
 have n15b_16 := n15b.upda (Av.of_own o15b (b9).lt) u16
 refine Runs.step (AH.has.rd b16 0 rfl rfl) ?_
 refine Runs.step (AH.has.rd b16 1 rfl (asSl_v _)) ?_
 refine Runs.step (AH.has.rd b16 2 rfl (asSl_v _)) ?_
 have z : kcc a1 x2 x3 a4 x5 x6 = ((((kbu a1 x2 x3 a4 x5 x6).1)), (kbu a1 x2 x3 a4 x5 x6).2.1, (kbu a1 x2 x3 a4 x5 x6).2.2.1, ((kbu a1 x2 x3 a4 x5 x6).2.2.2)) := by unfold kcc; exact rfl
 rw [z]
 have G17 := ((G10.trans g15).updr (Nat.le_trans ((g7.trans g8)).size (Nat.le_refl _)) u16)
 exact Runs.ret ⟨s15, s15b, rfl, n15_16, n15b_16, G17, (o15.of_le G10), (o15b.of_le G10)⟩
theorem k33 {h : AH} {a2 : Sl} {x2 : List Nat} {a3 : Sl} {x3 : List Nat} {a5 : Sl} {x5 : List Nat} {a6 : Sl} {x6 : List Nat} (n2 : Nats h a2 x2) (n3 : Nats h a3 x3) (n5 : Nats h a5 x5) (n6 : Nats h a6 x6) {a1 : Bool} {a4 : Bool} {r : _} (q : kcc a1 x2 x3 a4 x5 x6 = r) : Runs (go (.fn F.kl8 [.agg [.bool a1, a2.v, a3.v], .agg [.bool a4, a5.v, a6.v]]) h) fun v h' => ∃ s1 : Sl, ∃ s2 : Sl, v = .tup [.agg [.bool r.1, s1.v, s2.v], .int .i64 r.2.2.2] ∧ Nats h' s1 (r.2.1) ∧ Nats h' s2 (r.2.2.1) ∧ Grow h h' ∧ Own h s1 ∧ Own h s2 := by
 subst q
 exact k6b n2 n3 n5 n6 a1 a4
def kbs (a1 : Bool) (x2 : List Nat) (x3 : List Nat) (a4 : Bool) (x5 : List Nat) (x6 : List Nat) : Bool × List Nat × List Nat × Int :=
 cond (!((kr a1 x2 x3 && kr a4 x5 x6))) ((false, [], [], 1)) (((((kp (((kbc ((kc a1 x2 x3 a4 x5 x6).1) ((kc a1 x2 x3 a4 x5 x6).2) ((kc a4 x5 x6 a1 x2 x3).1) ((kc a4 x5 x6 a1 x2 x3).2)).1)) ((kbc ((kc a1 x2 x3 a4 x5 x6).1) ((kc a1 x2 x3 a4 x5 x6).2) ((kc a4 x5 x6 a1 x2 x3).1) ((kc a4 x5 x6 a1 x2 x3).2)).2.1) ((mulN x3 x6).1)).1)), (kp (((kbc ((kc a1 x2 x3 a4 x5 x6).1) ((kc a1 x2 x3 a4 x5 x6).2) ((kc a4 x5 x6 a1 x2 x3).1) ((kc a4 x5 x6 a1 x2 x3).2)).1)) ((kbc ((kc a1 x2 x3 a4 x5 x6).1) ((kc a1 x2 x3 a4 x5 x6).2) ((kc a4 x5 x6 a1 x2 x3).1) ((kc a4 x5 x6 a1 x2 x3).2)).2.1) ((mulN x3 x6).1)).2.1, (kp (((kbc ((kc a1 x2 x3 a4 x5 x6).1) ((kc a1 x2 x3 a4 x5 x6).2) ((kc a4 x5 x6 a1 x2 x3).1) ((kc a4 x5 x6 a1 x2 x3).2)).1)) ((kbc ((kc a1 x2 x3 a4 x5 x6).1) ((kc a1 x2 x3 a4 x5 x6).2) ((kc a4 x5 x6 a1 x2 x3).1) ((kc a4 x5 x6 a1 x2 x3).2)).2.1) ((mulN x3 x6).1)).2.2.1, ((kp (((kbc ((kc a1 x2 x3 a4 x5 x6).1) ((kc a1 x2 x3 a4 x5 x6).2) ((kc a4 x5 x6 a1 x2 x3).1) ((kc a4 x5 x6 a1 x2 x3).2)).1)) ((kbc ((kc a1 x2 x3 a4 x5 x6).1) ((kc a1 x2 x3 a4 x5 x6).2) ((kc a4 x5 x6 a1 x2 x3).1) ((kc a4 x5 x6 a1 x2 x3).2)).2.1) ((mulN x3 x6).1)).2.2.2)))
theorem kvf {h : AH} {a2 : Sl} {x2 : List Nat} {a3 : Sl} {x3 : List Nat} {a5 : Sl} {x5 : List Nat} {a6 : Sl} {x6 : List Nat} (n2 : Nats h a2 x2) (n3 : Nats h a3 x3) (n5 : Nats h a5 x5) (n6 : Nats h a6 x6) (a1 : Bool) (a4 : Bool) : Runs (go (.fn F.khx [.agg [.bool a1, a2.v, a3.v], .agg [.bool a4, a5.v, a6.v], .func (.func F.kgu) [] []]) h) fun v h' => ∃ s1 : Sl, ∃ s2 : Sl, v = .tup [.agg [.bool (kbs a1 x2 x3 a4 x5 x6).1, s1.v, s2.v], .int .i64 (kbs a1 x2 x3 a4 x5 x6).2.2.2] ∧ Nats h' s1 ((kbs a1 x2 x3 a4 x5 x6).2.1) ∧ Nats h' s2 ((kbs a1 x2 x3 a4 x5 x6).2.2.1) ∧ Grow h h' ∧ Own h s1 ∧ Own h s2 := by
 rw [kww]
 refine Runs.new fun H7 b7 g7 => ?_
 refine Runs.new fun H8 b8 g8 => ?_
 refine Runs.new fun H9 b9 g9 => ?_
 refine Runs.step (AH.has.rd ((g8.trans g9).has b7) 0 rfl rfl) ?_
 refine Runs.step (AH.has.rd ((g8.trans g9).has b7) 1 rfl (asSl_v _)) ?_
 refine Runs.step (AH.has.rd ((g8.trans g9).has b7) 2 rfl (asSl_v _)) ?_
 refine Runs.step (AH.has.rd (g9.has b8) 0 rfl rfl) ?_
 refine Runs.step (AH.has.rd (g9.has b8) 1 rfl (asSl_v _)) ?_
 refine Runs.step (AH.has.rd (g9.has b8) 2 rfl (asSl_v _)) ?_
 refine Runs.new fun H10 b10 g10 => ?_
 have G11 := (((g7.trans g8).trans g9).trans g10)
 have n2_12 := n2.grow G11
 have n3_13 := n3.grow G11
 have n5_14 := n5.grow G11
 have n6_15 := n6.grow G11
 obtain ⟨H16, e16, g16⟩ := kox b10 n2_12 n3_13 n5_14 n6_15
 refine Runs.step e16 ?_
 refine Runs.step (seen rfl) ?_
 refine Runs.cond (fun k17 => ?_) (fun k17 => ?_)
 ·refine Runs.puts ((g10.trans g16).has b9) rfl fun H18 b18 u18 => ?_
  have n2_18 := (n2_12.grow g16).upda (Av.of_base n2 (Nat.le_trans ((g7.trans g8)).size (Nat.le_refl _))) u18
  have n3_18 := (n3_13.grow g16).upda (Av.of_base n3 (Nat.le_trans ((g7.trans g8)).size (Nat.le_refl _))) u18
  have n5_18 := (n5_14.grow g16).upda (Av.of_base n5 (Nat.le_trans ((g7.trans g8)).size (Nat.le_refl _))) u18
  have n6_18 := (n6_15.grow g16).upda (Av.of_base n6 (Nat.le_trans ((g7.trans g8)).size (Nat.le_refl _))) u18
  have b10_18 := AH.has.updr (g16.has b10) (Nat.ne_of_gt (Nat.lt_of_lt_of_le (b9).lt (Nat.le_refl _))) u18
  refine Runs.step (AH.has.rd b18 0 rfl rfl) ?_
  refine Runs.step (AH.has.rd b18 1 rfl (asSl_v _)) ?_
  refine Runs.step (AH.has.rd b18 2 rfl (asSl_v _)) ?_
  have z : kbs a1 x2 x3 a4 x5 x6 = (false, [], [], 1) := by unfold kbs; exact (condT k17).trans rfl
  rw [z]
  have G19 := ((G11.trans g16).updr (Nat.le_trans ((g7.trans g8)).size (Nat.le_refl _)) u18)
  exact Runs.ret ⟨(⟨none, 0, .is 0⟩ : Sl), (⟨none, 0, .is 0⟩ : Sl), rfl, (Nats.nil _), (Nats.nil _), G19, (Own.nil _), (Own.nil _)⟩
 ·refine Runs.new fun H18 b18 g18 => ?_
  have G19 := ((((g8.trans g9).trans g10).trans g16).trans g18)
  have b7_20 := G19.has b7
  refine Runs.step (AH.has.rd b7_20 0 rfl rfl) ?_
  refine Runs.step (AH.has.rd b7_20 1 rfl (asSl_v _)) ?_
  refine Runs.step (AH.has.rd b7_20 2 rfl (asSl_v _)) ?_
  have G21 := (((g9.trans g10).trans g16).trans g18)
  have b8_22 := G21.has b8
  refine Runs.step (AH.has.rd b8_22 0 rfl rfl) ?_
  refine Runs.step (AH.has.rd b8_22 1 rfl (asSl_v _)) ?_
  refine Runs.step (AH.has.rd b8_22 2 rfl (asSl_v _)) ?_
  refine Runs.step (AH.has.rd b8_22 0 rfl rfl) ?_
  refine Runs.step (AH.has.rd b8_22 1 rfl (asSl_v _)) ?_
  refine Runs.step (AH.has.rd b8_22 2 rfl (asSl_v _)) ?_
  refine Runs.step (AH.has.rd b7_20 0 rfl rfl) ?_
  refine Runs.step (AH.has.rd b7_20 1 rfl (asSl_v _)) ?_
  refine Runs.step (AH.has.rd b7_20 2 rfl (asSl_v _)) ?_
  obtain ⟨_, H23, e23, s23, rfl, n23, g23, o23⟩ := kgy (n2_12.grow (g16.trans g18)) (n3_13.grow (g16.trans g18)) (n5_14.grow (g16.trans g18)) (n6_15.grow (g16.trans g18)) a1 a4
  refine Runs.step e23 ?_
  refine Runs.step rfl ?_
  refine Runs.ifT rfl ?_
  refine Runs.step (seenAt rfl rfl) ?_
  refine Runs.step (seenAt rfl (asSl_v _)) ?_
  refine Runs.when (g23.same b7_20 0 3) ?_
  refine Runs.when (g23.same b8_22 0 3) ?_
  refine Runs.when (g23.same b18 0 0) ?_
  have G24 := ((g16.trans g18).trans g23)
  have n5_25 := n5_14.grow G24
  have n6_26 := n6_15.grow G24
  have n2_27 := n2_12.grow G24
  have n3_28 := n3_13.grow G24
  obtain ⟨_, H29, e29, s29, rfl, n29, g29, o29⟩ := kgy n5_25 n6_26 n2_27 n3_28 a4 a1
  refine Runs.step e29 ?_
  refine Runs.step rfl ?_
  refine Runs.ifT rfl ?_
  refine Runs.step (seenAt rfl rfl) ?_
  refine Runs.step (seenAt rfl (asSl_v _)) ?_
  refine Runs.when (g29.same (g23.has b18) 0 0) ?_
  obtain ⟨_, H30, e30, s30, rfl, n30, g30, o30⟩ := k2b (n23.grow g29) n29 ((kc a1 x2 x3 a4 x5 x6).1) ((kc a4 x5 x6 a1 x2 x3).1)
  refine Runs.step e30 ?_
  refine Runs.step rfl ?_
  refine Runs.step rfl ?_
  refine Runs.ifT rfl ?_
  refine Runs.step (seenAt rfl rfl) ?_
  refine Runs.step (seenAt rfl (asSl_v _)) ?_
  refine Runs.step (seen (kb _ _)) ?_
  refine Runs.when (g30.same ((g23.trans g29).has b18) 0 0) ?_
  have G32 := ((g23.trans g29).trans g30)
  have b18_33 := G32.has b18
  refine Runs.puts b18_33 rfl fun H31 b31 u31 => ?_
  have G34 := (G11.trans g16)
  have n2_31 := (n2_27.grow (g29.trans g30)).upda (Av.of_base n2 (Nat.le_trans (G34).size (Nat.le_refl _))) u31
  have n3_31 := (n3_28.grow (g29.trans g30)).upda (Av.of_base n3 (Nat.le_trans (G34).size (Nat.le_refl _))) u31
  have n5_31 := (n5_25.grow (g29.trans g30)).upda (Av.of_base n5 (Nat.le_trans (G34).size (Nat.le_refl _))) u31
  have n6_31 := (n6_26.grow (g29.trans g30)).upda (Av.of_base n6 (Nat.le_trans (G34).size (Nat.le_refl _))) u31
  have n23_31 := (n23.grow (g29.trans g30)).upda (Av.of_own o23 (b18).lt) u31
  have n29_31 := (n29.grow g30).upda (Av.of_own o29 (g23.has b18).lt) u31
  have n30_31 := n30.upda (Av.of_own o30 ((g23.trans g29).has b18).lt) u31
  have b7_35 := G32.has b7_20
  have G36 := (((g8.trans g9).trans g10).trans g16)
  have b7_31 := AH.has.updr b7_35 (Nat.ne_of_lt (Nat.lt_of_lt_of_le (G36.has b7).lt (Nat.le_refl _))) u31
  have b8_37 := G32.has b8_22
  have G38 := ((g9.trans g10).trans g16)
  have b8_31 := AH.has.updr b8_37 (Nat.ne_of_lt (Nat.lt_of_lt_of_le (G38.has b8).lt (Nat.le_refl _))) u31
  refine Runs.step (AH.has.rd b7_31 2 rfl (asSl_v _)) ?_
  refine Runs.step (AH.has.rd b8_31 2 rfl (asSl_v _)) ?_
  obtain ⟨s39, H39, e39, n39, g39, o39⟩ := kor n3_31 n6_31
  refine Runs.step e39 ?_
  refine Runs.step rfl ?_
  refine Runs.step (seen (asSl_v _)) ?_
  refine Runs.step (seen (kb _ _)) ?_
  refine Runs.step (AH.has.rd (g39.has b31) 0 rfl rfl) ?_
  refine Runs.step (AH.has.rd (g39.has b31) 1 rfl (asSl_v _)) ?_
  obtain ⟨_, H40, e40, s40, s40b, rfl, n40, n40b, g40, o40, o40b⟩ := kko (n30_31.grow g39) n39 (((kbc ((kc a1 x2 x3 a4 x5 x6).1) ((kc a1 x2 x3 a4 x5 x6).2) ((kc a4 x5 x6 a1 x2 x3).1) ((kc a4 x5 x6 a1 x2 x3).2)).1))
  refine Runs.step e40 ?_
  refine Runs.step rfl ?_
  refine Runs.step rfl ?_
  refine Runs.ifT rfl ?_
  refine Runs.step (seenAt rfl rfl) ?_
  refine Runs.step (seenAt rfl (asSl_v _)) ?_
  refine Runs.step (seenAt rfl (asSl_v _)) ?_
  refine Runs.step (seen (kb _ _)) ?_
  have G42 := ((((((((g10.trans g16).trans g18).trans g23).trans g29).trans g30).updr (Nat.le_trans ((g10.trans g16)).size (Nat.le_refl _)) u31).trans g39).trans g40)
  have b9_43 := G42.has b9
  refine Runs.puts b9_43 rfl fun H41 b41 u41 => ?_
  have n2_41 := (n2_31.grow (g39.trans g40)).upda (Av.of_base n2 (Nat.le_trans ((g7.trans g8)).size (Nat.le_refl _))) u41
  have n3_41 := (n3_31.grow (g39.trans g40)).upda (Av.of_base n3 (Nat.le_trans ((g7.trans g8)).size (Nat.le_refl _))) u41
  have n5_41 := (n5_31.grow (g39.trans g40)).upda (Av.of_base n5 (Nat.le_trans ((g7.trans g8)).size (Nat.le_refl _))) u41
  have n6_41 := (n6_31.grow (g39.trans g40)).upda (Av.of_base n6 (Nat.le_trans ((g7.trans g8)).size (Nat.le_refl _))) u41
  have G44 := ((g10.trans g16).trans g18)
  have n23_41 := (n23_31.grow (g39.trans g40)).upda (Av.of_own o23 (G44.has b9).lt) u41
  have G45 := (G44.trans g23)
  have n29_41 := (n29_31.grow (g39.trans g40)).upda (Av.of_own o29 (G45.has b9).lt) u41
  have G46 := (G45.trans g29)
  have n30_41 := (n30_31.grow (g39.trans g40)).upda (Av.of_own o30 (G46.has b9).lt) u41
  have G47 := ((G46.trans g30).updr (Nat.le_trans ((g10.trans g16)).size (Nat.le_refl _)) u31)
  have n39_41 := (n39.grow g40).upda (Av.of_own o39 (G47.has b9).lt) u41
  have G48 := (G47.trans g39)
  have n40_41 := n40.upda (Av.of_own o40 (G48.has b9).lt) u41
  have n40b_41 := n40b.upda (Av.of_own o40b (G48.has b9).lt) u41
  have b7_41 := AH.has.updr ((g39.trans g40).has b7_31) (Nat.ne_of_lt (Nat.lt_of_lt_of_le (g8.has b7).lt (Nat.le_refl _))) u41
  have b8_41 := AH.has.updr ((g39.trans g40).has b8_31) (Nat.ne_of_lt (Nat.lt_of_lt_of_le (b8).lt (Nat.le_refl _))) u41
  have G49 := (((((G24.trans g29).trans g30).updr (Nat.le_trans (g16).size (Nat.le_refl _)) u31).trans g39).trans g40)
  have b10_50 := G49.has b10
  have b10_41 := AH.has.updr b10_50 (Nat.ne_of_gt (Nat.lt_of_lt_of_le (b9).lt (Nat.le_refl _))) u41
  have b31_41 := AH.has.updr ((g39.trans g40).has b31) (Nat.ne_of_gt (Nat.lt_of_lt_of_le ((g10.trans g16).has b9).lt (Nat.le_refl _))) u41
  refine Runs.step (AH.has.rd b41 0 rfl rfl) ?_
  refine Runs.step (AH.has.rd b41 1 rfl (asSl_v _)) ?_
  refine Runs.step (AH.has.rd b41 2 rfl (asSl_v _)) ?_
  have z : kbs a1 x2 x3 a4 x5 x6 = ((((kp (((kbc ((kc a1 x2 x3 a4 x5 x6).1) ((kc a1 x2 x3 a4 x5 x6).2) ((kc a4 x5 x6 a1 x2 x3).1) ((kc a4 x5 x6 a1 x2 x3).2)).1)) ((kbc ((kc a1 x2 x3 a4 x5 x6).1) ((kc a1 x2 x3 a4 x5 x6).2) ((kc a4 x5 x6 a1 x2 x3).1) ((kc a4 x5 x6 a1 x2 x3).2)).2.1) ((mulN x3 x6).1)).1)), (kp (((kbc ((kc a1 x2 x3 a4 x5 x6).1) ((kc a1 x2 x3 a4 x5 x6).2) ((kc a4 x5 x6 a1 x2 x3).1) ((kc a4 x5 x6 a1 x2 x3).2)).1)) ((kbc ((kc a1 x2 x3 a4 x5 x6).1) ((kc a1 x2 x3 a4 x5 x6).2) ((kc a4 x5 x6 a1 x2 x3).1) ((kc a4 x5 x6 a1 x2 x3).2)).2.1) ((mulN x3 x6).1)).2.1, (kp (((kbc ((kc a1 x2 x3 a4 x5 x6).1) ((kc a1 x2 x3 a4 x5 x6).2) ((kc a4 x5 x6 a1 x2 x3).1) ((kc a4 x5 x6 a1 x2 x3).2)).1)) ((kbc ((kc a1 x2 x3 a4 x5 x6).1) ((kc a1 x2 x3 a4 x5 x6).2) ((kc a4 x5 x6 a1 x2 x3).1) ((kc a4 x5 x6 a1 x2 x3).2)).2.1) ((mulN x3 x6).1)).2.2.1, ((kp (((kbc ((kc a1 x2 x3 a4 x5 x6).1) ((kc a1 x2 x3 a4 x5 x6).2) ((kc a4 x5 x6 a1 x2 x3).1) ((kc a4 x5 x6 a1 x2 x3).2)).1)) ((kbc ((kc a1 x2 x3 a4 x5 x6).1) ((kc a1 x2 x3 a4 x5 x6).2) ((kc a4 x5 x6 a1 x2 x3).1) ((kc a4 x5 x6 a1 x2 x3).2)).2.1) ((mulN x3 x6).1)).2.2.2)) := by unfold kbs; exact (condF k17).trans rfl
  rw [z]
  have G51 := ((((((G34.trans g18).trans g23).trans g29).trans g30).updr (Nat.le_trans (G34).size (Nat.le_refl _)) u31).trans g39)
  have G52 := ((G51.trans g40).updr (Nat.le_trans ((g7.trans g8)).size (Nat.le_refl _)) u41)
  exact Runs.ret ⟨s40, s40b, rfl, n40_41, n40b_41, G52, (o40.of_le G51), (o40b.of_le G51)⟩
def kcf (a1 : Bool) (x2 : List Nat) (x3 : List Nat) (a4 : Bool) (x5 : List Nat) (x6 : List Nat) : Bool × List Nat × List Nat × Int :=
 ((((kbs a1 x2 x3 a4 x5 x6).1)), (kbs a1 x2 x3 a4 x5 x6).2.1, (kbs a1 x2 x3 a4 x5 x6).2.2.1, ((kbs a1 x2 x3 a4 x5 x6).2.2.2))
theorem k3r {h : AH} {a2 : Sl} {x2 : List Nat} {a3 : Sl} {x3 : List Nat} {a5 : Sl} {x5 : List Nat} {a6 : Sl} {x6 : List Nat} (n2 : Nats h a2 x2) (n3 : Nats h a3 x3) (n5 : Nats h a5 x5) (n6 : Nats h a6 x6) (a1 : Bool) (a4 : Bool) : Runs (go (.fn F.kkc [.agg [.bool a1, a2.v, a3.v], .agg [.bool a4, a5.v, a6.v]]) h) fun v h' => ∃ s1 : Sl, ∃ s2 : Sl, v = .tup [.agg [.bool (kcf a1 x2 x3 a4 x5 x6).1, s1.v, s2.v], .int .i64 (kcf a1 x2 x3 a4 x5 x6).2.2.2] ∧ Nats h' s1 ((kcf a1 x2 x3 a4 x5 x6).2.1) ∧ Nats h' s2 ((kcf a1 x2 x3 a4 x5 x6).2.2.1) ∧ Grow h h' ∧ Own h s1 ∧ Own h s2 := by
 rw [k1z]
 refine Runs.new fun H7 b7 g7 => ?_
 refine Runs.new fun H8 b8 g8 => ?_
 refine Runs.new fun H9 b9 g9 => ?_
 refine Runs.step (AH.has.rd ((g8.trans g9).has b7) 0 rfl rfl) ?_
 refine Runs.step (AH.has.rd ((g8.trans g9).has b7) 1 rfl (asSl_v _)) ?_
 refine Runs.step (AH.has.rd ((g8.trans g9).has b7) 2 rfl (asSl_v _)) ?_
 refine Runs.step (AH.has.rd (g9.has b8) 0 rfl rfl) ?_
 refine Runs.step (AH.has.rd (g9.has b8) 1 rfl (asSl_v _)) ?_
 refine Runs.step (AH.has.rd (g9.has b8) 2 rfl (asSl_v _)) ?_
 have G10 := ((g7.trans g8).trans g9)
 have n2_11 := n2.grow G10
 have n3_12 := n3.grow G10
 have n5_13 := n5.grow G10
 have n6_14 := n6.grow G10
 obtain ⟨_, H15, e15, s15, s15b, rfl, n15, n15b, g15, o15, o15b⟩ := kvf n2_11 n3_12 n5_13 n6_14 a1 a4
 refine Runs.step e15 ?_
 refine Runs.step rfl ?_
 refine Runs.step rfl ?_
 refine Runs.ifT rfl ?_
 refine Runs.step (seenAt rfl rfl) ?_
 refine Runs.step (seenAt rfl (asSl_v _)) ?_
 refine Runs.step (seenAt rfl (asSl_v _)) ?_
 refine Runs.step (seen (kb _ _)) ?_
 refine Runs.puts (g15.has b9) rfl fun H16 b16 u16 => ?_
 have n2_16 := (n2_11.grow g15).upda (Av.of_base n2 (Nat.le_trans ((g7.trans g8)).size (Nat.le_refl _))) u16
 have n3_16 := (n3_12.grow g15).upda (Av.of_base n3 (Nat.le_trans ((g7.trans g8)).size (Nat.le_refl _))) u16
 have n5_16 := (n5_13.grow g15).upda (Av.of_base n5 (Nat.le_trans ((g7.trans g8)).size (Nat.le_refl _))) u16
 have n6_16 := (n6_14.grow g15).upda (Av.of_base n6 (Nat.le_trans ((g7.trans g8)).size (Nat.le_refl _))) u16
 have n15_16 := n15.upda (Av.of_own o15 (b9).lt) u16
 have n15b_16 := n15b.upda (Av.of_own o15b (b9).lt) u16
 refine Runs.step (AH.has.rd b16 0 rfl rfl) ?_
 refine Runs.step (AH.has.rd b16 1 rfl (asSl_v _)) ?_
 refine Runs.step (AH.has.rd b16 2 rfl (asSl_v _)) ?_
 have z : kcf a1 x2 x3 a4 x5 x6 = ((((kbs a1 x2 x3 a4 x5 x6).1)), (kbs a1 x2 x3 a4 x5 x6).2.1, (kbs a1 x2 x3 a4 x5 x6).2.2.1, ((kbs a1 x2 x3 a4 x5 x6).2.2.2)) := by unfold kcf; exact rfl
 rw [z]
 have G17 := ((G10.trans g15).updr (Nat.le_trans ((g7.trans g8)).size (Nat.le_refl _)) u16)
 exact Runs.ret ⟨s15, s15b, rfl, n15_16, n15b_16, G17, (o15.of_le G10), (o15b.of_le G10)⟩
theorem kxi {h : AH} {a2 : Sl} {x2 : List Nat} {a3 : Sl} {x3 : List Nat} {a5 : Sl} {x5 : List Nat} {a6 : Sl} {x6 : List Nat} (n2 : Nats h a2 x2) (n3 : Nats h a3 x3) (n5 : Nats h a5 x5) (n6 : Nats h a6 x6) {a1 : Bool} {a4 : Bool} {r : _} (q : kcf a1 x2 x3 a4 x5 x6 = r) : Runs (go (.fn F.kkc [.agg [.bool a1, a2.v, a3.v], .agg [.bool a4, a5.v, a6.v]]) h) fun v h' => ∃ s1 : Sl, ∃ s2 : Sl, v = .tup [.agg [.bool r.1, s1.v, s2.v], .int .i64 r.2.2.2] ∧ Nats h' s1 (r.2.1) ∧ Nats h' s2 (r.2.2.1) ∧ Grow h h' ∧ Own h s1 ∧ Own h s2 := by
 subst q
 exact k3r n2 n3 n5 n6 a1 a4
def kbk (a1 : Bool) (x2 : List Nat) (x3 : List Nat) (a4 : Bool) (x5 : List Nat) (x6 : List Nat) : Bool × List Nat × List Nat × Int :=
 cond (!((kr a1 x2 x3))) ((false, [], [], 1)) (cond (!((kr a4 x5 x6))) ((false, [], [], 1)) (((((kp (((kn ((kc a1 x2 x3 a4 x5 x6).1) ((kc a1 x2 x3 a4 x5 x6).2) ((kc a4 x5 x6 a1 x2 x3).1) ((kc a4 x5 x6 a1 x2 x3).2)).1)) ((kn ((kc a1 x2 x3 a4 x5 x6).1) ((kc a1 x2 x3 a4 x5 x6).2) ((kc a4 x5 x6 a1 x2 x3).1) ((kc a4 x5 x6 a1 x2 x3).2)).2.1) ((mulN x3 x6).1)).1)), (kp (((kn ((kc a1 x2 x3 a4 x5 x6).1) ((kc a1 x2 x3 a4 x5 x6).2) ((kc a4 x5 x6 a1 x2 x3).1) ((kc a4 x5 x6 a1 x2 x3).2)).1)) ((kn ((kc a1 x2 x3 a4 x5 x6).1) ((kc a1 x2 x3 a4 x5 x6).2) ((kc a4 x5 x6 a1 x2 x3).1) ((kc a4 x5 x6 a1 x2 x3).2)).2.1) ((mulN x3 x6).1)).2.1, (kp (((kn ((kc a1 x2 x3 a4 x5 x6).1) ((kc a1 x2 x3 a4 x5 x6).2) ((kc a4 x5 x6 a1 x2 x3).1) ((kc a4 x5 x6 a1 x2 x3).2)).1)) ((kn ((kc a1 x2 x3 a4 x5 x6).1) ((kc a1 x2 x3 a4 x5 x6).2) ((kc a4 x5 x6 a1 x2 x3).1) ((kc a4 x5 x6 a1 x2 x3).2)).2.1) ((mulN x3 x6).1)).2.2.1, ((kp (((kn ((kc a1 x2 x3 a4 x5 x6).1) ((kc a1 x2 x3 a4 x5 x6).2) ((kc a4 x5 x6 a1 x2 x3).1) ((kc a4 x5 x6 a1 x2 x3).2)).1)) ((kn ((kc a1 x2 x3 a4 x5 x6).1) ((kc a1 x2 x3 a4 x5 x6).2) ((kc a4 x5 x6 a1 x2 x3).1) ((kc a4 x5 x6 a1 x2 x3).2)).2.1) ((mulN x3 x6).1)).2.2.2))))
theorem kps {h : AH} {a2 : Sl} {x2 : List Nat} {a3 : Sl} {x3 : List Nat} {a5 : Sl} {x5 : List Nat} {a6 : Sl} {x6 : List Nat} (n2 : Nats h a2 x2) (n3 : Nats h a3 x3) (n5 : Nats h a5 x5) (n6 : Nats h a6 x6) (a1 : Bool) (a4 : Bool) : Runs (go (.fn F.kjr [.agg [.bool a1, a2.v, a3.v], .agg [.bool a4, a5.v, a6.v]]) h) fun v h' => ∃ s1 : Sl, ∃ s2 : Sl, v = .tup [.agg [.bool (kbk a1 x2 x3 a4 x5 x6).1, s1.v, s2.v], .int .i64 (kbk a1 x2 x3 a4 x5 x6).2.2.2] ∧ Nats h' s1 ((kbk a1 x2 x3 a4 x5 x6).2.1) ∧ Nats h' s2 ((kbk a1 x2 x3 a4 x5 x6).2.2.1) ∧ Grow h h' ∧ Own h s1 ∧ Own h s2 := by
 rw [kx6]
 refine Runs.new fun H7 b7 g7 => ?_
 refine Runs.new fun H8 b8 g8 => ?_
 refine Runs.new fun H9 b9 g9 => ?_
 refine Runs.step (AH.has.rd ((g8.trans g9).has b7) 0 rfl rfl) ?_
 refine Runs.step (AH.has.rd ((g8.trans g9).has b7) 1 rfl (asSl_v _)) ?_
 refine Runs.step (AH.has.rd ((g8.trans g9).has b7) 2 rfl (asSl_v _)) ?_
 have G10 := ((g7.trans g8).trans g9)
 have n2_11 := n2.grow G10
 have n3_12 := n3.grow G10
 obtain ⟨_, H13, e13, rfl, g13⟩ := khc n2_11 n3_12 a1
 refine Runs.step e13 ?_
 refine Runs.step (seen rfl) ?_
 refine Runs.step (AH.has.rd ((g9.trans g13).has b8) 0 rfl rfl) ?_
 refine Runs.step (AH.has.rd ((g9.trans g13).has b8) 1 rfl (asSl_v _)) ?_
 refine Runs.step (AH.has.rd ((g9.trans g13).has b8) 2 rfl (asSl_v _)) ?_
 have G14 := (G10.trans g13)
 have n5_15 := n5.grow G14
 have n6_16 := n6.grow G14
 obtain ⟨_, H17, e17, rfl, g17⟩ := khc n5_15 n6_16 a4
 refine Runs.step e17 ?_
 refine Runs.step (seen rfl) ?_
 refine Runs.cond (fun k18 => ?_) (fun k18 => ?_)
 ·refine Runs.puts ((g13.trans g17).has b9) rfl fun H19 b19 u19 => ?_
  have n2_19 := (n2_11.grow (g13.trans g17)).upda (Av.of_base n2 (Nat.le_trans ((g7.trans g8)).size (Nat.le_refl _))) u19
  have n3_19 := (n3_12.grow (g13.trans g17)).upda (Av.of_base n3 (Nat.le_trans ((g7.trans g8)).size (Nat.le_refl _))) u19
  have n5_19 := (n5_15.grow g17).upda (Av.of_base n5 (Nat.le_trans ((g7.trans g8)).size (Nat.le_refl _))) u19
  have n6_19 := (n6_16.grow g17).upda (Av.of_base n6 (Nat.le_trans ((g7.trans g8)).size (Nat.le_refl _))) u19
  refine Runs.step (AH.has.rd b19 0 rfl rfl) ?_
  refine Runs.step (AH.has.rd b19 1 rfl (asSl_v _)) ?_
  refine Runs.step (AH.has.rd b19 2 rfl (asSl_v _)) ?_
  have z : kbk a1 x2 x3 a4 x5 x6 = (false, [], [], 1) := by unfold kbk; exact (condT k18).trans rfl
  rw [z]
  have G20 := ((G14.trans g17).updr (Nat.le_trans ((g7.trans g8)).size (Nat.le_refl _)) u19)
  exact Runs.ret ⟨(⟨none, 0, .is 0⟩ : Sl), (⟨none, 0, .is 0⟩ : Sl), rfl, (Nats.nil _), (Nats.nil _), G20, (Own.nil _), (Own.nil _)⟩
 ·refine Runs.cond (fun k19 => ?_) (fun k19 => ?_)
  ·refine Runs.puts ((g13.trans g17).has b9) rfl fun H20 b20 u20 => ?_
   have n2_20 := (n2_11.grow (g13.trans g17)).upda (Av.of_base n2 (Nat.le_trans ((g7.trans g8)).size (Nat.le_refl _))) u20
   have n3_20 := (n3_12.grow (g13.trans g17)).upda (Av.of_base n3 (Nat.le_trans ((g7.trans g8)).size (Nat.le_refl _))) u20
   have n5_20 := (n5_15.grow g17).upda (Av.of_base n5 (Nat.le_trans ((g7.trans g8)).size (Nat.le_refl _))) u20
   have n6_20 := (n6_16.grow g17).upda (Av.of_base n6 (Nat.le_trans ((g7.trans g8)).size (Nat.le_refl _))) u20
   refine Runs.step (AH.has.rd b20 0 rfl rfl) ?_
   refine Runs.step (AH.has.rd b20 1 rfl (asSl_v _)) ?_
   refine Runs.step (AH.has.rd b20 2 rfl (asSl_v _)) ?_
   have z : kbk a1 x2 x3 a4 x5 x6 = (false, [], [], 1) := by unfold kbk; exact (condF k18).trans ((condT k19).trans rfl)
   rw [z]
   have G21 := ((G14.trans g17).updr (Nat.le_trans ((g7.trans g8)).size (Nat.le_refl _)) u20)
   exact Runs.ret ⟨(⟨none, 0, .is 0⟩ : Sl), (⟨none, 0, .is 0⟩ : Sl), rfl, (Nats.nil _), (Nats.nil _), G21, (Own.nil _), (Own.nil _)⟩
  ·refine Runs.new fun H20 b20 g20 => ?_
   have G21 := ((((g8.trans g9).trans g13).trans g17).trans g20)
   have b7_22 := G21.has b7
   refine Runs.step (AH.has.rd b7_22 0 rfl rfl) ?_
   refine Runs.step (AH.has.rd b7_22 1 rfl (asSl_v _)) ?_
   refine Runs.step (AH.has.rd b7_22 2 rfl (asSl_v _)) ?_
   have G23 := (((g9.trans g13).trans g17).trans g20)
   have b8_24 := G23.has b8
   refine Runs.step (AH.has.rd b8_24 0 rfl rfl) ?_
   refine Runs.step (AH.has.rd b8_24 1 rfl (asSl_v _)) ?_
   refine Runs.step (AH.has.rd b8_24 2 rfl (asSl_v _)) ?_
   refine Runs.step (AH.has.rd b8_24 0 rfl rfl) ?_
   refine Runs.step (AH.has.rd b8_24 1 rfl (asSl_v _)) ?_
   refine Runs.step (AH.has.rd b8_24 2 rfl (asSl_v _)) ?_
   refine Runs.step (AH.has.rd b7_22 0 rfl rfl) ?_
   refine Runs.step (AH.has.rd b7_22 1 rfl (asSl_v _)) ?_
   refine Runs.step (AH.has.rd b7_22 2 rfl (asSl_v _)) ?_
   have G25 := ((g13.trans g17).trans g20)
   have n2_26 := n2_11.grow G25
   have n3_27 := n3_12.grow G25
   obtain ⟨_, H28, e28, s28, rfl, n28, g28, o28⟩ := kkh n2_26 n3_27 (n5_15.grow (g17.trans g20)) (n6_16.grow (g17.trans g20)) a1 a4
   refine Runs.step e28 ?_
   refine Runs.step rfl ?_
   refine Runs.ifT rfl ?_
   refine Runs.step (seenAt rfl rfl) ?_
   refine Runs.step (seenAt rfl (asSl_v _)) ?_
   refine Runs.when (g28.same b7_22 0 3) ?_
   refine Runs.when (g28.same b8_24 0 3) ?_
   refine Runs.when (g28.same b20 0 0) ?_
   have G29 := ((g17.trans g20).trans g28)
   have n5_30 := n5_15.grow G29
   have n6_31 := n6_16.grow G29
   obtain ⟨_, H32, e32, s32, rfl, n32, g32, o32⟩ := kkh n5_30 n6_31 (n2_26.grow g28) (n3_27.grow g28) a4 a1
   refine Runs.step e32 ?_
   refine Runs.step rfl ?_
   refine Runs.ifT rfl ?_
   refine Runs.step (seenAt rfl rfl) ?_
   refine Runs.step (seenAt rfl (asSl_v _)) ?_
   refine Runs.when (g32.same (g28.has b20) 0 0) ?_
   obtain ⟨_, H33, e33, s33, rfl, n33, g33, o33⟩ := k48 (n28.grow g32) n32 ((kc a1 x2 x3 a4 x5 x6).1) ((kc a4 x5 x6 a1 x2 x3).1)
   refine Runs.step e33 ?_
   refine Runs.step rfl ?_
   refine Runs.step rfl ?_
   refine Runs.ifT rfl ?_
   refine Runs.step (seenAt rfl rfl) ?_
   refine Runs.step (seenAt rfl (asSl_v _)) ?_
   refine Runs.step (seen (kb _ _)) ?_
   refine Runs.when (g33.same ((g28.trans g32).has b20) 0 0) ?_
   have G35 := ((g28.trans g32).trans g33)
   have b20_36 := G35.has b20
   refine Runs.puts b20_36 rfl fun H34 b34 u34 => ?_
   have G37 := (G14.trans g17)
   have n2_38 := n2_26.grow G35
   have n2_34 := n2_38.upda (Av.of_base n2 (Nat.le_trans (G37).size (Nat.le_refl _))) u34
   have n3_39 := n3_27.grow G35
   have n3_34 := n3_39.upda (Av.of_base n3 (Nat.le_trans (G37).size (Nat.le_refl _))) u34
   have n5_34 := (n5_30.grow (g32.trans g33)).upda (Av.of_base n5 (Nat.le_trans (G37).size (Nat.le_refl _))) u34
   have n6_34 := (n6_31.grow (g32.trans g33)).upda (Av.of_base n6 (Nat.le_trans (G37).size (Nat.le_refl _))) u34
   have n28_34 := (n28.grow (g32.trans g33)).upda (Av.of_own o28 (b20).lt) u34
   have n32_34 := (n32.grow g33).upda (Av.of_own o32 (g28.has b20).lt) u34
   have n33_34 := n33.upda (Av.of_own o33 ((g28.trans g32).has b20).lt) u34
   have b7_40 := G35.has b7_22
   have G41 := (((g8.trans g9).trans g13).trans g17)
   have b7_34 := AH.has.updr b7_40 (Nat.ne_of_lt (Nat.lt_of_lt_of_le (G41.has b7).lt (Nat.le_refl _))) u34
   have b8_42 := G35.has b8_24
   have G43 := ((g9.trans g13).trans g17)
   have b8_34 := AH.has.updr b8_42 (Nat.ne_of_lt (Nat.lt_of_lt_of_le (G43.has b8).lt (Nat.le_refl _))) u34
   refine Runs.step (AH.has.rd b7_34 2 rfl (asSl_v _)) ?_
   refine Runs.step (AH.has.rd b8_34 2 rfl (asSl_v _)) ?_
   obtain ⟨s44, H44, e44, n44, g44, o44⟩ := kqa n3_34 n6_34
   refine Runs.step e44 ?_
   refine Runs.step rfl ?_
   refine Runs.step (seen (asSl_v _)) ?_
   refine Runs.step (seen (kb _ _)) ?_
   refine Runs.step (AH.has.rd (g44.has b34) 0 rfl rfl) ?_
   refine Runs.step (AH.has.rd (g44.has b34) 1 rfl (asSl_v _)) ?_
   obtain ⟨_, H45, e45, s45, s45b, rfl, n45, n45b, g45, o45, o45b⟩ := kpp (n33_34.grow g44) n44 (((kn ((kc a1 x2 x3 a4 x5 x6).1) ((kc a1 x2 x3 a4 x5 x6).2) ((kc a4 x5 x6 a1 x2 x3).1) ((kc a4 x5 x6 a1 x2 x3).2)).1))
   refine Runs.step e45 ?_
   refine Runs.step rfl ?_
   refine Runs.step rfl ?_
   refine Runs.ifT rfl ?_
   refine Runs.step (seenAt rfl rfl) ?_
   refine Runs.step (seenAt rfl (asSl_v _)) ?_
   refine Runs.step (seenAt rfl (asSl_v _)) ?_
   refine Runs.step (seen (kb _ _)) ?_
   have G47 := ((((((G25.trans g28).trans g32).trans g33).updr (Nat.le_trans ((g13.trans g17)).size (Nat.le_refl _)) u34).trans g44).trans g45)
   have b9_48 := G47.has b9
   refine Runs.puts b9_48 rfl fun H46 b46 u46 => ?_
   have n2_46 := (n2_34.grow (g44.trans g45)).upda (Av.of_base n2 (Nat.le_trans ((g7.trans g8)).size (Nat.le_refl _))) u46
   have n3_46 := (n3_34.grow (g44.trans g45)).upda (Av.of_base n3 (Nat.le_trans ((g7.trans g8)).size (Nat.le_refl _))) u46
   have n5_46 := (n5_34.grow (g44.trans g45)).upda (Av.of_base n5 (Nat.le_trans ((g7.trans g8)).size (Nat.le_refl _))) u46
   have n6_46 := (n6_34.grow (g44.trans g45)).upda (Av.of_base n6 (Nat.le_trans ((g7.trans g8)).size (Nat.le_refl _))) u46
   have n28_46 := (n28_34.grow (g44.trans g45)).upda (Av.of_own o28 (G25.has b9).lt) u46
   have G49 := (G25.trans g28)
   have n32_46 := (n32_34.grow (g44.trans g45)).upda (Av.of_own o32 (G49.has b9).lt) u46
   have G50 := (G49.trans g32)
   have n33_46 := (n33_34.grow (g44.trans g45)).upda (Av.of_own o33 (G50.has b9).lt) u46
   have G51 := ((G50.trans g33).updr (Nat.le_trans ((g13.trans g17)).size (Nat.le_refl _)) u34)
   have n44_46 := (n44.grow g45).upda (Av.of_own o44 (G51.has b9).lt) u46
   have G52 := (G51.trans g44)
   have n45_46 := n45.upda (Av.of_own o45 (G52.has b9).lt) u46
   have n45b_46 := n45b.upda (Av.of_own o45b (G52.has b9).lt) u46
   have b7_46 := AH.has.updr ((g44.trans g45).has b7_34) (Nat.ne_of_lt (Nat.lt_of_lt_of_le (g8.has b7).lt (Nat.le_refl _))) u46
   have b8_46 := AH.has.updr ((g44.trans g45).has b8_34) (Nat.ne_of_lt (Nat.lt_of_lt_of_le (b8).lt (Nat.le_refl _))) u46
   have b34_46 := AH.has.updr ((g44.trans g45).has b34) (Nat.ne_of_gt (Nat.lt_of_lt_of_le ((g13.trans g17).has b9).lt (Nat.le_refl _))) u46
   refine Runs.step (AH.has.rd b46 0 rfl rfl) ?_
   refine Runs.step (AH.has.rd b46 1 rfl (asSl_v _)) ?_
   refine Runs.step (AH.has.rd b46 2 rfl (asSl_v _)) ?_
   have z : kbk a1 x2 x3 a4 x5 x6 = ((((kp (((kn ((kc a1 x2 x3 a4 x5 x6).1) ((kc a1 x2 x3 a4 x5 x6).2) ((kc a4 x5 x6 a1 x2 x3).1) ((kc a4 x5 x6 a1 x2 x3).2)).1)) ((kn ((kc a1 x2 x3 a4 x5 x6).1) ((kc a1 x2 x3 a4 x5 x6).2) ((kc a4 x5 x6 a1 x2 x3).1) ((kc a4 x5 x6 a1 x2 x3).2)).2.1) ((mulN x3 x6).1)).1)), (kp (((kn ((kc a1 x2 x3 a4 x5 x6).1) ((kc a1 x2 x3 a4 x5 x6).2) ((kc a4 x5 x6 a1 x2 x3).1) ((kc a4 x5 x6 a1 x2 x3).2)).1)) ((kn ((kc a1 x2 x3 a4 x5 x6).1) ((kc a1 x2 x3 a4 x5 x6).2) ((kc a4 x5 x6 a1 x2 x3).1) ((kc a4 x5 x6 a1 x2 x3).2)).2.1) ((mulN x3 x6).1)).2.1, (kp (((kn ((kc a1 x2 x3 a4 x5 x6).1) ((kc a1 x2 x3 a4 x5 x6).2) ((kc a4 x5 x6 a1 x2 x3).1) ((kc a4 x5 x6 a1 x2 x3).2)).1)) ((kn ((kc a1 x2 x3 a4 x5 x6).1) ((kc a1 x2 x3 a4 x5 x6).2) ((kc a4 x5 x6 a1 x2 x3).1) ((kc a4 x5 x6 a1 x2 x3).2)).2.1) ((mulN x3 x6).1)).2.2.1, ((kp (((kn ((kc a1 x2 x3 a4 x5 x6).1) ((kc a1 x2 x3 a4 x5 x6).2) ((kc a4 x5 x6 a1 x2 x3).1) ((kc a4 x5 x6 a1 x2 x3).2)).1)) ((kn ((kc a1 x2 x3 a4 x5 x6).1) ((kc a1 x2 x3 a4 x5 x6).2) ((kc a4 x5 x6 a1 x2 x3).1) ((kc a4 x5 x6 a1 x2 x3).2)).2.1) ((mulN x3 x6).1)).2.2.2)) := by unfold kbk; exact (condF k18).trans ((condF k19).trans rfl)
   rw [z]
   have G53 := ((((((G37.trans g20).trans g28).trans g32).trans g33).updr (Nat.le_trans (G37).size (Nat.le_refl _)) u34).trans g44)
   have G54 := ((G53.trans g45).updr (Nat.le_trans ((g7.trans g8)).size (Nat.le_refl _)) u46)
   exact Runs.ret ⟨s45, s45b, rfl, n45_46, n45b_46, G54, (o45.of_le G53), (o45b.of_le G53)⟩
def kb6 (a1 : Bool) (x2 : List Nat) (x3 : List Nat) (a4 : Bool) (x5 : List Nat) (x6 : List Nat) : Bool × List Nat × List Nat × Int :=
 cond (!((kr a1 x2 x3))) ((false, [], [], 1)) (cond (!((kr a4 x5 x6))) ((false, [], [], 1)) (((((kbk a1 x2 x3 ((negI a4 x5).1) ((negI a4 x5).2) x6).1)), (kbk a1 x2 x3 ((negI a4 x5).1) ((negI a4 x5).2) x6).2.1, (kbk a1 x2 x3 ((negI a4 x5).1) ((negI a4 x5).2) x6).2.2.1, ((kbk a1 x2 x3 ((negI a4 x5).1) ((negI a4 x5).2) x6).2.2.2))))
theorem k58 {h : AH} {a2 : Sl} {x2 : List Nat} {a3 : Sl} {x3 : List Nat} {a5 : Sl} {x5 : List Nat} {a6 : Sl} {x6 : List Nat} (n2 : Nats h a2 x2) (n3 : Nats h a3 x3) (n5 : Nats h a5 x5) (n6 : Nats h a6 x6) (a1 : Bool) (a4 : Bool) : Runs (go (.fn F.kka [.agg [.bool a1, a2.v, a3.v], .agg [.bool a4, a5.v, a6.v]]) h) fun v h' => ∃ s1 : Sl, ∃ s2 : Sl, v = .tup [.agg [.bool (kb6 a1 x2 x3 a4 x5 x6).1, s1.v, s2.v], .int .i64 (kb6 a1 x2 x3 a4 x5 x6).2.2.2] ∧ Nats h' s1 ((kb6 a1 x2 x3 a4 x5 x6).2.1) ∧ Nats h' s2 ((kb6 a1 x2 x3 a4 x5 x6).2.2.1) ∧ Grow h h' ∧ Own h s1 ∧ Own h s2 := by
 rw [kxj]
 refine Runs.new fun H7 b7 g7 => ?_
 refine Runs.new fun H8 b8 g8 => ?_
 refine Runs.new fun H9 b9 g9 => ?_
 refine Runs.step (AH.has.rd ((g8.trans g9).has b7) 0 rfl rfl) ?_
 refine Runs.step (AH.has.rd ((g8.trans g9).has b7) 1 rfl (asSl_v _)) ?_
 refine Runs.step (AH.has.rd ((g8.trans g9).has b7) 2 rfl (asSl_v _)) ?_
 have G10 := ((g7.trans g8).trans g9)
 have n2_11 := n2.grow G10
 have n3_12 := n3.grow G10
 obtain ⟨_, H13, e13, rfl, g13⟩ := khc n2_11 n3_12 a1
 refine Runs.step e13 ?_
 refine Runs.step (seen rfl) ?_
 refine Runs.step (AH.has.rd ((g9.trans g13).has b8) 0 rfl rfl) ?_
 refine Runs.step (AH.has.rd ((g9.trans g13).has b8) 1 rfl (asSl_v _)) ?_
 refine Runs.step (AH.has.rd ((g9.trans g13).has b8) 2 rfl (asSl_v _)) ?_
 have G14 := (G10.trans g13)
 have n5_15 := n5.grow G14
 have n6_16 := n6.grow G14
 obtain ⟨_, H17, e17, rfl, g17⟩ := khc n5_15 n6_16 a4
 refine Runs.step e17 ?_
 refine Runs.step (seen rfl) ?_
 refine Runs.cond (fun k18 => ?_) (fun k18 => ?_)
 ·refine Runs.puts ((g13.trans g17).has b9) rfl fun H19 b19 u19 => ?_
  have n2_19 := (n2_11.grow (g13.trans g17)).upda (Av.of_base n2 (Nat.le_trans ((g7.trans g8)).size (Nat.le_refl _))) u19
  have n3_19 := (n3_12.grow (g13.trans g17)).upda (Av.of_base n3 (Nat.le_trans ((g7.trans g8)).size (Nat.le_refl _))) u19
  have n5_19 := (n5_15.grow g17).upda (Av.of_base n5 (Nat.le_trans ((g7.trans g8)).size (Nat.le_refl _))) u19
  have n6_19 := (n6_16.grow g17).upda (Av.of_base n6 (Nat.le_trans ((g7.trans g8)).size (Nat.le_refl _))) u19
  refine Runs.step (AH.has.rd b19 0 rfl rfl) ?_
  refine Runs.step (AH.has.rd b19 1 rfl (asSl_v _)) ?_
  refine Runs.step (AH.has.rd b19 2 rfl (asSl_v _)) ?_
  have z : kb6 a1 x2 x3 a4 x5 x6 = (false, [], [], 1) := by unfold kb6; exact (condT k18).trans rfl
  rw [z]
  have G20 := ((G14.trans g17).updr (Nat.le_trans ((g7.trans g8)).size (Nat.le_refl _)) u19)
  exact Runs.ret ⟨(⟨none, 0, .is 0⟩ : Sl), (⟨none, 0, .is 0⟩ : Sl), rfl, (Nats.nil _), (Nats.nil _), G20, (Own.nil _), (Own.nil _)⟩
 ·refine Runs.cond (fun k19 => ?_) (fun k19 => ?_)
  ·refine Runs.puts ((g13.trans g17).has b9) rfl fun H20 b20 u20 => ?_
   have n2_20 := (n2_11.grow (g13.trans g17)).upda (Av.of_base n2 (Nat.le_trans ((g7.trans g8)).size (Nat.le_refl _))) u20
   have n3_20 := (n3_12.grow (g13.trans g17)).upda (Av.of_base n3 (Nat.le_trans ((g7.trans g8)).size (Nat.le_refl _))) u20
   have n5_20 := (n5_15.grow g17).upda (Av.of_base n5 (Nat.le_trans ((g7.trans g8)).size (Nat.le_refl _))) u20
   have n6_20 := (n6_16.grow g17).upda (Av.of_base n6 (Nat.le_trans ((g7.trans g8)).size (Nat.le_refl _))) u20
   refine Runs.step (AH.has.rd b20 0 rfl rfl) ?_
   refine Runs.step (AH.has.rd b20 1 rfl (asSl_v _)) ?_
   refine Runs.step (AH.has.rd b20 2 rfl (asSl_v _)) ?_
   have z : kb6 a1 x2 x3 a4 x5 x6 = (false, [], [], 1) := by unfold kb6; exact (condF k18).trans ((condT k19).trans rfl)
   rw [z]
   have G21 := ((G14.trans g17).updr (Nat.le_trans ((g7.trans g8)).size (Nat.le_refl _)) u20)
   exact Runs.ret ⟨(⟨none, 0, .is 0⟩ : Sl), (⟨none, 0, .is 0⟩ : Sl), rfl, (Nats.nil _), (Nats.nil _), G21, (Own.nil _), (Own.nil _)⟩
  ·have G20 := (((g8.trans g9).trans g13).trans g17)
   have b7_21 := G20.has b7
   refine Runs.step (AH.has.rd b7_21 0 rfl rfl) ?_
   refine Runs.step (AH.has.rd b7_21 1 rfl (asSl_v _)) ?_
   refine Runs.step (AH.has.rd b7_21 2 rfl (asSl_v _)) ?_
   have G22 := ((g9.trans g13).trans g17)
   have b8_23 := G22.has b8
   refine Runs.step (AH.has.rd b8_23 0 rfl rfl) ?_
   refine Runs.step (AH.has.rd b8_23 1 rfl (asSl_v _)) ?_
   refine Runs.step (AH.has.rd b8_23 2 rfl (asSl_v _)) ?_
   obtain ⟨s24, H24, e24, n24, g24, o24⟩ := k6u (n5_15.grow g17) a4
   refine Runs.step e24 ?_
   refine Runs.step rfl ?_
   refine Runs.ifT rfl ?_
   refine Runs.step (seenAt rfl rfl) ?_
   refine Runs.step (seenAt rfl (asSl_v _)) ?_
   refine Runs.when (g24.same b8_23 2 1) ?_
   refine Runs.when (g24.same b7_21 0 3) ?_
   have G25 := ((g13.trans g17).trans g24)
   have n2_26 := n2_11.grow G25
   have n3_27 := n3_12.grow G25
   obtain ⟨_, H28, e28, s28, s28b, rfl, n28, n28b, g28, o28, o28b⟩ := kps n2_26 n3_27 n24 (n6_16.grow (g17.trans g24)) a1 ((negI a4 x5).1)
   refine Runs.step e28 ?_
   refine Runs.step rfl ?_
   refine Runs.step rfl ?_
   refine Runs.ifT rfl ?_
   refine Runs.step (seenAt rfl rfl) ?_
   refine Runs.step (seenAt rfl (asSl_v _)) ?_
   refine Runs.step (seenAt rfl (asSl_v _)) ?_
   refine Runs.step (seen (kb _ _)) ?_
   have G30 := (G25.trans g28)
   have b9_31 := G30.has b9
   refine Runs.puts b9_31 rfl fun H29 b29 u29 => ?_
   have n2_29 := (n2_26.grow g28).upda (Av.of_base n2 (Nat.le_trans ((g7.trans g8)).size (Nat.le_refl _))) u29
   have n3_29 := (n3_27.grow g28).upda (Av.of_base n3 (Nat.le_trans ((g7.trans g8)).size (Nat.le_refl _))) u29
   have G32 := ((g17.trans g24).trans g28)
   have n5_33 := n5_15.grow G32
   have n5_29 := n5_33.upda (Av.of_base n5 (Nat.le_trans ((g7.trans g8)).size (Nat.le_refl _))) u29
   have n6_34 := n6_16.grow G32
   have n6_29 := n6_34.upda (Av.of_base n6 (Nat.le_trans ((g7.trans g8)).size (Nat.le_refl _))) u29
   have n24_29 := (n24.grow g28).upda (Av.of_own o24 ((g13.trans g17).has b9).lt) u29
   have n28_29 := n28.upda (Av.of_own o28 (G25.has b9).lt) u29
   have n28b_29 := n28b.upda (Av.of_own o28b (G25.has b9).lt) u29
   have b7_29 := AH.has.updr ((g24.trans g28).has b7_21) (Nat.ne_of_lt (Nat.lt_of_lt_of_le (g8.has b7).lt (Nat.le_refl _))) u29
   have b8_29 := AH.has.updr ((g24.trans g28).has b8_23) (Nat.ne_of_lt (Nat.lt_of_lt_of_le (b8).lt (Nat.le_refl _))) u29
   refine Runs.step (AH.has.rd b29 0 rfl rfl) ?_
   refine Runs.step (AH.has.rd b29 1 rfl (asSl_v _)) ?_
   refine Runs.step (AH.has.rd b29 2 rfl (asSl_v _)) ?_
   have z : kb6 a1 x2 x3 a4 x5 x6 = ((((kbk a1 x2 x3 ((negI a4 x5).1) ((negI a4 x5).2) x6).1)), (kbk a1 x2 x3 ((negI a4 x5).1) ((negI a4 x5).2) x6).2.1, (kbk a1 x2 x3 ((negI a4 x5).1) ((negI a4 x5).2) x6).2.2.1, ((kbk a1 x2 x3 ((negI a4 x5).1) ((negI a4 x5).2) x6).2.2.2)) := by unfold kb6; exact (condF k18).trans ((condF k19).trans rfl)
   rw [z]
   have G35 := ((G14.trans g17).trans g24)
   have G36 := ((G35.trans g28).updr (Nat.le_trans ((g7.trans g8)).size (Nat.le_refl _)) u29)
   exact Runs.ret ⟨s28, s28b, rfl, n28_29, n28b_29, G36, (o28.of_le G35), (o28b.of_le G35)⟩
theorem kva {h : AH} {a2 : Sl} {x2 : List Nat} {a3 : Sl} {x3 : List Nat} {a5 : Sl} {x5 : List Nat} {a6 : Sl} {x6 : List Nat} (n2 : Nats h a2 x2) (n3 : Nats h a3 x3) (n5 : Nats h a5 x5) (n6 : Nats h a6 x6) {a1 : Bool} {a4 : Bool} {r : _} (q : kb6 a1 x2 x3 a4 x5 x6 = r) : Runs (go (.fn F.kka [.agg [.bool a1, a2.v, a3.v], .agg [.bool a4, a5.v, a6.v]]) h) fun v h' => ∃ s1 : Sl, ∃ s2 : Sl, v = .tup [.agg [.bool r.1, s1.v, s2.v], .int .i64 r.2.2.2] ∧ Nats h' s1 (r.2.1) ∧ Nats h' s2 (r.2.2.1) ∧ Grow h h' ∧ Own h s1 ∧ Own h s2 := by
 subst q
 exact k58 n2 n3 n5 n6 a1 a4
theorem kzv {h : AH} {a2 : Sl} {x2 : List Nat} {a3 : Sl} {x3 : List Nat} {a5 : Sl} {x5 : List Nat} {a6 : Sl} {x6 : List Nat} (n2 : Nats h a2 x2) (n3 : Nats h a3 x3) (n5 : Nats h a5 x5) (n6 : Nats h a6 x6) {a1 : Bool} {a4 : Bool} {r : _} (q : kbk a1 x2 x3 a4 x5 x6 = r) : Runs (go (.fn F.kjr [.agg [.bool a1, a2.v, a3.v], .agg [.bool a4, a5.v, a6.v]]) h) fun v h' => ∃ s1 : Sl, ∃ s2 : Sl, v = .tup [.agg [.bool r.1, s1.v, s2.v], .int .i64 r.2.2.2] ∧ Nats h' s1 (r.2.1) ∧ Nats h' s2 (r.2.2.1) ∧ Grow h h' ∧ Own h s1 ∧ Own h s2 := by
 subst q
 exact kps n2 n3 n5 n6 a1 a4
def kea (a1 : Bool) (x2 : List Nat) (x3 : List Nat) (a4 : Bool) (x5 : List Nat) (x6 : List Nat) : Int :=
 cond (!((kr a1 x2 x3 && kr a4 x5 x6))) (0) ((cmpI ((kc a1 x2 x3 a4 x5 x6).1) ((kc a1 x2 x3 a4 x5 x6).2) ((kc a4 x5 x6 a1 x2 x3).1) ((kc a4 x5 x6 a1 x2 x3).2)))
theorem k4g {h : AH} {a2 : Sl} {x2 : List Nat} {a3 : Sl} {x3 : List Nat} {a5 : Sl} {x5 : List Nat} {a6 : Sl} {x6 : List Nat} (n2 : Nats h a2 x2) (n3 : Nats h a3 x3) (n5 : Nats h a5 x5) (n6 : Nats h a6 x6) (a1 : Bool) (a4 : Bool) : Runs (go (.fn F.km5 [.agg [.bool a1, a2.v, a3.v], .agg [.bool a4, a5.v, a6.v]]) h) fun v h' => v = .int .i64 (kea a1 x2 x3 a4 x5 x6) ∧ Grow h h' := by
 rw [k52]
 refine Runs.new fun H7 b7 g7 => ?_
 refine Runs.new fun H8 b8 g8 => ?_
 refine Runs.step (AH.has.rd (g8.has b7) 0 rfl rfl) ?_
 refine Runs.step (AH.has.rd (g8.has b7) 1 rfl (asSl_v _)) ?_
 refine Runs.step (AH.has.rd (g8.has b7) 2 rfl (asSl_v _)) ?_
 refine Runs.step (AH.has.rd b8 0 rfl rfl) ?_
 refine Runs.step (AH.has.rd b8 1 rfl (asSl_v _)) ?_
 refine Runs.step (AH.has.rd b8 2 rfl (asSl_v _)) ?_
 refine Runs.new fun H9 b9 g9 => ?_
 have G10 := ((g7.trans g8).trans g9)
 have n2_11 := n2.grow G10
 have n3_12 := n3.grow G10
 have n5_13 := n5.grow G10
 have n6_14 := n6.grow G10
 obtain ⟨H15, e15, g15⟩ := kox b9 n2_11 n3_12 n5_13 n6_14
 refine Runs.step e15 ?_
 refine Runs.step (seen rfl) ?_
 refine Runs.cond (fun k16 => ?_) (fun k16 => ?_)
 ·have z : kea a1 x2 x3 a4 x5 x6 = 0 := by unfold kea; exact (condT k16).trans rfl
  rw [z]
  have G17 := (G10.trans g15)
  exact Runs.ret ⟨rfl, G17⟩
 ·have G17 := ((g8.trans g9).trans g15)
  have b7_18 := G17.has b7
  refine Runs.step (AH.has.rd b7_18 0 rfl rfl) ?_
  refine Runs.step (AH.has.rd b7_18 1 rfl (asSl_v _)) ?_
  refine Runs.step (AH.has.rd b7_18 2 rfl (asSl_v _)) ?_
  refine Runs.step (AH.has.rd ((g9.trans g15).has b8) 0 rfl rfl) ?_
  refine Runs.step (AH.has.rd ((g9.trans g15).has b8) 1 rfl (asSl_v _)) ?_
  refine Runs.step (AH.has.rd ((g9.trans g15).has b8) 2 rfl (asSl_v _)) ?_
  refine Runs.step (AH.has.rd ((g9.trans g15).has b8) 0 rfl rfl) ?_
  refine Runs.step (AH.has.rd ((g9.trans g15).has b8) 1 rfl (asSl_v _)) ?_
  refine Runs.step (AH.has.rd ((g9.trans g15).has b8) 2 rfl (asSl_v _)) ?_
  refine Runs.step (AH.has.rd b7_18 0 rfl rfl) ?_
  refine Runs.step (AH.has.rd b7_18 1 rfl (asSl_v _)) ?_
  refine Runs.step (AH.has.rd b7_18 2 rfl (asSl_v _)) ?_
  obtain ⟨_, H19, e19, s19, rfl, n19, g19, o19⟩ := kgy (n2_11.grow g15) (n3_12.grow g15) (n5_13.grow g15) (n6_14.grow g15) a1 a4
  refine Runs.step e19 ?_
  refine Runs.step rfl ?_
  refine Runs.ifT rfl ?_
  refine Runs.step (seenAt rfl rfl) ?_
  refine Runs.step (seenAt rfl (asSl_v _)) ?_
  refine Runs.when (g19.same b7_18 0 3) ?_
  refine Runs.when (g19.same ((g9.trans g15).has b8) 0 3) ?_
  obtain ⟨_, H20, e20, s20, rfl, n20, g20, o20⟩ := kgy (n5_13.grow (g15.trans g19)) (n6_14.grow (g15.trans g19)) (n2_11.grow (g15.trans g19)) (n3_12.grow (g15.trans g19)) a4 a1
  refine Runs.step e20 ?_
  refine Runs.step rfl ?_
  refine Runs.ifT rfl ?_
  refine Runs.step (seenAt rfl rfl) ?_
  refine Runs.step (seenAt rfl (asSl_v _)) ?_
  obtain ⟨H21, e21, g21⟩ := ku0 (n19.grow g20) n20 ((kc a1 x2 x3 a4 x5 x6).1) ((kc a4 x5 x6 a1 x2 x3).1)
  refine Runs.step e21 ?_
  refine Runs.step (seen (kb _ _)) ?_
  have z : kea a1 x2 x3 a4 x5 x6 = (cmpI ((kc a1 x2 x3 a4 x5 x6).1) ((kc a1 x2 x3 a4 x5 x6).2) ((kc a4 x5 x6 a1 x2 x3).1) ((kc a4 x5 x6 a1 x2 x3).2)) := by unfold kea; exact (condF k16).trans rfl
  rw [z]
  have G22 := ((((G10.trans g15).trans g19).trans g20).trans g21)
  exact Runs.ret ⟨rfl, G22⟩
def kem (a1 : Bool) (x2 : List Nat) (x3 : List Nat) (a4 : Bool) (x5 : List Nat) (x6 : List Nat) : Int :=
 cond (!((kr a1 x2 x3))) (0) (cond (!((kr a4 x5 x6))) (0) ((cmpI ((kc a1 x2 x3 a4 x5 x6).1) ((kc a1 x2 x3 a4 x5 x6).2) ((kc a4 x5 x6 a1 x2 x3).1) ((kc a4 x5 x6 a1 x2 x3).2))))
theorem k1s {h : AH} {a2 : Sl} {x2 : List Nat} {a3 : Sl} {x3 : List Nat} {a5 : Sl} {x5 : List Nat} {a6 : Sl} {x6 : List Nat} (n2 : Nats h a2 x2) (n3 : Nats h a3 x3) (n5 : Nats h a5 x5) (n6 : Nats h a6 x6) (a1 : Bool) (a4 : Bool) : Runs (go (.fn F.kn5 [.agg [.bool a1, a2.v, a3.v], .agg [.bool a4, a5.v, a6.v]]) h) fun v h' => v = .int .i64 (kem a1 x2 x3 a4 x5 x6) ∧ Grow h h' := by
 rw [kw5]
 refine Runs.new fun H7 b7 g7 => ?_
 refine Runs.new fun H8 b8 g8 => ?_
 refine Runs.step (AH.has.rd (g8.has b7) 0 rfl rfl) ?_
 refine Runs.step (AH.has.rd (g8.has b7) 1 rfl (asSl_v _)) ?_
 refine Runs.step (AH.has.rd (g8.has b7) 2 rfl (asSl_v _)) ?_
 obtain ⟨_, H9, e9, rfl, g9⟩ := khc (n2.grow (g7.trans g8)) (n3.grow (g7.trans g8)) a1
 refine Runs.step e9 ?_
 refine Runs.step (seen rfl) ?_
 refine Runs.step (AH.has.rd (g9.has b8) 0 rfl rfl) ?_
 refine Runs.step (AH.has.rd (g9.has b8) 1 rfl (asSl_v _)) ?_
 refine Runs.step (AH.has.rd (g9.has b8) 2 rfl (asSl_v _)) ?_
 have G10 := ((g7.trans g8).trans g9)
 have n5_11 := n5.grow G10
 have n6_12 := n6.grow G10
 obtain ⟨_, H13, e13, rfl, g13⟩ := khc n5_11 n6_12 a4
 refine Runs.step e13 ?_
 refine Runs.step (seen rfl) ?_
 refine Runs.cond (fun k14 => ?_) (fun k14 => ?_)
 ·have z : kem a1 x2 x3 a4 x5 x6 = 0 := by unfold kem; exact (condT k14).trans rfl
  rw [z]
  have G15 := (G10.trans g13)
  exact Runs.ret ⟨rfl, G15⟩
 ·refine Runs.cond (fun k15 => ?_) (fun k15 => ?_)
  ·have z : kem a1 x2 x3 a4 x5 x6 = 0 := by unfold kem; exact (condF k14).trans ((condT k15).trans rfl)
   rw [z]
   have G16 := (G10.trans g13)
   exact Runs.ret ⟨rfl, G16⟩
  ·have G16 := ((g8.trans g9).trans g13)
   have b7_17 := G16.has b7
   refine Runs.step (AH.has.rd b7_17 0 rfl rfl) ?_
   refine Runs.step (AH.has.rd b7_17 1 rfl (asSl_v _)) ?_
   refine Runs.step (AH.has.rd b7_17 2 rfl (asSl_v _)) ?_
   refine Runs.step (AH.has.rd ((g9.trans g13).has b8) 0 rfl rfl) ?_
   refine Runs.step (AH.has.rd ((g9.trans g13).has b8) 1 rfl (asSl_v _)) ?_
   refine Runs.step (AH.has.rd ((g9.trans g13).has b8) 2 rfl (asSl_v _)) ?_
   refine Runs.step (AH.has.rd ((g9.trans g13).has b8) 0 rfl rfl) ?_
   refine Runs.step (AH.has.rd ((g9.trans g13).has b8) 1 rfl (asSl_v _)) ?_
   refine Runs.step (AH.has.rd ((g9.trans g13).has b8) 2 rfl (asSl_v _)) ?_
   refine Runs.step (AH.has.rd b7_17 0 rfl rfl) ?_
   refine Runs.step (AH.has.rd b7_17 1 rfl (asSl_v _)) ?_
   refine Runs.step (AH.has.rd b7_17 2 rfl (asSl_v _)) ?_
   have G18 := (G10.trans g13)
   have n2_19 := n2.grow G18
   have n3_20 := n3.grow G18
   obtain ⟨_, H21, e21, s21, rfl, n21, g21, o21⟩ := kkh n2_19 n3_20 (n5_11.grow g13) (n6_12.grow g13) a1 a4
   refine Runs.step e21 ?_
   refine Runs.step rfl ?_
   refine Runs.ifT rfl ?_
   refine Runs.step (seenAt rfl rfl) ?_
   refine Runs.step (seenAt rfl (asSl_v _)) ?_
   refine Runs.when (g21.same b7_17 0 3) ?_
   refine Runs.when (g21.same ((g9.trans g13).has b8) 0 3) ?_
   obtain ⟨_, H22, e22, s22, rfl, n22, g22, o22⟩ := kkh (n5_11.grow (g13.trans g21)) (n6_12.grow (g13.trans g21)) (n2_19.grow g21) (n3_20.grow g21) a4 a1
   refine Runs.step e22 ?_
   refine Runs.step rfl ?_
   refine Runs.ifT rfl ?_
   refine Runs.step (seenAt rfl rfl) ?_
   refine Runs.step (seenAt rfl (asSl_v _)) ?_
   obtain ⟨H23, e23, g23⟩ := kxy (n21.grow g22) n22 ((kc a1 x2 x3 a4 x5 x6).1) ((kc a4 x5 x6 a1 x2 x3).1)
   refine Runs.step e23 ?_
   refine Runs.step (seen (kb _ _)) ?_
   have z : kem a1 x2 x3 a4 x5 x6 = (cmpI ((kc a1 x2 x3 a4 x5 x6).1) ((kc a1 x2 x3 a4 x5 x6).2) ((kc a4 x5 x6 a1 x2 x3).1) ((kc a4 x5 x6 a1 x2 x3).2)) := by unfold kem; exact (condF k14).trans ((condF k15).trans rfl)
   rw [z]
   have G24 := (((G18.trans g21).trans g22).trans g23)
   exact Runs.ret ⟨rfl, G24⟩
end Go.Ab

/- squeezed -/
set_option linter.unusedVariables false
set_option linter.unusedSimpArgs false
set_option maxRecDepth 10000
namespace Go.Ab
open Go.Proofs Go.Num
def fracM (z : Int) (d : Nat) : Bool × List Nat × List Nat × Int :=
 if z.natAbs / Nat.gcd z.natAbs d < B ^ 16 ∧ d / Nat.gcd z.natAbs d < B ^ 16 then ((intD (z / (Nat.gcd z.natAbs d : Int))).1, (intD (z / (Nat.gcd z.natAbs d : Int))).2, digs B (d / Nat.gcd z.natAbs d), 0) else (false, [], [], 4)
theorem kk3 (m : Nat) : decide ((List.length (digs B m) : Int) > 16) = !decide (m < B ^ 16) := by
 have h := ky B2 m 16
 by_cases k : m < B ^ 16
 ·have := h.2 k
  rw [decide_eq_true k, decide_eq_false_iff_not.2 (by omega)]
  rfl
 ·have : ¬ (digs B m).length ≤ 16 := fun e => k (h.1 e)
  rw [decide_eq_false k, decide_eq_true_iff.2 (by omega)]
  rfl
theorem kql {a b : Nat} (ha : a < B ^ 64) (hb : b < B ^ 64) : gcdN (digs B a) (digs B b) = (digs B (Nat.gcd a b), 0) := by
 unfold gcdN
 rw [if_pos ⟨kbh ha, kbh hb⟩, ki B2, ki B2]
theorem ks0 {a b : Nat} (ha : a < B ^ 64) (hb : b < B ^ 64) (h0 : b ≠ 0) : divN (digs B a) (digs B b) = (digs B (a / b), digs B (a % b), 0) := by
 unfold divN
 rw [if_pos ⟨kbh ha, kbh hb⟩, if_neg (fun e => h0 ((kfn B2).1 e)), ki B2, ki B2]
theorem kzq {z : Int} {g : Nat} (h0 : 0 < g) (h : g ∣ z.natAbs) : z / (g : Int) = if z < 0 then -((z.natAbs / g : Nat) : Int) else ((z.natAbs / g : Nat) : Int) := by
 obtain ⟨k, hk⟩ := h
 rw [hk, Nat.mul_div_cancel_left _ h0]
 have hg : (g : Int) ≠ 0 := by omega
 by_cases hz : z < 0
 ·rw [if_pos hz]
  have : z = (g : Int) * (-(k : Int)) := by
   rw [Int.mul_neg, ← Int.natCast_mul, ← hk]
   omega
  rw [this, Int.mul_ediv_cancel_left _ hg]
 ·rw [if_neg hz]
  have : z = (g : Int) * (k : Int) := by
   rw [← Int.natCast_mul, ← hk]
   omega
  rw [this, Int.mul_ediv_cancel_left _ hg]
theorem kkp {z : Int} {d : Nat} (hz : z.natAbs < B ^ 64) (hd : d < B ^ 64) (h0 : d ≠ 0) : kp (intD z).1 (intD z).2 (digs B d) = fracM z d := by
 unfold kp fracM
 have hg0 : 0 < Nat.gcd z.natAbs d := Nat.gcd_pos_of_pos_right _ (by omega)
 have hgd : Nat.gcd z.natAbs d ≤ d := Nat.gcd_le_right _ (by omega)
 rw [keo hz, kbh hd]
 have e2 : (intD z).2 = digs B z.natAbs := rfl
 have hq1 : z.natAbs / Nat.gcd z.natAbs d < B ^ 64 := Nat.lt_of_le_of_lt (Nat.div_le_self _ _) hz
 have hq2 : d / Nat.gcd z.natAbs d < B ^ 64 := Nat.lt_of_le_of_lt (Nat.div_le_self _ _) hd
 rw [e2, kql hz hd]
 have hgb : Nat.gcd z.natAbs d < B ^ 64 := by omega
 simp only [Bool.not_true, cond_false]
 rw [ks0 hz hgb (by omega), ks0 hd hgb (by omega), ks7, decide_eq_false (fun e => h0 ((kfn B2).1 e)), cond_false]
 dsimp only
 have k : ∀ u v : Int, decide (imax u v > 16) = (decide (u > 16) || decide (v > 16)) := by
  intro u v
  rw [kof, Bool.eq_iff_iff]
  simp only [Bool.or_eq_true, decide_eq_true_eq]
  omega
 rw [k, kk3, kk3, kff hq1, kzq hg0 (Nat.gcd_dvd_left _ _)]
 have s : (intD z).1 = decide (z < 0) := rfl
 rw [s]
 simp only [decide_eq_true_eq]
 generalize (if z < 0 then -((z.natAbs / Nat.gcd z.natAbs d : Nat) : Int) else ((z.natAbs / Nat.gcd z.natAbs d : Nat) : Int)) = y
 by_cases c1 : z.natAbs / Nat.gcd z.natAbs d < B ^ 16
 ·by_cases c2 : d / Nat.gcd z.natAbs d < B ^ 16
  ·rw [if_pos ⟨c1, c2⟩, decide_eq_true c1, decide_eq_true c2]
   rfl
  ·rw [if_neg (fun h => c2 h.2), decide_eq_false c2, decide_eq_true c1]
   rfl
 ·rw [if_neg (fun h => c1 h.1), decide_eq_false c1]
  rfl
structure IsFrac (p : Bool) (xs ys : List Nat) (z : Int) (d : Nat) : Prop where
 p : p = (intD z).1
 xs : xs = (intD z).2
 ys : ys = digs B d
 pos : 0 < d
 zlt : z.natAbs < B ^ 16
 dlt : d < B ^ 16
 co : Nat.gcd z.natAbs d = 1
theorem krc {z : Int} {d : Nat} (hz : z.natAbs < B ^ 64) (hd : d < B ^ 64) : kr (intD z).1 (intD z).2 (digs B d) = decide (0 < d ∧ z.natAbs < B ^ 16 ∧ d < B ^ 16 ∧ Nat.gcd z.natAbs d = 1) := by
 unfold kr
 rw [keo hz, kbh hd]
 have e2 : (intD z).2 = digs B z.natAbs := rfl
 rw [e2, kql hz hd, ks7, kk3, kk3]
 simp only [Bool.not_true, cond_false]
 by_cases c0 : d = 0
 ·subst c0
  rw [kb2]
  simp
 ·rw [decide_eq_false (fun e => c0 ((kfn B2).1 e)), cond_false]
  by_cases c2 : d < B ^ 16
  ·rw [decide_eq_true c2]
   by_cases c1 : z.natAbs < B ^ 16
   ·rw [decide_eq_true c1]
    simp only [Bool.not_true, cond_false]
    have hg : Nat.gcd z.natAbs d < B ^ 64 := by
     have := Nat.gcd_le_right z.natAbs (n := d) (by omega)
     omega
    unfold cmpN
    rw [if_pos ⟨kbh hg, by decide +kernel⟩, ki B2]
    rw [show num B [1] = 1 from by decide +kernel]
    unfold cmp
    by_cases h1 : Nat.gcd z.natAbs d < 1
    ·rw [if_pos h1, decide_eq_false (by decide), decide_eq_false]
     intro h
     omega
    ·rw [if_neg h1]
     by_cases h2 : Nat.gcd z.natAbs d = 1
     ·rw [if_pos h2, decide_eq_true rfl, decide_eq_true]
      exact ⟨by omega, c1, c2, h2⟩
     ·rw [if_neg h2, decide_eq_false (by decide), decide_eq_false]
      exact fun h => h2 h.2.2.2
   ·rw [decide_eq_false c1]
    simp only [Bool.not_true, cond_false, Bool.not_false, cond_true]
    symm
    rw [decide_eq_false_iff_not]
    exact fun h => c1 h.2.1
  ·rw [decide_eq_false c2]
   simp only [Bool.not_false, cond_true]
   symm
   rw [decide_eq_false_iff_not]
   exact fun h => c2 h.2.2.1
theorem ke9 {n : Nat} (h : n < B ^ 16) : n < B ^ 64 := Nat.lt_of_lt_of_le h (Nat.pow_le_pow_right (by decide) (by decide))
theorem IsFrac.right {p : Bool} {xs ys : List Nat} {z : Int} {d : Nat} (f : IsFrac p xs ys z d) : kr p xs ys = true := by
 obtain ⟨rfl, rfl, rfl, h0, h1, h2, h3⟩ := f
 rw [krc (ke9 h1) (ke9 h2), decide_eq_true_eq]
 exact ⟨h0, h1, h2, h3⟩
theorem IsFrac.of {p : Bool} {xs ys : List Nat} (lx : ∀ x ∈ xs, x < B) (ly : ∀ x ∈ ys, x < B) (h : kr p xs ys = true) : ∃ (z : Int) (d : Nat), IsFrac p xs ys z d := by
 have h1 : rtI p xs = true := by
  cases e : rtI p xs with
  | true => rfl
  | false =>
   unfold kr at h
   rw [e] at h
   cases h
 have h2 : rt ys = true := by
  cases e : rt ys with
  | true => rfl
  | false =>
   unfold kr at h
   rw [e, h1] at h
   cases h
 obtain ⟨z, rfl, rfl, hz⟩ := of_rtI lx h1
 have hd := kg5 ly h2
 have e : ys = digs B (num B ys) := (kdr B2 ly (rt_iff.1 h2).2).symm
 rw [e, krc hz hd, decide_eq_true_eq] at h
 exact ⟨z, num B ys, rfl, rfl, e, h.1, h.2.1, h.2.2.1, h.2.2.2⟩
theorem mul16 {a b : Nat} (ha : a < B ^ 16) (hb : b < B ^ 16) : a * b < B ^ 16 * B ^ 16 := Nat.mul_lt_mul'' ha hb
theorem B32_64 : B ^ 16 * B ^ 16 * 2 ≤ B ^ 64 := by decide +kernel
theorem klz {p q : Bool} {xs ys us vs : List Nat} {z w : Int} {d e : Nat} (f : IsFrac p xs ys z d) (k : IsFrac q us vs w e) : kc p xs ys q us vs = intD (z * (e : Int)) ∧ (z * (e : Int)).natAbs < B ^ 16 * B ^ 16 := by
 have hb : (z * (e : Int)).natAbs < B ^ 16 * B ^ 16 := by
  rw [Int.natAbs_mul, Int.natAbs_natCast]
  exact mul16 f.zlt k.dlt
 refine ⟨?_, hb⟩
 unfold kc
 rw [k.ys, kff (ke9 k.dlt), f.p, f.xs]
 simp only [Bool.false_eq_true, if_false]
 have h64 := B32_64
 rw [kn6 (ke9 f.zlt) (by simpa using ke9 k.dlt), if_pos (by omega)]
theorem kuk {d e : Nat} (hd : d < B ^ 16) (he : e < B ^ 16) : mulN (digs B d) (digs B e) = (digs B (d * e), 0) := by
 unfold mulN
 rw [if_pos ⟨kbh (ke9 hd), kbh (ke9 he)⟩, ki B2, ki B2, km7]
 have := mul16 hd he
 have := B32_64
 omega
theorem Add_of {p q : Bool} {xs ys us vs : List Nat} {z w : Int} {d e : Nat} (f : IsFrac p xs ys z d) (k : IsFrac q us vs w e) : kcc p xs ys q us vs = fracM (z * (e : Int) + w * (d : Int)) (d * e) := by
 unfold kcc kbu
 rw [f.right, k.right]
 obtain ⟨o1, b1⟩ := klz f k
 obtain ⟨o2, b2⟩ := klz k f
 have h64 := B32_64
 rw [o1, o2, kqd (by omega) (by omega), if_pos (by omega)]
 dsimp only [Bool.and_self, Bool.not_true, cond_false]
 have hb := mul16 f.dlt k.dlt
 have hp := Nat.mul_pos f.pos k.pos
 rw [f.ys, k.ys, kuk f.dlt k.dlt]
 dsimp only
 rw [kkp (by omega) (by omega) (by omega)]
 generalize fracM _ _ = r
 obtain ⟨r1, r2, r3, r4⟩ := r
 rfl
theorem Sub_of {p q : Bool} {xs ys us vs : List Nat} {z w : Int} {d e : Nat} (f : IsFrac p xs ys z d) (k : IsFrac q us vs w e) : kcf p xs ys q us vs = fracM (z * (e : Int) - w * (d : Int)) (d * e) := by
 unfold kcf kbs
 rw [f.right, k.right]
 obtain ⟨o1, b1⟩ := klz f k
 obtain ⟨o2, b2⟩ := klz k f
 have h64 := B32_64
 rw [o1, o2, k6o (by omega) (by omega), if_pos (by omega)]
 dsimp only [Bool.and_self, Bool.not_true, cond_false]
 have hb := mul16 f.dlt k.dlt
 have hp := Nat.mul_pos f.pos k.pos
 rw [f.ys, k.ys, kuk f.dlt k.dlt]
 dsimp only
 rw [kkp (by omega) (by omega) (by omega)]
 generalize fracM _ _ = r
 obtain ⟨r1, r2, r3, r4⟩ := r
 rfl
theorem krl : kbk = kcc := by
 funext p xs ys q us vs
 unfold kbk kcc kbu
 cases kr p xs ys <;> cases kr q us vs <;> rfl
theorem kxk : kem = kea := by
 funext p xs ys q us vs
 unfold kem kea
 cases kr p xs ys <;> cases kr q us vs <;> rfl
theorem IsFrac.neg {q : Bool} {us vs : List Nat} {w : Int} {e : Nat} (k : IsFrac q us vs w e) : IsFrac (negI q us).1 (negI q us).2 vs (-w) e := by
 have := ksp (ke9 k.zlt)
 rw [k.p, k.xs, this]
 exact ⟨rfl, rfl, k.ys, k.pos, by rw [Int.natAbs_neg]; exact k.zlt, k.dlt, by rw [Int.natAbs_neg]; exact k.co⟩
theorem k5x {p q : Bool} {xs ys us vs : List Nat} (lx : ∀ x ∈ xs, x < B) (ly : ∀ x ∈ ys, x < B) (lu : ∀ x ∈ us, x < B) (lv : ∀ x ∈ vs, x < B) : kb6 p xs ys q us vs = kcf p xs ys q us vs := by
 cases h1 : kr p xs ys with
 | false =>
  unfold kb6 kcf kbs
  rw [h1]
  rfl
 | true =>
  cases h2 : kr q us vs with
  | false =>
   unfold kb6 kcf kbs
   rw [h1, h2]
   rfl
  | true =>
   obtain ⟨z, d, f⟩ := IsFrac.of lx ly h1
   obtain ⟨w, e, k⟩ := IsFrac.of lu lv h2
   rw [Sub_of f k]
   unfold kb6
   rw [h1, h2, krl, Add_of f k.neg, Int.neg_mul, ← Int.sub_eq_add_neg]
   rfl
end Go.Ab

/- squeezed -/
set_option linter.unusedVariables false
set_option linter.unusedSimpArgs false
set_option maxRecDepth 10000
namespace Go.Ab
open Go.Proofs Go.Num
theorem kz6 {z : Int} {d : Nat} (hd : 0 < d) (h : (fracM z d).2.2.2 = 0) : ∃ (w : Int) (e : Nat), fracM z d = ((intD w).1, (intD w).2, digs B e, 0) ∧ IsFrac (fracM z d).1 (fracM z d).2.1 (fracM z d).2.2.1 w e ∧ w * (d : Int) = z * (e : Int) ∧ ∃ g : Nat, 0 < g ∧ z = w * (g : Int) ∧ d = g * e := by
 unfold fracM at h ⊢
 have hg0 : 0 < Nat.gcd z.natAbs d := Nat.gcd_pos_of_pos_right _ hd
 by_cases c : z.natAbs / Nat.gcd z.natAbs d < B ^ 16 ∧ d / Nat.gcd z.natAbs d < B ^ 16
 ·rw [if_pos c]
  obtain ⟨a, ha⟩ := Nat.gcd_dvd_left z.natAbs d
  obtain ⟨b, hb⟩ := Nat.gcd_dvd_right z.natAbs d
  have hz : z / (Nat.gcd z.natAbs d : Int) * (Nat.gcd z.natAbs d : Int) = z := Int.ediv_mul_cancel (Int.ofNat_dvd_left.2 (Nat.gcd_dvd_left _ _))
  have hq1 : z.natAbs / Nat.gcd z.natAbs d = a := by
   have := Nat.mul_div_cancel_left a hg0
   rwa [← ha] at this
  have hq2 : d / Nat.gcd z.natAbs d = b := by
   have := Nat.mul_div_cancel_left b hg0
   rwa [← hb] at this
  rw [hq1, hq2] at c
  rw [hq2]
  have hw : (z / (Nat.gcd z.natAbs d : Int)).natAbs = a := by
   have h5 : (z / (Nat.gcd z.natAbs d : Int)).natAbs * Nat.gcd z.natAbs d = Nat.gcd z.natAbs d * a := by
    have := congrArg Int.natAbs hz
    rw [Int.natAbs_mul, Int.natAbs_natCast] at this
    rw [this]
    exact ha
   rw [Nat.mul_comm] at h5
   exact Nat.eq_of_mul_eq_mul_left hg0 h5
  generalize z / (Nat.gcd z.natAbs d : Int) = w at *
  have hb0 : 0 < b := by
   rcases Nat.eq_zero_or_pos b with e | e
   ·subst e
    omega
   ·exact e
  have co : Nat.gcd a b = 1 := by
   have h6 : Nat.gcd z.natAbs d = Nat.gcd a b * Nat.gcd z.natAbs d := by
    have := Nat.gcd_mul_left (Nat.gcd z.natAbs d) a b
    rw [← ha, ← hb] at this
    rw [Nat.mul_comm]
    exact this
   have : 1 * Nat.gcd z.natAbs d = Nat.gcd a b * Nat.gcd z.natAbs d := by rw [Nat.one_mul]; exact h6
   exact (Nat.eq_of_mul_eq_mul_right hg0 this).symm
  refine ⟨w, b, rfl, ⟨rfl, rfl, rfl, hb0, by rw [hw]; exact c.1, c.2, by rw [hw]; exact co⟩, ?_, Nat.gcd z.natAbs d, hg0, hz.symm, hb⟩
  have e1 : (d : Int) = (Nat.gcd z.natAbs d : Int) * (b : Int) := by rw [← Int.natCast_mul, ← hb]
  rw [e1, ← Int.mul_assoc, hz]
 ·rw [if_neg c] at h
  cases h
theorem Add_no {p q : Bool} {xs ys us vs : List Nat} (h : (kr p xs ys && kr q us vs) = false) : kcc p xs ys q us vs = (false, [], [], 1) := by
 unfold kcc kbu
 rw [h]
 rfl
theorem k62 {p q : Bool} {xs ys us vs : List Nat} (lx : ∀ x ∈ xs, x < B) (ly : ∀ x ∈ ys, x < B) (lu : ∀ x ∈ us, x < B) (lv : ∀ x ∈ vs, x < B) (h : (kr p xs ys && kr q us vs) = true) :
  ∃ (z : Int) (d : Nat) (w : Int) (e : Nat), IsFrac p xs ys z d ∧ IsFrac q us vs w e := by
 rw [Bool.and_eq_true] at h
 obtain ⟨z, d, f⟩ := IsFrac.of lx ly h.1
 obtain ⟨w, e, k⟩ := IsFrac.of lu lv h.2
 exact ⟨z, d, w, e, f, k⟩
end Go.Ab

/- squeezed -/
set_option linter.unusedVariables false
set_option linter.unusedSimpArgs false
set_option maxRecDepth 10000
namespace Go.Ab
open Go.Proofs Go.Num
end Go.Ab

/- squeezed -/
set_option linter.unusedVariables false
set_option linter.unusedSimpArgs false
set_option maxRecDepth 10000
namespace Go.Ab
open Go.Proofs Go.Num
end Go.Ab

/- squeezed -/
set_option linter.unusedVariables false
set_option linter.unusedSimpArgs false
set_option maxRecDepth 10000
namespace Go.Ab
open Go.Proofs Go.Num
end Go.Ab

/- squeezed -/
set_option linter.unusedVariables false
set_option linter.unusedSimpArgs false
set_option maxRecDepth 10000
namespace Go.Ab
open Go.Proofs Go.Num
end Go.Ab

/- squeezed -/
set_option linter.unusedVariables false
set_option linter.unusedSimpArgs false
set_option maxRecDepth 10000
namespace Go.Ab
open Go.Proofs Go.Num
end Go.Ab

/- squeezed -/
set_option linter.unusedVariables false
set_option linter.unusedSimpArgs false
set_option maxRecDepth 10000
namespace Go.Ab
open Go.Proofs Go.Num
def kw (a1 : Int) (a2 : Int) : Bool :=
 cond (decide (a1 ≥ (-1099511627776))) (cond (decide (a1 ≤ 1099511627776)) (cond (decide (a2 ≥ 0)) (decide (a2 ≤ 1048576)) (false)) (false)) (false)
theorem kit {h : AH}   (a1 : Int) (a2 : Int) : Runs (go (.fn F.kfp [.agg [.int .i64 a1, .int .i64 a2]]) h) fun v h' => v = .bool (kw a1 a2) ∧ Grow h h' := by
 rw [kyt]
 refine Runs.new fun H3 b3 g3 => ?_
 refine Runs.step (AH.has.rd b3 0 rfl (kb _ _)) ?_
 refine Runs.cond (fun k4 => ?_) (fun k4 => ?_)
 ·refine Runs.step (AH.has.rd b3 0 rfl (kb _ _)) ?_
  refine Runs.cond (fun k5 => ?_) (fun k5 => ?_)
  ·refine Runs.step (AH.has.rd b3 1 rfl (kb _ _)) ?_
   refine Runs.cond (fun k6 => ?_) (fun k6 => ?_)
   ·refine Runs.step (AH.has.rd b3 1 rfl (kb _ _)) ?_
    have z : kw a1 a2 = decide (a2 ≤ 1048576) := by unfold kw; exact (condT k4).trans ((condT k5).trans ((condT k6).trans rfl))
    rw [z]
    exact Runs.ret ⟨rfl, g3⟩
   ·have z : kw a1 a2 = false := by unfold kw; exact (condT k4).trans ((condT k5).trans ((condF k6).trans rfl))
    rw [z]
    exact Runs.ret ⟨rfl, g3⟩
  ·have z : kw a1 a2 = false := by unfold kw; exact (condT k4).trans ((condF k5).trans rfl)
   rw [z]
   exact Runs.ret ⟨rfl, g3⟩
 ·have z : kw a1 a2 = false := by unfold kw; exact (condF k4).trans rfl
  rw [z]
  exact Runs.ret ⟨rfl, g3⟩
def kdt (a1 : Int) (a2 : Int) : Bool :=
 cond (decide (a1 ≥ (-1099511627776))) (cond (decide (a1 ≤ 1099511627776)) (cond (decide (a2 ≥ 0)) (decide (a2 ≤ 1048576)) (false)) (false)) (false)
theorem kxv {h : AH}   (a1 : Int) (a2 : Int) : Runs (go (.fn F.ke1 [.agg [.int .i64 a1, .int .i64 a2]]) h) fun v h' => v = .bool (kdt a1 a2) ∧ Grow h h' := by
 rw [kyb]
 refine Runs.new fun H3 b3 g3 => ?_
 refine Runs.step (AH.has.rd b3 0 rfl (kb _ _)) ?_
 refine Runs.cond (fun k4 => ?_) (fun k4 => ?_)
 ·refine Runs.step (AH.has.rd b3 0 rfl (kb _ _)) ?_
  refine Runs.cond (fun k5 => ?_) (fun k5 => ?_)
  ·refine Runs.step (AH.has.rd b3 1 rfl (kb _ _)) ?_
   refine Runs.cond (fun k6 => ?_) (fun k6 => ?_)
   ·refine Runs.step (AH.has.rd b3 1 rfl (kb _ _)) ?_
    have z : kdt a1 a2 = decide (a2 ≤ 1048576) := by unfold kdt; exact (condT k4).trans ((condT k5).trans ((condT k6).trans rfl))
    rw [z]
    exact Runs.ret ⟨rfl, g3⟩
   ·have z : kdt a1 a2 = false := by unfold kdt; exact (condT k4).trans ((condT k5).trans ((condF k6).trans rfl))
    rw [z]
    exact Runs.ret ⟨rfl, g3⟩
  ·have z : kdt a1 a2 = false := by unfold kdt; exact (condT k4).trans ((condF k5).trans rfl)
   rw [z]
   exact Runs.ret ⟨rfl, g3⟩
 ·have z : kdt a1 a2 = false := by unfold kdt; exact (condF k4).trans rfl
  rw [z]
  exact Runs.ret ⟨rfl, g3⟩
def kba (a1 : Int) : Bool :=
 cond (decide (a1 ≥ 1)) (decide (a1 ≤ 1048576)) (false)
theorem kms {h : AH}   (a1 : Int) : Runs (go (.fn F.kiq [.int .i64 a1]) h) fun v h' => v = .bool (kba a1) ∧ Grow h h' := by
 rw [k35]
 refine Runs.cond (fun k2 => ?_) (fun k2 => ?_)
 ·have z : kba a1 = decide (a1 ≤ 1048576) := by unfold kba; exact (condT k2).trans rfl
  rw [z]
  exact Runs.ret ⟨rfl, (Grow.refl _)⟩
 ·have z : kba a1 = false := by unfold kba; exact (condF k2).trans rfl
  rw [z]
  exact Runs.ret ⟨rfl, (Grow.refl _)⟩
def kq (a1 : Int) (a2 : Int) (a3 : Int) (a4 : Int) : Int × Int × Bool :=
 cond (!((kw a1 a2))) ((0, 0, false)) (cond (!((kw a3 a4))) ((0, 0, false)) ((((IntKind.wrap .i64 (a3 - a1))), ((IntKind.wrap .i64 (a4 - a2))), ((kw (IntKind.wrap .i64 (a3 - a1)) (IntKind.wrap .i64 (a4 - a2)))))))
theorem k0t {h : AH}   (a1 : Int) (a2 : Int) (a3 : Int) (a4 : Int) : Runs (go (.fn F.kn9 [.agg [.int .i64 a1, .int .i64 a2], .agg [.int .i64 a3, .int .i64 a4]]) h) fun v h' => v = .tup [.agg [.int .i64 (kq a1 a2 a3 a4).1, .int .i64 (kq a1 a2 a3 a4).2.1], .bool (kq a1 a2 a3 a4).2.2] ∧ Grow h h' := by
 rw [ku8]
 refine Runs.new fun H5 b5 g5 => ?_
 refine Runs.new fun H6 b6 g6 => ?_
 refine Runs.new fun H7 b7 g7 => ?_
 refine Runs.step (AH.has.rd ((g6.trans g7).has b5) 0 rfl (kb _ _)) ?_
 refine Runs.step (AH.has.rd ((g6.trans g7).has b5) 1 rfl (kb _ _)) ?_
 obtain ⟨_, H8, e8, rfl, g8⟩ := kit a1 a2
 refine Runs.step e8 ?_
 refine Runs.step (seen rfl) ?_
 refine Runs.cond (fun k9 => ?_) (fun k9 => ?_)
 ·refine Runs.puts (g8.has b7) rfl fun H10 b10 u10 => ?_
  refine Runs.step (AH.has.rd b10 0 rfl (kb _ _)) ?_
  refine Runs.step (AH.has.rd b10 1 rfl (kb _ _)) ?_
  have z : kq a1 a2 a3 a4 = (0, 0, false) := by unfold kq; exact (condT k9).trans rfl
  rw [z]
  have G11 := ((((g5.trans g6).trans g7).trans g8).updr (Nat.le_trans ((g5.trans g6)).size (Nat.le_refl _)) u10)
  exact Runs.ret ⟨rfl, G11⟩
 ·refine Runs.step (AH.has.rd ((g7.trans g8).has b6) 0 rfl (kb _ _)) ?_
  refine Runs.step (AH.has.rd ((g7.trans g8).has b6) 1 rfl (kb _ _)) ?_
  obtain ⟨_, H10, e10, rfl, g10⟩ := kit a3 a4
  refine Runs.step e10 ?_
  refine Runs.step (seen rfl) ?_
  refine Runs.cond (fun k11 => ?_) (fun k11 => ?_)
  ·refine Runs.puts ((g8.trans g10).has b7) rfl fun H12 b12 u12 => ?_
   refine Runs.step (AH.has.rd b12 0 rfl (kb _ _)) ?_
   refine Runs.step (AH.has.rd b12 1 rfl (kb _ _)) ?_
   have z : kq a1 a2 a3 a4 = (0, 0, false) := by unfold kq; exact (condF k9).trans ((condT k11).trans rfl)
   rw [z]
   have G13 := (((((g5.trans g6).trans g7).trans g8).trans g10).updr (Nat.le_trans ((g5.trans g6)).size (Nat.le_refl _)) u12)
   exact Runs.ret ⟨rfl, G13⟩
  ·have G12 := ((g7.trans g8).trans g10)
   have b6_13 := G12.has b6
   refine Runs.step (AH.has.rd b6_13 0 rfl (kb _ _)) ?_
   have G14 := (((g6.trans g7).trans g8).trans g10)
   have b5_15 := G14.has b5
   refine Runs.step (AH.has.rd b5_15 0 rfl (kb _ _)) ?_
   refine Runs.step (AH.has.rd b6_13 1 rfl (kb _ _)) ?_
   refine Runs.step (AH.has.rd b5_15 1 rfl (kb _ _)) ?_
   refine Runs.new fun H16 b16 g16 => ?_
   refine Runs.puts b16 rfl fun H17 b17 u17 => ?_
   refine Runs.step (AH.has.rd b17 0 rfl (kb _ _)) ?_
   refine Runs.step (AH.has.rd b17 1 rfl (kb _ _)) ?_
   refine Runs.step (AH.has.rd b17 0 rfl (kb _ _)) ?_
   refine Runs.step (AH.has.rd b17 1 rfl (kb _ _)) ?_
   obtain ⟨_, H18, e18, rfl, g18⟩ := kit (IntKind.wrap .i64 (a3 - a1)) (IntKind.wrap .i64 (a4 - a2))
   refine Runs.step e18 ?_
   refine Runs.step (seen rfl) ?_
   refine Runs.when (g18.same b17 0 2) ?_
   have G20 := ((((g8.trans g10).trans g16).updr (Nat.le_trans ((g8.trans g10)).size (Nat.le_refl _)) u17).trans g18)
   have b7_21 := G20.has b7
   refine Runs.puts b7_21 rfl fun H19 b19 u19 => ?_
   have G22 := ((g16.updr (Nat.le_refl _) u17).trans g18)
   have b5_23 := G22.has b5_15
   have b5_19 := AH.has.updr b5_23 (Nat.ne_of_lt (Nat.lt_of_lt_of_le (g6.has b5).lt (Nat.le_refl _))) u19
   have b6_24 := G22.has b6_13
   have b6_19 := AH.has.updr b6_24 (Nat.ne_of_lt (Nat.lt_of_lt_of_le (b6).lt (Nat.le_refl _))) u19
   have b17_19 := AH.has.updr (g18.has b17) (Nat.ne_of_gt (Nat.lt_of_lt_of_le ((g8.trans g10).has b7).lt (Nat.le_refl _))) u19
   refine Runs.step (AH.has.rd b19 0 rfl (kb _ _)) ?_
   refine Runs.step (AH.has.rd b19 1 rfl (kb _ _)) ?_
   have z : kq a1 a2 a3 a4 = (((IntKind.wrap .i64 (a3 - a1))), ((IntKind.wrap .i64 (a4 - a2))), ((kw (IntKind.wrap .i64 (a3 - a1)) (IntKind.wrap .i64 (a4 - a2))))) := by unfold kq; exact (condF k9).trans ((condF k11).trans rfl)
   rw [z]
   have G25 := ((((g5.trans g6).trans g7).trans g8).trans g10)
   have G26 := ((((((((g5.trans g6).trans g7).trans g8).trans g10).trans g16).updr (Nat.le_trans (G25).size (Nat.le_refl _)) u17).trans g18).updr (Nat.le_trans ((g5.trans g6)).size (Nat.le_refl _)) u19)
   exact Runs.ret ⟨rfl, G26⟩
theorem k1n : kdt = kw := rfl
theorem ki4 {h : AH}   (a1 : Int) (a2 : Int) : Runs (go (.fn F.ke1 [.agg [.int .i64 a1, .int .i64 a2]]) h) fun v h' => v = .bool (kw a1 a2) ∧ Grow h h' := by
 rw [← k1n]
 exact kxv a1 a2
def kdv (a1 : Int) (a2 : Int) (a3 : Int) (a4 : Int) : Int × Int × Bool :=
 cond (!((kw a1 a2))) ((0, 0, false)) (cond (!((kw a3 a4))) ((0, 0, false)) ((((IntKind.wrap .i64 (a3 - a1))), ((IntKind.wrap .i64 (a4 - a2))), ((kw (IntKind.wrap .i64 (a3 - a1)) (IntKind.wrap .i64 (a4 - a2)))))))
theorem kzs {h : AH}   (a1 : Int) (a2 : Int) (a3 : Int) (a4 : Int) : Runs (go (.fn F.kjq [.agg [.int .i64 a1, .int .i64 a2], .agg [.int .i64 a3, .int .i64 a4]]) h) fun v h' => v = .tup [.agg [.int .i64 (kdv a1 a2 a3 a4).1, .int .i64 (kdv a1 a2 a3 a4).2.1], .bool (kdv a1 a2 a3 a4).2.2] ∧ Grow h h' := by
 rw [kzc]
 refine Runs.new fun H5 b5 g5 => ?_
 refine Runs.new fun H6 b6 g6 => ?_
 refine Runs.new fun H7 b7 g7 => ?_
 refine Runs.step (AH.has.rd ((g6.trans g7).has b5) 0 rfl (kb _ _)) ?_
 refine Runs.step (AH.has.rd ((g6.trans g7).has b5) 1 rfl (kb _ _)) ?_
 obtain ⟨_, H8, e8, rfl, g8⟩ := ki4 a1 a2
 refine Runs.step e8 ?_
 refine Runs.step (seen rfl) ?_
 refine Runs.step (AH.has.rd ((g7.trans g8).has b6) 0 rfl (kb _ _)) ?_
 refine Runs.step (AH.has.rd ((g7.trans g8).has b6) 1 rfl (kb _ _)) ?_
 obtain ⟨_, H9, e9, rfl, g9⟩ := ki4 a3 a4
 refine Runs.step e9 ?_
 refine Runs.step (seen rfl) ?_
 refine Runs.cond (fun k10 => ?_) (fun k10 => ?_)
 ·refine Runs.puts ((g8.trans g9).has b7) rfl fun H11 b11 u11 => ?_
  refine Runs.step (AH.has.rd b11 0 rfl (kb _ _)) ?_
  refine Runs.step (AH.has.rd b11 1 rfl (kb _ _)) ?_
  have z : kdv a1 a2 a3 a4 = (0, 0, false) := by unfold kdv; exact (condT k10).trans rfl
  rw [z]
  have G12 := (((((g5.trans g6).trans g7).trans g8).trans g9).updr (Nat.le_trans ((g5.trans g6)).size (Nat.le_refl _)) u11)
  exact Runs.ret ⟨rfl, G12⟩
 ·refine Runs.cond (fun k11 => ?_) (fun k11 => ?_)
  ·refine Runs.puts ((g8.trans g9).has b7) rfl fun H12 b12 u12 => ?_
   refine Runs.step (AH.has.rd b12 0 rfl (kb _ _)) ?_
   refine Runs.step (AH.has.rd b12 1 rfl (kb _ _)) ?_
   have z : kdv a1 a2 a3 a4 = (0, 0, false) := by unfold kdv; exact (condF k10).trans ((condT k11).trans rfl)
   rw [z]
   have G13 := (((((g5.trans g6).trans g7).trans g8).trans g9).updr (Nat.le_trans ((g5.trans g6)).size (Nat.le_refl _)) u12)
   exact Runs.ret ⟨rfl, G13⟩
  ·have G12 := ((g7.trans g8).trans g9)
   have b6_13 := G12.has b6
   refine Runs.step (AH.has.rd b6_13 0 rfl (kb _ _)) ?_
   have G14 := (((g6.trans g7).trans g8).trans g9)
   have b5_15 := G14.has b5
   refine Runs.step (AH.has.rd b5_15 0 rfl (kb _ _)) ?_
   refine Runs.step (AH.has.rd b6_13 1 rfl (kb _ _)) ?_
   refine Runs.step (AH.has.rd b5_15 1 rfl (kb _ _)) ?_
   refine Runs.new fun H16 b16 g16 => ?_
   refine Runs.puts b16 rfl fun H17 b17 u17 => ?_
   refine Runs.step (AH.has.rd b17 0 rfl (kb _ _)) ?_
   refine Runs.step (AH.has.rd b17 1 rfl (kb _ _)) ?_
   refine Runs.step (AH.has.rd b17 0 rfl (kb _ _)) ?_
   refine Runs.step (AH.has.rd b17 1 rfl (kb _ _)) ?_
   obtain ⟨_, H18, e18, rfl, g18⟩ := ki4 (IntKind.wrap .i64 (a3 - a1)) (IntKind.wrap .i64 (a4 - a2))
   refine Runs.step e18 ?_
   refine Runs.step (seen rfl) ?_
   refine Runs.when (g18.same b17 0 2) ?_
   have G20 := ((((g8.trans g9).trans g16).updr (Nat.le_trans ((g8.trans g9)).size (Nat.le_refl _)) u17).trans g18)
   have b7_21 := G20.has b7
   refine Runs.puts b7_21 rfl fun H19 b19 u19 => ?_
   have G22 := ((g16.updr (Nat.le_refl _) u17).trans g18)
   have b5_23 := G22.has b5_15
   have b5_19 := AH.has.updr b5_23 (Nat.ne_of_lt (Nat.lt_of_lt_of_le (g6.has b5).lt (Nat.le_refl _))) u19
   have b6_24 := G22.has b6_13
   have b6_19 := AH.has.updr b6_24 (Nat.ne_of_lt (Nat.lt_of_lt_of_le (b6).lt (Nat.le_refl _))) u19
   have b17_19 := AH.has.updr (g18.has b17) (Nat.ne_of_gt (Nat.lt_of_lt_of_le ((g8.trans g9).has b7).lt (Nat.le_refl _))) u19
   refine Runs.step (AH.has.rd b19 0 rfl (kb _ _)) ?_
   refine Runs.step (AH.has.rd b19 1 rfl (kb _ _)) ?_
   have z : kdv a1 a2 a3 a4 = (((IntKind.wrap .i64 (a3 - a1))), ((IntKind.wrap .i64 (a4 - a2))), ((kw (IntKind.wrap .i64 (a3 - a1)) (IntKind.wrap .i64 (a4 - a2))))) := by unfold kdv; exact (condF k10).trans ((condF k11).trans rfl)
   rw [z]
   have G25 := ((((g5.trans g6).trans g7).trans g8).trans g9)
   have G26 := ((((((((g5.trans g6).trans g7).trans g8).trans g9).trans g16).updr (Nat.le_trans (G25).size (Nat.le_refl _)) u17).trans g18).updr (Nat.le_trans ((g5.trans g6)).size (Nat.le_refl _)) u19)
   exact Runs.ret ⟨rfl, G26⟩
theorem k3g : kdv = kq := rfl
theorem kur {h : AH}   (a1 : Int) (a2 : Int) (a3 : Int) (a4 : Int) : Runs (go (.fn F.kjq [.agg [.int .i64 a1, .int .i64 a2], .agg [.int .i64 a3, .int .i64 a4]]) h) fun v h' => v = .tup [.agg [.int .i64 (kq a1 a2 a3 a4).1, .int .i64 (kq a1 a2 a3 a4).2.1], .bool (kq a1 a2 a3 a4).2.2] ∧ Grow h h' := by
 rw [← k3g]
 exact kzs a1 a2 a3 a4
inductive kg8
 | fn (a1 : Int) (a2 : Int) (a3 : Int)
 | no
abbrev kfo := Bool × List Nat × List Nat × Int
noncomputable def kjw (a1 : Int) (a2 : Int) (a3 : Int) : Option (kg8 ⊕ kfo) :=
 cond (!((kw a2 a3))) (some (.inr (false, [], [], 1))) (cond (!((kba a1))) (some (.inr (false, [], [], 1))) ((need (-9223372036854775808 ≤ (a2 : Int) ∧ (a2 : Int) ≤ 9223372036854775807)).bind fun c12_0 => (u64P (IntKind.wrap .u64 (IntKind.wrap .i64 (a3 + a1)))).bind fun p21 => some (.inr ((((kp (((kv (((ofI a2).1)) ((ofI a2).2) (((ofI a2).1)) ((ofI a2).2)).1)) ((kv (((ofI a2).1)) ((ofI a2).2) (((ofI a2).1)) ((ofI a2).2)).2.1) (digs B p21)).1)), (kp (((kv (((ofI a2).1)) ((ofI a2).2) (((ofI a2).1)) ((ofI a2).2)).1)) ((kv (((ofI a2).1)) ((ofI a2).2) (((ofI a2).1)) ((ofI a2).2)).2.1) (digs B p21)).2.1, (kp (((kv (((ofI a2).1)) ((ofI a2).2) (((ofI a2).1)) ((ofI a2).2)).1)) ((kv (((ofI a2).1)) ((ofI a2).2) (((ofI a2).1)) ((ofI a2).2)).2.1) (digs B p21)).2.2.1, ((kp (((kv (((ofI a2).1)) ((ofI a2).2) (((ofI a2).1)) ((ofI a2).2)).1)) ((kv (((ofI a2).1)) ((ofI a2).2) (((ofI a2).1)) ((ofI a2).2)).2.1) (digs B p21)).2.2.2)))))
noncomputable def kuj : kg8 → Option (kg8 ⊕ kfo)
 | .fn a1 a2 a3 => kjw a1 a2 a3
 | .no => none
@[reducible] def ktv (h0 : AH) (r : kfo) (v : AV) (h' : AH) : Prop := ∃ s1 : Sl, ∃ s2 : Sl, v = .tup [.agg [.bool r.1, s1.v, s2.v], .int .i64 r.2.2.2] ∧ Nats h' s1 r.2.1 ∧ Nats h' s2 r.2.2.1 ∧ Grow h0 h' ∧ Own h0 s1 ∧ Own h0 s2
def kpm (r : kfo) : kg8 → Prop
 | .fn a1 a2 a3 => ∀ {h : AH}, Runs (go (.fn F.ki9 [.int .i64 a1, .agg [.int .i64 a2, .int .i64 a3]]) h) (ktv h r)
 | .no => True
theorem kxw {r : kfo} {o : kg8 ⊕ kfo} {a1 : Int} {a2 : Int} {a3 : Int} (e : kjw a1 a2 a3 = some o) (good : GoodS (kpm r) r o) : kpm r (.fn a1 a2 a3) := by
 intro h
 rw [k32]
 unfold kjw at e
 refine Runs.new fun H4 b4 g4 => ?_
 refine Runs.new fun H5 b5 g5 => ?_
 refine Runs.step (AH.has.rd (g5.has b4) 0 rfl (kb _ _)) ?_
 refine Runs.step (AH.has.rd (g5.has b4) 1 rfl (kb _ _)) ?_
 obtain ⟨_, H6, e6, rfl, g6⟩ := kit a2 a3
 refine Runs.step e6 ?_
 refine Runs.step (seen rfl) ?_
 refine Runs.cond (fun k7 => ?_) (fun k7 => ?_)
 ·replace e := (condT k7).symm.trans e
  refine Runs.puts (g6.has b5) rfl fun H8 b8 u8 => ?_
  refine Runs.step (AH.has.rd b8 0 rfl rfl) ?_
  refine Runs.step (AH.has.rd b8 1 rfl (asSl_v _)) ?_
  refine Runs.step (AH.has.rd b8 2 rfl (asSl_v _)) ?_
  cases e
  cases good
  have G9 := (((g4.trans g5).trans g6).updr (Nat.le_trans (g4).size (Nat.le_refl _)) u8)
  exact Runs.ret ⟨(⟨none, 0, .is 0⟩ : Sl), (⟨none, 0, .is 0⟩ : Sl), rfl, (Nats.nil _), (Nats.nil _), G9, (Own.nil _), (Own.nil _)⟩
 ·replace e := (condF k7).symm.trans e
  obtain ⟨_, H8, e8, rfl, g8⟩ := kms a1
  refine Runs.step e8 ?_
  refine Runs.step (seen rfl) ?_
  refine Runs.cond (fun k9 => ?_) (fun k9 => ?_)
  ·replace e := (condT k9).symm.trans e
   refine Runs.puts ((g6.trans g8).has b5) rfl fun H10 b10 u10 => ?_
   refine Runs.step (AH.has.rd b10 0 rfl rfl) ?_
   refine Runs.step (AH.has.rd b10 1 rfl (asSl_v _)) ?_
   refine Runs.step (AH.has.rd b10 2 rfl (asSl_v _)) ?_
   cases e
   cases good
   have G11 := ((((g4.trans g5).trans g6).trans g8).updr (Nat.le_trans (g4).size (Nat.le_refl _)) u10)
   exact Runs.ret ⟨(⟨none, 0, .is 0⟩ : Sl), (⟨none, 0, .is 0⟩ : Sl), rfl, (Nats.nil _), (Nats.nil _), G11, (Own.nil _), (Own.nil _)⟩
  ·replace e := (condF k9).symm.trans e
   have G10 := ((g5.trans g6).trans g8)
   have b4_11 := G10.has b4
   refine Runs.step (AH.has.rd b4_11 0 rfl (kb _ _)) ?_
   obtain ⟨c12_0, q12_0, e⟩ := Option.bind_eq_some_iff.1 e
   obtain ⟨s12, H12, e12, n12, g12, o12⟩ := kr6 a2  c12_0.down
   refine Runs.step e12 ?_
   refine Runs.step rfl ?_
   refine Runs.ifT rfl ?_
   refine Runs.step (seenAt rfl rfl) ?_
   refine Runs.step (seenAt rfl (asSl_v _)) ?_
   refine Runs.new fun H13 b13 g13 => ?_
   refine Runs.puts b13 rfl fun H14 b14 u14 => ?_
   refine Runs.step (AH.has.rd b14 0 rfl rfl) ?_
   refine Runs.step (AH.has.rd b14 1 rfl (asSl_v _)) ?_
   refine Runs.step (AH.has.rd b14 0 rfl rfl) ?_
   refine Runs.step (AH.has.rd b14 1 rfl (asSl_v _)) ?_
   obtain ⟨_, H15, e15, s15, rfl, n15, g15, o15⟩ := kus (n12.grow (g13.updr (Nat.le_refl _) u14)) (n12.grow (g13.updr (Nat.le_refl _) u14)) (((ofI a2).1)) (((ofI a2).1))
   refine Runs.step e15 ?_
   refine Runs.step rfl ?_
   refine Runs.step rfl ?_
   refine Runs.ifT rfl ?_
   refine Runs.step (seenAt rfl rfl) ?_
   refine Runs.step (seenAt rfl (asSl_v _)) ?_
   refine Runs.step (seen (kb _ _)) ?_
   refine Runs.new fun H16 b16 g16 => ?_
   refine Runs.puts b16 rfl fun H17 b17 u17 => ?_
   refine Runs.step (AH.has.rd b17 0 rfl rfl) ?_
   refine Runs.step (AH.has.rd b17 1 rfl (asSl_v _)) ?_
   have G18 := (((g12.trans g13).updr (Nat.le_trans (g12).size (Nat.le_refl _)) u14).trans g15)
   have G19 := (((((g12.trans g13).updr (Nat.le_trans (g12).size (Nat.le_refl _)) u14).trans g15).trans g16).updr (Nat.le_trans (G18).size (Nat.le_refl _)) u17)
   have b4_20 := G19.has b4_11
   refine Runs.step (AH.has.rd b4_20 1 rfl (kb _ _)) ?_
   obtain ⟨p21, q21, e⟩ := Option.bind_eq_some_iff.1 e
   obtain ⟨s21, H21, e21, n21, g21, o21⟩ := kph q21
   refine Runs.step e21 ?_
   refine Runs.step (seen (asSl_v _)) ?_
   refine Runs.when (g21.same b17 0 2) ?_
   have G22 := ((g16.updr (Nat.le_refl _) u17).trans g21)
   have n15_23 := n15.grow G22
   obtain ⟨_, H24, e24, s24, s24b, rfl, n24, n24b, g24, o24, o24b⟩ := kko n15_23 n21 (((kv (((ofI a2).1)) ((ofI a2).2) (((ofI a2).1)) ((ofI a2).2)).1))
   refine Runs.step e24 ?_
   refine Runs.step rfl ?_
   refine Runs.step rfl ?_
   refine Runs.ifT rfl ?_
   refine Runs.step (seenAt rfl rfl) ?_
   refine Runs.step (seenAt rfl (asSl_v _)) ?_
   refine Runs.step (seenAt rfl (asSl_v _)) ?_
   refine Runs.step (seen (kb _ _)) ?_
   have G26 := ((g6.trans g8).trans g12)
   have G27 := (((G26.trans g13).updr (Nat.le_trans (G26).size (Nat.le_refl _)) u14).trans g15)
   have G28 := (((((((((g6.trans g8).trans g12).trans g13).updr (Nat.le_trans (G26).size (Nat.le_refl _)) u14).trans g15).trans g16).updr (Nat.le_trans (G27).size (Nat.le_refl _)) u17).trans g21).trans g24)
   have b5_29 := G28.has b5
   refine Runs.puts b5_29 rfl fun H25 b25 u25 => ?_
   have G30 := ((g13.updr (Nat.le_refl _) u14).trans g15)
   have G31 := ((((((g13.updr (Nat.le_refl _) u14).trans g15).trans g16).updr (Nat.le_trans (G30).size (Nat.le_refl _)) u17).trans g21).trans g24)
   have n12_32 := n12.grow G31
   have n12_25 := n12_32.upda (Av.of_own o12 ((g6.trans g8).has b5).lt) u25
   have G33 := ((G26.trans g13).updr (Nat.le_trans (G26).size (Nat.le_refl _)) u14)
   have n15_25 := (n15_23.grow g24).upda (Av.of_own o15 (G33.has b5).lt) u25
   have G34 := ((G27.trans g16).updr (Nat.le_trans (G27).size (Nat.le_refl _)) u17)
   have n21_25 := (n21.grow g24).upda (Av.of_own o21 (G34.has b5).lt) u25
   have G35 := (G34.trans g21)
   have n24_25 := n24.upda (Av.of_own o24 (G35.has b5).lt) u25
   have n24b_25 := n24b.upda (Av.of_own o24b (G35.has b5).lt) u25
   have b4_25 := AH.has.updr ((g21.trans g24).has b4_20) (Nat.ne_of_lt (Nat.lt_of_lt_of_le (b4).lt (Nat.le_refl _))) u25
   have G36 := ((((g15.trans g16).updr (Nat.le_trans (g15).size (Nat.le_refl _)) u17).trans g21).trans g24)
   have b14_37 := G36.has b14
   have b14_25 := AH.has.updr b14_37 (Nat.ne_of_gt (Nat.lt_of_lt_of_le (G26.has b5).lt (Nat.le_refl _))) u25
   have b17_25 := AH.has.updr ((g21.trans g24).has b17) (Nat.ne_of_gt (Nat.lt_of_lt_of_le (G27.has b5).lt (Nat.le_refl _))) u25
   refine Runs.step (AH.has.rd b25 0 rfl rfl) ?_
   refine Runs.step (AH.has.rd b25 1 rfl (asSl_v _)) ?_
   refine Runs.step (AH.has.rd b25 2 rfl (asSl_v _)) ?_
   cases e
   cases good
   have G38 := ((((g4.trans g5).trans g6).trans g8).trans g12)
   have G39 := (((G38.trans g13).updr (Nat.le_trans (G38).size (Nat.le_refl _)) u14).trans g15)
   have G40 := ((((((((((g4.trans g5).trans g6).trans g8).trans g12).trans g13).updr (Nat.le_trans (G38).size (Nat.le_refl _)) u14).trans g15).trans g16).updr (Nat.le_trans (G39).size (Nat.le_refl _)) u17).trans g21)
   have G41 := ((G40.trans g24).updr (Nat.le_trans (g4).size (Nat.le_refl _)) u25)
   exact Runs.ret ⟨s24, s24b, rfl, n24_25, n24b_25, G41, (o24.of_le G40), (o24b.of_le G40)⟩
theorem k4m {s : kg8} {r : kfo} (it : Iter kuj s r) : kpm r s := Iter.ind (fun s o e good => by
 cases s with
 | fn a1 a2 a3 => exact @kxw _ _ a1 a2 a3 e good
 | no => exact True.intro
 ) it
inductive kht
 | fn (a1 : Int) (a2 : Int) (a3 : Int)
 | no
abbrev kfs := Bool × List Nat × List Nat × Int
noncomputable def kic (a1 : Int) (a2 : Int) (a3 : Int) : Option (kht ⊕ kfs) :=
 cond (!((kw a2 a3))) (some (.inr (false, [], [], 1))) (cond (decide (a1 < 1)) (some (.inr (false, [], [], 1))) (cond (decide (a1 > 1048576)) (some (.inr (false, [], [], 1))) ((need (-9223372036854775808 ≤ (a2 : Int) ∧ (a2 : Int) ≤ 9223372036854775807)).bind fun c10_0 => (need (-9223372036854775808 ≤ ((IntKind.wrap .i64 (a3 + a1)) : Int) ∧ ((IntKind.wrap .i64 (a3 + a1)) : Int) ≤ 9223372036854775807)).bind fun c20_0 => some (.inr ((((kp (((kv (((ofI a2).1)) ((ofI a2).2) (((ofI a2).1)) ((ofI a2).2)).1)) ((kv (((ofI a2).1)) ((ofI a2).2) (((ofI a2).1)) ((ofI a2).2)).2.1) ((ofI (IntKind.wrap .i64 (a3 + a1))).2)).1)), (kp (((kv (((ofI a2).1)) ((ofI a2).2) (((ofI a2).1)) ((ofI a2).2)).1)) ((kv (((ofI a2).1)) ((ofI a2).2) (((ofI a2).1)) ((ofI a2).2)).2.1) ((ofI (IntKind.wrap .i64 (a3 + a1))).2)).2.1, (kp (((kv (((ofI a2).1)) ((ofI a2).2) (((ofI a2).1)) ((ofI a2).2)).1)) ((kv (((ofI a2).1)) ((ofI a2).2) (((ofI a2).1)) ((ofI a2).2)).2.1) ((ofI (IntKind.wrap .i64 (a3 + a1))).2)).2.2.1, ((kp (((kv (((ofI a2).1)) ((ofI a2).2) (((ofI a2).1)) ((ofI a2).2)).1)) ((kv (((ofI a2).1)) ((ofI a2).2) (((ofI a2).1)) ((ofI a2).2)).2.1) ((ofI (IntKind.wrap .i64 (a3 + a1))).2)).2.2.2))))))
noncomputable def kp5 : kht → Option (kht ⊕ kfs)
 | .fn a1 a2 a3 => kic a1 a2 a3
 | .no => none
@[reducible] def kq1 (h0 : AH) (r : kfs) (v : AV) (h' : AH) : Prop := ∃ s1 : Sl, ∃ s2 : Sl, v = .tup [.agg [.bool r.1, s1.v, s2.v], .int .i64 r.2.2.2] ∧ Nats h' s1 r.2.1 ∧ Nats h' s2 r.2.2.1 ∧ Grow h0 h' ∧ Own h0 s1 ∧ Own h0 s2
def km3 (r : kfs) : kht → Prop
 | .fn a1 a2 a3 => ∀ {h : AH}, Runs (go (.fn F.kgs [.int .i64 a1, .agg [.int .i64 a2, .int .i64 a3]]) h) (kq1 h r)
 | .no => True
theorem k3i {r : kfs} {o : kht ⊕ kfs} {a1 : Int} {a2 : Int} {a3 : Int} (e : kic a1 a2 a3 = some o) (good : GoodS (km3 r) r o) : km3 r (.fn a1 a2 a3) := by
 intro h
 rw [kys]
 unfold kic at e
 refine Runs.new fun H4 b4 g4 => ?_
 refine Runs.new fun H5 b5 g5 => ?_
 refine Runs.step (AH.has.rd (g5.has b4) 0 rfl (kb _ _)) ?_
 refine Runs.step (AH.has.rd (g5.has b4) 1 rfl (kb _ _)) ?_
 obtain ⟨_, H6, e6, rfl, g6⟩ := ki4 a2 a3
 refine Runs.step e6 ?_
 refine Runs.step (seen rfl) ?_
 refine Runs.cond (fun k7 => ?_) (fun k7 => ?_)
 ·replace e := (condT k7).symm.trans e
  refine Runs.puts (g6.has b5) rfl fun H8 b8 u8 => ?_
  refine Runs.step (AH.has.rd b8 0 rfl rfl) ?_
  refine Runs.step (AH.has.rd b8 1 rfl (asSl_v _)) ?_
  refine Runs.step (AH.has.rd b8 2 rfl (asSl_v _)) ?_
  cases e
  cases good
  have G9 := (((g4.trans g5).trans g6).updr (Nat.le_trans (g4).size (Nat.le_refl _)) u8)
  exact Runs.ret ⟨(⟨none, 0, .is 0⟩ : Sl), (⟨none, 0, .is 0⟩ : Sl), rfl, (Nats.nil _), (Nats.nil _), G9, (Own.nil _), (Own.nil _)⟩
 ·replace e := (condF k7).symm.trans e
  refine Runs.cond (fun k8 => ?_) (fun k8 => ?_)
  ·replace e := (condT k8).symm.trans e
   refine Runs.puts (g6.has b5) rfl fun H9 b9 u9 => ?_
   refine Runs.step (AH.has.rd b9 0 rfl rfl) ?_
   refine Runs.step (AH.has.rd b9 1 rfl (asSl_v _)) ?_
   refine Runs.step (AH.has.rd b9 2 rfl (asSl_v _)) ?_
   cases e
   cases good
   have G10 := (((g4.trans g5).trans g6).updr (Nat.le_trans (g4).size (Nat.le_refl _)) u9)
   exact Runs.ret ⟨(⟨none, 0, .is 0⟩ : Sl), (⟨none, 0, .is 0⟩ : Sl), rfl, (Nats.nil _), (Nats.nil _), G10, (Own.nil _), (Own.nil _)⟩
  ·replace e := (condF k8).symm.trans e
   refine Runs.cond (fun k9 => ?_) (fun k9 => ?_)
   ·replace e := (condT k9).symm.trans e
    refine Runs.puts (g6.has b5) rfl fun H10 b10 u10 => ?_
    refine Runs.step (AH.has.rd b10 0 rfl rfl) ?_
    refine Runs.step (AH.has.rd b10 1 rfl (asSl_v _)) ?_
    refine Runs.step (AH.has.rd b10 2 rfl (asSl_v _)) ?_
    cases e
    cases good
    have G11 := (((g4.trans g5).trans g6).updr (Nat.le_trans (g4).size (Nat.le_refl _)) u10)
    exact Runs.ret ⟨(⟨none, 0, .is 0⟩ : Sl), (⟨none, 0, .is 0⟩ : Sl), rfl, (Nats.nil _), (Nats.nil _), G11, (Own.nil _), (Own.nil _)⟩
   ·replace e := (condF k9).symm.trans e
    refine Runs.step (AH.has.rd ((g5.trans g6).has b4) 0 rfl (kb _ _)) ?_
    obtain ⟨c10_0, q10_0, e⟩ := Option.bind_eq_some_iff.1 e
    obtain ⟨s10, H10, e10, n10, g10, o10⟩ := klw a2  c10_0.down
    refine Runs.step e10 ?_
    refine Runs.step rfl ?_
    refine Runs.ifT rfl ?_
    refine Runs.step (seenAt rfl rfl) ?_
    refine Runs.step (seenAt rfl (asSl_v _)) ?_
    refine Runs.new fun H11 b11 g11 => ?_
    refine Runs.puts b11 rfl fun H12 b12 u12 => ?_
    refine Runs.step (AH.has.rd b12 0 rfl rfl) ?_
    refine Runs.step (AH.has.rd b12 1 rfl (asSl_v _)) ?_
    refine Runs.step (AH.has.rd b12 0 rfl rfl) ?_
    refine Runs.step (AH.has.rd b12 1 rfl (asSl_v _)) ?_
    obtain ⟨_, H13, e13, s13, rfl, n13, g13, o13⟩ := ksf (n10.grow (g11.updr (Nat.le_refl _) u12)) (n10.grow (g11.updr (Nat.le_refl _) u12)) (((ofI a2).1)) (((ofI a2).1))
    refine Runs.step e13 ?_
    refine Runs.step rfl ?_
    refine Runs.step rfl ?_
    refine Runs.ifT rfl ?_
    refine Runs.step (seenAt rfl rfl) ?_
    refine Runs.step (seenAt rfl (asSl_v _)) ?_
    refine Runs.step (seen (kb _ _)) ?_
    refine Runs.new fun H14 b14 g14 => ?_
    refine Runs.puts b14 rfl fun H15 b15 u15 => ?_
    refine Runs.step (AH.has.rd b15 0 rfl rfl) ?_
    refine Runs.step (AH.has.rd b15 1 rfl (asSl_v _)) ?_
    have G16 := ((g5.trans g6).trans g10)
    have G17 := (((G16.trans g11).updr (Nat.le_trans (G16).size (Nat.le_refl _)) u12).trans g13)
    have G18 := (((((((g5.trans g6).trans g10).trans g11).updr (Nat.le_trans (G16).size (Nat.le_refl _)) u12).trans g13).trans g14).updr (Nat.le_trans (G17).size (Nat.le_refl _)) u15)
    have b4_19 := G18.has b4
    refine Runs.step (AH.has.rd b4_19 1 rfl (kb _ _)) ?_
    obtain ⟨c20_0, q20_0, e⟩ := Option.bind_eq_some_iff.1 e
    obtain ⟨s20, H20, e20, n20, g20, o20⟩ := klw (IntKind.wrap .i64 (a3 + a1))  c20_0.down
    refine Runs.step e20 ?_
    refine Runs.step rfl ?_
    refine Runs.ifT rfl ?_
    refine Runs.step (seenAt rfl rfl) ?_
    refine Runs.step (seenAt rfl (asSl_v _)) ?_
    refine Runs.when (g20.same b15 0 2) ?_
    have G21 := ((g14.updr (Nat.le_refl _) u15).trans g20)
    have n13_22 := n13.grow G21
    obtain ⟨_, H23, e23, s23, s23b, rfl, n23, n23b, g23, o23, o23b⟩ := kpp n13_22 n20 (((kv (((ofI a2).1)) ((ofI a2).2) (((ofI a2).1)) ((ofI a2).2)).1))
    refine Runs.step e23 ?_
    refine Runs.step rfl ?_
    refine Runs.step rfl ?_
    refine Runs.ifT rfl ?_
    refine Runs.step (seenAt rfl rfl) ?_
    refine Runs.step (seenAt rfl (asSl_v _)) ?_
    refine Runs.step (seenAt rfl (asSl_v _)) ?_
    refine Runs.step (seen (kb _ _)) ?_
    have G25 := ((((g6.trans g10).trans g11).updr (Nat.le_trans ((g6.trans g10)).size (Nat.le_refl _)) u12).trans g13)
    have G26 := ((((((((g6.trans g10).trans g11).updr (Nat.le_trans ((g6.trans g10)).size (Nat.le_refl _)) u12).trans g13).trans g14).updr (Nat.le_trans (G25).size (Nat.le_refl _)) u15).trans g20).trans g23)
    have b5_27 := G26.has b5
    refine Runs.puts b5_27 rfl fun H24 b24 u24 => ?_
    have G28 := ((g11.updr (Nat.le_refl _) u12).trans g13)
    have G29 := ((((((g11.updr (Nat.le_refl _) u12).trans g13).trans g14).updr (Nat.le_trans (G28).size (Nat.le_refl _)) u15).trans g20).trans g23)
    have n10_30 := n10.grow G29
    have n10_24 := n10_30.upda (Av.of_own o10 (g6.has b5).lt) u24
    have G31 := (((g6.trans g10).trans g11).updr (Nat.le_trans ((g6.trans g10)).size (Nat.le_refl _)) u12)
    have n13_24 := (n13_22.grow g23).upda (Av.of_own o13 (G31.has b5).lt) u24
    have G32 := ((G25.trans g14).updr (Nat.le_trans (G25).size (Nat.le_refl _)) u15)
    have n20_24 := (n20.grow g23).upda (Av.of_own o20 (G32.has b5).lt) u24
    have G33 := (G32.trans g20)
    have n23_24 := n23.upda (Av.of_own o23 (G33.has b5).lt) u24
    have n23b_24 := n23b.upda (Av.of_own o23b (G33.has b5).lt) u24
    have b4_24 := AH.has.updr ((g20.trans g23).has b4_19) (Nat.ne_of_lt (Nat.lt_of_lt_of_le (b4).lt (Nat.le_refl _))) u24
    have G34 := ((((g13.trans g14).updr (Nat.le_trans (g13).size (Nat.le_refl _)) u15).trans g20).trans g23)
    have b12_35 := G34.has b12
    have b12_24 := AH.has.updr b12_35 (Nat.ne_of_gt (Nat.lt_of_lt_of_le ((g6.trans g10).has b5).lt (Nat.le_refl _))) u24
    have b15_24 := AH.has.updr ((g20.trans g23).has b15) (Nat.ne_of_gt (Nat.lt_of_lt_of_le (G25.has b5).lt (Nat.le_refl _))) u24
    refine Runs.step (AH.has.rd b24 0 rfl rfl) ?_
    refine Runs.step (AH.has.rd b24 1 rfl (asSl_v _)) ?_
    refine Runs.step (AH.has.rd b24 2 rfl (asSl_v _)) ?_
    cases e
    cases good
    have G36 := (((g4.trans g5).trans g6).trans g10)
    have G37 := (((G36.trans g11).updr (Nat.le_trans (G36).size (Nat.le_refl _)) u12).trans g13)
    have G38 := (((((((((g4.trans g5).trans g6).trans g10).trans g11).updr (Nat.le_trans (G36).size (Nat.le_refl _)) u12).trans g13).trans g14).updr (Nat.le_trans (G37).size (Nat.le_refl _)) u15).trans g20)
    have G39 := ((G38.trans g23).updr (Nat.le_trans (g4).size (Nat.le_refl _)) u24)
    exact Runs.ret ⟨s23, s23b, rfl, n23_24, n23b_24, G39, (o23.of_le G38), (o23b.of_le G38)⟩
theorem k0n {s : kht} {r : kfs} (it : Iter kp5 s r) : km3 r s := Iter.ind (fun s o e good => by
 cases s with
 | fn a1 a2 a3 => exact @k3i _ _ a1 a2 a3 e good
 | no => exact True.intro
 ) it
end Go.Ab

/- squeezed -/
set_option linter.unusedVariables false
set_option linter.unusedSimpArgs false
set_option maxRecDepth 10000
namespace Go.Ab
open Go.Proofs Go.Num
theorem kib {g n : Int} : kw g n = true ↔ -1099511627776 ≤ g ∧ g ≤ 1099511627776 ∧ 0 ≤ n ∧ n ≤ 1048576 := by
 unfold kw
 by_cases h1 : g ≥ -1099511627776 <;> by_cases h2 : g ≤ 1099511627776 <;> by_cases h3 : n ≥ 0 <;> by_cases h4 : n ≤ 1048576 <;> simp [h1, h2, h3, h4]
theorem kg9 {l : Int} : kba l = true ↔ 1 ≤ l ∧ l ≤ 1048576 := by
 unfold kba
 by_cases h1 : l ≥ 1 <;> by_cases h2 : l ≤ 1048576 <;> simp [h1, h2]
def scoreF (l g n : Int) : Bool × List Nat × List Nat × Int := if kw g n = true ∧ kba l = true then fracM (g * g) (n + l).toNat else (false, [], [], 1)
theorem sq_lt {g : Int} (h1 : -1099511627776 ≤ g) (h2 : g ≤ 1099511627776) : (g * g).natAbs ≤ 1099511627776 * 1099511627776 := by
 rw [Int.natAbs_mul]
 exact Nat.mul_le_mul (by omega) (by omega)
theorem kyf (l g n : Int) : Iter kuj (.fn l g n) (scoreF l g n) := .done (by
 show kjw _ _ _ = _
 unfold kjw scoreF
 cases h1 : kw g n with
 | false => rfl
 | true =>
  cases h2 : kba l with
  | false => rfl
  | true =>
   obtain ⟨a1, a2, a3, a4⟩ := kib.1 h1
   obtain ⟨b1, b2⟩ := kg9.1 h2
   have h64 := kmz
   have hs := sq_lt a1 a2
   rw [if_pos ⟨rfl, rfl⟩, ko ⟨by omega, by omega⟩, kos (by omega), kn6 (by omega) (by omega), if_pos (by omega), wrap64 (by omega) (by omega), wrapU, Int.emod_eq_of_lt (by omega) (by omega)]
   have e : n + l = (((n + l).toNat : Nat) : Int) := by omega
   rw [show u64P (n + l) = some (n + l).toNat from by rw [e]; exact kbn (by omega)]
   simp only [Bool.not_true, cond_false, Option.bind_some]
   rw [kkp (by omega) (by omega) (by omega)])
theorem kv6 (l g n : Int) : Iter kp5 (.fn l g n) (scoreF l g n) := .done (by
 show kic _ _ _ = _
 unfold kic scoreF
 cases h1 : kw g n with
 | false => rfl
 | true =>
  cases h2 : kba l with
  | false =>
   rw [if_neg (by simp)]
   have h2 : ¬ (1 ≤ l ∧ l ≤ 1048576) := fun e => by rw [kg9.2 e] at h2; cases h2
   simp only [Bool.not_true, cond_false]
   refine kgb (fun _ => rfl) fun k1 => ?_
   rw [decide_eq_false_iff_not] at k1
   rw [condT (by rw [decide_eq_true_eq]; omega)]
  | true =>
   obtain ⟨a1, a2, a3, a4⟩ := kib.1 h1
   obtain ⟨b1, b2⟩ := kg9.1 h2
   have h64 := kmz
   have hs := sq_lt a1 a2
   have w := wrap64 (n := n + l) (by omega) (by omega)
   rw [if_pos ⟨rfl, rfl⟩, w, ko ⟨by omega, by omega⟩, ko ⟨by omega, by omega⟩, kos (by omega), kos (by omega), kn6 (by omega) (by omega), if_pos (by omega), decide_eq_false (by omega), decide_eq_false (by omega)]
   simp only [Bool.not_true, cond_false, Option.bind_some]
   have e : (intD (n + l)).2 = digs B (n + l).toNat := by
    show digs B (n + l).natAbs = _
    rw [show (n + l).natAbs = (n + l).toNat from by omega]
   rw [e, kkp (by omega) (by omega) (by omega)])
theorem klq {h : AH} (l g n : Int) : Runs (go (.fn F.ki9 [.int .i64 l, .agg [.int .i64 g, .int .i64 n]]) h) (ktv h (scoreF l g n)) := k4m (kyf l g n)
theorem knp {h : AH} (l g n : Int) : Runs (go (.fn F.kgs [.int .i64 l, .agg [.int .i64 g, .int .i64 n]]) h) (kq1 h (scoreF l g n)) := k0n (kv6 l g n)
end Go.Ab
