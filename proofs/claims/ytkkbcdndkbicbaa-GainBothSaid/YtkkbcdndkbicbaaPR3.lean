/- Layer 8: sums, products, order: printed by wip/tools/walk.py. -/
import Derived.Test.YtkkbcdndkbicbaaPS42

set_option linter.unusedVariables false
set_option linter.unusedSimpArgs false
set_option maxRecDepth 10000
namespace Go.Ab
open Go.Proofs Go.Num

def rational_both__modint_Add' (a1 : Bool) (x2 : List Nat) (x3 : List Nat) (a4 : Bool) (x5 : List Nat) (x6 : List Nat) : Bool × List Nat × List Nat × Int :=
  cond (!((rational_Right' a1 x2 x3 && rational_Right' a4 x5 x6))) ((false, [], [], 1)) (((((rational_Make' (((modint_Add' ((rational_over' a1 x2 x3 a4 x5 x6).1) ((rational_over' a1 x2 x3 a4 x5 x6).2) ((rational_over' a4 x5 x6 a1 x2 x3).1) ((rational_over' a4 x5 x6 a1 x2 x3).2)).1)) ((modint_Add' ((rational_over' a1 x2 x3 a4 x5 x6).1) ((rational_over' a1 x2 x3 a4 x5 x6).2) ((rational_over' a4 x5 x6 a1 x2 x3).1) ((rational_over' a4 x5 x6 a1 x2 x3).2)).2.1) ((mulN x3 x6).1)).1)), (rational_Make' (((modint_Add' ((rational_over' a1 x2 x3 a4 x5 x6).1) ((rational_over' a1 x2 x3 a4 x5 x6).2) ((rational_over' a4 x5 x6 a1 x2 x3).1) ((rational_over' a4 x5 x6 a1 x2 x3).2)).1)) ((modint_Add' ((rational_over' a1 x2 x3 a4 x5 x6).1) ((rational_over' a1 x2 x3 a4 x5 x6).2) ((rational_over' a4 x5 x6 a1 x2 x3).1) ((rational_over' a4 x5 x6 a1 x2 x3).2)).2.1) ((mulN x3 x6).1)).2.1, (rational_Make' (((modint_Add' ((rational_over' a1 x2 x3 a4 x5 x6).1) ((rational_over' a1 x2 x3 a4 x5 x6).2) ((rational_over' a4 x5 x6 a1 x2 x3).1) ((rational_over' a4 x5 x6 a1 x2 x3).2)).1)) ((modint_Add' ((rational_over' a1 x2 x3 a4 x5 x6).1) ((rational_over' a1 x2 x3 a4 x5 x6).2) ((rational_over' a4 x5 x6 a1 x2 x3).1) ((rational_over' a4 x5 x6 a1 x2 x3).2)).2.1) ((mulN x3 x6).1)).2.2.1, ((rational_Make' (((modint_Add' ((rational_over' a1 x2 x3 a4 x5 x6).1) ((rational_over' a1 x2 x3 a4 x5 x6).2) ((rational_over' a4 x5 x6 a1 x2 x3).1) ((rational_over' a4 x5 x6 a1 x2 x3).2)).1)) ((modint_Add' ((rational_over' a1 x2 x3 a4 x5 x6).1) ((rational_over' a1 x2 x3 a4 x5 x6).2) ((rational_over' a4 x5 x6 a1 x2 x3).1) ((rational_over' a4 x5 x6 a1 x2 x3).2)).2.1) ((mulN x3 x6).1)).2.2.2)))

theorem rational_both__modint_Add_spec {h : AH} {a2 : Sl} {x2 : List Nat} {a3 : Sl} {x3 : List Nat} {a5 : Sl} {x5 : List Nat} {a6 : Sl} {x6 : List Nat} (n2 : Nats h a2 x2) (n3 : Nats h a3 x3) (n5 : Nats h a5 x5) (n6 : Nats h a6 x6) (a1 : Bool) (a4 : Bool) : Runs (go (.fn F.rational_both [.agg [.bool a1, a2.v, a3.v], .agg [.bool a4, a5.v, a6.v], .func (.func F.modint_Add) [] []]) h) fun v h' => ∃ s1 : Sl, ∃ s2 : Sl, v = .tup [.agg [.bool (rational_both__modint_Add' a1 x2 x3 a4 x5 x6).1, s1.v, s2.v], .int .i64 (rational_both__modint_Add' a1 x2 x3 a4 x5 x6).2.2.2] ∧ Nats h' s1 ((rational_both__modint_Add' a1 x2 x3 a4 x5 x6).2.1) ∧ Nats h' s2 ((rational_both__modint_Add' a1 x2 x3 a4 x5 x6).2.2.1) ∧ Grow h h' ∧ Own h s1 ∧ Own h s2 := by
  rw [u_rational_both__modint_Add]
  refine Runs.new fun H7 b7 g7 => ?_
  refine Runs.new fun H8 b8 g8 => ?_
  refine Runs.new fun H9 b9 g9 => ?_
  refine Runs.step (AH.has.rd ((g8.trans g9).has b7) 0 rfl rfl) ?_
  refine Runs.step (AH.has.rd ((g8.trans g9).has b7) 1 rfl (asSl_v _)) ?_
  refine Runs.step (AH.has.rd ((g8.trans g9).has b7) 2 rfl (asSl_v _)) ?_
  refine Runs.step (AH.has.rd (g9.has b8) 0 rfl rfl) ?_
  refine Runs.step (AH.has.rd (g9.has b8) 1 rfl (asSl_v _)) ?_
  refine Runs.step (AH.has.rd (g9.has b8) 2 rfl (asSl_v _)) ?_
  refine Runs.new fun H10 b10 g10 => ?_
  have G11 := (((g7.trans g8).trans g9).trans g10)
  have n2_12 := n2.grow G11
  have n3_13 := n3.grow G11
  have n5_14 := n5.grow G11
  have n6_15 := n6.grow G11
  obtain ⟨H16, e16, g16⟩ := rational_right2_spec b10 n2_12 n3_13 n5_14 n6_15
  refine Runs.step e16 ?_
  refine Runs.step (seen rfl) ?_
  refine Runs.cond (fun k17 => ?_) (fun k17 => ?_)
  · refine Runs.puts ((g10.trans g16).has b9) rfl fun H18 b18 u18 => ?_
    have n2_18 := (n2_12.grow g16).upda (Av.of_base n2 (Nat.le_trans ((g7.trans g8)).size (Nat.le_refl _))) u18
    have n3_18 := (n3_13.grow g16).upda (Av.of_base n3 (Nat.le_trans ((g7.trans g8)).size (Nat.le_refl _))) u18
    have n5_18 := (n5_14.grow g16).upda (Av.of_base n5 (Nat.le_trans ((g7.trans g8)).size (Nat.le_refl _))) u18
    have n6_18 := (n6_15.grow g16).upda (Av.of_base n6 (Nat.le_trans ((g7.trans g8)).size (Nat.le_refl _))) u18
    have b10_18 := AH.has.updr (g16.has b10) (Nat.ne_of_gt (Nat.lt_of_lt_of_le (b9).lt (Nat.le_refl _))) u18
    refine Runs.step (AH.has.rd b18 0 rfl rfl) ?_
    refine Runs.step (AH.has.rd b18 1 rfl (asSl_v _)) ?_
    refine Runs.step (AH.has.rd b18 2 rfl (asSl_v _)) ?_
    have z : rational_both__modint_Add' a1 x2 x3 a4 x5 x6 = (false, [], [], 1) := by unfold rational_both__modint_Add'; exact (condT k17).trans rfl
    rw [z]
    have G19 := ((G11.trans g16).updr (Nat.le_trans ((g7.trans g8)).size (Nat.le_refl _)) u18)
    exact Runs.ret ⟨(⟨none, 0, .is 0⟩ : Sl), (⟨none, 0, .is 0⟩ : Sl), rfl, (Nats.nil _), (Nats.nil _), G19, (Own.nil _), (Own.nil _)⟩
  · refine Runs.new fun H18 b18 g18 => ?_
    have G19 := ((((g8.trans g9).trans g10).trans g16).trans g18)
    have b7_20 := G19.has b7
    refine Runs.step (AH.has.rd b7_20 0 rfl rfl) ?_
    refine Runs.step (AH.has.rd b7_20 1 rfl (asSl_v _)) ?_
    refine Runs.step (AH.has.rd b7_20 2 rfl (asSl_v _)) ?_
    have G21 := (((g9.trans g10).trans g16).trans g18)
    have b8_22 := G21.has b8
    refine Runs.step (AH.has.rd b8_22 0 rfl rfl) ?_
    refine Runs.step (AH.has.rd b8_22 1 rfl (asSl_v _)) ?_
    refine Runs.step (AH.has.rd b8_22 2 rfl (asSl_v _)) ?_
    refine Runs.step (AH.has.rd b8_22 0 rfl rfl) ?_
    refine Runs.step (AH.has.rd b8_22 1 rfl (asSl_v _)) ?_
    refine Runs.step (AH.has.rd b8_22 2 rfl (asSl_v _)) ?_
    refine Runs.step (AH.has.rd b7_20 0 rfl rfl) ?_
    refine Runs.step (AH.has.rd b7_20 1 rfl (asSl_v _)) ?_
    refine Runs.step (AH.has.rd b7_20 2 rfl (asSl_v _)) ?_
    obtain ⟨_, H23, e23, s23, rfl, n23, g23, o23⟩ := rational_over_spec (n2_12.grow (g16.trans g18)) (n3_13.grow (g16.trans g18)) (n5_14.grow (g16.trans g18)) (n6_15.grow (g16.trans g18)) a1 a4
    refine Runs.step e23 ?_
    refine Runs.step rfl ?_
    refine Runs.ifT rfl ?_
    refine Runs.step (seenAt rfl rfl) ?_
    refine Runs.step (seenAt rfl (asSl_v _)) ?_
    refine Runs.when (g23.same b7_20 0 3) ?_
    refine Runs.when (g23.same b8_22 0 3) ?_
    refine Runs.when (g23.same b18 0 0) ?_
    have G24 := ((g16.trans g18).trans g23)
    have n5_25 := n5_14.grow G24
    have n6_26 := n6_15.grow G24
    have n2_27 := n2_12.grow G24
    have n3_28 := n3_13.grow G24
    obtain ⟨_, H29, e29, s29, rfl, n29, g29, o29⟩ := rational_over_spec n5_25 n6_26 n2_27 n3_28 a4 a1
    refine Runs.step e29 ?_
    refine Runs.step rfl ?_
    refine Runs.ifT rfl ?_
    refine Runs.step (seenAt rfl rfl) ?_
    refine Runs.step (seenAt rfl (asSl_v _)) ?_
    refine Runs.when (g29.same (g23.has b18) 0 0) ?_
    obtain ⟨_, H30, e30, s30, rfl, n30, g30, o30⟩ := modint_Add_spec (n23.grow g29) n29 ((rational_over' a1 x2 x3 a4 x5 x6).1) ((rational_over' a4 x5 x6 a1 x2 x3).1)
    refine Runs.step e30 ?_
    refine Runs.step rfl ?_
    refine Runs.step rfl ?_
    refine Runs.ifT rfl ?_
    refine Runs.step (seenAt rfl rfl) ?_
    refine Runs.step (seenAt rfl (asSl_v _)) ?_
    refine Runs.step (seen (avInt_int _ _)) ?_
    refine Runs.when (g30.same ((g23.trans g29).has b18) 0 0) ?_
    have G32 := ((g23.trans g29).trans g30)
    have b18_33 := G32.has b18
    refine Runs.puts b18_33 rfl fun H31 b31 u31 => ?_
    have G34 := (G11.trans g16)
    have n2_31 := (n2_27.grow (g29.trans g30)).upda (Av.of_base n2 (Nat.le_trans (G34).size (Nat.le_refl _))) u31
    have n3_31 := (n3_28.grow (g29.trans g30)).upda (Av.of_base n3 (Nat.le_trans (G34).size (Nat.le_refl _))) u31
    have n5_31 := (n5_25.grow (g29.trans g30)).upda (Av.of_base n5 (Nat.le_trans (G34).size (Nat.le_refl _))) u31
    have n6_31 := (n6_26.grow (g29.trans g30)).upda (Av.of_base n6 (Nat.le_trans (G34).size (Nat.le_refl _))) u31
    have n23_31 := (n23.grow (g29.trans g30)).upda (Av.of_own o23 (b18).lt) u31
    have n29_31 := (n29.grow g30).upda (Av.of_own o29 (g23.has b18).lt) u31
    have n30_31 := n30.upda (Av.of_own o30 ((g23.trans g29).has b18).lt) u31
    have b7_35 := G32.has b7_20
    have G36 := (((g8.trans g9).trans g10).trans g16)
    have b7_31 := AH.has.updr b7_35 (Nat.ne_of_lt (Nat.lt_of_lt_of_le (G36.has b7).lt (Nat.le_refl _))) u31
    have b8_37 := G32.has b8_22
    have G38 := ((g9.trans g10).trans g16)
    have b8_31 := AH.has.updr b8_37 (Nat.ne_of_lt (Nat.lt_of_lt_of_le (G38.has b8).lt (Nat.le_refl _))) u31
    refine Runs.step (AH.has.rd b7_31 2 rfl (asSl_v _)) ?_
    refine Runs.step (AH.has.rd b8_31 2 rfl (asSl_v _)) ?_
    obtain ⟨s39, H39, e39, n39, g39, o39⟩ := nat_Mul_spec n3_31 n6_31
    refine Runs.step e39 ?_
    refine Runs.step rfl ?_
    refine Runs.step (seen (asSl_v _)) ?_
    refine Runs.step (seen (avInt_int _ _)) ?_
    refine Runs.step (AH.has.rd (g39.has b31) 0 rfl rfl) ?_
    refine Runs.step (AH.has.rd (g39.has b31) 1 rfl (asSl_v _)) ?_
    obtain ⟨_, H40, e40, s40, s40b, rfl, n40, n40b, g40, o40, o40b⟩ := rational_Make_spec (n30_31.grow g39) n39 (((modint_Add' ((rational_over' a1 x2 x3 a4 x5 x6).1) ((rational_over' a1 x2 x3 a4 x5 x6).2) ((rational_over' a4 x5 x6 a1 x2 x3).1) ((rational_over' a4 x5 x6 a1 x2 x3).2)).1))
    refine Runs.step e40 ?_
    refine Runs.step rfl ?_
    refine Runs.step rfl ?_
    refine Runs.ifT rfl ?_
    refine Runs.step (seenAt rfl rfl) ?_
    refine Runs.step (seenAt rfl (asSl_v _)) ?_
    refine Runs.step (seenAt rfl (asSl_v _)) ?_
    refine Runs.step (seen (avInt_int _ _)) ?_
    have G42 := ((((((((g10.trans g16).trans g18).trans g23).trans g29).trans g30).updr (Nat.le_trans ((g10.trans g16)).size (Nat.le_refl _)) u31).trans g39).trans g40)
    have b9_43 := G42.has b9
    refine Runs.puts b9_43 rfl fun H41 b41 u41 => ?_
    have n2_41 := (n2_31.grow (g39.trans g40)).upda (Av.of_base n2 (Nat.le_trans ((g7.trans g8)).size (Nat.le_refl _))) u41
    have n3_41 := (n3_31.grow (g39.trans g40)).upda (Av.of_base n3 (Nat.le_trans ((g7.trans g8)).size (Nat.le_refl _))) u41
    have n5_41 := (n5_31.grow (g39.trans g40)).upda (Av.of_base n5 (Nat.le_trans ((g7.trans g8)).size (Nat.le_refl _))) u41
    have n6_41 := (n6_31.grow (g39.trans g40)).upda (Av.of_base n6 (Nat.le_trans ((g7.trans g8)).size (Nat.le_refl _))) u41
    have G44 := ((g10.trans g16).trans g18)
    have n23_41 := (n23_31.grow (g39.trans g40)).upda (Av.of_own o23 (G44.has b9).lt) u41
    have G45 := (G44.trans g23)
    have n29_41 := (n29_31.grow (g39.trans g40)).upda (Av.of_own o29 (G45.has b9).lt) u41
    have G46 := (G45.trans g29)
    have n30_41 := (n30_31.grow (g39.trans g40)).upda (Av.of_own o30 (G46.has b9).lt) u41
    have G47 := ((G46.trans g30).updr (Nat.le_trans ((g10.trans g16)).size (Nat.le_refl _)) u31)
    have n39_41 := (n39.grow g40).upda (Av.of_own o39 (G47.has b9).lt) u41
    have G48 := (G47.trans g39)
    have n40_41 := n40.upda (Av.of_own o40 (G48.has b9).lt) u41
    have n40b_41 := n40b.upda (Av.of_own o40b (G48.has b9).lt) u41
    have b7_41 := AH.has.updr ((g39.trans g40).has b7_31) (Nat.ne_of_lt (Nat.lt_of_lt_of_le (g8.has b7).lt (Nat.le_refl _))) u41
    have b8_41 := AH.has.updr ((g39.trans g40).has b8_31) (Nat.ne_of_lt (Nat.lt_of_lt_of_le (b8).lt (Nat.le_refl _))) u41
    have G49 := (((((G24.trans g29).trans g30).updr (Nat.le_trans (g16).size (Nat.le_refl _)) u31).trans g39).trans g40)
    have b10_50 := G49.has b10
    have b10_41 := AH.has.updr b10_50 (Nat.ne_of_gt (Nat.lt_of_lt_of_le (b9).lt (Nat.le_refl _))) u41
    have b31_41 := AH.has.updr ((g39.trans g40).has b31) (Nat.ne_of_gt (Nat.lt_of_lt_of_le ((g10.trans g16).has b9).lt (Nat.le_refl _))) u41
    refine Runs.step (AH.has.rd b41 0 rfl rfl) ?_
    refine Runs.step (AH.has.rd b41 1 rfl (asSl_v _)) ?_
    refine Runs.step (AH.has.rd b41 2 rfl (asSl_v _)) ?_
    have z : rational_both__modint_Add' a1 x2 x3 a4 x5 x6 = ((((rational_Make' (((modint_Add' ((rational_over' a1 x2 x3 a4 x5 x6).1) ((rational_over' a1 x2 x3 a4 x5 x6).2) ((rational_over' a4 x5 x6 a1 x2 x3).1) ((rational_over' a4 x5 x6 a1 x2 x3).2)).1)) ((modint_Add' ((rational_over' a1 x2 x3 a4 x5 x6).1) ((rational_over' a1 x2 x3 a4 x5 x6).2) ((rational_over' a4 x5 x6 a1 x2 x3).1) ((rational_over' a4 x5 x6 a1 x2 x3).2)).2.1) ((mulN x3 x6).1)).1)), (rational_Make' (((modint_Add' ((rational_over' a1 x2 x3 a4 x5 x6).1) ((rational_over' a1 x2 x3 a4 x5 x6).2) ((rational_over' a4 x5 x6 a1 x2 x3).1) ((rational_over' a4 x5 x6 a1 x2 x3).2)).1)) ((modint_Add' ((rational_over' a1 x2 x3 a4 x5 x6).1) ((rational_over' a1 x2 x3 a4 x5 x6).2) ((rational_over' a4 x5 x6 a1 x2 x3).1) ((rational_over' a4 x5 x6 a1 x2 x3).2)).2.1) ((mulN x3 x6).1)).2.1, (rational_Make' (((modint_Add' ((rational_over' a1 x2 x3 a4 x5 x6).1) ((rational_over' a1 x2 x3 a4 x5 x6).2) ((rational_over' a4 x5 x6 a1 x2 x3).1) ((rational_over' a4 x5 x6 a1 x2 x3).2)).1)) ((modint_Add' ((rational_over' a1 x2 x3 a4 x5 x6).1) ((rational_over' a1 x2 x3 a4 x5 x6).2) ((rational_over' a4 x5 x6 a1 x2 x3).1) ((rational_over' a4 x5 x6 a1 x2 x3).2)).2.1) ((mulN x3 x6).1)).2.2.1, ((rational_Make' (((modint_Add' ((rational_over' a1 x2 x3 a4 x5 x6).1) ((rational_over' a1 x2 x3 a4 x5 x6).2) ((rational_over' a4 x5 x6 a1 x2 x3).1) ((rational_over' a4 x5 x6 a1 x2 x3).2)).1)) ((modint_Add' ((rational_over' a1 x2 x3 a4 x5 x6).1) ((rational_over' a1 x2 x3 a4 x5 x6).2) ((rational_over' a4 x5 x6 a1 x2 x3).1) ((rational_over' a4 x5 x6 a1 x2 x3).2)).2.1) ((mulN x3 x6).1)).2.2.2)) := by unfold rational_both__modint_Add'; exact (condF k17).trans rfl
    rw [z]
    have G51 := ((((((G34.trans g18).trans g23).trans g29).trans g30).updr (Nat.le_trans (G34).size (Nat.le_refl _)) u31).trans g39)
    have G52 := ((G51.trans g40).updr (Nat.le_trans ((g7.trans g8)).size (Nat.le_refl _)) u41)
    exact Runs.ret ⟨s40, s40b, rfl, n40_41, n40b_41, G52, (o40.of_le G51), (o40b.of_le G51)⟩

def rational_Add' (a1 : Bool) (x2 : List Nat) (x3 : List Nat) (a4 : Bool) (x5 : List Nat) (x6 : List Nat) : Bool × List Nat × List Nat × Int :=
  ((((rational_both__modint_Add' a1 x2 x3 a4 x5 x6).1)), (rational_both__modint_Add' a1 x2 x3 a4 x5 x6).2.1, (rational_both__modint_Add' a1 x2 x3 a4 x5 x6).2.2.1, ((rational_both__modint_Add' a1 x2 x3 a4 x5 x6).2.2.2))

theorem rational_Add_spec {h : AH} {a2 : Sl} {x2 : List Nat} {a3 : Sl} {x3 : List Nat} {a5 : Sl} {x5 : List Nat} {a6 : Sl} {x6 : List Nat} (n2 : Nats h a2 x2) (n3 : Nats h a3 x3) (n5 : Nats h a5 x5) (n6 : Nats h a6 x6) (a1 : Bool) (a4 : Bool) : Runs (go (.fn F.rational_Add [.agg [.bool a1, a2.v, a3.v], .agg [.bool a4, a5.v, a6.v]]) h) fun v h' => ∃ s1 : Sl, ∃ s2 : Sl, v = .tup [.agg [.bool (rational_Add' a1 x2 x3 a4 x5 x6).1, s1.v, s2.v], .int .i64 (rational_Add' a1 x2 x3 a4 x5 x6).2.2.2] ∧ Nats h' s1 ((rational_Add' a1 x2 x3 a4 x5 x6).2.1) ∧ Nats h' s2 ((rational_Add' a1 x2 x3 a4 x5 x6).2.2.1) ∧ Grow h h' ∧ Own h s1 ∧ Own h s2 := by
  rw [u_rational_Add]
  refine Runs.new fun H7 b7 g7 => ?_
  refine Runs.new fun H8 b8 g8 => ?_
  refine Runs.new fun H9 b9 g9 => ?_
  refine Runs.step (AH.has.rd ((g8.trans g9).has b7) 0 rfl rfl) ?_
  refine Runs.step (AH.has.rd ((g8.trans g9).has b7) 1 rfl (asSl_v _)) ?_
  refine Runs.step (AH.has.rd ((g8.trans g9).has b7) 2 rfl (asSl_v _)) ?_
  refine Runs.step (AH.has.rd (g9.has b8) 0 rfl rfl) ?_
  refine Runs.step (AH.has.rd (g9.has b8) 1 rfl (asSl_v _)) ?_
  refine Runs.step (AH.has.rd (g9.has b8) 2 rfl (asSl_v _)) ?_
  have G10 := ((g7.trans g8).trans g9)
  have n2_11 := n2.grow G10
  have n3_12 := n3.grow G10
  have n5_13 := n5.grow G10
  have n6_14 := n6.grow G10
  obtain ⟨_, H15, e15, s15, s15b, rfl, n15, n15b, g15, o15, o15b⟩ := rational_both__modint_Add_spec n2_11 n3_12 n5_13 n6_14 a1 a4
  refine Runs.step e15 ?_
  refine Runs.step rfl ?_
  refine Runs.step rfl ?_
  refine Runs.ifT rfl ?_
  refine Runs.step (seenAt rfl rfl) ?_
  refine Runs.step (seenAt rfl (asSl_v _)) ?_
  refine Runs.step (seenAt rfl (asSl_v _)) ?_
  refine Runs.step (seen (avInt_int _ _)) ?_
  refine Runs.puts (g15.has b9) rfl fun H16 b16 u16 => ?_
  have n2_16 := (n2_11.grow g15).upda (Av.of_base n2 (Nat.le_trans ((g7.trans g8)).size (Nat.le_refl _))) u16
  have n3_16 := (n3_12.grow g15).upda (Av.of_base n3 (Nat.le_trans ((g7.trans g8)).size (Nat.le_refl _))) u16
  have n5_16 := (n5_13.grow g15).upda (Av.of_base n5 (Nat.le_trans ((g7.trans g8)).size (Nat.le_refl _))) u16
  have n6_16 := (n6_14.grow g15).upda (Av.of_base n6 (Nat.le_trans ((g7.trans g8)).size (Nat.le_refl _))) u16
  have n15_16 := n15.upda (Av.of_own o15 (b9).lt) u16
  have n15b_16 := n15b.upda (Av.of_own o15b (b9).lt) u16
  refine Runs.step (AH.has.rd b16 0 rfl rfl) ?_
  refine Runs.step (AH.has.rd b16 1 rfl (asSl_v _)) ?_
  refine Runs.step (AH.has.rd b16 2 rfl (asSl_v _)) ?_
  have z : rational_Add' a1 x2 x3 a4 x5 x6 = ((((rational_both__modint_Add' a1 x2 x3 a4 x5 x6).1)), (rational_both__modint_Add' a1 x2 x3 a4 x5 x6).2.1, (rational_both__modint_Add' a1 x2 x3 a4 x5 x6).2.2.1, ((rational_both__modint_Add' a1 x2 x3 a4 x5 x6).2.2.2)) := by unfold rational_Add'; exact rfl
  rw [z]
  have G17 := ((G10.trans g15).updr (Nat.le_trans ((g7.trans g8)).size (Nat.le_refl _)) u16)
  exact Runs.ret ⟨s15, s15b, rfl, n15_16, n15b_16, G17, (o15.of_le G10), (o15b.of_le G10)⟩

theorem rational_Add_t {h : AH} {a2 : Sl} {x2 : List Nat} {a3 : Sl} {x3 : List Nat} {a5 : Sl} {x5 : List Nat} {a6 : Sl} {x6 : List Nat} (n2 : Nats h a2 x2) (n3 : Nats h a3 x3) (n5 : Nats h a5 x5) (n6 : Nats h a6 x6) {a1 : Bool} {a4 : Bool} {r : _} (q : rational_Add' a1 x2 x3 a4 x5 x6 = r) : Runs (go (.fn F.rational_Add [.agg [.bool a1, a2.v, a3.v], .agg [.bool a4, a5.v, a6.v]]) h) fun v h' => ∃ s1 : Sl, ∃ s2 : Sl, v = .tup [.agg [.bool r.1, s1.v, s2.v], .int .i64 r.2.2.2] ∧ Nats h' s1 (r.2.1) ∧ Nats h' s2 (r.2.2.1) ∧ Grow h h' ∧ Own h s1 ∧ Own h s2 := by
  subst q
  exact rational_Add_spec n2 n3 n5 n6 a1 a4

def rational_both__modint_Sub' (a1 : Bool) (x2 : List Nat) (x3 : List Nat) (a4 : Bool) (x5 : List Nat) (x6 : List Nat) : Bool × List Nat × List Nat × Int :=
  cond (!((rational_Right' a1 x2 x3 && rational_Right' a4 x5 x6))) ((false, [], [], 1)) (((((rational_Make' (((modint_Sub' ((rational_over' a1 x2 x3 a4 x5 x6).1) ((rational_over' a1 x2 x3 a4 x5 x6).2) ((rational_over' a4 x5 x6 a1 x2 x3).1) ((rational_over' a4 x5 x6 a1 x2 x3).2)).1)) ((modint_Sub' ((rational_over' a1 x2 x3 a4 x5 x6).1) ((rational_over' a1 x2 x3 a4 x5 x6).2) ((rational_over' a4 x5 x6 a1 x2 x3).1) ((rational_over' a4 x5 x6 a1 x2 x3).2)).2.1) ((mulN x3 x6).1)).1)), (rational_Make' (((modint_Sub' ((rational_over' a1 x2 x3 a4 x5 x6).1) ((rational_over' a1 x2 x3 a4 x5 x6).2) ((rational_over' a4 x5 x6 a1 x2 x3).1) ((rational_over' a4 x5 x6 a1 x2 x3).2)).1)) ((modint_Sub' ((rational_over' a1 x2 x3 a4 x5 x6).1) ((rational_over' a1 x2 x3 a4 x5 x6).2) ((rational_over' a4 x5 x6 a1 x2 x3).1) ((rational_over' a4 x5 x6 a1 x2 x3).2)).2.1) ((mulN x3 x6).1)).2.1, (rational_Make' (((modint_Sub' ((rational_over' a1 x2 x3 a4 x5 x6).1) ((rational_over' a1 x2 x3 a4 x5 x6).2) ((rational_over' a4 x5 x6 a1 x2 x3).1) ((rational_over' a4 x5 x6 a1 x2 x3).2)).1)) ((modint_Sub' ((rational_over' a1 x2 x3 a4 x5 x6).1) ((rational_over' a1 x2 x3 a4 x5 x6).2) ((rational_over' a4 x5 x6 a1 x2 x3).1) ((rational_over' a4 x5 x6 a1 x2 x3).2)).2.1) ((mulN x3 x6).1)).2.2.1, ((rational_Make' (((modint_Sub' ((rational_over' a1 x2 x3 a4 x5 x6).1) ((rational_over' a1 x2 x3 a4 x5 x6).2) ((rational_over' a4 x5 x6 a1 x2 x3).1) ((rational_over' a4 x5 x6 a1 x2 x3).2)).1)) ((modint_Sub' ((rational_over' a1 x2 x3 a4 x5 x6).1) ((rational_over' a1 x2 x3 a4 x5 x6).2) ((rational_over' a4 x5 x6 a1 x2 x3).1) ((rational_over' a4 x5 x6 a1 x2 x3).2)).2.1) ((mulN x3 x6).1)).2.2.2)))

theorem rational_both__modint_Sub_spec {h : AH} {a2 : Sl} {x2 : List Nat} {a3 : Sl} {x3 : List Nat} {a5 : Sl} {x5 : List Nat} {a6 : Sl} {x6 : List Nat} (n2 : Nats h a2 x2) (n3 : Nats h a3 x3) (n5 : Nats h a5 x5) (n6 : Nats h a6 x6) (a1 : Bool) (a4 : Bool) : Runs (go (.fn F.rational_both [.agg [.bool a1, a2.v, a3.v], .agg [.bool a4, a5.v, a6.v], .func (.func F.modint_Sub) [] []]) h) fun v h' => ∃ s1 : Sl, ∃ s2 : Sl, v = .tup [.agg [.bool (rational_both__modint_Sub' a1 x2 x3 a4 x5 x6).1, s1.v, s2.v], .int .i64 (rational_both__modint_Sub' a1 x2 x3 a4 x5 x6).2.2.2] ∧ Nats h' s1 ((rational_both__modint_Sub' a1 x2 x3 a4 x5 x6).2.1) ∧ Nats h' s2 ((rational_both__modint_Sub' a1 x2 x3 a4 x5 x6).2.2.1) ∧ Grow h h' ∧ Own h s1 ∧ Own h s2 := by
  rw [u_rational_both__modint_Sub]
  refine Runs.new fun H7 b7 g7 => ?_
  refine Runs.new fun H8 b8 g8 => ?_
  refine Runs.new fun H9 b9 g9 => ?_
  refine Runs.step (AH.has.rd ((g8.trans g9).has b7) 0 rfl rfl) ?_
  refine Runs.step (AH.has.rd ((g8.trans g9).has b7) 1 rfl (asSl_v _)) ?_
  refine Runs.step (AH.has.rd ((g8.trans g9).has b7) 2 rfl (asSl_v _)) ?_
  refine Runs.step (AH.has.rd (g9.has b8) 0 rfl rfl) ?_
  refine Runs.step (AH.has.rd (g9.has b8) 1 rfl (asSl_v _)) ?_
  refine Runs.step (AH.has.rd (g9.has b8) 2 rfl (asSl_v _)) ?_
  refine Runs.new fun H10 b10 g10 => ?_
  have G11 := (((g7.trans g8).trans g9).trans g10)
  have n2_12 := n2.grow G11
  have n3_13 := n3.grow G11
  have n5_14 := n5.grow G11
  have n6_15 := n6.grow G11
  obtain ⟨H16, e16, g16⟩ := rational_right2_spec b10 n2_12 n3_13 n5_14 n6_15
  refine Runs.step e16 ?_
  refine Runs.step (seen rfl) ?_
  refine Runs.cond (fun k17 => ?_) (fun k17 => ?_)
  · refine Runs.puts ((g10.trans g16).has b9) rfl fun H18 b18 u18 => ?_
    have n2_18 := (n2_12.grow g16).upda (Av.of_base n2 (Nat.le_trans ((g7.trans g8)).size (Nat.le_refl _))) u18
    have n3_18 := (n3_13.grow g16).upda (Av.of_base n3 (Nat.le_trans ((g7.trans g8)).size (Nat.le_refl _))) u18
    have n5_18 := (n5_14.grow g16).upda (Av.of_base n5 (Nat.le_trans ((g7.trans g8)).size (Nat.le_refl _))) u18
    have n6_18 := (n6_15.grow g16).upda (Av.of_base n6 (Nat.le_trans ((g7.trans g8)).size (Nat.le_refl _))) u18
    have b10_18 := AH.has.updr (g16.has b10) (Nat.ne_of_gt (Nat.lt_of_lt_of_le (b9).lt (Nat.le_refl _))) u18
    refine Runs.step (AH.has.rd b18 0 rfl rfl) ?_
    refine Runs.step (AH.has.rd b18 1 rfl (asSl_v _)) ?_
    refine Runs.step (AH.has.rd b18 2 rfl (asSl_v _)) ?_
    have z : rational_both__modint_Sub' a1 x2 x3 a4 x5 x6 = (false, [], [], 1) := by unfold rational_both__modint_Sub'; exact (condT k17).trans rfl
    rw [z]
    have G19 := ((G11.trans g16).updr (Nat.le_trans ((g7.trans g8)).size (Nat.le_refl _)) u18)
    exact Runs.ret ⟨(⟨none, 0, .is 0⟩ : Sl), (⟨none, 0, .is 0⟩ : Sl), rfl, (Nats.nil _), (Nats.nil _), G19, (Own.nil _), (Own.nil _)⟩
  · refine Runs.new fun H18 b18 g18 => ?_
    have G19 := ((((g8.trans g9).trans g10).trans g16).trans g18)
    have b7_20 := G19.has b7
    refine Runs.step (AH.has.rd b7_20 0 rfl rfl) ?_
    refine Runs.step (AH.has.rd b7_20 1 rfl (asSl_v _)) ?_
    refine Runs.step (AH.has.rd b7_20 2 rfl (asSl_v _)) ?_
    have G21 := (((g9.trans g10).trans g16).trans g18)
    have b8_22 := G21.has b8
    refine Runs.step (AH.has.rd b8_22 0 rfl rfl) ?_
    refine Runs.step (AH.has.rd b8_22 1 rfl (asSl_v _)) ?_
    refine Runs.step (AH.has.rd b8_22 2 rfl (asSl_v _)) ?_
    refine Runs.step (AH.has.rd b8_22 0 rfl rfl) ?_
    refine Runs.step (AH.has.rd b8_22 1 rfl (asSl_v _)) ?_
    refine Runs.step (AH.has.rd b8_22 2 rfl (asSl_v _)) ?_
    refine Runs.step (AH.has.rd b7_20 0 rfl rfl) ?_
    refine Runs.step (AH.has.rd b7_20 1 rfl (asSl_v _)) ?_
    refine Runs.step (AH.has.rd b7_20 2 rfl (asSl_v _)) ?_
    obtain ⟨_, H23, e23, s23, rfl, n23, g23, o23⟩ := rational_over_spec (n2_12.grow (g16.trans g18)) (n3_13.grow (g16.trans g18)) (n5_14.grow (g16.trans g18)) (n6_15.grow (g16.trans g18)) a1 a4
    refine Runs.step e23 ?_
    refine Runs.step rfl ?_
    refine Runs.ifT rfl ?_
    refine Runs.step (seenAt rfl rfl) ?_
    refine Runs.step (seenAt rfl (asSl_v _)) ?_
    refine Runs.when (g23.same b7_20 0 3) ?_
    refine Runs.when (g23.same b8_22 0 3) ?_
    refine Runs.when (g23.same b18 0 0) ?_
    have G24 := ((g16.trans g18).trans g23)
    have n5_25 := n5_14.grow G24
    have n6_26 := n6_15.grow G24
    have n2_27 := n2_12.grow G24
    have n3_28 := n3_13.grow G24
    obtain ⟨_, H29, e29, s29, rfl, n29, g29, o29⟩ := rational_over_spec n5_25 n6_26 n2_27 n3_28 a4 a1
    refine Runs.step e29 ?_
    refine Runs.step rfl ?_
    refine Runs.ifT rfl ?_
    refine Runs.step (seenAt rfl rfl) ?_
    refine Runs.step (seenAt rfl (asSl_v _)) ?_
    refine Runs.when (g29.same (g23.has b18) 0 0) ?_
    obtain ⟨_, H30, e30, s30, rfl, n30, g30, o30⟩ := modint_Sub_spec (n23.grow g29) n29 ((rational_over' a1 x2 x3 a4 x5 x6).1) ((rational_over' a4 x5 x6 a1 x2 x3).1)
    refine Runs.step e30 ?_
    refine Runs.step rfl ?_
    refine Runs.step rfl ?_
    refine Runs.ifT rfl ?_
    refine Runs.step (seenAt rfl rfl) ?_
    refine Runs.step (seenAt rfl (asSl_v _)) ?_
    refine Runs.step (seen (avInt_int _ _)) ?_
    refine Runs.when (g30.same ((g23.trans g29).has b18) 0 0) ?_
    have G32 := ((g23.trans g29).trans g30)
    have b18_33 := G32.has b18
    refine Runs.puts b18_33 rfl fun H31 b31 u31 => ?_
    have G34 := (G11.trans g16)
    have n2_31 := (n2_27.grow (g29.trans g30)).upda (Av.of_base n2 (Nat.le_trans (G34).size (Nat.le_refl _))) u31
    have n3_31 := (n3_28.grow (g29.trans g30)).upda (Av.of_base n3 (Nat.le_trans (G34).size (Nat.le_refl _))) u31
    have n5_31 := (n5_25.grow (g29.trans g30)).upda (Av.of_base n5 (Nat.le_trans (G34).size (Nat.le_refl _))) u31
    have n6_31 := (n6_26.grow (g29.trans g30)).upda (Av.of_base n6 (Nat.le_trans (G34).size (Nat.le_refl _))) u31
    have n23_31 := (n23.grow (g29.trans g30)).upda (Av.of_own o23 (b18).lt) u31
    have n29_31 := (n29.grow g30).upda (Av.of_own o29 (g23.has b18).lt) u31
    have n30_31 := n30.upda (Av.of_own o30 ((g23.trans g29).has b18).lt) u31
    have b7_35 := G32.has b7_20
    have G36 := (((g8.trans g9).trans g10).trans g16)
    have b7_31 := AH.has.updr b7_35 (Nat.ne_of_lt (Nat.lt_of_lt_of_le (G36.has b7).lt (Nat.le_refl _))) u31
    have b8_37 := G32.has b8_22
    have G38 := ((g9.trans g10).trans g16)
    have b8_31 := AH.has.updr b8_37 (Nat.ne_of_lt (Nat.lt_of_lt_of_le (G38.has b8).lt (Nat.le_refl _))) u31
    refine Runs.step (AH.has.rd b7_31 2 rfl (asSl_v _)) ?_
    refine Runs.step (AH.has.rd b8_31 2 rfl (asSl_v _)) ?_
    obtain ⟨s39, H39, e39, n39, g39, o39⟩ := nat_Mul_spec n3_31 n6_31
    refine Runs.step e39 ?_
    refine Runs.step rfl ?_
    refine Runs.step (seen (asSl_v _)) ?_
    refine Runs.step (seen (avInt_int _ _)) ?_
    refine Runs.step (AH.has.rd (g39.has b31) 0 rfl rfl) ?_
    refine Runs.step (AH.has.rd (g39.has b31) 1 rfl (asSl_v _)) ?_
    obtain ⟨_, H40, e40, s40, s40b, rfl, n40, n40b, g40, o40, o40b⟩ := rational_Make_spec (n30_31.grow g39) n39 (((modint_Sub' ((rational_over' a1 x2 x3 a4 x5 x6).1) ((rational_over' a1 x2 x3 a4 x5 x6).2) ((rational_over' a4 x5 x6 a1 x2 x3).1) ((rational_over' a4 x5 x6 a1 x2 x3).2)).1))
    refine Runs.step e40 ?_
    refine Runs.step rfl ?_
    refine Runs.step rfl ?_
    refine Runs.ifT rfl ?_
    refine Runs.step (seenAt rfl rfl) ?_
    refine Runs.step (seenAt rfl (asSl_v _)) ?_
    refine Runs.step (seenAt rfl (asSl_v _)) ?_
    refine Runs.step (seen (avInt_int _ _)) ?_
    have G42 := ((((((((g10.trans g16).trans g18).trans g23).trans g29).trans g30).updr (Nat.le_trans ((g10.trans g16)).size (Nat.le_refl _)) u31).trans g39).trans g40)
    have b9_43 := G42.has b9
    refine Runs.puts b9_43 rfl fun H41 b41 u41 => ?_
    have n2_41 := (n2_31.grow (g39.trans g40)).upda (Av.of_base n2 (Nat.le_trans ((g7.trans g8)).size (Nat.le_refl _))) u41
    have n3_41 := (n3_31.grow (g39.trans g40)).upda (Av.of_base n3 (Nat.le_trans ((g7.trans g8)).size (Nat.le_refl _))) u41
    have n5_41 := (n5_31.grow (g39.trans g40)).upda (Av.of_base n5 (Nat.le_trans ((g7.trans g8)).size (Nat.le_refl _))) u41
    have n6_41 := (n6_31.grow (g39.trans g40)).upda (Av.of_base n6 (Nat.le_trans ((g7.trans g8)).size (Nat.le_refl _))) u41
    have G44 := ((g10.trans g16).trans g18)
    have n23_41 := (n23_31.grow (g39.trans g40)).upda (Av.of_own o23 (G44.has b9).lt) u41
    have G45 := (G44.trans g23)
    have n29_41 := (n29_31.grow (g39.trans g40)).upda (Av.of_own o29 (G45.has b9).lt) u41
    have G46 := (G45.trans g29)
    have n30_41 := (n30_31.grow (g39.trans g40)).upda (Av.of_own o30 (G46.has b9).lt) u41
    have G47 := ((G46.trans g30).updr (Nat.le_trans ((g10.trans g16)).size (Nat.le_refl _)) u31)
    have n39_41 := (n39.grow g40).upda (Av.of_own o39 (G47.has b9).lt) u41
    have G48 := (G47.trans g39)
    have n40_41 := n40.upda (Av.of_own o40 (G48.has b9).lt) u41
    have n40b_41 := n40b.upda (Av.of_own o40b (G48.has b9).lt) u41
    have b7_41 := AH.has.updr ((g39.trans g40).has b7_31) (Nat.ne_of_lt (Nat.lt_of_lt_of_le (g8.has b7).lt (Nat.le_refl _))) u41
    have b8_41 := AH.has.updr ((g39.trans g40).has b8_31) (Nat.ne_of_lt (Nat.lt_of_lt_of_le (b8).lt (Nat.le_refl _))) u41
    have G49 := (((((G24.trans g29).trans g30).updr (Nat.le_trans (g16).size (Nat.le_refl _)) u31).trans g39).trans g40)
    have b10_50 := G49.has b10
    have b10_41 := AH.has.updr b10_50 (Nat.ne_of_gt (Nat.lt_of_lt_of_le (b9).lt (Nat.le_refl _))) u41
    have b31_41 := AH.has.updr ((g39.trans g40).has b31) (Nat.ne_of_gt (Nat.lt_of_lt_of_le ((g10.trans g16).has b9).lt (Nat.le_refl _))) u41
    refine Runs.step (AH.has.rd b41 0 rfl rfl) ?_
    refine Runs.step (AH.has.rd b41 1 rfl (asSl_v _)) ?_
    refine Runs.step (AH.has.rd b41 2 rfl (asSl_v _)) ?_
    have z : rational_both__modint_Sub' a1 x2 x3 a4 x5 x6 = ((((rational_Make' (((modint_Sub' ((rational_over' a1 x2 x3 a4 x5 x6).1) ((rational_over' a1 x2 x3 a4 x5 x6).2) ((rational_over' a4 x5 x6 a1 x2 x3).1) ((rational_over' a4 x5 x6 a1 x2 x3).2)).1)) ((modint_Sub' ((rational_over' a1 x2 x3 a4 x5 x6).1) ((rational_over' a1 x2 x3 a4 x5 x6).2) ((rational_over' a4 x5 x6 a1 x2 x3).1) ((rational_over' a4 x5 x6 a1 x2 x3).2)).2.1) ((mulN x3 x6).1)).1)), (rational_Make' (((modint_Sub' ((rational_over' a1 x2 x3 a4 x5 x6).1) ((rational_over' a1 x2 x3 a4 x5 x6).2) ((rational_over' a4 x5 x6 a1 x2 x3).1) ((rational_over' a4 x5 x6 a1 x2 x3).2)).1)) ((modint_Sub' ((rational_over' a1 x2 x3 a4 x5 x6).1) ((rational_over' a1 x2 x3 a4 x5 x6).2) ((rational_over' a4 x5 x6 a1 x2 x3).1) ((rational_over' a4 x5 x6 a1 x2 x3).2)).2.1) ((mulN x3 x6).1)).2.1, (rational_Make' (((modint_Sub' ((rational_over' a1 x2 x3 a4 x5 x6).1) ((rational_over' a1 x2 x3 a4 x5 x6).2) ((rational_over' a4 x5 x6 a1 x2 x3).1) ((rational_over' a4 x5 x6 a1 x2 x3).2)).1)) ((modint_Sub' ((rational_over' a1 x2 x3 a4 x5 x6).1) ((rational_over' a1 x2 x3 a4 x5 x6).2) ((rational_over' a4 x5 x6 a1 x2 x3).1) ((rational_over' a4 x5 x6 a1 x2 x3).2)).2.1) ((mulN x3 x6).1)).2.2.1, ((rational_Make' (((modint_Sub' ((rational_over' a1 x2 x3 a4 x5 x6).1) ((rational_over' a1 x2 x3 a4 x5 x6).2) ((rational_over' a4 x5 x6 a1 x2 x3).1) ((rational_over' a4 x5 x6 a1 x2 x3).2)).1)) ((modint_Sub' ((rational_over' a1 x2 x3 a4 x5 x6).1) ((rational_over' a1 x2 x3 a4 x5 x6).2) ((rational_over' a4 x5 x6 a1 x2 x3).1) ((rational_over' a4 x5 x6 a1 x2 x3).2)).2.1) ((mulN x3 x6).1)).2.2.2)) := by unfold rational_both__modint_Sub'; exact (condF k17).trans rfl
    rw [z]
    have G51 := ((((((G34.trans g18).trans g23).trans g29).trans g30).updr (Nat.le_trans (G34).size (Nat.le_refl _)) u31).trans g39)
    have G52 := ((G51.trans g40).updr (Nat.le_trans ((g7.trans g8)).size (Nat.le_refl _)) u41)
    exact Runs.ret ⟨s40, s40b, rfl, n40_41, n40b_41, G52, (o40.of_le G51), (o40b.of_le G51)⟩

def rational_Sub' (a1 : Bool) (x2 : List Nat) (x3 : List Nat) (a4 : Bool) (x5 : List Nat) (x6 : List Nat) : Bool × List Nat × List Nat × Int :=
  ((((rational_both__modint_Sub' a1 x2 x3 a4 x5 x6).1)), (rational_both__modint_Sub' a1 x2 x3 a4 x5 x6).2.1, (rational_both__modint_Sub' a1 x2 x3 a4 x5 x6).2.2.1, ((rational_both__modint_Sub' a1 x2 x3 a4 x5 x6).2.2.2))

theorem rational_Sub_spec {h : AH} {a2 : Sl} {x2 : List Nat} {a3 : Sl} {x3 : List Nat} {a5 : Sl} {x5 : List Nat} {a6 : Sl} {x6 : List Nat} (n2 : Nats h a2 x2) (n3 : Nats h a3 x3) (n5 : Nats h a5 x5) (n6 : Nats h a6 x6) (a1 : Bool) (a4 : Bool) : Runs (go (.fn F.rational_Sub [.agg [.bool a1, a2.v, a3.v], .agg [.bool a4, a5.v, a6.v]]) h) fun v h' => ∃ s1 : Sl, ∃ s2 : Sl, v = .tup [.agg [.bool (rational_Sub' a1 x2 x3 a4 x5 x6).1, s1.v, s2.v], .int .i64 (rational_Sub' a1 x2 x3 a4 x5 x6).2.2.2] ∧ Nats h' s1 ((rational_Sub' a1 x2 x3 a4 x5 x6).2.1) ∧ Nats h' s2 ((rational_Sub' a1 x2 x3 a4 x5 x6).2.2.1) ∧ Grow h h' ∧ Own h s1 ∧ Own h s2 := by
  rw [u_rational_Sub]
  refine Runs.new fun H7 b7 g7 => ?_
  refine Runs.new fun H8 b8 g8 => ?_
  refine Runs.new fun H9 b9 g9 => ?_
  refine Runs.step (AH.has.rd ((g8.trans g9).has b7) 0 rfl rfl) ?_
  refine Runs.step (AH.has.rd ((g8.trans g9).has b7) 1 rfl (asSl_v _)) ?_
  refine Runs.step (AH.has.rd ((g8.trans g9).has b7) 2 rfl (asSl_v _)) ?_
  refine Runs.step (AH.has.rd (g9.has b8) 0 rfl rfl) ?_
  refine Runs.step (AH.has.rd (g9.has b8) 1 rfl (asSl_v _)) ?_
  refine Runs.step (AH.has.rd (g9.has b8) 2 rfl (asSl_v _)) ?_
  have G10 := ((g7.trans g8).trans g9)
  have n2_11 := n2.grow G10
  have n3_12 := n3.grow G10
  have n5_13 := n5.grow G10
  have n6_14 := n6.grow G10
  obtain ⟨_, H15, e15, s15, s15b, rfl, n15, n15b, g15, o15, o15b⟩ := rational_both__modint_Sub_spec n2_11 n3_12 n5_13 n6_14 a1 a4
  refine Runs.step e15 ?_
  refine Runs.step rfl ?_
  refine Runs.step rfl ?_
  refine Runs.ifT rfl ?_
  refine Runs.step (seenAt rfl rfl) ?_
  refine Runs.step (seenAt rfl (asSl_v _)) ?_
  refine Runs.step (seenAt rfl (asSl_v _)) ?_
  refine Runs.step (seen (avInt_int _ _)) ?_
  refine Runs.puts (g15.has b9) rfl fun H16 b16 u16 => ?_
  have n2_16 := (n2_11.grow g15).upda (Av.of_base n2 (Nat.le_trans ((g7.trans g8)).size (Nat.le_refl _))) u16
  have n3_16 := (n3_12.grow g15).upda (Av.of_base n3 (Nat.le_trans ((g7.trans g8)).size (Nat.le_refl _))) u16
  have n5_16 := (n5_13.grow g15).upda (Av.of_base n5 (Nat.le_trans ((g7.trans g8)).size (Nat.le_refl _))) u16
  have n6_16 := (n6_14.grow g15).upda (Av.of_base n6 (Nat.le_trans ((g7.trans g8)).size (Nat.le_refl _))) u16
  have n15_16 := n15.upda (Av.of_own o15 (b9).lt) u16
  have n15b_16 := n15b.upda (Av.of_own o15b (b9).lt) u16
  refine Runs.step (AH.has.rd b16 0 rfl rfl) ?_
  refine Runs.step (AH.has.rd b16 1 rfl (asSl_v _)) ?_
  refine Runs.step (AH.has.rd b16 2 rfl (asSl_v _)) ?_
  have z : rational_Sub' a1 x2 x3 a4 x5 x6 = ((((rational_both__modint_Sub' a1 x2 x3 a4 x5 x6).1)), (rational_both__modint_Sub' a1 x2 x3 a4 x5 x6).2.1, (rational_both__modint_Sub' a1 x2 x3 a4 x5 x6).2.2.1, ((rational_both__modint_Sub' a1 x2 x3 a4 x5 x6).2.2.2)) := by unfold rational_Sub'; exact rfl
  rw [z]
  have G17 := ((G10.trans g15).updr (Nat.le_trans ((g7.trans g8)).size (Nat.le_refl _)) u16)
  exact Runs.ret ⟨s15, s15b, rfl, n15_16, n15b_16, G17, (o15.of_le G10), (o15b.of_le G10)⟩

theorem rational_Sub_t {h : AH} {a2 : Sl} {x2 : List Nat} {a3 : Sl} {x3 : List Nat} {a5 : Sl} {x5 : List Nat} {a6 : Sl} {x6 : List Nat} (n2 : Nats h a2 x2) (n3 : Nats h a3 x3) (n5 : Nats h a5 x5) (n6 : Nats h a6 x6) {a1 : Bool} {a4 : Bool} {r : _} (q : rational_Sub' a1 x2 x3 a4 x5 x6 = r) : Runs (go (.fn F.rational_Sub [.agg [.bool a1, a2.v, a3.v], .agg [.bool a4, a5.v, a6.v]]) h) fun v h' => ∃ s1 : Sl, ∃ s2 : Sl, v = .tup [.agg [.bool r.1, s1.v, s2.v], .int .i64 r.2.2.2] ∧ Nats h' s1 (r.2.1) ∧ Nats h' s2 (r.2.2.1) ∧ Grow h h' ∧ Own h s1 ∧ Own h s2 := by
  subst q
  exact rational_Sub_spec n2 n3 n5 n6 a1 a4

def rational_Mul' (a1 : Bool) (x2 : List Nat) (x3 : List Nat) (a4 : Bool) (x5 : List Nat) (x6 : List Nat) : Bool × List Nat × List Nat × Int :=
  cond (!((rational_Right' a1 x2 x3 && rational_Right' a4 x5 x6))) ((false, [], [], 1)) (((((rational_Make' (((modint_Mul' a1 x2 a4 x5).1)) ((modint_Mul' a1 x2 a4 x5).2.1) ((mulN x3 x6).1)).1)), (rational_Make' (((modint_Mul' a1 x2 a4 x5).1)) ((modint_Mul' a1 x2 a4 x5).2.1) ((mulN x3 x6).1)).2.1, (rational_Make' (((modint_Mul' a1 x2 a4 x5).1)) ((modint_Mul' a1 x2 a4 x5).2.1) ((mulN x3 x6).1)).2.2.1, ((rational_Make' (((modint_Mul' a1 x2 a4 x5).1)) ((modint_Mul' a1 x2 a4 x5).2.1) ((mulN x3 x6).1)).2.2.2)))

theorem rational_Mul_spec {h : AH} {a2 : Sl} {x2 : List Nat} {a3 : Sl} {x3 : List Nat} {a5 : Sl} {x5 : List Nat} {a6 : Sl} {x6 : List Nat} (n2 : Nats h a2 x2) (n3 : Nats h a3 x3) (n5 : Nats h a5 x5) (n6 : Nats h a6 x6) (a1 : Bool) (a4 : Bool) : Runs (go (.fn F.rational_Mul [.agg [.bool a1, a2.v, a3.v], .agg [.bool a4, a5.v, a6.v]]) h) fun v h' => ∃ s1 : Sl, ∃ s2 : Sl, v = .tup [.agg [.bool (rational_Mul' a1 x2 x3 a4 x5 x6).1, s1.v, s2.v], .int .i64 (rational_Mul' a1 x2 x3 a4 x5 x6).2.2.2] ∧ Nats h' s1 ((rational_Mul' a1 x2 x3 a4 x5 x6).2.1) ∧ Nats h' s2 ((rational_Mul' a1 x2 x3 a4 x5 x6).2.2.1) ∧ Grow h h' ∧ Own h s1 ∧ Own h s2 := by
  rw [u_rational_Mul]
  refine Runs.new fun H7 b7 g7 => ?_
  refine Runs.new fun H8 b8 g8 => ?_
  refine Runs.new fun H9 b9 g9 => ?_
  refine Runs.step (AH.has.rd ((g8.trans g9).has b7) 0 rfl rfl) ?_
  refine Runs.step (AH.has.rd ((g8.trans g9).has b7) 1 rfl (asSl_v _)) ?_
  refine Runs.step (AH.has.rd ((g8.trans g9).has b7) 2 rfl (asSl_v _)) ?_
  refine Runs.step (AH.has.rd (g9.has b8) 0 rfl rfl) ?_
  refine Runs.step (AH.has.rd (g9.has b8) 1 rfl (asSl_v _)) ?_
  refine Runs.step (AH.has.rd (g9.has b8) 2 rfl (asSl_v _)) ?_
  refine Runs.new fun H10 b10 g10 => ?_
  have G11 := (((g7.trans g8).trans g9).trans g10)
  have n2_12 := n2.grow G11
  have n3_13 := n3.grow G11
  have n5_14 := n5.grow G11
  have n6_15 := n6.grow G11
  obtain ⟨H16, e16, g16⟩ := rational_right2_spec b10 n2_12 n3_13 n5_14 n6_15
  refine Runs.step e16 ?_
  refine Runs.step (seen rfl) ?_
  refine Runs.cond (fun k17 => ?_) (fun k17 => ?_)
  · refine Runs.puts ((g10.trans g16).has b9) rfl fun H18 b18 u18 => ?_
    have n2_18 := (n2_12.grow g16).upda (Av.of_base n2 (Nat.le_trans ((g7.trans g8)).size (Nat.le_refl _))) u18
    have n3_18 := (n3_13.grow g16).upda (Av.of_base n3 (Nat.le_trans ((g7.trans g8)).size (Nat.le_refl _))) u18
    have n5_18 := (n5_14.grow g16).upda (Av.of_base n5 (Nat.le_trans ((g7.trans g8)).size (Nat.le_refl _))) u18
    have n6_18 := (n6_15.grow g16).upda (Av.of_base n6 (Nat.le_trans ((g7.trans g8)).size (Nat.le_refl _))) u18
    have b10_18 := AH.has.updr (g16.has b10) (Nat.ne_of_gt (Nat.lt_of_lt_of_le (b9).lt (Nat.le_refl _))) u18
    refine Runs.step (AH.has.rd b18 0 rfl rfl) ?_
    refine Runs.step (AH.has.rd b18 1 rfl (asSl_v _)) ?_
    refine Runs.step (AH.has.rd b18 2 rfl (asSl_v _)) ?_
    have z : rational_Mul' a1 x2 x3 a4 x5 x6 = (false, [], [], 1) := by unfold rational_Mul'; exact (condT k17).trans rfl
    rw [z]
    have G19 := ((G11.trans g16).updr (Nat.le_trans ((g7.trans g8)).size (Nat.le_refl _)) u18)
    exact Runs.ret ⟨(⟨none, 0, .is 0⟩ : Sl), (⟨none, 0, .is 0⟩ : Sl), rfl, (Nats.nil _), (Nats.nil _), G19, (Own.nil _), (Own.nil _)⟩
  · have G18 := (((g8.trans g9).trans g10).trans g16)
    have b7_19 := G18.has b7
    refine Runs.step (AH.has.rd b7_19 0 rfl rfl) ?_
    refine Runs.step (AH.has.rd b7_19 1 rfl (asSl_v _)) ?_
    have G20 := ((g9.trans g10).trans g16)
    have b8_21 := G20.has b8
    refine Runs.step (AH.has.rd b8_21 0 rfl rfl) ?_
    refine Runs.step (AH.has.rd b8_21 1 rfl (asSl_v _)) ?_
    obtain ⟨_, H22, e22, s22, rfl, n22, g22, o22⟩ := modint_Mul_spec (n2_12.grow g16) (n5_14.grow g16) a1 a4
    refine Runs.step e22 ?_
    refine Runs.step rfl ?_
    refine Runs.step rfl ?_
    refine Runs.ifT rfl ?_
    refine Runs.step (seenAt rfl rfl) ?_
    refine Runs.step (seenAt rfl (asSl_v _)) ?_
    refine Runs.step (seen (avInt_int _ _)) ?_
    refine Runs.new fun H23 b23 g23 => ?_
    refine Runs.puts b23 rfl fun H24 b24 u24 => ?_
    have G25 := ((g22.trans g23).updr (Nat.le_trans (g22).size (Nat.le_refl _)) u24)
    have b7_26 := G25.has b7_19
    refine Runs.step (AH.has.rd b7_26 2 rfl (asSl_v _)) ?_
    have b8_27 := G25.has b8_21
    refine Runs.step (AH.has.rd b8_27 2 rfl (asSl_v _)) ?_
    have G28 := (((g16.trans g22).trans g23).updr (Nat.le_trans ((g16.trans g22)).size (Nat.le_refl _)) u24)
    have n3_29 := n3_13.grow G28
    have n6_30 := n6_15.grow G28
    obtain ⟨s31, H31, e31, n31, g31, o31⟩ := nat_Mul_spec n3_29 n6_30
    refine Runs.step e31 ?_
    refine Runs.step rfl ?_
    refine Runs.step (seen (asSl_v _)) ?_
    refine Runs.step (seen (avInt_int _ _)) ?_
    refine Runs.step (AH.has.rd (g31.has b24) 0 rfl rfl) ?_
    refine Runs.step (AH.has.rd (g31.has b24) 1 rfl (asSl_v _)) ?_
    have G32 := ((g23.updr (Nat.le_refl _) u24).trans g31)
    have n22_33 := n22.grow G32
    obtain ⟨_, H34, e34, s34, s34b, rfl, n34, n34b, g34, o34, o34b⟩ := rational_Make_spec n22_33 n31 (((modint_Mul' a1 x2 a4 x5).1))
    refine Runs.step e34 ?_
    refine Runs.step rfl ?_
    refine Runs.step rfl ?_
    refine Runs.ifT rfl ?_
    refine Runs.step (seenAt rfl rfl) ?_
    refine Runs.step (seenAt rfl (asSl_v _)) ?_
    refine Runs.step (seenAt rfl (asSl_v _)) ?_
    refine Runs.step (seen (avInt_int _ _)) ?_
    have G36 := ((g10.trans g16).trans g22)
    have G37 := ((((((g10.trans g16).trans g22).trans g23).updr (Nat.le_trans (G36).size (Nat.le_refl _)) u24).trans g31).trans g34)
    have b9_38 := G37.has b9
    refine Runs.puts b9_38 rfl fun H35 b35 u35 => ?_
    have G39 := ((G28.trans g31).trans g34)
    have n2_40 := n2_12.grow G39
    have n2_35 := n2_40.upda (Av.of_base n2 (Nat.le_trans ((g7.trans g8)).size (Nat.le_refl _))) u35
    have n3_35 := (n3_29.grow (g31.trans g34)).upda (Av.of_base n3 (Nat.le_trans ((g7.trans g8)).size (Nat.le_refl _))) u35
    have n5_41 := n5_14.grow G39
    have n5_35 := n5_41.upda (Av.of_base n5 (Nat.le_trans ((g7.trans g8)).size (Nat.le_refl _))) u35
    have n6_35 := (n6_30.grow (g31.trans g34)).upda (Av.of_base n6 (Nat.le_trans ((g7.trans g8)).size (Nat.le_refl _))) u35
    have n22_35 := (n22_33.grow g34).upda (Av.of_own o22 ((g10.trans g16).has b9).lt) u35
    have G42 := ((G36.trans g23).updr (Nat.le_trans (G36).size (Nat.le_refl _)) u24)
    have n31_35 := (n31.grow g34).upda (Av.of_own o31 (G42.has b9).lt) u35
    have G43 := (G42.trans g31)
    have n34_35 := n34.upda (Av.of_own o34 (G43.has b9).lt) u35
    have n34b_35 := n34b.upda (Av.of_own o34b (G43.has b9).lt) u35
    have b7_35 := AH.has.updr ((g31.trans g34).has b7_26) (Nat.ne_of_lt (Nat.lt_of_lt_of_le (g8.has b7).lt (Nat.le_refl _))) u35
    have b8_35 := AH.has.updr ((g31.trans g34).has b8_27) (Nat.ne_of_lt (Nat.lt_of_lt_of_le (b8).lt (Nat.le_refl _))) u35
    have b10_44 := G39.has b10
    have b10_35 := AH.has.updr b10_44 (Nat.ne_of_gt (Nat.lt_of_lt_of_le (b9).lt (Nat.le_refl _))) u35
    have b24_35 := AH.has.updr ((g31.trans g34).has b24) (Nat.ne_of_gt (Nat.lt_of_lt_of_le (G36.has b9).lt (Nat.le_refl _))) u35
    refine Runs.step (AH.has.rd b35 0 rfl rfl) ?_
    refine Runs.step (AH.has.rd b35 1 rfl (asSl_v _)) ?_
    refine Runs.step (AH.has.rd b35 2 rfl (asSl_v _)) ?_
    have z : rational_Mul' a1 x2 x3 a4 x5 x6 = ((((rational_Make' (((modint_Mul' a1 x2 a4 x5).1)) ((modint_Mul' a1 x2 a4 x5).2.1) ((mulN x3 x6).1)).1)), (rational_Make' (((modint_Mul' a1 x2 a4 x5).1)) ((modint_Mul' a1 x2 a4 x5).2.1) ((mulN x3 x6).1)).2.1, (rational_Make' (((modint_Mul' a1 x2 a4 x5).1)) ((modint_Mul' a1 x2 a4 x5).2.1) ((mulN x3 x6).1)).2.2.1, ((rational_Make' (((modint_Mul' a1 x2 a4 x5).1)) ((modint_Mul' a1 x2 a4 x5).2.1) ((mulN x3 x6).1)).2.2.2)) := by unfold rational_Mul'; exact (condF k17).trans rfl
    rw [z]
    have G45 := ((G11.trans g16).trans g22)
    have G46 := (((((G11.trans g16).trans g22).trans g23).updr (Nat.le_trans (G45).size (Nat.le_refl _)) u24).trans g31)
    have G47 := ((G46.trans g34).updr (Nat.le_trans ((g7.trans g8)).size (Nat.le_refl _)) u35)
    exact Runs.ret ⟨s34, s34b, rfl, n34_35, n34b_35, G47, (o34.of_le G46), (o34b.of_le G46)⟩

theorem rational_Mul_t {h : AH} {a2 : Sl} {x2 : List Nat} {a3 : Sl} {x3 : List Nat} {a5 : Sl} {x5 : List Nat} {a6 : Sl} {x6 : List Nat} (n2 : Nats h a2 x2) (n3 : Nats h a3 x3) (n5 : Nats h a5 x5) (n6 : Nats h a6 x6) {a1 : Bool} {a4 : Bool} {r : _} (q : rational_Mul' a1 x2 x3 a4 x5 x6 = r) : Runs (go (.fn F.rational_Mul [.agg [.bool a1, a2.v, a3.v], .agg [.bool a4, a5.v, a6.v]]) h) fun v h' => ∃ s1 : Sl, ∃ s2 : Sl, v = .tup [.agg [.bool r.1, s1.v, s2.v], .int .i64 r.2.2.2] ∧ Nats h' s1 (r.2.1) ∧ Nats h' s2 (r.2.2.1) ∧ Grow h h' ∧ Own h s1 ∧ Own h s2 := by
  subst q
  exact rational_Mul_spec n2 n3 n5 n6 a1 a4

def ref08_Add' (a1 : Bool) (x2 : List Nat) (x3 : List Nat) (a4 : Bool) (x5 : List Nat) (x6 : List Nat) : Bool × List Nat × List Nat × Int :=
  cond (!((rational_Right' a1 x2 x3))) ((false, [], [], 1)) (cond (!((rational_Right' a4 x5 x6))) ((false, [], [], 1)) (((((rational_Make' (((modint_Add' ((rational_over' a1 x2 x3 a4 x5 x6).1) ((rational_over' a1 x2 x3 a4 x5 x6).2) ((rational_over' a4 x5 x6 a1 x2 x3).1) ((rational_over' a4 x5 x6 a1 x2 x3).2)).1)) ((modint_Add' ((rational_over' a1 x2 x3 a4 x5 x6).1) ((rational_over' a1 x2 x3 a4 x5 x6).2) ((rational_over' a4 x5 x6 a1 x2 x3).1) ((rational_over' a4 x5 x6 a1 x2 x3).2)).2.1) ((mulN x3 x6).1)).1)), (rational_Make' (((modint_Add' ((rational_over' a1 x2 x3 a4 x5 x6).1) ((rational_over' a1 x2 x3 a4 x5 x6).2) ((rational_over' a4 x5 x6 a1 x2 x3).1) ((rational_over' a4 x5 x6 a1 x2 x3).2)).1)) ((modint_Add' ((rational_over' a1 x2 x3 a4 x5 x6).1) ((rational_over' a1 x2 x3 a4 x5 x6).2) ((rational_over' a4 x5 x6 a1 x2 x3).1) ((rational_over' a4 x5 x6 a1 x2 x3).2)).2.1) ((mulN x3 x6).1)).2.1, (rational_Make' (((modint_Add' ((rational_over' a1 x2 x3 a4 x5 x6).1) ((rational_over' a1 x2 x3 a4 x5 x6).2) ((rational_over' a4 x5 x6 a1 x2 x3).1) ((rational_over' a4 x5 x6 a1 x2 x3).2)).1)) ((modint_Add' ((rational_over' a1 x2 x3 a4 x5 x6).1) ((rational_over' a1 x2 x3 a4 x5 x6).2) ((rational_over' a4 x5 x6 a1 x2 x3).1) ((rational_over' a4 x5 x6 a1 x2 x3).2)).2.1) ((mulN x3 x6).1)).2.2.1, ((rational_Make' (((modint_Add' ((rational_over' a1 x2 x3 a4 x5 x6).1) ((rational_over' a1 x2 x3 a4 x5 x6).2) ((rational_over' a4 x5 x6 a1 x2 x3).1) ((rational_over' a4 x5 x6 a1 x2 x3).2)).1)) ((modint_Add' ((rational_over' a1 x2 x3 a4 x5 x6).1) ((rational_over' a1 x2 x3 a4 x5 x6).2) ((rational_over' a4 x5 x6 a1 x2 x3).1) ((rational_over' a4 x5 x6 a1 x2 x3).2)).2.1) ((mulN x3 x6).1)).2.2.2))))

theorem ref08_Add_spec {h : AH} {a2 : Sl} {x2 : List Nat} {a3 : Sl} {x3 : List Nat} {a5 : Sl} {x5 : List Nat} {a6 : Sl} {x6 : List Nat} (n2 : Nats h a2 x2) (n3 : Nats h a3 x3) (n5 : Nats h a5 x5) (n6 : Nats h a6 x6) (a1 : Bool) (a4 : Bool) : Runs (go (.fn F.ref08_Add [.agg [.bool a1, a2.v, a3.v], .agg [.bool a4, a5.v, a6.v]]) h) fun v h' => ∃ s1 : Sl, ∃ s2 : Sl, v = .tup [.agg [.bool (ref08_Add' a1 x2 x3 a4 x5 x6).1, s1.v, s2.v], .int .i64 (ref08_Add' a1 x2 x3 a4 x5 x6).2.2.2] ∧ Nats h' s1 ((ref08_Add' a1 x2 x3 a4 x5 x6).2.1) ∧ Nats h' s2 ((ref08_Add' a1 x2 x3 a4 x5 x6).2.2.1) ∧ Grow h h' ∧ Own h s1 ∧ Own h s2 := by
  rw [u_ref08_Add]
  refine Runs.new fun H7 b7 g7 => ?_
  refine Runs.new fun H8 b8 g8 => ?_
  refine Runs.new fun H9 b9 g9 => ?_
  refine Runs.step (AH.has.rd ((g8.trans g9).has b7) 0 rfl rfl) ?_
  refine Runs.step (AH.has.rd ((g8.trans g9).has b7) 1 rfl (asSl_v _)) ?_
  refine Runs.step (AH.has.rd ((g8.trans g9).has b7) 2 rfl (asSl_v _)) ?_
  have G10 := ((g7.trans g8).trans g9)
  have n2_11 := n2.grow G10
  have n3_12 := n3.grow G10
  obtain ⟨_, H13, e13, rfl, g13⟩ := ref08_Right_is n2_11 n3_12 a1
  refine Runs.step e13 ?_
  refine Runs.step (seen rfl) ?_
  refine Runs.step (AH.has.rd ((g9.trans g13).has b8) 0 rfl rfl) ?_
  refine Runs.step (AH.has.rd ((g9.trans g13).has b8) 1 rfl (asSl_v _)) ?_
  refine Runs.step (AH.has.rd ((g9.trans g13).has b8) 2 rfl (asSl_v _)) ?_
  have G14 := (G10.trans g13)
  have n5_15 := n5.grow G14
  have n6_16 := n6.grow G14
  obtain ⟨_, H17, e17, rfl, g17⟩ := ref08_Right_is n5_15 n6_16 a4
  refine Runs.step e17 ?_
  refine Runs.step (seen rfl) ?_
  refine Runs.cond (fun k18 => ?_) (fun k18 => ?_)
  · refine Runs.puts ((g13.trans g17).has b9) rfl fun H19 b19 u19 => ?_
    have n2_19 := (n2_11.grow (g13.trans g17)).upda (Av.of_base n2 (Nat.le_trans ((g7.trans g8)).size (Nat.le_refl _))) u19
    have n3_19 := (n3_12.grow (g13.trans g17)).upda (Av.of_base n3 (Nat.le_trans ((g7.trans g8)).size (Nat.le_refl _))) u19
    have n5_19 := (n5_15.grow g17).upda (Av.of_base n5 (Nat.le_trans ((g7.trans g8)).size (Nat.le_refl _))) u19
    have n6_19 := (n6_16.grow g17).upda (Av.of_base n6 (Nat.le_trans ((g7.trans g8)).size (Nat.le_refl _))) u19
    refine Runs.step (AH.has.rd b19 0 rfl rfl) ?_
    refine Runs.step (AH.has.rd b19 1 rfl (asSl_v _)) ?_
    refine Runs.step (AH.has.rd b19 2 rfl (asSl_v _)) ?_
    have z : ref08_Add' a1 x2 x3 a4 x5 x6 = (false, [], [], 1) := by unfold ref08_Add'; exact (condT k18).trans rfl
    rw [z]
    have G20 := ((G14.trans g17).updr (Nat.le_trans ((g7.trans g8)).size (Nat.le_refl _)) u19)
    exact Runs.ret ⟨(⟨none, 0, .is 0⟩ : Sl), (⟨none, 0, .is 0⟩ : Sl), rfl, (Nats.nil _), (Nats.nil _), G20, (Own.nil _), (Own.nil _)⟩
  · refine Runs.cond (fun k19 => ?_) (fun k19 => ?_)
    · refine Runs.puts ((g13.trans g17).has b9) rfl fun H20 b20 u20 => ?_
      have n2_20 := (n2_11.grow (g13.trans g17)).upda (Av.of_base n2 (Nat.le_trans ((g7.trans g8)).size (Nat.le_refl _))) u20
      have n3_20 := (n3_12.grow (g13.trans g17)).upda (Av.of_base n3 (Nat.le_trans ((g7.trans g8)).size (Nat.le_refl _))) u20
      have n5_20 := (n5_15.grow g17).upda (Av.of_base n5 (Nat.le_trans ((g7.trans g8)).size (Nat.le_refl _))) u20
      have n6_20 := (n6_16.grow g17).upda (Av.of_base n6 (Nat.le_trans ((g7.trans g8)).size (Nat.le_refl _))) u20
      refine Runs.step (AH.has.rd b20 0 rfl rfl) ?_
      refine Runs.step (AH.has.rd b20 1 rfl (asSl_v _)) ?_
      refine Runs.step (AH.has.rd b20 2 rfl (asSl_v _)) ?_
      have z : ref08_Add' a1 x2 x3 a4 x5 x6 = (false, [], [], 1) := by unfold ref08_Add'; exact (condF k18).trans ((condT k19).trans rfl)
      rw [z]
      have G21 := ((G14.trans g17).updr (Nat.le_trans ((g7.trans g8)).size (Nat.le_refl _)) u20)
      exact Runs.ret ⟨(⟨none, 0, .is 0⟩ : Sl), (⟨none, 0, .is 0⟩ : Sl), rfl, (Nats.nil _), (Nats.nil _), G21, (Own.nil _), (Own.nil _)⟩
    · refine Runs.new fun H20 b20 g20 => ?_
      have G21 := ((((g8.trans g9).trans g13).trans g17).trans g20)
      have b7_22 := G21.has b7
      refine Runs.step (AH.has.rd b7_22 0 rfl rfl) ?_
      refine Runs.step (AH.has.rd b7_22 1 rfl (asSl_v _)) ?_
      refine Runs.step (AH.has.rd b7_22 2 rfl (asSl_v _)) ?_
      have G23 := (((g9.trans g13).trans g17).trans g20)
      have b8_24 := G23.has b8
      refine Runs.step (AH.has.rd b8_24 0 rfl rfl) ?_
      refine Runs.step (AH.has.rd b8_24 1 rfl (asSl_v _)) ?_
      refine Runs.step (AH.has.rd b8_24 2 rfl (asSl_v _)) ?_
      refine Runs.step (AH.has.rd b8_24 0 rfl rfl) ?_
      refine Runs.step (AH.has.rd b8_24 1 rfl (asSl_v _)) ?_
      refine Runs.step (AH.has.rd b8_24 2 rfl (asSl_v _)) ?_
      refine Runs.step (AH.has.rd b7_22 0 rfl rfl) ?_
      refine Runs.step (AH.has.rd b7_22 1 rfl (asSl_v _)) ?_
      refine Runs.step (AH.has.rd b7_22 2 rfl (asSl_v _)) ?_
      have G25 := ((g13.trans g17).trans g20)
      have n2_26 := n2_11.grow G25
      have n3_27 := n3_12.grow G25
      obtain ⟨_, H28, e28, s28, rfl, n28, g28, o28⟩ := ref08_over_is n2_26 n3_27 (n5_15.grow (g17.trans g20)) (n6_16.grow (g17.trans g20)) a1 a4
      refine Runs.step e28 ?_
      refine Runs.step rfl ?_
      refine Runs.ifT rfl ?_
      refine Runs.step (seenAt rfl rfl) ?_
      refine Runs.step (seenAt rfl (asSl_v _)) ?_
      refine Runs.when (g28.same b7_22 0 3) ?_
      refine Runs.when (g28.same b8_24 0 3) ?_
      refine Runs.when (g28.same b20 0 0) ?_
      have G29 := ((g17.trans g20).trans g28)
      have n5_30 := n5_15.grow G29
      have n6_31 := n6_16.grow G29
      obtain ⟨_, H32, e32, s32, rfl, n32, g32, o32⟩ := ref08_over_is n5_30 n6_31 (n2_26.grow g28) (n3_27.grow g28) a4 a1
      refine Runs.step e32 ?_
      refine Runs.step rfl ?_
      refine Runs.ifT rfl ?_
      refine Runs.step (seenAt rfl rfl) ?_
      refine Runs.step (seenAt rfl (asSl_v _)) ?_
      refine Runs.when (g32.same (g28.has b20) 0 0) ?_
      obtain ⟨_, H33, e33, s33, rfl, n33, g33, o33⟩ := ref03_Add_is (n28.grow g32) n32 ((rational_over' a1 x2 x3 a4 x5 x6).1) ((rational_over' a4 x5 x6 a1 x2 x3).1)
      refine Runs.step e33 ?_
      refine Runs.step rfl ?_
      refine Runs.step rfl ?_
      refine Runs.ifT rfl ?_
      refine Runs.step (seenAt rfl rfl) ?_
      refine Runs.step (seenAt rfl (asSl_v _)) ?_
      refine Runs.step (seen (avInt_int _ _)) ?_
      refine Runs.when (g33.same ((g28.trans g32).has b20) 0 0) ?_
      have G35 := ((g28.trans g32).trans g33)
      have b20_36 := G35.has b20
      refine Runs.puts b20_36 rfl fun H34 b34 u34 => ?_
      have G37 := (G14.trans g17)
      have n2_38 := n2_26.grow G35
      have n2_34 := n2_38.upda (Av.of_base n2 (Nat.le_trans (G37).size (Nat.le_refl _))) u34
      have n3_39 := n3_27.grow G35
      have n3_34 := n3_39.upda (Av.of_base n3 (Nat.le_trans (G37).size (Nat.le_refl _))) u34
      have n5_34 := (n5_30.grow (g32.trans g33)).upda (Av.of_base n5 (Nat.le_trans (G37).size (Nat.le_refl _))) u34
      have n6_34 := (n6_31.grow (g32.trans g33)).upda (Av.of_base n6 (Nat.le_trans (G37).size (Nat.le_refl _))) u34
      have n28_34 := (n28.grow (g32.trans g33)).upda (Av.of_own o28 (b20).lt) u34
      have n32_34 := (n32.grow g33).upda (Av.of_own o32 (g28.has b20).lt) u34
      have n33_34 := n33.upda (Av.of_own o33 ((g28.trans g32).has b20).lt) u34
      have b7_40 := G35.has b7_22
      have G41 := (((g8.trans g9).trans g13).trans g17)
      have b7_34 := AH.has.updr b7_40 (Nat.ne_of_lt (Nat.lt_of_lt_of_le (G41.has b7).lt (Nat.le_refl _))) u34
      have b8_42 := G35.has b8_24
      have G43 := ((g9.trans g13).trans g17)
      have b8_34 := AH.has.updr b8_42 (Nat.ne_of_lt (Nat.lt_of_lt_of_le (G43.has b8).lt (Nat.le_refl _))) u34
      refine Runs.step (AH.has.rd b7_34 2 rfl (asSl_v _)) ?_
      refine Runs.step (AH.has.rd b8_34 2 rfl (asSl_v _)) ?_
      obtain ⟨s44, H44, e44, n44, g44, o44⟩ := ref01_Mul_spec n3_34 n6_34
      refine Runs.step e44 ?_
      refine Runs.step rfl ?_
      refine Runs.step (seen (asSl_v _)) ?_
      refine Runs.step (seen (avInt_int _ _)) ?_
      refine Runs.step (AH.has.rd (g44.has b34) 0 rfl rfl) ?_
      refine Runs.step (AH.has.rd (g44.has b34) 1 rfl (asSl_v _)) ?_
      obtain ⟨_, H45, e45, s45, s45b, rfl, n45, n45b, g45, o45, o45b⟩ := ref08_Make_is (n33_34.grow g44) n44 (((modint_Add' ((rational_over' a1 x2 x3 a4 x5 x6).1) ((rational_over' a1 x2 x3 a4 x5 x6).2) ((rational_over' a4 x5 x6 a1 x2 x3).1) ((rational_over' a4 x5 x6 a1 x2 x3).2)).1))
      refine Runs.step e45 ?_
      refine Runs.step rfl ?_
      refine Runs.step rfl ?_
      refine Runs.ifT rfl ?_
      refine Runs.step (seenAt rfl rfl) ?_
      refine Runs.step (seenAt rfl (asSl_v _)) ?_
      refine Runs.step (seenAt rfl (asSl_v _)) ?_
      refine Runs.step (seen (avInt_int _ _)) ?_
      have G47 := ((((((G25.trans g28).trans g32).trans g33).updr (Nat.le_trans ((g13.trans g17)).size (Nat.le_refl _)) u34).trans g44).trans g45)
      have b9_48 := G47.has b9
      refine Runs.puts b9_48 rfl fun H46 b46 u46 => ?_
      have n2_46 := (n2_34.grow (g44.trans g45)).upda (Av.of_base n2 (Nat.le_trans ((g7.trans g8)).size (Nat.le_refl _))) u46
      have n3_46 := (n3_34.grow (g44.trans g45)).upda (Av.of_base n3 (Nat.le_trans ((g7.trans g8)).size (Nat.le_refl _))) u46
      have n5_46 := (n5_34.grow (g44.trans g45)).upda (Av.of_base n5 (Nat.le_trans ((g7.trans g8)).size (Nat.le_refl _))) u46
      have n6_46 := (n6_34.grow (g44.trans g45)).upda (Av.of_base n6 (Nat.le_trans ((g7.trans g8)).size (Nat.le_refl _))) u46
      have n28_46 := (n28_34.grow (g44.trans g45)).upda (Av.of_own o28 (G25.has b9).lt) u46
      have G49 := (G25.trans g28)
      have n32_46 := (n32_34.grow (g44.trans g45)).upda (Av.of_own o32 (G49.has b9).lt) u46
      have G50 := (G49.trans g32)
      have n33_46 := (n33_34.grow (g44.trans g45)).upda (Av.of_own o33 (G50.has b9).lt) u46
      have G51 := ((G50.trans g33).updr (Nat.le_trans ((g13.trans g17)).size (Nat.le_refl _)) u34)
      have n44_46 := (n44.grow g45).upda (Av.of_own o44 (G51.has b9).lt) u46
      have G52 := (G51.trans g44)
      have n45_46 := n45.upda (Av.of_own o45 (G52.has b9).lt) u46
      have n45b_46 := n45b.upda (Av.of_own o45b (G52.has b9).lt) u46
      have b7_46 := AH.has.updr ((g44.trans g45).has b7_34) (Nat.ne_of_lt (Nat.lt_of_lt_of_le (g8.has b7).lt (Nat.le_refl _))) u46
      have b8_46 := AH.has.updr ((g44.trans g45).has b8_34) (Nat.ne_of_lt (Nat.lt_of_lt_of_le (b8).lt (Nat.le_refl _))) u46
      have b34_46 := AH.has.updr ((g44.trans g45).has b34) (Nat.ne_of_gt (Nat.lt_of_lt_of_le ((g13.trans g17).has b9).lt (Nat.le_refl _))) u46
      refine Runs.step (AH.has.rd b46 0 rfl rfl) ?_
      refine Runs.step (AH.has.rd b46 1 rfl (asSl_v _)) ?_
      refine Runs.step (AH.has.rd b46 2 rfl (asSl_v _)) ?_
      have z : ref08_Add' a1 x2 x3 a4 x5 x6 = ((((rational_Make' (((modint_Add' ((rational_over' a1 x2 x3 a4 x5 x6).1) ((rational_over' a1 x2 x3 a4 x5 x6).2) ((rational_over' a4 x5 x6 a1 x2 x3).1) ((rational_over' a4 x5 x6 a1 x2 x3).2)).1)) ((modint_Add' ((rational_over' a1 x2 x3 a4 x5 x6).1) ((rational_over' a1 x2 x3 a4 x5 x6).2) ((rational_over' a4 x5 x6 a1 x2 x3).1) ((rational_over' a4 x5 x6 a1 x2 x3).2)).2.1) ((mulN x3 x6).1)).1)), (rational_Make' (((modint_Add' ((rational_over' a1 x2 x3 a4 x5 x6).1) ((rational_over' a1 x2 x3 a4 x5 x6).2) ((rational_over' a4 x5 x6 a1 x2 x3).1) ((rational_over' a4 x5 x6 a1 x2 x3).2)).1)) ((modint_Add' ((rational_over' a1 x2 x3 a4 x5 x6).1) ((rational_over' a1 x2 x3 a4 x5 x6).2) ((rational_over' a4 x5 x6 a1 x2 x3).1) ((rational_over' a4 x5 x6 a1 x2 x3).2)).2.1) ((mulN x3 x6).1)).2.1, (rational_Make' (((modint_Add' ((rational_over' a1 x2 x3 a4 x5 x6).1) ((rational_over' a1 x2 x3 a4 x5 x6).2) ((rational_over' a4 x5 x6 a1 x2 x3).1) ((rational_over' a4 x5 x6 a1 x2 x3).2)).1)) ((modint_Add' ((rational_over' a1 x2 x3 a4 x5 x6).1) ((rational_over' a1 x2 x3 a4 x5 x6).2) ((rational_over' a4 x5 x6 a1 x2 x3).1) ((rational_over' a4 x5 x6 a1 x2 x3).2)).2.1) ((mulN x3 x6).1)).2.2.1, ((rational_Make' (((modint_Add' ((rational_over' a1 x2 x3 a4 x5 x6).1) ((rational_over' a1 x2 x3 a4 x5 x6).2) ((rational_over' a4 x5 x6 a1 x2 x3).1) ((rational_over' a4 x5 x6 a1 x2 x3).2)).1)) ((modint_Add' ((rational_over' a1 x2 x3 a4 x5 x6).1) ((rational_over' a1 x2 x3 a4 x5 x6).2) ((rational_over' a4 x5 x6 a1 x2 x3).1) ((rational_over' a4 x5 x6 a1 x2 x3).2)).2.1) ((mulN x3 x6).1)).2.2.2)) := by unfold ref08_Add'; exact (condF k18).trans ((condF k19).trans rfl)
      rw [z]
      have G53 := ((((((G37.trans g20).trans g28).trans g32).trans g33).updr (Nat.le_trans (G37).size (Nat.le_refl _)) u34).trans g44)
      have G54 := ((G53.trans g45).updr (Nat.le_trans ((g7.trans g8)).size (Nat.le_refl _)) u46)
      exact Runs.ret ⟨s45, s45b, rfl, n45_46, n45b_46, G54, (o45.of_le G53), (o45b.of_le G53)⟩

def ref08_Sub' (a1 : Bool) (x2 : List Nat) (x3 : List Nat) (a4 : Bool) (x5 : List Nat) (x6 : List Nat) : Bool × List Nat × List Nat × Int :=
  cond (!((rational_Right' a1 x2 x3))) ((false, [], [], 1)) (cond (!((rational_Right' a4 x5 x6))) ((false, [], [], 1)) (((((ref08_Add' a1 x2 x3 ((negI a4 x5).1) ((negI a4 x5).2) x6).1)), (ref08_Add' a1 x2 x3 ((negI a4 x5).1) ((negI a4 x5).2) x6).2.1, (ref08_Add' a1 x2 x3 ((negI a4 x5).1) ((negI a4 x5).2) x6).2.2.1, ((ref08_Add' a1 x2 x3 ((negI a4 x5).1) ((negI a4 x5).2) x6).2.2.2))))

theorem ref08_Sub_spec {h : AH} {a2 : Sl} {x2 : List Nat} {a3 : Sl} {x3 : List Nat} {a5 : Sl} {x5 : List Nat} {a6 : Sl} {x6 : List Nat} (n2 : Nats h a2 x2) (n3 : Nats h a3 x3) (n5 : Nats h a5 x5) (n6 : Nats h a6 x6) (a1 : Bool) (a4 : Bool) : Runs (go (.fn F.ref08_Sub [.agg [.bool a1, a2.v, a3.v], .agg [.bool a4, a5.v, a6.v]]) h) fun v h' => ∃ s1 : Sl, ∃ s2 : Sl, v = .tup [.agg [.bool (ref08_Sub' a1 x2 x3 a4 x5 x6).1, s1.v, s2.v], .int .i64 (ref08_Sub' a1 x2 x3 a4 x5 x6).2.2.2] ∧ Nats h' s1 ((ref08_Sub' a1 x2 x3 a4 x5 x6).2.1) ∧ Nats h' s2 ((ref08_Sub' a1 x2 x3 a4 x5 x6).2.2.1) ∧ Grow h h' ∧ Own h s1 ∧ Own h s2 := by
  rw [u_ref08_Sub]
  refine Runs.new fun H7 b7 g7 => ?_
  refine Runs.new fun H8 b8 g8 => ?_
  refine Runs.new fun H9 b9 g9 => ?_
  refine Runs.step (AH.has.rd ((g8.trans g9).has b7) 0 rfl rfl) ?_
  refine Runs.step (AH.has.rd ((g8.trans g9).has b7) 1 rfl (asSl_v _)) ?_
  refine Runs.step (AH.has.rd ((g8.trans g9).has b7) 2 rfl (asSl_v _)) ?_
  have G10 := ((g7.trans g8).trans g9)
  have n2_11 := n2.grow G10
  have n3_12 := n3.grow G10
  obtain ⟨_, H13, e13, rfl, g13⟩ := ref08_Right_is n2_11 n3_12 a1
  refine Runs.step e13 ?_
  refine Runs.step (seen rfl) ?_
  refine Runs.step (AH.has.rd ((g9.trans g13).has b8) 0 rfl rfl) ?_
  refine Runs.step (AH.has.rd ((g9.trans g13).has b8) 1 rfl (asSl_v _)) ?_
  refine Runs.step (AH.has.rd ((g9.trans g13).has b8) 2 rfl (asSl_v _)) ?_
  have G14 := (G10.trans g13)
  have n5_15 := n5.grow G14
  have n6_16 := n6.grow G14
  obtain ⟨_, H17, e17, rfl, g17⟩ := ref08_Right_is n5_15 n6_16 a4
  refine Runs.step e17 ?_
  refine Runs.step (seen rfl) ?_
  refine Runs.cond (fun k18 => ?_) (fun k18 => ?_)
  · refine Runs.puts ((g13.trans g17).has b9) rfl fun H19 b19 u19 => ?_
    have n2_19 := (n2_11.grow (g13.trans g17)).upda (Av.of_base n2 (Nat.le_trans ((g7.trans g8)).size (Nat.le_refl _))) u19
    have n3_19 := (n3_12.grow (g13.trans g17)).upda (Av.of_base n3 (Nat.le_trans ((g7.trans g8)).size (Nat.le_refl _))) u19
    have n5_19 := (n5_15.grow g17).upda (Av.of_base n5 (Nat.le_trans ((g7.trans g8)).size (Nat.le_refl _))) u19
    have n6_19 := (n6_16.grow g17).upda (Av.of_base n6 (Nat.le_trans ((g7.trans g8)).size (Nat.le_refl _))) u19
    refine Runs.step (AH.has.rd b19 0 rfl rfl) ?_
    refine Runs.step (AH.has.rd b19 1 rfl (asSl_v _)) ?_
    refine Runs.step (AH.has.rd b19 2 rfl (asSl_v _)) ?_
    have z : ref08_Sub' a1 x2 x3 a4 x5 x6 = (false, [], [], 1) := by unfold ref08_Sub'; exact (condT k18).trans rfl
    rw [z]
    have G20 := ((G14.trans g17).updr (Nat.le_trans ((g7.trans g8)).size (Nat.le_refl _)) u19)
    exact Runs.ret ⟨(⟨none, 0, .is 0⟩ : Sl), (⟨none, 0, .is 0⟩ : Sl), rfl, (Nats.nil _), (Nats.nil _), G20, (Own.nil _), (Own.nil _)⟩
  · refine Runs.cond (fun k19 => ?_) (fun k19 => ?_)
    · refine Runs.puts ((g13.trans g17).has b9) rfl fun H20 b20 u20 => ?_
      have n2_20 := (n2_11.grow (g13.trans g17)).upda (Av.of_base n2 (Nat.le_trans ((g7.trans g8)).size (Nat.le_refl _))) u20
      have n3_20 := (n3_12.grow (g13.trans g17)).upda (Av.of_base n3 (Nat.le_trans ((g7.trans g8)).size (Nat.le_refl _))) u20
      have n5_20 := (n5_15.grow g17).upda (Av.of_base n5 (Nat.le_trans ((g7.trans g8)).size (Nat.le_refl _))) u20
      have n6_20 := (n6_16.grow g17).upda (Av.of_base n6 (Nat.le_trans ((g7.trans g8)).size (Nat.le_refl _))) u20
      refine Runs.step (AH.has.rd b20 0 rfl rfl) ?_
      refine Runs.step (AH.has.rd b20 1 rfl (asSl_v _)) ?_
      refine Runs.step (AH.has.rd b20 2 rfl (asSl_v _)) ?_
      have z : ref08_Sub' a1 x2 x3 a4 x5 x6 = (false, [], [], 1) := by unfold ref08_Sub'; exact (condF k18).trans ((condT k19).trans rfl)
      rw [z]
      have G21 := ((G14.trans g17).updr (Nat.le_trans ((g7.trans g8)).size (Nat.le_refl _)) u20)
      exact Runs.ret ⟨(⟨none, 0, .is 0⟩ : Sl), (⟨none, 0, .is 0⟩ : Sl), rfl, (Nats.nil _), (Nats.nil _), G21, (Own.nil _), (Own.nil _)⟩
    · have G20 := (((g8.trans g9).trans g13).trans g17)
      have b7_21 := G20.has b7
      refine Runs.step (AH.has.rd b7_21 0 rfl rfl) ?_
      refine Runs.step (AH.has.rd b7_21 1 rfl (asSl_v _)) ?_
      refine Runs.step (AH.has.rd b7_21 2 rfl (asSl_v _)) ?_
      have G22 := ((g9.trans g13).trans g17)
      have b8_23 := G22.has b8
      refine Runs.step (AH.has.rd b8_23 0 rfl rfl) ?_
      refine Runs.step (AH.has.rd b8_23 1 rfl (asSl_v _)) ?_
      refine Runs.step (AH.has.rd b8_23 2 rfl (asSl_v _)) ?_
      obtain ⟨s24, H24, e24, n24, g24, o24⟩ := ref03_Neg_spec (n5_15.grow g17) a4
      refine Runs.step e24 ?_
      refine Runs.step rfl ?_
      refine Runs.ifT rfl ?_
      refine Runs.step (seenAt rfl rfl) ?_
      refine Runs.step (seenAt rfl (asSl_v _)) ?_
      refine Runs.when (g24.same b8_23 2 1) ?_
      refine Runs.when (g24.same b7_21 0 3) ?_
      have G25 := ((g13.trans g17).trans g24)
      have n2_26 := n2_11.grow G25
      have n3_27 := n3_12.grow G25
      obtain ⟨_, H28, e28, s28, s28b, rfl, n28, n28b, g28, o28, o28b⟩ := ref08_Add_spec n2_26 n3_27 n24 (n6_16.grow (g17.trans g24)) a1 ((negI a4 x5).1)
      refine Runs.step e28 ?_
      refine Runs.step rfl ?_
      refine Runs.step rfl ?_
      refine Runs.ifT rfl ?_
      refine Runs.step (seenAt rfl rfl) ?_
      refine Runs.step (seenAt rfl (asSl_v _)) ?_
      refine Runs.step (seenAt rfl (asSl_v _)) ?_
      refine Runs.step (seen (avInt_int _ _)) ?_
      have G30 := (G25.trans g28)
      have b9_31 := G30.has b9
      refine Runs.puts b9_31 rfl fun H29 b29 u29 => ?_
      have n2_29 := (n2_26.grow g28).upda (Av.of_base n2 (Nat.le_trans ((g7.trans g8)).size (Nat.le_refl _))) u29
      have n3_29 := (n3_27.grow g28).upda (Av.of_base n3 (Nat.le_trans ((g7.trans g8)).size (Nat.le_refl _))) u29
      have G32 := ((g17.trans g24).trans g28)
      have n5_33 := n5_15.grow G32
      have n5_29 := n5_33.upda (Av.of_base n5 (Nat.le_trans ((g7.trans g8)).size (Nat.le_refl _))) u29
      have n6_34 := n6_16.grow G32
      have n6_29 := n6_34.upda (Av.of_base n6 (Nat.le_trans ((g7.trans g8)).size (Nat.le_refl _))) u29
      have n24_29 := (n24.grow g28).upda (Av.of_own o24 ((g13.trans g17).has b9).lt) u29
      have n28_29 := n28.upda (Av.of_own o28 (G25.has b9).lt) u29
      have n28b_29 := n28b.upda (Av.of_own o28b (G25.has b9).lt) u29
      have b7_29 := AH.has.updr ((g24.trans g28).has b7_21) (Nat.ne_of_lt (Nat.lt_of_lt_of_le (g8.has b7).lt (Nat.le_refl _))) u29
      have b8_29 := AH.has.updr ((g24.trans g28).has b8_23) (Nat.ne_of_lt (Nat.lt_of_lt_of_le (b8).lt (Nat.le_refl _))) u29
      refine Runs.step (AH.has.rd b29 0 rfl rfl) ?_
      refine Runs.step (AH.has.rd b29 1 rfl (asSl_v _)) ?_
      refine Runs.step (AH.has.rd b29 2 rfl (asSl_v _)) ?_
      have z : ref08_Sub' a1 x2 x3 a4 x5 x6 = ((((ref08_Add' a1 x2 x3 ((negI a4 x5).1) ((negI a4 x5).2) x6).1)), (ref08_Add' a1 x2 x3 ((negI a4 x5).1) ((negI a4 x5).2) x6).2.1, (ref08_Add' a1 x2 x3 ((negI a4 x5).1) ((negI a4 x5).2) x6).2.2.1, ((ref08_Add' a1 x2 x3 ((negI a4 x5).1) ((negI a4 x5).2) x6).2.2.2)) := by unfold ref08_Sub'; exact (condF k18).trans ((condF k19).trans rfl)
      rw [z]
      have G35 := ((G14.trans g17).trans g24)
      have G36 := ((G35.trans g28).updr (Nat.le_trans ((g7.trans g8)).size (Nat.le_refl _)) u29)
      exact Runs.ret ⟨s28, s28b, rfl, n28_29, n28b_29, G36, (o28.of_le G35), (o28b.of_le G35)⟩

theorem ref08_Sub_t {h : AH} {a2 : Sl} {x2 : List Nat} {a3 : Sl} {x3 : List Nat} {a5 : Sl} {x5 : List Nat} {a6 : Sl} {x6 : List Nat} (n2 : Nats h a2 x2) (n3 : Nats h a3 x3) (n5 : Nats h a5 x5) (n6 : Nats h a6 x6) {a1 : Bool} {a4 : Bool} {r : _} (q : ref08_Sub' a1 x2 x3 a4 x5 x6 = r) : Runs (go (.fn F.ref08_Sub [.agg [.bool a1, a2.v, a3.v], .agg [.bool a4, a5.v, a6.v]]) h) fun v h' => ∃ s1 : Sl, ∃ s2 : Sl, v = .tup [.agg [.bool r.1, s1.v, s2.v], .int .i64 r.2.2.2] ∧ Nats h' s1 (r.2.1) ∧ Nats h' s2 (r.2.2.1) ∧ Grow h h' ∧ Own h s1 ∧ Own h s2 := by
  subst q
  exact ref08_Sub_spec n2 n3 n5 n6 a1 a4

def ref08_Mul' (a1 : Bool) (x2 : List Nat) (x3 : List Nat) (a4 : Bool) (x5 : List Nat) (x6 : List Nat) : Bool × List Nat × List Nat × Int :=
  cond (!((rational_Right' a1 x2 x3))) ((false, [], [], 1)) (cond (!((rational_Right' a4 x5 x6))) ((false, [], [], 1)) (((((rational_Make' (((modint_Mul' a1 x2 a4 x5).1)) ((modint_Mul' a1 x2 a4 x5).2.1) ((mulN x3 x6).1)).1)), (rational_Make' (((modint_Mul' a1 x2 a4 x5).1)) ((modint_Mul' a1 x2 a4 x5).2.1) ((mulN x3 x6).1)).2.1, (rational_Make' (((modint_Mul' a1 x2 a4 x5).1)) ((modint_Mul' a1 x2 a4 x5).2.1) ((mulN x3 x6).1)).2.2.1, ((rational_Make' (((modint_Mul' a1 x2 a4 x5).1)) ((modint_Mul' a1 x2 a4 x5).2.1) ((mulN x3 x6).1)).2.2.2))))

theorem ref08_Mul_spec {h : AH} {a2 : Sl} {x2 : List Nat} {a3 : Sl} {x3 : List Nat} {a5 : Sl} {x5 : List Nat} {a6 : Sl} {x6 : List Nat} (n2 : Nats h a2 x2) (n3 : Nats h a3 x3) (n5 : Nats h a5 x5) (n6 : Nats h a6 x6) (a1 : Bool) (a4 : Bool) : Runs (go (.fn F.ref08_Mul [.agg [.bool a1, a2.v, a3.v], .agg [.bool a4, a5.v, a6.v]]) h) fun v h' => ∃ s1 : Sl, ∃ s2 : Sl, v = .tup [.agg [.bool (ref08_Mul' a1 x2 x3 a4 x5 x6).1, s1.v, s2.v], .int .i64 (ref08_Mul' a1 x2 x3 a4 x5 x6).2.2.2] ∧ Nats h' s1 ((ref08_Mul' a1 x2 x3 a4 x5 x6).2.1) ∧ Nats h' s2 ((ref08_Mul' a1 x2 x3 a4 x5 x6).2.2.1) ∧ Grow h h' ∧ Own h s1 ∧ Own h s2 := by
  rw [u_ref08_Mul]
  refine Runs.new fun H7 b7 g7 => ?_
  refine Runs.new fun H8 b8 g8 => ?_
  refine Runs.new fun H9 b9 g9 => ?_
  refine Runs.step (AH.has.rd ((g8.trans g9).has b7) 0 rfl rfl) ?_
  refine Runs.step (AH.has.rd ((g8.trans g9).has b7) 1 rfl (asSl_v _)) ?_
  refine Runs.step (AH.has.rd ((g8.trans g9).has b7) 2 rfl (asSl_v _)) ?_
  have G10 := ((g7.trans g8).trans g9)
  have n2_11 := n2.grow G10
  have n3_12 := n3.grow G10
  obtain ⟨_, H13, e13, rfl, g13⟩ := ref08_Right_is n2_11 n3_12 a1
  refine Runs.step e13 ?_
  refine Runs.step (seen rfl) ?_
  refine Runs.step (AH.has.rd ((g9.trans g13).has b8) 0 rfl rfl) ?_
  refine Runs.step (AH.has.rd ((g9.trans g13).has b8) 1 rfl (asSl_v _)) ?_
  refine Runs.step (AH.has.rd ((g9.trans g13).has b8) 2 rfl (asSl_v _)) ?_
  have G14 := (G10.trans g13)
  have n5_15 := n5.grow G14
  have n6_16 := n6.grow G14
  obtain ⟨_, H17, e17, rfl, g17⟩ := ref08_Right_is n5_15 n6_16 a4
  refine Runs.step e17 ?_
  refine Runs.step (seen rfl) ?_
  refine Runs.cond (fun k18 => ?_) (fun k18 => ?_)
  · refine Runs.puts ((g13.trans g17).has b9) rfl fun H19 b19 u19 => ?_
    have n2_19 := (n2_11.grow (g13.trans g17)).upda (Av.of_base n2 (Nat.le_trans ((g7.trans g8)).size (Nat.le_refl _))) u19
    have n3_19 := (n3_12.grow (g13.trans g17)).upda (Av.of_base n3 (Nat.le_trans ((g7.trans g8)).size (Nat.le_refl _))) u19
    have n5_19 := (n5_15.grow g17).upda (Av.of_base n5 (Nat.le_trans ((g7.trans g8)).size (Nat.le_refl _))) u19
    have n6_19 := (n6_16.grow g17).upda (Av.of_base n6 (Nat.le_trans ((g7.trans g8)).size (Nat.le_refl _))) u19
    refine Runs.step (AH.has.rd b19 0 rfl rfl) ?_
    refine Runs.step (AH.has.rd b19 1 rfl (asSl_v _)) ?_
    refine Runs.step (AH.has.rd b19 2 rfl (asSl_v _)) ?_
    have z : ref08_Mul' a1 x2 x3 a4 x5 x6 = (false, [], [], 1) := by unfold ref08_Mul'; exact (condT k18).trans rfl
    rw [z]
    have G20 := ((G14.trans g17).updr (Nat.le_trans ((g7.trans g8)).size (Nat.le_refl _)) u19)
    exact Runs.ret ⟨(⟨none, 0, .is 0⟩ : Sl), (⟨none, 0, .is 0⟩ : Sl), rfl, (Nats.nil _), (Nats.nil _), G20, (Own.nil _), (Own.nil _)⟩
  · refine Runs.cond (fun k19 => ?_) (fun k19 => ?_)
    · refine Runs.puts ((g13.trans g17).has b9) rfl fun H20 b20 u20 => ?_
      have n2_20 := (n2_11.grow (g13.trans g17)).upda (Av.of_base n2 (Nat.le_trans ((g7.trans g8)).size (Nat.le_refl _))) u20
      have n3_20 := (n3_12.grow (g13.trans g17)).upda (Av.of_base n3 (Nat.le_trans ((g7.trans g8)).size (Nat.le_refl _))) u20
      have n5_20 := (n5_15.grow g17).upda (Av.of_base n5 (Nat.le_trans ((g7.trans g8)).size (Nat.le_refl _))) u20
      have n6_20 := (n6_16.grow g17).upda (Av.of_base n6 (Nat.le_trans ((g7.trans g8)).size (Nat.le_refl _))) u20
      refine Runs.step (AH.has.rd b20 0 rfl rfl) ?_
      refine Runs.step (AH.has.rd b20 1 rfl (asSl_v _)) ?_
      refine Runs.step (AH.has.rd b20 2 rfl (asSl_v _)) ?_
      have z : ref08_Mul' a1 x2 x3 a4 x5 x6 = (false, [], [], 1) := by unfold ref08_Mul'; exact (condF k18).trans ((condT k19).trans rfl)
      rw [z]
      have G21 := ((G14.trans g17).updr (Nat.le_trans ((g7.trans g8)).size (Nat.le_refl _)) u20)
      exact Runs.ret ⟨(⟨none, 0, .is 0⟩ : Sl), (⟨none, 0, .is 0⟩ : Sl), rfl, (Nats.nil _), (Nats.nil _), G21, (Own.nil _), (Own.nil _)⟩
    · have G20 := (((g8.trans g9).trans g13).trans g17)
      have b7_21 := G20.has b7
      refine Runs.step (AH.has.rd b7_21 0 rfl rfl) ?_
      refine Runs.step (AH.has.rd b7_21 1 rfl (asSl_v _)) ?_
      have G22 := ((g9.trans g13).trans g17)
      have b8_23 := G22.has b8
      refine Runs.step (AH.has.rd b8_23 0 rfl rfl) ?_
      refine Runs.step (AH.has.rd b8_23 1 rfl (asSl_v _)) ?_
      obtain ⟨_, H24, e24, s24, rfl, n24, g24, o24⟩ := ref03_Mul_is (n2_11.grow (g13.trans g17)) (n5_15.grow g17) a1 a4
      refine Runs.step e24 ?_
      refine Runs.step rfl ?_
      refine Runs.step rfl ?_
      refine Runs.ifT rfl ?_
      refine Runs.step (seenAt rfl rfl) ?_
      refine Runs.step (seenAt rfl (asSl_v _)) ?_
      refine Runs.step (seen (avInt_int _ _)) ?_
      refine Runs.new fun H25 b25 g25 => ?_
      refine Runs.puts b25 rfl fun H26 b26 u26 => ?_
      have G27 := ((g24.trans g25).updr (Nat.le_trans (g24).size (Nat.le_refl _)) u26)
      have b7_28 := G27.has b7_21
      refine Runs.step (AH.has.rd b7_28 2 rfl (asSl_v _)) ?_
      have b8_29 := G27.has b8_23
      refine Runs.step (AH.has.rd b8_29 2 rfl (asSl_v _)) ?_
      have G30 := ((g13.trans g17).trans g24)
      have G31 := ((((g13.trans g17).trans g24).trans g25).updr (Nat.le_trans (G30).size (Nat.le_refl _)) u26)
      have n3_32 := n3_12.grow G31
      have G33 := (((g17.trans g24).trans g25).updr (Nat.le_trans ((g17.trans g24)).size (Nat.le_refl _)) u26)
      have n6_34 := n6_16.grow G33
      obtain ⟨s35, H35, e35, n35, g35, o35⟩ := ref01_Mul_spec n3_32 n6_34
      refine Runs.step e35 ?_
      refine Runs.step rfl ?_
      refine Runs.step (seen (asSl_v _)) ?_
      refine Runs.step (seen (avInt_int _ _)) ?_
      refine Runs.step (AH.has.rd (g35.has b26) 0 rfl rfl) ?_
      refine Runs.step (AH.has.rd (g35.has b26) 1 rfl (asSl_v _)) ?_
      have G36 := ((g25.updr (Nat.le_refl _) u26).trans g35)
      have n24_37 := n24.grow G36
      obtain ⟨_, H38, e38, s38, s38b, rfl, n38, n38b, g38, o38, o38b⟩ := ref08_Make_is n24_37 n35 (((modint_Mul' a1 x2 a4 x5).1))
      refine Runs.step e38 ?_
      refine Runs.step rfl ?_
      refine Runs.step rfl ?_
      refine Runs.ifT rfl ?_
      refine Runs.step (seenAt rfl rfl) ?_
      refine Runs.step (seenAt rfl (asSl_v _)) ?_
      refine Runs.step (seenAt rfl (asSl_v _)) ?_
      refine Runs.step (seen (avInt_int _ _)) ?_
      have G40 := ((G31.trans g35).trans g38)
      have b9_41 := G40.has b9
      refine Runs.puts b9_41 rfl fun H39 b39 u39 => ?_
      have n2_42 := n2_11.grow G40
      have n2_39 := n2_42.upda (Av.of_base n2 (Nat.le_trans ((g7.trans g8)).size (Nat.le_refl _))) u39
      have n3_39 := (n3_32.grow (g35.trans g38)).upda (Av.of_base n3 (Nat.le_trans ((g7.trans g8)).size (Nat.le_refl _))) u39
      have G43 := ((G33.trans g35).trans g38)
      have n5_44 := n5_15.grow G43
      have n5_39 := n5_44.upda (Av.of_base n5 (Nat.le_trans ((g7.trans g8)).size (Nat.le_refl _))) u39
      have n6_39 := (n6_34.grow (g35.trans g38)).upda (Av.of_base n6 (Nat.le_trans ((g7.trans g8)).size (Nat.le_refl _))) u39
      have n24_39 := (n24_37.grow g38).upda (Av.of_own o24 ((g13.trans g17).has b9).lt) u39
      have n35_39 := (n35.grow g38).upda (Av.of_own o35 (G31.has b9).lt) u39
      have G45 := (G31.trans g35)
      have n38_39 := n38.upda (Av.of_own o38 (G45.has b9).lt) u39
      have n38b_39 := n38b.upda (Av.of_own o38b (G45.has b9).lt) u39
      have b7_39 := AH.has.updr ((g35.trans g38).has b7_28) (Nat.ne_of_lt (Nat.lt_of_lt_of_le (g8.has b7).lt (Nat.le_refl _))) u39
      have b8_39 := AH.has.updr ((g35.trans g38).has b8_29) (Nat.ne_of_lt (Nat.lt_of_lt_of_le (b8).lt (Nat.le_refl _))) u39
      have b26_39 := AH.has.updr ((g35.trans g38).has b26) (Nat.ne_of_gt (Nat.lt_of_lt_of_le (G30.has b9).lt (Nat.le_refl _))) u39
      refine Runs.step (AH.has.rd b39 0 rfl rfl) ?_
      refine Runs.step (AH.has.rd b39 1 rfl (asSl_v _)) ?_
      refine Runs.step (AH.has.rd b39 2 rfl (asSl_v _)) ?_
      have z : ref08_Mul' a1 x2 x3 a4 x5 x6 = ((((rational_Make' (((modint_Mul' a1 x2 a4 x5).1)) ((modint_Mul' a1 x2 a4 x5).2.1) ((mulN x3 x6).1)).1)), (rational_Make' (((modint_Mul' a1 x2 a4 x5).1)) ((modint_Mul' a1 x2 a4 x5).2.1) ((mulN x3 x6).1)).2.1, (rational_Make' (((modint_Mul' a1 x2 a4 x5).1)) ((modint_Mul' a1 x2 a4 x5).2.1) ((mulN x3 x6).1)).2.2.1, ((rational_Make' (((modint_Mul' a1 x2 a4 x5).1)) ((modint_Mul' a1 x2 a4 x5).2.1) ((mulN x3 x6).1)).2.2.2)) := by unfold ref08_Mul'; exact (condF k18).trans ((condF k19).trans rfl)
      rw [z]
      have G46 := ((G14.trans g17).trans g24)
      have G47 := (((((G14.trans g17).trans g24).trans g25).updr (Nat.le_trans (G46).size (Nat.le_refl _)) u26).trans g35)
      have G48 := ((G47.trans g38).updr (Nat.le_trans ((g7.trans g8)).size (Nat.le_refl _)) u39)
      exact Runs.ret ⟨s38, s38b, rfl, n38_39, n38b_39, G48, (o38.of_le G47), (o38b.of_le G47)⟩

theorem ref08_Add_t {h : AH} {a2 : Sl} {x2 : List Nat} {a3 : Sl} {x3 : List Nat} {a5 : Sl} {x5 : List Nat} {a6 : Sl} {x6 : List Nat} (n2 : Nats h a2 x2) (n3 : Nats h a3 x3) (n5 : Nats h a5 x5) (n6 : Nats h a6 x6) {a1 : Bool} {a4 : Bool} {r : _} (q : ref08_Add' a1 x2 x3 a4 x5 x6 = r) : Runs (go (.fn F.ref08_Add [.agg [.bool a1, a2.v, a3.v], .agg [.bool a4, a5.v, a6.v]]) h) fun v h' => ∃ s1 : Sl, ∃ s2 : Sl, v = .tup [.agg [.bool r.1, s1.v, s2.v], .int .i64 r.2.2.2] ∧ Nats h' s1 (r.2.1) ∧ Nats h' s2 (r.2.2.1) ∧ Grow h h' ∧ Own h s1 ∧ Own h s2 := by
  subst q
  exact ref08_Add_spec n2 n3 n5 n6 a1 a4

theorem ref08_Mul_t {h : AH} {a2 : Sl} {x2 : List Nat} {a3 : Sl} {x3 : List Nat} {a5 : Sl} {x5 : List Nat} {a6 : Sl} {x6 : List Nat} (n2 : Nats h a2 x2) (n3 : Nats h a3 x3) (n5 : Nats h a5 x5) (n6 : Nats h a6 x6) {a1 : Bool} {a4 : Bool} {r : _} (q : ref08_Mul' a1 x2 x3 a4 x5 x6 = r) : Runs (go (.fn F.ref08_Mul [.agg [.bool a1, a2.v, a3.v], .agg [.bool a4, a5.v, a6.v]]) h) fun v h' => ∃ s1 : Sl, ∃ s2 : Sl, v = .tup [.agg [.bool r.1, s1.v, s2.v], .int .i64 r.2.2.2] ∧ Nats h' s1 (r.2.1) ∧ Nats h' s2 (r.2.2.1) ∧ Grow h h' ∧ Own h s1 ∧ Own h s2 := by
  subst q
  exact ref08_Mul_spec n2 n3 n5 n6 a1 a4

def rational_Cmp' (a1 : Bool) (x2 : List Nat) (x3 : List Nat) (a4 : Bool) (x5 : List Nat) (x6 : List Nat) : Int :=
  cond (!((rational_Right' a1 x2 x3 && rational_Right' a4 x5 x6))) (0) ((cmpI ((rational_over' a1 x2 x3 a4 x5 x6).1) ((rational_over' a1 x2 x3 a4 x5 x6).2) ((rational_over' a4 x5 x6 a1 x2 x3).1) ((rational_over' a4 x5 x6 a1 x2 x3).2)))

theorem rational_Cmp_spec {h : AH} {a2 : Sl} {x2 : List Nat} {a3 : Sl} {x3 : List Nat} {a5 : Sl} {x5 : List Nat} {a6 : Sl} {x6 : List Nat} (n2 : Nats h a2 x2) (n3 : Nats h a3 x3) (n5 : Nats h a5 x5) (n6 : Nats h a6 x6) (a1 : Bool) (a4 : Bool) : Runs (go (.fn F.rational_Cmp [.agg [.bool a1, a2.v, a3.v], .agg [.bool a4, a5.v, a6.v]]) h) fun v h' => v = .int .i64 (rational_Cmp' a1 x2 x3 a4 x5 x6) ∧ Grow h h' := by
  rw [u_rational_Cmp]
  refine Runs.new fun H7 b7 g7 => ?_
  refine Runs.new fun H8 b8 g8 => ?_
  refine Runs.step (AH.has.rd (g8.has b7) 0 rfl rfl) ?_
  refine Runs.step (AH.has.rd (g8.has b7) 1 rfl (asSl_v _)) ?_
  refine Runs.step (AH.has.rd (g8.has b7) 2 rfl (asSl_v _)) ?_
  refine Runs.step (AH.has.rd b8 0 rfl rfl) ?_
  refine Runs.step (AH.has.rd b8 1 rfl (asSl_v _)) ?_
  refine Runs.step (AH.has.rd b8 2 rfl (asSl_v _)) ?_
  refine Runs.new fun H9 b9 g9 => ?_
  have G10 := ((g7.trans g8).trans g9)
  have n2_11 := n2.grow G10
  have n3_12 := n3.grow G10
  have n5_13 := n5.grow G10
  have n6_14 := n6.grow G10
  obtain ⟨H15, e15, g15⟩ := rational_right2_spec b9 n2_11 n3_12 n5_13 n6_14
  refine Runs.step e15 ?_
  refine Runs.step (seen rfl) ?_
  refine Runs.cond (fun k16 => ?_) (fun k16 => ?_)
  · have z : rational_Cmp' a1 x2 x3 a4 x5 x6 = 0 := by unfold rational_Cmp'; exact (condT k16).trans rfl
    rw [z]
    have G17 := (G10.trans g15)
    exact Runs.ret ⟨rfl, G17⟩
  · have G17 := ((g8.trans g9).trans g15)
    have b7_18 := G17.has b7
    refine Runs.step (AH.has.rd b7_18 0 rfl rfl) ?_
    refine Runs.step (AH.has.rd b7_18 1 rfl (asSl_v _)) ?_
    refine Runs.step (AH.has.rd b7_18 2 rfl (asSl_v _)) ?_
    refine Runs.step (AH.has.rd ((g9.trans g15).has b8) 0 rfl rfl) ?_
    refine Runs.step (AH.has.rd ((g9.trans g15).has b8) 1 rfl (asSl_v _)) ?_
    refine Runs.step (AH.has.rd ((g9.trans g15).has b8) 2 rfl (asSl_v _)) ?_
    refine Runs.step (AH.has.rd ((g9.trans g15).has b8) 0 rfl rfl) ?_
    refine Runs.step (AH.has.rd ((g9.trans g15).has b8) 1 rfl (asSl_v _)) ?_
    refine Runs.step (AH.has.rd ((g9.trans g15).has b8) 2 rfl (asSl_v _)) ?_
    refine Runs.step (AH.has.rd b7_18 0 rfl rfl) ?_
    refine Runs.step (AH.has.rd b7_18 1 rfl (asSl_v _)) ?_
    refine Runs.step (AH.has.rd b7_18 2 rfl (asSl_v _)) ?_
    obtain ⟨_, H19, e19, s19, rfl, n19, g19, o19⟩ := rational_over_spec (n2_11.grow g15) (n3_12.grow g15) (n5_13.grow g15) (n6_14.grow g15) a1 a4
    refine Runs.step e19 ?_
    refine Runs.step rfl ?_
    refine Runs.ifT rfl ?_
    refine Runs.step (seenAt rfl rfl) ?_
    refine Runs.step (seenAt rfl (asSl_v _)) ?_
    refine Runs.when (g19.same b7_18 0 3) ?_
    refine Runs.when (g19.same ((g9.trans g15).has b8) 0 3) ?_
    obtain ⟨_, H20, e20, s20, rfl, n20, g20, o20⟩ := rational_over_spec (n5_13.grow (g15.trans g19)) (n6_14.grow (g15.trans g19)) (n2_11.grow (g15.trans g19)) (n3_12.grow (g15.trans g19)) a4 a1
    refine Runs.step e20 ?_
    refine Runs.step rfl ?_
    refine Runs.ifT rfl ?_
    refine Runs.step (seenAt rfl rfl) ?_
    refine Runs.step (seenAt rfl (asSl_v _)) ?_
    obtain ⟨H21, e21, g21⟩ := modint_Cmp_spec (n19.grow g20) n20 ((rational_over' a1 x2 x3 a4 x5 x6).1) ((rational_over' a4 x5 x6 a1 x2 x3).1)
    refine Runs.step e21 ?_
    refine Runs.step (seen (avInt_int _ _)) ?_
    have z : rational_Cmp' a1 x2 x3 a4 x5 x6 = (cmpI ((rational_over' a1 x2 x3 a4 x5 x6).1) ((rational_over' a1 x2 x3 a4 x5 x6).2) ((rational_over' a4 x5 x6 a1 x2 x3).1) ((rational_over' a4 x5 x6 a1 x2 x3).2)) := by unfold rational_Cmp'; exact (condF k16).trans rfl
    rw [z]
    have G22 := ((((G10.trans g15).trans g19).trans g20).trans g21)
    exact Runs.ret ⟨rfl, G22⟩

def ref08_Cmp' (a1 : Bool) (x2 : List Nat) (x3 : List Nat) (a4 : Bool) (x5 : List Nat) (x6 : List Nat) : Int :=
  cond (!((rational_Right' a1 x2 x3))) (0) (cond (!((rational_Right' a4 x5 x6))) (0) ((cmpI ((rational_over' a1 x2 x3 a4 x5 x6).1) ((rational_over' a1 x2 x3 a4 x5 x6).2) ((rational_over' a4 x5 x6 a1 x2 x3).1) ((rational_over' a4 x5 x6 a1 x2 x3).2))))

theorem ref08_Cmp_spec {h : AH} {a2 : Sl} {x2 : List Nat} {a3 : Sl} {x3 : List Nat} {a5 : Sl} {x5 : List Nat} {a6 : Sl} {x6 : List Nat} (n2 : Nats h a2 x2) (n3 : Nats h a3 x3) (n5 : Nats h a5 x5) (n6 : Nats h a6 x6) (a1 : Bool) (a4 : Bool) : Runs (go (.fn F.ref08_Cmp [.agg [.bool a1, a2.v, a3.v], .agg [.bool a4, a5.v, a6.v]]) h) fun v h' => v = .int .i64 (ref08_Cmp' a1 x2 x3 a4 x5 x6) ∧ Grow h h' := by
  rw [u_ref08_Cmp]
  refine Runs.new fun H7 b7 g7 => ?_
  refine Runs.new fun H8 b8 g8 => ?_
  refine Runs.step (AH.has.rd (g8.has b7) 0 rfl rfl) ?_
  refine Runs.step (AH.has.rd (g8.has b7) 1 rfl (asSl_v _)) ?_
  refine Runs.step (AH.has.rd (g8.has b7) 2 rfl (asSl_v _)) ?_
  obtain ⟨_, H9, e9, rfl, g9⟩ := ref08_Right_is (n2.grow (g7.trans g8)) (n3.grow (g7.trans g8)) a1
  refine Runs.step e9 ?_
  refine Runs.step (seen rfl) ?_
  refine Runs.step (AH.has.rd (g9.has b8) 0 rfl rfl) ?_
  refine Runs.step (AH.has.rd (g9.has b8) 1 rfl (asSl_v _)) ?_
  refine Runs.step (AH.has.rd (g9.has b8) 2 rfl (asSl_v _)) ?_
  have G10 := ((g7.trans g8).trans g9)
  have n5_11 := n5.grow G10
  have n6_12 := n6.grow G10
  obtain ⟨_, H13, e13, rfl, g13⟩ := ref08_Right_is n5_11 n6_12 a4
  refine Runs.step e13 ?_
  refine Runs.step (seen rfl) ?_
  refine Runs.cond (fun k14 => ?_) (fun k14 => ?_)
  · have z : ref08_Cmp' a1 x2 x3 a4 x5 x6 = 0 := by unfold ref08_Cmp'; exact (condT k14).trans rfl
    rw [z]
    have G15 := (G10.trans g13)
    exact Runs.ret ⟨rfl, G15⟩
  · refine Runs.cond (fun k15 => ?_) (fun k15 => ?_)
    · have z : ref08_Cmp' a1 x2 x3 a4 x5 x6 = 0 := by unfold ref08_Cmp'; exact (condF k14).trans ((condT k15).trans rfl)
      rw [z]
      have G16 := (G10.trans g13)
      exact Runs.ret ⟨rfl, G16⟩
    · have G16 := ((g8.trans g9).trans g13)
      have b7_17 := G16.has b7
      refine Runs.step (AH.has.rd b7_17 0 rfl rfl) ?_
      refine Runs.step (AH.has.rd b7_17 1 rfl (asSl_v _)) ?_
      refine Runs.step (AH.has.rd b7_17 2 rfl (asSl_v _)) ?_
      refine Runs.step (AH.has.rd ((g9.trans g13).has b8) 0 rfl rfl) ?_
      refine Runs.step (AH.has.rd ((g9.trans g13).has b8) 1 rfl (asSl_v _)) ?_
      refine Runs.step (AH.has.rd ((g9.trans g13).has b8) 2 rfl (asSl_v _)) ?_
      refine Runs.step (AH.has.rd ((g9.trans g13).has b8) 0 rfl rfl) ?_
      refine Runs.step (AH.has.rd ((g9.trans g13).has b8) 1 rfl (asSl_v _)) ?_
      refine Runs.step (AH.has.rd ((g9.trans g13).has b8) 2 rfl (asSl_v _)) ?_
      refine Runs.step (AH.has.rd b7_17 0 rfl rfl) ?_
      refine Runs.step (AH.has.rd b7_17 1 rfl (asSl_v _)) ?_
      refine Runs.step (AH.has.rd b7_17 2 rfl (asSl_v _)) ?_
      have G18 := (G10.trans g13)
      have n2_19 := n2.grow G18
      have n3_20 := n3.grow G18
      obtain ⟨_, H21, e21, s21, rfl, n21, g21, o21⟩ := ref08_over_is n2_19 n3_20 (n5_11.grow g13) (n6_12.grow g13) a1 a4
      refine Runs.step e21 ?_
      refine Runs.step rfl ?_
      refine Runs.ifT rfl ?_
      refine Runs.step (seenAt rfl rfl) ?_
      refine Runs.step (seenAt rfl (asSl_v _)) ?_
      refine Runs.when (g21.same b7_17 0 3) ?_
      refine Runs.when (g21.same ((g9.trans g13).has b8) 0 3) ?_
      obtain ⟨_, H22, e22, s22, rfl, n22, g22, o22⟩ := ref08_over_is (n5_11.grow (g13.trans g21)) (n6_12.grow (g13.trans g21)) (n2_19.grow g21) (n3_20.grow g21) a4 a1
      refine Runs.step e22 ?_
      refine Runs.step rfl ?_
      refine Runs.ifT rfl ?_
      refine Runs.step (seenAt rfl rfl) ?_
      refine Runs.step (seenAt rfl (asSl_v _)) ?_
      obtain ⟨H23, e23, g23⟩ := ref03_Cmp_spec (n21.grow g22) n22 ((rational_over' a1 x2 x3 a4 x5 x6).1) ((rational_over' a4 x5 x6 a1 x2 x3).1)
      refine Runs.step e23 ?_
      refine Runs.step (seen (avInt_int _ _)) ?_
      have z : ref08_Cmp' a1 x2 x3 a4 x5 x6 = (cmpI ((rational_over' a1 x2 x3 a4 x5 x6).1) ((rational_over' a1 x2 x3 a4 x5 x6).2) ((rational_over' a4 x5 x6 a1 x2 x3).1) ((rational_over' a4 x5 x6 a1 x2 x3).2)) := by unfold ref08_Cmp'; exact (condF k14).trans ((condF k15).trans rfl)
      rw [z]
      have G24 := (((G18.trans g21).trans g22).trans g23)
      exact Runs.ret ⟨rfl, G24⟩

def rational_Floor' (a1 : Bool) (x2 : List Nat) (x3 : List Nat) : Bool × List Nat × Int :=
  cond (!((rational_Right' a1 x2 x3))) ((false, [], 1)) ((((((floorI a1 x2 ((fromI false x3).1) ((fromI false x3).2)).1))), (floorI a1 x2 ((fromI false x3).1) ((fromI false x3).2)).2.1, ((floorI a1 x2 ((fromI false x3).1) ((fromI false x3).2)).2.2.2.2)))

theorem rational_Floor_spec {h : AH} {a2 : Sl} {x2 : List Nat} {a3 : Sl} {x3 : List Nat} (n2 : Nats h a2 x2) (n3 : Nats h a3 x3) (a1 : Bool) : Runs (go (.fn F.rational_Floor [.agg [.bool a1, a2.v, a3.v]]) h) fun v h' => ∃ s1 : Sl, v = .tup [.agg [.bool (rational_Floor' a1 x2 x3).1, s1.v], .int .i64 (rational_Floor' a1 x2 x3).2.2] ∧ Nats h' s1 ((rational_Floor' a1 x2 x3).2.1) ∧ Grow h h' ∧ Own h s1 := by
  rw [u_rational_Floor]
  refine Runs.new fun H4 b4 g4 => ?_
  refine Runs.new fun H5 b5 g5 => ?_
  refine Runs.step (AH.has.rd (g5.has b4) 0 rfl rfl) ?_
  refine Runs.step (AH.has.rd (g5.has b4) 1 rfl (asSl_v _)) ?_
  refine Runs.step (AH.has.rd (g5.has b4) 2 rfl (asSl_v _)) ?_
  obtain ⟨_, H6, e6, rfl, g6⟩ := rational_Right_spec (n2.grow (g4.trans g5)) (n3.grow (g4.trans g5)) a1
  refine Runs.step e6 ?_
  refine Runs.step (seen rfl) ?_
  refine Runs.cond (fun k7 => ?_) (fun k7 => ?_)
  · refine Runs.puts (g6.has b5) rfl fun H8 b8 u8 => ?_
    refine Runs.step (AH.has.rd b8 0 rfl rfl) ?_
    refine Runs.step (AH.has.rd b8 1 rfl (asSl_v _)) ?_
    have z : rational_Floor' a1 x2 x3 = (false, [], 1) := by unfold rational_Floor'; exact (condT k7).trans rfl
    rw [z]
    have G9 := (((g4.trans g5).trans g6).updr (Nat.le_trans (g4).size (Nat.le_refl _)) u8)
    exact Runs.ret ⟨(⟨none, 0, .is 0⟩ : Sl), rfl, (Nats.nil _), G9, (Own.nil _)⟩
  · refine Runs.new fun H8 b8 g8 => ?_
    refine Runs.new fun H9 b9 g9 => ?_
    have G10 := (((g5.trans g6).trans g8).trans g9)
    have b4_11 := G10.has b4
    refine Runs.step (AH.has.rd b4_11 0 rfl rfl) ?_
    refine Runs.step (AH.has.rd b4_11 1 rfl (asSl_v _)) ?_
    refine Runs.step (AH.has.rd b4_11 2 rfl (asSl_v _)) ?_
    have G12 := ((((g4.trans g5).trans g6).trans g8).trans g9)
    have n3_13 := n3.grow G12
    obtain ⟨s14, H14, e14, n14, g14, o14⟩ := modint_From_spec n3_13 false
    refine Runs.step e14 ?_
    refine Runs.step rfl ?_
    refine Runs.ifT rfl ?_
    refine Runs.step (seenAt rfl rfl) ?_
    refine Runs.step (seenAt rfl (asSl_v _)) ?_
    refine Runs.when (g14.same b4_11 0 2) ?_
    refine Runs.when (g14.same b9 0 0) ?_
    refine Runs.when (g14.same (g9.has b8) 0 0) ?_
    have G15 := (G12.trans g14)
    have n2_16 := n2.grow G15
    obtain ⟨_, H17, e17, s17, s17b, rfl, n17, n17b, g17, o17, o17b⟩ := modint_Floor_spec n2_16 n14 a1 ((fromI false x3).1)
    refine Runs.step e17 ?_
    refine Runs.step rfl ?_
    refine Runs.step rfl ?_
    refine Runs.ifT rfl ?_
    refine Runs.step (seenAt rfl rfl) ?_
    refine Runs.step (seenAt rfl (asSl_v _)) ?_
    refine Runs.step rfl ?_
    refine Runs.ifT rfl ?_
    refine Runs.step (seenAt rfl rfl) ?_
    refine Runs.step (seenAt rfl (asSl_v _)) ?_
    refine Runs.step (seen (avInt_int _ _)) ?_
    refine Runs.when (g17.same (g14.has b9) 0 0) ?_
    refine Runs.when (g17.same ((g9.trans g14).has b8) 0 0) ?_
    have G19 := ((g9.trans g14).trans g17)
    have b8_20 := G19.has b8
    refine Runs.puts b8_20 rfl fun H18 b18 u18 => ?_
    have G21 := ((g4.trans g5).trans g6)
    have n2_18 := (n2_16.grow g17).upda (Av.of_base n2 (Nat.le_trans (G21).size (Nat.le_refl _))) u18
    have n3_18 := (n3_13.grow (g14.trans g17)).upda (Av.of_base n3 (Nat.le_trans (G21).size (Nat.le_refl _))) u18
    have n14_18 := (n14.grow g17).upda (Av.of_own o14 (g9.has b8).lt) u18
    have n17_18 := n17.upda (Av.of_own o17 ((g9.trans g14).has b8).lt) u18
    have n17b_18 := n17b.upda (Av.of_own o17b ((g9.trans g14).has b8).lt) u18
    have b4_18 := AH.has.updr ((g14.trans g17).has b4_11) (Nat.ne_of_lt (Nat.lt_of_lt_of_le ((g5.trans g6).has b4).lt (Nat.le_refl _))) u18
    have b9_18 := AH.has.updr ((g14.trans g17).has b9) (Nat.ne_of_gt (Nat.lt_of_lt_of_le (b8).lt (Nat.le_refl _))) u18
    refine Runs.puts b9_18 rfl fun H22 b22 u22 => ?_
    have G23 := (G21.trans g8)
    have n2_22 := n2_18.upda (Av.of_base n2 (Nat.le_trans (G23).size (Nat.le_refl _))) u22
    have n3_22 := n3_18.upda (Av.of_base n3 (Nat.le_trans (G23).size (Nat.le_refl _))) u22
    have n14_22 := n14_18.upda (Av.of_own o14 (b9).lt) u22
    have n17_22 := n17_18.upda (Av.of_own o17 (g14.has b9).lt) u22
    have n17b_22 := n17b_18.upda (Av.of_own o17b (g14.has b9).lt) u22
    have G24 := ((g5.trans g6).trans g8)
    have b4_22 := AH.has.updr b4_18 (Nat.ne_of_lt (Nat.lt_of_lt_of_le (G24.has b4).lt (Nat.le_refl _))) u22
    have b18_22 := AH.has.updr b18 (Nat.ne_of_lt (Nat.lt_of_lt_of_le (b8).lt (Nat.le_refl _))) u22
    refine Runs.step (AH.has.rd b18_22 0 rfl rfl) ?_
    refine Runs.step (AH.has.rd b18_22 1 rfl (asSl_v _)) ?_
    have G26 := ((((((g6.trans g8).trans g9).trans g14).trans g17).updr (Nat.le_trans (g6).size (Nat.le_refl _)) u18).updr (Nat.le_trans ((g6.trans g8)).size (Nat.le_refl _)) u22)
    have b5_27 := G26.has b5
    refine Runs.puts b5_27 rfl fun H25 b25 u25 => ?_
    have n2_25 := n2_22.upda (Av.of_base n2 (Nat.le_trans (g4).size (Nat.le_refl _))) u25
    have n3_25 := n3_22.upda (Av.of_base n3 (Nat.le_trans (g4).size (Nat.le_refl _))) u25
    have G28 := ((g6.trans g8).trans g9)
    have n14_25 := n14_22.upda (Av.of_own o14 (G28.has b5).lt) u25
    have G29 := (G28.trans g14)
    have n17_25 := n17_22.upda (Av.of_own o17 (G29.has b5).lt) u25
    have n17b_25 := n17b_22.upda (Av.of_own o17b (G29.has b5).lt) u25
    have b4_25 := AH.has.updr b4_22 (Nat.ne_of_lt (Nat.lt_of_lt_of_le (b4).lt (Nat.le_refl _))) u25
    have b18_25 := AH.has.updr b18_22 (Nat.ne_of_gt (Nat.lt_of_lt_of_le (g6.has b5).lt (Nat.le_refl _))) u25
    have b22_25 := AH.has.updr b22 (Nat.ne_of_gt (Nat.lt_of_lt_of_le ((g6.trans g8).has b5).lt (Nat.le_refl _))) u25
    refine Runs.step (AH.has.rd b25 0 rfl rfl) ?_
    refine Runs.step (AH.has.rd b25 1 rfl (asSl_v _)) ?_
    have z : rational_Floor' a1 x2 x3 = (((((floorI a1 x2 ((fromI false x3).1) ((fromI false x3).2)).1))), (floorI a1 x2 ((fromI false x3).1) ((fromI false x3).2)).2.1, ((floorI a1 x2 ((fromI false x3).1) ((fromI false x3).2)).2.2.2.2)) := by unfold rational_Floor'; exact (condF k7).trans rfl
    rw [z]
    have G30 := ((((G15.trans g17).updr (Nat.le_trans (G21).size (Nat.le_refl _)) u18).updr (Nat.le_trans (G23).size (Nat.le_refl _)) u22).updr (Nat.le_trans (g4).size (Nat.le_refl _)) u25)
    exact Runs.ret ⟨s17, rfl, n17_25, G30, (o17.of_le G15)⟩

def ref08_Floor' (a1 : Bool) (x2 : List Nat) (x3 : List Nat) : Bool × List Nat × Int :=
  cond (!((rational_Right' a1 x2 x3))) ((false, [], 1)) ((((((floorI a1 x2 ((fromI false x3).1) ((fromI false x3).2)).1))), (floorI a1 x2 ((fromI false x3).1) ((fromI false x3).2)).2.1, 0))

theorem ref08_Floor_spec {h : AH} {a2 : Sl} {x2 : List Nat} {a3 : Sl} {x3 : List Nat} (n2 : Nats h a2 x2) (n3 : Nats h a3 x3) (a1 : Bool) : Runs (go (.fn F.ref08_Floor [.agg [.bool a1, a2.v, a3.v]]) h) fun v h' => ∃ s1 : Sl, v = .tup [.agg [.bool (ref08_Floor' a1 x2 x3).1, s1.v], .int .i64 (ref08_Floor' a1 x2 x3).2.2] ∧ Nats h' s1 ((ref08_Floor' a1 x2 x3).2.1) ∧ Grow h h' ∧ Own h s1 := by
  rw [u_ref08_Floor]
  refine Runs.new fun H4 b4 g4 => ?_
  refine Runs.new fun H5 b5 g5 => ?_
  refine Runs.step (AH.has.rd (g5.has b4) 0 rfl rfl) ?_
  refine Runs.step (AH.has.rd (g5.has b4) 1 rfl (asSl_v _)) ?_
  refine Runs.step (AH.has.rd (g5.has b4) 2 rfl (asSl_v _)) ?_
  obtain ⟨_, H6, e6, rfl, g6⟩ := ref08_Right_is (n2.grow (g4.trans g5)) (n3.grow (g4.trans g5)) a1
  refine Runs.step e6 ?_
  refine Runs.step (seen rfl) ?_
  refine Runs.cond (fun k7 => ?_) (fun k7 => ?_)
  · refine Runs.puts (g6.has b5) rfl fun H8 b8 u8 => ?_
    refine Runs.step (AH.has.rd b8 0 rfl rfl) ?_
    refine Runs.step (AH.has.rd b8 1 rfl (asSl_v _)) ?_
    have z : ref08_Floor' a1 x2 x3 = (false, [], 1) := by unfold ref08_Floor'; exact (condT k7).trans rfl
    rw [z]
    have G9 := (((g4.trans g5).trans g6).updr (Nat.le_trans (g4).size (Nat.le_refl _)) u8)
    exact Runs.ret ⟨(⟨none, 0, .is 0⟩ : Sl), rfl, (Nats.nil _), G9, (Own.nil _)⟩
  · refine Runs.new fun H8 b8 g8 => ?_
    refine Runs.new fun H9 b9 g9 => ?_
    have G10 := (((g5.trans g6).trans g8).trans g9)
    have b4_11 := G10.has b4
    refine Runs.step (AH.has.rd b4_11 0 rfl rfl) ?_
    refine Runs.step (AH.has.rd b4_11 1 rfl (asSl_v _)) ?_
    refine Runs.step (AH.has.rd b4_11 2 rfl (asSl_v _)) ?_
    have G12 := ((((g4.trans g5).trans g6).trans g8).trans g9)
    have n3_13 := n3.grow G12
    obtain ⟨s14, H14, e14, n14, g14, o14⟩ := ref03_From_spec n3_13 false
    refine Runs.step e14 ?_
    refine Runs.step rfl ?_
    refine Runs.ifT rfl ?_
    refine Runs.step (seenAt rfl rfl) ?_
    refine Runs.step (seenAt rfl (asSl_v _)) ?_
    refine Runs.when (g14.same b4_11 0 2) ?_
    refine Runs.when (g14.same b9 0 0) ?_
    refine Runs.when (g14.same (g9.has b8) 0 0) ?_
    have G15 := (G12.trans g14)
    have n2_16 := n2.grow G15
    obtain ⟨_, H17, e17, s17, s17b, rfl, n17, n17b, g17, o17, o17b⟩ := ref03_Floor_spec n2_16 n14 a1 ((fromI false x3).1)
    refine Runs.step e17 ?_
    refine Runs.step rfl ?_
    refine Runs.step rfl ?_
    refine Runs.ifT rfl ?_
    refine Runs.step (seenAt rfl rfl) ?_
    refine Runs.step (seenAt rfl (asSl_v _)) ?_
    refine Runs.step rfl ?_
    refine Runs.ifT rfl ?_
    refine Runs.step (seenAt rfl rfl) ?_
    refine Runs.step (seenAt rfl (asSl_v _)) ?_
    refine Runs.step (seen (avInt_int _ _)) ?_
    refine Runs.when (g17.same (g14.has b9) 0 0) ?_
    refine Runs.when (g17.same ((g9.trans g14).has b8) 0 0) ?_
    have G19 := ((g9.trans g14).trans g17)
    have b8_20 := G19.has b8
    refine Runs.puts b8_20 rfl fun H18 b18 u18 => ?_
    have G21 := ((g4.trans g5).trans g6)
    have n2_18 := (n2_16.grow g17).upda (Av.of_base n2 (Nat.le_trans (G21).size (Nat.le_refl _))) u18
    have n3_18 := (n3_13.grow (g14.trans g17)).upda (Av.of_base n3 (Nat.le_trans (G21).size (Nat.le_refl _))) u18
    have n14_18 := (n14.grow g17).upda (Av.of_own o14 (g9.has b8).lt) u18
    have n17_18 := n17.upda (Av.of_own o17 ((g9.trans g14).has b8).lt) u18
    have n17b_18 := n17b.upda (Av.of_own o17b ((g9.trans g14).has b8).lt) u18
    have b4_18 := AH.has.updr ((g14.trans g17).has b4_11) (Nat.ne_of_lt (Nat.lt_of_lt_of_le ((g5.trans g6).has b4).lt (Nat.le_refl _))) u18
    have b9_18 := AH.has.updr ((g14.trans g17).has b9) (Nat.ne_of_gt (Nat.lt_of_lt_of_le (b8).lt (Nat.le_refl _))) u18
    refine Runs.puts b9_18 rfl fun H22 b22 u22 => ?_
    have G23 := (G21.trans g8)
    have n2_22 := n2_18.upda (Av.of_base n2 (Nat.le_trans (G23).size (Nat.le_refl _))) u22
    have n3_22 := n3_18.upda (Av.of_base n3 (Nat.le_trans (G23).size (Nat.le_refl _))) u22
    have n14_22 := n14_18.upda (Av.of_own o14 (b9).lt) u22
    have n17_22 := n17_18.upda (Av.of_own o17 (g14.has b9).lt) u22
    have n17b_22 := n17b_18.upda (Av.of_own o17b (g14.has b9).lt) u22
    have G24 := ((g5.trans g6).trans g8)
    have b4_22 := AH.has.updr b4_18 (Nat.ne_of_lt (Nat.lt_of_lt_of_le (G24.has b4).lt (Nat.le_refl _))) u22
    have b18_22 := AH.has.updr b18 (Nat.ne_of_lt (Nat.lt_of_lt_of_le (b8).lt (Nat.le_refl _))) u22
    refine Runs.step (AH.has.rd b18_22 0 rfl rfl) ?_
    refine Runs.step (AH.has.rd b18_22 1 rfl (asSl_v _)) ?_
    have G26 := ((((((g6.trans g8).trans g9).trans g14).trans g17).updr (Nat.le_trans (g6).size (Nat.le_refl _)) u18).updr (Nat.le_trans ((g6.trans g8)).size (Nat.le_refl _)) u22)
    have b5_27 := G26.has b5
    refine Runs.puts b5_27 rfl fun H25 b25 u25 => ?_
    have n2_25 := n2_22.upda (Av.of_base n2 (Nat.le_trans (g4).size (Nat.le_refl _))) u25
    have n3_25 := n3_22.upda (Av.of_base n3 (Nat.le_trans (g4).size (Nat.le_refl _))) u25
    have G28 := ((g6.trans g8).trans g9)
    have n14_25 := n14_22.upda (Av.of_own o14 (G28.has b5).lt) u25
    have G29 := (G28.trans g14)
    have n17_25 := n17_22.upda (Av.of_own o17 (G29.has b5).lt) u25
    have n17b_25 := n17b_22.upda (Av.of_own o17b (G29.has b5).lt) u25
    have b4_25 := AH.has.updr b4_22 (Nat.ne_of_lt (Nat.lt_of_lt_of_le (b4).lt (Nat.le_refl _))) u25
    have b18_25 := AH.has.updr b18_22 (Nat.ne_of_gt (Nat.lt_of_lt_of_le (g6.has b5).lt (Nat.le_refl _))) u25
    have b22_25 := AH.has.updr b22 (Nat.ne_of_gt (Nat.lt_of_lt_of_le ((g6.trans g8).has b5).lt (Nat.le_refl _))) u25
    refine Runs.step (AH.has.rd b25 0 rfl rfl) ?_
    refine Runs.step (AH.has.rd b25 1 rfl (asSl_v _)) ?_
    have z : ref08_Floor' a1 x2 x3 = (((((floorI a1 x2 ((fromI false x3).1) ((fromI false x3).2)).1))), (floorI a1 x2 ((fromI false x3).1) ((fromI false x3).2)).2.1, 0) := by unfold ref08_Floor'; exact (condF k7).trans rfl
    rw [z]
    have G30 := ((((G15.trans g17).updr (Nat.le_trans (G21).size (Nat.le_refl _)) u18).updr (Nat.le_trans (G23).size (Nat.le_refl _)) u22).updr (Nat.le_trans (g4).size (Nat.le_refl _)) u25)
    exact Runs.ret ⟨s17, rfl, n17_25, G30, (o17.of_le G15)⟩

end Go.Ab

/- Layer 8: fractions as numbers. -/
set_option linter.unusedVariables false
set_option linter.unusedSimpArgs false
set_option maxRecDepth 10000
namespace Go.Ab
open Go.Proofs Go.Num

/-- A fraction's numerator and denominator in lowest terms, or too long. -/
def fracM (z : Int) (d : Nat) : Bool × List Nat × List Nat × Int :=
  if z.natAbs / Nat.gcd z.natAbs d < B ^ 16 ∧ d / Nat.gcd z.natAbs d < B ^ 16 then ((intD (z / (Nat.gcd z.natAbs d : Int))).1, (intD (z / (Nat.gcd z.natAbs d : Int))).2, digs B (d / Nat.gcd z.natAbs d), 0) else (false, [], [], 4)

theorem len_gt16 (m : Nat) : decide ((List.length (digs B m) : Int) > 16) = !decide (m < B ^ 16) := by
  have h := digs_len B2 m 16
  by_cases k : m < B ^ 16
  · have := h.2 k
    rw [decide_eq_true k, decide_eq_false_iff_not.2 (by omega)]
    rfl
  · have : ¬ (digs B m).length ≤ 16 := fun e => k (h.1 e)
    rw [decide_eq_false k, decide_eq_true_iff.2 (by omega)]
    rfl

theorem gcdN_digs {a b : Nat} (ha : a < B ^ 64) (hb : b < B ^ 64) : gcdN (digs B a) (digs B b) = (digs B (Nat.gcd a b), 0) := by
  unfold gcdN
  rw [if_pos ⟨rt_digs ha, rt_digs hb⟩, num_digs B2, num_digs B2]

theorem divN_digs {a b : Nat} (ha : a < B ^ 64) (hb : b < B ^ 64) (h0 : b ≠ 0) : divN (digs B a) (digs B b) = (digs B (a / b), digs B (a % b), 0) := by
  unfold divN
  rw [if_pos ⟨rt_digs ha, rt_digs hb⟩, if_neg (fun e => h0 ((digs_nil B2).1 e)), num_digs B2, num_digs B2]

theorem ediv_sign {z : Int} {g : Nat} (h0 : 0 < g) (h : g ∣ z.natAbs) : z / (g : Int) = if z < 0 then -((z.natAbs / g : Nat) : Int) else ((z.natAbs / g : Nat) : Int) := by
  obtain ⟨k, hk⟩ := h
  rw [hk, Nat.mul_div_cancel_left _ h0]
  have hg : (g : Int) ≠ 0 := by omega
  by_cases hz : z < 0
  · rw [if_pos hz]
    have : z = (g : Int) * (-(k : Int)) := by
      rw [Int.mul_neg, ← Int.natCast_mul, ← hk]
      omega
    rw [this, Int.mul_ediv_cancel_left _ hg]
  · rw [if_neg hz]
    have : z = (g : Int) * (k : Int) := by
      rw [← Int.natCast_mul, ← hk]
      omega
    rw [this, Int.mul_ediv_cancel_left _ hg]

theorem Make_of {z : Int} {d : Nat} (hz : z.natAbs < B ^ 64) (hd : d < B ^ 64) (h0 : d ≠ 0) : rational_Make' (intD z).1 (intD z).2 (digs B d) = fracM z d := by
  unfold rational_Make' fracM
  have hg0 : 0 < Nat.gcd z.natAbs d := Nat.gcd_pos_of_pos_right _ (by omega)
  have hgd : Nat.gcd z.natAbs d ≤ d := Nat.gcd_le_right _ (by omega)
  rw [rtI_intD hz, rt_digs hd]
  have e2 : (intD z).2 = digs B z.natAbs := rfl
  have hq1 : z.natAbs / Nat.gcd z.natAbs d < B ^ 64 := Nat.lt_of_le_of_lt (Nat.div_le_self _ _) hz
  have hq2 : d / Nat.gcd z.natAbs d < B ^ 64 := Nat.lt_of_le_of_lt (Nat.div_le_self _ _) hd
  rw [e2, gcdN_digs hz hd]
  have hgb : Nat.gcd z.natAbs d < B ^ 64 := by omega
  simp only [Bool.not_true, cond_false]
  rw [divN_digs hz hgb (by omega), divN_digs hd hgb (by omega), len_zero, decide_eq_false (fun e => h0 ((digs_nil B2).1 e)), cond_false]
  dsimp only
  have k : ∀ u v : Int, decide (imax u v > 16) = (decide (u > 16) || decide (v > 16)) := by
    intro u v
    rw [imax_eq, Bool.eq_iff_iff]
    simp only [Bool.or_eq_true, decide_eq_true_eq]
    omega
  rw [k, len_gt16, len_gt16, fromI_digs hq1, ediv_sign hg0 (Nat.gcd_dvd_left _ _)]
  have s : (intD z).1 = decide (z < 0) := rfl
  rw [s]
  simp only [decide_eq_true_eq]
  generalize (if z < 0 then -((z.natAbs / Nat.gcd z.natAbs d : Nat) : Int) else ((z.natAbs / Nat.gcd z.natAbs d : Nat) : Int)) = y
  by_cases c1 : z.natAbs / Nat.gcd z.natAbs d < B ^ 16
  · by_cases c2 : d / Nat.gcd z.natAbs d < B ^ 16
    · rw [if_pos ⟨c1, c2⟩, decide_eq_true c1, decide_eq_true c2]
      rfl
    · rw [if_neg (fun h => c2 h.2), decide_eq_false c2, decide_eq_true c1]
      rfl
  · rw [if_neg (fun h => c1 h.1), decide_eq_false c1]
    rfl

/-- What a fraction that may be says. -/
structure IsFrac (p : Bool) (xs ys : List Nat) (z : Int) (d : Nat) : Prop where
  p : p = (intD z).1
  xs : xs = (intD z).2
  ys : ys = digs B d
  pos : 0 < d
  zlt : z.natAbs < B ^ 16
  dlt : d < B ^ 16
  co : Nat.gcd z.natAbs d = 1

theorem B16_64 : B ^ 16 * B ^ 16 * B ^ 16 * 2 ≤ B ^ 64 := by decide +kernel

theorem Right_of {z : Int} {d : Nat} (hz : z.natAbs < B ^ 64) (hd : d < B ^ 64) : rational_Right' (intD z).1 (intD z).2 (digs B d) = decide (0 < d ∧ z.natAbs < B ^ 16 ∧ d < B ^ 16 ∧ Nat.gcd z.natAbs d = 1) := by
  unfold rational_Right'
  rw [rtI_intD hz, rt_digs hd]
  have e2 : (intD z).2 = digs B z.natAbs := rfl
  rw [e2, gcdN_digs hz hd, len_zero, len_gt16, len_gt16]
  simp only [Bool.not_true, cond_false]
  by_cases c0 : d = 0
  · subst c0
    rw [digs_zero]
    simp
  · rw [decide_eq_false (fun e => c0 ((digs_nil B2).1 e)), cond_false]
    by_cases c2 : d < B ^ 16
    · rw [decide_eq_true c2]
      by_cases c1 : z.natAbs < B ^ 16
      · rw [decide_eq_true c1]
        simp only [Bool.not_true, cond_false]
        have hg : Nat.gcd z.natAbs d < B ^ 64 := by
          have := Nat.gcd_le_right z.natAbs (n := d) (by omega)
          omega
        unfold cmpN
        rw [if_pos ⟨rt_digs hg, by decide +kernel⟩, num_digs B2]
        rw [show num B [1] = 1 from by decide +kernel]
        unfold cmp
        by_cases h1 : Nat.gcd z.natAbs d < 1
        · rw [if_pos h1, decide_eq_false (by decide), decide_eq_false]
          intro h
          omega
        · rw [if_neg h1]
          by_cases h2 : Nat.gcd z.natAbs d = 1
          · rw [if_pos h2, decide_eq_true rfl, decide_eq_true]
            exact ⟨by omega, c1, c2, h2⟩
          · rw [if_neg h2, decide_eq_false (by decide), decide_eq_false]
            exact fun h => h2 h.2.2.2
      · rw [decide_eq_false c1]
        simp only [Bool.not_true, cond_false, Bool.not_false, cond_true]
        symm
        rw [decide_eq_false_iff_not]
        exact fun h => c1 h.2.1
    · rw [decide_eq_false c2]
      simp only [Bool.not_false, cond_true]
      symm
      rw [decide_eq_false_iff_not]
      exact fun h => c2 h.2.2.1

theorem B_16_64 {n : Nat} (h : n < B ^ 16) : n < B ^ 64 := Nat.lt_of_lt_of_le h (Nat.pow_le_pow_right (by decide) (by decide))

theorem IsFrac.right {p : Bool} {xs ys : List Nat} {z : Int} {d : Nat} (f : IsFrac p xs ys z d) : rational_Right' p xs ys = true := by
  obtain ⟨rfl, rfl, rfl, h0, h1, h2, h3⟩ := f
  rw [Right_of (B_16_64 h1) (B_16_64 h2), decide_eq_true_eq]
  exact ⟨h0, h1, h2, h3⟩

theorem IsFrac.of {p : Bool} {xs ys : List Nat} (lx : ∀ x ∈ xs, x < B) (ly : ∀ x ∈ ys, x < B) (h : rational_Right' p xs ys = true) : ∃ (z : Int) (d : Nat), IsFrac p xs ys z d := by
  have h1 : rtI p xs = true := by
    cases e : rtI p xs with
    | true => rfl
    | false =>
      unfold rational_Right' at h
      rw [e] at h
      cases h
  have h2 : rt ys = true := by
    cases e : rt ys with
    | true => rfl
    | false =>
      unfold rational_Right' at h
      rw [e, h1] at h
      cases h
  obtain ⟨z, rfl, rfl, hz⟩ := of_rtI lx h1
  have hd := num_lt64 ly h2
  have e : ys = digs B (num B ys) := (digs_num B2 ly (rt_iff.1 h2).2).symm
  rw [e, Right_of hz hd, decide_eq_true_eq] at h
  exact ⟨z, num B ys, rfl, rfl, e, h.1, h.2.1, h.2.2.1, h.2.2.2⟩

theorem mul16 {a b : Nat} (ha : a < B ^ 16) (hb : b < B ^ 16) : a * b < B ^ 16 * B ^ 16 := Nat.mul_lt_mul'' ha hb

theorem B32_64 : B ^ 16 * B ^ 16 * 2 ≤ B ^ 64 := by decide +kernel

theorem over_of {p q : Bool} {xs ys us vs : List Nat} {z w : Int} {d e : Nat} (f : IsFrac p xs ys z d) (k : IsFrac q us vs w e) : rational_over' p xs ys q us vs = intD (z * (e : Int)) ∧ (z * (e : Int)).natAbs < B ^ 16 * B ^ 16 := by
  have hb : (z * (e : Int)).natAbs < B ^ 16 * B ^ 16 := by
    rw [Int.natAbs_mul, Int.natAbs_natCast]
    exact mul16 f.zlt k.dlt
  refine ⟨?_, hb⟩
  unfold rational_over'
  rw [k.ys, fromI_digs (B_16_64 k.dlt), f.p, f.xs]
  simp only [Bool.false_eq_true, if_false]
  have h64 := B32_64
  rw [mul_intD (B_16_64 f.zlt) (by simpa using B_16_64 k.dlt), if_pos (by omega)]

theorem mulN_of {d e : Nat} (hd : d < B ^ 16) (he : e < B ^ 16) : mulN (digs B d) (digs B e) = (digs B (d * e), 0) := by
  unfold mulN
  rw [if_pos ⟨rt_digs (B_16_64 hd), rt_digs (B_16_64 he)⟩, num_digs B2, num_digs B2, told_ok]
  have := mul16 hd he
  have := B32_64
  omega

theorem Add_of {p q : Bool} {xs ys us vs : List Nat} {z w : Int} {d e : Nat} (f : IsFrac p xs ys z d) (k : IsFrac q us vs w e) : rational_Add' p xs ys q us vs = fracM (z * (e : Int) + w * (d : Int)) (d * e) := by
  unfold rational_Add' rational_both__modint_Add'
  rw [f.right, k.right]
  obtain ⟨o1, b1⟩ := over_of f k
  obtain ⟨o2, b2⟩ := over_of k f
  have h64 := B32_64
  rw [o1, o2, add_intD (by omega) (by omega), if_pos (by omega)]
  dsimp only [Bool.and_self, Bool.not_true, cond_false]
  have hb := mul16 f.dlt k.dlt
  have hp := Nat.mul_pos f.pos k.pos
  rw [f.ys, k.ys, mulN_of f.dlt k.dlt]
  dsimp only
  rw [Make_of (by omega) (by omega) (by omega)]
  generalize fracM _ _ = r
  obtain ⟨r1, r2, r3, r4⟩ := r
  rfl

theorem Sub_of {p q : Bool} {xs ys us vs : List Nat} {z w : Int} {d e : Nat} (f : IsFrac p xs ys z d) (k : IsFrac q us vs w e) : rational_Sub' p xs ys q us vs = fracM (z * (e : Int) - w * (d : Int)) (d * e) := by
  unfold rational_Sub' rational_both__modint_Sub'
  rw [f.right, k.right]
  obtain ⟨o1, b1⟩ := over_of f k
  obtain ⟨o2, b2⟩ := over_of k f
  have h64 := B32_64
  rw [o1, o2, sub_intD (by omega) (by omega), if_pos (by omega)]
  dsimp only [Bool.and_self, Bool.not_true, cond_false]
  have hb := mul16 f.dlt k.dlt
  have hp := Nat.mul_pos f.pos k.pos
  rw [f.ys, k.ys, mulN_of f.dlt k.dlt]
  dsimp only
  rw [Make_of (by omega) (by omega) (by omega)]
  generalize fracM _ _ = r
  obtain ⟨r1, r2, r3, r4⟩ := r
  rfl

theorem Mul_of {p q : Bool} {xs ys us vs : List Nat} {z w : Int} {d e : Nat} (f : IsFrac p xs ys z d) (k : IsFrac q us vs w e) : rational_Mul' p xs ys q us vs = fracM (z * w) (d * e) := by
  unfold rational_Mul'
  rw [f.right, k.right]
  have h64 := B32_64
  have b1 : (z * w).natAbs < B ^ 16 * B ^ 16 := by
    rw [Int.natAbs_mul]
    exact mul16 f.zlt k.zlt
  rw [f.p, f.xs, k.p, k.xs, mul_intD (B_16_64 f.zlt) (B_16_64 k.zlt), if_pos (by omega)]
  dsimp only [Bool.and_self, Bool.not_true, cond_false]
  have hb := mul16 f.dlt k.dlt
  have hp := Nat.mul_pos f.pos k.pos
  rw [f.ys, k.ys, mulN_of f.dlt k.dlt]
  dsimp only
  rw [Make_of (by omega) (by omega) (by omega)]
  generalize fracM _ _ = r
  obtain ⟨r1, r2, r3, r4⟩ := r
  rfl

theorem Cmp_of {p q : Bool} {xs ys us vs : List Nat} {z w : Int} {d e : Nat} (f : IsFrac p xs ys z d) (k : IsFrac q us vs w e) : rational_Cmp' p xs ys q us vs = if z * (e : Int) < w * (d : Int) then -1 else if z * (e : Int) = w * (d : Int) then 0 else 1 := by
  unfold rational_Cmp'
  rw [f.right, k.right]
  obtain ⟨o1, b1⟩ := over_of f k
  obtain ⟨o2, b2⟩ := over_of k f
  have h64 := B32_64
  rw [o1, o2, cmp_intD (by omega) (by omega)]
  rfl

theorem Floor_of {p : Bool} {xs ys : List Nat} {z : Int} {d : Nat} (f : IsFrac p xs ys z d) : rational_Floor' p xs ys = ((intD (z / (d : Int))).1, (intD (z / (d : Int))).2, 0) := by
  unfold rational_Floor'
  rw [f.right, f.ys, fromI_digs (B_16_64 f.dlt), f.p, f.xs]
  simp only [Bool.false_eq_true, if_false]
  have := f.pos
  rw [floor_intD (B_16_64 f.zlt) (by simpa using B_16_64 f.dlt) (by omega)]
  rfl

theorem ref08_Add_eq : ref08_Add' = rational_Add' := by
  funext p xs ys q us vs
  unfold ref08_Add' rational_Add' rational_both__modint_Add'
  cases rational_Right' p xs ys <;> cases rational_Right' q us vs <;> rfl

theorem ref08_Mul_eq : ref08_Mul' = rational_Mul' := by
  funext p xs ys q us vs
  unfold ref08_Mul' rational_Mul'
  cases rational_Right' p xs ys <;> cases rational_Right' q us vs <;> rfl

theorem ref08_Cmp_eq : ref08_Cmp' = rational_Cmp' := by
  funext p xs ys q us vs
  unfold ref08_Cmp' rational_Cmp'
  cases rational_Right' p xs ys <;> cases rational_Right' q us vs <;> rfl

theorem IsFrac.neg {q : Bool} {us vs : List Nat} {w : Int} {e : Nat} (k : IsFrac q us vs w e) : IsFrac (negI q us).1 (negI q us).2 vs (-w) e := by
  have := neg_intD (B_16_64 k.zlt)
  rw [k.p, k.xs, this]
  exact ⟨rfl, rfl, k.ys, k.pos, by rw [Int.natAbs_neg]; exact k.zlt, k.dlt, by rw [Int.natAbs_neg]; exact k.co⟩

theorem ref08_Sub_eq {p q : Bool} {xs ys us vs : List Nat} (lx : ∀ x ∈ xs, x < B) (ly : ∀ x ∈ ys, x < B) (lu : ∀ x ∈ us, x < B) (lv : ∀ x ∈ vs, x < B) : ref08_Sub' p xs ys q us vs = rational_Sub' p xs ys q us vs := by
  cases h1 : rational_Right' p xs ys with
  | false =>
    unfold ref08_Sub' rational_Sub' rational_both__modint_Sub'
    rw [h1]
    rfl
  | true =>
    cases h2 : rational_Right' q us vs with
    | false =>
      unfold ref08_Sub' rational_Sub' rational_both__modint_Sub'
      rw [h1, h2]
      rfl
    | true =>
      obtain ⟨z, d, f⟩ := IsFrac.of lx ly h1
      obtain ⟨w, e, k⟩ := IsFrac.of lu lv h2
      rw [Sub_of f k]
      unfold ref08_Sub'
      rw [h1, h2, ref08_Add_eq, Add_of f k.neg, Int.neg_mul, ← Int.sub_eq_add_neg]
      rfl

theorem ref08_Floor_eq {p : Bool} {xs ys : List Nat} (lx : ∀ x ∈ xs, x < B) (ly : ∀ x ∈ ys, x < B) : ref08_Floor' p xs ys = rational_Floor' p xs ys := by
  cases h1 : rational_Right' p xs ys with
  | false =>
    unfold ref08_Floor' rational_Floor'
    rw [h1]
    rfl
  | true =>
    obtain ⟨z, d, f⟩ := IsFrac.of lx ly h1
    rw [Floor_of f]
    unfold ref08_Floor'
    rw [h1, f.ys, fromI_digs (B_16_64 f.dlt), f.p, f.xs]
    simp only [Bool.false_eq_true, if_false]
    have := f.pos
    rw [floor_intD (B_16_64 f.zlt) (by simpa using B_16_64 f.dlt) (by omega)]
    rfl

theorem ref08_Same_spec {h : AH} {s s' t t' : Sl} {xs ys : List Nat} (n : Nats h s xs) (n' : Nats h s' ys) (m : Nats h t xs) (m' : Nats h t' ys) (p : Bool) : ∃ h', go (.fn F.ref08_Same [.agg [.bool p, s.v, s'.v], .agg [.bool p, t.v, t'.v]]) h = some (.bool true, h') ∧ Grow h h' := by
  rw [u_ref08_Same]
  simp only [newK_eq]
  have b0 := AH.has_push h [.bool p, s.v, s'.v] T.api_Frac
  have g0 := Grow.push h (.cells [.bool p, s.v, s'.v] T.api_Frac)
  generalize h.push (.cells [.bool p, s.v, s'.v] T.api_Frac) = h0 at *
  have c1 := AH.has_push h0 [.bool p, t.v, t'.v] T.api_Frac
  have g1 := Grow.push h0 (.cells [.bool p, t.v, t'.v] T.api_Frac)
  generalize h0.push (.cells [.bool p, t.v, t'.v] T.api_Frac) = h1 at *
  have b1 := g1.has b0
  have g := g0.trans g1
  obtain ⟨h2, e2, g2⟩ := ref03_Same_spec (n.grow g) (m.grow g) p
  have g' := g.trans g2
  refine ⟨h2, ?_, g'⟩
  simp [Ref.add_add, b1.cell, c1.cell, (g2.has b1).cell, (g2.has c1).cell, e2, ref01_Same_spec (n'.grow g') (m'.grow g')]

theorem ref08_Same_need {h : AH} {s s' t t' : Sl} {xs xs' ys ys' : List Nat} (n : Nats h s xs) (n' : Nats h s' xs') (m : Nats h t ys) (m' : Nats h t' ys') (p q : Bool) (c : p = q ∧ xs = ys ∧ xs' = ys') : ∃ h', go (.fn F.ref08_Same [.agg [.bool p, s.v, s'.v], .agg [.bool q, t.v, t'.v]]) h = some (.bool true, h') ∧ Grow h h' := by
  obtain ⟨rfl, rfl, rfl⟩ := c
  exact ref08_Same_spec n n' m m' p

end Go.Ab

/- Layer 8: what fractions' sums are. -/
set_option linter.unusedVariables false
set_option linter.unusedSimpArgs false
set_option maxRecDepth 10000
namespace Go.Ab
open Go.Proofs Go.Num

/-- A fraction in lowest terms is found from whatever is in its ratio. -/
theorem fracM_ratio {z w : Int} {d e : Nat} (hd : 0 < d) (he : 0 < e) (h : z * (e : Int) = w * (d : Int)) (hw : w.natAbs < B ^ 16) (hb : e < B ^ 16) (co : Nat.gcd w.natAbs e = 1) : fracM z d = ((intD w).1, (intD w).2, digs B e, 0) := by
  have h1 : z.natAbs * e = w.natAbs * d := by
    have := congrArg Int.natAbs h
    simpa [Int.natAbs_mul] using this
  have co' : Nat.Coprime e w.natAbs := Nat.Coprime.symm co
  have h2 : e ∣ d := co'.dvd_of_dvd_mul_left ⟨z.natAbs, by rw [← h1, Nat.mul_comm]⟩
  obtain ⟨k, rfl⟩ := h2
  have hk : 0 < k := Nat.pos_of_mul_pos_left hd
  have h3 : z = w * (k : Int) := by
    have he' : (e : Int) ≠ 0 := by omega
    refine Int.eq_of_mul_eq_mul_right he' ?_
    rw [h, Int.natCast_mul, Int.mul_assoc, Int.mul_comm (k : Int)]
  have h4 : z.natAbs = w.natAbs * k := by rw [h3, Int.natAbs_mul, Int.natAbs_natCast]
  unfold fracM
  have hg : Nat.gcd z.natAbs (e * k) = k := by rw [h4, Nat.gcd_mul_right, co, Nat.one_mul]
  rw [hg, h4, Nat.mul_div_cancel _ hk, Nat.mul_div_cancel _ hk, if_pos ⟨hw, hb⟩, h3, Int.mul_ediv_cancel _ (by omega)]

/-- What a fraction is that was made. -/
theorem fracM_ok {z : Int} {d : Nat} (hd : 0 < d) (h : (fracM z d).2.2.2 = 0) : ∃ (w : Int) (e : Nat), fracM z d = ((intD w).1, (intD w).2, digs B e, 0) ∧ IsFrac (fracM z d).1 (fracM z d).2.1 (fracM z d).2.2.1 w e ∧ w * (d : Int) = z * (e : Int) ∧ ∃ g : Nat, 0 < g ∧ z = w * (g : Int) ∧ d = g * e := by
  unfold fracM at h ⊢
  have hg0 : 0 < Nat.gcd z.natAbs d := Nat.gcd_pos_of_pos_right _ hd
  by_cases c : z.natAbs / Nat.gcd z.natAbs d < B ^ 16 ∧ d / Nat.gcd z.natAbs d < B ^ 16
  · rw [if_pos c]
    obtain ⟨a, ha⟩ := Nat.gcd_dvd_left z.natAbs d
    obtain ⟨b, hb⟩ := Nat.gcd_dvd_right z.natAbs d
    have hz : z / (Nat.gcd z.natAbs d : Int) * (Nat.gcd z.natAbs d : Int) = z := Int.ediv_mul_cancel (Int.ofNat_dvd_left.2 (Nat.gcd_dvd_left _ _))
    have hq1 : z.natAbs / Nat.gcd z.natAbs d = a := by
      have := Nat.mul_div_cancel_left a hg0
      rwa [← ha] at this
    have hq2 : d / Nat.gcd z.natAbs d = b := by
      have := Nat.mul_div_cancel_left b hg0
      rwa [← hb] at this
    rw [hq1, hq2] at c
    rw [hq2]
    have hw : (z / (Nat.gcd z.natAbs d : Int)).natAbs = a := by
      have h5 : (z / (Nat.gcd z.natAbs d : Int)).natAbs * Nat.gcd z.natAbs d = Nat.gcd z.natAbs d * a := by
        have := congrArg Int.natAbs hz
        rw [Int.natAbs_mul, Int.natAbs_natCast] at this
        rw [this]
        exact ha
      rw [Nat.mul_comm] at h5
      exact Nat.eq_of_mul_eq_mul_left hg0 h5
    generalize z / (Nat.gcd z.natAbs d : Int) = w at *
    have hb0 : 0 < b := by
      rcases Nat.eq_zero_or_pos b with e | e
      · subst e
        omega
      · exact e
    have co : Nat.gcd a b = 1 := by
      have h6 : Nat.gcd z.natAbs d = Nat.gcd a b * Nat.gcd z.natAbs d := by
        have := Nat.gcd_mul_left (Nat.gcd z.natAbs d) a b
        rw [← ha, ← hb] at this
        rw [Nat.mul_comm]
        exact this
      have : 1 * Nat.gcd z.natAbs d = Nat.gcd a b * Nat.gcd z.natAbs d := by rw [Nat.one_mul]; exact h6
      exact (Nat.eq_of_mul_eq_mul_right hg0 this).symm
    refine ⟨w, b, rfl, ⟨rfl, rfl, rfl, hb0, by rw [hw]; exact c.1, c.2, by rw [hw]; exact co⟩, ?_, Nat.gcd z.natAbs d, hg0, hz.symm, hb⟩
    have e1 : (d : Int) = (Nat.gcd z.natAbs d : Int) * (b : Int) := by rw [← Int.natCast_mul, ← hb]
    rw [e1, ← Int.mul_assoc, hz]
  · rw [if_neg c] at h
    cases h

theorem Add_no {p q : Bool} {xs ys us vs : List Nat} (h : (rational_Right' p xs ys && rational_Right' q us vs) = false) : rational_Add' p xs ys q us vs = (false, [], [], 1) := by
  unfold rational_Add' rational_both__modint_Add'
  rw [h]
  rfl
theorem Sub_no {p q : Bool} {xs ys us vs : List Nat} (h : (rational_Right' p xs ys && rational_Right' q us vs) = false) : rational_Sub' p xs ys q us vs = (false, [], [], 1) := by
  unfold rational_Sub' rational_both__modint_Sub'
  rw [h]
  rfl
theorem Mul_no {p q : Bool} {xs ys us vs : List Nat} (h : (rational_Right' p xs ys && rational_Right' q us vs) = false) : rational_Mul' p xs ys q us vs = (false, [], [], 1) := by
  unfold rational_Mul'
  rw [h]
  rfl

theorem both_of {p q : Bool} {xs ys us vs : List Nat} (lx : ∀ x ∈ xs, x < B) (ly : ∀ x ∈ ys, x < B) (lu : ∀ x ∈ us, x < B) (lv : ∀ x ∈ vs, x < B) (h : (rational_Right' p xs ys && rational_Right' q us vs) = true) :
    ∃ (z : Int) (d : Nat) (w : Int) (e : Nat), IsFrac p xs ys z d ∧ IsFrac q us vs w e := by
  rw [Bool.and_eq_true] at h
  obtain ⟨z, d, f⟩ := IsFrac.of lx ly h.1
  obtain ⟨w, e, k⟩ := IsFrac.of lu lv h.2
  exact ⟨z, d, w, e, f, k⟩

theorem Add_comm {p q : Bool} {xs ys us vs : List Nat} (lx : ∀ x ∈ xs, x < B) (ly : ∀ x ∈ ys, x < B) (lu : ∀ x ∈ us, x < B) (lv : ∀ x ∈ vs, x < B) : rational_Add' q us vs p xs ys = rational_Add' p xs ys q us vs := by
  cases h : (rational_Right' p xs ys && rational_Right' q us vs) with
  | false => rw [Add_no h, Add_no (by rw [Bool.and_comm]; exact h)]
  | true =>
    obtain ⟨z, d, w, e, f, k⟩ := both_of lx ly lu lv h
    rw [Add_of f k, Add_of k f, Int.add_comm, Nat.mul_comm]

theorem Mul_comm {p q : Bool} {xs ys us vs : List Nat} (lx : ∀ x ∈ xs, x < B) (ly : ∀ x ∈ ys, x < B) (lu : ∀ x ∈ us, x < B) (lv : ∀ x ∈ vs, x < B) : rational_Mul' q us vs p xs ys = rational_Mul' p xs ys q us vs := by
  cases h : (rational_Right' p xs ys && rational_Right' q us vs) with
  | false => rw [Mul_no h, Mul_no (by rw [Bool.and_comm]; exact h)]
  | true =>
    obtain ⟨z, d, w, e, f, k⟩ := both_of lx ly lu lv h
    rw [Mul_of f k, Mul_of k f, Int.mul_comm, Nat.mul_comm]

/-- What was added is gone when it is subtracted. -/
theorem Add_Sub {p q : Bool} {xs ys us vs : List Nat} (lx : ∀ x ∈ xs, x < B) (ly : ∀ x ∈ ys, x < B) (lu : ∀ x ∈ us, x < B) (lv : ∀ x ∈ vs, x < B) (h0 : (rational_Add' p xs ys q us vs).2.2.2 = 0) :
    rational_Sub' (rational_Add' p xs ys q us vs).1 (rational_Add' p xs ys q us vs).2.1 (rational_Add' p xs ys q us vs).2.2.1 q us vs = (p, xs, ys, 0) := by
  cases h : (rational_Right' p xs ys && rational_Right' q us vs) with
  | false => rw [Add_no h] at h0; cases h0
  | true =>
    obtain ⟨z, d, w, e, f, k⟩ := both_of lx ly lu lv h
    rw [Add_of f k] at h0 ⊢
    have hp := Nat.mul_pos f.pos k.pos
    obtain ⟨x, c, _, fx, r1, _⟩ := fracM_ok hp h0
    rw [Sub_of fx k, fracM_ratio (Nat.mul_pos fx.pos k.pos) f.pos ?_ f.zlt f.dlt f.co, ← f.p, ← f.xs, ← f.ys]
    rw [Int.natCast_mul] at r1 ⊢
    have hk : (e : Int) ≠ 0 := by have := k.pos; omega
    have hd : (d : Int) ≠ 0 := by have := f.pos; omega
    have e1 : (x * (e : Int) - w * (c : Int)) * (d : Int) = x * ((d : Int) * (e : Int)) - w * (c : Int) * (d : Int) := by
      rw [Int.sub_mul, Int.mul_assoc, Int.mul_comm (e : Int)]
    rw [e1, r1, Int.add_mul]
    have e2 : w * (d : Int) * (c : Int) = w * (c : Int) * (d : Int) := by rw [Int.mul_assoc, Int.mul_comm (d : Int), ← Int.mul_assoc]
    rw [e2, Int.add_sub_cancel, Int.mul_assoc, Int.mul_comm (e : Int)]

end Go.Ab
