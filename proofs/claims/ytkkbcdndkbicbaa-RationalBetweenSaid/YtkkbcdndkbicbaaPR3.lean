/- Layer 8: sums, products, order: printed by wip/tools/walk.py. -/
import Derived.Test.YtkkbcdndkbicbaaPS42

set_option linter.unusedVariables false
set_option linter.unusedSimpArgs false
set_option maxRecDepth 10000
namespace Go.Ab
open Go.Proofs Go.Num

def rational_both__modint_Add' (a1 : Bool) (x2 : List Nat) (x3 : List Nat) (a4 : Bool) (x5 : List Nat) (x6 : List Nat) : Bool × List Nat × List Nat × Int :=
  cond (!((rational_Right' a1 x2 x3 && rational_Right' a4 x5 x6))) ((false, [], [], 1)) (((((rational_Make' (((modint_Add' ((rational_over' a1 x2 x3 a4 x5 x6).1) ((rational_over' a1 x2 x3 a4 x5 x6).2) ((rational_over' a4 x5 x6 a1 x2 x3).1) ((rational_over' a4 x5 x6 a1 x2 x3).2)).1)) ((modint_Add' ((rational_over' a1 x2 x3 a4 x5 x6).1) ((rational_over' a1 x2 x3 a4 x5 x6).2) ((rational_over' a4 x5 x6 a1 x2 x3).1) ((rational_over' a4 x5 x6 a1 x2 x3).2)).2.1) ((mulN x3 x6).1)).1)), (rational_Make' (((modint_Add' ((rational_over' a1 x2 x3 a4 x5 x6).1) ((rational_over' a1 x2 x3 a4 x5 x6).2) ((rational_over' a4 x5 x6 a1 x2 x3).1) ((rational_over' a4 x5 x6 a1 x2 x3).2)).1)) ((modint_Add' ((rational_over' a1 x2 x3 a4 x5 x6).1) ((rational_over' a1 x2 x3 a4 x5 x6).2) ((rational_over' a4 x5 x6 a1 x2 x3).1) ((rational_over' a4 x5 x6 a1 x2 x3).2)).2.1) ((mulN x3 x6).1)).2.1, (rational_Make' (((modint_Add' ((rational_over' a1 x2 x3 a4 x5 x6).1) ((rational_over' a1 x2 x3 a4 x5 x6).2) ((rational_over' a4 x5 x6 a1 x2 x3).1) ((rational_over' a4 x5 x6 a1 x2 x3).2)).1)) ((modint_Add' ((rational_over' a1 x2 x3 a4 x5 x6).1) ((rational_over' a1 x2 x3 a4 x5 x6).2) ((rational_over' a4 x5 x6 a1 x2 x3).1) ((rational_over' a4 x5 x6 a1 x2 x3).2)).2.1) ((mulN x3 x6).1)).2.2.1, ((rational_Make' (((modint_Add' ((rational_over' a1 x2 x3 a4 x5 x6).1) ((rational_over' a1 x2 x3 a4 x5 x6).2) ((rational_over' a4 x5 x6 a1 x2 x3).1) ((rational_over' a4 x5 x6 a1 x2 x3).2)).1)) ((modint_Add' ((rational_over' a1 x2 x3 a4 x5 x6).1) ((rational_over' a1 x2 x3 a4 x5 x6).2) ((rational_over' a4 x5 x6 a1 x2 x3).1) ((rational_over' a4 x5 x6 a1 x2 x3).2)).2.1) ((mulN x3 x6).1)).2.2.2)))

theorem rational_both__modint_Add_spec {h : AH} {a2 : Sl} {x2 : List Nat} {a3 : Sl} {x3 : List Nat} {a5 : Sl} {x5 : List Nat} {a6 : Sl} {x6 : List Nat} (n2 : Nats h a2 x2) (n3 : Nats h a3 x3) (n5 : Nats h a5 x5) (n6 : Nats h a6 x6) (a1 : Bool) (a4 : Bool) : Runs (go (.fn F.rational_both [.agg [.bool a1, a2.v, a3.v], .agg [.bool a4, a5.v, a6.v], .func (.func F.modint_Add) [] []]) h) fun v h' => ∃ s1 : Sl, ∃ s2 : Sl, v = .tup [.agg [.bool (rational_both__modint_Add' a1 x2 x3 a4 x5 x6).1, s1.v, s2.v], .int .i64 (rational_both__modint_Add' a1 x2 x3 a4 x5 x6).2.2.2] ∧ Nats h' s1 ((rational_both__modint_Add' a1 x2 x3 a4 x5 x6).2.1) ∧ Nats h' s2 ((rational_both__modint_Add' a1 x2 x3 a4 x5 x6).2.2.1) ∧ Grow h h' ∧ Own h s1 ∧ Own h s2 := by
  rw [u_rational_both__modint_Add]
  refine Runs.new fun H7 b7 g7 => ?_
  refine Runs.new fun H8 b8 g8 => ?_
  refine Runs.new fun H9 b9 g9 => ?_
  refine Runs.step (AH.has.rd ((g8.trans g9).has b7) 0 rfl rfl) ?_
  refine Runs.step (AH.has.rd ((g8.trans g9).has b7) 1 rfl (asSl_v _)) ?_
  refine Runs.step (AH.has.rd ((g8.trans g9).has b7) 2 rfl (asSl_v _)) ?_
  refine Runs.step (AH.has.rd (g9.has b8) 0 rfl rfl) ?_
  refine Runs.step (AH.has.rd (g9.has b8) 1 rfl (asSl_v _)) ?_
  refine Runs.step (AH.has.rd (g9.has b8) 2 rfl (asSl_v _)) ?_
  refine Runs.new fun H10 b10 g10 => ?_
  obtain ⟨H11, e11, g11⟩ := rational_right2_spec b10 (n2.grow (((g7.trans g8).trans g9).trans g10)) (n3.grow (((g7.trans g8).trans g9).trans g10)) (n5.grow (((g7.trans g8).trans g9).trans g10)) (n6.grow (((g7.trans g8).trans g9).trans g10))
  refine Runs.step e11 ?_
  refine Runs.step (seen rfl) ?_
  refine Runs.cond (fun k12 => ?_) (fun k12 => ?_)
  · refine Runs.puts ((g10.trans g11).has b9) rfl fun H13 b13 u13 => ?_
    have b10_13 := AH.has.updr (g11.has b10) (Nat.ne_of_gt (Nat.lt_of_lt_of_le (b9).lt (Nat.le_refl _))) u13
    refine Runs.step (AH.has.rd b13 0 rfl rfl) ?_
    refine Runs.step (AH.has.rd b13 1 rfl (asSl_v _)) ?_
    refine Runs.step (AH.has.rd b13 2 rfl (asSl_v _)) ?_
    have z : rational_both__modint_Add' a1 x2 x3 a4 x5 x6 = (false, [], [], 1) := by unfold rational_both__modint_Add'; exact (condT k12).trans rfl
    rw [z]
    exact Runs.ret ⟨(⟨none, 0, .is 0⟩ : Sl), (⟨none, 0, .is 0⟩ : Sl), rfl, (Nats.nil _), (Nats.nil _), (((((g7.trans g8).trans g9).trans g10).trans g11).updr (Nat.le_trans ((g7.trans g8)).size (Nat.le_refl _)) u13), (Own.nil _), (Own.nil _)⟩
  · refine Runs.new fun H13 b13 g13 => ?_
    refine Runs.step (AH.has.rd (((((g8.trans g9).trans g10).trans g11).trans g13).has b7) 0 rfl rfl) ?_
    refine Runs.step (AH.has.rd (((((g8.trans g9).trans g10).trans g11).trans g13).has b7) 1 rfl (asSl_v _)) ?_
    refine Runs.step (AH.has.rd (((((g8.trans g9).trans g10).trans g11).trans g13).has b7) 2 rfl (asSl_v _)) ?_
    refine Runs.step (AH.has.rd ((((g9.trans g10).trans g11).trans g13).has b8) 0 rfl rfl) ?_
    refine Runs.step (AH.has.rd ((((g9.trans g10).trans g11).trans g13).has b8) 1 rfl (asSl_v _)) ?_
    refine Runs.step (AH.has.rd ((((g9.trans g10).trans g11).trans g13).has b8) 2 rfl (asSl_v _)) ?_
    refine Runs.step (AH.has.rd ((((g9.trans g10).trans g11).trans g13).has b8) 0 rfl rfl) ?_
    refine Runs.step (AH.has.rd ((((g9.trans g10).trans g11).trans g13).has b8) 1 rfl (asSl_v _)) ?_
    refine Runs.step (AH.has.rd ((((g9.trans g10).trans g11).trans g13).has b8) 2 rfl (asSl_v _)) ?_
    refine Runs.step (AH.has.rd (((((g8.trans g9).trans g10).trans g11).trans g13).has b7) 0 rfl rfl) ?_
    refine Runs.step (AH.has.rd (((((g8.trans g9).trans g10).trans g11).trans g13).has b7) 1 rfl (asSl_v _)) ?_
    refine Runs.step (AH.has.rd (((((g8.trans g9).trans g10).trans g11).trans g13).has b7) 2 rfl (asSl_v _)) ?_
    obtain ⟨_, H14, e14, s14, rfl, n14, g14, o14⟩ := rational_over_spec (n2.grow (((((g7.trans g8).trans g9).trans g10).trans g11).trans g13)) (n3.grow (((((g7.trans g8).trans g9).trans g10).trans g11).trans g13)) (n5.grow (((((g7.trans g8).trans g9).trans g10).trans g11).trans g13)) (n6.grow (((((g7.trans g8).trans g9).trans g10).trans g11).trans g13)) a1 a4
    refine Runs.step e14 ?_
    refine Runs.step rfl ?_
    refine Runs.ifT rfl ?_
    refine Runs.step (seenAt rfl rfl) ?_
    refine Runs.step (seenAt rfl (asSl_v _)) ?_
    refine Runs.when (g14.same (((((g8.trans g9).trans g10).trans g11).trans g13).has b7) 0 3) ?_
    refine Runs.when (g14.same ((((g9.trans g10).trans g11).trans g13).has b8) 0 3) ?_
    refine Runs.when (g14.same b13 0 0) ?_
    obtain ⟨_, H15, e15, s15, rfl, n15, g15, o15⟩ := rational_over_spec (n5.grow ((((((g7.trans g8).trans g9).trans g10).trans g11).trans g13).trans g14)) (n6.grow ((((((g7.trans g8).trans g9).trans g10).trans g11).trans g13).trans g14)) (n2.grow ((((((g7.trans g8).trans g9).trans g10).trans g11).trans g13).trans g14)) (n3.grow ((((((g7.trans g8).trans g9).trans g10).trans g11).trans g13).trans g14)) a4 a1
    refine Runs.step e15 ?_
    refine Runs.step rfl ?_
    refine Runs.ifT rfl ?_
    refine Runs.step (seenAt rfl rfl) ?_
    refine Runs.step (seenAt rfl (asSl_v _)) ?_
    refine Runs.when (g15.same (g14.has b13) 0 0) ?_
    obtain ⟨_, H16, e16, s16, rfl, n16, g16, o16⟩ := modint_Add_spec (n14.grow g15) n15 ((rational_over' a1 x2 x3 a4 x5 x6).1) ((rational_over' a4 x5 x6 a1 x2 x3).1)
    refine Runs.step e16 ?_
    refine Runs.step rfl ?_
    refine Runs.step rfl ?_
    refine Runs.ifT rfl ?_
    refine Runs.step (seenAt rfl rfl) ?_
    refine Runs.step (seenAt rfl (asSl_v _)) ?_
    refine Runs.step (seen (avInt_int _ _)) ?_
    refine Runs.when (g16.same ((g14.trans g15).has b13) 0 0) ?_
    refine Runs.puts (((g14.trans g15).trans g16).has b13) rfl fun H17 b17 u17 => ?_
    have n14_17 := (n14.grow (g15.trans g16)).upda (Av.of_own o14 (b13).lt) u17
    have n15_17 := (n15.grow g16).upda (Av.of_own o15 (g14.has b13).lt) u17
    have n16_17 := n16.upda (Av.of_own o16 ((g14.trans g15).has b13).lt) u17
    refine Runs.step (AH.has.rd (((((((((g8.trans g9).trans g10).trans g11).trans g13).trans g14).trans g15).trans g16).updr (Nat.le_trans ((((g8.trans g9).trans g10).trans g11)).size (Nat.le_refl _)) u17).has b7) 2 rfl (asSl_v _)) ?_
    refine Runs.step (AH.has.rd ((((((((g9.trans g10).trans g11).trans g13).trans g14).trans g15).trans g16).updr (Nat.le_trans (((g9.trans g10).trans g11)).size (Nat.le_refl _)) u17).has b8) 2 rfl (asSl_v _)) ?_
    obtain ⟨s18, H18, e18, n18, g18, o18⟩ := nat_Mul_spec (n3.grow (((((((((g7.trans g8).trans g9).trans g10).trans g11).trans g13).trans g14).trans g15).trans g16).updr (Nat.le_trans (((((g7.trans g8).trans g9).trans g10).trans g11)).size (Nat.le_refl _)) u17)) (n6.grow (((((((((g7.trans g8).trans g9).trans g10).trans g11).trans g13).trans g14).trans g15).trans g16).updr (Nat.le_trans (((((g7.trans g8).trans g9).trans g10).trans g11)).size (Nat.le_refl _)) u17))
    refine Runs.step e18 ?_
    refine Runs.step rfl ?_
    refine Runs.step (seen (asSl_v _)) ?_
    refine Runs.step (seen (avInt_int _ _)) ?_
    refine Runs.step (AH.has.rd (g18.has b17) 0 rfl rfl) ?_
    refine Runs.step (AH.has.rd (g18.has b17) 1 rfl (asSl_v _)) ?_
    obtain ⟨_, H19, e19, s19, s19b, rfl, n19, n19b, g19, o19, o19b⟩ := rational_Make_spec (n16_17.grow g18) n18 (((modint_Add' ((rational_over' a1 x2 x3 a4 x5 x6).1) ((rational_over' a1 x2 x3 a4 x5 x6).2) ((rational_over' a4 x5 x6 a1 x2 x3).1) ((rational_over' a4 x5 x6 a1 x2 x3).2)).1))
    refine Runs.step e19 ?_
    refine Runs.step rfl ?_
    refine Runs.step rfl ?_
    refine Runs.ifT rfl ?_
    refine Runs.step (seenAt rfl rfl) ?_
    refine Runs.step (seenAt rfl (asSl_v _)) ?_
    refine Runs.step (seenAt rfl (asSl_v _)) ?_
    refine Runs.step (seen (avInt_int _ _)) ?_
    refine Runs.puts (((((((((g10.trans g11).trans g13).trans g14).trans g15).trans g16).updr (Nat.le_trans ((g10.trans g11)).size (Nat.le_refl _)) u17).trans g18).trans g19).has b9) rfl fun H20 b20 u20 => ?_
    have n14_20 := (n14_17.grow (g18.trans g19)).upda (Av.of_own o14 (((g10.trans g11).trans g13).has b9).lt) u20
    have n15_20 := (n15_17.grow (g18.trans g19)).upda (Av.of_own o15 ((((g10.trans g11).trans g13).trans g14).has b9).lt) u20
    have n16_20 := (n16_17.grow (g18.trans g19)).upda (Av.of_own o16 (((((g10.trans g11).trans g13).trans g14).trans g15).has b9).lt) u20
    have n18_20 := (n18.grow g19).upda (Av.of_own o18 (((((((g10.trans g11).trans g13).trans g14).trans g15).trans g16).updr (Nat.le_trans ((g10.trans g11)).size (Nat.le_refl _)) u17).has b9).lt) u20
    have n19_20 := n19.upda (Av.of_own o19 ((((((((g10.trans g11).trans g13).trans g14).trans g15).trans g16).updr (Nat.le_trans ((g10.trans g11)).size (Nat.le_refl _)) u17).trans g18).has b9).lt) u20
    have n19b_20 := n19b.upda (Av.of_own o19b ((((((((g10.trans g11).trans g13).trans g14).trans g15).trans g16).updr (Nat.le_trans ((g10.trans g11)).size (Nat.le_refl _)) u17).trans g18).has b9).lt) u20
    have b10_20 := AH.has.updr ((((((((g11.trans g13).trans g14).trans g15).trans g16).updr (Nat.le_trans (g11).size (Nat.le_refl _)) u17).trans g18).trans g19).has b10) (Nat.ne_of_gt (Nat.lt_of_lt_of_le (b9).lt (Nat.le_refl _))) u20
    have b17_20 := AH.has.updr ((g18.trans g19).has b17) (Nat.ne_of_gt (Nat.lt_of_lt_of_le ((g10.trans g11).has b9).lt (Nat.le_refl _))) u20
    refine Runs.step (AH.has.rd b20 0 rfl rfl) ?_
    refine Runs.step (AH.has.rd b20 1 rfl (asSl_v _)) ?_
    refine Runs.step (AH.has.rd b20 2 rfl (asSl_v _)) ?_
    have z : rational_both__modint_Add' a1 x2 x3 a4 x5 x6 = ((((rational_Make' (((modint_Add' ((rational_over' a1 x2 x3 a4 x5 x6).1) ((rational_over' a1 x2 x3 a4 x5 x6).2) ((rational_over' a4 x5 x6 a1 x2 x3).1) ((rational_over' a4 x5 x6 a1 x2 x3).2)).1)) ((modint_Add' ((rational_over' a1 x2 x3 a4 x5 x6).1) ((rational_over' a1 x2 x3 a4 x5 x6).2) ((rational_over' a4 x5 x6 a1 x2 x3).1) ((rational_over' a4 x5 x6 a1 x2 x3).2)).2.1) ((mulN x3 x6).1)).1)), (rational_Make' (((modint_Add' ((rational_over' a1 x2 x3 a4 x5 x6).1) ((rational_over' a1 x2 x3 a4 x5 x6).2) ((rational_over' a4 x5 x6 a1 x2 x3).1) ((rational_over' a4 x5 x6 a1 x2 x3).2)).1)) ((modint_Add' ((rational_over' a1 x2 x3 a4 x5 x6).1) ((rational_over' a1 x2 x3 a4 x5 x6).2) ((rational_over' a4 x5 x6 a1 x2 x3).1) ((rational_over' a4 x5 x6 a1 x2 x3).2)).2.1) ((mulN x3 x6).1)).2.1, (rational_Make' (((modint_Add' ((rational_over' a1 x2 x3 a4 x5 x6).1) ((rational_over' a1 x2 x3 a4 x5 x6).2) ((rational_over' a4 x5 x6 a1 x2 x3).1) ((rational_over' a4 x5 x6 a1 x2 x3).2)).1)) ((modint_Add' ((rational_over' a1 x2 x3 a4 x5 x6).1) ((rational_over' a1 x2 x3 a4 x5 x6).2) ((rational_over' a4 x5 x6 a1 x2 x3).1) ((rational_over' a4 x5 x6 a1 x2 x3).2)).2.1) ((mulN x3 x6).1)).2.2.1, ((rational_Make' (((modint_Add' ((rational_over' a1 x2 x3 a4 x5 x6).1) ((rational_over' a1 x2 x3 a4 x5 x6).2) ((rational_over' a4 x5 x6 a1 x2 x3).1) ((rational_over' a4 x5 x6 a1 x2 x3).2)).1)) ((modint_Add' ((rational_over' a1 x2 x3 a4 x5 x6).1) ((rational_over' a1 x2 x3 a4 x5 x6).2) ((rational_over' a4 x5 x6 a1 x2 x3).1) ((rational_over' a4 x5 x6 a1 x2 x3).2)).2.1) ((mulN x3 x6).1)).2.2.2)) := by unfold rational_both__modint_Add'; exact (condF k12).trans rfl
    rw [z]
    exact Runs.ret ⟨s19, s19b, rfl, n19_20, n19b_20, ((((((((((((g7.trans g8).trans g9).trans g10).trans g11).trans g13).trans g14).trans g15).trans g16).updr (Nat.le_trans (((((g7.trans g8).trans g9).trans g10).trans g11)).size (Nat.le_refl _)) u17).trans g18).trans g19).updr (Nat.le_trans ((g7.trans g8)).size (Nat.le_refl _)) u20), (o19.of_le ((((((((((g7.trans g8).trans g9).trans g10).trans g11).trans g13).trans g14).trans g15).trans g16).updr (Nat.le_trans (((((g7.trans g8).trans g9).trans g10).trans g11)).size (Nat.le_refl _)) u17).trans g18)), (o19b.of_le ((((((((((g7.trans g8).trans g9).trans g10).trans g11).trans g13).trans g14).trans g15).trans g16).updr (Nat.le_trans (((((g7.trans g8).trans g9).trans g10).trans g11)).size (Nat.le_refl _)) u17).trans g18))⟩

def rational_Add' (a1 : Bool) (x2 : List Nat) (x3 : List Nat) (a4 : Bool) (x5 : List Nat) (x6 : List Nat) : Bool × List Nat × List Nat × Int :=
  ((((rational_both__modint_Add' a1 x2 x3 a4 x5 x6).1)), (rational_both__modint_Add' a1 x2 x3 a4 x5 x6).2.1, (rational_both__modint_Add' a1 x2 x3 a4 x5 x6).2.2.1, ((rational_both__modint_Add' a1 x2 x3 a4 x5 x6).2.2.2))

theorem rational_Add_spec {h : AH} {a2 : Sl} {x2 : List Nat} {a3 : Sl} {x3 : List Nat} {a5 : Sl} {x5 : List Nat} {a6 : Sl} {x6 : List Nat} (n2 : Nats h a2 x2) (n3 : Nats h a3 x3) (n5 : Nats h a5 x5) (n6 : Nats h a6 x6) (a1 : Bool) (a4 : Bool) : Runs (go (.fn F.rational_Add [.agg [.bool a1, a2.v, a3.v], .agg [.bool a4, a5.v, a6.v]]) h) fun v h' => ∃ s1 : Sl, ∃ s2 : Sl, v = .tup [.agg [.bool (rational_Add' a1 x2 x3 a4 x5 x6).1, s1.v, s2.v], .int .i64 (rational_Add' a1 x2 x3 a4 x5 x6).2.2.2] ∧ Nats h' s1 ((rational_Add' a1 x2 x3 a4 x5 x6).2.1) ∧ Nats h' s2 ((rational_Add' a1 x2 x3 a4 x5 x6).2.2.1) ∧ Grow h h' ∧ Own h s1 ∧ Own h s2 := by
  rw [u_rational_Add]
  refine Runs.new fun H7 b7 g7 => ?_
  refine Runs.new fun H8 b8 g8 => ?_
  refine Runs.new fun H9 b9 g9 => ?_
  refine Runs.step (AH.has.rd ((g8.trans g9).has b7) 0 rfl rfl) ?_
  refine Runs.step (AH.has.rd ((g8.trans g9).has b7) 1 rfl (asSl_v _)) ?_
  refine Runs.step (AH.has.rd ((g8.trans g9).has b7) 2 rfl (asSl_v _)) ?_
  refine Runs.step (AH.has.rd (g9.has b8) 0 rfl rfl) ?_
  refine Runs.step (AH.has.rd (g9.has b8) 1 rfl (asSl_v _)) ?_
  refine Runs.step (AH.has.rd (g9.has b8) 2 rfl (asSl_v _)) ?_
  obtain ⟨_, H10, e10, s10, s10b, rfl, n10, n10b, g10, o10, o10b⟩ := rational_both__modint_Add_spec (n2.grow ((g7.trans g8).trans g9)) (n3.grow ((g7.trans g8).trans g9)) (n5.grow ((g7.trans g8).trans g9)) (n6.grow ((g7.trans g8).trans g9)) a1 a4
  refine Runs.step e10 ?_
  refine Runs.step rfl ?_
  refine Runs.step rfl ?_
  refine Runs.ifT rfl ?_
  refine Runs.step (seenAt rfl rfl) ?_
  refine Runs.step (seenAt rfl (asSl_v _)) ?_
  refine Runs.step (seenAt rfl (asSl_v _)) ?_
  refine Runs.step (seen (avInt_int _ _)) ?_
  refine Runs.puts (g10.has b9) rfl fun H11 b11 u11 => ?_
  have n10_11 := n10.upda (Av.of_own o10 (b9).lt) u11
  have n10b_11 := n10b.upda (Av.of_own o10b (b9).lt) u11
  refine Runs.step (AH.has.rd b11 0 rfl rfl) ?_
  refine Runs.step (AH.has.rd b11 1 rfl (asSl_v _)) ?_
  refine Runs.step (AH.has.rd b11 2 rfl (asSl_v _)) ?_
  have z : rational_Add' a1 x2 x3 a4 x5 x6 = ((((rational_both__modint_Add' a1 x2 x3 a4 x5 x6).1)), (rational_both__modint_Add' a1 x2 x3 a4 x5 x6).2.1, (rational_both__modint_Add' a1 x2 x3 a4 x5 x6).2.2.1, ((rational_both__modint_Add' a1 x2 x3 a4 x5 x6).2.2.2)) := by unfold rational_Add'; exact rfl
  rw [z]
  exact Runs.ret ⟨s10, s10b, rfl, n10_11, n10b_11, ((((g7.trans g8).trans g9).trans g10).updr (Nat.le_trans ((g7.trans g8)).size (Nat.le_refl _)) u11), (o10.of_le ((g7.trans g8).trans g9)), (o10b.of_le ((g7.trans g8).trans g9))⟩

def rational_both__modint_Sub' (a1 : Bool) (x2 : List Nat) (x3 : List Nat) (a4 : Bool) (x5 : List Nat) (x6 : List Nat) : Bool × List Nat × List Nat × Int :=
  cond (!((rational_Right' a1 x2 x3 && rational_Right' a4 x5 x6))) ((false, [], [], 1)) (((((rational_Make' (((modint_Sub' ((rational_over' a1 x2 x3 a4 x5 x6).1) ((rational_over' a1 x2 x3 a4 x5 x6).2) ((rational_over' a4 x5 x6 a1 x2 x3).1) ((rational_over' a4 x5 x6 a1 x2 x3).2)).1)) ((modint_Sub' ((rational_over' a1 x2 x3 a4 x5 x6).1) ((rational_over' a1 x2 x3 a4 x5 x6).2) ((rational_over' a4 x5 x6 a1 x2 x3).1) ((rational_over' a4 x5 x6 a1 x2 x3).2)).2.1) ((mulN x3 x6).1)).1)), (rational_Make' (((modint_Sub' ((rational_over' a1 x2 x3 a4 x5 x6).1) ((rational_over' a1 x2 x3 a4 x5 x6).2) ((rational_over' a4 x5 x6 a1 x2 x3).1) ((rational_over' a4 x5 x6 a1 x2 x3).2)).1)) ((modint_Sub' ((rational_over' a1 x2 x3 a4 x5 x6).1) ((rational_over' a1 x2 x3 a4 x5 x6).2) ((rational_over' a4 x5 x6 a1 x2 x3).1) ((rational_over' a4 x5 x6 a1 x2 x3).2)).2.1) ((mulN x3 x6).1)).2.1, (rational_Make' (((modint_Sub' ((rational_over' a1 x2 x3 a4 x5 x6).1) ((rational_over' a1 x2 x3 a4 x5 x6).2) ((rational_over' a4 x5 x6 a1 x2 x3).1) ((rational_over' a4 x5 x6 a1 x2 x3).2)).1)) ((modint_Sub' ((rational_over' a1 x2 x3 a4 x5 x6).1) ((rational_over' a1 x2 x3 a4 x5 x6).2) ((rational_over' a4 x5 x6 a1 x2 x3).1) ((rational_over' a4 x5 x6 a1 x2 x3).2)).2.1) ((mulN x3 x6).1)).2.2.1, ((rational_Make' (((modint_Sub' ((rational_over' a1 x2 x3 a4 x5 x6).1) ((rational_over' a1 x2 x3 a4 x5 x6).2) ((rational_over' a4 x5 x6 a1 x2 x3).1) ((rational_over' a4 x5 x6 a1 x2 x3).2)).1)) ((modint_Sub' ((rational_over' a1 x2 x3 a4 x5 x6).1) ((rational_over' a1 x2 x3 a4 x5 x6).2) ((rational_over' a4 x5 x6 a1 x2 x3).1) ((rational_over' a4 x5 x6 a1 x2 x3).2)).2.1) ((mulN x3 x6).1)).2.2.2)))

theorem rational_both__modint_Sub_spec {h : AH} {a2 : Sl} {x2 : List Nat} {a3 : Sl} {x3 : List Nat} {a5 : Sl} {x5 : List Nat} {a6 : Sl} {x6 : List Nat} (n2 : Nats h a2 x2) (n3 : Nats h a3 x3) (n5 : Nats h a5 x5) (n6 : Nats h a6 x6) (a1 : Bool) (a4 : Bool) : Runs (go (.fn F.rational_both [.agg [.bool a1, a2.v, a3.v], .agg [.bool a4, a5.v, a6.v], .func (.func F.modint_Sub) [] []]) h) fun v h' => ∃ s1 : Sl, ∃ s2 : Sl, v = .tup [.agg [.bool (rational_both__modint_Sub' a1 x2 x3 a4 x5 x6).1, s1.v, s2.v], .int .i64 (rational_both__modint_Sub' a1 x2 x3 a4 x5 x6).2.2.2] ∧ Nats h' s1 ((rational_both__modint_Sub' a1 x2 x3 a4 x5 x6).2.1) ∧ Nats h' s2 ((rational_both__modint_Sub' a1 x2 x3 a4 x5 x6).2.2.1) ∧ Grow h h' ∧ Own h s1 ∧ Own h s2 := by
  rw [u_rational_both__modint_Sub]
  refine Runs.new fun H7 b7 g7 => ?_
  refine Runs.new fun H8 b8 g8 => ?_
  refine Runs.new fun H9 b9 g9 => ?_
  refine Runs.step (AH.has.rd ((g8.trans g9).has b7) 0 rfl rfl) ?_
  refine Runs.step (AH.has.rd ((g8.trans g9).has b7) 1 rfl (asSl_v _)) ?_
  refine Runs.step (AH.has.rd ((g8.trans g9).has b7) 2 rfl (asSl_v _)) ?_
  refine Runs.step (AH.has.rd (g9.has b8) 0 rfl rfl) ?_
  refine Runs.step (AH.has.rd (g9.has b8) 1 rfl (asSl_v _)) ?_
  refine Runs.step (AH.has.rd (g9.has b8) 2 rfl (asSl_v _)) ?_
  refine Runs.new fun H10 b10 g10 => ?_
  obtain ⟨H11, e11, g11⟩ := rational_right2_spec b10 (n2.grow (((g7.trans g8).trans g9).trans g10)) (n3.grow (((g7.trans g8).trans g9).trans g10)) (n5.grow (((g7.trans g8).trans g9).trans g10)) (n6.grow (((g7.trans g8).trans g9).trans g10))
  refine Runs.step e11 ?_
  refine Runs.step (seen rfl) ?_
  refine Runs.cond (fun k12 => ?_) (fun k12 => ?_)
  · refine Runs.puts ((g10.trans g11).has b9) rfl fun H13 b13 u13 => ?_
    have b10_13 := AH.has.updr (g11.has b10) (Nat.ne_of_gt (Nat.lt_of_lt_of_le (b9).lt (Nat.le_refl _))) u13
    refine Runs.step (AH.has.rd b13 0 rfl rfl) ?_
    refine Runs.step (AH.has.rd b13 1 rfl (asSl_v _)) ?_
    refine Runs.step (AH.has.rd b13 2 rfl (asSl_v _)) ?_
    have z : rational_both__modint_Sub' a1 x2 x3 a4 x5 x6 = (false, [], [], 1) := by unfold rational_both__modint_Sub'; exact (condT k12).trans rfl
    rw [z]
    exact Runs.ret ⟨(⟨none, 0, .is 0⟩ : Sl), (⟨none, 0, .is 0⟩ : Sl), rfl, (Nats.nil _), (Nats.nil _), (((((g7.trans g8).trans g9).trans g10).trans g11).updr (Nat.le_trans ((g7.trans g8)).size (Nat.le_refl _)) u13), (Own.nil _), (Own.nil _)⟩
  · refine Runs.new fun H13 b13 g13 => ?_
    refine Runs.step (AH.has.rd (((((g8.trans g9).trans g10).trans g11).trans g13).has b7) 0 rfl rfl) ?_
    refine Runs.step (AH.has.rd (((((g8.trans g9).trans g10).trans g11).trans g13).has b7) 1 rfl (asSl_v _)) ?_
    refine Runs.step (AH.has.rd (((((g8.trans g9).trans g10).trans g11).trans g13).has b7) 2 rfl (asSl_v _)) ?_
    refine Runs.step (AH.has.rd ((((g9.trans g10).trans g11).trans g13).has b8) 0 rfl rfl) ?_
    refine Runs.step (AH.has.rd ((((g9.trans g10).trans g11).trans g13).has b8) 1 rfl (asSl_v _)) ?_
    refine Runs.step (AH.has.rd ((((g9.trans g10).trans g11).trans g13).has b8) 2 rfl (asSl_v _)) ?_
    refine Runs.step (AH.has.rd ((((g9.trans g10).trans g11).trans g13).has b8) 0 rfl rfl) ?_
    refine Runs.step (AH.has.rd ((((g9.trans g10).trans g11).trans g13).has b8) 1 rfl (asSl_v _)) ?_
    refine Runs.step (AH.has.rd ((((g9.trans g10).trans g11).trans g13).has b8) 2 rfl (asSl_v _)) ?_
    refine Runs.step (AH.has.rd (((((g8.trans g9).trans g10).trans g11).trans g13).has b7) 0 rfl rfl) ?_
    refine Runs.step (AH.has.rd (((((g8.trans g9).trans g10).trans g11).trans g13).has b7) 1 rfl (asSl_v _)) ?_
    refine Runs.step (AH.has.rd (((((g8.trans g9).trans g10).trans g11).trans g13).has b7) 2 rfl (asSl_v _)) ?_
    obtain ⟨_, H14, e14, s14, rfl, n14, g14, o14⟩ := rational_over_spec (n2.grow (((((g7.trans g8).trans g9).trans g10).trans g11).trans g13)) (n3.grow (((((g7.trans g8).trans g9).trans g10).trans g11).trans g13)) (n5.grow (((((g7.trans g8).trans g9).trans g10).trans g11).trans g13)) (n6.grow (((((g7.trans g8).trans g9).trans g10).trans g11).trans g13)) a1 a4
    refine Runs.step e14 ?_
    refine Runs.step rfl ?_
    refine Runs.ifT rfl ?_
    refine Runs.step (seenAt rfl rfl) ?_
    refine Runs.step (seenAt rfl (asSl_v _)) ?_
    refine Runs.when (g14.same (((((g8.trans g9).trans g10).trans g11).trans g13).has b7) 0 3) ?_
    refine Runs.when (g14.same ((((g9.trans g10).trans g11).trans g13).has b8) 0 3) ?_
    refine Runs.when (g14.same b13 0 0) ?_
    obtain ⟨_, H15, e15, s15, rfl, n15, g15, o15⟩ := rational_over_spec (n5.grow ((((((g7.trans g8).trans g9).trans g10).trans g11).trans g13).trans g14)) (n6.grow ((((((g7.trans g8).trans g9).trans g10).trans g11).trans g13).trans g14)) (n2.grow ((((((g7.trans g8).trans g9).trans g10).trans g11).trans g13).trans g14)) (n3.grow ((((((g7.trans g8).trans g9).trans g10).trans g11).trans g13).trans g14)) a4 a1
    refine Runs.step e15 ?_
    refine Runs.step rfl ?_
    refine Runs.ifT rfl ?_
    refine Runs.step (seenAt rfl rfl) ?_
    refine Runs.step (seenAt rfl (asSl_v _)) ?_
    refine Runs.when (g15.same (g14.has b13) 0 0) ?_
    obtain ⟨_, H16, e16, s16, rfl, n16, g16, o16⟩ := modint_Sub_spec (n14.grow g15) n15 ((rational_over' a1 x2 x3 a4 x5 x6).1) ((rational_over' a4 x5 x6 a1 x2 x3).1)
    refine Runs.step e16 ?_
    refine Runs.step rfl ?_
    refine Runs.step rfl ?_
    refine Runs.ifT rfl ?_
    refine Runs.step (seenAt rfl rfl) ?_
    refine Runs.step (seenAt rfl (asSl_v _)) ?_
    refine Runs.step (seen (avInt_int _ _)) ?_
    refine Runs.when (g16.same ((g14.trans g15).has b13) 0 0) ?_
    refine Runs.puts (((g14.trans g15).trans g16).has b13) rfl fun H17 b17 u17 => ?_
    have n14_17 := (n14.grow (g15.trans g16)).upda (Av.of_own o14 (b13).lt) u17
    have n15_17 := (n15.grow g16).upda (Av.of_own o15 (g14.has b13).lt) u17
    have n16_17 := n16.upda (Av.of_own o16 ((g14.trans g15).has b13).lt) u17
    refine Runs.step (AH.has.rd (((((((((g8.trans g9).trans g10).trans g11).trans g13).trans g14).trans g15).trans g16).updr (Nat.le_trans ((((g8.trans g9).trans g10).trans g11)).size (Nat.le_refl _)) u17).has b7) 2 rfl (asSl_v _)) ?_
    refine Runs.step (AH.has.rd ((((((((g9.trans g10).trans g11).trans g13).trans g14).trans g15).trans g16).updr (Nat.le_trans (((g9.trans g10).trans g11)).size (Nat.le_refl _)) u17).has b8) 2 rfl (asSl_v _)) ?_
    obtain ⟨s18, H18, e18, n18, g18, o18⟩ := nat_Mul_spec (n3.grow (((((((((g7.trans g8).trans g9).trans g10).trans g11).trans g13).trans g14).trans g15).trans g16).updr (Nat.le_trans (((((g7.trans g8).trans g9).trans g10).trans g11)).size (Nat.le_refl _)) u17)) (n6.grow (((((((((g7.trans g8).trans g9).trans g10).trans g11).trans g13).trans g14).trans g15).trans g16).updr (Nat.le_trans (((((g7.trans g8).trans g9).trans g10).trans g11)).size (Nat.le_refl _)) u17))
    refine Runs.step e18 ?_
    refine Runs.step rfl ?_
    refine Runs.step (seen (asSl_v _)) ?_
    refine Runs.step (seen (avInt_int _ _)) ?_
    refine Runs.step (AH.has.rd (g18.has b17) 0 rfl rfl) ?_
    refine Runs.step (AH.has.rd (g18.has b17) 1 rfl (asSl_v _)) ?_
    obtain ⟨_, H19, e19, s19, s19b, rfl, n19, n19b, g19, o19, o19b⟩ := rational_Make_spec (n16_17.grow g18) n18 (((modint_Sub' ((rational_over' a1 x2 x3 a4 x5 x6).1) ((rational_over' a1 x2 x3 a4 x5 x6).2) ((rational_over' a4 x5 x6 a1 x2 x3).1) ((rational_over' a4 x5 x6 a1 x2 x3).2)).1))
    refine Runs.step e19 ?_
    refine Runs.step rfl ?_
    refine Runs.step rfl ?_
    refine Runs.ifT rfl ?_
    refine Runs.step (seenAt rfl rfl) ?_
    refine Runs.step (seenAt rfl (asSl_v _)) ?_
    refine Runs.step (seenAt rfl (asSl_v _)) ?_
    refine Runs.step (seen (avInt_int _ _)) ?_
    refine Runs.puts (((((((((g10.trans g11).trans g13).trans g14).trans g15).trans g16).updr (Nat.le_trans ((g10.trans g11)).size (Nat.le_refl _)) u17).trans g18).trans g19).has b9) rfl fun H20 b20 u20 => ?_
    have n14_20 := (n14_17.grow (g18.trans g19)).upda (Av.of_own o14 (((g10.trans g11).trans g13).has b9).lt) u20
    have n15_20 := (n15_17.grow (g18.trans g19)).upda (Av.of_own o15 ((((g10.trans g11).trans g13).trans g14).has b9).lt) u20
    have n16_20 := (n16_17.grow (g18.trans g19)).upda (Av.of_own o16 (((((g10.trans g11).trans g13).trans g14).trans g15).has b9).lt) u20
    have n18_20 := (n18.grow g19).upda (Av.of_own o18 (((((((g10.trans g11).trans g13).trans g14).trans g15).trans g16).updr (Nat.le_trans ((g10.trans g11)).size (Nat.le_refl _)) u17).has b9).lt) u20
    have n19_20 := n19.upda (Av.of_own o19 ((((((((g10.trans g11).trans g13).trans g14).trans g15).trans g16).updr (Nat.le_trans ((g10.trans g11)).size (Nat.le_refl _)) u17).trans g18).has b9).lt) u20
    have n19b_20 := n19b.upda (Av.of_own o19b ((((((((g10.trans g11).trans g13).trans g14).trans g15).trans g16).updr (Nat.le_trans ((g10.trans g11)).size (Nat.le_refl _)) u17).trans g18).has b9).lt) u20
    have b10_20 := AH.has.updr ((((((((g11.trans g13).trans g14).trans g15).trans g16).updr (Nat.le_trans (g11).size (Nat.le_refl _)) u17).trans g18).trans g19).has b10) (Nat.ne_of_gt (Nat.lt_of_lt_of_le (b9).lt (Nat.le_refl _))) u20
    have b17_20 := AH.has.updr ((g18.trans g19).has b17) (Nat.ne_of_gt (Nat.lt_of_lt_of_le ((g10.trans g11).has b9).lt (Nat.le_refl _))) u20
    refine Runs.step (AH.has.rd b20 0 rfl rfl) ?_
    refine Runs.step (AH.has.rd b20 1 rfl (asSl_v _)) ?_
    refine Runs.step (AH.has.rd b20 2 rfl (asSl_v _)) ?_
    have z : rational_both__modint_Sub' a1 x2 x3 a4 x5 x6 = ((((rational_Make' (((modint_Sub' ((rational_over' a1 x2 x3 a4 x5 x6).1) ((rational_over' a1 x2 x3 a4 x5 x6).2) ((rational_over' a4 x5 x6 a1 x2 x3).1) ((rational_over' a4 x5 x6 a1 x2 x3).2)).1)) ((modint_Sub' ((rational_over' a1 x2 x3 a4 x5 x6).1) ((rational_over' a1 x2 x3 a4 x5 x6).2) ((rational_over' a4 x5 x6 a1 x2 x3).1) ((rational_over' a4 x5 x6 a1 x2 x3).2)).2.1) ((mulN x3 x6).1)).1)), (rational_Make' (((modint_Sub' ((rational_over' a1 x2 x3 a4 x5 x6).1) ((rational_over' a1 x2 x3 a4 x5 x6).2) ((rational_over' a4 x5 x6 a1 x2 x3).1) ((rational_over' a4 x5 x6 a1 x2 x3).2)).1)) ((modint_Sub' ((rational_over' a1 x2 x3 a4 x5 x6).1) ((rational_over' a1 x2 x3 a4 x5 x6).2) ((rational_over' a4 x5 x6 a1 x2 x3).1) ((rational_over' a4 x5 x6 a1 x2 x3).2)).2.1) ((mulN x3 x6).1)).2.1, (rational_Make' (((modint_Sub' ((rational_over' a1 x2 x3 a4 x5 x6).1) ((rational_over' a1 x2 x3 a4 x5 x6).2) ((rational_over' a4 x5 x6 a1 x2 x3).1) ((rational_over' a4 x5 x6 a1 x2 x3).2)).1)) ((modint_Sub' ((rational_over' a1 x2 x3 a4 x5 x6).1) ((rational_over' a1 x2 x3 a4 x5 x6).2) ((rational_over' a4 x5 x6 a1 x2 x3).1) ((rational_over' a4 x5 x6 a1 x2 x3).2)).2.1) ((mulN x3 x6).1)).2.2.1, ((rational_Make' (((modint_Sub' ((rational_over' a1 x2 x3 a4 x5 x6).1) ((rational_over' a1 x2 x3 a4 x5 x6).2) ((rational_over' a4 x5 x6 a1 x2 x3).1) ((rational_over' a4 x5 x6 a1 x2 x3).2)).1)) ((modint_Sub' ((rational_over' a1 x2 x3 a4 x5 x6).1) ((rational_over' a1 x2 x3 a4 x5 x6).2) ((rational_over' a4 x5 x6 a1 x2 x3).1) ((rational_over' a4 x5 x6 a1 x2 x3).2)).2.1) ((mulN x3 x6).1)).2.2.2)) := by unfold rational_both__modint_Sub'; exact (condF k12).trans rfl
    rw [z]
    exact Runs.ret ⟨s19, s19b, rfl, n19_20, n19b_20, ((((((((((((g7.trans g8).trans g9).trans g10).trans g11).trans g13).trans g14).trans g15).trans g16).updr (Nat.le_trans (((((g7.trans g8).trans g9).trans g10).trans g11)).size (Nat.le_refl _)) u17).trans g18).trans g19).updr (Nat.le_trans ((g7.trans g8)).size (Nat.le_refl _)) u20), (o19.of_le ((((((((((g7.trans g8).trans g9).trans g10).trans g11).trans g13).trans g14).trans g15).trans g16).updr (Nat.le_trans (((((g7.trans g8).trans g9).trans g10).trans g11)).size (Nat.le_refl _)) u17).trans g18)), (o19b.of_le ((((((((((g7.trans g8).trans g9).trans g10).trans g11).trans g13).trans g14).trans g15).trans g16).updr (Nat.le_trans (((((g7.trans g8).trans g9).trans g10).trans g11)).size (Nat.le_refl _)) u17).trans g18))⟩

def rational_Sub' (a1 : Bool) (x2 : List Nat) (x3 : List Nat) (a4 : Bool) (x5 : List Nat) (x6 : List Nat) : Bool × List Nat × List Nat × Int :=
  ((((rational_both__modint_Sub' a1 x2 x3 a4 x5 x6).1)), (rational_both__modint_Sub' a1 x2 x3 a4 x5 x6).2.1, (rational_both__modint_Sub' a1 x2 x3 a4 x5 x6).2.2.1, ((rational_both__modint_Sub' a1 x2 x3 a4 x5 x6).2.2.2))

theorem rational_Sub_spec {h : AH} {a2 : Sl} {x2 : List Nat} {a3 : Sl} {x3 : List Nat} {a5 : Sl} {x5 : List Nat} {a6 : Sl} {x6 : List Nat} (n2 : Nats h a2 x2) (n3 : Nats h a3 x3) (n5 : Nats h a5 x5) (n6 : Nats h a6 x6) (a1 : Bool) (a4 : Bool) : Runs (go (.fn F.rational_Sub [.agg [.bool a1, a2.v, a3.v], .agg [.bool a4, a5.v, a6.v]]) h) fun v h' => ∃ s1 : Sl, ∃ s2 : Sl, v = .tup [.agg [.bool (rational_Sub' a1 x2 x3 a4 x5 x6).1, s1.v, s2.v], .int .i64 (rational_Sub' a1 x2 x3 a4 x5 x6).2.2.2] ∧ Nats h' s1 ((rational_Sub' a1 x2 x3 a4 x5 x6).2.1) ∧ Nats h' s2 ((rational_Sub' a1 x2 x3 a4 x5 x6).2.2.1) ∧ Grow h h' ∧ Own h s1 ∧ Own h s2 := by
  rw [u_rational_Sub]
  refine Runs.new fun H7 b7 g7 => ?_
  refine Runs.new fun H8 b8 g8 => ?_
  refine Runs.new fun H9 b9 g9 => ?_
  refine Runs.step (AH.has.rd ((g8.trans g9).has b7) 0 rfl rfl) ?_
  refine Runs.step (AH.has.rd ((g8.trans g9).has b7) 1 rfl (asSl_v _)) ?_
  refine Runs.step (AH.has.rd ((g8.trans g9).has b7) 2 rfl (asSl_v _)) ?_
  refine Runs.step (AH.has.rd (g9.has b8) 0 rfl rfl) ?_
  refine Runs.step (AH.has.rd (g9.has b8) 1 rfl (asSl_v _)) ?_
  refine Runs.step (AH.has.rd (g9.has b8) 2 rfl (asSl_v _)) ?_
  obtain ⟨_, H10, e10, s10, s10b, rfl, n10, n10b, g10, o10, o10b⟩ := rational_both__modint_Sub_spec (n2.grow ((g7.trans g8).trans g9)) (n3.grow ((g7.trans g8).trans g9)) (n5.grow ((g7.trans g8).trans g9)) (n6.grow ((g7.trans g8).trans g9)) a1 a4
  refine Runs.step e10 ?_
  refine Runs.step rfl ?_
  refine Runs.step rfl ?_
  refine Runs.ifT rfl ?_
  refine Runs.step (seenAt rfl rfl) ?_
  refine Runs.step (seenAt rfl (asSl_v _)) ?_
  refine Runs.step (seenAt rfl (asSl_v _)) ?_
  refine Runs.step (seen (avInt_int _ _)) ?_
  refine Runs.puts (g10.has b9) rfl fun H11 b11 u11 => ?_
  have n10_11 := n10.upda (Av.of_own o10 (b9).lt) u11
  have n10b_11 := n10b.upda (Av.of_own o10b (b9).lt) u11
  refine Runs.step (AH.has.rd b11 0 rfl rfl) ?_
  refine Runs.step (AH.has.rd b11 1 rfl (asSl_v _)) ?_
  refine Runs.step (AH.has.rd b11 2 rfl (asSl_v _)) ?_
  have z : rational_Sub' a1 x2 x3 a4 x5 x6 = ((((rational_both__modint_Sub' a1 x2 x3 a4 x5 x6).1)), (rational_both__modint_Sub' a1 x2 x3 a4 x5 x6).2.1, (rational_both__modint_Sub' a1 x2 x3 a4 x5 x6).2.2.1, ((rational_both__modint_Sub' a1 x2 x3 a4 x5 x6).2.2.2)) := by unfold rational_Sub'; exact rfl
  rw [z]
  exact Runs.ret ⟨s10, s10b, rfl, n10_11, n10b_11, ((((g7.trans g8).trans g9).trans g10).updr (Nat.le_trans ((g7.trans g8)).size (Nat.le_refl _)) u11), (o10.of_le ((g7.trans g8).trans g9)), (o10b.of_le ((g7.trans g8).trans g9))⟩

def rational_Mul' (a1 : Bool) (x2 : List Nat) (x3 : List Nat) (a4 : Bool) (x5 : List Nat) (x6 : List Nat) : Bool × List Nat × List Nat × Int :=
  cond (!((rational_Right' a1 x2 x3 && rational_Right' a4 x5 x6))) ((false, [], [], 1)) (((((rational_Make' (((modint_Mul' a1 x2 a4 x5).1)) ((modint_Mul' a1 x2 a4 x5).2.1) ((mulN x3 x6).1)).1)), (rational_Make' (((modint_Mul' a1 x2 a4 x5).1)) ((modint_Mul' a1 x2 a4 x5).2.1) ((mulN x3 x6).1)).2.1, (rational_Make' (((modint_Mul' a1 x2 a4 x5).1)) ((modint_Mul' a1 x2 a4 x5).2.1) ((mulN x3 x6).1)).2.2.1, ((rational_Make' (((modint_Mul' a1 x2 a4 x5).1)) ((modint_Mul' a1 x2 a4 x5).2.1) ((mulN x3 x6).1)).2.2.2)))

theorem rational_Mul_spec {h : AH} {a2 : Sl} {x2 : List Nat} {a3 : Sl} {x3 : List Nat} {a5 : Sl} {x5 : List Nat} {a6 : Sl} {x6 : List Nat} (n2 : Nats h a2 x2) (n3 : Nats h a3 x3) (n5 : Nats h a5 x5) (n6 : Nats h a6 x6) (a1 : Bool) (a4 : Bool) : Runs (go (.fn F.rational_Mul [.agg [.bool a1, a2.v, a3.v], .agg [.bool a4, a5.v, a6.v]]) h) fun v h' => ∃ s1 : Sl, ∃ s2 : Sl, v = .tup [.agg [.bool (rational_Mul' a1 x2 x3 a4 x5 x6).1, s1.v, s2.v], .int .i64 (rational_Mul' a1 x2 x3 a4 x5 x6).2.2.2] ∧ Nats h' s1 ((rational_Mul' a1 x2 x3 a4 x5 x6).2.1) ∧ Nats h' s2 ((rational_Mul' a1 x2 x3 a4 x5 x6).2.2.1) ∧ Grow h h' ∧ Own h s1 ∧ Own h s2 := by
  rw [u_rational_Mul]
  refine Runs.new fun H7 b7 g7 => ?_
  refine Runs.new fun H8 b8 g8 => ?_
  refine Runs.new fun H9 b9 g9 => ?_
  refine Runs.step (AH.has.rd ((g8.trans g9).has b7) 0 rfl rfl) ?_
  refine Runs.step (AH.has.rd ((g8.trans g9).has b7) 1 rfl (asSl_v _)) ?_
  refine Runs.step (AH.has.rd ((g8.trans g9).has b7) 2 rfl (asSl_v _)) ?_
  refine Runs.step (AH.has.rd (g9.has b8) 0 rfl rfl) ?_
  refine Runs.step (AH.has.rd (g9.has b8) 1 rfl (asSl_v _)) ?_
  refine Runs.step (AH.has.rd (g9.has b8) 2 rfl (asSl_v _)) ?_
  refine Runs.new fun H10 b10 g10 => ?_
  obtain ⟨H11, e11, g11⟩ := rational_right2_spec b10 (n2.grow (((g7.trans g8).trans g9).trans g10)) (n3.grow (((g7.trans g8).trans g9).trans g10)) (n5.grow (((g7.trans g8).trans g9).trans g10)) (n6.grow (((g7.trans g8).trans g9).trans g10))
  refine Runs.step e11 ?_
  refine Runs.step (seen rfl) ?_
  refine Runs.cond (fun k12 => ?_) (fun k12 => ?_)
  · refine Runs.puts ((g10.trans g11).has b9) rfl fun H13 b13 u13 => ?_
    have b10_13 := AH.has.updr (g11.has b10) (Nat.ne_of_gt (Nat.lt_of_lt_of_le (b9).lt (Nat.le_refl _))) u13
    refine Runs.step (AH.has.rd b13 0 rfl rfl) ?_
    refine Runs.step (AH.has.rd b13 1 rfl (asSl_v _)) ?_
    refine Runs.step (AH.has.rd b13 2 rfl (asSl_v _)) ?_
    have z : rational_Mul' a1 x2 x3 a4 x5 x6 = (false, [], [], 1) := by unfold rational_Mul'; exact (condT k12).trans rfl
    rw [z]
    exact Runs.ret ⟨(⟨none, 0, .is 0⟩ : Sl), (⟨none, 0, .is 0⟩ : Sl), rfl, (Nats.nil _), (Nats.nil _), (((((g7.trans g8).trans g9).trans g10).trans g11).updr (Nat.le_trans ((g7.trans g8)).size (Nat.le_refl _)) u13), (Own.nil _), (Own.nil _)⟩
  · refine Runs.step (AH.has.rd ((((g8.trans g9).trans g10).trans g11).has b7) 0 rfl rfl) ?_
    refine Runs.step (AH.has.rd ((((g8.trans g9).trans g10).trans g11).has b7) 1 rfl (asSl_v _)) ?_
    refine Runs.step (AH.has.rd (((g9.trans g10).trans g11).has b8) 0 rfl rfl) ?_
    refine Runs.step (AH.has.rd (((g9.trans g10).trans g11).has b8) 1 rfl (asSl_v _)) ?_
    obtain ⟨_, H13, e13, s13, rfl, n13, g13, o13⟩ := modint_Mul_spec (n2.grow ((((g7.trans g8).trans g9).trans g10).trans g11)) (n5.grow ((((g7.trans g8).trans g9).trans g10).trans g11)) a1 a4
    refine Runs.step e13 ?_
    refine Runs.step rfl ?_
    refine Runs.step rfl ?_
    refine Runs.ifT rfl ?_
    refine Runs.step (seenAt rfl rfl) ?_
    refine Runs.step (seenAt rfl (asSl_v _)) ?_
    refine Runs.step (seen (avInt_int _ _)) ?_
    refine Runs.new fun H14 b14 g14 => ?_
    refine Runs.puts b14 rfl fun H15 b15 u15 => ?_
    refine Runs.step (AH.has.rd (((((((g8.trans g9).trans g10).trans g11).trans g13).trans g14).updr (Nat.le_trans (((((g8.trans g9).trans g10).trans g11).trans g13)).size (Nat.le_refl _)) u15).has b7) 2 rfl (asSl_v _)) ?_
    refine Runs.step (AH.has.rd ((((((g9.trans g10).trans g11).trans g13).trans g14).updr (Nat.le_trans ((((g9.trans g10).trans g11).trans g13)).size (Nat.le_refl _)) u15).has b8) 2 rfl (asSl_v _)) ?_
    obtain ⟨s16, H16, e16, n16, g16, o16⟩ := nat_Mul_spec (n3.grow (((((((g7.trans g8).trans g9).trans g10).trans g11).trans g13).trans g14).updr (Nat.le_trans ((((((g7.trans g8).trans g9).trans g10).trans g11).trans g13)).size (Nat.le_refl _)) u15)) (n6.grow (((((((g7.trans g8).trans g9).trans g10).trans g11).trans g13).trans g14).updr (Nat.le_trans ((((((g7.trans g8).trans g9).trans g10).trans g11).trans g13)).size (Nat.le_refl _)) u15))
    refine Runs.step e16 ?_
    refine Runs.step rfl ?_
    refine Runs.step (seen (asSl_v _)) ?_
    refine Runs.step (seen (avInt_int _ _)) ?_
    refine Runs.step (AH.has.rd (g16.has b15) 0 rfl rfl) ?_
    refine Runs.step (AH.has.rd (g16.has b15) 1 rfl (asSl_v _)) ?_
    obtain ⟨_, H17, e17, s17, s17b, rfl, n17, n17b, g17, o17, o17b⟩ := rational_Make_spec (n13.grow ((g14.updr (Nat.le_refl _) u15).trans g16)) n16 (((modint_Mul' a1 x2 a4 x5).1))
    refine Runs.step e17 ?_
    refine Runs.step rfl ?_
    refine Runs.step rfl ?_
    refine Runs.ifT rfl ?_
    refine Runs.step (seenAt rfl rfl) ?_
    refine Runs.step (seenAt rfl (asSl_v _)) ?_
    refine Runs.step (seenAt rfl (asSl_v _)) ?_
    refine Runs.step (seen (avInt_int _ _)) ?_
    refine Runs.puts (((((((g10.trans g11).trans g13).trans g14).updr (Nat.le_trans (((g10.trans g11).trans g13)).size (Nat.le_refl _)) u15).trans g16).trans g17).has b9) rfl fun H18 b18 u18 => ?_
    have n13_18 := (n13.grow (((g14.updr (Nat.le_refl _) u15).trans g16).trans g17)).upda (Av.of_own o13 ((g10.trans g11).has b9).lt) u18
    have n16_18 := (n16.grow g17).upda (Av.of_own o16 (((((g10.trans g11).trans g13).trans g14).updr (Nat.le_trans (((g10.trans g11).trans g13)).size (Nat.le_refl _)) u15).has b9).lt) u18
    have n17_18 := n17.upda (Av.of_own o17 ((((((g10.trans g11).trans g13).trans g14).updr (Nat.le_trans (((g10.trans g11).trans g13)).size (Nat.le_refl _)) u15).trans g16).has b9).lt) u18
    have n17b_18 := n17b.upda (Av.of_own o17b ((((((g10.trans g11).trans g13).trans g14).updr (Nat.le_trans (((g10.trans g11).trans g13)).size (Nat.le_refl _)) u15).trans g16).has b9).lt) u18
    have b10_18 := AH.has.updr ((((((g11.trans g13).trans g14).updr (Nat.le_trans ((g11.trans g13)).size (Nat.le_refl _)) u15).trans g16).trans g17).has b10) (Nat.ne_of_gt (Nat.lt_of_lt_of_le (b9).lt (Nat.le_refl _))) u18
    have b15_18 := AH.has.updr ((g16.trans g17).has b15) (Nat.ne_of_gt (Nat.lt_of_lt_of_le (((g10.trans g11).trans g13).has b9).lt (Nat.le_refl _))) u18
    refine Runs.step (AH.has.rd b18 0 rfl rfl) ?_
    refine Runs.step (AH.has.rd b18 1 rfl (asSl_v _)) ?_
    refine Runs.step (AH.has.rd b18 2 rfl (asSl_v _)) ?_
    have z : rational_Mul' a1 x2 x3 a4 x5 x6 = ((((rational_Make' (((modint_Mul' a1 x2 a4 x5).1)) ((modint_Mul' a1 x2 a4 x5).2.1) ((mulN x3 x6).1)).1)), (rational_Make' (((modint_Mul' a1 x2 a4 x5).1)) ((modint_Mul' a1 x2 a4 x5).2.1) ((mulN x3 x6).1)).2.1, (rational_Make' (((modint_Mul' a1 x2 a4 x5).1)) ((modint_Mul' a1 x2 a4 x5).2.1) ((mulN x3 x6).1)).2.2.1, ((rational_Make' (((modint_Mul' a1 x2 a4 x5).1)) ((modint_Mul' a1 x2 a4 x5).2.1) ((mulN x3 x6).1)).2.2.2)) := by unfold rational_Mul'; exact (condF k12).trans rfl
    rw [z]
    exact Runs.ret ⟨s17, s17b, rfl, n17_18, n17b_18, ((((((((((g7.trans g8).trans g9).trans g10).trans g11).trans g13).trans g14).updr (Nat.le_trans ((((((g7.trans g8).trans g9).trans g10).trans g11).trans g13)).size (Nat.le_refl _)) u15).trans g16).trans g17).updr (Nat.le_trans ((g7.trans g8)).size (Nat.le_refl _)) u18), (o17.of_le ((((((((g7.trans g8).trans g9).trans g10).trans g11).trans g13).trans g14).updr (Nat.le_trans ((((((g7.trans g8).trans g9).trans g10).trans g11).trans g13)).size (Nat.le_refl _)) u15).trans g16)), (o17b.of_le ((((((((g7.trans g8).trans g9).trans g10).trans g11).trans g13).trans g14).updr (Nat.le_trans ((((((g7.trans g8).trans g9).trans g10).trans g11).trans g13)).size (Nat.le_refl _)) u15).trans g16))⟩

def ref08_Add' (a1 : Bool) (x2 : List Nat) (x3 : List Nat) (a4 : Bool) (x5 : List Nat) (x6 : List Nat) : Bool × List Nat × List Nat × Int :=
  cond (!((rational_Right' a1 x2 x3))) ((false, [], [], 1)) (cond (!((rational_Right' a4 x5 x6))) ((false, [], [], 1)) (((((rational_Make' (((modint_Add' ((rational_over' a1 x2 x3 a4 x5 x6).1) ((rational_over' a1 x2 x3 a4 x5 x6).2) ((rational_over' a4 x5 x6 a1 x2 x3).1) ((rational_over' a4 x5 x6 a1 x2 x3).2)).1)) ((modint_Add' ((rational_over' a1 x2 x3 a4 x5 x6).1) ((rational_over' a1 x2 x3 a4 x5 x6).2) ((rational_over' a4 x5 x6 a1 x2 x3).1) ((rational_over' a4 x5 x6 a1 x2 x3).2)).2.1) ((mulN x3 x6).1)).1)), (rational_Make' (((modint_Add' ((rational_over' a1 x2 x3 a4 x5 x6).1) ((rational_over' a1 x2 x3 a4 x5 x6).2) ((rational_over' a4 x5 x6 a1 x2 x3).1) ((rational_over' a4 x5 x6 a1 x2 x3).2)).1)) ((modint_Add' ((rational_over' a1 x2 x3 a4 x5 x6).1) ((rational_over' a1 x2 x3 a4 x5 x6).2) ((rational_over' a4 x5 x6 a1 x2 x3).1) ((rational_over' a4 x5 x6 a1 x2 x3).2)).2.1) ((mulN x3 x6).1)).2.1, (rational_Make' (((modint_Add' ((rational_over' a1 x2 x3 a4 x5 x6).1) ((rational_over' a1 x2 x3 a4 x5 x6).2) ((rational_over' a4 x5 x6 a1 x2 x3).1) ((rational_over' a4 x5 x6 a1 x2 x3).2)).1)) ((modint_Add' ((rational_over' a1 x2 x3 a4 x5 x6).1) ((rational_over' a1 x2 x3 a4 x5 x6).2) ((rational_over' a4 x5 x6 a1 x2 x3).1) ((rational_over' a4 x5 x6 a1 x2 x3).2)).2.1) ((mulN x3 x6).1)).2.2.1, ((rational_Make' (((modint_Add' ((rational_over' a1 x2 x3 a4 x5 x6).1) ((rational_over' a1 x2 x3 a4 x5 x6).2) ((rational_over' a4 x5 x6 a1 x2 x3).1) ((rational_over' a4 x5 x6 a1 x2 x3).2)).1)) ((modint_Add' ((rational_over' a1 x2 x3 a4 x5 x6).1) ((rational_over' a1 x2 x3 a4 x5 x6).2) ((rational_over' a4 x5 x6 a1 x2 x3).1) ((rational_over' a4 x5 x6 a1 x2 x3).2)).2.1) ((mulN x3 x6).1)).2.2.2))))

theorem ref08_Add_spec {h : AH} {a2 : Sl} {x2 : List Nat} {a3 : Sl} {x3 : List Nat} {a5 : Sl} {x5 : List Nat} {a6 : Sl} {x6 : List Nat} (n2 : Nats h a2 x2) (n3 : Nats h a3 x3) (n5 : Nats h a5 x5) (n6 : Nats h a6 x6) (a1 : Bool) (a4 : Bool) : Runs (go (.fn F.ref08_Add [.agg [.bool a1, a2.v, a3.v], .agg [.bool a4, a5.v, a6.v]]) h) fun v h' => ∃ s1 : Sl, ∃ s2 : Sl, v = .tup [.agg [.bool (ref08_Add' a1 x2 x3 a4 x5 x6).1, s1.v, s2.v], .int .i64 (ref08_Add' a1 x2 x3 a4 x5 x6).2.2.2] ∧ Nats h' s1 ((ref08_Add' a1 x2 x3 a4 x5 x6).2.1) ∧ Nats h' s2 ((ref08_Add' a1 x2 x3 a4 x5 x6).2.2.1) ∧ Grow h h' ∧ Own h s1 ∧ Own h s2 := by
  rw [u_ref08_Add]
  refine Runs.new fun H7 b7 g7 => ?_
  refine Runs.new fun H8 b8 g8 => ?_
  refine Runs.new fun H9 b9 g9 => ?_
  refine Runs.step (AH.has.rd ((g8.trans g9).has b7) 0 rfl rfl) ?_
  refine Runs.step (AH.has.rd ((g8.trans g9).has b7) 1 rfl (asSl_v _)) ?_
  refine Runs.step (AH.has.rd ((g8.trans g9).has b7) 2 rfl (asSl_v _)) ?_
  obtain ⟨_, H10, e10, rfl, g10⟩ := ref08_Right_is (n2.grow ((g7.trans g8).trans g9)) (n3.grow ((g7.trans g8).trans g9)) a1
  refine Runs.step e10 ?_
  refine Runs.step (seen rfl) ?_
  refine Runs.step (AH.has.rd ((g9.trans g10).has b8) 0 rfl rfl) ?_
  refine Runs.step (AH.has.rd ((g9.trans g10).has b8) 1 rfl (asSl_v _)) ?_
  refine Runs.step (AH.has.rd ((g9.trans g10).has b8) 2 rfl (asSl_v _)) ?_
  obtain ⟨_, H11, e11, rfl, g11⟩ := ref08_Right_is (n5.grow (((g7.trans g8).trans g9).trans g10)) (n6.grow (((g7.trans g8).trans g9).trans g10)) a4
  refine Runs.step e11 ?_
  refine Runs.step (seen rfl) ?_
  refine Runs.cond (fun k12 => ?_) (fun k12 => ?_)
  · refine Runs.puts ((g10.trans g11).has b9) rfl fun H13 b13 u13 => ?_
    refine Runs.step (AH.has.rd b13 0 rfl rfl) ?_
    refine Runs.step (AH.has.rd b13 1 rfl (asSl_v _)) ?_
    refine Runs.step (AH.has.rd b13 2 rfl (asSl_v _)) ?_
    have z : ref08_Add' a1 x2 x3 a4 x5 x6 = (false, [], [], 1) := by unfold ref08_Add'; exact (condT k12).trans rfl
    rw [z]
    exact Runs.ret ⟨(⟨none, 0, .is 0⟩ : Sl), (⟨none, 0, .is 0⟩ : Sl), rfl, (Nats.nil _), (Nats.nil _), (((((g7.trans g8).trans g9).trans g10).trans g11).updr (Nat.le_trans ((g7.trans g8)).size (Nat.le_refl _)) u13), (Own.nil _), (Own.nil _)⟩
  · refine Runs.cond (fun k13 => ?_) (fun k13 => ?_)
    · refine Runs.puts ((g10.trans g11).has b9) rfl fun H14 b14 u14 => ?_
      refine Runs.step (AH.has.rd b14 0 rfl rfl) ?_
      refine Runs.step (AH.has.rd b14 1 rfl (asSl_v _)) ?_
      refine Runs.step (AH.has.rd b14 2 rfl (asSl_v _)) ?_
      have z : ref08_Add' a1 x2 x3 a4 x5 x6 = (false, [], [], 1) := by unfold ref08_Add'; exact (condF k12).trans ((condT k13).trans rfl)
      rw [z]
      exact Runs.ret ⟨(⟨none, 0, .is 0⟩ : Sl), (⟨none, 0, .is 0⟩ : Sl), rfl, (Nats.nil _), (Nats.nil _), (((((g7.trans g8).trans g9).trans g10).trans g11).updr (Nat.le_trans ((g7.trans g8)).size (Nat.le_refl _)) u14), (Own.nil _), (Own.nil _)⟩
    · refine Runs.new fun H14 b14 g14 => ?_
      refine Runs.step (AH.has.rd (((((g8.trans g9).trans g10).trans g11).trans g14).has b7) 0 rfl rfl) ?_
      refine Runs.step (AH.has.rd (((((g8.trans g9).trans g10).trans g11).trans g14).has b7) 1 rfl (asSl_v _)) ?_
      refine Runs.step (AH.has.rd (((((g8.trans g9).trans g10).trans g11).trans g14).has b7) 2 rfl (asSl_v _)) ?_
      refine Runs.step (AH.has.rd ((((g9.trans g10).trans g11).trans g14).has b8) 0 rfl rfl) ?_
      refine Runs.step (AH.has.rd ((((g9.trans g10).trans g11).trans g14).has b8) 1 rfl (asSl_v _)) ?_
      refine Runs.step (AH.has.rd ((((g9.trans g10).trans g11).trans g14).has b8) 2 rfl (asSl_v _)) ?_
      refine Runs.step (AH.has.rd ((((g9.trans g10).trans g11).trans g14).has b8) 0 rfl rfl) ?_
      refine Runs.step (AH.has.rd ((((g9.trans g10).trans g11).trans g14).has b8) 1 rfl (asSl_v _)) ?_
      refine Runs.step (AH.has.rd ((((g9.trans g10).trans g11).trans g14).has b8) 2 rfl (asSl_v _)) ?_
      refine Runs.step (AH.has.rd (((((g8.trans g9).trans g10).trans g11).trans g14).has b7) 0 rfl rfl) ?_
      refine Runs.step (AH.has.rd (((((g8.trans g9).trans g10).trans g11).trans g14).has b7) 1 rfl (asSl_v _)) ?_
      refine Runs.step (AH.has.rd (((((g8.trans g9).trans g10).trans g11).trans g14).has b7) 2 rfl (asSl_v _)) ?_
      obtain ⟨_, H15, e15, s15, rfl, n15, g15, o15⟩ := ref08_over_is (n2.grow (((((g7.trans g8).trans g9).trans g10).trans g11).trans g14)) (n3.grow (((((g7.trans g8).trans g9).trans g10).trans g11).trans g14)) (n5.grow (((((g7.trans g8).trans g9).trans g10).trans g11).trans g14)) (n6.grow (((((g7.trans g8).trans g9).trans g10).trans g11).trans g14)) a1 a4
      refine Runs.step e15 ?_
      refine Runs.step rfl ?_
      refine Runs.ifT rfl ?_
      refine Runs.step (seenAt rfl rfl) ?_
      refine Runs.step (seenAt rfl (asSl_v _)) ?_
      refine Runs.when (g15.same (((((g8.trans g9).trans g10).trans g11).trans g14).has b7) 0 3) ?_
      refine Runs.when (g15.same ((((g9.trans g10).trans g11).trans g14).has b8) 0 3) ?_
      refine Runs.when (g15.same b14 0 0) ?_
      obtain ⟨_, H16, e16, s16, rfl, n16, g16, o16⟩ := ref08_over_is (n5.grow ((((((g7.trans g8).trans g9).trans g10).trans g11).trans g14).trans g15)) (n6.grow ((((((g7.trans g8).trans g9).trans g10).trans g11).trans g14).trans g15)) (n2.grow ((((((g7.trans g8).trans g9).trans g10).trans g11).trans g14).trans g15)) (n3.grow ((((((g7.trans g8).trans g9).trans g10).trans g11).trans g14).trans g15)) a4 a1
      refine Runs.step e16 ?_
      refine Runs.step rfl ?_
      refine Runs.ifT rfl ?_
      refine Runs.step (seenAt rfl rfl) ?_
      refine Runs.step (seenAt rfl (asSl_v _)) ?_
      refine Runs.when (g16.same (g15.has b14) 0 0) ?_
      obtain ⟨_, H17, e17, s17, rfl, n17, g17, o17⟩ := ref03_Add_is (n15.grow g16) n16 ((rational_over' a1 x2 x3 a4 x5 x6).1) ((rational_over' a4 x5 x6 a1 x2 x3).1)
      refine Runs.step e17 ?_
      refine Runs.step rfl ?_
      refine Runs.step rfl ?_
      refine Runs.ifT rfl ?_
      refine Runs.step (seenAt rfl rfl) ?_
      refine Runs.step (seenAt rfl (asSl_v _)) ?_
      refine Runs.step (seen (avInt_int _ _)) ?_
      refine Runs.when (g17.same ((g15.trans g16).has b14) 0 0) ?_
      refine Runs.puts (((g15.trans g16).trans g17).has b14) rfl fun H18 b18 u18 => ?_
      have n15_18 := (n15.grow (g16.trans g17)).upda (Av.of_own o15 (b14).lt) u18
      have n16_18 := (n16.grow g17).upda (Av.of_own o16 (g15.has b14).lt) u18
      have n17_18 := n17.upda (Av.of_own o17 ((g15.trans g16).has b14).lt) u18
      refine Runs.step (AH.has.rd (((((((((g8.trans g9).trans g10).trans g11).trans g14).trans g15).trans g16).trans g17).updr (Nat.le_trans ((((g8.trans g9).trans g10).trans g11)).size (Nat.le_refl _)) u18).has b7) 2 rfl (asSl_v _)) ?_
      refine Runs.step (AH.has.rd ((((((((g9.trans g10).trans g11).trans g14).trans g15).trans g16).trans g17).updr (Nat.le_trans (((g9.trans g10).trans g11)).size (Nat.le_refl _)) u18).has b8) 2 rfl (asSl_v _)) ?_
      obtain ⟨s19, H19, e19, n19, g19, o19⟩ := ref01_Mul_spec (n3.grow (((((((((g7.trans g8).trans g9).trans g10).trans g11).trans g14).trans g15).trans g16).trans g17).updr (Nat.le_trans (((((g7.trans g8).trans g9).trans g10).trans g11)).size (Nat.le_refl _)) u18)) (n6.grow (((((((((g7.trans g8).trans g9).trans g10).trans g11).trans g14).trans g15).trans g16).trans g17).updr (Nat.le_trans (((((g7.trans g8).trans g9).trans g10).trans g11)).size (Nat.le_refl _)) u18))
      refine Runs.step e19 ?_
      refine Runs.step rfl ?_
      refine Runs.step (seen (asSl_v _)) ?_
      refine Runs.step (seen (avInt_int _ _)) ?_
      refine Runs.step (AH.has.rd (g19.has b18) 0 rfl rfl) ?_
      refine Runs.step (AH.has.rd (g19.has b18) 1 rfl (asSl_v _)) ?_
      obtain ⟨_, H20, e20, s20, s20b, rfl, n20, n20b, g20, o20, o20b⟩ := ref08_Make_is (n17_18.grow g19) n19 (((modint_Add' ((rational_over' a1 x2 x3 a4 x5 x6).1) ((rational_over' a1 x2 x3 a4 x5 x6).2) ((rational_over' a4 x5 x6 a1 x2 x3).1) ((rational_over' a4 x5 x6 a1 x2 x3).2)).1))
      refine Runs.step e20 ?_
      refine Runs.step rfl ?_
      refine Runs.step rfl ?_
      refine Runs.ifT rfl ?_
      refine Runs.step (seenAt rfl rfl) ?_
      refine Runs.step (seenAt rfl (asSl_v _)) ?_
      refine Runs.step (seenAt rfl (asSl_v _)) ?_
      refine Runs.step (seen (avInt_int _ _)) ?_
      refine Runs.puts (((((((((g10.trans g11).trans g14).trans g15).trans g16).trans g17).updr (Nat.le_trans ((g10.trans g11)).size (Nat.le_refl _)) u18).trans g19).trans g20).has b9) rfl fun H21 b21 u21 => ?_
      have n15_21 := (n15_18.grow (g19.trans g20)).upda (Av.of_own o15 (((g10.trans g11).trans g14).has b9).lt) u21
      have n16_21 := (n16_18.grow (g19.trans g20)).upda (Av.of_own o16 ((((g10.trans g11).trans g14).trans g15).has b9).lt) u21
      have n17_21 := (n17_18.grow (g19.trans g20)).upda (Av.of_own o17 (((((g10.trans g11).trans g14).trans g15).trans g16).has b9).lt) u21
      have n19_21 := (n19.grow g20).upda (Av.of_own o19 (((((((g10.trans g11).trans g14).trans g15).trans g16).trans g17).updr (Nat.le_trans ((g10.trans g11)).size (Nat.le_refl _)) u18).has b9).lt) u21
      have n20_21 := n20.upda (Av.of_own o20 ((((((((g10.trans g11).trans g14).trans g15).trans g16).trans g17).updr (Nat.le_trans ((g10.trans g11)).size (Nat.le_refl _)) u18).trans g19).has b9).lt) u21
      have n20b_21 := n20b.upda (Av.of_own o20b ((((((((g10.trans g11).trans g14).trans g15).trans g16).trans g17).updr (Nat.le_trans ((g10.trans g11)).size (Nat.le_refl _)) u18).trans g19).has b9).lt) u21
      have b18_21 := AH.has.updr ((g19.trans g20).has b18) (Nat.ne_of_gt (Nat.lt_of_lt_of_le ((g10.trans g11).has b9).lt (Nat.le_refl _))) u21
      refine Runs.step (AH.has.rd b21 0 rfl rfl) ?_
      refine Runs.step (AH.has.rd b21 1 rfl (asSl_v _)) ?_
      refine Runs.step (AH.has.rd b21 2 rfl (asSl_v _)) ?_
      have z : ref08_Add' a1 x2 x3 a4 x5 x6 = ((((rational_Make' (((modint_Add' ((rational_over' a1 x2 x3 a4 x5 x6).1) ((rational_over' a1 x2 x3 a4 x5 x6).2) ((rational_over' a4 x5 x6 a1 x2 x3).1) ((rational_over' a4 x5 x6 a1 x2 x3).2)).1)) ((modint_Add' ((rational_over' a1 x2 x3 a4 x5 x6).1) ((rational_over' a1 x2 x3 a4 x5 x6).2) ((rational_over' a4 x5 x6 a1 x2 x3).1) ((rational_over' a4 x5 x6 a1 x2 x3).2)).2.1) ((mulN x3 x6).1)).1)), (rational_Make' (((modint_Add' ((rational_over' a1 x2 x3 a4 x5 x6).1) ((rational_over' a1 x2 x3 a4 x5 x6).2) ((rational_over' a4 x5 x6 a1 x2 x3).1) ((rational_over' a4 x5 x6 a1 x2 x3).2)).1)) ((modint_Add' ((rational_over' a1 x2 x3 a4 x5 x6).1) ((rational_over' a1 x2 x3 a4 x5 x6).2) ((rational_over' a4 x5 x6 a1 x2 x3).1) ((rational_over' a4 x5 x6 a1 x2 x3).2)).2.1) ((mulN x3 x6).1)).2.1, (rational_Make' (((modint_Add' ((rational_over' a1 x2 x3 a4 x5 x6).1) ((rational_over' a1 x2 x3 a4 x5 x6).2) ((rational_over' a4 x5 x6 a1 x2 x3).1) ((rational_over' a4 x5 x6 a1 x2 x3).2)).1)) ((modint_Add' ((rational_over' a1 x2 x3 a4 x5 x6).1) ((rational_over' a1 x2 x3 a4 x5 x6).2) ((rational_over' a4 x5 x6 a1 x2 x3).1) ((rational_over' a4 x5 x6 a1 x2 x3).2)).2.1) ((mulN x3 x6).1)).2.2.1, ((rational_Make' (((modint_Add' ((rational_over' a1 x2 x3 a4 x5 x6).1) ((rational_over' a1 x2 x3 a4 x5 x6).2) ((rational_over' a4 x5 x6 a1 x2 x3).1) ((rational_over' a4 x5 x6 a1 x2 x3).2)).1)) ((modint_Add' ((rational_over' a1 x2 x3 a4 x5 x6).1) ((rational_over' a1 x2 x3 a4 x5 x6).2) ((rational_over' a4 x5 x6 a1 x2 x3).1) ((rational_over' a4 x5 x6 a1 x2 x3).2)).2.1) ((mulN x3 x6).1)).2.2.2)) := by unfold ref08_Add'; exact (condF k12).trans ((condF k13).trans rfl)
      rw [z]
      exact Runs.ret ⟨s20, s20b, rfl, n20_21, n20b_21, ((((((((((((g7.trans g8).trans g9).trans g10).trans g11).trans g14).trans g15).trans g16).trans g17).updr (Nat.le_trans (((((g7.trans g8).trans g9).trans g10).trans g11)).size (Nat.le_refl _)) u18).trans g19).trans g20).updr (Nat.le_trans ((g7.trans g8)).size (Nat.le_refl _)) u21), (o20.of_le ((((((((((g7.trans g8).trans g9).trans g10).trans g11).trans g14).trans g15).trans g16).trans g17).updr (Nat.le_trans (((((g7.trans g8).trans g9).trans g10).trans g11)).size (Nat.le_refl _)) u18).trans g19)), (o20b.of_le ((((((((((g7.trans g8).trans g9).trans g10).trans g11).trans g14).trans g15).trans g16).trans g17).updr (Nat.le_trans (((((g7.trans g8).trans g9).trans g10).trans g11)).size (Nat.le_refl _)) u18).trans g19))⟩

def ref08_Sub' (a1 : Bool) (x2 : List Nat) (x3 : List Nat) (a4 : Bool) (x5 : List Nat) (x6 : List Nat) : Bool × List Nat × List Nat × Int :=
  cond (!((rational_Right' a1 x2 x3))) ((false, [], [], 1)) (cond (!((rational_Right' a4 x5 x6))) ((false, [], [], 1)) (((((ref08_Add' a1 x2 x3 ((negI a4 x5).1) ((negI a4 x5).2) x6).1)), (ref08_Add' a1 x2 x3 ((negI a4 x5).1) ((negI a4 x5).2) x6).2.1, (ref08_Add' a1 x2 x3 ((negI a4 x5).1) ((negI a4 x5).2) x6).2.2.1, ((ref08_Add' a1 x2 x3 ((negI a4 x5).1) ((negI a4 x5).2) x6).2.2.2))))

theorem ref08_Sub_spec {h : AH} {a2 : Sl} {x2 : List Nat} {a3 : Sl} {x3 : List Nat} {a5 : Sl} {x5 : List Nat} {a6 : Sl} {x6 : List Nat} (n2 : Nats h a2 x2) (n3 : Nats h a3 x3) (n5 : Nats h a5 x5) (n6 : Nats h a6 x6) (a1 : Bool) (a4 : Bool) : Runs (go (.fn F.ref08_Sub [.agg [.bool a1, a2.v, a3.v], .agg [.bool a4, a5.v, a6.v]]) h) fun v h' => ∃ s1 : Sl, ∃ s2 : Sl, v = .tup [.agg [.bool (ref08_Sub' a1 x2 x3 a4 x5 x6).1, s1.v, s2.v], .int .i64 (ref08_Sub' a1 x2 x3 a4 x5 x6).2.2.2] ∧ Nats h' s1 ((ref08_Sub' a1 x2 x3 a4 x5 x6).2.1) ∧ Nats h' s2 ((ref08_Sub' a1 x2 x3 a4 x5 x6).2.2.1) ∧ Grow h h' ∧ Own h s1 ∧ Own h s2 := by
  rw [u_ref08_Sub]
  refine Runs.new fun H7 b7 g7 => ?_
  refine Runs.new fun H8 b8 g8 => ?_
  refine Runs.new fun H9 b9 g9 => ?_
  refine Runs.step (AH.has.rd ((g8.trans g9).has b7) 0 rfl rfl) ?_
  refine Runs.step (AH.has.rd ((g8.trans g9).has b7) 1 rfl (asSl_v _)) ?_
  refine Runs.step (AH.has.rd ((g8.trans g9).has b7) 2 rfl (asSl_v _)) ?_
  obtain ⟨_, H10, e10, rfl, g10⟩ := ref08_Right_is (n2.grow ((g7.trans g8).trans g9)) (n3.grow ((g7.trans g8).trans g9)) a1
  refine Runs.step e10 ?_
  refine Runs.step (seen rfl) ?_
  refine Runs.step (AH.has.rd ((g9.trans g10).has b8) 0 rfl rfl) ?_
  refine Runs.step (AH.has.rd ((g9.trans g10).has b8) 1 rfl (asSl_v _)) ?_
  refine Runs.step (AH.has.rd ((g9.trans g10).has b8) 2 rfl (asSl_v _)) ?_
  obtain ⟨_, H11, e11, rfl, g11⟩ := ref08_Right_is (n5.grow (((g7.trans g8).trans g9).trans g10)) (n6.grow (((g7.trans g8).trans g9).trans g10)) a4
  refine Runs.step e11 ?_
  refine Runs.step (seen rfl) ?_
  refine Runs.cond (fun k12 => ?_) (fun k12 => ?_)
  · refine Runs.puts ((g10.trans g11).has b9) rfl fun H13 b13 u13 => ?_
    refine Runs.step (AH.has.rd b13 0 rfl rfl) ?_
    refine Runs.step (AH.has.rd b13 1 rfl (asSl_v _)) ?_
    refine Runs.step (AH.has.rd b13 2 rfl (asSl_v _)) ?_
    have z : ref08_Sub' a1 x2 x3 a4 x5 x6 = (false, [], [], 1) := by unfold ref08_Sub'; exact (condT k12).trans rfl
    rw [z]
    exact Runs.ret ⟨(⟨none, 0, .is 0⟩ : Sl), (⟨none, 0, .is 0⟩ : Sl), rfl, (Nats.nil _), (Nats.nil _), (((((g7.trans g8).trans g9).trans g10).trans g11).updr (Nat.le_trans ((g7.trans g8)).size (Nat.le_refl _)) u13), (Own.nil _), (Own.nil _)⟩
  · refine Runs.cond (fun k13 => ?_) (fun k13 => ?_)
    · refine Runs.puts ((g10.trans g11).has b9) rfl fun H14 b14 u14 => ?_
      refine Runs.step (AH.has.rd b14 0 rfl rfl) ?_
      refine Runs.step (AH.has.rd b14 1 rfl (asSl_v _)) ?_
      refine Runs.step (AH.has.rd b14 2 rfl (asSl_v _)) ?_
      have z : ref08_Sub' a1 x2 x3 a4 x5 x6 = (false, [], [], 1) := by unfold ref08_Sub'; exact (condF k12).trans ((condT k13).trans rfl)
      rw [z]
      exact Runs.ret ⟨(⟨none, 0, .is 0⟩ : Sl), (⟨none, 0, .is 0⟩ : Sl), rfl, (Nats.nil _), (Nats.nil _), (((((g7.trans g8).trans g9).trans g10).trans g11).updr (Nat.le_trans ((g7.trans g8)).size (Nat.le_refl _)) u14), (Own.nil _), (Own.nil _)⟩
    · refine Runs.step (AH.has.rd ((((g8.trans g9).trans g10).trans g11).has b7) 0 rfl rfl) ?_
      refine Runs.step (AH.has.rd ((((g8.trans g9).trans g10).trans g11).has b7) 1 rfl (asSl_v _)) ?_
      refine Runs.step (AH.has.rd ((((g8.trans g9).trans g10).trans g11).has b7) 2 rfl (asSl_v _)) ?_
      refine Runs.step (AH.has.rd (((g9.trans g10).trans g11).has b8) 0 rfl rfl) ?_
      refine Runs.step (AH.has.rd (((g9.trans g10).trans g11).has b8) 1 rfl (asSl_v _)) ?_
      refine Runs.step (AH.has.rd (((g9.trans g10).trans g11).has b8) 2 rfl (asSl_v _)) ?_
      obtain ⟨s14, H14, e14, n14, g14, o14⟩ := ref03_Neg_spec (n5.grow ((((g7.trans g8).trans g9).trans g10).trans g11)) a4
      refine Runs.step e14 ?_
      refine Runs.step rfl ?_
      refine Runs.ifT rfl ?_
      refine Runs.step (seenAt rfl rfl) ?_
      refine Runs.step (seenAt rfl (asSl_v _)) ?_
      refine Runs.when (g14.same (((g9.trans g10).trans g11).has b8) 2 1) ?_
      refine Runs.when (g14.same ((((g8.trans g9).trans g10).trans g11).has b7) 0 3) ?_
      obtain ⟨_, H15, e15, s15, s15b, rfl, n15, n15b, g15, o15, o15b⟩ := ref08_Add_spec (n2.grow (((((g7.trans g8).trans g9).trans g10).trans g11).trans g14)) (n3.grow (((((g7.trans g8).trans g9).trans g10).trans g11).trans g14)) n14 (n6.grow (((((g7.trans g8).trans g9).trans g10).trans g11).trans g14)) a1 ((negI a4 x5).1)
      refine Runs.step e15 ?_
      refine Runs.step rfl ?_
      refine Runs.step rfl ?_
      refine Runs.ifT rfl ?_
      refine Runs.step (seenAt rfl rfl) ?_
      refine Runs.step (seenAt rfl (asSl_v _)) ?_
      refine Runs.step (seenAt rfl (asSl_v _)) ?_
      refine Runs.step (seen (avInt_int _ _)) ?_
      refine Runs.puts ((((g10.trans g11).trans g14).trans g15).has b9) rfl fun H16 b16 u16 => ?_
      have n14_16 := (n14.grow g15).upda (Av.of_own o14 ((g10.trans g11).has b9).lt) u16
      have n15_16 := n15.upda (Av.of_own o15 (((g10.trans g11).trans g14).has b9).lt) u16
      have n15b_16 := n15b.upda (Av.of_own o15b (((g10.trans g11).trans g14).has b9).lt) u16
      refine Runs.step (AH.has.rd b16 0 rfl rfl) ?_
      refine Runs.step (AH.has.rd b16 1 rfl (asSl_v _)) ?_
      refine Runs.step (AH.has.rd b16 2 rfl (asSl_v _)) ?_
      have z : ref08_Sub' a1 x2 x3 a4 x5 x6 = ((((ref08_Add' a1 x2 x3 ((negI a4 x5).1) ((negI a4 x5).2) x6).1)), (ref08_Add' a1 x2 x3 ((negI a4 x5).1) ((negI a4 x5).2) x6).2.1, (ref08_Add' a1 x2 x3 ((negI a4 x5).1) ((negI a4 x5).2) x6).2.2.1, ((ref08_Add' a1 x2 x3 ((negI a4 x5).1) ((negI a4 x5).2) x6).2.2.2)) := by unfold ref08_Sub'; exact (condF k12).trans ((condF k13).trans rfl)
      rw [z]
      exact Runs.ret ⟨s15, s15b, rfl, n15_16, n15b_16, (((((((g7.trans g8).trans g9).trans g10).trans g11).trans g14).trans g15).updr (Nat.le_trans ((g7.trans g8)).size (Nat.le_refl _)) u16), (o15.of_le (((((g7.trans g8).trans g9).trans g10).trans g11).trans g14)), (o15b.of_le (((((g7.trans g8).trans g9).trans g10).trans g11).trans g14))⟩

def ref08_Mul' (a1 : Bool) (x2 : List Nat) (x3 : List Nat) (a4 : Bool) (x5 : List Nat) (x6 : List Nat) : Bool × List Nat × List Nat × Int :=
  cond (!((rational_Right' a1 x2 x3))) ((false, [], [], 1)) (cond (!((rational_Right' a4 x5 x6))) ((false, [], [], 1)) (((((rational_Make' (((modint_Mul' a1 x2 a4 x5).1)) ((modint_Mul' a1 x2 a4 x5).2.1) ((mulN x3 x6).1)).1)), (rational_Make' (((modint_Mul' a1 x2 a4 x5).1)) ((modint_Mul' a1 x2 a4 x5).2.1) ((mulN x3 x6).1)).2.1, (rational_Make' (((modint_Mul' a1 x2 a4 x5).1)) ((modint_Mul' a1 x2 a4 x5).2.1) ((mulN x3 x6).1)).2.2.1, ((rational_Make' (((modint_Mul' a1 x2 a4 x5).1)) ((modint_Mul' a1 x2 a4 x5).2.1) ((mulN x3 x6).1)).2.2.2))))

theorem ref08_Mul_spec {h : AH} {a2 : Sl} {x2 : List Nat} {a3 : Sl} {x3 : List Nat} {a5 : Sl} {x5 : List Nat} {a6 : Sl} {x6 : List Nat} (n2 : Nats h a2 x2) (n3 : Nats h a3 x3) (n5 : Nats h a5 x5) (n6 : Nats h a6 x6) (a1 : Bool) (a4 : Bool) : Runs (go (.fn F.ref08_Mul [.agg [.bool a1, a2.v, a3.v], .agg [.bool a4, a5.v, a6.v]]) h) fun v h' => ∃ s1 : Sl, ∃ s2 : Sl, v = .tup [.agg [.bool (ref08_Mul' a1 x2 x3 a4 x5 x6).1, s1.v, s2.v], .int .i64 (ref08_Mul' a1 x2 x3 a4 x5 x6).2.2.2] ∧ Nats h' s1 ((ref08_Mul' a1 x2 x3 a4 x5 x6).2.1) ∧ Nats h' s2 ((ref08_Mul' a1 x2 x3 a4 x5 x6).2.2.1) ∧ Grow h h' ∧ Own h s1 ∧ Own h s2 := by
  rw [u_ref08_Mul]
  refine Runs.new fun H7 b7 g7 => ?_
  refine Runs.new fun H8 b8 g8 => ?_
  refine Runs.new fun H9 b9 g9 => ?_
  refine Runs.step (AH.has.rd ((g8.trans g9).has b7) 0 rfl rfl) ?_
  refine Runs.step (AH.has.rd ((g8.trans g9).has b7) 1 rfl (asSl_v _)) ?_
  refine Runs.step (AH.has.rd ((g8.trans g9).has b7) 2 rfl (asSl_v _)) ?_
  obtain ⟨_, H10, e10, rfl, g10⟩ := ref08_Right_is (n2.grow ((g7.trans g8).trans g9)) (n3.grow ((g7.trans g8).trans g9)) a1
  refine Runs.step e10 ?_
  refine Runs.step (seen rfl) ?_
  refine Runs.step (AH.has.rd ((g9.trans g10).has b8) 0 rfl rfl) ?_
  refine Runs.step (AH.has.rd ((g9.trans g10).has b8) 1 rfl (asSl_v _)) ?_
  refine Runs.step (AH.has.rd ((g9.trans g10).has b8) 2 rfl (asSl_v _)) ?_
  obtain ⟨_, H11, e11, rfl, g11⟩ := ref08_Right_is (n5.grow (((g7.trans g8).trans g9).trans g10)) (n6.grow (((g7.trans g8).trans g9).trans g10)) a4
  refine Runs.step e11 ?_
  refine Runs.step (seen rfl) ?_
  refine Runs.cond (fun k12 => ?_) (fun k12 => ?_)
  · refine Runs.puts ((g10.trans g11).has b9) rfl fun H13 b13 u13 => ?_
    refine Runs.step (AH.has.rd b13 0 rfl rfl) ?_
    refine Runs.step (AH.has.rd b13 1 rfl (asSl_v _)) ?_
    refine Runs.step (AH.has.rd b13 2 rfl (asSl_v _)) ?_
    have z : ref08_Mul' a1 x2 x3 a4 x5 x6 = (false, [], [], 1) := by unfold ref08_Mul'; exact (condT k12).trans rfl
    rw [z]
    exact Runs.ret ⟨(⟨none, 0, .is 0⟩ : Sl), (⟨none, 0, .is 0⟩ : Sl), rfl, (Nats.nil _), (Nats.nil _), (((((g7.trans g8).trans g9).trans g10).trans g11).updr (Nat.le_trans ((g7.trans g8)).size (Nat.le_refl _)) u13), (Own.nil _), (Own.nil _)⟩
  · refine Runs.cond (fun k13 => ?_) (fun k13 => ?_)
    · refine Runs.puts ((g10.trans g11).has b9) rfl fun H14 b14 u14 => ?_
      refine Runs.step (AH.has.rd b14 0 rfl rfl) ?_
      refine Runs.step (AH.has.rd b14 1 rfl (asSl_v _)) ?_
      refine Runs.step (AH.has.rd b14 2 rfl (asSl_v _)) ?_
      have z : ref08_Mul' a1 x2 x3 a4 x5 x6 = (false, [], [], 1) := by unfold ref08_Mul'; exact (condF k12).trans ((condT k13).trans rfl)
      rw [z]
      exact Runs.ret ⟨(⟨none, 0, .is 0⟩ : Sl), (⟨none, 0, .is 0⟩ : Sl), rfl, (Nats.nil _), (Nats.nil _), (((((g7.trans g8).trans g9).trans g10).trans g11).updr (Nat.le_trans ((g7.trans g8)).size (Nat.le_refl _)) u14), (Own.nil _), (Own.nil _)⟩
    · refine Runs.step (AH.has.rd ((((g8.trans g9).trans g10).trans g11).has b7) 0 rfl rfl) ?_
      refine Runs.step (AH.has.rd ((((g8.trans g9).trans g10).trans g11).has b7) 1 rfl (asSl_v _)) ?_
      refine Runs.step (AH.has.rd (((g9.trans g10).trans g11).has b8) 0 rfl rfl) ?_
      refine Runs.step (AH.has.rd (((g9.trans g10).trans g11).has b8) 1 rfl (asSl_v _)) ?_
      obtain ⟨_, H14, e14, s14, rfl, n14, g14, o14⟩ := ref03_Mul_is (n2.grow ((((g7.trans g8).trans g9).trans g10).trans g11)) (n5.grow ((((g7.trans g8).trans g9).trans g10).trans g11)) a1 a4
      refine Runs.step e14 ?_
      refine Runs.step rfl ?_
      refine Runs.step rfl ?_
      refine Runs.ifT rfl ?_
      refine Runs.step (seenAt rfl rfl) ?_
      refine Runs.step (seenAt rfl (asSl_v _)) ?_
      refine Runs.step (seen (avInt_int _ _)) ?_
      refine Runs.new fun H15 b15 g15 => ?_
      refine Runs.puts b15 rfl fun H16 b16 u16 => ?_
      refine Runs.step (AH.has.rd (((((((g8.trans g9).trans g10).trans g11).trans g14).trans g15).updr (Nat.le_trans (((((g8.trans g9).trans g10).trans g11).trans g14)).size (Nat.le_refl _)) u16).has b7) 2 rfl (asSl_v _)) ?_
      refine Runs.step (AH.has.rd ((((((g9.trans g10).trans g11).trans g14).trans g15).updr (Nat.le_trans ((((g9.trans g10).trans g11).trans g14)).size (Nat.le_refl _)) u16).has b8) 2 rfl (asSl_v _)) ?_
      obtain ⟨s17, H17, e17, n17, g17, o17⟩ := ref01_Mul_spec (n3.grow (((((((g7.trans g8).trans g9).trans g10).trans g11).trans g14).trans g15).updr (Nat.le_trans ((((((g7.trans g8).trans g9).trans g10).trans g11).trans g14)).size (Nat.le_refl _)) u16)) (n6.grow (((((((g7.trans g8).trans g9).trans g10).trans g11).trans g14).trans g15).updr (Nat.le_trans ((((((g7.trans g8).trans g9).trans g10).trans g11).trans g14)).size (Nat.le_refl _)) u16))
      refine Runs.step e17 ?_
      refine Runs.step rfl ?_
      refine Runs.step (seen (asSl_v _)) ?_
      refine Runs.step (seen (avInt_int _ _)) ?_
      refine Runs.step (AH.has.rd (g17.has b16) 0 rfl rfl) ?_
      refine Runs.step (AH.has.rd (g17.has b16) 1 rfl (asSl_v _)) ?_
      obtain ⟨_, H18, e18, s18, s18b, rfl, n18, n18b, g18, o18, o18b⟩ := ref08_Make_is (n14.grow ((g15.updr (Nat.le_refl _) u16).trans g17)) n17 (((modint_Mul' a1 x2 a4 x5).1))
      refine Runs.step e18 ?_
      refine Runs.step rfl ?_
      refine Runs.step rfl ?_
      refine Runs.ifT rfl ?_
      refine Runs.step (seenAt rfl rfl) ?_
      refine Runs.step (seenAt rfl (asSl_v _)) ?_
      refine Runs.step (seenAt rfl (asSl_v _)) ?_
      refine Runs.step (seen (avInt_int _ _)) ?_
      refine Runs.puts (((((((g10.trans g11).trans g14).trans g15).updr (Nat.le_trans (((g10.trans g11).trans g14)).size (Nat.le_refl _)) u16).trans g17).trans g18).has b9) rfl fun H19 b19 u19 => ?_
      have n14_19 := (n14.grow (((g15.updr (Nat.le_refl _) u16).trans g17).trans g18)).upda (Av.of_own o14 ((g10.trans g11).has b9).lt) u19
      have n17_19 := (n17.grow g18).upda (Av.of_own o17 (((((g10.trans g11).trans g14).trans g15).updr (Nat.le_trans (((g10.trans g11).trans g14)).size (Nat.le_refl _)) u16).has b9).lt) u19
      have n18_19 := n18.upda (Av.of_own o18 ((((((g10.trans g11).trans g14).trans g15).updr (Nat.le_trans (((g10.trans g11).trans g14)).size (Nat.le_refl _)) u16).trans g17).has b9).lt) u19
      have n18b_19 := n18b.upda (Av.of_own o18b ((((((g10.trans g11).trans g14).trans g15).updr (Nat.le_trans (((g10.trans g11).trans g14)).size (Nat.le_refl _)) u16).trans g17).has b9).lt) u19
      have b16_19 := AH.has.updr ((g17.trans g18).has b16) (Nat.ne_of_gt (Nat.lt_of_lt_of_le (((g10.trans g11).trans g14).has b9).lt (Nat.le_refl _))) u19
      refine Runs.step (AH.has.rd b19 0 rfl rfl) ?_
      refine Runs.step (AH.has.rd b19 1 rfl (asSl_v _)) ?_
      refine Runs.step (AH.has.rd b19 2 rfl (asSl_v _)) ?_
      have z : ref08_Mul' a1 x2 x3 a4 x5 x6 = ((((rational_Make' (((modint_Mul' a1 x2 a4 x5).1)) ((modint_Mul' a1 x2 a4 x5).2.1) ((mulN x3 x6).1)).1)), (rational_Make' (((modint_Mul' a1 x2 a4 x5).1)) ((modint_Mul' a1 x2 a4 x5).2.1) ((mulN x3 x6).1)).2.1, (rational_Make' (((modint_Mul' a1 x2 a4 x5).1)) ((modint_Mul' a1 x2 a4 x5).2.1) ((mulN x3 x6).1)).2.2.1, ((rational_Make' (((modint_Mul' a1 x2 a4 x5).1)) ((modint_Mul' a1 x2 a4 x5).2.1) ((mulN x3 x6).1)).2.2.2)) := by unfold ref08_Mul'; exact (condF k12).trans ((condF k13).trans rfl)
      rw [z]
      exact Runs.ret ⟨s18, s18b, rfl, n18_19, n18b_19, ((((((((((g7.trans g8).trans g9).trans g10).trans g11).trans g14).trans g15).updr (Nat.le_trans ((((((g7.trans g8).trans g9).trans g10).trans g11).trans g14)).size (Nat.le_refl _)) u16).trans g17).trans g18).updr (Nat.le_trans ((g7.trans g8)).size (Nat.le_refl _)) u19), (o18.of_le ((((((((g7.trans g8).trans g9).trans g10).trans g11).trans g14).trans g15).updr (Nat.le_trans ((((((g7.trans g8).trans g9).trans g10).trans g11).trans g14)).size (Nat.le_refl _)) u16).trans g17)), (o18b.of_le ((((((((g7.trans g8).trans g9).trans g10).trans g11).trans g14).trans g15).updr (Nat.le_trans ((((((g7.trans g8).trans g9).trans g10).trans g11).trans g14)).size (Nat.le_refl _)) u16).trans g17))⟩

def rational_Cmp' (a1 : Bool) (x2 : List Nat) (x3 : List Nat) (a4 : Bool) (x5 : List Nat) (x6 : List Nat) : Int :=
  cond (!((rational_Right' a1 x2 x3 && rational_Right' a4 x5 x6))) (0) ((cmpI ((rational_over' a1 x2 x3 a4 x5 x6).1) ((rational_over' a1 x2 x3 a4 x5 x6).2) ((rational_over' a4 x5 x6 a1 x2 x3).1) ((rational_over' a4 x5 x6 a1 x2 x3).2)))

theorem rational_Cmp_spec {h : AH} {a2 : Sl} {x2 : List Nat} {a3 : Sl} {x3 : List Nat} {a5 : Sl} {x5 : List Nat} {a6 : Sl} {x6 : List Nat} (n2 : Nats h a2 x2) (n3 : Nats h a3 x3) (n5 : Nats h a5 x5) (n6 : Nats h a6 x6) (a1 : Bool) (a4 : Bool) : Runs (go (.fn F.rational_Cmp [.agg [.bool a1, a2.v, a3.v], .agg [.bool a4, a5.v, a6.v]]) h) fun v h' => v = .int .i64 (rational_Cmp' a1 x2 x3 a4 x5 x6) ∧ Grow h h' := by
  rw [u_rational_Cmp]
  refine Runs.new fun H7 b7 g7 => ?_
  refine Runs.new fun H8 b8 g8 => ?_
  refine Runs.step (AH.has.rd (g8.has b7) 0 rfl rfl) ?_
  refine Runs.step (AH.has.rd (g8.has b7) 1 rfl (asSl_v _)) ?_
  refine Runs.step (AH.has.rd (g8.has b7) 2 rfl (asSl_v _)) ?_
  refine Runs.step (AH.has.rd b8 0 rfl rfl) ?_
  refine Runs.step (AH.has.rd b8 1 rfl (asSl_v _)) ?_
  refine Runs.step (AH.has.rd b8 2 rfl (asSl_v _)) ?_
  refine Runs.new fun H9 b9 g9 => ?_
  obtain ⟨H10, e10, g10⟩ := rational_right2_spec b9 (n2.grow ((g7.trans g8).trans g9)) (n3.grow ((g7.trans g8).trans g9)) (n5.grow ((g7.trans g8).trans g9)) (n6.grow ((g7.trans g8).trans g9))
  refine Runs.step e10 ?_
  refine Runs.step (seen rfl) ?_
  refine Runs.cond (fun k11 => ?_) (fun k11 => ?_)
  · have z : rational_Cmp' a1 x2 x3 a4 x5 x6 = 0 := by unfold rational_Cmp'; exact (condT k11).trans rfl
    rw [z]
    exact Runs.ret ⟨rfl, (((g7.trans g8).trans g9).trans g10)⟩
  · refine Runs.step (AH.has.rd (((g8.trans g9).trans g10).has b7) 0 rfl rfl) ?_
    refine Runs.step (AH.has.rd (((g8.trans g9).trans g10).has b7) 1 rfl (asSl_v _)) ?_
    refine Runs.step (AH.has.rd (((g8.trans g9).trans g10).has b7) 2 rfl (asSl_v _)) ?_
    refine Runs.step (AH.has.rd ((g9.trans g10).has b8) 0 rfl rfl) ?_
    refine Runs.step (AH.has.rd ((g9.trans g10).has b8) 1 rfl (asSl_v _)) ?_
    refine Runs.step (AH.has.rd ((g9.trans g10).has b8) 2 rfl (asSl_v _)) ?_
    refine Runs.step (AH.has.rd ((g9.trans g10).has b8) 0 rfl rfl) ?_
    refine Runs.step (AH.has.rd ((g9.trans g10).has b8) 1 rfl (asSl_v _)) ?_
    refine Runs.step (AH.has.rd ((g9.trans g10).has b8) 2 rfl (asSl_v _)) ?_
    refine Runs.step (AH.has.rd (((g8.trans g9).trans g10).has b7) 0 rfl rfl) ?_
    refine Runs.step (AH.has.rd (((g8.trans g9).trans g10).has b7) 1 rfl (asSl_v _)) ?_
    refine Runs.step (AH.has.rd (((g8.trans g9).trans g10).has b7) 2 rfl (asSl_v _)) ?_
    obtain ⟨_, H12, e12, s12, rfl, n12, g12, o12⟩ := rational_over_spec (n2.grow (((g7.trans g8).trans g9).trans g10)) (n3.grow (((g7.trans g8).trans g9).trans g10)) (n5.grow (((g7.trans g8).trans g9).trans g10)) (n6.grow (((g7.trans g8).trans g9).trans g10)) a1 a4
    refine Runs.step e12 ?_
    refine Runs.step rfl ?_
    refine Runs.ifT rfl ?_
    refine Runs.step (seenAt rfl rfl) ?_
    refine Runs.step (seenAt rfl (asSl_v _)) ?_
    refine Runs.when (g12.same (((g8.trans g9).trans g10).has b7) 0 3) ?_
    refine Runs.when (g12.same ((g9.trans g10).has b8) 0 3) ?_
    obtain ⟨_, H13, e13, s13, rfl, n13, g13, o13⟩ := rational_over_spec (n5.grow ((((g7.trans g8).trans g9).trans g10).trans g12)) (n6.grow ((((g7.trans g8).trans g9).trans g10).trans g12)) (n2.grow ((((g7.trans g8).trans g9).trans g10).trans g12)) (n3.grow ((((g7.trans g8).trans g9).trans g10).trans g12)) a4 a1
    refine Runs.step e13 ?_
    refine Runs.step rfl ?_
    refine Runs.ifT rfl ?_
    refine Runs.step (seenAt rfl rfl) ?_
    refine Runs.step (seenAt rfl (asSl_v _)) ?_
    obtain ⟨H14, e14, g14⟩ := modint_Cmp_spec (n12.grow g13) n13 ((rational_over' a1 x2 x3 a4 x5 x6).1) ((rational_over' a4 x5 x6 a1 x2 x3).1)
    refine Runs.step e14 ?_
    refine Runs.step (seen (avInt_int _ _)) ?_
    have z : rational_Cmp' a1 x2 x3 a4 x5 x6 = (cmpI ((rational_over' a1 x2 x3 a4 x5 x6).1) ((rational_over' a1 x2 x3 a4 x5 x6).2) ((rational_over' a4 x5 x6 a1 x2 x3).1) ((rational_over' a4 x5 x6 a1 x2 x3).2)) := by unfold rational_Cmp'; exact (condF k11).trans rfl
    rw [z]
    exact Runs.ret ⟨rfl, ((((((g7.trans g8).trans g9).trans g10).trans g12).trans g13).trans g14)⟩

def ref08_Cmp' (a1 : Bool) (x2 : List Nat) (x3 : List Nat) (a4 : Bool) (x5 : List Nat) (x6 : List Nat) : Int :=
  cond (!((rational_Right' a1 x2 x3))) (0) (cond (!((rational_Right' a4 x5 x6))) (0) ((cmpI ((rational_over' a1 x2 x3 a4 x5 x6).1) ((rational_over' a1 x2 x3 a4 x5 x6).2) ((rational_over' a4 x5 x6 a1 x2 x3).1) ((rational_over' a4 x5 x6 a1 x2 x3).2))))

theorem ref08_Cmp_spec {h : AH} {a2 : Sl} {x2 : List Nat} {a3 : Sl} {x3 : List Nat} {a5 : Sl} {x5 : List Nat} {a6 : Sl} {x6 : List Nat} (n2 : Nats h a2 x2) (n3 : Nats h a3 x3) (n5 : Nats h a5 x5) (n6 : Nats h a6 x6) (a1 : Bool) (a4 : Bool) : Runs (go (.fn F.ref08_Cmp [.agg [.bool a1, a2.v, a3.v], .agg [.bool a4, a5.v, a6.v]]) h) fun v h' => v = .int .i64 (ref08_Cmp' a1 x2 x3 a4 x5 x6) ∧ Grow h h' := by
  rw [u_ref08_Cmp]
  refine Runs.new fun H7 b7 g7 => ?_
  refine Runs.new fun H8 b8 g8 => ?_
  refine Runs.step (AH.has.rd (g8.has b7) 0 rfl rfl) ?_
  refine Runs.step (AH.has.rd (g8.has b7) 1 rfl (asSl_v _)) ?_
  refine Runs.step (AH.has.rd (g8.has b7) 2 rfl (asSl_v _)) ?_
  obtain ⟨_, H9, e9, rfl, g9⟩ := ref08_Right_is (n2.grow (g7.trans g8)) (n3.grow (g7.trans g8)) a1
  refine Runs.step e9 ?_
  refine Runs.step (seen rfl) ?_
  refine Runs.step (AH.has.rd (g9.has b8) 0 rfl rfl) ?_
  refine Runs.step (AH.has.rd (g9.has b8) 1 rfl (asSl_v _)) ?_
  refine Runs.step (AH.has.rd (g9.has b8) 2 rfl (asSl_v _)) ?_
  obtain ⟨_, H10, e10, rfl, g10⟩ := ref08_Right_is (n5.grow ((g7.trans g8).trans g9)) (n6.grow ((g7.trans g8).trans g9)) a4
  refine Runs.step e10 ?_
  refine Runs.step (seen rfl) ?_
  refine Runs.cond (fun k11 => ?_) (fun k11 => ?_)
  · have z : ref08_Cmp' a1 x2 x3 a4 x5 x6 = 0 := by unfold ref08_Cmp'; exact (condT k11).trans rfl
    rw [z]
    exact Runs.ret ⟨rfl, (((g7.trans g8).trans g9).trans g10)⟩
  · refine Runs.cond (fun k12 => ?_) (fun k12 => ?_)
    · have z : ref08_Cmp' a1 x2 x3 a4 x5 x6 = 0 := by unfold ref08_Cmp'; exact (condF k11).trans ((condT k12).trans rfl)
      rw [z]
      exact Runs.ret ⟨rfl, (((g7.trans g8).trans g9).trans g10)⟩
    · refine Runs.step (AH.has.rd (((g8.trans g9).trans g10).has b7) 0 rfl rfl) ?_
      refine Runs.step (AH.has.rd (((g8.trans g9).trans g10).has b7) 1 rfl (asSl_v _)) ?_
      refine Runs.step (AH.has.rd (((g8.trans g9).trans g10).has b7) 2 rfl (asSl_v _)) ?_
      refine Runs.step (AH.has.rd ((g9.trans g10).has b8) 0 rfl rfl) ?_
      refine Runs.step (AH.has.rd ((g9.trans g10).has b8) 1 rfl (asSl_v _)) ?_
      refine Runs.step (AH.has.rd ((g9.trans g10).has b8) 2 rfl (asSl_v _)) ?_
      refine Runs.step (AH.has.rd ((g9.trans g10).has b8) 0 rfl rfl) ?_
      refine Runs.step (AH.has.rd ((g9.trans g10).has b8) 1 rfl (asSl_v _)) ?_
      refine Runs.step (AH.has.rd ((g9.trans g10).has b8) 2 rfl (asSl_v _)) ?_
      refine Runs.step (AH.has.rd (((g8.trans g9).trans g10).has b7) 0 rfl rfl) ?_
      refine Runs.step (AH.has.rd (((g8.trans g9).trans g10).has b7) 1 rfl (asSl_v _)) ?_
      refine Runs.step (AH.has.rd (((g8.trans g9).trans g10).has b7) 2 rfl (asSl_v _)) ?_
      obtain ⟨_, H13, e13, s13, rfl, n13, g13, o13⟩ := ref08_over_is (n2.grow (((g7.trans g8).trans g9).trans g10)) (n3.grow (((g7.trans g8).trans g9).trans g10)) (n5.grow (((g7.trans g8).trans g9).trans g10)) (n6.grow (((g7.trans g8).trans g9).trans g10)) a1 a4
      refine Runs.step e13 ?_
      refine Runs.step rfl ?_
      refine Runs.ifT rfl ?_
      refine Runs.step (seenAt rfl rfl) ?_
      refine Runs.step (seenAt rfl (asSl_v _)) ?_
      refine Runs.when (g13.same (((g8.trans g9).trans g10).has b7) 0 3) ?_
      refine Runs.when (g13.same ((g9.trans g10).has b8) 0 3) ?_
      obtain ⟨_, H14, e14, s14, rfl, n14, g14, o14⟩ := ref08_over_is (n5.grow ((((g7.trans g8).trans g9).trans g10).trans g13)) (n6.grow ((((g7.trans g8).trans g9).trans g10).trans g13)) (n2.grow ((((g7.trans g8).trans g9).trans g10).trans g13)) (n3.grow ((((g7.trans g8).trans g9).trans g10).trans g13)) a4 a1
      refine Runs.step e14 ?_
      refine Runs.step rfl ?_
      refine Runs.ifT rfl ?_
      refine Runs.step (seenAt rfl rfl) ?_
      refine Runs.step (seenAt rfl (asSl_v _)) ?_
      obtain ⟨H15, e15, g15⟩ := ref03_Cmp_spec (n13.grow g14) n14 ((rational_over' a1 x2 x3 a4 x5 x6).1) ((rational_over' a4 x5 x6 a1 x2 x3).1)
      refine Runs.step e15 ?_
      refine Runs.step (seen (avInt_int _ _)) ?_
      have z : ref08_Cmp' a1 x2 x3 a4 x5 x6 = (cmpI ((rational_over' a1 x2 x3 a4 x5 x6).1) ((rational_over' a1 x2 x3 a4 x5 x6).2) ((rational_over' a4 x5 x6 a1 x2 x3).1) ((rational_over' a4 x5 x6 a1 x2 x3).2)) := by unfold ref08_Cmp'; exact (condF k11).trans ((condF k12).trans rfl)
      rw [z]
      exact Runs.ret ⟨rfl, ((((((g7.trans g8).trans g9).trans g10).trans g13).trans g14).trans g15)⟩

def rational_Floor' (a1 : Bool) (x2 : List Nat) (x3 : List Nat) : Bool × List Nat × Int :=
  cond (!((rational_Right' a1 x2 x3))) ((false, [], 1)) ((((((floorI a1 x2 ((fromI false x3).1) ((fromI false x3).2)).1))), (floorI a1 x2 ((fromI false x3).1) ((fromI false x3).2)).2.1, ((floorI a1 x2 ((fromI false x3).1) ((fromI false x3).2)).2.2.2.2)))

theorem rational_Floor_spec {h : AH} {a2 : Sl} {x2 : List Nat} {a3 : Sl} {x3 : List Nat} (n2 : Nats h a2 x2) (n3 : Nats h a3 x3) (a1 : Bool) : Runs (go (.fn F.rational_Floor [.agg [.bool a1, a2.v, a3.v]]) h) fun v h' => ∃ s1 : Sl, v = .tup [.agg [.bool (rational_Floor' a1 x2 x3).1, s1.v], .int .i64 (rational_Floor' a1 x2 x3).2.2] ∧ Nats h' s1 ((rational_Floor' a1 x2 x3).2.1) ∧ Grow h h' ∧ Own h s1 := by
  rw [u_rational_Floor]
  refine Runs.new fun H4 b4 g4 => ?_
  refine Runs.new fun H5 b5 g5 => ?_
  refine Runs.step (AH.has.rd (g5.has b4) 0 rfl rfl) ?_
  refine Runs.step (AH.has.rd (g5.has b4) 1 rfl (asSl_v _)) ?_
  refine Runs.step (AH.has.rd (g5.has b4) 2 rfl (asSl_v _)) ?_
  obtain ⟨_, H6, e6, rfl, g6⟩ := rational_Right_spec (n2.grow (g4.trans g5)) (n3.grow (g4.trans g5)) a1
  refine Runs.step e6 ?_
  refine Runs.step (seen rfl) ?_
  refine Runs.cond (fun k7 => ?_) (fun k7 => ?_)
  · refine Runs.puts (g6.has b5) rfl fun H8 b8 u8 => ?_
    refine Runs.step (AH.has.rd b8 0 rfl rfl) ?_
    refine Runs.step (AH.has.rd b8 1 rfl (asSl_v _)) ?_
    have z : rational_Floor' a1 x2 x3 = (false, [], 1) := by unfold rational_Floor'; exact (condT k7).trans rfl
    rw [z]
    exact Runs.ret ⟨(⟨none, 0, .is 0⟩ : Sl), rfl, (Nats.nil _), (((g4.trans g5).trans g6).updr (Nat.le_trans (g4).size (Nat.le_refl _)) u8), (Own.nil _)⟩
  · refine Runs.new fun H8 b8 g8 => ?_
    refine Runs.new fun H9 b9 g9 => ?_
    refine Runs.step (AH.has.rd ((((g5.trans g6).trans g8).trans g9).has b4) 0 rfl rfl) ?_
    refine Runs.step (AH.has.rd ((((g5.trans g6).trans g8).trans g9).has b4) 1 rfl (asSl_v _)) ?_
    refine Runs.step (AH.has.rd ((((g5.trans g6).trans g8).trans g9).has b4) 2 rfl (asSl_v _)) ?_
    obtain ⟨s10, H10, e10, n10, g10, o10⟩ := modint_From_spec (n3.grow ((((g4.trans g5).trans g6).trans g8).trans g9)) false
    refine Runs.step e10 ?_
    refine Runs.step rfl ?_
    refine Runs.ifT rfl ?_
    refine Runs.step (seenAt rfl rfl) ?_
    refine Runs.step (seenAt rfl (asSl_v _)) ?_
    refine Runs.when (g10.same ((((g5.trans g6).trans g8).trans g9).has b4) 0 2) ?_
    refine Runs.when (g10.same b9 0 0) ?_
    refine Runs.when (g10.same (g9.has b8) 0 0) ?_
    obtain ⟨_, H11, e11, s11, s11b, rfl, n11, n11b, g11, o11, o11b⟩ := modint_Floor_spec (n2.grow (((((g4.trans g5).trans g6).trans g8).trans g9).trans g10)) n10 a1 ((fromI false x3).1)
    refine Runs.step e11 ?_
    refine Runs.step rfl ?_
    refine Runs.step rfl ?_
    refine Runs.ifT rfl ?_
    refine Runs.step (seenAt rfl rfl) ?_
    refine Runs.step (seenAt rfl (asSl_v _)) ?_
    refine Runs.step rfl ?_
    refine Runs.ifT rfl ?_
    refine Runs.step (seenAt rfl rfl) ?_
    refine Runs.step (seenAt rfl (asSl_v _)) ?_
    refine Runs.step (seen (avInt_int _ _)) ?_
    refine Runs.when (g11.same (g10.has b9) 0 0) ?_
    refine Runs.when (g11.same ((g9.trans g10).has b8) 0 0) ?_
    refine Runs.puts (((g9.trans g10).trans g11).has b8) rfl fun H12 b12 u12 => ?_
    have n10_12 := (n10.grow g11).upda (Av.of_own o10 (g9.has b8).lt) u12
    have n11_12 := n11.upda (Av.of_own o11 ((g9.trans g10).has b8).lt) u12
    have n11b_12 := n11b.upda (Av.of_own o11b ((g9.trans g10).has b8).lt) u12
    have b9_12 := AH.has.updr ((g10.trans g11).has b9) (Nat.ne_of_gt (Nat.lt_of_lt_of_le (b8).lt (Nat.le_refl _))) u12
    refine Runs.puts b9_12 rfl fun H13 b13 u13 => ?_
    have n10_13 := n10_12.upda (Av.of_own o10 (b9).lt) u13
    have n11_13 := n11_12.upda (Av.of_own o11 (g10.has b9).lt) u13
    have n11b_13 := n11b_12.upda (Av.of_own o11b (g10.has b9).lt) u13
    have b12_13 := AH.has.updr b12 (Nat.ne_of_lt (Nat.lt_of_lt_of_le (b8).lt (Nat.le_refl _))) u13
    refine Runs.step (AH.has.rd b12_13 0 rfl rfl) ?_
    refine Runs.step (AH.has.rd b12_13 1 rfl (asSl_v _)) ?_
    refine Runs.puts (((((((g6.trans g8).trans g9).trans g10).trans g11).updr (Nat.le_trans (g6).size (Nat.le_refl _)) u12).updr (Nat.le_trans ((g6.trans g8)).size (Nat.le_refl _)) u13).has b5) rfl fun H14 b14 u14 => ?_
    have n10_14 := n10_13.upda (Av.of_own o10 (((g6.trans g8).trans g9).has b5).lt) u14
    have n11_14 := n11_13.upda (Av.of_own o11 ((((g6.trans g8).trans g9).trans g10).has b5).lt) u14
    have n11b_14 := n11b_13.upda (Av.of_own o11b ((((g6.trans g8).trans g9).trans g10).has b5).lt) u14
    have b12_14 := AH.has.updr b12_13 (Nat.ne_of_gt (Nat.lt_of_lt_of_le (g6.has b5).lt (Nat.le_refl _))) u14
    have b13_14 := AH.has.updr b13 (Nat.ne_of_gt (Nat.lt_of_lt_of_le ((g6.trans g8).has b5).lt (Nat.le_refl _))) u14
    refine Runs.step (AH.has.rd b14 0 rfl rfl) ?_
    refine Runs.step (AH.has.rd b14 1 rfl (asSl_v _)) ?_
    have z : rational_Floor' a1 x2 x3 = (((((floorI a1 x2 ((fromI false x3).1) ((fromI false x3).2)).1))), (floorI a1 x2 ((fromI false x3).1) ((fromI false x3).2)).2.1, ((floorI a1 x2 ((fromI false x3).1) ((fromI false x3).2)).2.2.2.2)) := by unfold rational_Floor'; exact (condF k7).trans rfl
    rw [z]
    exact Runs.ret ⟨s11, rfl, n11_14, (((((((((g4.trans g5).trans g6).trans g8).trans g9).trans g10).trans g11).updr (Nat.le_trans (((g4.trans g5).trans g6)).size (Nat.le_refl _)) u12).updr (Nat.le_trans ((((g4.trans g5).trans g6).trans g8)).size (Nat.le_refl _)) u13).updr (Nat.le_trans (g4).size (Nat.le_refl _)) u14), (o11.of_le (((((g4.trans g5).trans g6).trans g8).trans g9).trans g10))⟩

def ref08_Floor' (a1 : Bool) (x2 : List Nat) (x3 : List Nat) : Bool × List Nat × Int :=
  cond (!((rational_Right' a1 x2 x3))) ((false, [], 1)) ((((((floorI a1 x2 ((fromI false x3).1) ((fromI false x3).2)).1))), (floorI a1 x2 ((fromI false x3).1) ((fromI false x3).2)).2.1, 0))

theorem ref08_Floor_spec {h : AH} {a2 : Sl} {x2 : List Nat} {a3 : Sl} {x3 : List Nat} (n2 : Nats h a2 x2) (n3 : Nats h a3 x3) (a1 : Bool) : Runs (go (.fn F.ref08_Floor [.agg [.bool a1, a2.v, a3.v]]) h) fun v h' => ∃ s1 : Sl, v = .tup [.agg [.bool (ref08_Floor' a1 x2 x3).1, s1.v], .int .i64 (ref08_Floor' a1 x2 x3).2.2] ∧ Nats h' s1 ((ref08_Floor' a1 x2 x3).2.1) ∧ Grow h h' ∧ Own h s1 := by
  rw [u_ref08_Floor]
  refine Runs.new fun H4 b4 g4 => ?_
  refine Runs.new fun H5 b5 g5 => ?_
  refine Runs.step (AH.has.rd (g5.has b4) 0 rfl rfl) ?_
  refine Runs.step (AH.has.rd (g5.has b4) 1 rfl (asSl_v _)) ?_
  refine Runs.step (AH.has.rd (g5.has b4) 2 rfl (asSl_v _)) ?_
  obtain ⟨_, H6, e6, rfl, g6⟩ := ref08_Right_is (n2.grow (g4.trans g5)) (n3.grow (g4.trans g5)) a1
  refine Runs.step e6 ?_
  refine Runs.step (seen rfl) ?_
  refine Runs.cond (fun k7 => ?_) (fun k7 => ?_)
  · refine Runs.puts (g6.has b5) rfl fun H8 b8 u8 => ?_
    refine Runs.step (AH.has.rd b8 0 rfl rfl) ?_
    refine Runs.step (AH.has.rd b8 1 rfl (asSl_v _)) ?_
    have z : ref08_Floor' a1 x2 x3 = (false, [], 1) := by unfold ref08_Floor'; exact (condT k7).trans rfl
    rw [z]
    exact Runs.ret ⟨(⟨none, 0, .is 0⟩ : Sl), rfl, (Nats.nil _), (((g4.trans g5).trans g6).updr (Nat.le_trans (g4).size (Nat.le_refl _)) u8), (Own.nil _)⟩
  · refine Runs.new fun H8 b8 g8 => ?_
    refine Runs.new fun H9 b9 g9 => ?_
    refine Runs.step (AH.has.rd ((((g5.trans g6).trans g8).trans g9).has b4) 0 rfl rfl) ?_
    refine Runs.step (AH.has.rd ((((g5.trans g6).trans g8).trans g9).has b4) 1 rfl (asSl_v _)) ?_
    refine Runs.step (AH.has.rd ((((g5.trans g6).trans g8).trans g9).has b4) 2 rfl (asSl_v _)) ?_
    obtain ⟨s10, H10, e10, n10, g10, o10⟩ := ref03_From_spec (n3.grow ((((g4.trans g5).trans g6).trans g8).trans g9)) false
    refine Runs.step e10 ?_
    refine Runs.step rfl ?_
    refine Runs.ifT rfl ?_
    refine Runs.step (seenAt rfl rfl) ?_
    refine Runs.step (seenAt rfl (asSl_v _)) ?_
    refine Runs.when (g10.same ((((g5.trans g6).trans g8).trans g9).has b4) 0 2) ?_
    refine Runs.when (g10.same b9 0 0) ?_
    refine Runs.when (g10.same (g9.has b8) 0 0) ?_
    obtain ⟨_, H11, e11, s11, s11b, rfl, n11, n11b, g11, o11, o11b⟩ := ref03_Floor_spec (n2.grow (((((g4.trans g5).trans g6).trans g8).trans g9).trans g10)) n10 a1 ((fromI false x3).1)
    refine Runs.step e11 ?_
    refine Runs.step rfl ?_
    refine Runs.step rfl ?_
    refine Runs.ifT rfl ?_
    refine Runs.step (seenAt rfl rfl) ?_
    refine Runs.step (seenAt rfl (asSl_v _)) ?_
    refine Runs.step rfl ?_
    refine Runs.ifT rfl ?_
    refine Runs.step (seenAt rfl rfl) ?_
    refine Runs.step (seenAt rfl (asSl_v _)) ?_
    refine Runs.step (seen (avInt_int _ _)) ?_
    refine Runs.when (g11.same (g10.has b9) 0 0) ?_
    refine Runs.when (g11.same ((g9.trans g10).has b8) 0 0) ?_
    refine Runs.puts (((g9.trans g10).trans g11).has b8) rfl fun H12 b12 u12 => ?_
    have n10_12 := (n10.grow g11).upda (Av.of_own o10 (g9.has b8).lt) u12
    have n11_12 := n11.upda (Av.of_own o11 ((g9.trans g10).has b8).lt) u12
    have n11b_12 := n11b.upda (Av.of_own o11b ((g9.trans g10).has b8).lt) u12
    have b9_12 := AH.has.updr ((g10.trans g11).has b9) (Nat.ne_of_gt (Nat.lt_of_lt_of_le (b8).lt (Nat.le_refl _))) u12
    refine Runs.puts b9_12 rfl fun H13 b13 u13 => ?_
    have n10_13 := n10_12.upda (Av.of_own o10 (b9).lt) u13
    have n11_13 := n11_12.upda (Av.of_own o11 (g10.has b9).lt) u13
    have n11b_13 := n11b_12.upda (Av.of_own o11b (g10.has b9).lt) u13
    have b12_13 := AH.has.updr b12 (Nat.ne_of_lt (Nat.lt_of_lt_of_le (b8).lt (Nat.le_refl _))) u13
    refine Runs.step (AH.has.rd b12_13 0 rfl rfl) ?_
    refine Runs.step (AH.has.rd b12_13 1 rfl (asSl_v _)) ?_
    refine Runs.puts (((((((g6.trans g8).trans g9).trans g10).trans g11).updr (Nat.le_trans (g6).size (Nat.le_refl _)) u12).updr (Nat.le_trans ((g6.trans g8)).size (Nat.le_refl _)) u13).has b5) rfl fun H14 b14 u14 => ?_
    have n10_14 := n10_13.upda (Av.of_own o10 (((g6.trans g8).trans g9).has b5).lt) u14
    have n11_14 := n11_13.upda (Av.of_own o11 ((((g6.trans g8).trans g9).trans g10).has b5).lt) u14
    have n11b_14 := n11b_13.upda (Av.of_own o11b ((((g6.trans g8).trans g9).trans g10).has b5).lt) u14
    have b12_14 := AH.has.updr b12_13 (Nat.ne_of_gt (Nat.lt_of_lt_of_le (g6.has b5).lt (Nat.le_refl _))) u14
    have b13_14 := AH.has.updr b13 (Nat.ne_of_gt (Nat.lt_of_lt_of_le ((g6.trans g8).has b5).lt (Nat.le_refl _))) u14
    refine Runs.step (AH.has.rd b14 0 rfl rfl) ?_
    refine Runs.step (AH.has.rd b14 1 rfl (asSl_v _)) ?_
    have z : ref08_Floor' a1 x2 x3 = (((((floorI a1 x2 ((fromI false x3).1) ((fromI false x3).2)).1))), (floorI a1 x2 ((fromI false x3).1) ((fromI false x3).2)).2.1, 0) := by unfold ref08_Floor'; exact (condF k7).trans rfl
    rw [z]
    exact Runs.ret ⟨s11, rfl, n11_14, (((((((((g4.trans g5).trans g6).trans g8).trans g9).trans g10).trans g11).updr (Nat.le_trans (((g4.trans g5).trans g6)).size (Nat.le_refl _)) u12).updr (Nat.le_trans ((((g4.trans g5).trans g6).trans g8)).size (Nat.le_refl _)) u13).updr (Nat.le_trans (g4).size (Nat.le_refl _)) u14), (o11.of_le (((((g4.trans g5).trans g6).trans g8).trans g9).trans g10))⟩

end Go.Ab

/- Layer 8: fractions as numbers. -/
set_option linter.unusedVariables false
set_option linter.unusedSimpArgs false
set_option maxRecDepth 10000
namespace Go.Ab
open Go.Proofs Go.Num

/-- A fraction's numerator and denominator in lowest terms, or too long. -/
def fracM (z : Int) (d : Nat) : Bool × List Nat × List Nat × Int :=
  if z.natAbs / Nat.gcd z.natAbs d < B ^ 16 ∧ d / Nat.gcd z.natAbs d < B ^ 16 then ((intD (z / (Nat.gcd z.natAbs d : Int))).1, (intD (z / (Nat.gcd z.natAbs d : Int))).2, digs B (d / Nat.gcd z.natAbs d), 0) else (false, [], [], 4)

theorem len_gt16 (m : Nat) : decide ((List.length (digs B m) : Int) > 16) = !decide (m < B ^ 16) := by
  have h := digs_len B2 m 16
  by_cases k : m < B ^ 16
  · have := h.2 k
    rw [decide_eq_true k, decide_eq_false_iff_not.2 (by omega)]
    rfl
  · have : ¬ (digs B m).length ≤ 16 := fun e => k (h.1 e)
    rw [decide_eq_false k, decide_eq_true_iff.2 (by omega)]
    rfl

theorem gcdN_digs {a b : Nat} (ha : a < B ^ 64) (hb : b < B ^ 64) : gcdN (digs B a) (digs B b) = (digs B (Nat.gcd a b), 0) := by
  unfold gcdN
  rw [if_pos ⟨rt_digs ha, rt_digs hb⟩, num_digs B2, num_digs B2]

theorem divN_digs {a b : Nat} (ha : a < B ^ 64) (hb : b < B ^ 64) (h0 : b ≠ 0) : divN (digs B a) (digs B b) = (digs B (a / b), digs B (a % b), 0) := by
  unfold divN
  rw [if_pos ⟨rt_digs ha, rt_digs hb⟩, if_neg (fun e => h0 ((digs_nil B2).1 e)), num_digs B2, num_digs B2]

theorem ediv_sign {z : Int} {g : Nat} (h0 : 0 < g) (h : g ∣ z.natAbs) : z / (g : Int) = if z < 0 then -((z.natAbs / g : Nat) : Int) else ((z.natAbs / g : Nat) : Int) := by
  obtain ⟨k, hk⟩ := h
  rw [hk, Nat.mul_div_cancel_left _ h0]
  have hg : (g : Int) ≠ 0 := by omega
  by_cases hz : z < 0
  · rw [if_pos hz]
    have : z = (g : Int) * (-(k : Int)) := by
      rw [Int.mul_neg, ← Int.natCast_mul, ← hk]
      omega
    rw [this, Int.mul_ediv_cancel_left _ hg]
  · rw [if_neg hz]
    have : z = (g : Int) * (k : Int) := by
      rw [← Int.natCast_mul, ← hk]
      omega
    rw [this, Int.mul_ediv_cancel_left _ hg]

theorem Make_of {z : Int} {d : Nat} (hz : z.natAbs < B ^ 64) (hd : d < B ^ 64) (h0 : d ≠ 0) : rational_Make' (intD z).1 (intD z).2 (digs B d) = fracM z d := by
  unfold rational_Make' fracM
  have hg0 : 0 < Nat.gcd z.natAbs d := Nat.gcd_pos_of_pos_right _ (by omega)
  have hgd : Nat.gcd z.natAbs d ≤ d := Nat.gcd_le_right _ (by omega)
  rw [rtI_intD hz, rt_digs hd]
  have e2 : (intD z).2 = digs B z.natAbs := rfl
  have hq1 : z.natAbs / Nat.gcd z.natAbs d < B ^ 64 := Nat.lt_of_le_of_lt (Nat.div_le_self _ _) hz
  have hq2 : d / Nat.gcd z.natAbs d < B ^ 64 := Nat.lt_of_le_of_lt (Nat.div_le_self _ _) hd
  rw [e2, gcdN_digs hz hd]
  have hgb : Nat.gcd z.natAbs d < B ^ 64 := by omega
  simp only [Bool.not_true, cond_false]
  rw [divN_digs hz hgb (by omega), divN_digs hd hgb (by omega), len_zero, decide_eq_false (fun e => h0 ((digs_nil B2).1 e)), cond_false]
  dsimp only
  have k : ∀ u v : Int, decide (imax u v > 16) = (decide (u > 16) || decide (v > 16)) := by
    intro u v
    rw [imax_eq, Bool.eq_iff_iff]
    simp only [Bool.or_eq_true, decide_eq_true_eq]
    omega
  rw [k, len_gt16, len_gt16, fromI_digs hq1, ediv_sign hg0 (Nat.gcd_dvd_left _ _)]
  have s : (intD z).1 = decide (z < 0) := rfl
  rw [s]
  simp only [decide_eq_true_eq]
  generalize (if z < 0 then -((z.natAbs / Nat.gcd z.natAbs d : Nat) : Int) else ((z.natAbs / Nat.gcd z.natAbs d : Nat) : Int)) = y
  by_cases c1 : z.natAbs / Nat.gcd z.natAbs d < B ^ 16
  · by_cases c2 : d / Nat.gcd z.natAbs d < B ^ 16
    · rw [if_pos ⟨c1, c2⟩, decide_eq_true c1, decide_eq_true c2]
      rfl
    · rw [if_neg (fun h => c2 h.2), decide_eq_false c2, decide_eq_true c1]
      rfl
  · rw [if_neg (fun h => c1 h.1), decide_eq_false c1]
    rfl

/-- What a fraction that may be says. -/
structure IsFrac (p : Bool) (xs ys : List Nat) (z : Int) (d : Nat) : Prop where
  p : p = (intD z).1
  xs : xs = (intD z).2
  ys : ys = digs B d
  pos : 0 < d
  zlt : z.natAbs < B ^ 16
  dlt : d < B ^ 16
  co : Nat.gcd z.natAbs d = 1

theorem B16_64 : B ^ 16 * B ^ 16 * B ^ 16 * 2 ≤ B ^ 64 := by decide +kernel

theorem Right_of {z : Int} {d : Nat} (hz : z.natAbs < B ^ 64) (hd : d < B ^ 64) : rational_Right' (intD z).1 (intD z).2 (digs B d) = decide (0 < d ∧ z.natAbs < B ^ 16 ∧ d < B ^ 16 ∧ Nat.gcd z.natAbs d = 1) := by
  unfold rational_Right'
  rw [rtI_intD hz, rt_digs hd]
  have e2 : (intD z).2 = digs B z.natAbs := rfl
  rw [e2, gcdN_digs hz hd, len_zero, len_gt16, len_gt16]
  simp only [Bool.not_true, cond_false]
  by_cases c0 : d = 0
  · subst c0
    rw [digs_zero]
    simp
  · rw [decide_eq_false (fun e => c0 ((digs_nil B2).1 e)), cond_false]
    by_cases c2 : d < B ^ 16
    · rw [decide_eq_true c2]
      by_cases c1 : z.natAbs < B ^ 16
      · rw [decide_eq_true c1]
        simp only [Bool.not_true, cond_false]
        have hg : Nat.gcd z.natAbs d < B ^ 64 := by
          have := Nat.gcd_le_right z.natAbs (n := d) (by omega)
          omega
        unfold cmpN
        rw [if_pos ⟨rt_digs hg, by decide +kernel⟩, num_digs B2]
        rw [show num B [1] = 1 from by decide +kernel]
        unfold cmp
        by_cases h1 : Nat.gcd z.natAbs d < 1
        · rw [if_pos h1, decide_eq_false (by decide), decide_eq_false]
          intro h
          omega
        · rw [if_neg h1]
          by_cases h2 : Nat.gcd z.natAbs d = 1
          · rw [if_pos h2, decide_eq_true rfl, decide_eq_true]
            exact ⟨by omega, c1, c2, h2⟩
          · rw [if_neg h2, decide_eq_false (by decide), decide_eq_false]
            exact fun h => h2 h.2.2.2
      · rw [decide_eq_false c1]
        simp only [Bool.not_true, cond_false, Bool.not_false, cond_true]
        symm
        rw [decide_eq_false_iff_not]
        exact fun h => c1 h.2.1
    · rw [decide_eq_false c2]
      simp only [Bool.not_false, cond_true]
      symm
      rw [decide_eq_false_iff_not]
      exact fun h => c2 h.2.2.1

theorem B_16_64 {n : Nat} (h : n < B ^ 16) : n < B ^ 64 := Nat.lt_of_lt_of_le h (Nat.pow_le_pow_right (by decide) (by decide))

theorem IsFrac.right {p : Bool} {xs ys : List Nat} {z : Int} {d : Nat} (f : IsFrac p xs ys z d) : rational_Right' p xs ys = true := by
  obtain ⟨rfl, rfl, rfl, h0, h1, h2, h3⟩ := f
  rw [Right_of (B_16_64 h1) (B_16_64 h2), decide_eq_true_eq]
  exact ⟨h0, h1, h2, h3⟩

theorem IsFrac.of {p : Bool} {xs ys : List Nat} (lx : ∀ x ∈ xs, x < B) (ly : ∀ x ∈ ys, x < B) (h : rational_Right' p xs ys = true) : ∃ (z : Int) (d : Nat), IsFrac p xs ys z d := by
  have h1 : rtI p xs = true := by
    cases e : rtI p xs with
    | true => rfl
    | false =>
      unfold rational_Right' at h
      rw [e] at h
      cases h
  have h2 : rt ys = true := by
    cases e : rt ys with
    | true => rfl
    | false =>
      unfold rational_Right' at h
      rw [e, h1] at h
      cases h
  obtain ⟨z, rfl, rfl, hz⟩ := of_rtI lx h1
  have hd := num_lt64 ly h2
  have e : ys = digs B (num B ys) := (digs_num B2 ly (rt_iff.1 h2).2).symm
  rw [e, Right_of hz hd, decide_eq_true_eq] at h
  exact ⟨z, num B ys, rfl, rfl, e, h.1, h.2.1, h.2.2.1, h.2.2.2⟩

theorem mul16 {a b : Nat} (ha : a < B ^ 16) (hb : b < B ^ 16) : a * b < B ^ 16 * B ^ 16 := Nat.mul_lt_mul'' ha hb

theorem B32_64 : B ^ 16 * B ^ 16 * 2 ≤ B ^ 64 := by decide +kernel

theorem over_of {p q : Bool} {xs ys us vs : List Nat} {z w : Int} {d e : Nat} (f : IsFrac p xs ys z d) (k : IsFrac q us vs w e) : rational_over' p xs ys q us vs = intD (z * (e : Int)) ∧ (z * (e : Int)).natAbs < B ^ 16 * B ^ 16 := by
  have hb : (z * (e : Int)).natAbs < B ^ 16 * B ^ 16 := by
    rw [Int.natAbs_mul, Int.natAbs_natCast]
    exact mul16 f.zlt k.dlt
  refine ⟨?_, hb⟩
  unfold rational_over'
  rw [k.ys, fromI_digs (B_16_64 k.dlt), f.p, f.xs]
  simp only [Bool.false_eq_true, if_false]
  have h64 := B32_64
  rw [mul_intD (B_16_64 f.zlt) (by simpa using B_16_64 k.dlt), if_pos (by omega)]

theorem mulN_of {d e : Nat} (hd : d < B ^ 16) (he : e < B ^ 16) : mulN (digs B d) (digs B e) = (digs B (d * e), 0) := by
  unfold mulN
  rw [if_pos ⟨rt_digs (B_16_64 hd), rt_digs (B_16_64 he)⟩, num_digs B2, num_digs B2, told_ok]
  have := mul16 hd he
  have := B32_64
  omega

theorem Add_of {p q : Bool} {xs ys us vs : List Nat} {z w : Int} {d e : Nat} (f : IsFrac p xs ys z d) (k : IsFrac q us vs w e) : rational_Add' p xs ys q us vs = fracM (z * (e : Int) + w * (d : Int)) (d * e) := by
  unfold rational_Add' rational_both__modint_Add'
  rw [f.right, k.right]
  obtain ⟨o1, b1⟩ := over_of f k
  obtain ⟨o2, b2⟩ := over_of k f
  have h64 := B32_64
  rw [o1, o2, add_intD (by omega) (by omega), if_pos (by omega)]
  dsimp only [Bool.and_self, Bool.not_true, cond_false]
  have hb := mul16 f.dlt k.dlt
  have hp := Nat.mul_pos f.pos k.pos
  rw [f.ys, k.ys, mulN_of f.dlt k.dlt]
  dsimp only
  rw [Make_of (by omega) (by omega) (by omega)]
  generalize fracM _ _ = r
  obtain ⟨r1, r2, r3, r4⟩ := r
  rfl

theorem Sub_of {p q : Bool} {xs ys us vs : List Nat} {z w : Int} {d e : Nat} (f : IsFrac p xs ys z d) (k : IsFrac q us vs w e) : rational_Sub' p xs ys q us vs = fracM (z * (e : Int) - w * (d : Int)) (d * e) := by
  unfold rational_Sub' rational_both__modint_Sub'
  rw [f.right, k.right]
  obtain ⟨o1, b1⟩ := over_of f k
  obtain ⟨o2, b2⟩ := over_of k f
  have h64 := B32_64
  rw [o1, o2, sub_intD (by omega) (by omega), if_pos (by omega)]
  dsimp only [Bool.and_self, Bool.not_true, cond_false]
  have hb := mul16 f.dlt k.dlt
  have hp := Nat.mul_pos f.pos k.pos
  rw [f.ys, k.ys, mulN_of f.dlt k.dlt]
  dsimp only
  rw [Make_of (by omega) (by omega) (by omega)]
  generalize fracM _ _ = r
  obtain ⟨r1, r2, r3, r4⟩ := r
  rfl

theorem Mul_of {p q : Bool} {xs ys us vs : List Nat} {z w : Int} {d e : Nat} (f : IsFrac p xs ys z d) (k : IsFrac q us vs w e) : rational_Mul' p xs ys q us vs = fracM (z * w) (d * e) := by
  unfold rational_Mul'
  rw [f.right, k.right]
  have h64 := B32_64
  have b1 : (z * w).natAbs < B ^ 16 * B ^ 16 := by
    rw [Int.natAbs_mul]
    exact mul16 f.zlt k.zlt
  rw [f.p, f.xs, k.p, k.xs, mul_intD (B_16_64 f.zlt) (B_16_64 k.zlt), if_pos (by omega)]
  dsimp only [Bool.and_self, Bool.not_true, cond_false]
  have hb := mul16 f.dlt k.dlt
  have hp := Nat.mul_pos f.pos k.pos
  rw [f.ys, k.ys, mulN_of f.dlt k.dlt]
  dsimp only
  rw [Make_of (by omega) (by omega) (by omega)]
  generalize fracM _ _ = r
  obtain ⟨r1, r2, r3, r4⟩ := r
  rfl

theorem Cmp_of {p q : Bool} {xs ys us vs : List Nat} {z w : Int} {d e : Nat} (f : IsFrac p xs ys z d) (k : IsFrac q us vs w e) : rational_Cmp' p xs ys q us vs = if z * (e : Int) < w * (d : Int) then -1 else if z * (e : Int) = w * (d : Int) then 0 else 1 := by
  unfold rational_Cmp'
  rw [f.right, k.right]
  obtain ⟨o1, b1⟩ := over_of f k
  obtain ⟨o2, b2⟩ := over_of k f
  have h64 := B32_64
  rw [o1, o2, cmp_intD (by omega) (by omega)]
  rfl

theorem Floor_of {p : Bool} {xs ys : List Nat} {z : Int} {d : Nat} (f : IsFrac p xs ys z d) : rational_Floor' p xs ys = ((intD (z / (d : Int))).1, (intD (z / (d : Int))).2, 0) := by
  unfold rational_Floor'
  rw [f.right, f.ys, fromI_digs (B_16_64 f.dlt), f.p, f.xs]
  simp only [Bool.false_eq_true, if_false]
  have := f.pos
  rw [floor_intD (B_16_64 f.zlt) (by simpa using B_16_64 f.dlt) (by omega)]
  rfl

theorem ref08_Add_eq : ref08_Add' = rational_Add' := by
  funext p xs ys q us vs
  unfold ref08_Add' rational_Add' rational_both__modint_Add'
  cases rational_Right' p xs ys <;> cases rational_Right' q us vs <;> rfl

theorem ref08_Mul_eq : ref08_Mul' = rational_Mul' := by
  funext p xs ys q us vs
  unfold ref08_Mul' rational_Mul'
  cases rational_Right' p xs ys <;> cases rational_Right' q us vs <;> rfl

theorem ref08_Cmp_eq : ref08_Cmp' = rational_Cmp' := by
  funext p xs ys q us vs
  unfold ref08_Cmp' rational_Cmp'
  cases rational_Right' p xs ys <;> cases rational_Right' q us vs <;> rfl

theorem IsFrac.neg {q : Bool} {us vs : List Nat} {w : Int} {e : Nat} (k : IsFrac q us vs w e) : IsFrac (negI q us).1 (negI q us).2 vs (-w) e := by
  have := neg_intD (B_16_64 k.zlt)
  rw [k.p, k.xs, this]
  exact ⟨rfl, rfl, k.ys, k.pos, by rw [Int.natAbs_neg]; exact k.zlt, k.dlt, by rw [Int.natAbs_neg]; exact k.co⟩

theorem ref08_Sub_eq {p q : Bool} {xs ys us vs : List Nat} (lx : ∀ x ∈ xs, x < B) (ly : ∀ x ∈ ys, x < B) (lu : ∀ x ∈ us, x < B) (lv : ∀ x ∈ vs, x < B) : ref08_Sub' p xs ys q us vs = rational_Sub' p xs ys q us vs := by
  cases h1 : rational_Right' p xs ys with
  | false =>
    unfold ref08_Sub' rational_Sub' rational_both__modint_Sub'
    rw [h1]
    rfl
  | true =>
    cases h2 : rational_Right' q us vs with
    | false =>
      unfold ref08_Sub' rational_Sub' rational_both__modint_Sub'
      rw [h1, h2]
      rfl
    | true =>
      obtain ⟨z, d, f⟩ := IsFrac.of lx ly h1
      obtain ⟨w, e, k⟩ := IsFrac.of lu lv h2
      rw [Sub_of f k]
      unfold ref08_Sub'
      rw [h1, h2, ref08_Add_eq, Add_of f k.neg, Int.neg_mul, ← Int.sub_eq_add_neg]
      rfl

theorem ref08_Floor_eq {p : Bool} {xs ys : List Nat} (lx : ∀ x ∈ xs, x < B) (ly : ∀ x ∈ ys, x < B) : ref08_Floor' p xs ys = rational_Floor' p xs ys := by
  cases h1 : rational_Right' p xs ys with
  | false =>
    unfold ref08_Floor' rational_Floor'
    rw [h1]
    rfl
  | true =>
    obtain ⟨z, d, f⟩ := IsFrac.of lx ly h1
    rw [Floor_of f]
    unfold ref08_Floor'
    rw [h1, f.ys, fromI_digs (B_16_64 f.dlt), f.p, f.xs]
    simp only [Bool.false_eq_true, if_false]
    have := f.pos
    rw [floor_intD (B_16_64 f.zlt) (by simpa using B_16_64 f.dlt) (by omega)]
    rfl

theorem ref08_Same_spec {h : AH} {s s' t t' : Sl} {xs ys : List Nat} (n : Nats h s xs) (n' : Nats h s' ys) (m : Nats h t xs) (m' : Nats h t' ys) (p : Bool) : ∃ h', go (.fn F.ref08_Same [.agg [.bool p, s.v, s'.v], .agg [.bool p, t.v, t'.v]]) h = some (.bool true, h') ∧ Grow h h' := by
  rw [u_ref08_Same]
  simp only [newK_eq]
  have b0 := AH.has_push h [.bool p, s.v, s'.v] T.api_Frac
  have g0 := Grow.push h (.cells [.bool p, s.v, s'.v] T.api_Frac)
  generalize h.push (.cells [.bool p, s.v, s'.v] T.api_Frac) = h0 at *
  have c1 := AH.has_push h0 [.bool p, t.v, t'.v] T.api_Frac
  have g1 := Grow.push h0 (.cells [.bool p, t.v, t'.v] T.api_Frac)
  generalize h0.push (.cells [.bool p, t.v, t'.v] T.api_Frac) = h1 at *
  have b1 := g1.has b0
  have g := g0.trans g1
  obtain ⟨h2, e2, g2⟩ := ref03_Same_spec (n.grow g) (m.grow g) p
  have g' := g.trans g2
  refine ⟨h2, ?_, g'⟩
  simp [Ref.add_add, b1.cell, c1.cell, (g2.has b1).cell, (g2.has c1).cell, e2, ref01_Same_spec (n'.grow g') (m'.grow g')]

theorem ref08_Same_need {h : AH} {s s' t t' : Sl} {xs xs' ys ys' : List Nat} (n : Nats h s xs) (n' : Nats h s' xs') (m : Nats h t ys) (m' : Nats h t' ys') (p q : Bool) (c : p = q ∧ xs = ys ∧ xs' = ys') : ∃ h', go (.fn F.ref08_Same [.agg [.bool p, s.v, s'.v], .agg [.bool q, t.v, t'.v]]) h = some (.bool true, h') ∧ Grow h h' := by
  obtain ⟨rfl, rfl, rfl⟩ := c
  exact ref08_Same_spec n n' m m' p

end Go.Ab

/- Layer 8: the laws, their walks: printed by wip/tools/walk.py. -/
set_option linter.unusedVariables false
set_option linter.unusedSimpArgs false
set_option maxRecDepth 10000
namespace Go.Ab
open Go.Proofs Go.Num

inductive law08_awake_St
  | fn 
  | no

abbrev law08_awake_Res := Bool

noncomputable def law08_awake_fn'  : Option (law08_awake_St ⊕ law08_awake_Res) :=
  (u64P 6).bind fun w3 => (u64P 4).bind fun w4 => cond (decide (((rational_Make' false [w3] [w4]).2.2.2) = 0)) (cond (decide ((List.length ((rational_Make' false [w3] [w4]).2.1) : Int) = 1)) ((atI ((rational_Make' false [w3] [w4]).2.1) 0).bind fun y10 => cond (decide (((y10 : Int)) = 3)) (cond (decide ((List.length ((rational_Make' false [w3] [w4]).2.2.1) : Int) = 1)) ((atI ((rational_Make' false [w3] [w4]).2.2.1) 0).bind fun y13 => some (.inr (decide (((y13 : Int)) = 2)))) (some (.inr false))) (some (.inr false))) (some (.inr false))) (some (.inr false))

noncomputable def law08_awake_step : law08_awake_St → Option (law08_awake_St ⊕ law08_awake_Res)
  | .fn  => law08_awake_fn' 
  | .no => none

@[reducible] def law08_awake_post (h0 : AH) (r : law08_awake_Res) (v : AV) (h' : AH) : Prop := v = .bool r ∧ Grow h0 h'

def law08_awake_At (r : law08_awake_Res) : law08_awake_St → Prop
  | .fn  => ∀ {h : AH}, Runs (go (.fn F.law08_awake []) h) (law08_awake_post h r)
  | .no => True

theorem law08_awake_fn_walk {r : law08_awake_Res} {o : law08_awake_St ⊕ law08_awake_Res}  (e : law08_awake_fn'  = some o) (good : GoodS (law08_awake_At r) r o) : law08_awake_At r (.fn ) := by
  intro h
  rw [u_law08_awake]
  unfold law08_awake_fn' at e
  refine Runs.new fun H1 b1 g1 => ?_
  refine Runs.new fun H2 b2 g2 => ?_
  obtain ⟨w3, z3, e⟩ := Option.bind_eq_some_iff.1 e
  obtain ⟨w4, z4, e⟩ := Option.bind_eq_some_iff.1 e
  obtain ⟨_, H5, e5, s5, s5b, rfl, n5, n5b, g5, o5, o5b⟩ := rational_Make_spec (Nats.of_has1 (g2.has b1) z3) (Nats.of_has1 b2 z4) false
  refine Runs.step e5 ?_
  refine Runs.step rfl ?_
  refine Runs.step rfl ?_
  refine Runs.ifT rfl ?_
  refine Runs.step (seenAt rfl rfl) ?_
  refine Runs.step (seenAt rfl (asSl_v _)) ?_
  refine Runs.step (seenAt rfl (asSl_v _)) ?_
  refine Runs.step (seen (avInt_int _ _)) ?_
  refine Runs.new fun H6 b6 g6 => ?_
  refine Runs.puts b6 rfl fun H7 b7 u7 => ?_
  refine Runs.cond (fun k8 => ?_) (fun k8 => ?_)
  · replace e := (condT k8).symm.trans e
    refine Runs.step (AH.has.rd b7 1 rfl (asSl_v _)) ?_
    rw [(n5.grow (g6.updr (Nat.le_refl _) u7)).len]
    refine Runs.cond (fun k9 => ?_) (fun k9 => ?_)
    · replace e := (condT k9).symm.trans e
      refine Runs.step (AH.has.rd b7 1 rfl (asSl_v _)) ?_
      rw [(n5.grow (g6.updr (Nat.le_refl _) u7)).len]
      obtain ⟨y10, q10, e⟩ := Option.bind_eq_some_iff.1 e
      obtain ⟨r10, j10, l10⟩ := (n5.grow (g6.updr (Nat.le_refl _) u7)).atI q10
      refine Runs.step j10 ?_
      refine Runs.step (rdc l10 (avInt_int _ _)) ?_
      refine Runs.cond (fun k11 => ?_) (fun k11 => ?_)
      · replace e := (condT k11).symm.trans e
        refine Runs.step (AH.has.rd b7 2 rfl (asSl_v _)) ?_
        rw [(n5b.grow (g6.updr (Nat.le_refl _) u7)).len]
        refine Runs.cond (fun k12 => ?_) (fun k12 => ?_)
        · replace e := (condT k12).symm.trans e
          refine Runs.step (AH.has.rd b7 2 rfl (asSl_v _)) ?_
          rw [(n5b.grow (g6.updr (Nat.le_refl _) u7)).len]
          obtain ⟨y13, q13, e⟩ := Option.bind_eq_some_iff.1 e
          obtain ⟨r13, j13, l13⟩ := (n5b.grow (g6.updr (Nat.le_refl _) u7)).atI q13
          refine Runs.step j13 ?_
          refine Runs.step (rdc l13 (avInt_int _ _)) ?_
          cases e
          cases good
          exact Runs.ret ⟨rfl, ((((g1.trans g2).trans g5).trans g6).updr (Nat.le_trans (((g1.trans g2).trans g5)).size (Nat.le_refl _)) u7)⟩
        · replace e := (condF k12).symm.trans e
          cases e
          cases good
          exact Runs.ret ⟨rfl, ((((g1.trans g2).trans g5).trans g6).updr (Nat.le_trans (((g1.trans g2).trans g5)).size (Nat.le_refl _)) u7)⟩
      · replace e := (condF k11).symm.trans e
        cases e
        cases good
        exact Runs.ret ⟨rfl, ((((g1.trans g2).trans g5).trans g6).updr (Nat.le_trans (((g1.trans g2).trans g5)).size (Nat.le_refl _)) u7)⟩
    · replace e := (condF k9).symm.trans e
      cases e
      cases good
      exact Runs.ret ⟨rfl, ((((g1.trans g2).trans g5).trans g6).updr (Nat.le_trans (((g1.trans g2).trans g5)).size (Nat.le_refl _)) u7)⟩
  · replace e := (condF k8).symm.trans e
    cases e
    cases good
    exact Runs.ret ⟨rfl, ((((g1.trans g2).trans g5).trans g6).updr (Nat.le_trans (((g1.trans g2).trans g5)).size (Nat.le_refl _)) u7)⟩

theorem law08_awake_run {s : law08_awake_St} {r : law08_awake_Res} (it : Iter law08_awake_step s r) : law08_awake_At r s := Iter.ind (fun s o e good => by
  cases s with
  | fn  => exact @law08_awake_fn_walk _ _  e good
  | no => exact True.intro
  ) it

theorem law08_awake_opt {h : AH}    {r : law08_awake_Res} (q : runP law08_awake_step (.fn ) = some r) : Runs (go (.fn F.law08_awake []) h) (law08_awake_post h r) := law08_awake_run (runP_iter q) 

theorem Make_6_4 : rational_Make' false [6] [4] = (false, [3], [2], 0) := by decide +kernel

theorem awake08 {h : AH} : ∃ h', go (.fn F.law08_awake []) h = some (.bool true, h') ∧ Grow h h' := by
  have it : Iter law08_awake_step .fn true := .done (by
    show law08_awake_fn' = _
    unfold law08_awake_fn'
    rw [show u64P 6 = some 6 from rfl, Option.bind_some, show u64P 4 = some 4 from rfl, Option.bind_some, Make_6_4]
    rfl)
  obtain ⟨_, h', e, rfl, g⟩ := law08_awake_run it (h := h)
  exact ⟨h', e, g⟩

inductive law08_RationalMakes_St
  | fn (a1 : Bool) (x2 : List Nat) (x3 : List Nat)
  | no

abbrev law08_RationalMakes_Res := Bool

noncomputable def law08_RationalMakes_fn' (a1 : Bool) (x2 : List Nat) (x3 : List Nat) : Option (law08_RationalMakes_St ⊕ law08_RationalMakes_Res) :=
  cond (!((fewF x2 x3))) (some (.inr true)) (cond (true) (cond (true) (cond (decide (((rational_Make' a1 x2 x3).2.2.2) = ((rational_Make' a1 x2 x3).2.2.2))) (some (.inr (((rational_Right' a1 x2 x3)) == ((rational_Right' a1 x2 x3))))) (some (.inr false))) (some (.inr false))) (some (.inr false)))

noncomputable def law08_RationalMakes_step : law08_RationalMakes_St → Option (law08_RationalMakes_St ⊕ law08_RationalMakes_Res)
  | .fn a1 x2 x3 => law08_RationalMakes_fn' a1 x2 x3
  | .no => none

@[reducible] def law08_RationalMakes_post (h0 : AH) (r : law08_RationalMakes_Res) (v : AV) (h' : AH) : Prop := v = .bool r ∧ Grow h0 h'

def law08_RationalMakes_At (r : law08_RationalMakes_Res) : law08_RationalMakes_St → Prop
  | .fn a1 x2 x3 => ∀ {h : AH} {a2 : Sl} {a3 : Sl}, Nats h a2 x2 → Nats h a3 x3 → Runs (go (.fn F.law08_RationalMakes [.agg [.bool a1, a2.v, a3.v]]) h) (law08_RationalMakes_post h r)
  | .no => True

theorem law08_RationalMakes_fn_walk {r : law08_RationalMakes_Res} {o : law08_RationalMakes_St ⊕ law08_RationalMakes_Res} {a1 : Bool} {x2 : List Nat} {x3 : List Nat} (e : law08_RationalMakes_fn' a1 x2 x3 = some o) (good : GoodS (law08_RationalMakes_At r) r o) : law08_RationalMakes_At r (.fn a1 x2 x3) := by
  intro h a2 a3 n2 n3
  rw [u_law08_RationalMakes]
  unfold law08_RationalMakes_fn' at e
  refine Runs.new fun H4 b4 g4 => ?_
  refine Runs.step (AH.has.rd b4 0 rfl rfl) ?_
  refine Runs.step (AH.has.rd b4 1 rfl (asSl_v _)) ?_
  refine Runs.step (AH.has.rd b4 2 rfl (asSl_v _)) ?_
  refine Runs.new fun H5 b5 g5 => ?_
  refine Runs.step (few08_1 b5 (n2.grow (g4.trans g5)) (n3.grow (g4.trans g5))) ?_
  refine Runs.step (seen rfl) ?_
  refine Runs.cond (fun k7 => ?_) (fun k7 => ?_)
  · replace e := (condT k7).symm.trans e
    cases e
    cases good
    exact Runs.ret ⟨rfl, (g4.trans g5)⟩
  · replace e := (condF k7).symm.trans e
    obtain ⟨H8, e8, g8⟩ := awake08
    refine Runs.step e8 ?_
    refine Runs.step (seen rfl) ?_
    refine Runs.step (AH.has.rd ((g5.trans g8).has b4) 0 rfl rfl) ?_
    refine Runs.step (AH.has.rd ((g5.trans g8).has b4) 1 rfl (asSl_v _)) ?_
    refine Runs.step (AH.has.rd ((g5.trans g8).has b4) 2 rfl (asSl_v _)) ?_
    obtain ⟨_, H9, e9, s9, s9b, rfl, n9, n9b, g9, o9, o9b⟩ := rational_Make_spec (n2.grow ((g4.trans g5).trans g8)) (n3.grow ((g4.trans g5).trans g8)) a1
    refine Runs.step e9 ?_
    refine Runs.step rfl ?_
    refine Runs.step rfl ?_
    refine Runs.ifT rfl ?_
    refine Runs.step (seenAt rfl rfl) ?_
    refine Runs.step (seenAt rfl (asSl_v _)) ?_
    refine Runs.step (seenAt rfl (asSl_v _)) ?_
    refine Runs.step (seen (avInt_int _ _)) ?_
    refine Runs.new fun H10 b10 g10 => ?_
    refine Runs.puts b10 rfl fun H11 b11 u11 => ?_
    refine Runs.step (AH.has.rd (((((g5.trans g8).trans g9).trans g10).updr (Nat.le_trans (((g5.trans g8).trans g9)).size (Nat.le_refl _)) u11).has b4) 0 rfl rfl) ?_
    refine Runs.step (AH.has.rd (((((g5.trans g8).trans g9).trans g10).updr (Nat.le_trans (((g5.trans g8).trans g9)).size (Nat.le_refl _)) u11).has b4) 1 rfl (asSl_v _)) ?_
    refine Runs.step (AH.has.rd (((((g5.trans g8).trans g9).trans g10).updr (Nat.le_trans (((g5.trans g8).trans g9)).size (Nat.le_refl _)) u11).has b4) 2 rfl (asSl_v _)) ?_
    obtain ⟨_, H12, e12, s12, s12b, rfl, n12, n12b, g12, o12, o12b⟩ := ref08_Make_is (n2.grow (((((g4.trans g5).trans g8).trans g9).trans g10).updr (Nat.le_trans ((((g4.trans g5).trans g8).trans g9)).size (Nat.le_refl _)) u11)) (n3.grow (((((g4.trans g5).trans g8).trans g9).trans g10).updr (Nat.le_trans ((((g4.trans g5).trans g8).trans g9)).size (Nat.le_refl _)) u11)) a1
    refine Runs.step e12 ?_
    refine Runs.step rfl ?_
    refine Runs.step rfl ?_
    refine Runs.ifT rfl ?_
    refine Runs.step (seenAt rfl rfl) ?_
    refine Runs.step (seenAt rfl (asSl_v _)) ?_
    refine Runs.step (seenAt rfl (asSl_v _)) ?_
    refine Runs.step (seen (avInt_int _ _)) ?_
    refine Runs.new fun H13 b13 g13 => ?_
    refine Runs.puts b13 rfl fun H14 b14 u14 => ?_
    refine Runs.step (AH.has.rd (((g12.trans g13).updr (Nat.le_trans (g12).size (Nat.le_refl _)) u14).has b11) 0 rfl rfl) ?_
    refine Runs.step (AH.has.rd (((g12.trans g13).updr (Nat.le_trans (g12).size (Nat.le_refl _)) u14).has b11) 1 rfl (asSl_v _)) ?_
    refine Runs.step (AH.has.rd (((g12.trans g13).updr (Nat.le_trans (g12).size (Nat.le_refl _)) u14).has b11) 2 rfl (asSl_v _)) ?_
    refine Runs.step (AH.has.rd b14 0 rfl rfl) ?_
    refine Runs.step (AH.has.rd b14 1 rfl (asSl_v _)) ?_
    refine Runs.step (AH.has.rd b14 2 rfl (asSl_v _)) ?_
    obtain ⟨H15, e15, g15⟩ := ref08_Same_spec (n9.grow ((((g10.updr (Nat.le_refl _) u11).trans g12).trans g13).updr (Nat.le_trans (((g10.updr (Nat.le_refl _) u11).trans g12)).size (Nat.le_refl _)) u14)) (n9b.grow ((((g10.updr (Nat.le_refl _) u11).trans g12).trans g13).updr (Nat.le_trans (((g10.updr (Nat.le_refl _) u11).trans g12)).size (Nat.le_refl _)) u14)) (n12.grow (g13.updr (Nat.le_refl _) u14)) (n12b.grow (g13.updr (Nat.le_refl _) u14)) (((rational_Make' a1 x2 x3).1))
    refine Runs.step e15 ?_
    refine Runs.step (seen rfl) ?_
    refine Runs.cond (fun k16 => ?_) (fun k16 => ?_)
    · replace e := (condT k16).symm.trans e
      refine Runs.cond (fun k17 => ?_) (fun k17 => ?_)
      · replace e := (condT k17).symm.trans e
        refine Runs.cond (fun k18 => ?_) (fun k18 => ?_)
        · replace e := (condT k18).symm.trans e
          refine Runs.step (AH.has.rd (((((((((g5.trans g8).trans g9).trans g10).updr (Nat.le_trans (((g5.trans g8).trans g9)).size (Nat.le_refl _)) u11).trans g12).trans g13).updr (Nat.le_trans ((((((g5.trans g8).trans g9).trans g10).updr (Nat.le_trans (((g5.trans g8).trans g9)).size (Nat.le_refl _)) u11).trans g12)).size (Nat.le_refl _)) u14).trans g15).has b4) 0 rfl rfl) ?_
          refine Runs.step (AH.has.rd (((((((((g5.trans g8).trans g9).trans g10).updr (Nat.le_trans (((g5.trans g8).trans g9)).size (Nat.le_refl _)) u11).trans g12).trans g13).updr (Nat.le_trans ((((((g5.trans g8).trans g9).trans g10).updr (Nat.le_trans (((g5.trans g8).trans g9)).size (Nat.le_refl _)) u11).trans g12)).size (Nat.le_refl _)) u14).trans g15).has b4) 1 rfl (asSl_v _)) ?_
          refine Runs.step (AH.has.rd (((((((((g5.trans g8).trans g9).trans g10).updr (Nat.le_trans (((g5.trans g8).trans g9)).size (Nat.le_refl _)) u11).trans g12).trans g13).updr (Nat.le_trans ((((((g5.trans g8).trans g9).trans g10).updr (Nat.le_trans (((g5.trans g8).trans g9)).size (Nat.le_refl _)) u11).trans g12)).size (Nat.le_refl _)) u14).trans g15).has b4) 2 rfl (asSl_v _)) ?_
          refine Runs.step (AH.has.rd (((((((((g5.trans g8).trans g9).trans g10).updr (Nat.le_trans (((g5.trans g8).trans g9)).size (Nat.le_refl _)) u11).trans g12).trans g13).updr (Nat.le_trans ((((((g5.trans g8).trans g9).trans g10).updr (Nat.le_trans (((g5.trans g8).trans g9)).size (Nat.le_refl _)) u11).trans g12)).size (Nat.le_refl _)) u14).trans g15).has b4) 0 rfl rfl) ?_
          refine Runs.step (AH.has.rd (((((((((g5.trans g8).trans g9).trans g10).updr (Nat.le_trans (((g5.trans g8).trans g9)).size (Nat.le_refl _)) u11).trans g12).trans g13).updr (Nat.le_trans ((((((g5.trans g8).trans g9).trans g10).updr (Nat.le_trans (((g5.trans g8).trans g9)).size (Nat.le_refl _)) u11).trans g12)).size (Nat.le_refl _)) u14).trans g15).has b4) 1 rfl (asSl_v _)) ?_
          refine Runs.step (AH.has.rd (((((((((g5.trans g8).trans g9).trans g10).updr (Nat.le_trans (((g5.trans g8).trans g9)).size (Nat.le_refl _)) u11).trans g12).trans g13).updr (Nat.le_trans ((((((g5.trans g8).trans g9).trans g10).updr (Nat.le_trans (((g5.trans g8).trans g9)).size (Nat.le_refl _)) u11).trans g12)).size (Nat.le_refl _)) u14).trans g15).has b4) 2 rfl (asSl_v _)) ?_
          obtain ⟨_, H19, e19, rfl, g19⟩ := rational_Right_spec (n2.grow (((((((((g4.trans g5).trans g8).trans g9).trans g10).updr (Nat.le_trans ((((g4.trans g5).trans g8).trans g9)).size (Nat.le_refl _)) u11).trans g12).trans g13).updr (Nat.le_trans (((((((g4.trans g5).trans g8).trans g9).trans g10).updr (Nat.le_trans ((((g4.trans g5).trans g8).trans g9)).size (Nat.le_refl _)) u11).trans g12)).size (Nat.le_refl _)) u14).trans g15)) (n3.grow (((((((((g4.trans g5).trans g8).trans g9).trans g10).updr (Nat.le_trans ((((g4.trans g5).trans g8).trans g9)).size (Nat.le_refl _)) u11).trans g12).trans g13).updr (Nat.le_trans (((((((g4.trans g5).trans g8).trans g9).trans g10).updr (Nat.le_trans ((((g4.trans g5).trans g8).trans g9)).size (Nat.le_refl _)) u11).trans g12)).size (Nat.le_refl _)) u14).trans g15)) a1
          refine Runs.step e19 ?_
          refine Runs.step (seen rfl) ?_
          refine Runs.when (g19.same (((((((((g5.trans g8).trans g9).trans g10).updr (Nat.le_trans (((g5.trans g8).trans g9)).size (Nat.le_refl _)) u11).trans g12).trans g13).updr (Nat.le_trans ((((((g5.trans g8).trans g9).trans g10).updr (Nat.le_trans (((g5.trans g8).trans g9)).size (Nat.le_refl _)) u11).trans g12)).size (Nat.le_refl _)) u14).trans g15).has b4) 0 3) ?_
          obtain ⟨_, H20, e20, rfl, g20⟩ := ref08_Right_is (n2.grow ((((((((((g4.trans g5).trans g8).trans g9).trans g10).updr (Nat.le_trans ((((g4.trans g5).trans g8).trans g9)).size (Nat.le_refl _)) u11).trans g12).trans g13).updr (Nat.le_trans (((((((g4.trans g5).trans g8).trans g9).trans g10).updr (Nat.le_trans ((((g4.trans g5).trans g8).trans g9)).size (Nat.le_refl _)) u11).trans g12)).size (Nat.le_refl _)) u14).trans g15).trans g19)) (n3.grow ((((((((((g4.trans g5).trans g8).trans g9).trans g10).updr (Nat.le_trans ((((g4.trans g5).trans g8).trans g9)).size (Nat.le_refl _)) u11).trans g12).trans g13).updr (Nat.le_trans (((((((g4.trans g5).trans g8).trans g9).trans g10).updr (Nat.le_trans ((((g4.trans g5).trans g8).trans g9)).size (Nat.le_refl _)) u11).trans g12)).size (Nat.le_refl _)) u14).trans g15).trans g19)) a1
          refine Runs.step e20 ?_
          refine Runs.step (seen rfl) ?_
          cases e
          cases good
          exact Runs.ret ⟨rfl, (((((((((((g4.trans g5).trans g8).trans g9).trans g10).updr (Nat.le_trans ((((g4.trans g5).trans g8).trans g9)).size (Nat.le_refl _)) u11).trans g12).trans g13).updr (Nat.le_trans (((((((g4.trans g5).trans g8).trans g9).trans g10).updr (Nat.le_trans ((((g4.trans g5).trans g8).trans g9)).size (Nat.le_refl _)) u11).trans g12)).size (Nat.le_refl _)) u14).trans g15).trans g19).trans g20)⟩
        · replace e := (condF k18).symm.trans e
          refine Runs.when ((Grow.refl _).same (((((((((g5.trans g8).trans g9).trans g10).updr (Nat.le_trans (((g5.trans g8).trans g9)).size (Nat.le_refl _)) u11).trans g12).trans g13).updr (Nat.le_trans ((((((g5.trans g8).trans g9).trans g10).updr (Nat.le_trans (((g5.trans g8).trans g9)).size (Nat.le_refl _)) u11).trans g12)).size (Nat.le_refl _)) u14).trans g15).has b4) 0 3) ?_
          cases e
          cases good
          exact Runs.ret ⟨rfl, (((((((((g4.trans g5).trans g8).trans g9).trans g10).updr (Nat.le_trans ((((g4.trans g5).trans g8).trans g9)).size (Nat.le_refl _)) u11).trans g12).trans g13).updr (Nat.le_trans (((((((g4.trans g5).trans g8).trans g9).trans g10).updr (Nat.le_trans ((((g4.trans g5).trans g8).trans g9)).size (Nat.le_refl _)) u11).trans g12)).size (Nat.le_refl _)) u14).trans g15)⟩
      · replace e := (condF k17).symm.trans e
        refine Runs.when ((Grow.refl _).same (((((((((g5.trans g8).trans g9).trans g10).updr (Nat.le_trans (((g5.trans g8).trans g9)).size (Nat.le_refl _)) u11).trans g12).trans g13).updr (Nat.le_trans ((((((g5.trans g8).trans g9).trans g10).updr (Nat.le_trans (((g5.trans g8).trans g9)).size (Nat.le_refl _)) u11).trans g12)).size (Nat.le_refl _)) u14).trans g15).has b4) 0 3) ?_
        cases e
        cases good
        exact Runs.ret ⟨rfl, (((((((((g4.trans g5).trans g8).trans g9).trans g10).updr (Nat.le_trans ((((g4.trans g5).trans g8).trans g9)).size (Nat.le_refl _)) u11).trans g12).trans g13).updr (Nat.le_trans (((((((g4.trans g5).trans g8).trans g9).trans g10).updr (Nat.le_trans ((((g4.trans g5).trans g8).trans g9)).size (Nat.le_refl _)) u11).trans g12)).size (Nat.le_refl _)) u14).trans g15)⟩
    · replace e := (condF k16).symm.trans e
      refine Runs.when ((Grow.refl _).same (((((((((g5.trans g8).trans g9).trans g10).updr (Nat.le_trans (((g5.trans g8).trans g9)).size (Nat.le_refl _)) u11).trans g12).trans g13).updr (Nat.le_trans ((((((g5.trans g8).trans g9).trans g10).updr (Nat.le_trans (((g5.trans g8).trans g9)).size (Nat.le_refl _)) u11).trans g12)).size (Nat.le_refl _)) u14).trans g15).has b4) 0 3) ?_
      cases e
      cases good
      exact Runs.ret ⟨rfl, (((((((((g4.trans g5).trans g8).trans g9).trans g10).updr (Nat.le_trans ((((g4.trans g5).trans g8).trans g9)).size (Nat.le_refl _)) u11).trans g12).trans g13).updr (Nat.le_trans (((((((g4.trans g5).trans g8).trans g9).trans g10).updr (Nat.le_trans ((((g4.trans g5).trans g8).trans g9)).size (Nat.le_refl _)) u11).trans g12)).size (Nat.le_refl _)) u14).trans g15)⟩

theorem law08_RationalMakes_run {s : law08_RationalMakes_St} {r : law08_RationalMakes_Res} (it : Iter law08_RationalMakes_step s r) : law08_RationalMakes_At r s := Iter.ind (fun s o e good => by
  cases s with
  | fn a1 x2 x3 => exact @law08_RationalMakes_fn_walk _ _ a1 x2 x3 e good
  | no => exact True.intro
  ) it

theorem law08_RationalMakes_opt {h : AH} {a2 : Sl} {a3 : Sl} {a1 : Bool} {x2 : List Nat} {x3 : List Nat} (n2 : Nats h a2 x2) (n3 : Nats h a3 x3) {r : law08_RationalMakes_Res} (q : runP law08_RationalMakes_step (.fn a1 x2 x3) = some r) : Runs (go (.fn F.law08_RationalMakes [.agg [.bool a1, a2.v, a3.v]]) h) (law08_RationalMakes_post h r) := law08_RationalMakes_run (runP_iter q) n2 n3

inductive law08_RationalCompares_St
  | fn (a1 : Bool) (x2 : List Nat) (x3 : List Nat) (a4 : Bool) (x5 : List Nat) (x6 : List Nat)
  | no

abbrev law08_RationalCompares_Res := Bool

noncomputable def law08_RationalCompares_fn' (a1 : Bool) (x2 : List Nat) (x3 : List Nat) (a4 : Bool) (x5 : List Nat) (x6 : List Nat) : Option (law08_RationalCompares_St ⊕ law08_RationalCompares_Res) :=
  cond (!((fewF x2 x3 && fewF x5 x6))) (some (.inr true)) ((need ((((rational_Floor' a1 x2 x3).1)) = (((ref08_Floor' a1 x2 x3).1)) ∧ ((rational_Floor' a1 x2 x3).2.1) = ((ref08_Floor' a1 x2 x3).2.1))).bind fun c19_0 => cond (true) (cond (true) (cond (decide (((rational_Floor' a1 x2 x3).2.2) = ((ref08_Floor' a1 x2 x3).2.2))) (some (.inr (decide (((rational_Cmp' a1 x2 x3 a4 x5 x6)) = ((ref08_Cmp' a1 x2 x3 a4 x5 x6)))))) (some (.inr false))) (some (.inr false))) (some (.inr false)))

noncomputable def law08_RationalCompares_step : law08_RationalCompares_St → Option (law08_RationalCompares_St ⊕ law08_RationalCompares_Res)
  | .fn a1 x2 x3 a4 x5 x6 => law08_RationalCompares_fn' a1 x2 x3 a4 x5 x6
  | .no => none

@[reducible] def law08_RationalCompares_post (h0 : AH) (r : law08_RationalCompares_Res) (v : AV) (h' : AH) : Prop := v = .bool r ∧ Grow h0 h'

def law08_RationalCompares_At (r : law08_RationalCompares_Res) : law08_RationalCompares_St → Prop
  | .fn a1 x2 x3 a4 x5 x6 => ∀ {h : AH} {a2 : Sl} {a3 : Sl} {a5 : Sl} {a6 : Sl}, Nats h a2 x2 → Nats h a3 x3 → Nats h a5 x5 → Nats h a6 x6 → Runs (go (.fn F.law08_RationalCompares [.agg [.bool a1, a2.v, a3.v], .agg [.bool a4, a5.v, a6.v]]) h) (law08_RationalCompares_post h r)
  | .no => True

theorem law08_RationalCompares_fn_walk {r : law08_RationalCompares_Res} {o : law08_RationalCompares_St ⊕ law08_RationalCompares_Res} {a1 : Bool} {x2 : List Nat} {x3 : List Nat} {a4 : Bool} {x5 : List Nat} {x6 : List Nat} (e : law08_RationalCompares_fn' a1 x2 x3 a4 x5 x6 = some o) (good : GoodS (law08_RationalCompares_At r) r o) : law08_RationalCompares_At r (.fn a1 x2 x3 a4 x5 x6) := by
  intro h a2 a3 a5 a6 n2 n3 n5 n6
  rw [u_law08_RationalCompares]
  unfold law08_RationalCompares_fn' at e
  refine Runs.new fun H7 b7 g7 => ?_
  refine Runs.new fun H8 b8 g8 => ?_
  refine Runs.step (AH.has.rd (g8.has b7) 0 rfl rfl) ?_
  refine Runs.step (AH.has.rd (g8.has b7) 1 rfl (asSl_v _)) ?_
  refine Runs.step (AH.has.rd (g8.has b7) 2 rfl (asSl_v _)) ?_
  refine Runs.step (AH.has.rd b8 0 rfl rfl) ?_
  refine Runs.step (AH.has.rd b8 1 rfl (asSl_v _)) ?_
  refine Runs.step (AH.has.rd b8 2 rfl (asSl_v _)) ?_
  refine Runs.new fun H9 b9 g9 => ?_
  refine Runs.step (few08_2 b9 (n2.grow ((g7.trans g8).trans g9)) (n3.grow ((g7.trans g8).trans g9)) (n5.grow ((g7.trans g8).trans g9)) (n6.grow ((g7.trans g8).trans g9))) ?_
  refine Runs.step (seen rfl) ?_
  refine Runs.cond (fun k11 => ?_) (fun k11 => ?_)
  · replace e := (condT k11).symm.trans e
    cases e
    cases good
    exact Runs.ret ⟨rfl, ((g7.trans g8).trans g9)⟩
  · replace e := (condF k11).symm.trans e
    obtain ⟨H12, e12, g12⟩ := awake08
    refine Runs.step e12 ?_
    refine Runs.step (seen rfl) ?_
    refine Runs.step (AH.has.rd (((g8.trans g9).trans g12).has b7) 0 rfl rfl) ?_
    refine Runs.step (AH.has.rd (((g8.trans g9).trans g12).has b7) 1 rfl (asSl_v _)) ?_
    refine Runs.step (AH.has.rd (((g8.trans g9).trans g12).has b7) 2 rfl (asSl_v _)) ?_
    obtain ⟨_, H13, e13, s13, rfl, n13, g13, o13⟩ := rational_Floor_spec (n2.grow (((g7.trans g8).trans g9).trans g12)) (n3.grow (((g7.trans g8).trans g9).trans g12)) a1
    refine Runs.step e13 ?_
    refine Runs.step rfl ?_
    refine Runs.step rfl ?_
    refine Runs.ifT rfl ?_
    refine Runs.step (seenAt rfl rfl) ?_
    refine Runs.step (seenAt rfl (asSl_v _)) ?_
    refine Runs.step (seen (avInt_int _ _)) ?_
    refine Runs.new fun H14 b14 g14 => ?_
    refine Runs.puts b14 rfl fun H15 b15 u15 => ?_
    refine Runs.step (AH.has.rd ((((((g8.trans g9).trans g12).trans g13).trans g14).updr (Nat.le_trans ((((g8.trans g9).trans g12).trans g13)).size (Nat.le_refl _)) u15).has b7) 0 rfl rfl) ?_
    refine Runs.step (AH.has.rd ((((((g8.trans g9).trans g12).trans g13).trans g14).updr (Nat.le_trans ((((g8.trans g9).trans g12).trans g13)).size (Nat.le_refl _)) u15).has b7) 1 rfl (asSl_v _)) ?_
    refine Runs.step (AH.has.rd ((((((g8.trans g9).trans g12).trans g13).trans g14).updr (Nat.le_trans ((((g8.trans g9).trans g12).trans g13)).size (Nat.le_refl _)) u15).has b7) 2 rfl (asSl_v _)) ?_
    obtain ⟨_, H16, e16, s16, rfl, n16, g16, o16⟩ := ref08_Floor_spec (n2.grow ((((((g7.trans g8).trans g9).trans g12).trans g13).trans g14).updr (Nat.le_trans (((((g7.trans g8).trans g9).trans g12).trans g13)).size (Nat.le_refl _)) u15)) (n3.grow ((((((g7.trans g8).trans g9).trans g12).trans g13).trans g14).updr (Nat.le_trans (((((g7.trans g8).trans g9).trans g12).trans g13)).size (Nat.le_refl _)) u15)) a1
    refine Runs.step e16 ?_
    refine Runs.step rfl ?_
    refine Runs.step rfl ?_
    refine Runs.ifT rfl ?_
    refine Runs.step (seenAt rfl rfl) ?_
    refine Runs.step (seenAt rfl (asSl_v _)) ?_
    refine Runs.step (seen (avInt_int _ _)) ?_
    refine Runs.new fun H17 b17 g17 => ?_
    refine Runs.puts b17 rfl fun H18 b18 u18 => ?_
    refine Runs.step (AH.has.rd (((g16.trans g17).updr (Nat.le_trans (g16).size (Nat.le_refl _)) u18).has b15) 0 rfl rfl) ?_
    refine Runs.step (AH.has.rd (((g16.trans g17).updr (Nat.le_trans (g16).size (Nat.le_refl _)) u18).has b15) 1 rfl (asSl_v _)) ?_
    refine Runs.step (AH.has.rd b18 0 rfl rfl) ?_
    refine Runs.step (AH.has.rd b18 1 rfl (asSl_v _)) ?_
    obtain ⟨c19_0, q19_0, e⟩ := Option.bind_eq_some_iff.1 e
    obtain ⟨H19, e19, g19⟩ := ref03_Same_need (n13.grow ((((g14.updr (Nat.le_refl _) u15).trans g16).trans g17).updr (Nat.le_trans (((g14.updr (Nat.le_refl _) u15).trans g16)).size (Nat.le_refl _)) u18)) (n16.grow (g17.updr (Nat.le_refl _) u18)) (((rational_Floor' a1 x2 x3).1)) (((ref08_Floor' a1 x2 x3).1))  c19_0.down
    refine Runs.step e19 ?_
    refine Runs.step (seen rfl) ?_
    refine Runs.cond (fun k20 => ?_) (fun k20 => ?_)
    · replace e := (condT k20).symm.trans e
      refine Runs.cond (fun k21 => ?_) (fun k21 => ?_)
      · replace e := (condT k21).symm.trans e
        refine Runs.cond (fun k22 => ?_) (fun k22 => ?_)
        · replace e := (condT k22).symm.trans e
          refine Runs.step (AH.has.rd ((((((((((g8.trans g9).trans g12).trans g13).trans g14).updr (Nat.le_trans ((((g8.trans g9).trans g12).trans g13)).size (Nat.le_refl _)) u15).trans g16).trans g17).updr (Nat.le_trans (((((((g8.trans g9).trans g12).trans g13).trans g14).updr (Nat.le_trans ((((g8.trans g9).trans g12).trans g13)).size (Nat.le_refl _)) u15).trans g16)).size (Nat.le_refl _)) u18).trans g19).has b7) 0 rfl rfl) ?_
          refine Runs.step (AH.has.rd ((((((((((g8.trans g9).trans g12).trans g13).trans g14).updr (Nat.le_trans ((((g8.trans g9).trans g12).trans g13)).size (Nat.le_refl _)) u15).trans g16).trans g17).updr (Nat.le_trans (((((((g8.trans g9).trans g12).trans g13).trans g14).updr (Nat.le_trans ((((g8.trans g9).trans g12).trans g13)).size (Nat.le_refl _)) u15).trans g16)).size (Nat.le_refl _)) u18).trans g19).has b7) 1 rfl (asSl_v _)) ?_
          refine Runs.step (AH.has.rd ((((((((((g8.trans g9).trans g12).trans g13).trans g14).updr (Nat.le_trans ((((g8.trans g9).trans g12).trans g13)).size (Nat.le_refl _)) u15).trans g16).trans g17).updr (Nat.le_trans (((((((g8.trans g9).trans g12).trans g13).trans g14).updr (Nat.le_trans ((((g8.trans g9).trans g12).trans g13)).size (Nat.le_refl _)) u15).trans g16)).size (Nat.le_refl _)) u18).trans g19).has b7) 2 rfl (asSl_v _)) ?_
          refine Runs.step (AH.has.rd (((((((((g9.trans g12).trans g13).trans g14).updr (Nat.le_trans (((g9.trans g12).trans g13)).size (Nat.le_refl _)) u15).trans g16).trans g17).updr (Nat.le_trans ((((((g9.trans g12).trans g13).trans g14).updr (Nat.le_trans (((g9.trans g12).trans g13)).size (Nat.le_refl _)) u15).trans g16)).size (Nat.le_refl _)) u18).trans g19).has b8) 0 rfl rfl) ?_
          refine Runs.step (AH.has.rd (((((((((g9.trans g12).trans g13).trans g14).updr (Nat.le_trans (((g9.trans g12).trans g13)).size (Nat.le_refl _)) u15).trans g16).trans g17).updr (Nat.le_trans ((((((g9.trans g12).trans g13).trans g14).updr (Nat.le_trans (((g9.trans g12).trans g13)).size (Nat.le_refl _)) u15).trans g16)).size (Nat.le_refl _)) u18).trans g19).has b8) 1 rfl (asSl_v _)) ?_
          refine Runs.step (AH.has.rd (((((((((g9.trans g12).trans g13).trans g14).updr (Nat.le_trans (((g9.trans g12).trans g13)).size (Nat.le_refl _)) u15).trans g16).trans g17).updr (Nat.le_trans ((((((g9.trans g12).trans g13).trans g14).updr (Nat.le_trans (((g9.trans g12).trans g13)).size (Nat.le_refl _)) u15).trans g16)).size (Nat.le_refl _)) u18).trans g19).has b8) 2 rfl (asSl_v _)) ?_
          refine Runs.step (AH.has.rd ((((((((((g8.trans g9).trans g12).trans g13).trans g14).updr (Nat.le_trans ((((g8.trans g9).trans g12).trans g13)).size (Nat.le_refl _)) u15).trans g16).trans g17).updr (Nat.le_trans (((((((g8.trans g9).trans g12).trans g13).trans g14).updr (Nat.le_trans ((((g8.trans g9).trans g12).trans g13)).size (Nat.le_refl _)) u15).trans g16)).size (Nat.le_refl _)) u18).trans g19).has b7) 0 rfl rfl) ?_
          refine Runs.step (AH.has.rd ((((((((((g8.trans g9).trans g12).trans g13).trans g14).updr (Nat.le_trans ((((g8.trans g9).trans g12).trans g13)).size (Nat.le_refl _)) u15).trans g16).trans g17).updr (Nat.le_trans (((((((g8.trans g9).trans g12).trans g13).trans g14).updr (Nat.le_trans ((((g8.trans g9).trans g12).trans g13)).size (Nat.le_refl _)) u15).trans g16)).size (Nat.le_refl _)) u18).trans g19).has b7) 1 rfl (asSl_v _)) ?_
          refine Runs.step (AH.has.rd ((((((((((g8.trans g9).trans g12).trans g13).trans g14).updr (Nat.le_trans ((((g8.trans g9).trans g12).trans g13)).size (Nat.le_refl _)) u15).trans g16).trans g17).updr (Nat.le_trans (((((((g8.trans g9).trans g12).trans g13).trans g14).updr (Nat.le_trans ((((g8.trans g9).trans g12).trans g13)).size (Nat.le_refl _)) u15).trans g16)).size (Nat.le_refl _)) u18).trans g19).has b7) 2 rfl (asSl_v _)) ?_
          refine Runs.step (AH.has.rd (((((((((g9.trans g12).trans g13).trans g14).updr (Nat.le_trans (((g9.trans g12).trans g13)).size (Nat.le_refl _)) u15).trans g16).trans g17).updr (Nat.le_trans ((((((g9.trans g12).trans g13).trans g14).updr (Nat.le_trans (((g9.trans g12).trans g13)).size (Nat.le_refl _)) u15).trans g16)).size (Nat.le_refl _)) u18).trans g19).has b8) 0 rfl rfl) ?_
          refine Runs.step (AH.has.rd (((((((((g9.trans g12).trans g13).trans g14).updr (Nat.le_trans (((g9.trans g12).trans g13)).size (Nat.le_refl _)) u15).trans g16).trans g17).updr (Nat.le_trans ((((((g9.trans g12).trans g13).trans g14).updr (Nat.le_trans (((g9.trans g12).trans g13)).size (Nat.le_refl _)) u15).trans g16)).size (Nat.le_refl _)) u18).trans g19).has b8) 1 rfl (asSl_v _)) ?_
          refine Runs.step (AH.has.rd (((((((((g9.trans g12).trans g13).trans g14).updr (Nat.le_trans (((g9.trans g12).trans g13)).size (Nat.le_refl _)) u15).trans g16).trans g17).updr (Nat.le_trans ((((((g9.trans g12).trans g13).trans g14).updr (Nat.le_trans (((g9.trans g12).trans g13)).size (Nat.le_refl _)) u15).trans g16)).size (Nat.le_refl _)) u18).trans g19).has b8) 2 rfl (asSl_v _)) ?_
          obtain ⟨_, H23, e23, rfl, g23⟩ := rational_Cmp_spec (n2.grow ((((((((((g7.trans g8).trans g9).trans g12).trans g13).trans g14).updr (Nat.le_trans (((((g7.trans g8).trans g9).trans g12).trans g13)).size (Nat.le_refl _)) u15).trans g16).trans g17).updr (Nat.le_trans ((((((((g7.trans g8).trans g9).trans g12).trans g13).trans g14).updr (Nat.le_trans (((((g7.trans g8).trans g9).trans g12).trans g13)).size (Nat.le_refl _)) u15).trans g16)).size (Nat.le_refl _)) u18).trans g19)) (n3.grow ((((((((((g7.trans g8).trans g9).trans g12).trans g13).trans g14).updr (Nat.le_trans (((((g7.trans g8).trans g9).trans g12).trans g13)).size (Nat.le_refl _)) u15).trans g16).trans g17).updr (Nat.le_trans ((((((((g7.trans g8).trans g9).trans g12).trans g13).trans g14).updr (Nat.le_trans (((((g7.trans g8).trans g9).trans g12).trans g13)).size (Nat.le_refl _)) u15).trans g16)).size (Nat.le_refl _)) u18).trans g19)) (n5.grow ((((((((((g7.trans g8).trans g9).trans g12).trans g13).trans g14).updr (Nat.le_trans (((((g7.trans g8).trans g9).trans g12).trans g13)).size (Nat.le_refl _)) u15).trans g16).trans g17).updr (Nat.le_trans ((((((((g7.trans g8).trans g9).trans g12).trans g13).trans g14).updr (Nat.le_trans (((((g7.trans g8).trans g9).trans g12).trans g13)).size (Nat.le_refl _)) u15).trans g16)).size (Nat.le_refl _)) u18).trans g19)) (n6.grow ((((((((((g7.trans g8).trans g9).trans g12).trans g13).trans g14).updr (Nat.le_trans (((((g7.trans g8).trans g9).trans g12).trans g13)).size (Nat.le_refl _)) u15).trans g16).trans g17).updr (Nat.le_trans ((((((((g7.trans g8).trans g9).trans g12).trans g13).trans g14).updr (Nat.le_trans (((((g7.trans g8).trans g9).trans g12).trans g13)).size (Nat.le_refl _)) u15).trans g16)).size (Nat.le_refl _)) u18).trans g19)) a1 a4
          refine Runs.step e23 ?_
          refine Runs.step (seen (avInt_int _ _)) ?_
          refine Runs.when (g23.same (((((((((g9.trans g12).trans g13).trans g14).updr (Nat.le_trans (((g9.trans g12).trans g13)).size (Nat.le_refl _)) u15).trans g16).trans g17).updr (Nat.le_trans ((((((g9.trans g12).trans g13).trans g14).updr (Nat.le_trans (((g9.trans g12).trans g13)).size (Nat.le_refl _)) u15).trans g16)).size (Nat.le_refl _)) u18).trans g19).has b8) 0 3) ?_
          refine Runs.when (g23.same ((((((((((g8.trans g9).trans g12).trans g13).trans g14).updr (Nat.le_trans ((((g8.trans g9).trans g12).trans g13)).size (Nat.le_refl _)) u15).trans g16).trans g17).updr (Nat.le_trans (((((((g8.trans g9).trans g12).trans g13).trans g14).updr (Nat.le_trans ((((g8.trans g9).trans g12).trans g13)).size (Nat.le_refl _)) u15).trans g16)).size (Nat.le_refl _)) u18).trans g19).has b7) 0 3) ?_
          obtain ⟨_, H24, e24, rfl, g24⟩ := ref08_Cmp_spec (n2.grow (((((((((((g7.trans g8).trans g9).trans g12).trans g13).trans g14).updr (Nat.le_trans (((((g7.trans g8).trans g9).trans g12).trans g13)).size (Nat.le_refl _)) u15).trans g16).trans g17).updr (Nat.le_trans ((((((((g7.trans g8).trans g9).trans g12).trans g13).trans g14).updr (Nat.le_trans (((((g7.trans g8).trans g9).trans g12).trans g13)).size (Nat.le_refl _)) u15).trans g16)).size (Nat.le_refl _)) u18).trans g19).trans g23)) (n3.grow (((((((((((g7.trans g8).trans g9).trans g12).trans g13).trans g14).updr (Nat.le_trans (((((g7.trans g8).trans g9).trans g12).trans g13)).size (Nat.le_refl _)) u15).trans g16).trans g17).updr (Nat.le_trans ((((((((g7.trans g8).trans g9).trans g12).trans g13).trans g14).updr (Nat.le_trans (((((g7.trans g8).trans g9).trans g12).trans g13)).size (Nat.le_refl _)) u15).trans g16)).size (Nat.le_refl _)) u18).trans g19).trans g23)) (n5.grow (((((((((((g7.trans g8).trans g9).trans g12).trans g13).trans g14).updr (Nat.le_trans (((((g7.trans g8).trans g9).trans g12).trans g13)).size (Nat.le_refl _)) u15).trans g16).trans g17).updr (Nat.le_trans ((((((((g7.trans g8).trans g9).trans g12).trans g13).trans g14).updr (Nat.le_trans (((((g7.trans g8).trans g9).trans g12).trans g13)).size (Nat.le_refl _)) u15).trans g16)).size (Nat.le_refl _)) u18).trans g19).trans g23)) (n6.grow (((((((((((g7.trans g8).trans g9).trans g12).trans g13).trans g14).updr (Nat.le_trans (((((g7.trans g8).trans g9).trans g12).trans g13)).size (Nat.le_refl _)) u15).trans g16).trans g17).updr (Nat.le_trans ((((((((g7.trans g8).trans g9).trans g12).trans g13).trans g14).updr (Nat.le_trans (((((g7.trans g8).trans g9).trans g12).trans g13)).size (Nat.le_refl _)) u15).trans g16)).size (Nat.le_refl _)) u18).trans g19).trans g23)) a1 a4
          refine Runs.step e24 ?_
          refine Runs.step (seen (avInt_int _ _)) ?_
          cases e
          cases good
          exact Runs.ret ⟨rfl, ((((((((((((g7.trans g8).trans g9).trans g12).trans g13).trans g14).updr (Nat.le_trans (((((g7.trans g8).trans g9).trans g12).trans g13)).size (Nat.le_refl _)) u15).trans g16).trans g17).updr (Nat.le_trans ((((((((g7.trans g8).trans g9).trans g12).trans g13).trans g14).updr (Nat.le_trans (((((g7.trans g8).trans g9).trans g12).trans g13)).size (Nat.le_refl _)) u15).trans g16)).size (Nat.le_refl _)) u18).trans g19).trans g23).trans g24)⟩
        · replace e := (condF k22).symm.trans e
          refine Runs.when ((Grow.refl _).same (((((((((g9.trans g12).trans g13).trans g14).updr (Nat.le_trans (((g9.trans g12).trans g13)).size (Nat.le_refl _)) u15).trans g16).trans g17).updr (Nat.le_trans ((((((g9.trans g12).trans g13).trans g14).updr (Nat.le_trans (((g9.trans g12).trans g13)).size (Nat.le_refl _)) u15).trans g16)).size (Nat.le_refl _)) u18).trans g19).has b8) 0 3) ?_
          refine Runs.when ((Grow.refl _).same ((((((((((g8.trans g9).trans g12).trans g13).trans g14).updr (Nat.le_trans ((((g8.trans g9).trans g12).trans g13)).size (Nat.le_refl _)) u15).trans g16).trans g17).updr (Nat.le_trans (((((((g8.trans g9).trans g12).trans g13).trans g14).updr (Nat.le_trans ((((g8.trans g9).trans g12).trans g13)).size (Nat.le_refl _)) u15).trans g16)).size (Nat.le_refl _)) u18).trans g19).has b7) 0 3) ?_
          cases e
          cases good
          exact Runs.ret ⟨rfl, ((((((((((g7.trans g8).trans g9).trans g12).trans g13).trans g14).updr (Nat.le_trans (((((g7.trans g8).trans g9).trans g12).trans g13)).size (Nat.le_refl _)) u15).trans g16).trans g17).updr (Nat.le_trans ((((((((g7.trans g8).trans g9).trans g12).trans g13).trans g14).updr (Nat.le_trans (((((g7.trans g8).trans g9).trans g12).trans g13)).size (Nat.le_refl _)) u15).trans g16)).size (Nat.le_refl _)) u18).trans g19)⟩
      · replace e := (condF k21).symm.trans e
        refine Runs.when ((Grow.refl _).same (((((((((g9.trans g12).trans g13).trans g14).updr (Nat.le_trans (((g9.trans g12).trans g13)).size (Nat.le_refl _)) u15).trans g16).trans g17).updr (Nat.le_trans ((((((g9.trans g12).trans g13).trans g14).updr (Nat.le_trans (((g9.trans g12).trans g13)).size (Nat.le_refl _)) u15).trans g16)).size (Nat.le_refl _)) u18).trans g19).has b8) 0 3) ?_
        refine Runs.when ((Grow.refl _).same ((((((((((g8.trans g9).trans g12).trans g13).trans g14).updr (Nat.le_trans ((((g8.trans g9).trans g12).trans g13)).size (Nat.le_refl _)) u15).trans g16).trans g17).updr (Nat.le_trans (((((((g8.trans g9).trans g12).trans g13).trans g14).updr (Nat.le_trans ((((g8.trans g9).trans g12).trans g13)).size (Nat.le_refl _)) u15).trans g16)).size (Nat.le_refl _)) u18).trans g19).has b7) 0 3) ?_
        cases e
        cases good
        exact Runs.ret ⟨rfl, ((((((((((g7.trans g8).trans g9).trans g12).trans g13).trans g14).updr (Nat.le_trans (((((g7.trans g8).trans g9).trans g12).trans g13)).size (Nat.le_refl _)) u15).trans g16).trans g17).updr (Nat.le_trans ((((((((g7.trans g8).trans g9).trans g12).trans g13).trans g14).updr (Nat.le_trans (((((g7.trans g8).trans g9).trans g12).trans g13)).size (Nat.le_refl _)) u15).trans g16)).size (Nat.le_refl _)) u18).trans g19)⟩
    · replace e := (condF k20).symm.trans e
      refine Runs.when ((Grow.refl _).same (((((((((g9.trans g12).trans g13).trans g14).updr (Nat.le_trans (((g9.trans g12).trans g13)).size (Nat.le_refl _)) u15).trans g16).trans g17).updr (Nat.le_trans ((((((g9.trans g12).trans g13).trans g14).updr (Nat.le_trans (((g9.trans g12).trans g13)).size (Nat.le_refl _)) u15).trans g16)).size (Nat.le_refl _)) u18).trans g19).has b8) 0 3) ?_
      refine Runs.when ((Grow.refl _).same ((((((((((g8.trans g9).trans g12).trans g13).trans g14).updr (Nat.le_trans ((((g8.trans g9).trans g12).trans g13)).size (Nat.le_refl _)) u15).trans g16).trans g17).updr (Nat.le_trans (((((((g8.trans g9).trans g12).trans g13).trans g14).updr (Nat.le_trans ((((g8.trans g9).trans g12).trans g13)).size (Nat.le_refl _)) u15).trans g16)).size (Nat.le_refl _)) u18).trans g19).has b7) 0 3) ?_
      cases e
      cases good
      exact Runs.ret ⟨rfl, ((((((((((g7.trans g8).trans g9).trans g12).trans g13).trans g14).updr (Nat.le_trans (((((g7.trans g8).trans g9).trans g12).trans g13)).size (Nat.le_refl _)) u15).trans g16).trans g17).updr (Nat.le_trans ((((((((g7.trans g8).trans g9).trans g12).trans g13).trans g14).updr (Nat.le_trans (((((g7.trans g8).trans g9).trans g12).trans g13)).size (Nat.le_refl _)) u15).trans g16)).size (Nat.le_refl _)) u18).trans g19)⟩

theorem law08_RationalCompares_run {s : law08_RationalCompares_St} {r : law08_RationalCompares_Res} (it : Iter law08_RationalCompares_step s r) : law08_RationalCompares_At r s := Iter.ind (fun s o e good => by
  cases s with
  | fn a1 x2 x3 a4 x5 x6 => exact @law08_RationalCompares_fn_walk _ _ a1 x2 x3 a4 x5 x6 e good
  | no => exact True.intro
  ) it

theorem law08_RationalCompares_opt {h : AH} {a2 : Sl} {a3 : Sl} {a5 : Sl} {a6 : Sl} {a1 : Bool} {x2 : List Nat} {x3 : List Nat} {a4 : Bool} {x5 : List Nat} {x6 : List Nat} (n2 : Nats h a2 x2) (n3 : Nats h a3 x3) (n5 : Nats h a5 x5) (n6 : Nats h a6 x6) {r : law08_RationalCompares_Res} (q : runP law08_RationalCompares_step (.fn a1 x2 x3 a4 x5 x6) = some r) : Runs (go (.fn F.law08_RationalCompares [.agg [.bool a1, a2.v, a3.v], .agg [.bool a4, a5.v, a6.v]]) h) (law08_RationalCompares_post h r) := law08_RationalCompares_run (runP_iter q) n2 n3 n5 n6

end Go.Ab
