/- Layer 3: products: printed by wip/tools/walk.py. -/
import Derived.Test.YtddnmijnpieokaaS24
set_option linter.unusedVariables false
set_option linter.unusedSimpArgs false
set_option maxRecDepth 10000
namespace Go.Ab
open Go.Proofs Go.Num

def modint_Mul' (a1 : Bool) (x2 : List Nat) (a3 : Bool) (x4 : List Nat) : Bool × List Nat × Int :=
  cond (!((rtI a1 x2 && rtI a3 x4))) ((false, [], 1)) (((((fromI (!(a1 == a3)) ((mulN x2 x4).1)).1)), (fromI (!(a1 == a3)) ((mulN x2 x4).1)).2, ((mulN x2 x4).2)))

theorem modint_Mul_spec {h : AH} {a2 : Sl} {x2 : List Nat} {a4 : Sl} {x4 : List Nat} (n2 : Nats h a2 x2) (n4 : Nats h a4 x4) (a1 : Bool) (a3 : Bool) : Runs (go (.fn F.modint_Mul [.agg [.bool a1, a2.v], .agg [.bool a3, a4.v]]) h) fun v h' => ∃ s1 : Sl, v = .tup [.agg [.bool (modint_Mul' a1 x2 a3 x4).1, s1.v], .int .i64 (modint_Mul' a1 x2 a3 x4).2.2] ∧ Nats h' s1 ((modint_Mul' a1 x2 a3 x4).2.1) ∧ Grow h h' ∧ Own h s1 := by
  rw [u_modint_Mul]
  refine Runs.new fun H1 b1 g1 => ?_
  refine Runs.new fun H2 b2 g2 => ?_
  refine Runs.new fun H3 b3 g3 => ?_
  refine Runs.step (AH.has.rd ((g2.trans g3).has b1) 0 rfl rfl) ?_
  refine Runs.step (AH.has.rd ((g2.trans g3).has b1) 1 rfl (asSl_v _)) ?_
  refine Runs.step (AH.has.rd (g3.has b2) 0 rfl rfl) ?_
  refine Runs.step (AH.has.rd (g3.has b2) 1 rfl (asSl_v _)) ?_
  refine Runs.new fun H4 b4 g4 => ?_
  obtain ⟨H5, e5, g5⟩ := modint_right2_spec b4 (n2.grow (((g1.trans g2).trans g3).trans g4)) (n4.grow (((g1.trans g2).trans g3).trans g4))
  refine Runs.step e5 ?_
  refine Runs.step (seen rfl) ?_
  refine Runs.cond (fun k6 => ?_) (fun k6 => ?_)
  · refine Runs.puts ((g4.trans g5).has b3) rfl fun H7 b7 u7 => ?_
    have b4_7 := AH.has.updr (g5.has b4) (Nat.ne_of_gt (Nat.lt_of_lt_of_le (b3).lt (Nat.le_refl _))) u7
    refine Runs.step (AH.has.rd b7 0 rfl rfl) ?_
    refine Runs.step (AH.has.rd b7 1 rfl (asSl_v _)) ?_
    have z : modint_Mul' a1 x2 a3 x4 = (false, [], 1) := by unfold modint_Mul'; exact (condT k6).trans rfl
    rw [z]
    exact Runs.ret ⟨(⟨none, 0, .is 0⟩ : Sl), rfl, (Nats.nil _), (((((g1.trans g2).trans g3).trans g4).trans g5).updr (Nat.le_trans ((g1.trans g2)).size (Nat.le_refl _)) u7), (Own.nil _)⟩
  · refine Runs.step (AH.has.rd ((((g2.trans g3).trans g4).trans g5).has b1) 1 rfl (asSl_v _)) ?_
    refine Runs.step (AH.has.rd (((g3.trans g4).trans g5).has b2) 1 rfl (asSl_v _)) ?_
    obtain ⟨s7, H7, e7, n7, g7, o7⟩ := nat_Mul_spec (n2.grow ((((g1.trans g2).trans g3).trans g4).trans g5)) (n4.grow ((((g1.trans g2).trans g3).trans g4).trans g5))
    refine Runs.step e7 ?_
    refine Runs.step rfl ?_
    refine Runs.step (seen (asSl_v _)) ?_
    refine Runs.step (seen (avInt_int _ _)) ?_
    refine Runs.step (AH.has.rd (((((g2.trans g3).trans g4).trans g5).trans g7).has b1) 0 rfl rfl) ?_
    refine Runs.step (AH.has.rd ((((g3.trans g4).trans g5).trans g7).has b2) 0 rfl rfl) ?_
    obtain ⟨s8, H8, e8, n8, g8, o8⟩ := modint_From_spec n7 (!(a1 == a3))
    refine Runs.step e8 ?_
    refine Runs.step rfl ?_
    refine Runs.ifT rfl ?_
    refine Runs.step (seenAt rfl rfl) ?_
    refine Runs.step (seenAt rfl (asSl_v _)) ?_
    refine Runs.puts ((((g4.trans g5).trans g7).trans g8).has b3) rfl fun H9 b9 u9 => ?_
    have n7_9 := (n7.grow g8).upda (Av.of_own o7 ((g4.trans g5).has b3).lt) u9
    have n8_9 := n8.upda (Av.of_own o8 (((g4.trans g5).trans g7).has b3).lt) u9
    have b4_9 := AH.has.updr (((g5.trans g7).trans g8).has b4) (Nat.ne_of_gt (Nat.lt_of_lt_of_le (b3).lt (Nat.le_refl _))) u9
    refine Runs.step (AH.has.rd b9 0 rfl rfl) ?_
    refine Runs.step (AH.has.rd b9 1 rfl (asSl_v _)) ?_
    have z : modint_Mul' a1 x2 a3 x4 = ((((fromI (!(a1 == a3)) ((mulN x2 x4).1)).1)), (fromI (!(a1 == a3)) ((mulN x2 x4).1)).2, ((mulN x2 x4).2)) := by unfold modint_Mul'; exact (condF k6).trans rfl
    rw [z]
    exact Runs.ret ⟨s8, rfl, n8_9, (((((((g1.trans g2).trans g3).trans g4).trans g5).trans g7).trans g8).updr (Nat.le_trans ((g1.trans g2)).size (Nat.le_refl _)) u9), (o8.of_le (((((g1.trans g2).trans g3).trans g4).trans g5).trans g7))⟩

def ref03_Mul' (a1 : Bool) (x2 : List Nat) (a3 : Bool) (x4 : List Nat) : Bool × List Nat × Int :=
  cond (!(rtI a1 x2)) ((false, [], 1)) (cond (!(rtI a3 x4)) ((false, [], 1)) (((((fromI (!(a1 == a3)) ((mulN x2 x4).1)).1)), (fromI (!(a1 == a3)) ((mulN x2 x4).1)).2, ((mulN x2 x4).2))))

theorem ref03_Mul_spec {h : AH} {a2 : Sl} {x2 : List Nat} {a4 : Sl} {x4 : List Nat} (n2 : Nats h a2 x2) (n4 : Nats h a4 x4) (a1 : Bool) (a3 : Bool) : Runs (go (.fn F.ref03_Mul [.agg [.bool a1, a2.v], .agg [.bool a3, a4.v]]) h) fun v h' => ∃ s1 : Sl, v = .tup [.agg [.bool (ref03_Mul' a1 x2 a3 x4).1, s1.v], .int .i64 (ref03_Mul' a1 x2 a3 x4).2.2] ∧ Nats h' s1 ((ref03_Mul' a1 x2 a3 x4).2.1) ∧ Grow h h' ∧ Own h s1 := by
  rw [u_ref03_Mul]
  refine Runs.new fun H1 b1 g1 => ?_
  refine Runs.new fun H2 b2 g2 => ?_
  refine Runs.new fun H3 b3 g3 => ?_
  refine Runs.step (AH.has.rd ((g2.trans g3).has b1) 0 rfl rfl) ?_
  refine Runs.step (AH.has.rd ((g2.trans g3).has b1) 1 rfl (asSl_v _)) ?_
  obtain ⟨H4, e4, g4⟩ := ref03_Right_spec (n2.grow ((g1.trans g2).trans g3)) a1
  refine Runs.step e4 ?_
  refine Runs.step (seen rfl) ?_
  refine Runs.step (AH.has.rd ((g3.trans g4).has b2) 0 rfl rfl) ?_
  refine Runs.step (AH.has.rd ((g3.trans g4).has b2) 1 rfl (asSl_v _)) ?_
  obtain ⟨H5, e5, g5⟩ := ref03_Right_spec (n4.grow (((g1.trans g2).trans g3).trans g4)) a3
  refine Runs.step e5 ?_
  refine Runs.step (seen rfl) ?_
  refine Runs.cond (fun k6 => ?_) (fun k6 => ?_)
  · refine Runs.puts ((g4.trans g5).has b3) rfl fun H7 b7 u7 => ?_
    refine Runs.step (AH.has.rd b7 0 rfl rfl) ?_
    refine Runs.step (AH.has.rd b7 1 rfl (asSl_v _)) ?_
    have z : ref03_Mul' a1 x2 a3 x4 = (false, [], 1) := by unfold ref03_Mul'; exact (condT k6).trans rfl
    rw [z]
    exact Runs.ret ⟨(⟨none, 0, .is 0⟩ : Sl), rfl, (Nats.nil _), (((((g1.trans g2).trans g3).trans g4).trans g5).updr (Nat.le_trans ((g1.trans g2)).size (Nat.le_refl _)) u7), (Own.nil _)⟩
  · refine Runs.cond (fun k7 => ?_) (fun k7 => ?_)
    · refine Runs.puts ((g4.trans g5).has b3) rfl fun H8 b8 u8 => ?_
      refine Runs.step (AH.has.rd b8 0 rfl rfl) ?_
      refine Runs.step (AH.has.rd b8 1 rfl (asSl_v _)) ?_
      have z : ref03_Mul' a1 x2 a3 x4 = (false, [], 1) := by unfold ref03_Mul'; exact (condF k6).trans ((condT k7).trans rfl)
      rw [z]
      exact Runs.ret ⟨(⟨none, 0, .is 0⟩ : Sl), rfl, (Nats.nil _), (((((g1.trans g2).trans g3).trans g4).trans g5).updr (Nat.le_trans ((g1.trans g2)).size (Nat.le_refl _)) u8), (Own.nil _)⟩
    · refine Runs.step (AH.has.rd ((((g2.trans g3).trans g4).trans g5).has b1) 1 rfl (asSl_v _)) ?_
      refine Runs.step (AH.has.rd (((g3.trans g4).trans g5).has b2) 1 rfl (asSl_v _)) ?_
      obtain ⟨s8, H8, e8, n8, g8, o8⟩ := ref01_Mul_spec (n2.grow ((((g1.trans g2).trans g3).trans g4).trans g5)) (n4.grow ((((g1.trans g2).trans g3).trans g4).trans g5))
      refine Runs.step e8 ?_
      refine Runs.step rfl ?_
      refine Runs.step (seen (asSl_v _)) ?_
      refine Runs.step (seen (avInt_int _ _)) ?_
      refine Runs.step (AH.has.rd (((((g2.trans g3).trans g4).trans g5).trans g8).has b1) 0 rfl rfl) ?_
      refine Runs.step (AH.has.rd ((((g3.trans g4).trans g5).trans g8).has b2) 0 rfl rfl) ?_
      obtain ⟨s9, H9, e9, n9, g9, o9⟩ := ref03_From_spec n8 (!(a1 == a3))
      refine Runs.step e9 ?_
      refine Runs.step rfl ?_
      refine Runs.ifT rfl ?_
      refine Runs.step (seenAt rfl rfl) ?_
      refine Runs.step (seenAt rfl (asSl_v _)) ?_
      refine Runs.puts ((((g4.trans g5).trans g8).trans g9).has b3) rfl fun H10 b10 u10 => ?_
      have n8_10 := (n8.grow g9).upda (Av.of_own o8 ((g4.trans g5).has b3).lt) u10
      have n9_10 := n9.upda (Av.of_own o9 (((g4.trans g5).trans g8).has b3).lt) u10
      refine Runs.step (AH.has.rd b10 0 rfl rfl) ?_
      refine Runs.step (AH.has.rd b10 1 rfl (asSl_v _)) ?_
      have z : ref03_Mul' a1 x2 a3 x4 = ((((fromI (!(a1 == a3)) ((mulN x2 x4).1)).1)), (fromI (!(a1 == a3)) ((mulN x2 x4).1)).2, ((mulN x2 x4).2)) := by unfold ref03_Mul'; exact (condF k6).trans ((condF k7).trans rfl)
      rw [z]
      exact Runs.ret ⟨s9, rfl, n9_10, (((((((g1.trans g2).trans g3).trans g4).trans g5).trans g8).trans g9).updr (Nat.le_trans ((g1.trans g2)).size (Nat.le_refl _)) u10), (o9.of_le (((((g1.trans g2).trans g3).trans g4).trans g5).trans g8))⟩

theorem ref03_Mul_eq : ref03_Mul' = modint_Mul' := by
  funext p xs q ys
  unfold ref03_Mul' modint_Mul'
  cases hx : rtI p xs with
  | false => rfl
  | true =>
    cases hy : rtI q ys with
    | false => rfl
    | true =>
      simp only [Bool.not_true, cond_false, Bool.and_self]

theorem ref03_Mul_is {h : AH} {a2 : Sl} {x2 : List Nat} {a4 : Sl} {x4 : List Nat} (n2 : Nats h a2 x2) (n4 : Nats h a4 x4) (a1 : Bool) (a3 : Bool) : Runs (go (.fn F.ref03_Mul [.agg [.bool a1, a2.v], .agg [.bool a3, a4.v]]) h) fun v h' => ∃ s1 : Sl, v = .tup [.agg [.bool (modint_Mul' a1 x2 a3 x4).1, s1.v], .int .i64 (modint_Mul' a1 x2 a3 x4).2.2] ∧ Nats h' s1 ((modint_Mul' a1 x2 a3 x4).2.1) ∧ Grow h h' ∧ Own h s1 := by
  rw [← ref03_Mul_eq]
  exact ref03_Mul_spec n2 n4 a1 a3

def law03_ModintProducts' (a1 : Bool) (x2 : List Nat) (a3 : Bool) (x4 : List Nat) : Bool :=
  cond (!((decide (List.length x2 ≤ 70) && decide (List.length x4 ≤ 70)))) (true) (cond (true) (cond (decide (((modint_Mul' a1 x2 a3 x4).2.2) = ((modint_Mul' a1 x2 a3 x4).2.2))) (decide ((List.length ((modint_Mul' false [1] false [1]).2.1) : Int) = 1)) (false)) (false))

theorem law03_ModintProducts_spec {h : AH} {a2 : Sl} {x2 : List Nat} {a4 : Sl} {x4 : List Nat} (n2 : Nats h a2 x2) (n4 : Nats h a4 x4) (a1 : Bool) (a3 : Bool) : Runs (go (.fn F.law03_ModintProducts [.agg [.bool a1, a2.v], .agg [.bool a3, a4.v]]) h) fun v h' => v = .bool (law03_ModintProducts' a1 x2 a3 x4) ∧ Grow h h' := by
  rw [u_law03_ModintProducts]
  refine Runs.new fun H1 b1 g1 => ?_
  refine Runs.new fun H2 b2 g2 => ?_
  refine Runs.step (AH.has.rd (g2.has b1) 1 rfl (asSl_v _)) ?_
  refine Runs.step (AH.has.rd b2 1 rfl (asSl_v _)) ?_
  refine Runs.new fun H3 b3 g3 => ?_
  refine Runs.step (few2_spec b3 (n2.grow ((g1.trans g2).trans g3)) (n4.grow ((g1.trans g2).trans g3))) ?_
  refine Runs.step (seen rfl) ?_
  refine Runs.cond (fun k5 => ?_) (fun k5 => ?_)
  · have z : law03_ModintProducts' a1 x2 a3 x4 = true := by unfold law03_ModintProducts'; exact (condT k5).trans rfl
    rw [z]
    exact Runs.ret ⟨rfl, ((g1.trans g2).trans g3)⟩
  · refine Runs.step (AH.has.rd ((g2.trans g3).has b1) 0 rfl rfl) ?_
    refine Runs.step (AH.has.rd ((g2.trans g3).has b1) 1 rfl (asSl_v _)) ?_
    refine Runs.step (AH.has.rd (g3.has b2) 0 rfl rfl) ?_
    refine Runs.step (AH.has.rd (g3.has b2) 1 rfl (asSl_v _)) ?_
    obtain ⟨_, H6, e6, s6, rfl, n6, g6, o6⟩ := modint_Mul_spec (n2.grow ((g1.trans g2).trans g3)) (n4.grow ((g1.trans g2).trans g3)) a1 a3
    refine Runs.step e6 ?_
    refine Runs.step rfl ?_
    refine Runs.step rfl ?_
    refine Runs.ifT rfl ?_
    refine Runs.step (seenAt rfl rfl) ?_
    refine Runs.step (seenAt rfl (asSl_v _)) ?_
    refine Runs.step (seen (avInt_int _ _)) ?_
    refine Runs.new fun H7 b7 g7 => ?_
    refine Runs.puts b7 rfl fun H8 b8 u8 => ?_
    refine Runs.step (AH.has.rd (((((g2.trans g3).trans g6).trans g7).updr (Nat.le_trans (((g2.trans g3).trans g6)).size (Nat.le_refl _)) u8).has b1) 0 rfl rfl) ?_
    refine Runs.step (AH.has.rd (((((g2.trans g3).trans g6).trans g7).updr (Nat.le_trans (((g2.trans g3).trans g6)).size (Nat.le_refl _)) u8).has b1) 1 rfl (asSl_v _)) ?_
    refine Runs.step (AH.has.rd ((((g3.trans g6).trans g7).updr (Nat.le_trans ((g3.trans g6)).size (Nat.le_refl _)) u8).has b2) 0 rfl rfl) ?_
    refine Runs.step (AH.has.rd ((((g3.trans g6).trans g7).updr (Nat.le_trans ((g3.trans g6)).size (Nat.le_refl _)) u8).has b2) 1 rfl (asSl_v _)) ?_
    obtain ⟨_, H9, e9, s9, rfl, n9, g9, o9⟩ := ref03_Mul_is (n2.grow (((((g1.trans g2).trans g3).trans g6).trans g7).updr (Nat.le_trans ((((g1.trans g2).trans g3).trans g6)).size (Nat.le_refl _)) u8)) (n4.grow (((((g1.trans g2).trans g3).trans g6).trans g7).updr (Nat.le_trans ((((g1.trans g2).trans g3).trans g6)).size (Nat.le_refl _)) u8)) a1 a3
    refine Runs.step e9 ?_
    refine Runs.step rfl ?_
    refine Runs.step rfl ?_
    refine Runs.ifT rfl ?_
    refine Runs.step (seenAt rfl rfl) ?_
    refine Runs.step (seenAt rfl (asSl_v _)) ?_
    refine Runs.step (seen (avInt_int _ _)) ?_
    refine Runs.new fun H10 b10 g10 => ?_
    refine Runs.puts b10 rfl fun H11 b11 u11 => ?_
    refine Runs.step (AH.has.rd (((g9.trans g10).updr (Nat.le_trans (g9).size (Nat.le_refl _)) u11).has b8) 0 rfl rfl) ?_
    refine Runs.step (AH.has.rd (((g9.trans g10).updr (Nat.le_trans (g9).size (Nat.le_refl _)) u11).has b8) 1 rfl (asSl_v _)) ?_
    refine Runs.step (AH.has.rd b11 0 rfl rfl) ?_
    refine Runs.step (AH.has.rd b11 1 rfl (asSl_v _)) ?_
    obtain ⟨H12, e12, g12⟩ := ref03_Same_spec (n6.grow ((((g7.updr (Nat.le_refl _) u8).trans g9).trans g10).updr (Nat.le_trans (((g7.updr (Nat.le_refl _) u8).trans g9)).size (Nat.le_refl _)) u11)) (n9.grow (g10.updr (Nat.le_refl _) u11)) (((modint_Mul' a1 x2 a3 x4).1))
    refine Runs.step e12 ?_
    refine Runs.step (seen rfl) ?_
    refine Runs.new fun H13 b13 g13 => ?_
    refine Runs.new fun H14 b14 g14 => ?_
    obtain ⟨_, H15, e15, s15, rfl, n15, g15, o15⟩ := modint_Mul_spec (Nats.of_has (xs := [1]) (g14.has b13) (by decide) (by decide)) (Nats.of_has (xs := [1]) b14 (by decide) (by decide)) false false
    refine Runs.step e15 ?_
    refine Runs.step rfl ?_
    refine Runs.step rfl ?_
    refine Runs.ifT rfl ?_
    refine Runs.step (seenAt rfl rfl) ?_
    refine Runs.step (seenAt rfl (asSl_v _)) ?_
    refine Runs.step (seen (avInt_int _ _)) ?_
    refine Runs.new fun H16 b16 g16 => ?_
    refine Runs.puts b16 rfl fun H17 b17 u17 => ?_
    refine Runs.cond (fun k18 => ?_) (fun k18 => ?_)
    · refine Runs.cond (fun k19 => ?_) (fun k19 => ?_)
      · refine Runs.step (AH.has.rd b17 1 rfl (asSl_v _)) ?_
        rw [(n15.grow (g16.updr (Nat.le_refl _) u17)).len]
        have z : law03_ModintProducts' a1 x2 a3 x4 = decide ((List.length ((modint_Mul' false [1] false [1]).2.1) : Int) = 1) := by unfold law03_ModintProducts'; exact (condF k5).trans ((condT k18).trans ((condT k19).trans rfl))
        rw [z]
        exact Runs.ret ⟨rfl, ((((((((((((((g1.trans g2).trans g3).trans g6).trans g7).updr (Nat.le_trans ((((g1.trans g2).trans g3).trans g6)).size (Nat.le_refl _)) u8).trans g9).trans g10).updr (Nat.le_trans (((((((g1.trans g2).trans g3).trans g6).trans g7).updr (Nat.le_trans ((((g1.trans g2).trans g3).trans g6)).size (Nat.le_refl _)) u8).trans g9)).size (Nat.le_refl _)) u11).trans g12).trans g13).trans g14).trans g15).trans g16).updr (Nat.le_trans (((((((((((((g1.trans g2).trans g3).trans g6).trans g7).updr (Nat.le_trans ((((g1.trans g2).trans g3).trans g6)).size (Nat.le_refl _)) u8).trans g9).trans g10).updr (Nat.le_trans (((((((g1.trans g2).trans g3).trans g6).trans g7).updr (Nat.le_trans ((((g1.trans g2).trans g3).trans g6)).size (Nat.le_refl _)) u8).trans g9)).size (Nat.le_refl _)) u11).trans g12).trans g13).trans g14).trans g15)).size (Nat.le_refl _)) u17)⟩
      · have z : law03_ModintProducts' a1 x2 a3 x4 = false := by unfold law03_ModintProducts'; exact (condF k5).trans ((condT k18).trans ((condF k19).trans rfl))
        rw [z]
        exact Runs.ret ⟨rfl, ((((((((((((((g1.trans g2).trans g3).trans g6).trans g7).updr (Nat.le_trans ((((g1.trans g2).trans g3).trans g6)).size (Nat.le_refl _)) u8).trans g9).trans g10).updr (Nat.le_trans (((((((g1.trans g2).trans g3).trans g6).trans g7).updr (Nat.le_trans ((((g1.trans g2).trans g3).trans g6)).size (Nat.le_refl _)) u8).trans g9)).size (Nat.le_refl _)) u11).trans g12).trans g13).trans g14).trans g15).trans g16).updr (Nat.le_trans (((((((((((((g1.trans g2).trans g3).trans g6).trans g7).updr (Nat.le_trans ((((g1.trans g2).trans g3).trans g6)).size (Nat.le_refl _)) u8).trans g9).trans g10).updr (Nat.le_trans (((((((g1.trans g2).trans g3).trans g6).trans g7).updr (Nat.le_trans ((((g1.trans g2).trans g3).trans g6)).size (Nat.le_refl _)) u8).trans g9)).size (Nat.le_refl _)) u11).trans g12).trans g13).trans g14).trans g15)).size (Nat.le_refl _)) u17)⟩
    · have z : law03_ModintProducts' a1 x2 a3 x4 = false := by unfold law03_ModintProducts'; exact (condF k5).trans ((condF k18).trans rfl)
      rw [z]
      exact Runs.ret ⟨rfl, ((((((((((((((g1.trans g2).trans g3).trans g6).trans g7).updr (Nat.le_trans ((((g1.trans g2).trans g3).trans g6)).size (Nat.le_refl _)) u8).trans g9).trans g10).updr (Nat.le_trans (((((((g1.trans g2).trans g3).trans g6).trans g7).updr (Nat.le_trans ((((g1.trans g2).trans g3).trans g6)).size (Nat.le_refl _)) u8).trans g9)).size (Nat.le_refl _)) u11).trans g12).trans g13).trans g14).trans g15).trans g16).updr (Nat.le_trans (((((((((((((g1.trans g2).trans g3).trans g6).trans g7).updr (Nat.le_trans ((((g1.trans g2).trans g3).trans g6)).size (Nat.le_refl _)) u8).trans g9).trans g10).updr (Nat.le_trans (((((((g1.trans g2).trans g3).trans g6).trans g7).updr (Nat.le_trans ((((g1.trans g2).trans g3).trans g6)).size (Nat.le_refl _)) u8).trans g9)).size (Nat.le_refl _)) u11).trans g12).trans g13).trans g14).trans g15)).size (Nat.le_refl _)) u17)⟩

end Go.Ab
