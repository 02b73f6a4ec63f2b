/- Layer 17: Score: printed by wip/tools/walk.py. -/
import Derived.Test.YtkkbcdndkbicbaaPR3

set_option linter.unusedVariables false
set_option linter.unusedSimpArgs false
set_option maxRecDepth 10000
namespace Go.Ab
open Go.Proofs Go.Num

def gain_may' (a1 : Int) (a2 : Int) : Bool :=
  cond (decide (a1 ≥ (-1099511627776))) (cond (decide (a1 ≤ 1099511627776)) (cond (decide (a2 ≥ 0)) (decide (a2 ≤ 1048576)) (false)) (false)) (false)

theorem gain_may_spec {h : AH}   (a1 : Int) (a2 : Int) : Runs (go (.fn F.gain_may [.agg [.int .i64 a1, .int .i64 a2]]) h) fun v h' => v = .bool (gain_may' a1 a2) ∧ Grow h h' := by
  rw [u_gain_may]
  refine Runs.new fun H3 b3 g3 => ?_
  refine Runs.step (AH.has.rd b3 0 rfl (avInt_int _ _)) ?_
  refine Runs.cond (fun k4 => ?_) (fun k4 => ?_)
  · refine Runs.step (AH.has.rd b3 0 rfl (avInt_int _ _)) ?_
    refine Runs.cond (fun k5 => ?_) (fun k5 => ?_)
    · refine Runs.step (AH.has.rd b3 1 rfl (avInt_int _ _)) ?_
      refine Runs.cond (fun k6 => ?_) (fun k6 => ?_)
      · refine Runs.step (AH.has.rd b3 1 rfl (avInt_int _ _)) ?_
        have z : gain_may' a1 a2 = decide (a2 ≤ 1048576) := by unfold gain_may'; exact (condT k4).trans ((condT k5).trans ((condT k6).trans rfl))
        rw [z]
        exact Runs.ret ⟨rfl, g3⟩
      · have z : gain_may' a1 a2 = false := by unfold gain_may'; exact (condT k4).trans ((condT k5).trans ((condF k6).trans rfl))
        rw [z]
        exact Runs.ret ⟨rfl, g3⟩
    · have z : gain_may' a1 a2 = false := by unfold gain_may'; exact (condT k4).trans ((condF k5).trans rfl)
      rw [z]
      exact Runs.ret ⟨rfl, g3⟩
  · have z : gain_may' a1 a2 = false := by unfold gain_may'; exact (condF k4).trans rfl
    rw [z]
    exact Runs.ret ⟨rfl, g3⟩

def ref16_RightSum' (a1 : Int) (a2 : Int) : Bool :=
  cond (decide (a1 ≥ (-1099511627776))) (cond (decide (a1 ≤ 1099511627776)) (cond (decide (a2 ≥ 0)) (decide (a2 ≤ 1048576)) (false)) (false)) (false)

theorem ref16_RightSum_spec {h : AH}   (a1 : Int) (a2 : Int) : Runs (go (.fn F.ref16_RightSum [.agg [.int .i64 a1, .int .i64 a2]]) h) fun v h' => v = .bool (ref16_RightSum' a1 a2) ∧ Grow h h' := by
  rw [u_ref16_RightSum]
  refine Runs.new fun H3 b3 g3 => ?_
  refine Runs.step (AH.has.rd b3 0 rfl (avInt_int _ _)) ?_
  refine Runs.cond (fun k4 => ?_) (fun k4 => ?_)
  · refine Runs.step (AH.has.rd b3 0 rfl (avInt_int _ _)) ?_
    refine Runs.cond (fun k5 => ?_) (fun k5 => ?_)
    · refine Runs.step (AH.has.rd b3 1 rfl (avInt_int _ _)) ?_
      refine Runs.cond (fun k6 => ?_) (fun k6 => ?_)
      · refine Runs.step (AH.has.rd b3 1 rfl (avInt_int _ _)) ?_
        have z : ref16_RightSum' a1 a2 = decide (a2 ≤ 1048576) := by unfold ref16_RightSum'; exact (condT k4).trans ((condT k5).trans ((condT k6).trans rfl))
        rw [z]
        exact Runs.ret ⟨rfl, g3⟩
      · have z : ref16_RightSum' a1 a2 = false := by unfold ref16_RightSum'; exact (condT k4).trans ((condT k5).trans ((condF k6).trans rfl))
        rw [z]
        exact Runs.ret ⟨rfl, g3⟩
    · have z : ref16_RightSum' a1 a2 = false := by unfold ref16_RightSum'; exact (condT k4).trans ((condF k5).trans rfl)
      rw [z]
      exact Runs.ret ⟨rfl, g3⟩
  · have z : ref16_RightSum' a1 a2 = false := by unfold ref16_RightSum'; exact (condF k4).trans rfl
    rw [z]
    exact Runs.ret ⟨rfl, g3⟩

def gain_mayLambda' (a1 : Int) : Bool :=
  cond (decide (a1 ≥ 1)) (decide (a1 ≤ 1048576)) (false)

theorem gain_mayLambda_spec {h : AH}   (a1 : Int) : Runs (go (.fn F.gain_mayLambda [.int .i64 a1]) h) fun v h' => v = .bool (gain_mayLambda' a1) ∧ Grow h h' := by
  rw [u_gain_mayLambda]
  refine Runs.cond (fun k2 => ?_) (fun k2 => ?_)
  · have z : gain_mayLambda' a1 = decide (a1 ≤ 1048576) := by unfold gain_mayLambda'; exact (condT k2).trans rfl
    rw [z]
    exact Runs.ret ⟨rfl, (Grow.refl _)⟩
  · have z : gain_mayLambda' a1 = false := by unfold gain_mayLambda'; exact (condF k2).trans rfl
    rw [z]
    exact Runs.ret ⟨rfl, (Grow.refl _)⟩

def gain_right' (a1 : Int) (a2 : Int) (a3 : Int) (a4 : Int) : Int × Int × Bool :=
  cond (!((gain_may' a1 a2))) ((0, 0, false)) (cond (!((gain_may' a3 a4))) ((0, 0, false)) ((((IntKind.wrap .i64 (a3 - a1))), ((IntKind.wrap .i64 (a4 - a2))), ((gain_may' (IntKind.wrap .i64 (a3 - a1)) (IntKind.wrap .i64 (a4 - a2)))))))

theorem gain_right_spec {h : AH}   (a1 : Int) (a2 : Int) (a3 : Int) (a4 : Int) : Runs (go (.fn F.gain_right [.agg [.int .i64 a1, .int .i64 a2], .agg [.int .i64 a3, .int .i64 a4]]) h) fun v h' => v = .tup [.agg [.int .i64 (gain_right' a1 a2 a3 a4).1, .int .i64 (gain_right' a1 a2 a3 a4).2.1], .bool (gain_right' a1 a2 a3 a4).2.2] ∧ Grow h h' := by
  rw [u_gain_right]
  refine Runs.new fun H5 b5 g5 => ?_
  refine Runs.new fun H6 b6 g6 => ?_
  refine Runs.new fun H7 b7 g7 => ?_
  refine Runs.step (AH.has.rd ((g6.trans g7).has b5) 0 rfl (avInt_int _ _)) ?_
  refine Runs.step (AH.has.rd ((g6.trans g7).has b5) 1 rfl (avInt_int _ _)) ?_
  obtain ⟨_, H8, e8, rfl, g8⟩ := gain_may_spec a1 a2
  refine Runs.step e8 ?_
  refine Runs.step (seen rfl) ?_
  refine Runs.cond (fun k9 => ?_) (fun k9 => ?_)
  · refine Runs.puts (g8.has b7) rfl fun H10 b10 u10 => ?_
    refine Runs.step (AH.has.rd b10 0 rfl (avInt_int _ _)) ?_
    refine Runs.step (AH.has.rd b10 1 rfl (avInt_int _ _)) ?_
    have z : gain_right' a1 a2 a3 a4 = (0, 0, false) := by unfold gain_right'; exact (condT k9).trans rfl
    rw [z]
    have G11 := ((((g5.trans g6).trans g7).trans g8).updr (Nat.le_trans ((g5.trans g6)).size (Nat.le_refl _)) u10)
    exact Runs.ret ⟨rfl, G11⟩
  · refine Runs.step (AH.has.rd ((g7.trans g8).has b6) 0 rfl (avInt_int _ _)) ?_
    refine Runs.step (AH.has.rd ((g7.trans g8).has b6) 1 rfl (avInt_int _ _)) ?_
    obtain ⟨_, H10, e10, rfl, g10⟩ := gain_may_spec a3 a4
    refine Runs.step e10 ?_
    refine Runs.step (seen rfl) ?_
    refine Runs.cond (fun k11 => ?_) (fun k11 => ?_)
    · refine Runs.puts ((g8.trans g10).has b7) rfl fun H12 b12 u12 => ?_
      refine Runs.step (AH.has.rd b12 0 rfl (avInt_int _ _)) ?_
      refine Runs.step (AH.has.rd b12 1 rfl (avInt_int _ _)) ?_
      have z : gain_right' a1 a2 a3 a4 = (0, 0, false) := by unfold gain_right'; exact (condF k9).trans ((condT k11).trans rfl)
      rw [z]
      have G13 := (((((g5.trans g6).trans g7).trans g8).trans g10).updr (Nat.le_trans ((g5.trans g6)).size (Nat.le_refl _)) u12)
      exact Runs.ret ⟨rfl, G13⟩
    · have G12 := ((g7.trans g8).trans g10)
      have b6_13 := G12.has b6
      refine Runs.step (AH.has.rd b6_13 0 rfl (avInt_int _ _)) ?_
      have G14 := (((g6.trans g7).trans g8).trans g10)
      have b5_15 := G14.has b5
      refine Runs.step (AH.has.rd b5_15 0 rfl (avInt_int _ _)) ?_
      refine Runs.step (AH.has.rd b6_13 1 rfl (avInt_int _ _)) ?_
      refine Runs.step (AH.has.rd b5_15 1 rfl (avInt_int _ _)) ?_
      refine Runs.new fun H16 b16 g16 => ?_
      refine Runs.puts b16 rfl fun H17 b17 u17 => ?_
      refine Runs.step (AH.has.rd b17 0 rfl (avInt_int _ _)) ?_
      refine Runs.step (AH.has.rd b17 1 rfl (avInt_int _ _)) ?_
      refine Runs.step (AH.has.rd b17 0 rfl (avInt_int _ _)) ?_
      refine Runs.step (AH.has.rd b17 1 rfl (avInt_int _ _)) ?_
      obtain ⟨_, H18, e18, rfl, g18⟩ := gain_may_spec (IntKind.wrap .i64 (a3 - a1)) (IntKind.wrap .i64 (a4 - a2))
      refine Runs.step e18 ?_
      refine Runs.step (seen rfl) ?_
      refine Runs.when (g18.same b17 0 2) ?_
      have G20 := ((((g8.trans g10).trans g16).updr (Nat.le_trans ((g8.trans g10)).size (Nat.le_refl _)) u17).trans g18)
      have b7_21 := G20.has b7
      refine Runs.puts b7_21 rfl fun H19 b19 u19 => ?_
      have G22 := ((g16.updr (Nat.le_refl _) u17).trans g18)
      have b5_23 := G22.has b5_15
      have b5_19 := AH.has.updr b5_23 (Nat.ne_of_lt (Nat.lt_of_lt_of_le (g6.has b5).lt (Nat.le_refl _))) u19
      have b6_24 := G22.has b6_13
      have b6_19 := AH.has.updr b6_24 (Nat.ne_of_lt (Nat.lt_of_lt_of_le (b6).lt (Nat.le_refl _))) u19
      have b17_19 := AH.has.updr (g18.has b17) (Nat.ne_of_gt (Nat.lt_of_lt_of_le ((g8.trans g10).has b7).lt (Nat.le_refl _))) u19
      refine Runs.step (AH.has.rd b19 0 rfl (avInt_int _ _)) ?_
      refine Runs.step (AH.has.rd b19 1 rfl (avInt_int _ _)) ?_
      have z : gain_right' a1 a2 a3 a4 = (((IntKind.wrap .i64 (a3 - a1))), ((IntKind.wrap .i64 (a4 - a2))), ((gain_may' (IntKind.wrap .i64 (a3 - a1)) (IntKind.wrap .i64 (a4 - a2))))) := by unfold gain_right'; exact (condF k9).trans ((condF k11).trans rfl)
      rw [z]
      have G25 := ((((g5.trans g6).trans g7).trans g8).trans g10)
      have G26 := ((((((((g5.trans g6).trans g7).trans g8).trans g10).trans g16).updr (Nat.le_trans (G25).size (Nat.le_refl _)) u17).trans g18).updr (Nat.le_trans ((g5.trans g6)).size (Nat.le_refl _)) u19)
      exact Runs.ret ⟨rfl, G26⟩

theorem ref16_RightSum_eq : ref16_RightSum' = gain_may' := rfl

theorem ref16_RightSum_is {h : AH}   (a1 : Int) (a2 : Int) : Runs (go (.fn F.ref16_RightSum [.agg [.int .i64 a1, .int .i64 a2]]) h) fun v h' => v = .bool (gain_may' a1 a2) ∧ Grow h h' := by
  rw [← ref16_RightSum_eq]
  exact ref16_RightSum_spec a1 a2

def ref17_Right' (a1 : Int) (a2 : Int) (a3 : Int) (a4 : Int) : Int × Int × Bool :=
  cond (!((gain_may' a1 a2))) ((0, 0, false)) (cond (!((gain_may' a3 a4))) ((0, 0, false)) ((((IntKind.wrap .i64 (a3 - a1))), ((IntKind.wrap .i64 (a4 - a2))), ((gain_may' (IntKind.wrap .i64 (a3 - a1)) (IntKind.wrap .i64 (a4 - a2)))))))

theorem ref17_Right_spec {h : AH}   (a1 : Int) (a2 : Int) (a3 : Int) (a4 : Int) : Runs (go (.fn F.ref17_Right [.agg [.int .i64 a1, .int .i64 a2], .agg [.int .i64 a3, .int .i64 a4]]) h) fun v h' => v = .tup [.agg [.int .i64 (ref17_Right' a1 a2 a3 a4).1, .int .i64 (ref17_Right' a1 a2 a3 a4).2.1], .bool (ref17_Right' a1 a2 a3 a4).2.2] ∧ Grow h h' := by
  rw [u_ref17_Right]
  refine Runs.new fun H5 b5 g5 => ?_
  refine Runs.new fun H6 b6 g6 => ?_
  refine Runs.new fun H7 b7 g7 => ?_
  refine Runs.step (AH.has.rd ((g6.trans g7).has b5) 0 rfl (avInt_int _ _)) ?_
  refine Runs.step (AH.has.rd ((g6.trans g7).has b5) 1 rfl (avInt_int _ _)) ?_
  obtain ⟨_, H8, e8, rfl, g8⟩ := ref16_RightSum_is a1 a2
  refine Runs.step e8 ?_
  refine Runs.step (seen rfl) ?_
  refine Runs.step (AH.has.rd ((g7.trans g8).has b6) 0 rfl (avInt_int _ _)) ?_
  refine Runs.step (AH.has.rd ((g7.trans g8).has b6) 1 rfl (avInt_int _ _)) ?_
  obtain ⟨_, H9, e9, rfl, g9⟩ := ref16_RightSum_is a3 a4
  refine Runs.step e9 ?_
  refine Runs.step (seen rfl) ?_
  refine Runs.cond (fun k10 => ?_) (fun k10 => ?_)
  · refine Runs.puts ((g8.trans g9).has b7) rfl fun H11 b11 u11 => ?_
    refine Runs.step (AH.has.rd b11 0 rfl (avInt_int _ _)) ?_
    refine Runs.step (AH.has.rd b11 1 rfl (avInt_int _ _)) ?_
    have z : ref17_Right' a1 a2 a3 a4 = (0, 0, false) := by unfold ref17_Right'; exact (condT k10).trans rfl
    rw [z]
    have G12 := (((((g5.trans g6).trans g7).trans g8).trans g9).updr (Nat.le_trans ((g5.trans g6)).size (Nat.le_refl _)) u11)
    exact Runs.ret ⟨rfl, G12⟩
  · refine Runs.cond (fun k11 => ?_) (fun k11 => ?_)
    · refine Runs.puts ((g8.trans g9).has b7) rfl fun H12 b12 u12 => ?_
      refine Runs.step (AH.has.rd b12 0 rfl (avInt_int _ _)) ?_
      refine Runs.step (AH.has.rd b12 1 rfl (avInt_int _ _)) ?_
      have z : ref17_Right' a1 a2 a3 a4 = (0, 0, false) := by unfold ref17_Right'; exact (condF k10).trans ((condT k11).trans rfl)
      rw [z]
      have G13 := (((((g5.trans g6).trans g7).trans g8).trans g9).updr (Nat.le_trans ((g5.trans g6)).size (Nat.le_refl _)) u12)
      exact Runs.ret ⟨rfl, G13⟩
    · have G12 := ((g7.trans g8).trans g9)
      have b6_13 := G12.has b6
      refine Runs.step (AH.has.rd b6_13 0 rfl (avInt_int _ _)) ?_
      have G14 := (((g6.trans g7).trans g8).trans g9)
      have b5_15 := G14.has b5
      refine Runs.step (AH.has.rd b5_15 0 rfl (avInt_int _ _)) ?_
      refine Runs.step (AH.has.rd b6_13 1 rfl (avInt_int _ _)) ?_
      refine Runs.step (AH.has.rd b5_15 1 rfl (avInt_int _ _)) ?_
      refine Runs.new fun H16 b16 g16 => ?_
      refine Runs.puts b16 rfl fun H17 b17 u17 => ?_
      refine Runs.step (AH.has.rd b17 0 rfl (avInt_int _ _)) ?_
      refine Runs.step (AH.has.rd b17 1 rfl (avInt_int _ _)) ?_
      refine Runs.step (AH.has.rd b17 0 rfl (avInt_int _ _)) ?_
      refine Runs.step (AH.has.rd b17 1 rfl (avInt_int _ _)) ?_
      obtain ⟨_, H18, e18, rfl, g18⟩ := ref16_RightSum_is (IntKind.wrap .i64 (a3 - a1)) (IntKind.wrap .i64 (a4 - a2))
      refine Runs.step e18 ?_
      refine Runs.step (seen rfl) ?_
      refine Runs.when (g18.same b17 0 2) ?_
      have G20 := ((((g8.trans g9).trans g16).updr (Nat.le_trans ((g8.trans g9)).size (Nat.le_refl _)) u17).trans g18)
      have b7_21 := G20.has b7
      refine Runs.puts b7_21 rfl fun H19 b19 u19 => ?_
      have G22 := ((g16.updr (Nat.le_refl _) u17).trans g18)
      have b5_23 := G22.has b5_15
      have b5_19 := AH.has.updr b5_23 (Nat.ne_of_lt (Nat.lt_of_lt_of_le (g6.has b5).lt (Nat.le_refl _))) u19
      have b6_24 := G22.has b6_13
      have b6_19 := AH.has.updr b6_24 (Nat.ne_of_lt (Nat.lt_of_lt_of_le (b6).lt (Nat.le_refl _))) u19
      have b17_19 := AH.has.updr (g18.has b17) (Nat.ne_of_gt (Nat.lt_of_lt_of_le ((g8.trans g9).has b7).lt (Nat.le_refl _))) u19
      refine Runs.step (AH.has.rd b19 0 rfl (avInt_int _ _)) ?_
      refine Runs.step (AH.has.rd b19 1 rfl (avInt_int _ _)) ?_
      have z : ref17_Right' a1 a2 a3 a4 = (((IntKind.wrap .i64 (a3 - a1))), ((IntKind.wrap .i64 (a4 - a2))), ((gain_may' (IntKind.wrap .i64 (a3 - a1)) (IntKind.wrap .i64 (a4 - a2))))) := by unfold ref17_Right'; exact (condF k10).trans ((condF k11).trans rfl)
      rw [z]
      have G25 := ((((g5.trans g6).trans g7).trans g8).trans g9)
      have G26 := ((((((((g5.trans g6).trans g7).trans g8).trans g9).trans g16).updr (Nat.le_trans (G25).size (Nat.le_refl _)) u17).trans g18).updr (Nat.le_trans ((g5.trans g6)).size (Nat.le_refl _)) u19)
      exact Runs.ret ⟨rfl, G26⟩

theorem ref17_Right_eq : ref17_Right' = gain_right' := rfl

theorem ref17_Right_is {h : AH}   (a1 : Int) (a2 : Int) (a3 : Int) (a4 : Int) : Runs (go (.fn F.ref17_Right [.agg [.int .i64 a1, .int .i64 a2], .agg [.int .i64 a3, .int .i64 a4]]) h) fun v h' => v = .tup [.agg [.int .i64 (gain_right' a1 a2 a3 a4).1, .int .i64 (gain_right' a1 a2 a3 a4).2.1], .bool (gain_right' a1 a2 a3 a4).2.2] ∧ Grow h h' := by
  rw [← ref17_Right_eq]
  exact ref17_Right_spec a1 a2 a3 a4

inductive gain_Score_St
  | fn (a1 : Int) (a2 : Int) (a3 : Int)
  | no

abbrev gain_Score_Res := Bool × List Nat × List Nat × Int

noncomputable def gain_Score_fn' (a1 : Int) (a2 : Int) (a3 : Int) : Option (gain_Score_St ⊕ gain_Score_Res) :=
  cond (!((gain_may' a2 a3))) (some (.inr (false, [], [], 1))) (cond (!((gain_mayLambda' a1))) (some (.inr (false, [], [], 1))) ((need (-9223372036854775808 ≤ (a2 : Int) ∧ (a2 : Int) ≤ 9223372036854775807)).bind fun c12_0 => (u64P (IntKind.wrap .u64 (IntKind.wrap .i64 (a3 + a1)))).bind fun p21 => some (.inr ((((rational_Make' (((modint_Mul' (((ofI a2).1)) ((ofI a2).2) (((ofI a2).1)) ((ofI a2).2)).1)) ((modint_Mul' (((ofI a2).1)) ((ofI a2).2) (((ofI a2).1)) ((ofI a2).2)).2.1) (digs B p21)).1)), (rational_Make' (((modint_Mul' (((ofI a2).1)) ((ofI a2).2) (((ofI a2).1)) ((ofI a2).2)).1)) ((modint_Mul' (((ofI a2).1)) ((ofI a2).2) (((ofI a2).1)) ((ofI a2).2)).2.1) (digs B p21)).2.1, (rational_Make' (((modint_Mul' (((ofI a2).1)) ((ofI a2).2) (((ofI a2).1)) ((ofI a2).2)).1)) ((modint_Mul' (((ofI a2).1)) ((ofI a2).2) (((ofI a2).1)) ((ofI a2).2)).2.1) (digs B p21)).2.2.1, ((rational_Make' (((modint_Mul' (((ofI a2).1)) ((ofI a2).2) (((ofI a2).1)) ((ofI a2).2)).1)) ((modint_Mul' (((ofI a2).1)) ((ofI a2).2) (((ofI a2).1)) ((ofI a2).2)).2.1) (digs B p21)).2.2.2)))))

noncomputable def gain_Score_step : gain_Score_St → Option (gain_Score_St ⊕ gain_Score_Res)
  | .fn a1 a2 a3 => gain_Score_fn' a1 a2 a3
  | .no => none

@[reducible] def gain_Score_post (h0 : AH) (r : gain_Score_Res) (v : AV) (h' : AH) : Prop := ∃ s1 : Sl, ∃ s2 : Sl, v = .tup [.agg [.bool r.1, s1.v, s2.v], .int .i64 r.2.2.2] ∧ Nats h' s1 r.2.1 ∧ Nats h' s2 r.2.2.1 ∧ Grow h0 h' ∧ Own h0 s1 ∧ Own h0 s2

def gain_Score_At (r : gain_Score_Res) : gain_Score_St → Prop
  | .fn a1 a2 a3 => ∀ {h : AH}, Runs (go (.fn F.gain_Score [.int .i64 a1, .agg [.int .i64 a2, .int .i64 a3]]) h) (gain_Score_post h r)
  | .no => True

theorem gain_Score_fn_walk {r : gain_Score_Res} {o : gain_Score_St ⊕ gain_Score_Res} {a1 : Int} {a2 : Int} {a3 : Int} (e : gain_Score_fn' a1 a2 a3 = some o) (good : GoodS (gain_Score_At r) r o) : gain_Score_At r (.fn a1 a2 a3) := by
  intro h
  rw [u_gain_Score]
  unfold gain_Score_fn' at e
  refine Runs.new fun H4 b4 g4 => ?_
  refine Runs.new fun H5 b5 g5 => ?_
  refine Runs.step (AH.has.rd (g5.has b4) 0 rfl (avInt_int _ _)) ?_
  refine Runs.step (AH.has.rd (g5.has b4) 1 rfl (avInt_int _ _)) ?_
  obtain ⟨_, H6, e6, rfl, g6⟩ := gain_may_spec a2 a3
  refine Runs.step e6 ?_
  refine Runs.step (seen rfl) ?_
  refine Runs.cond (fun k7 => ?_) (fun k7 => ?_)
  · replace e := (condT k7).symm.trans e
    refine Runs.puts (g6.has b5) rfl fun H8 b8 u8 => ?_
    refine Runs.step (AH.has.rd b8 0 rfl rfl) ?_
    refine Runs.step (AH.has.rd b8 1 rfl (asSl_v _)) ?_
    refine Runs.step (AH.has.rd b8 2 rfl (asSl_v _)) ?_
    cases e
    cases good
    have G9 := (((g4.trans g5).trans g6).updr (Nat.le_trans (g4).size (Nat.le_refl _)) u8)
    exact Runs.ret ⟨(⟨none, 0, .is 0⟩ : Sl), (⟨none, 0, .is 0⟩ : Sl), rfl, (Nats.nil _), (Nats.nil _), G9, (Own.nil _), (Own.nil _)⟩
  · replace e := (condF k7).symm.trans e
    obtain ⟨_, H8, e8, rfl, g8⟩ := gain_mayLambda_spec a1
    refine Runs.step e8 ?_
    refine Runs.step (seen rfl) ?_
    refine Runs.cond (fun k9 => ?_) (fun k9 => ?_)
    · replace e := (condT k9).symm.trans e
      refine Runs.puts ((g6.trans g8).has b5) rfl fun H10 b10 u10 => ?_
      refine Runs.step (AH.has.rd b10 0 rfl rfl) ?_
      refine Runs.step (AH.has.rd b10 1 rfl (asSl_v _)) ?_
      refine Runs.step (AH.has.rd b10 2 rfl (asSl_v _)) ?_
      cases e
      cases good
      have G11 := ((((g4.trans g5).trans g6).trans g8).updr (Nat.le_trans (g4).size (Nat.le_refl _)) u10)
      exact Runs.ret ⟨(⟨none, 0, .is 0⟩ : Sl), (⟨none, 0, .is 0⟩ : Sl), rfl, (Nats.nil _), (Nats.nil _), G11, (Own.nil _), (Own.nil _)⟩
    · replace e := (condF k9).symm.trans e
      have G10 := ((g5.trans g6).trans g8)
      have b4_11 := G10.has b4
      refine Runs.step (AH.has.rd b4_11 0 rfl (avInt_int _ _)) ?_
      obtain ⟨c12_0, q12_0, e⟩ := Option.bind_eq_some_iff.1 e
      obtain ⟨s12, H12, e12, n12, g12, o12⟩ := modint_Of_need a2  c12_0.down
      refine Runs.step e12 ?_
      refine Runs.step rfl ?_
      refine Runs.ifT rfl ?_
      refine Runs.step (seenAt rfl rfl) ?_
      refine Runs.step (seenAt rfl (asSl_v _)) ?_
      refine Runs.new fun H13 b13 g13 => ?_
      refine Runs.puts b13 rfl fun H14 b14 u14 => ?_
      refine Runs.step (AH.has.rd b14 0 rfl rfl) ?_
      refine Runs.step (AH.has.rd b14 1 rfl (asSl_v _)) ?_
      refine Runs.step (AH.has.rd b14 0 rfl rfl) ?_
      refine Runs.step (AH.has.rd b14 1 rfl (asSl_v _)) ?_
      obtain ⟨_, H15, e15, s15, rfl, n15, g15, o15⟩ := modint_Mul_spec (n12.grow (g13.updr (Nat.le_refl _) u14)) (n12.grow (g13.updr (Nat.le_refl _) u14)) (((ofI a2).1)) (((ofI a2).1))
      refine Runs.step e15 ?_
      refine Runs.step rfl ?_
      refine Runs.step rfl ?_
      refine Runs.ifT rfl ?_
      refine Runs.step (seenAt rfl rfl) ?_
      refine Runs.step (seenAt rfl (asSl_v _)) ?_
      refine Runs.step (seen (avInt_int _ _)) ?_
      refine Runs.new fun H16 b16 g16 => ?_
      refine Runs.puts b16 rfl fun H17 b17 u17 => ?_
      refine Runs.step (AH.has.rd b17 0 rfl rfl) ?_
      refine Runs.step (AH.has.rd b17 1 rfl (asSl_v _)) ?_
      have G18 := (((g12.trans g13).updr (Nat.le_trans (g12).size (Nat.le_refl _)) u14).trans g15)
      have G19 := (((((g12.trans g13).updr (Nat.le_trans (g12).size (Nat.le_refl _)) u14).trans g15).trans g16).updr (Nat.le_trans (G18).size (Nat.le_refl _)) u17)
      have b4_20 := G19.has b4_11
      refine Runs.step (AH.has.rd b4_20 1 rfl (avInt_int _ _)) ?_
      obtain ⟨p21, q21, e⟩ := Option.bind_eq_some_iff.1 e
      obtain ⟨s21, H21, e21, n21, g21, o21⟩ := nat_Of_opt q21
      refine Runs.step e21 ?_
      refine Runs.step (seen (asSl_v _)) ?_
      refine Runs.when (g21.same b17 0 2) ?_
      have G22 := ((g16.updr (Nat.le_refl _) u17).trans g21)
      have n15_23 := n15.grow G22
      obtain ⟨_, H24, e24, s24, s24b, rfl, n24, n24b, g24, o24, o24b⟩ := rational_Make_spec n15_23 n21 (((modint_Mul' (((ofI a2).1)) ((ofI a2).2) (((ofI a2).1)) ((ofI a2).2)).1))
      refine Runs.step e24 ?_
      refine Runs.step rfl ?_
      refine Runs.step rfl ?_
      refine Runs.ifT rfl ?_
      refine Runs.step (seenAt rfl rfl) ?_
      refine Runs.step (seenAt rfl (asSl_v _)) ?_
      refine Runs.step (seenAt rfl (asSl_v _)) ?_
      refine Runs.step (seen (avInt_int _ _)) ?_
      have G26 := ((g6.trans g8).trans g12)
      have G27 := (((G26.trans g13).updr (Nat.le_trans (G26).size (Nat.le_refl _)) u14).trans g15)
      have G28 := (((((((((g6.trans g8).trans g12).trans g13).updr (Nat.le_trans (G26).size (Nat.le_refl _)) u14).trans g15).trans g16).updr (Nat.le_trans (G27).size (Nat.le_refl _)) u17).trans g21).trans g24)
      have b5_29 := G28.has b5
      refine Runs.puts b5_29 rfl fun H25 b25 u25 => ?_
      have G30 := ((g13.updr (Nat.le_refl _) u14).trans g15)
      have G31 := ((((((g13.updr (Nat.le_refl _) u14).trans g15).trans g16).updr (Nat.le_trans (G30).size (Nat.le_refl _)) u17).trans g21).trans g24)
      have n12_32 := n12.grow G31
      have n12_25 := n12_32.upda (Av.of_own o12 ((g6.trans g8).has b5).lt) u25
      have G33 := ((G26.trans g13).updr (Nat.le_trans (G26).size (Nat.le_refl _)) u14)
      have n15_25 := (n15_23.grow g24).upda (Av.of_own o15 (G33.has b5).lt) u25
      have G34 := ((G27.trans g16).updr (Nat.le_trans (G27).size (Nat.le_refl _)) u17)
      have n21_25 := (n21.grow g24).upda (Av.of_own o21 (G34.has b5).lt) u25
      have G35 := (G34.trans g21)
      have n24_25 := n24.upda (Av.of_own o24 (G35.has b5).lt) u25
      have n24b_25 := n24b.upda (Av.of_own o24b (G35.has b5).lt) u25
      have b4_25 := AH.has.updr ((g21.trans g24).has b4_20) (Nat.ne_of_lt (Nat.lt_of_lt_of_le (b4).lt (Nat.le_refl _))) u25
      have G36 := ((((g15.trans g16).updr (Nat.le_trans (g15).size (Nat.le_refl _)) u17).trans g21).trans g24)
      have b14_37 := G36.has b14
      have b14_25 := AH.has.updr b14_37 (Nat.ne_of_gt (Nat.lt_of_lt_of_le (G26.has b5).lt (Nat.le_refl _))) u25
      have b17_25 := AH.has.updr ((g21.trans g24).has b17) (Nat.ne_of_gt (Nat.lt_of_lt_of_le (G27.has b5).lt (Nat.le_refl _))) u25
      refine Runs.step (AH.has.rd b25 0 rfl rfl) ?_
      refine Runs.step (AH.has.rd b25 1 rfl (asSl_v _)) ?_
      refine Runs.step (AH.has.rd b25 2 rfl (asSl_v _)) ?_
      cases e
      cases good
      have G38 := ((((g4.trans g5).trans g6).trans g8).trans g12)
      have G39 := (((G38.trans g13).updr (Nat.le_trans (G38).size (Nat.le_refl _)) u14).trans g15)
      have G40 := ((((((((((g4.trans g5).trans g6).trans g8).trans g12).trans g13).updr (Nat.le_trans (G38).size (Nat.le_refl _)) u14).trans g15).trans g16).updr (Nat.le_trans (G39).size (Nat.le_refl _)) u17).trans g21)
      have G41 := ((G40.trans g24).updr (Nat.le_trans (g4).size (Nat.le_refl _)) u25)
      exact Runs.ret ⟨s24, s24b, rfl, n24_25, n24b_25, G41, (o24.of_le G40), (o24b.of_le G40)⟩

theorem gain_Score_run {s : gain_Score_St} {r : gain_Score_Res} (it : Iter gain_Score_step s r) : gain_Score_At r s := Iter.ind (fun s o e good => by
  cases s with
  | fn a1 a2 a3 => exact @gain_Score_fn_walk _ _ a1 a2 a3 e good
  | no => exact True.intro
  ) it

theorem gain_Score_opt {h : AH}  {a1 : Int} {a2 : Int} {a3 : Int}  {r : gain_Score_Res} (q : runP gain_Score_step (.fn a1 a2 a3) = some r) : Runs (go (.fn F.gain_Score [.int .i64 a1, .agg [.int .i64 a2, .int .i64 a3]]) h) (gain_Score_post h r) := gain_Score_run (runP_iter q) 

inductive ref17_Score_St
  | fn (a1 : Int) (a2 : Int) (a3 : Int)
  | no

abbrev ref17_Score_Res := Bool × List Nat × List Nat × Int

noncomputable def ref17_Score_fn' (a1 : Int) (a2 : Int) (a3 : Int) : Option (ref17_Score_St ⊕ ref17_Score_Res) :=
  cond (!((gain_may' a2 a3))) (some (.inr (false, [], [], 1))) (cond (decide (a1 < 1)) (some (.inr (false, [], [], 1))) (cond (decide (a1 > 1048576)) (some (.inr (false, [], [], 1))) ((need (-9223372036854775808 ≤ (a2 : Int) ∧ (a2 : Int) ≤ 9223372036854775807)).bind fun c10_0 => (need (-9223372036854775808 ≤ ((IntKind.wrap .i64 (a3 + a1)) : Int) ∧ ((IntKind.wrap .i64 (a3 + a1)) : Int) ≤ 9223372036854775807)).bind fun c20_0 => some (.inr ((((rational_Make' (((modint_Mul' (((ofI a2).1)) ((ofI a2).2) (((ofI a2).1)) ((ofI a2).2)).1)) ((modint_Mul' (((ofI a2).1)) ((ofI a2).2) (((ofI a2).1)) ((ofI a2).2)).2.1) ((ofI (IntKind.wrap .i64 (a3 + a1))).2)).1)), (rational_Make' (((modint_Mul' (((ofI a2).1)) ((ofI a2).2) (((ofI a2).1)) ((ofI a2).2)).1)) ((modint_Mul' (((ofI a2).1)) ((ofI a2).2) (((ofI a2).1)) ((ofI a2).2)).2.1) ((ofI (IntKind.wrap .i64 (a3 + a1))).2)).2.1, (rational_Make' (((modint_Mul' (((ofI a2).1)) ((ofI a2).2) (((ofI a2).1)) ((ofI a2).2)).1)) ((modint_Mul' (((ofI a2).1)) ((ofI a2).2) (((ofI a2).1)) ((ofI a2).2)).2.1) ((ofI (IntKind.wrap .i64 (a3 + a1))).2)).2.2.1, ((rational_Make' (((modint_Mul' (((ofI a2).1)) ((ofI a2).2) (((ofI a2).1)) ((ofI a2).2)).1)) ((modint_Mul' (((ofI a2).1)) ((ofI a2).2) (((ofI a2).1)) ((ofI a2).2)).2.1) ((ofI (IntKind.wrap .i64 (a3 + a1))).2)).2.2.2))))))

noncomputable def ref17_Score_step : ref17_Score_St → Option (ref17_Score_St ⊕ ref17_Score_Res)
  | .fn a1 a2 a3 => ref17_Score_fn' a1 a2 a3
  | .no => none

@[reducible] def ref17_Score_post (h0 : AH) (r : ref17_Score_Res) (v : AV) (h' : AH) : Prop := ∃ s1 : Sl, ∃ s2 : Sl, v = .tup [.agg [.bool r.1, s1.v, s2.v], .int .i64 r.2.2.2] ∧ Nats h' s1 r.2.1 ∧ Nats h' s2 r.2.2.1 ∧ Grow h0 h' ∧ Own h0 s1 ∧ Own h0 s2

def ref17_Score_At (r : ref17_Score_Res) : ref17_Score_St → Prop
  | .fn a1 a2 a3 => ∀ {h : AH}, Runs (go (.fn F.ref17_Score [.int .i64 a1, .agg [.int .i64 a2, .int .i64 a3]]) h) (ref17_Score_post h r)
  | .no => True

theorem ref17_Score_fn_walk {r : ref17_Score_Res} {o : ref17_Score_St ⊕ ref17_Score_Res} {a1 : Int} {a2 : Int} {a3 : Int} (e : ref17_Score_fn' a1 a2 a3 = some o) (good : GoodS (ref17_Score_At r) r o) : ref17_Score_At r (.fn a1 a2 a3) := by
  intro h
  rw [u_ref17_Score]
  unfold ref17_Score_fn' at e
  refine Runs.new fun H4 b4 g4 => ?_
  refine Runs.new fun H5 b5 g5 => ?_
  refine Runs.step (AH.has.rd (g5.has b4) 0 rfl (avInt_int _ _)) ?_
  refine Runs.step (AH.has.rd (g5.has b4) 1 rfl (avInt_int _ _)) ?_
  obtain ⟨_, H6, e6, rfl, g6⟩ := ref16_RightSum_is a2 a3
  refine Runs.step e6 ?_
  refine Runs.step (seen rfl) ?_
  refine Runs.cond (fun k7 => ?_) (fun k7 => ?_)
  · replace e := (condT k7).symm.trans e
    refine Runs.puts (g6.has b5) rfl fun H8 b8 u8 => ?_
    refine Runs.step (AH.has.rd b8 0 rfl rfl) ?_
    refine Runs.step (AH.has.rd b8 1 rfl (asSl_v _)) ?_
    refine Runs.step (AH.has.rd b8 2 rfl (asSl_v _)) ?_
    cases e
    cases good
    have G9 := (((g4.trans g5).trans g6).updr (Nat.le_trans (g4).size (Nat.le_refl _)) u8)
    exact Runs.ret ⟨(⟨none, 0, .is 0⟩ : Sl), (⟨none, 0, .is 0⟩ : Sl), rfl, (Nats.nil _), (Nats.nil _), G9, (Own.nil _), (Own.nil _)⟩
  · replace e := (condF k7).symm.trans e
    refine Runs.cond (fun k8 => ?_) (fun k8 => ?_)
    · replace e := (condT k8).symm.trans e
      refine Runs.puts (g6.has b5) rfl fun H9 b9 u9 => ?_
      refine Runs.step (AH.has.rd b9 0 rfl rfl) ?_
      refine Runs.step (AH.has.rd b9 1 rfl (asSl_v _)) ?_
      refine Runs.step (AH.has.rd b9 2 rfl (asSl_v _)) ?_
      cases e
      cases good
      have G10 := (((g4.trans g5).trans g6).updr (Nat.le_trans (g4).size (Nat.le_refl _)) u9)
      exact Runs.ret ⟨(⟨none, 0, .is 0⟩ : Sl), (⟨none, 0, .is 0⟩ : Sl), rfl, (Nats.nil _), (Nats.nil _), G10, (Own.nil _), (Own.nil _)⟩
    · replace e := (condF k8).symm.trans e
      refine Runs.cond (fun k9 => ?_) (fun k9 => ?_)
      · replace e := (condT k9).symm.trans e
        refine Runs.puts (g6.has b5) rfl fun H10 b10 u10 => ?_
        refine Runs.step (AH.has.rd b10 0 rfl rfl) ?_
        refine Runs.step (AH.has.rd b10 1 rfl (asSl_v _)) ?_
        refine Runs.step (AH.has.rd b10 2 rfl (asSl_v _)) ?_
        cases e
        cases good
        have G11 := (((g4.trans g5).trans g6).updr (Nat.le_trans (g4).size (Nat.le_refl _)) u10)
        exact Runs.ret ⟨(⟨none, 0, .is 0⟩ : Sl), (⟨none, 0, .is 0⟩ : Sl), rfl, (Nats.nil _), (Nats.nil _), G11, (Own.nil _), (Own.nil _)⟩
      · replace e := (condF k9).symm.trans e
        refine Runs.step (AH.has.rd ((g5.trans g6).has b4) 0 rfl (avInt_int _ _)) ?_
        obtain ⟨c10_0, q10_0, e⟩ := Option.bind_eq_some_iff.1 e
        obtain ⟨s10, H10, e10, n10, g10, o10⟩ := ref03_Of_need a2  c10_0.down
        refine Runs.step e10 ?_
        refine Runs.step rfl ?_
        refine Runs.ifT rfl ?_
        refine Runs.step (seenAt rfl rfl) ?_
        refine Runs.step (seenAt rfl (asSl_v _)) ?_
        refine Runs.new fun H11 b11 g11 => ?_
        refine Runs.puts b11 rfl fun H12 b12 u12 => ?_
        refine Runs.step (AH.has.rd b12 0 rfl rfl) ?_
        refine Runs.step (AH.has.rd b12 1 rfl (asSl_v _)) ?_
        refine Runs.step (AH.has.rd b12 0 rfl rfl) ?_
        refine Runs.step (AH.has.rd b12 1 rfl (asSl_v _)) ?_
        obtain ⟨_, H13, e13, s13, rfl, n13, g13, o13⟩ := ref03_Mul_is (n10.grow (g11.updr (Nat.le_refl _) u12)) (n10.grow (g11.updr (Nat.le_refl _) u12)) (((ofI a2).1)) (((ofI a2).1))
        refine Runs.step e13 ?_
        refine Runs.step rfl ?_
        refine Runs.step rfl ?_
        refine Runs.ifT rfl ?_
        refine Runs.step (seenAt rfl rfl) ?_
        refine Runs.step (seenAt rfl (asSl_v _)) ?_
        refine Runs.step (seen (avInt_int _ _)) ?_
        refine Runs.new fun H14 b14 g14 => ?_
        refine Runs.puts b14 rfl fun H15 b15 u15 => ?_
        refine Runs.step (AH.has.rd b15 0 rfl rfl) ?_
        refine Runs.step (AH.has.rd b15 1 rfl (asSl_v _)) ?_
        have G16 := ((g5.trans g6).trans g10)
        have G17 := (((G16.trans g11).updr (Nat.le_trans (G16).size (Nat.le_refl _)) u12).trans g13)
        have G18 := (((((((g5.trans g6).trans g10).trans g11).updr (Nat.le_trans (G16).size (Nat.le_refl _)) u12).trans g13).trans g14).updr (Nat.le_trans (G17).size (Nat.le_refl _)) u15)
        have b4_19 := G18.has b4
        refine Runs.step (AH.has.rd b4_19 1 rfl (avInt_int _ _)) ?_
        obtain ⟨c20_0, q20_0, e⟩ := Option.bind_eq_some_iff.1 e
        obtain ⟨s20, H20, e20, n20, g20, o20⟩ := ref03_Of_need (IntKind.wrap .i64 (a3 + a1))  c20_0.down
        refine Runs.step e20 ?_
        refine Runs.step rfl ?_
        refine Runs.ifT rfl ?_
        refine Runs.step (seenAt rfl rfl) ?_
        refine Runs.step (seenAt rfl (asSl_v _)) ?_
        refine Runs.when (g20.same b15 0 2) ?_
        have G21 := ((g14.updr (Nat.le_refl _) u15).trans g20)
        have n13_22 := n13.grow G21
        obtain ⟨_, H23, e23, s23, s23b, rfl, n23, n23b, g23, o23, o23b⟩ := ref08_Make_is n13_22 n20 (((modint_Mul' (((ofI a2).1)) ((ofI a2).2) (((ofI a2).1)) ((ofI a2).2)).1))
        refine Runs.step e23 ?_
        refine Runs.step rfl ?_
        refine Runs.step rfl ?_
        refine Runs.ifT rfl ?_
        refine Runs.step (seenAt rfl rfl) ?_
        refine Runs.step (seenAt rfl (asSl_v _)) ?_
        refine Runs.step (seenAt rfl (asSl_v _)) ?_
        refine Runs.step (seen (avInt_int _ _)) ?_
        have G25 := ((((g6.trans g10).trans g11).updr (Nat.le_trans ((g6.trans g10)).size (Nat.le_refl _)) u12).trans g13)
        have G26 := ((((((((g6.trans g10).trans g11).updr (Nat.le_trans ((g6.trans g10)).size (Nat.le_refl _)) u12).trans g13).trans g14).updr (Nat.le_trans (G25).size (Nat.le_refl _)) u15).trans g20).trans g23)
        have b5_27 := G26.has b5
        refine Runs.puts b5_27 rfl fun H24 b24 u24 => ?_
        have G28 := ((g11.updr (Nat.le_refl _) u12).trans g13)
        have G29 := ((((((g11.updr (Nat.le_refl _) u12).trans g13).trans g14).updr (Nat.le_trans (G28).size (Nat.le_refl _)) u15).trans g20).trans g23)
        have n10_30 := n10.grow G29
        have n10_24 := n10_30.upda (Av.of_own o10 (g6.has b5).lt) u24
        have G31 := (((g6.trans g10).trans g11).updr (Nat.le_trans ((g6.trans g10)).size (Nat.le_refl _)) u12)
        have n13_24 := (n13_22.grow g23).upda (Av.of_own o13 (G31.has b5).lt) u24
        have G32 := ((G25.trans g14).updr (Nat.le_trans (G25).size (Nat.le_refl _)) u15)
        have n20_24 := (n20.grow g23).upda (Av.of_own o20 (G32.has b5).lt) u24
        have G33 := (G32.trans g20)
        have n23_24 := n23.upda (Av.of_own o23 (G33.has b5).lt) u24
        have n23b_24 := n23b.upda (Av.of_own o23b (G33.has b5).lt) u24
        have b4_24 := AH.has.updr ((g20.trans g23).has b4_19) (Nat.ne_of_lt (Nat.lt_of_lt_of_le (b4).lt (Nat.le_refl _))) u24
        have G34 := ((((g13.trans g14).updr (Nat.le_trans (g13).size (Nat.le_refl _)) u15).trans g20).trans g23)
        have b12_35 := G34.has b12
        have b12_24 := AH.has.updr b12_35 (Nat.ne_of_gt (Nat.lt_of_lt_of_le ((g6.trans g10).has b5).lt (Nat.le_refl _))) u24
        have b15_24 := AH.has.updr ((g20.trans g23).has b15) (Nat.ne_of_gt (Nat.lt_of_lt_of_le (G25.has b5).lt (Nat.le_refl _))) u24
        refine Runs.step (AH.has.rd b24 0 rfl rfl) ?_
        refine Runs.step (AH.has.rd b24 1 rfl (asSl_v _)) ?_
        refine Runs.step (AH.has.rd b24 2 rfl (asSl_v _)) ?_
        cases e
        cases good
        have G36 := (((g4.trans g5).trans g6).trans g10)
        have G37 := (((G36.trans g11).updr (Nat.le_trans (G36).size (Nat.le_refl _)) u12).trans g13)
        have G38 := (((((((((g4.trans g5).trans g6).trans g10).trans g11).updr (Nat.le_trans (G36).size (Nat.le_refl _)) u12).trans g13).trans g14).updr (Nat.le_trans (G37).size (Nat.le_refl _)) u15).trans g20)
        have G39 := ((G38.trans g23).updr (Nat.le_trans (g4).size (Nat.le_refl _)) u24)
        exact Runs.ret ⟨s23, s23b, rfl, n23_24, n23b_24, G39, (o23.of_le G38), (o23b.of_le G38)⟩

theorem ref17_Score_run {s : ref17_Score_St} {r : ref17_Score_Res} (it : Iter ref17_Score_step s r) : ref17_Score_At r s := Iter.ind (fun s o e good => by
  cases s with
  | fn a1 a2 a3 => exact @ref17_Score_fn_walk _ _ a1 a2 a3 e good
  | no => exact True.intro
  ) it

theorem ref17_Score_opt {h : AH}  {a1 : Int} {a2 : Int} {a3 : Int}  {r : ref17_Score_Res} (q : runP ref17_Score_step (.fn a1 a2 a3) = some r) : Runs (go (.fn F.ref17_Score [.int .i64 a1, .agg [.int .i64 a2, .int .i64 a3]]) h) (ref17_Score_post h r) := ref17_Score_run (runP_iter q) 

end Go.Ab

/- Layer 17: what Score answers. -/
set_option linter.unusedVariables false
set_option linter.unusedSimpArgs false
set_option maxRecDepth 10000
namespace Go.Ab
open Go.Proofs Go.Num

theorem may_iff {g n : Int} : gain_may' g n = true ↔ -1099511627776 ≤ g ∧ g ≤ 1099511627776 ∧ 0 ≤ n ∧ n ≤ 1048576 := by
  unfold gain_may'
  by_cases h1 : g ≥ -1099511627776 <;> by_cases h2 : g ≤ 1099511627776 <;> by_cases h3 : n ≥ 0 <;> by_cases h4 : n ≤ 1048576 <;> simp [h1, h2, h3, h4]

theorem mayL_iff {l : Int} : gain_mayLambda' l = true ↔ 1 ≤ l ∧ l ≤ 1048576 := by
  unfold gain_mayLambda'
  by_cases h1 : l ≥ 1 <;> by_cases h2 : l ≤ 1048576 <;> simp [h1, h2]

/-- What Score answers. -/
def scoreF (l g n : Int) : Bool × List Nat × List Nat × Int := if gain_may' g n = true ∧ gain_mayLambda' l = true then fracM (g * g) (n + l).toNat else (false, [], [], 1)

theorem sq_lt {g : Int} (h1 : -1099511627776 ≤ g) (h2 : g ≤ 1099511627776) : (g * g).natAbs ≤ 1099511627776 * 1099511627776 := by
  rw [Int.natAbs_mul]
  exact Nat.mul_le_mul (by omega) (by omega)

theorem gain_Score_iter (l g n : Int) : Iter gain_Score_step (.fn l g n) (scoreF l g n) := .done (by
  show gain_Score_fn' _ _ _ = _
  unfold gain_Score_fn' scoreF
  cases h1 : gain_may' g n with
  | false => rfl
  | true =>
    cases h2 : gain_mayLambda' l with
    | false => rfl
    | true =>
      obtain ⟨a1, a2, a3, a4⟩ := may_iff.1 h1
      obtain ⟨b1, b2⟩ := mayL_iff.1 h2
      have h64 := B64_big
      have hs := sq_lt a1 a2
      rw [if_pos ⟨rfl, rfl⟩, need_of ⟨by omega, by omega⟩, ofI_intD (by omega), mul_intD (by omega) (by omega), if_pos (by omega), wrap64 (by omega) (by omega), wrapU, Int.emod_eq_of_lt (by omega) (by omega)]
      have e : n + l = (((n + l).toNat : Nat) : Int) := by omega
      rw [show u64P (n + l) = some (n + l).toNat from by rw [e]; exact u64P_nat (by omega)]
      simp only [Bool.not_true, cond_false, Option.bind_some]
      rw [Make_of (by omega) (by omega) (by omega)])

theorem ref17_Score_iter (l g n : Int) : Iter ref17_Score_step (.fn l g n) (scoreF l g n) := .done (by
  show ref17_Score_fn' _ _ _ = _
  unfold ref17_Score_fn' scoreF
  cases h1 : gain_may' g n with
  | false => rfl
  | true =>
    cases h2 : gain_mayLambda' l with
    | false =>
      rw [if_neg (by simp)]
      have h2 : ¬ (1 ≤ l ∧ l ≤ 1048576) := fun e => by rw [mayL_iff.2 e] at h2; cases h2
      simp only [Bool.not_true, cond_false]
      refine cond_elim (fun _ => rfl) fun k1 => ?_
      rw [decide_eq_false_iff_not] at k1
      rw [condT (by rw [decide_eq_true_eq]; omega)]
    | true =>
      obtain ⟨a1, a2, a3, a4⟩ := may_iff.1 h1
      obtain ⟨b1, b2⟩ := mayL_iff.1 h2
      have h64 := B64_big
      have hs := sq_lt a1 a2
      have w := wrap64 (n := n + l) (by omega) (by omega)
      rw [if_pos ⟨rfl, rfl⟩, w, need_of ⟨by omega, by omega⟩, need_of ⟨by omega, by omega⟩, ofI_intD (by omega), ofI_intD (by omega), mul_intD (by omega) (by omega), if_pos (by omega), decide_eq_false (by omega), decide_eq_false (by omega)]
      simp only [Bool.not_true, cond_false, Option.bind_some]
      have e : (intD (n + l)).2 = digs B (n + l).toNat := by
        show digs B (n + l).natAbs = _
        rw [show (n + l).natAbs = (n + l).toNat from by omega]
      rw [e, Make_of (by omega) (by omega) (by omega)])

theorem gain_Score_spec {h : AH} (l g n : Int) : Runs (go (.fn F.gain_Score [.int .i64 l, .agg [.int .i64 g, .int .i64 n]]) h) (gain_Score_post h (scoreF l g n)) := gain_Score_run (gain_Score_iter l g n)
theorem ref17_Score_spec {h : AH} (l g n : Int) : Runs (go (.fn F.ref17_Score [.int .i64 l, .agg [.int .i64 g, .int .i64 n]]) h) (ref17_Score_post h (scoreF l g n)) := ref17_Score_run (ref17_Score_iter l g n)

end Go.Ab

/- Layer 17: Gain: printed by wip/tools/walk.py. -/
set_option linter.unusedVariables false
set_option linter.unusedSimpArgs false
set_option maxRecDepth 10000
namespace Go.Ab
open Go.Proofs Go.Num

inductive gain_Gain_St
  | fn (a1 : Int) (a2 : Int) (a3 : Int) (a4 : Int) (a5 : Int)
  | no

abbrev gain_Gain_Res := Bool × List Nat × List Nat × Int

noncomputable def gain_Gain_fn' (a1 : Int) (a2 : Int) (a3 : Int) (a4 : Int) (a5 : Int) : Option (gain_Gain_St ⊕ gain_Gain_Res) :=
  cond (!((gain_right' a2 a3 a4 a5).2.2)) (some (.inr (false, [], [], 1))) (cond (!((gain_mayLambda' a1))) (some (.inr (false, [], [], 1))) ((some (rational_Add' (((((scoreF a1 a2 a3).1)))) ((scoreF a1 a2 a3).2.1) ((scoreF a1 a2 a3).2.2.1) (((((scoreF a1 (((((gain_right' a2 a3 a4 a5).1)))) (((((gain_right' a2 a3 a4 a5).2.1))))).1)))) ((scoreF a1 (((((gain_right' a2 a3 a4 a5).1)))) (((((gain_right' a2 a3 a4 a5).2.1))))).2.1) ((scoreF a1 (((((gain_right' a2 a3 a4 a5).1)))) (((((gain_right' a2 a3 a4 a5).2.1))))).2.2.1))).bind fun p50 => (some (rational_Sub' ((p50.1)) p50.2.1 p50.2.2.1 (((((scoreF a1 a4 a5).1)))) ((scoreF a1 a4 a5).2.1) ((scoreF a1 a4 a5).2.2.1))).bind fun p87 => some (.inr (((p87.1)), p87.2.1, p87.2.2.1, (p87.2.2.2)))))

noncomputable def gain_Gain_step : gain_Gain_St → Option (gain_Gain_St ⊕ gain_Gain_Res)
  | .fn a1 a2 a3 a4 a5 => gain_Gain_fn' a1 a2 a3 a4 a5
  | .no => none

@[reducible] def gain_Gain_post (h0 : AH) (r : gain_Gain_Res) (v : AV) (h' : AH) : Prop := ∃ s1 : Sl, ∃ s2 : Sl, v = .tup [.agg [.bool r.1, s1.v, s2.v], .int .i64 r.2.2.2] ∧ Nats h' s1 r.2.1 ∧ Nats h' s2 r.2.2.1 ∧ Grow h0 h' ∧ Own h0 s1 ∧ Own h0 s2

def gain_Gain_At (r : gain_Gain_Res) : gain_Gain_St → Prop
  | .fn a1 a2 a3 a4 a5 => ∀ {h : AH}, Runs (go (.fn F.gain_Gain [.int .i64 a1, .agg [.int .i64 a2, .int .i64 a3], .agg [.int .i64 a4, .int .i64 a5]]) h) (gain_Gain_post h r)
  | .no => True

theorem gain_Gain_fn_walk {r : gain_Gain_Res} {o : gain_Gain_St ⊕ gain_Gain_Res} {a1 : Int} {a2 : Int} {a3 : Int} {a4 : Int} {a5 : Int} (e : gain_Gain_fn' a1 a2 a3 a4 a5 = some o) (good : GoodS (gain_Gain_At r) r o) : gain_Gain_At r (.fn a1 a2 a3 a4 a5) := by
  intro h
  rw [u_gain_Gain]
  unfold gain_Gain_fn' at e
  refine Runs.new fun H6 b6 g6 => ?_
  refine Runs.new fun H7 b7 g7 => ?_
  refine Runs.new fun H8 b8 g8 => ?_
  refine Runs.new fun H9 b9 g9 => ?_
  refine Runs.step (AH.has.rd ((g8.trans g9).has b7) 0 rfl (avInt_int _ _)) ?_
  refine Runs.step (AH.has.rd ((g8.trans g9).has b7) 1 rfl (avInt_int _ _)) ?_
  refine Runs.step (AH.has.rd (g9.has b8) 0 rfl (avInt_int _ _)) ?_
  refine Runs.step (AH.has.rd (g9.has b8) 1 rfl (avInt_int _ _)) ?_
  obtain ⟨_, H10, e10, rfl, g10⟩ := gain_right_spec a2 a3 a4 a5
  refine Runs.step e10 ?_
  refine Runs.step rfl ?_
  refine Runs.step rfl ?_
  refine Runs.ifT rfl ?_
  refine Runs.step (seenAt rfl (avInt_int _ _)) ?_
  refine Runs.step (seenAt rfl (avInt_int _ _)) ?_
  refine Runs.step (seen rfl) ?_
  refine Runs.new fun H11 b11 g11 => ?_
  refine Runs.puts b11 rfl fun H12 b12 u12 => ?_
  refine Runs.cond (fun k13 => ?_) (fun k13 => ?_)
  · replace e := (condT k13).symm.trans e
    have G15 := ((g10.trans g11).updr (Nat.le_trans (g10).size (Nat.le_refl _)) u12)
    have b9_16 := G15.has b9
    refine Runs.puts b9_16 rfl fun H14 b14 u14 => ?_
    have b12_14 := AH.has.updr b12 (Nat.ne_of_gt (Nat.lt_of_lt_of_le (g10.has b9).lt (Nat.le_refl _))) u14
    refine Runs.step (AH.has.rd b14 0 rfl rfl) ?_
    refine Runs.step (AH.has.rd b14 1 rfl (asSl_v _)) ?_
    refine Runs.step (AH.has.rd b14 2 rfl (asSl_v _)) ?_
    cases e
    cases good
    have G17 := ((((g6.trans g7).trans g8).trans g9).trans g10)
    have G18 := ((g6.trans g7).trans g8)
    have G19 := (((((((g6.trans g7).trans g8).trans g9).trans g10).trans g11).updr (Nat.le_trans (G17).size (Nat.le_refl _)) u12).updr (Nat.le_trans (G18).size (Nat.le_refl _)) u14)
    exact Runs.ret ⟨(⟨none, 0, .is 0⟩ : Sl), (⟨none, 0, .is 0⟩ : Sl), rfl, (Nats.nil _), (Nats.nil _), G19, (Own.nil _), (Own.nil _)⟩
  · replace e := (condF k13).symm.trans e
    have G14 := (((g7.trans g8).trans g9).trans g10)
    have G15 := (((((g7.trans g8).trans g9).trans g10).trans g11).updr (Nat.le_trans (G14).size (Nat.le_refl _)) u12)
    have b6_16 := G15.has b6
    refine Runs.step (AH.has.rd0 b6_16 rfl (avInt_int _ _)) ?_
    obtain ⟨_, H17, e17, rfl, g17⟩ := gain_mayLambda_spec a1
    refine Runs.step e17 ?_
    refine Runs.step (seen rfl) ?_
    refine Runs.cond (fun k18 => ?_) (fun k18 => ?_)
    · replace e := (condT k18).symm.trans e
      have G20 := (((g10.trans g11).updr (Nat.le_trans (g10).size (Nat.le_refl _)) u12).trans g17)
      have b9_21 := G20.has b9
      refine Runs.puts b9_21 rfl fun H19 b19 u19 => ?_
      have b6_19 := AH.has.updr (g17.has b6_16) (Nat.ne_of_lt (Nat.lt_of_lt_of_le ((g7.trans g8).has b6).lt (Nat.le_refl _))) u19
      have b12_19 := AH.has.updr (g17.has b12) (Nat.ne_of_gt (Nat.lt_of_lt_of_le (g10.has b9).lt (Nat.le_refl _))) u19
      refine Runs.step (AH.has.rd b19 0 rfl rfl) ?_
      refine Runs.step (AH.has.rd b19 1 rfl (asSl_v _)) ?_
      refine Runs.step (AH.has.rd b19 2 rfl (asSl_v _)) ?_
      cases e
      cases good
      have G22 := ((((g6.trans g7).trans g8).trans g9).trans g10)
      have G23 := ((g6.trans g7).trans g8)
      have G24 := ((((((((g6.trans g7).trans g8).trans g9).trans g10).trans g11).updr (Nat.le_trans (G22).size (Nat.le_refl _)) u12).trans g17).updr (Nat.le_trans (G23).size (Nat.le_refl _)) u19)
      exact Runs.ret ⟨(⟨none, 0, .is 0⟩ : Sl), (⟨none, 0, .is 0⟩ : Sl), rfl, (Nats.nil _), (Nats.nil _), G24, (Own.nil _), (Own.nil _)⟩
    · replace e := (condF k18).symm.trans e
      refine Runs.new fun H19 b19 g19 => ?_
      have G20 := ((g8.trans g9).trans g10)
      have G21 := ((((((g8.trans g9).trans g10).trans g11).updr (Nat.le_trans (G20).size (Nat.le_refl _)) u12).trans g17).trans g19)
      have b7_22 := G21.has b7
      refine Runs.step (AH.has.rd b7_22 0 rfl (avInt_int _ _)) ?_
      refine Runs.step (AH.has.rd b7_22 1 rfl (avInt_int _ _)) ?_
      refine Runs.step (AH.has.rd ((g17.trans g19).has b12) 0 rfl (avInt_int _ _)) ?_
      refine Runs.step (AH.has.rd ((g17.trans g19).has b12) 1 rfl (avInt_int _ _)) ?_
      rw [u_gain_Gain_1]
      refine Runs.newB fun H23 b23 g23 => ?_
      refine Runs.newB fun H24 b24 g24 => ?_
      have G25 := (((g17.trans g19).trans g23).trans g24)
      have b6_26 := G25.has b6_16
      refine Runs.stepB (AH.has.rd0 b6_26 rfl (avInt_int _ _)) ?_
      refine Runs.stepB (AH.has.rd (g24.has b23) 0 rfl (avInt_int _ _)) ?_
      refine Runs.stepB (AH.has.rd (g24.has b23) 1 rfl (avInt_int _ _)) ?_
      obtain ⟨_, H27, e27, s27, s27b, rfl, n27, n27b, g27, o27, o27b⟩ := gain_Score_spec a1 a2 a3
      refine Runs.stepB e27 ?_
      refine Runs.stepB rfl ?_
      refine Runs.stepB rfl ?_
      refine Runs.ifTB rfl ?_
      refine Runs.stepB (seenAt rfl rfl) ?_
      refine Runs.stepB (seenAt rfl (asSl_v _)) ?_
      refine Runs.stepB (seenAt rfl (asSl_v _)) ?_
      refine Runs.stepB (seen (avInt_int _ _)) ?_
      refine Runs.newB fun H28 b28 g28 => ?_
      refine Runs.putsB b28 rfl fun H29 b29 u29 => ?_
      refine Runs.stepB (AH.has.rd b29 0 rfl rfl) ?_
      refine Runs.stepB (AH.has.rd b29 1 rfl (asSl_v _)) ?_
      refine Runs.stepB (AH.has.rd b29 2 rfl (asSl_v _)) ?_
      have G31 := ((g27.trans g28).updr (Nat.le_trans (g27).size (Nat.le_refl _)) u29)
      have b24_32 := G31.has b24
      refine Runs.putsB b24_32 rfl fun H30 b30 u30 => ?_
      have n27_30 := (n27.grow (g28.updr (Nat.le_refl _) u29)).upda (Av.of_own o27 (b24).lt) u30
      have n27b_30 := (n27b.grow (g28.updr (Nat.le_refl _) u29)).upda (Av.of_own o27b (b24).lt) u30
      have b6_33 := G31.has b6_26
      have G34 := ((g17.trans g19).trans g23)
      have b6_30 := AH.has.updr b6_33 (Nat.ne_of_lt (Nat.lt_of_lt_of_le (G34.has b6_16).lt (Nat.le_refl _))) u30
      have b29_30 := AH.has.updr b29 (Nat.ne_of_gt (Nat.lt_of_lt_of_le (g27.has b24).lt (Nat.le_refl _))) u30
      refine Runs.stepB (AH.has.rd b30 0 rfl rfl) ?_
      refine Runs.stepB (AH.has.rd b30 1 rfl (asSl_v _)) ?_
      refine Runs.stepB (AH.has.rd b30 2 rfl (asSl_v _)) ?_
      refine Runs.retB ?_
      refine Runs.step rfl ?_
      refine Runs.ifT rfl ?_
      refine Runs.step (seenAt rfl rfl) ?_
      refine Runs.step (seenAt rfl (asSl_v _)) ?_
      refine Runs.step (seenAt rfl (asSl_v _)) ?_
      have G35 := ((g23.trans g24).trans g27)
      have G36 := (((((g23.trans g24).trans g27).trans g28).updr (Nat.le_trans (G35).size (Nat.le_refl _)) u29).updr (Nat.le_trans (g23).size (Nat.le_refl _)) u30)
      refine Runs.when (G36.same ((g17.trans g19).has b12) 0 2) ?_
      refine Runs.when (G36.same b19 0 0) ?_
      rw [u_gain_Gain_1]
      refine Runs.newB fun H37 b37 g37 => ?_
      refine Runs.newB fun H38 b38 g38 => ?_
      refine Runs.stepB (AH.has.rd0 ((g37.trans g38).has b6_30) rfl (avInt_int _ _)) ?_
      refine Runs.stepB (AH.has.rd (g38.has b37) 0 rfl (avInt_int _ _)) ?_
      refine Runs.stepB (AH.has.rd (g38.has b37) 1 rfl (avInt_int _ _)) ?_
      obtain ⟨_, H39, e39, s39, s39b, rfl, n39, n39b, g39, o39, o39b⟩ := gain_Score_spec a1 (((((gain_right' a2 a3 a4 a5).1)))) (((((gain_right' a2 a3 a4 a5).2.1))))
      refine Runs.stepB e39 ?_
      refine Runs.stepB rfl ?_
      refine Runs.stepB rfl ?_
      refine Runs.ifTB rfl ?_
      refine Runs.stepB (seenAt rfl rfl) ?_
      refine Runs.stepB (seenAt rfl (asSl_v _)) ?_
      refine Runs.stepB (seenAt rfl (asSl_v _)) ?_
      refine Runs.stepB (seen (avInt_int _ _)) ?_
      refine Runs.newB fun H40 b40 g40 => ?_
      refine Runs.putsB b40 rfl fun H41 b41 u41 => ?_
      refine Runs.stepB (AH.has.rd b41 0 rfl rfl) ?_
      refine Runs.stepB (AH.has.rd b41 1 rfl (asSl_v _)) ?_
      refine Runs.stepB (AH.has.rd b41 2 rfl (asSl_v _)) ?_
      have G43 := ((g39.trans g40).updr (Nat.le_trans (g39).size (Nat.le_refl _)) u41)
      have b38_44 := G43.has b38
      refine Runs.putsB b38_44 rfl fun H42 b42 u42 => ?_
      have n39_42 := (n39.grow (g40.updr (Nat.le_refl _) u41)).upda (Av.of_own o39 (b38).lt) u42
      have n39b_42 := (n39b.grow (g40.updr (Nat.le_refl _) u41)).upda (Av.of_own o39b (b38).lt) u42
      have b41_42 := AH.has.updr b41 (Nat.ne_of_gt (Nat.lt_of_lt_of_le (g39.has b38).lt (Nat.le_refl _))) u42
      refine Runs.stepB (AH.has.rd b42 0 rfl rfl) ?_
      refine Runs.stepB (AH.has.rd b42 1 rfl (asSl_v _)) ?_
      refine Runs.stepB (AH.has.rd b42 2 rfl (asSl_v _)) ?_
      refine Runs.retB ?_
      refine Runs.step rfl ?_
      refine Runs.ifT rfl ?_
      refine Runs.step (seenAt rfl rfl) ?_
      refine Runs.step (seenAt rfl (asSl_v _)) ?_
      refine Runs.step (seenAt rfl (asSl_v _)) ?_
      have b19_45 := G36.has b19
      have G46 := ((g37.trans g38).trans g39)
      have G47 := (((((g37.trans g38).trans g39).trans g40).updr (Nat.le_trans (G46).size (Nat.le_refl _)) u41).updr (Nat.le_trans (g37).size (Nat.le_refl _)) u42)
      refine Runs.when (G47.same b19_45 0 0) ?_
      have n27_48 := n27_30.grow G47
      have n27b_49 := n27b_30.grow G47
      obtain ⟨p50, q50, e⟩ := Option.bind_eq_some_iff.1 e
      obtain ⟨_, H50, e50, s50, s50b, rfl, n50, n50b, g50, o50, o50b⟩ := rational_Add_t n27_48 n27b_49 n39_42 n39b_42 (Option.some.inj q50)
      refine Runs.step e50 ?_
      refine Runs.step rfl ?_
      refine Runs.step rfl ?_
      refine Runs.ifT rfl ?_
      refine Runs.step (seenAt rfl rfl) ?_
      refine Runs.step (seenAt rfl (asSl_v _)) ?_
      refine Runs.step (seenAt rfl (asSl_v _)) ?_
      refine Runs.step (seen (avInt_int _ _)) ?_
      have b19_51 := G47.has b19_45
      refine Runs.when (g50.same b19_51 0 0) ?_
      refine Runs.puts (g50.has b19_51) rfl fun H52 b52 u52 => ?_
      have n27_52 := (n27_48.grow g50).upda (Av.of_own o27 ((g23.trans g24).has b19).lt) u52
      have n27b_52 := (n27b_49.grow g50).upda (Av.of_own o27b ((g23.trans g24).has b19).lt) u52
      have n39_52 := (n39_42.grow g50).upda (Av.of_own o39 ((g37.trans g38).has b19_45).lt) u52
      have n39b_52 := (n39b_42.grow g50).upda (Av.of_own o39b ((g37.trans g38).has b19_45).lt) u52
      have n50_52 := n50.upda (Av.of_own o50 (b19_51).lt) u52
      have n50b_52 := n50b.upda (Av.of_own o50b (b19_51).lt) u52
      have G53 := (G47.trans g50)
      have b6_54 := G53.has b6_30
      have b6_52 := AH.has.updr b6_54 (Nat.ne_of_lt (Nat.lt_of_lt_of_le (g17.has b6_16).lt (Nat.le_refl _))) u52
      have G55 := (((G36.trans g37).trans g38).trans g39)
      have G56 := (G36.trans g37)
      have G57 := (((((((G36.trans g37).trans g38).trans g39).trans g40).updr (Nat.le_trans (G55).size (Nat.le_refl _)) u41).updr (Nat.le_trans (G56).size (Nat.le_refl _)) u42).trans g50)
      have b7_58 := G57.has b7_22
      have G59 := (((G20.trans g11).updr (Nat.le_trans (G20).size (Nat.le_refl _)) u12).trans g17)
      have b7_52 := AH.has.updr b7_58 (Nat.ne_of_lt (Nat.lt_of_lt_of_le (G59.has b7).lt (Nat.le_refl _))) u52
      have G60 := (((((((g24.trans g27).trans g28).updr (Nat.le_trans ((g24.trans g27)).size (Nat.le_refl _)) u29).updr (Nat.le_refl _) u30).trans g37).trans g38).trans g39)
      have G61 := (((((g24.trans g27).trans g28).updr (Nat.le_trans ((g24.trans g27)).size (Nat.le_refl _)) u29).updr (Nat.le_refl _) u30).trans g37)
      have G62 := (((((((((((g24.trans g27).trans g28).updr (Nat.le_trans ((g24.trans g27)).size (Nat.le_refl _)) u29).updr (Nat.le_refl _) u30).trans g37).trans g38).trans g39).trans g40).updr (Nat.le_trans (G60).size (Nat.le_refl _)) u41).updr (Nat.le_trans (G61).size (Nat.le_refl _)) u42).trans g50)
      have b23_63 := G62.has b23
      have b23_52 := AH.has.updr b23_63 (Nat.ne_of_gt (Nat.lt_of_lt_of_le (b19).lt (Nat.le_refl _))) u52
      have b30_64 := G53.has b30
      have b30_52 := AH.has.updr b30_64 (Nat.ne_of_gt (Nat.lt_of_lt_of_le (g23.has b19).lt (Nat.le_refl _))) u52
      have b29_65 := G53.has b29_30
      have b29_52 := AH.has.updr b29_65 (Nat.ne_of_gt (Nat.lt_of_lt_of_le (G35.has b19).lt (Nat.le_refl _))) u52
      have G66 := (((((g38.trans g39).trans g40).updr (Nat.le_trans ((g38.trans g39)).size (Nat.le_refl _)) u41).updr (Nat.le_refl _) u42).trans g50)
      have b37_67 := G66.has b37
      have b37_52 := AH.has.updr b37_67 (Nat.ne_of_gt (Nat.lt_of_lt_of_le (b19_45).lt (Nat.le_refl _))) u52
      have b42_52 := AH.has.updr (g50.has b42) (Nat.ne_of_gt (Nat.lt_of_lt_of_le (g37.has b19_45).lt (Nat.le_refl _))) u52
      have b41_52 := AH.has.updr (g50.has b41_42) (Nat.ne_of_gt (Nat.lt_of_lt_of_le (G46.has b19_45).lt (Nat.le_refl _))) u52
      refine Runs.step (AH.has.rd b52 0 rfl rfl) ?_
      refine Runs.step (AH.has.rd b52 1 rfl (asSl_v _)) ?_
      refine Runs.step (AH.has.rd b52 2 rfl (asSl_v _)) ?_
      have G68 := ((((((((g9.trans g10).trans g11).updr (Nat.le_trans ((g9.trans g10)).size (Nat.le_refl _)) u12).trans g17).trans g19).trans g23).trans g24).trans g27)
      have G69 := ((((((g9.trans g10).trans g11).updr (Nat.le_trans ((g9.trans g10)).size (Nat.le_refl _)) u12).trans g17).trans g19).trans g23)
      have G70 := ((((((G68.trans g28).updr (Nat.le_trans (G68).size (Nat.le_refl _)) u29).updr (Nat.le_trans (G69).size (Nat.le_refl _)) u30).trans g37).trans g38).trans g39)
      have G71 := ((((G68.trans g28).updr (Nat.le_trans (G68).size (Nat.le_refl _)) u29).updr (Nat.le_trans (G69).size (Nat.le_refl _)) u30).trans g37)
      have G72 := ((((g9.trans g10).trans g11).updr (Nat.le_trans ((g9.trans g10)).size (Nat.le_refl _)) u12).trans g17)
      have G73 := (((((((((((((((((((g9.trans g10).trans g11).updr (Nat.le_trans ((g9.trans g10)).size (Nat.le_refl _)) u12).trans g17).trans g19).trans g23).trans g24).trans g27).trans g28).updr (Nat.le_trans (G68).size (Nat.le_refl _)) u29).updr (Nat.le_trans (G69).size (Nat.le_refl _)) u30).trans g37).trans g38).trans g39).trans g40).updr (Nat.le_trans (G70).size (Nat.le_refl _)) u41).updr (Nat.le_trans (G71).size (Nat.le_refl _)) u42).trans g50).updr (Nat.le_trans (G72).size (Nat.le_refl _)) u52)
      have b8_74 := G73.has b8
      refine Runs.step (AH.has.rd b8_74 0 rfl (avInt_int _ _)) ?_
      refine Runs.step (AH.has.rd b8_74 1 rfl (avInt_int _ _)) ?_
      rw [u_gain_Gain_1]
      refine Runs.newB fun H75 b75 g75 => ?_
      refine Runs.newB fun H76 b76 g76 => ?_
      refine Runs.stepB (AH.has.rd0 ((g75.trans g76).has b6_52) rfl (avInt_int _ _)) ?_
      refine Runs.stepB (AH.has.rd (g76.has b75) 0 rfl (avInt_int _ _)) ?_
      refine Runs.stepB (AH.has.rd (g76.has b75) 1 rfl (avInt_int _ _)) ?_
      obtain ⟨_, H77, e77, s77, s77b, rfl, n77, n77b, g77, o77, o77b⟩ := gain_Score_spec a1 a4 a5
      refine Runs.stepB e77 ?_
      refine Runs.stepB rfl ?_
      refine Runs.stepB rfl ?_
      refine Runs.ifTB rfl ?_
      refine Runs.stepB (seenAt rfl rfl) ?_
      refine Runs.stepB (seenAt rfl (asSl_v _)) ?_
      refine Runs.stepB (seenAt rfl (asSl_v _)) ?_
      refine Runs.stepB (seen (avInt_int _ _)) ?_
      refine Runs.newB fun H78 b78 g78 => ?_
      refine Runs.putsB b78 rfl fun H79 b79 u79 => ?_
      refine Runs.stepB (AH.has.rd b79 0 rfl rfl) ?_
      refine Runs.stepB (AH.has.rd b79 1 rfl (asSl_v _)) ?_
      refine Runs.stepB (AH.has.rd b79 2 rfl (asSl_v _)) ?_
      have G81 := ((g77.trans g78).updr (Nat.le_trans (g77).size (Nat.le_refl _)) u79)
      have b76_82 := G81.has b76
      refine Runs.putsB b76_82 rfl fun H80 b80 u80 => ?_
      have n77_80 := (n77.grow (g78.updr (Nat.le_refl _) u79)).upda (Av.of_own o77 (b76).lt) u80
      have n77b_80 := (n77b.grow (g78.updr (Nat.le_refl _) u79)).upda (Av.of_own o77b (b76).lt) u80
      have b79_80 := AH.has.updr b79 (Nat.ne_of_gt (Nat.lt_of_lt_of_le (g77.has b76).lt (Nat.le_refl _))) u80
      refine Runs.stepB (AH.has.rd b80 0 rfl rfl) ?_
      refine Runs.stepB (AH.has.rd b80 1 rfl (asSl_v _)) ?_
      refine Runs.stepB (AH.has.rd b80 2 rfl (asSl_v _)) ?_
      refine Runs.retB ?_
      refine Runs.step rfl ?_
      refine Runs.ifT rfl ?_
      refine Runs.step (seenAt rfl rfl) ?_
      refine Runs.step (seenAt rfl (asSl_v _)) ?_
      refine Runs.step (seenAt rfl (asSl_v _)) ?_
      have G83 := ((g75.trans g76).trans g77)
      have G84 := (((((g75.trans g76).trans g77).trans g78).updr (Nat.le_trans (G83).size (Nat.le_refl _)) u79).updr (Nat.le_trans (g75).size (Nat.le_refl _)) u80)
      refine Runs.when (G84.same b52 0 3) ?_
      have n50_85 := n50_52.grow G84
      have n50b_86 := n50b_52.grow G84
      obtain ⟨p87, q87, e⟩ := Option.bind_eq_some_iff.1 e
      obtain ⟨_, H87, e87, s87, s87b, rfl, n87, n87b, g87, o87, o87b⟩ := rational_Sub_t n50_85 n50b_86 n77_80 n77b_80 (Option.some.inj q87)
      refine Runs.step e87 ?_
      refine Runs.step rfl ?_
      refine Runs.step rfl ?_
      refine Runs.ifT rfl ?_
      refine Runs.step (seenAt rfl rfl) ?_
      refine Runs.step (seenAt rfl (asSl_v _)) ?_
      refine Runs.step (seenAt rfl (asSl_v _)) ?_
      refine Runs.step (seen (avInt_int _ _)) ?_
      have G89 := (((((((g10.trans g11).updr (Nat.le_trans (g10).size (Nat.le_refl _)) u12).trans g17).trans g19).trans g23).trans g24).trans g27)
      have G90 := (((((g10.trans g11).updr (Nat.le_trans (g10).size (Nat.le_refl _)) u12).trans g17).trans g19).trans g23)
      have G91 := ((((((G89.trans g28).updr (Nat.le_trans (G89).size (Nat.le_refl _)) u29).updr (Nat.le_trans (G90).size (Nat.le_refl _)) u30).trans g37).trans g38).trans g39)
      have G92 := ((((G89.trans g28).updr (Nat.le_trans (G89).size (Nat.le_refl _)) u29).updr (Nat.le_trans (G90).size (Nat.le_refl _)) u30).trans g37)
      have G93 := (((g10.trans g11).updr (Nat.le_trans (g10).size (Nat.le_refl _)) u12).trans g17)
      have G94 := ((((((((G91.trans g40).updr (Nat.le_trans (G91).size (Nat.le_refl _)) u41).updr (Nat.le_trans (G92).size (Nat.le_refl _)) u42).trans g50).updr (Nat.le_trans (G93).size (Nat.le_refl _)) u52).trans g75).trans g76).trans g77)
      have G95 := ((((((G91.trans g40).updr (Nat.le_trans (G91).size (Nat.le_refl _)) u41).updr (Nat.le_trans (G92).size (Nat.le_refl _)) u42).trans g50).updr (Nat.le_trans (G93).size (Nat.le_refl _)) u52).trans g75)
      have G96 := (((((((((((((((((((((((((g10.trans g11).updr (Nat.le_trans (g10).size (Nat.le_refl _)) u12).trans g17).trans g19).trans g23).trans g24).trans g27).trans g28).updr (Nat.le_trans (G89).size (Nat.le_refl _)) u29).updr (Nat.le_trans (G90).size (Nat.le_refl _)) u30).trans g37).trans g38).trans g39).trans g40).updr (Nat.le_trans (G91).size (Nat.le_refl _)) u41).updr (Nat.le_trans (G92).size (Nat.le_refl _)) u42).trans g50).updr (Nat.le_trans (G93).size (Nat.le_refl _)) u52).trans g75).trans g76).trans g77).trans g78).updr (Nat.le_trans (G94).size (Nat.le_refl _)) u79).updr (Nat.le_trans (G95).size (Nat.le_refl _)) u80).trans g87)
      have b9_97 := G96.has b9
      refine Runs.puts b9_97 rfl fun H88 b88 u88 => ?_
      have G98 := (G90.trans g24)
      have G99 := (G84.trans g87)
      have n27_100 := n27_52.grow G99
      have n27_88 := n27_100.upda (Av.of_own o27 (G98.has b9).lt) u88
      have n27b_101 := n27b_52.grow G99
      have n27b_88 := n27b_101.upda (Av.of_own o27b (G98.has b9).lt) u88
      have G102 := (G92.trans g38)
      have n39_103 := n39_52.grow G99
      have n39_88 := n39_103.upda (Av.of_own o39 (G102.has b9).lt) u88
      have n39b_104 := n39b_52.grow G99
      have n39b_88 := n39b_104.upda (Av.of_own o39b (G102.has b9).lt) u88
      have G105 := (((G91.trans g40).updr (Nat.le_trans (G91).size (Nat.le_refl _)) u41).updr (Nat.le_trans (G92).size (Nat.le_refl _)) u42)
      have n50_88 := (n50_85.grow g87).upda (Av.of_own o50 (G105.has b9).lt) u88
      have n50b_88 := (n50b_86.grow g87).upda (Av.of_own o50b (G105.has b9).lt) u88
      have G106 := (G95.trans g76)
      have n77_88 := (n77_80.grow g87).upda (Av.of_own o77 (G106.has b9).lt) u88
      have n77b_88 := (n77b_80.grow g87).upda (Av.of_own o77b (G106.has b9).lt) u88
      have G107 := (((G94.trans g78).updr (Nat.le_trans (G94).size (Nat.le_refl _)) u79).updr (Nat.le_trans (G95).size (Nat.le_refl _)) u80)
      have n87_88 := n87.upda (Av.of_own o87 (G107.has b9).lt) u88
      have n87b_88 := n87b.upda (Av.of_own o87b (G107.has b9).lt) u88
      have b6_108 := G99.has b6_52
      have b6_88 := AH.has.updr b6_108 (Nat.ne_of_lt (Nat.lt_of_lt_of_le ((g7.trans g8).has b6).lt (Nat.le_refl _))) u88
      have b7_109 := G99.has b7_52
      have b7_88 := AH.has.updr b7_109 (Nat.ne_of_lt (Nat.lt_of_lt_of_le (g8.has b7).lt (Nat.le_refl _))) u88
      have b8_110 := G99.has b8_74
      have b8_88 := AH.has.updr b8_110 (Nat.ne_of_lt (Nat.lt_of_lt_of_le (b8).lt (Nat.le_refl _))) u88
      have G111 := (G25.trans g27)
      have G112 := ((((((G111.trans g28).updr (Nat.le_trans (G111).size (Nat.le_refl _)) u29).updr (Nat.le_trans (G34).size (Nat.le_refl _)) u30).trans g37).trans g38).trans g39)
      have G113 := ((((G111.trans g28).updr (Nat.le_trans (G111).size (Nat.le_refl _)) u29).updr (Nat.le_trans (G34).size (Nat.le_refl _)) u30).trans g37)
      have G114 := ((((((((G112.trans g40).updr (Nat.le_trans (G112).size (Nat.le_refl _)) u41).updr (Nat.le_trans (G113).size (Nat.le_refl _)) u42).trans g50).updr (Nat.le_trans (g17).size (Nat.le_refl _)) u52).trans g75).trans g76).trans g77)
      have G115 := ((((((G112.trans g40).updr (Nat.le_trans (G112).size (Nat.le_refl _)) u41).updr (Nat.le_trans (G113).size (Nat.le_refl _)) u42).trans g50).updr (Nat.le_trans (g17).size (Nat.le_refl _)) u52).trans g75)
      have G116 := (((((((((((((((((((G25.trans g27).trans g28).updr (Nat.le_trans (G111).size (Nat.le_refl _)) u29).updr (Nat.le_trans (G34).size (Nat.le_refl _)) u30).trans g37).trans g38).trans g39).trans g40).updr (Nat.le_trans (G112).size (Nat.le_refl _)) u41).updr (Nat.le_trans (G113).size (Nat.le_refl _)) u42).trans g50).updr (Nat.le_trans (g17).size (Nat.le_refl _)) u52).trans g75).trans g76).trans g77).trans g78).updr (Nat.le_trans (G114).size (Nat.le_refl _)) u79).updr (Nat.le_trans (G115).size (Nat.le_refl _)) u80).trans g87)
      have b12_117 := G116.has b12
      have b12_88 := AH.has.updr b12_117 (Nat.ne_of_gt (Nat.lt_of_lt_of_le (g10.has b9).lt (Nat.le_refl _))) u88
      have b52_118 := G99.has b52
      have b52_88 := AH.has.updr b52_118 (Nat.ne_of_gt (Nat.lt_of_lt_of_le (G93.has b9).lt (Nat.le_refl _))) u88
      have b23_119 := G99.has b23_52
      have G120 := (G93.trans g19)
      have b23_88 := AH.has.updr b23_119 (Nat.ne_of_gt (Nat.lt_of_lt_of_le (G120.has b9).lt (Nat.le_refl _))) u88
      have b30_121 := G99.has b30_52
      have b30_88 := AH.has.updr b30_121 (Nat.ne_of_gt (Nat.lt_of_lt_of_le (G90.has b9).lt (Nat.le_refl _))) u88
      have b29_122 := G99.has b29_52
      have b29_88 := AH.has.updr b29_122 (Nat.ne_of_gt (Nat.lt_of_lt_of_le (G89.has b9).lt (Nat.le_refl _))) u88
      have b37_123 := G99.has b37_52
      have G124 := (((G89.trans g28).updr (Nat.le_trans (G89).size (Nat.le_refl _)) u29).updr (Nat.le_trans (G90).size (Nat.le_refl _)) u30)
      have b37_88 := AH.has.updr b37_123 (Nat.ne_of_gt (Nat.lt_of_lt_of_le (G124.has b9).lt (Nat.le_refl _))) u88
      have b42_125 := G99.has b42_52
      have b42_88 := AH.has.updr b42_125 (Nat.ne_of_gt (Nat.lt_of_lt_of_le (G92.has b9).lt (Nat.le_refl _))) u88
      have b41_126 := G99.has b41_52
      have b41_88 := AH.has.updr b41_126 (Nat.ne_of_gt (Nat.lt_of_lt_of_le (G91.has b9).lt (Nat.le_refl _))) u88
      have G127 := (((((g76.trans g77).trans g78).updr (Nat.le_trans ((g76.trans g77)).size (Nat.le_refl _)) u79).updr (Nat.le_refl _) u80).trans g87)
      have b75_128 := G127.has b75
      have G129 := ((G105.trans g50).updr (Nat.le_trans (G93).size (Nat.le_refl _)) u52)
      have b75_88 := AH.has.updr b75_128 (Nat.ne_of_gt (Nat.lt_of_lt_of_le (G129.has b9).lt (Nat.le_refl _))) u88
      have b80_88 := AH.has.updr (g87.has b80) (Nat.ne_of_gt (Nat.lt_of_lt_of_le (G95.has b9).lt (Nat.le_refl _))) u88
      have b79_88 := AH.has.updr (g87.has b79_80) (Nat.ne_of_gt (Nat.lt_of_lt_of_le (G94.has b9).lt (Nat.le_refl _))) u88
      refine Runs.step (AH.has.rd b88 0 rfl rfl) ?_
      refine Runs.step (AH.has.rd b88 1 rfl (asSl_v _)) ?_
      refine Runs.step (AH.has.rd b88 2 rfl (asSl_v _)) ?_
      cases e
      cases good
      have G130 := ((((g6.trans g7).trans g8).trans g9).trans g10)
      have G131 := (((((((G130.trans g11).updr (Nat.le_trans (G130).size (Nat.le_refl _)) u12).trans g17).trans g19).trans g23).trans g24).trans g27)
      have G132 := (((((G130.trans g11).updr (Nat.le_trans (G130).size (Nat.le_refl _)) u12).trans g17).trans g19).trans g23)
      have G133 := ((((((G131.trans g28).updr (Nat.le_trans (G131).size (Nat.le_refl _)) u29).updr (Nat.le_trans (G132).size (Nat.le_refl _)) u30).trans g37).trans g38).trans g39)
      have G134 := ((((G131.trans g28).updr (Nat.le_trans (G131).size (Nat.le_refl _)) u29).updr (Nat.le_trans (G132).size (Nat.le_refl _)) u30).trans g37)
      have G135 := (((G130.trans g11).updr (Nat.le_trans (G130).size (Nat.le_refl _)) u12).trans g17)
      have G136 := ((((((((G133.trans g40).updr (Nat.le_trans (G133).size (Nat.le_refl _)) u41).updr (Nat.le_trans (G134).size (Nat.le_refl _)) u42).trans g50).updr (Nat.le_trans (G135).size (Nat.le_refl _)) u52).trans g75).trans g76).trans g77)
      have G137 := ((((((G133.trans g40).updr (Nat.le_trans (G133).size (Nat.le_refl _)) u41).updr (Nat.le_trans (G134).size (Nat.le_refl _)) u42).trans g50).updr (Nat.le_trans (G135).size (Nat.le_refl _)) u52).trans g75)
      have G138 := ((((((((((((((((((((((((((((g6.trans g7).trans g8).trans g9).trans g10).trans g11).updr (Nat.le_trans (G130).size (Nat.le_refl _)) u12).trans g17).trans g19).trans g23).trans g24).trans g27).trans g28).updr (Nat.le_trans (G131).size (Nat.le_refl _)) u29).updr (Nat.le_trans (G132).size (Nat.le_refl _)) u30).trans g37).trans g38).trans g39).trans g40).updr (Nat.le_trans (G133).size (Nat.le_refl _)) u41).updr (Nat.le_trans (G134).size (Nat.le_refl _)) u42).trans g50).updr (Nat.le_trans (G135).size (Nat.le_refl _)) u52).trans g75).trans g76).trans g77).trans g78).updr (Nat.le_trans (G136).size (Nat.le_refl _)) u79).updr (Nat.le_trans (G137).size (Nat.le_refl _)) u80)
      have G139 := ((g6.trans g7).trans g8)
      have G140 := ((G138.trans g87).updr (Nat.le_trans (G139).size (Nat.le_refl _)) u88)
      exact Runs.ret ⟨s87, s87b, rfl, n87_88, n87b_88, G140, (o87.of_le G138), (o87b.of_le G138)⟩

theorem gain_Gain_run {s : gain_Gain_St} {r : gain_Gain_Res} (it : Iter gain_Gain_step s r) : gain_Gain_At r s := Iter.ind (fun s o e good => by
  cases s with
  | fn a1 a2 a3 a4 a5 => exact @gain_Gain_fn_walk _ _ a1 a2 a3 a4 a5 e good
  | no => exact True.intro
  ) it

theorem gain_Gain_opt {h : AH}  {a1 : Int} {a2 : Int} {a3 : Int} {a4 : Int} {a5 : Int}  {r : gain_Gain_Res} (q : runP gain_Gain_step (.fn a1 a2 a3 a4 a5) = some r) : Runs (go (.fn F.gain_Gain [.int .i64 a1, .agg [.int .i64 a2, .int .i64 a3], .agg [.int .i64 a4, .int .i64 a5]]) h) (gain_Gain_post h r) := gain_Gain_run (runP_iter q) 

inductive ref17_Gain_St
  | fn (a1 : Int) (a2 : Int) (a3 : Int) (a4 : Int) (a5 : Int)
  | no

abbrev ref17_Gain_Res := Bool × List Nat × List Nat × Int

noncomputable def ref17_Gain_fn' (a1 : Int) (a2 : Int) (a3 : Int) (a4 : Int) (a5 : Int) : Option (ref17_Gain_St ⊕ ref17_Gain_Res) :=
  cond (!((gain_right' a2 a3 a4 a5).2.2)) (some (.inr (false, [], [], 1))) (cond (decide (a1 < 1)) (some (.inr (false, [], [], 1))) (cond (decide (a1 > 1048576)) (some (.inr (false, [], [], 1))) ((some (ref08_Add' (((scoreF a1 a2 a3).1)) ((scoreF a1 a2 a3).2.1) ((scoreF a1 a2 a3).2.2.1) (((scoreF a1 (((gain_right' a2 a3 a4 a5).1)) (((gain_right' a2 a3 a4 a5).2.1))).1)) ((scoreF a1 (((gain_right' a2 a3 a4 a5).1)) (((gain_right' a2 a3 a4 a5).2.1))).2.1) ((scoreF a1 (((gain_right' a2 a3 a4 a5).1)) (((gain_right' a2 a3 a4 a5).2.1))).2.2.1))).bind fun p47 => (some (ref08_Sub' ((p47.1)) p47.2.1 p47.2.2.1 (((scoreF a1 a4 a5).1)) ((scoreF a1 a4 a5).2.1) ((scoreF a1 a4 a5).2.2.1))).bind fun p56 => some (.inr (((p56.1)), p56.2.1, p56.2.2.1, (p56.2.2.2))))))

noncomputable def ref17_Gain_step : ref17_Gain_St → Option (ref17_Gain_St ⊕ ref17_Gain_Res)
  | .fn a1 a2 a3 a4 a5 => ref17_Gain_fn' a1 a2 a3 a4 a5
  | .no => none

@[reducible] def ref17_Gain_post (h0 : AH) (r : ref17_Gain_Res) (v : AV) (h' : AH) : Prop := ∃ s1 : Sl, ∃ s2 : Sl, v = .tup [.agg [.bool r.1, s1.v, s2.v], .int .i64 r.2.2.2] ∧ Nats h' s1 r.2.1 ∧ Nats h' s2 r.2.2.1 ∧ Grow h0 h' ∧ Own h0 s1 ∧ Own h0 s2

def ref17_Gain_At (r : ref17_Gain_Res) : ref17_Gain_St → Prop
  | .fn a1 a2 a3 a4 a5 => ∀ {h : AH}, Runs (go (.fn F.ref17_Gain [.int .i64 a1, .agg [.int .i64 a2, .int .i64 a3], .agg [.int .i64 a4, .int .i64 a5]]) h) (ref17_Gain_post h r)
  | .no => True

theorem ref17_Gain_fn_walk {r : ref17_Gain_Res} {o : ref17_Gain_St ⊕ ref17_Gain_Res} {a1 : Int} {a2 : Int} {a3 : Int} {a4 : Int} {a5 : Int} (e : ref17_Gain_fn' a1 a2 a3 a4 a5 = some o) (good : GoodS (ref17_Gain_At r) r o) : ref17_Gain_At r (.fn a1 a2 a3 a4 a5) := by
  intro h
  rw [u_ref17_Gain]
  unfold ref17_Gain_fn' at e
  refine Runs.new fun H6 b6 g6 => ?_
  refine Runs.new fun H7 b7 g7 => ?_
  refine Runs.new fun H8 b8 g8 => ?_
  refine Runs.step (AH.has.rd ((g7.trans g8).has b6) 0 rfl (avInt_int _ _)) ?_
  refine Runs.step (AH.has.rd ((g7.trans g8).has b6) 1 rfl (avInt_int _ _)) ?_
  refine Runs.step (AH.has.rd (g8.has b7) 0 rfl (avInt_int _ _)) ?_
  refine Runs.step (AH.has.rd (g8.has b7) 1 rfl (avInt_int _ _)) ?_
  obtain ⟨_, H9, e9, rfl, g9⟩ := ref17_Right_is a2 a3 a4 a5
  refine Runs.step e9 ?_
  refine Runs.step rfl ?_
  refine Runs.step rfl ?_
  refine Runs.ifT rfl ?_
  refine Runs.step (seenAt rfl (avInt_int _ _)) ?_
  refine Runs.step (seenAt rfl (avInt_int _ _)) ?_
  refine Runs.step (seen rfl) ?_
  refine Runs.new fun H10 b10 g10 => ?_
  refine Runs.puts b10 rfl fun H11 b11 u11 => ?_
  refine Runs.cond (fun k12 => ?_) (fun k12 => ?_)
  · replace e := (condT k12).symm.trans e
    have G14 := ((g9.trans g10).updr (Nat.le_trans (g9).size (Nat.le_refl _)) u11)
    have b8_15 := G14.has b8
    refine Runs.puts b8_15 rfl fun H13 b13 u13 => ?_
    have b11_13 := AH.has.updr b11 (Nat.ne_of_gt (Nat.lt_of_lt_of_le (g9.has b8).lt (Nat.le_refl _))) u13
    refine Runs.step (AH.has.rd b13 0 rfl rfl) ?_
    refine Runs.step (AH.has.rd b13 1 rfl (asSl_v _)) ?_
    refine Runs.step (AH.has.rd b13 2 rfl (asSl_v _)) ?_
    cases e
    cases good
    have G16 := (((g6.trans g7).trans g8).trans g9)
    have G17 := ((((((g6.trans g7).trans g8).trans g9).trans g10).updr (Nat.le_trans (G16).size (Nat.le_refl _)) u11).updr (Nat.le_trans ((g6.trans g7)).size (Nat.le_refl _)) u13)
    exact Runs.ret ⟨(⟨none, 0, .is 0⟩ : Sl), (⟨none, 0, .is 0⟩ : Sl), rfl, (Nats.nil _), (Nats.nil _), G17, (Own.nil _), (Own.nil _)⟩
  · replace e := (condF k12).symm.trans e
    refine Runs.cond (fun k13 => ?_) (fun k13 => ?_)
    · replace e := (condT k13).symm.trans e
      have G15 := ((g9.trans g10).updr (Nat.le_trans (g9).size (Nat.le_refl _)) u11)
      have b8_16 := G15.has b8
      refine Runs.puts b8_16 rfl fun H14 b14 u14 => ?_
      have b11_14 := AH.has.updr b11 (Nat.ne_of_gt (Nat.lt_of_lt_of_le (g9.has b8).lt (Nat.le_refl _))) u14
      refine Runs.step (AH.has.rd b14 0 rfl rfl) ?_
      refine Runs.step (AH.has.rd b14 1 rfl (asSl_v _)) ?_
      refine Runs.step (AH.has.rd b14 2 rfl (asSl_v _)) ?_
      cases e
      cases good
      have G17 := (((g6.trans g7).trans g8).trans g9)
      have G18 := ((((((g6.trans g7).trans g8).trans g9).trans g10).updr (Nat.le_trans (G17).size (Nat.le_refl _)) u11).updr (Nat.le_trans ((g6.trans g7)).size (Nat.le_refl _)) u14)
      exact Runs.ret ⟨(⟨none, 0, .is 0⟩ : Sl), (⟨none, 0, .is 0⟩ : Sl), rfl, (Nats.nil _), (Nats.nil _), G18, (Own.nil _), (Own.nil _)⟩
    · replace e := (condF k13).symm.trans e
      refine Runs.cond (fun k14 => ?_) (fun k14 => ?_)
      · replace e := (condT k14).symm.trans e
        have G16 := ((g9.trans g10).updr (Nat.le_trans (g9).size (Nat.le_refl _)) u11)
        have b8_17 := G16.has b8
        refine Runs.puts b8_17 rfl fun H15 b15 u15 => ?_
        have b11_15 := AH.has.updr b11 (Nat.ne_of_gt (Nat.lt_of_lt_of_le (g9.has b8).lt (Nat.le_refl _))) u15
        refine Runs.step (AH.has.rd b15 0 rfl rfl) ?_
        refine Runs.step (AH.has.rd b15 1 rfl (asSl_v _)) ?_
        refine Runs.step (AH.has.rd b15 2 rfl (asSl_v _)) ?_
        cases e
        cases good
        have G18 := (((g6.trans g7).trans g8).trans g9)
        have G19 := ((((((g6.trans g7).trans g8).trans g9).trans g10).updr (Nat.le_trans (G18).size (Nat.le_refl _)) u11).updr (Nat.le_trans ((g6.trans g7)).size (Nat.le_refl _)) u15)
        exact Runs.ret ⟨(⟨none, 0, .is 0⟩ : Sl), (⟨none, 0, .is 0⟩ : Sl), rfl, (Nats.nil _), (Nats.nil _), G19, (Own.nil _), (Own.nil _)⟩
      · replace e := (condF k14).symm.trans e
        have G15 := ((g7.trans g8).trans g9)
        have G16 := ((((g7.trans g8).trans g9).trans g10).updr (Nat.le_trans (G15).size (Nat.le_refl _)) u11)
        have b6_17 := G16.has b6
        refine Runs.step (AH.has.rd b6_17 0 rfl (avInt_int _ _)) ?_
        refine Runs.step (AH.has.rd b6_17 1 rfl (avInt_int _ _)) ?_
        obtain ⟨_, H18, e18, s18, s18b, rfl, n18, n18b, g18, o18, o18b⟩ := ref17_Score_spec a1 a2 a3
        refine Runs.step e18 ?_
        refine Runs.step rfl ?_
        refine Runs.step rfl ?_
        refine Runs.ifT rfl ?_
        refine Runs.step (seenAt rfl rfl) ?_
        refine Runs.step (seenAt rfl (asSl_v _)) ?_
        refine Runs.step (seenAt rfl (asSl_v _)) ?_
        refine Runs.step (seen (avInt_int _ _)) ?_
        refine Runs.new fun H19 b19 g19 => ?_
        refine Runs.puts b19 rfl fun H20 b20 u20 => ?_
        have G21 := ((g18.trans g19).updr (Nat.le_trans (g18).size (Nat.le_refl _)) u20)
        have b11_22 := G21.has b11
        refine Runs.step (AH.has.rd b11_22 0 rfl (avInt_int _ _)) ?_
        refine Runs.step (AH.has.rd b11_22 1 rfl (avInt_int _ _)) ?_
        obtain ⟨_, H23, e23, s23, s23b, rfl, n23, n23b, g23, o23, o23b⟩ := ref17_Score_spec a1 (((gain_right' a2 a3 a4 a5).1)) (((gain_right' a2 a3 a4 a5).2.1))
        refine Runs.step e23 ?_
        refine Runs.step rfl ?_
        refine Runs.step rfl ?_
        refine Runs.ifT rfl ?_
        refine Runs.step (seenAt rfl rfl) ?_
        refine Runs.step (seenAt rfl (asSl_v _)) ?_
        refine Runs.step (seenAt rfl (asSl_v _)) ?_
        refine Runs.step (seen (avInt_int _ _)) ?_
        refine Runs.new fun H24 b24 g24 => ?_
        refine Runs.puts b24 rfl fun H25 b25 u25 => ?_
        have G26 := ((((g8.trans g9).trans g10).updr (Nat.le_trans ((g8.trans g9)).size (Nat.le_refl _)) u11).trans g18)
        have G27 := (((G26.trans g19).updr (Nat.le_trans (G26).size (Nat.le_refl _)) u20).trans g23)
        have G28 := (((((((((g8.trans g9).trans g10).updr (Nat.le_trans ((g8.trans g9)).size (Nat.le_refl _)) u11).trans g18).trans g19).updr (Nat.le_trans (G26).size (Nat.le_refl _)) u20).trans g23).trans g24).updr (Nat.le_trans (G27).size (Nat.le_refl _)) u25)
        have b7_29 := G28.has b7
        refine Runs.step (AH.has.rd b7_29 0 rfl (avInt_int _ _)) ?_
        refine Runs.step (AH.has.rd b7_29 1 rfl (avInt_int _ _)) ?_
        obtain ⟨_, H30, e30, s30, s30b, rfl, n30, n30b, g30, o30, o30b⟩ := ref17_Score_spec a1 a4 a5
        refine Runs.step e30 ?_
        refine Runs.step rfl ?_
        refine Runs.step rfl ?_
        refine Runs.ifT rfl ?_
        refine Runs.step (seenAt rfl rfl) ?_
        refine Runs.step (seenAt rfl (asSl_v _)) ?_
        refine Runs.step (seenAt rfl (asSl_v _)) ?_
        refine Runs.step (seen (avInt_int _ _)) ?_
        refine Runs.new fun H31 b31 g31 => ?_
        refine Runs.puts b31 rfl fun H32 b32 u32 => ?_
        have G33 := (((g23.trans g24).updr (Nat.le_trans (g23).size (Nat.le_refl _)) u25).trans g30)
        have G34 := (((((g23.trans g24).updr (Nat.le_trans (g23).size (Nat.le_refl _)) u25).trans g30).trans g31).updr (Nat.le_trans (G33).size (Nat.le_refl _)) u32)
        have b20_35 := G34.has b20
        refine Runs.step (AH.has.rd b20_35 0 rfl rfl) ?_
        refine Runs.step (AH.has.rd b20_35 1 rfl (asSl_v _)) ?_
        refine Runs.step (AH.has.rd b20_35 2 rfl (asSl_v _)) ?_
        have G36 := ((g30.trans g31).updr (Nat.le_trans (g30).size (Nat.le_refl _)) u32)
        have b25_37 := G36.has b25
        refine Runs.step (AH.has.rd b25_37 0 rfl rfl) ?_
        refine Runs.step (AH.has.rd b25_37 1 rfl (asSl_v _)) ?_
        refine Runs.step (AH.has.rd b25_37 2 rfl (asSl_v _)) ?_
        have G38 := ((g19.updr (Nat.le_refl _) u20).trans g23)
        have G39 := (((G38.trans g24).updr (Nat.le_trans (G38).size (Nat.le_refl _)) u25).trans g30)
        have G40 := (((((((g19.updr (Nat.le_refl _) u20).trans g23).trans g24).updr (Nat.le_trans (G38).size (Nat.le_refl _)) u25).trans g30).trans g31).updr (Nat.le_trans (G39).size (Nat.le_refl _)) u32)
        have n18_41 := n18.grow G40
        have n18b_42 := n18b.grow G40
        have G43 := ((g24.updr (Nat.le_refl _) u25).trans g30)
        have G44 := ((((g24.updr (Nat.le_refl _) u25).trans g30).trans g31).updr (Nat.le_trans (G43).size (Nat.le_refl _)) u32)
        have n23_45 := n23.grow G44
        have n23b_46 := n23b.grow G44
        obtain ⟨p47, q47, e⟩ := Option.bind_eq_some_iff.1 e
        obtain ⟨_, H47, e47, s47, s47b, rfl, n47, n47b, g47, o47, o47b⟩ := ref08_Add_t n18_41 n18b_42 n23_45 n23b_46 (Option.some.inj q47)
        refine Runs.step e47 ?_
        refine Runs.step rfl ?_
        refine Runs.step rfl ?_
        refine Runs.ifT rfl ?_
        refine Runs.step (seenAt rfl rfl) ?_
        refine Runs.step (seenAt rfl (asSl_v _)) ?_
        refine Runs.step (seenAt rfl (asSl_v _)) ?_
        refine Runs.step (seen (avInt_int _ _)) ?_
        refine Runs.new fun H48 b48 g48 => ?_
        refine Runs.puts b48 rfl fun H49 b49 u49 => ?_
        refine Runs.step (AH.has.rd b49 0 rfl rfl) ?_
        refine Runs.step (AH.has.rd b49 1 rfl (asSl_v _)) ?_
        refine Runs.step (AH.has.rd b49 2 rfl (asSl_v _)) ?_
        have G50 := ((g47.trans g48).updr (Nat.le_trans (g47).size (Nat.le_refl _)) u49)
        have b32_51 := G50.has b32
        refine Runs.step (AH.has.rd b32_51 0 rfl rfl) ?_
        refine Runs.step (AH.has.rd b32_51 1 rfl (asSl_v _)) ?_
        refine Runs.step (AH.has.rd b32_51 2 rfl (asSl_v _)) ?_
        have G52 := ((g31.updr (Nat.le_refl _) u32).trans g47)
        have G53 := ((((g31.updr (Nat.le_refl _) u32).trans g47).trans g48).updr (Nat.le_trans (G52).size (Nat.le_refl _)) u49)
        have n30_54 := n30.grow G53
        have n30b_55 := n30b.grow G53
        obtain ⟨p56, q56, e⟩ := Option.bind_eq_some_iff.1 e
        obtain ⟨_, H56, e56, s56, s56b, rfl, n56, n56b, g56, o56, o56b⟩ := ref08_Sub_t (n47.grow (g48.updr (Nat.le_refl _) u49)) (n47b.grow (g48.updr (Nat.le_refl _) u49)) n30_54 n30b_55 (Option.some.inj q56)
        refine Runs.step e56 ?_
        refine Runs.step rfl ?_
        refine Runs.step rfl ?_
        refine Runs.ifT rfl ?_
        refine Runs.step (seenAt rfl rfl) ?_
        refine Runs.step (seenAt rfl (asSl_v _)) ?_
        refine Runs.step (seenAt rfl (asSl_v _)) ?_
        refine Runs.step (seen (avInt_int _ _)) ?_
        have G58 := (((g9.trans g10).updr (Nat.le_trans (g9).size (Nat.le_refl _)) u11).trans g18)
        have G59 := (((G58.trans g19).updr (Nat.le_trans (G58).size (Nat.le_refl _)) u20).trans g23)
        have G60 := (((G59.trans g24).updr (Nat.le_trans (G59).size (Nat.le_refl _)) u25).trans g30)
        have G61 := (((G60.trans g31).updr (Nat.le_trans (G60).size (Nat.le_refl _)) u32).trans g47)
        have G62 := (((((((((((((((g9.trans g10).updr (Nat.le_trans (g9).size (Nat.le_refl _)) u11).trans g18).trans g19).updr (Nat.le_trans (G58).size (Nat.le_refl _)) u20).trans g23).trans g24).updr (Nat.le_trans (G59).size (Nat.le_refl _)) u25).trans g30).trans g31).updr (Nat.le_trans (G60).size (Nat.le_refl _)) u32).trans g47).trans g48).updr (Nat.le_trans (G61).size (Nat.le_refl _)) u49).trans g56)
        have b8_63 := G62.has b8
        refine Runs.puts b8_63 rfl fun H57 b57 u57 => ?_
        have G64 := ((g9.trans g10).updr (Nat.le_trans (g9).size (Nat.le_refl _)) u11)
        have G65 := (G50.trans g56)
        have n18_66 := n18_41.grow G65
        have n18_57 := n18_66.upda (Av.of_own o18 (G64.has b8).lt) u57
        have n18b_67 := n18b_42.grow G65
        have n18b_57 := n18b_67.upda (Av.of_own o18b (G64.has b8).lt) u57
        have G68 := ((G58.trans g19).updr (Nat.le_trans (G58).size (Nat.le_refl _)) u20)
        have n23_69 := n23_45.grow G65
        have n23_57 := n23_69.upda (Av.of_own o23 (G68.has b8).lt) u57
        have n23b_70 := n23b_46.grow G65
        have n23b_57 := n23b_70.upda (Av.of_own o23b (G68.has b8).lt) u57
        have G71 := ((G59.trans g24).updr (Nat.le_trans (G59).size (Nat.le_refl _)) u25)
        have n30_57 := (n30_54.grow g56).upda (Av.of_own o30 (G71.has b8).lt) u57
        have n30b_57 := (n30b_55.grow g56).upda (Av.of_own o30b (G71.has b8).lt) u57
        have G72 := ((G60.trans g31).updr (Nat.le_trans (G60).size (Nat.le_refl _)) u32)
        have G73 := ((g48.updr (Nat.le_refl _) u49).trans g56)
        have n47_74 := n47.grow G73
        have n47_57 := n47_74.upda (Av.of_own o47 (G72.has b8).lt) u57
        have n47b_75 := n47b.grow G73
        have n47b_57 := n47b_75.upda (Av.of_own o47b (G72.has b8).lt) u57
        have G76 := ((G61.trans g48).updr (Nat.le_trans (G61).size (Nat.le_refl _)) u49)
        have n56_57 := n56.upda (Av.of_own o56 (G76.has b8).lt) u57
        have n56b_57 := n56b.upda (Av.of_own o56b (G76.has b8).lt) u57
        have G77 := (G21.trans g23)
        have G78 := (((G77.trans g24).updr (Nat.le_trans (G77).size (Nat.le_refl _)) u25).trans g30)
        have G79 := (((G78.trans g31).updr (Nat.le_trans (G78).size (Nat.le_refl _)) u32).trans g47)
        have G80 := ((((((((((G21.trans g23).trans g24).updr (Nat.le_trans (G77).size (Nat.le_refl _)) u25).trans g30).trans g31).updr (Nat.le_trans (G78).size (Nat.le_refl _)) u32).trans g47).trans g48).updr (Nat.le_trans (G79).size (Nat.le_refl _)) u49).trans g56)
        have b6_81 := G80.has b6_17
        have b6_57 := AH.has.updr b6_81 (Nat.ne_of_lt (Nat.lt_of_lt_of_le (g7.has b6).lt (Nat.le_refl _))) u57
        have G82 := (G36.trans g47)
        have G83 := ((((G36.trans g47).trans g48).updr (Nat.le_trans (G82).size (Nat.le_refl _)) u49).trans g56)
        have b7_84 := G83.has b7_29
        have b7_57 := AH.has.updr b7_84 (Nat.ne_of_lt (Nat.lt_of_lt_of_le (b7).lt (Nat.le_refl _))) u57
        have G85 := (G34.trans g47)
        have G86 := ((((G34.trans g47).trans g48).updr (Nat.le_trans (G85).size (Nat.le_refl _)) u49).trans g56)
        have b11_87 := G86.has b11_22
        have b11_57 := AH.has.updr b11_87 (Nat.ne_of_gt (Nat.lt_of_lt_of_le (g9.has b8).lt (Nat.le_refl _))) u57
        have b20_88 := G65.has b20_35
        have b20_57 := AH.has.updr b20_88 (Nat.ne_of_gt (Nat.lt_of_lt_of_le (G58.has b8).lt (Nat.le_refl _))) u57
        have b25_89 := G65.has b25_37
        have b25_57 := AH.has.updr b25_89 (Nat.ne_of_gt (Nat.lt_of_lt_of_le (G59.has b8).lt (Nat.le_refl _))) u57
        have b32_57 := AH.has.updr (g56.has b32_51) (Nat.ne_of_gt (Nat.lt_of_lt_of_le (G60.has b8).lt (Nat.le_refl _))) u57
        have b49_57 := AH.has.updr (g56.has b49) (Nat.ne_of_gt (Nat.lt_of_lt_of_le (G61.has b8).lt (Nat.le_refl _))) u57
        refine Runs.step (AH.has.rd b57 0 rfl rfl) ?_
        refine Runs.step (AH.has.rd b57 1 rfl (asSl_v _)) ?_
        refine Runs.step (AH.has.rd b57 2 rfl (asSl_v _)) ?_
        cases e
        cases good
        have G90 := (((g6.trans g7).trans g8).trans g9)
        have G91 := (((G90.trans g10).updr (Nat.le_trans (G90).size (Nat.le_refl _)) u11).trans g18)
        have G92 := (((G91.trans g19).updr (Nat.le_trans (G91).size (Nat.le_refl _)) u20).trans g23)
        have G93 := (((G92.trans g24).updr (Nat.le_trans (G92).size (Nat.le_refl _)) u25).trans g30)
        have G94 := (((G93.trans g31).updr (Nat.le_trans (G93).size (Nat.le_refl _)) u32).trans g47)
        have G95 := (((((((((((((((((g6.trans g7).trans g8).trans g9).trans g10).updr (Nat.le_trans (G90).size (Nat.le_refl _)) u11).trans g18).trans g19).updr (Nat.le_trans (G91).size (Nat.le_refl _)) u20).trans g23).trans g24).updr (Nat.le_trans (G92).size (Nat.le_refl _)) u25).trans g30).trans g31).updr (Nat.le_trans (G93).size (Nat.le_refl _)) u32).trans g47).trans g48).updr (Nat.le_trans (G94).size (Nat.le_refl _)) u49)
        have G96 := ((G95.trans g56).updr (Nat.le_trans ((g6.trans g7)).size (Nat.le_refl _)) u57)
        exact Runs.ret ⟨s56, s56b, rfl, n56_57, n56b_57, G96, (o56.of_le G95), (o56b.of_le G95)⟩

theorem ref17_Gain_run {s : ref17_Gain_St} {r : ref17_Gain_Res} (it : Iter ref17_Gain_step s r) : ref17_Gain_At r s := Iter.ind (fun s o e good => by
  cases s with
  | fn a1 a2 a3 a4 a5 => exact @ref17_Gain_fn_walk _ _ a1 a2 a3 a4 a5 e good
  | no => exact True.intro
  ) it

theorem ref17_Gain_opt {h : AH}  {a1 : Int} {a2 : Int} {a3 : Int} {a4 : Int} {a5 : Int}  {r : ref17_Gain_Res} (q : runP ref17_Gain_step (.fn a1 a2 a3 a4 a5) = some r) : Runs (go (.fn F.ref17_Gain [.int .i64 a1, .agg [.int .i64 a2, .int .i64 a3], .agg [.int .i64 a4, .int .i64 a5]]) h) (ref17_Gain_post h r) := ref17_Gain_run (runP_iter q) 

end Go.Ab

/- Layer 17: what Gain answers. -/
set_option linter.unusedVariables false
set_option linter.unusedSimpArgs false
set_option maxRecDepth 10000
namespace Go.Ab
open Go.Proofs Go.Num

abbrev Frc := Bool × List Nat × List Nat × Int
theorem eta4 (x : Frc) : (x.1, x.2.1, x.2.2.1, x.2.2.2) = x := rfl
def addQ (a b : Frc) : Frc := rational_Add' a.1 a.2.1 a.2.2.1 b.1 b.2.1 b.2.2.1
def subQ (a b : Frc) : Frc := rational_Sub' a.1 a.2.1 a.2.2.1 b.1 b.2.1 b.2.2.1

/-- What Gain answers. -/
def gainF (l g n G N : Int) : Frc :=
  cond (!(gain_right' g n G N).2.2) (false, [], [], 1) (cond (!gain_mayLambda' l) (false, [], [], 1) (subQ (addQ (scoreF l g n) (scoreF l (gain_right' g n G N).1 (gain_right' g n G N).2.1)) (scoreF l G N)))

def Frc.Lt (a : Frc) : Prop := (∀ x ∈ a.2.1, x < B) ∧ ∀ x ∈ a.2.2.1, x < B

theorem fracM_lt (z : Int) (d : Nat) : Frc.Lt (fracM z d) := by
  unfold fracM Frc.Lt
  split
  · exact ⟨digs_lt B2 _, digs_lt B2 _⟩
  · exact ⟨by simp, by simp⟩

theorem no_lt (n : Int) : Frc.Lt (false, [], [], n) := ⟨by simp, by simp⟩

theorem scoreF_lt (l g n : Int) : Frc.Lt (scoreF l g n) := by
  unfold scoreF
  split
  · exact fracM_lt _ _
  · exact no_lt _

theorem addQ_lt {a b : Frc} (ha : a.Lt) (hb : b.Lt) : (addQ a b).Lt := by
  unfold addQ
  cases h : (rational_Right' a.1 a.2.1 a.2.2.1 && rational_Right' b.1 b.2.1 b.2.2.1) with
  | false => rw [Add_no h]; exact no_lt _
  | true =>
    obtain ⟨z, d, w, e, f, k⟩ := both_of ha.1 ha.2 hb.1 hb.2 h
    rw [Add_of f k]
    exact fracM_lt _ _

theorem subQ_lt {a b : Frc} (ha : a.Lt) (hb : b.Lt) : (subQ a b).Lt := by
  unfold subQ
  cases h : (rational_Right' a.1 a.2.1 a.2.2.1 && rational_Right' b.1 b.2.1 b.2.2.1) with
  | false => rw [Sub_no h]; exact no_lt _
  | true =>
    obtain ⟨z, d, w, e, f, k⟩ := both_of ha.1 ha.2 hb.1 hb.2 h
    rw [Sub_of f k]
    exact fracM_lt _ _

theorem gain_Gain_iter (l g n G N : Int) : Iter gain_Gain_step (.fn l g n G N) (gainF l g n G N) := .done (by
  show gain_Gain_fn' _ _ _ _ _ = _
  unfold gain_Gain_fn' gainF
  cases (gain_right' g n G N).2.2 with
  | false => rfl
  | true =>
    cases gain_mayLambda' l with
    | false => rfl
    | true =>
      simp only [Bool.not_true, cond_false]
      unfold subQ addQ
      exact congrArg (fun r => some (Sum.inr r)) (eta4 _))

theorem ref17_Gain_iter (l g n G N : Int) : Iter ref17_Gain_step (.fn l g n G N) (gainF l g n G N) := .done (by
  show ref17_Gain_fn' _ _ _ _ _ = _
  unfold ref17_Gain_fn' gainF
  have e := ref08_Sub_eq (p := (addQ (scoreF l g n) (scoreF l (gain_right' g n G N).1 (gain_right' g n G N).2.1)).1) (q := (scoreF l G N).1) (addQ_lt (scoreF_lt l g n) (scoreF_lt l (gain_right' g n G N).1 (gain_right' g n G N).2.1)).1 (addQ_lt (scoreF_lt l g n) (scoreF_lt l (gain_right' g n G N).1 (gain_right' g n G N).2.1)).2 (scoreF_lt l G N).1 (scoreF_lt l G N).2
  unfold addQ at e
  simp only [Option.bind_some]
  rw [ref08_Add_eq, e]
  cases (gain_right' g n G N).2.2 with
  | false => rfl
  | true =>
    cases h2 : gain_mayLambda' l with
    | false =>
      have h2 : ¬ (1 ≤ l ∧ l ≤ 1048576) := fun e => by rw [mayL_iff.2 e] at h2; cases h2
      simp only [Bool.not_true, cond_false]
      refine cond_elim (fun _ => rfl) fun k1 => ?_
      rw [decide_eq_false_iff_not] at k1
      rw [condT (by rw [decide_eq_true_eq]; omega)]
      rfl
    | true =>
      obtain ⟨b1, b2⟩ := mayL_iff.1 h2
      rw [decide_eq_false (by omega : ¬ l < 1), decide_eq_false (by omega : ¬ l > 1048576)]
      simp only [Bool.not_true, cond_false]
      unfold subQ addQ
      exact congrArg (fun r => some (Sum.inr r)) (eta4 _))

theorem gain_Gain_spec {h : AH} (l g n G N : Int) : Runs (go (.fn F.gain_Gain [.int .i64 l, .agg [.int .i64 g, .int .i64 n], .agg [.int .i64 G, .int .i64 N]]) h) (gain_Gain_post h (gainF l g n G N)) := gain_Gain_run (gain_Gain_iter l g n G N)
theorem ref17_Gain_spec {h : AH} (l g n G N : Int) : Runs (go (.fn F.ref17_Gain [.int .i64 l, .agg [.int .i64 g, .int .i64 n], .agg [.int .i64 G, .int .i64 N]]) h) (ref17_Gain_post h (gainF l g n G N)) := ref17_Gain_run (ref17_Gain_iter l g n G N)

/-- A fraction of small numbers is made. -/
theorem fracM_is {z : Int} {d : Nat} (hd : 0 < d) (hz : z.natAbs < B ^ 16) (hd' : d < B ^ 16) : ∃ (w : Int) (e : Nat), fracM z d = ((intD w).1, (intD w).2, digs B e, 0) ∧ IsFrac (fracM z d).1 (fracM z d).2.1 (fracM z d).2.2.1 w e ∧ w.natAbs ≤ z.natAbs ∧ e ≤ d := by
  have h0 : (fracM z d).2.2.2 = 0 := by
    unfold fracM
    rw [if_pos ⟨Nat.lt_of_le_of_lt (Nat.div_le_self _ _) hz, Nat.lt_of_le_of_lt (Nat.div_le_self _ _) hd'⟩]
  obtain ⟨w, e, e1, f, _, g, hg, e2, e3⟩ := fracM_ok hd h0
  refine ⟨w, e, e1, f, ?_, ?_⟩
  · rw [e2, Int.natAbs_mul, Int.natAbs_natCast]
    exact Nat.le_mul_of_pos_right _ hg
  · rw [e3]
    exact Nat.le_mul_of_pos_left _ hg

theorem right_true {g n G N : Int} (h : (gain_right' g n G N).2.2 = true) : gain_may' g n = true ∧ gain_may' G N = true ∧ gain_may' (G - g) (N - n) = true ∧ gain_right' g n G N = (G - g, N - n, true) := by
  unfold gain_right' at h ⊢
  cases h1 : gain_may' g n with
  | false => rw [h1] at h; cases h
  | true =>
    cases h2 : gain_may' G N with
    | false => rw [h1, h2] at h; cases h
    | true =>
      obtain ⟨a1, a2, a3, a4⟩ := may_iff.1 h1
      obtain ⟨b1, b2, b3, b4⟩ := may_iff.1 h2
      rw [h1, h2, wrap64 (by omega) (by omega), wrap64 (by omega) (by omega)] at h
      have h : gain_may' (G - g) (N - n) = true := h
      rw [wrap64 (by omega) (by omega), wrap64 (by omega) (by omega), h]
      exact ⟨rfl, rfl, rfl, rfl⟩

theorem right_of {g n G N : Int} (h1 : gain_may' g n = true) (h2 : gain_may' G N = true) (h3 : gain_may' (G - g) (N - n) = true) : gain_right' g n G N = (G - g, N - n, true) := by
  unfold gain_right'
  obtain ⟨a1, a2, a3, a4⟩ := may_iff.1 h1
  obtain ⟨b1, b2, b3, b4⟩ := may_iff.1 h2
  rw [h1, h2, wrap64 (by omega) (by omega), wrap64 (by omega) (by omega), h3]
  rfl

theorem num_bound : 1099511627776 * 1099511627776 * 2097152 * 8 < B ^ 16 := by decide +kernel

/-- The score of sums that may be. -/
theorem score_is {l g n : Int} (h1 : gain_may' g n = true) (h2 : gain_mayLambda' l = true) : ∃ (w : Int) (e : Nat), scoreF l g n = ((intD w).1, (intD w).2, digs B e, 0) ∧ IsFrac (scoreF l g n).1 (scoreF l g n).2.1 (scoreF l g n).2.2.1 w e ∧ w.natAbs ≤ 1099511627776 * 1099511627776 ∧ e ≤ 2097152 := by
  obtain ⟨a1, a2, a3, a4⟩ := may_iff.1 h1
  obtain ⟨b1, b2⟩ := mayL_iff.1 h2
  have hs := sq_lt a1 a2
  have hb := num_bound
  unfold scoreF
  rw [if_pos ⟨h1, h2⟩]
  obtain ⟨w, e, e1, f, l1, l2⟩ := fracM_is (z := g * g) (d := (n + l).toNat) (by omega) (by omega) (by omega)
  exact ⟨w, e, e1, f, by omega, by omega⟩

theorem mul_le2 {a b c d : Nat} (h1 : a ≤ c) (h2 : b ≤ d) : a * b ≤ c * d := Nat.mul_le_mul h1 h2

/-- The sum of two scores. -/
theorem add_scores {l g n g' n' : Int} (h1 : gain_may' g n = true) (h1' : gain_may' g' n' = true) (h2 : gain_mayLambda' l = true) : ∃ (w : Int) (e : Nat), addQ (scoreF l g n) (scoreF l g' n') = ((intD w).1, (intD w).2, digs B e, 0) ∧ IsFrac (addQ (scoreF l g n) (scoreF l g' n')).1 (addQ (scoreF l g n) (scoreF l g' n')).2.1 (addQ (scoreF l g n) (scoreF l g' n')).2.2.1 w e ∧ w.natAbs ≤ 1099511627776 * 1099511627776 * 2097152 * 2 ∧ e ≤ 2097152 * 2097152 := by
  obtain ⟨w, e, _, f, l1, l2⟩ := score_is h1 h2
  obtain ⟨w', e', _, f', l1', l2'⟩ := score_is h1' h2
  have hb := num_bound
  unfold addQ
  rw [Add_of f f']
  have p1 : (w * (e' : Int)).natAbs ≤ 1099511627776 * 1099511627776 * 2097152 := by rw [Int.natAbs_mul, Int.natAbs_natCast]; exact mul_le2 l1 l2'
  have p2 : (w' * (e : Int)).natAbs ≤ 1099511627776 * 1099511627776 * 2097152 := by rw [Int.natAbs_mul, Int.natAbs_natCast]; exact mul_le2 l1' l2
  have p3 : e * e' ≤ 2097152 * 2097152 := mul_le2 l2 l2'
  have p4 : 0 < e * e' := Nat.mul_pos f.pos f'.pos
  obtain ⟨x, c, e1, fx, m1, m2⟩ := fracM_is (z := w * (e' : Int) + w' * (e : Int)) (d := e * e') p4 (by omega) (by omega)
  exact ⟨x, c, e1, fx, by omega, by omega⟩

theorem num_bound2 : 1099511627776 * 1099511627776 * 2097152 * 2 * 2097152 + 1099511627776 * 1099511627776 * (2097152 * 2097152) < B ^ 16 := by decide +kernel

/-- Where the sums may be, a gain is told. -/
theorem gainF_ok {l g n G N : Int} (h1 : (gain_right' g n G N).2.2 = true) (h2 : gain_mayLambda' l = true) : (gainF l g n G N).2.2.2 = 0 := by
  obtain ⟨m1, m2, m3, e⟩ := right_true h1
  unfold gainF
  rw [h1, h2, e]
  obtain ⟨w, c, _, f, l1, l2⟩ := add_scores m1 m3 h2
  obtain ⟨w', c', _, f', l1', l2'⟩ := score_is m2 h2
  have hb := num_bound2
  simp only [Bool.not_true, cond_false]
  unfold subQ
  rw [Sub_of f f']
  have p1 : (w * (c' : Int)).natAbs ≤ 1099511627776 * 1099511627776 * 2097152 * 2 * 2097152 := by rw [Int.natAbs_mul, Int.natAbs_natCast]; exact mul_le2 l1 l2'
  have p2 : (w' * (c : Int)).natAbs ≤ 1099511627776 * 1099511627776 * (2097152 * 2097152) := by rw [Int.natAbs_mul, Int.natAbs_natCast]; exact mul_le2 l1' l2
  have p3 : c * c' ≤ 2097152 * 2097152 * 2097152 := mul_le2 l2 l2'
  have p4 : 0 < c * c' := Nat.mul_pos f.pos f'.pos
  obtain ⟨x, y, e1, fx, m1, m2⟩ := fracM_is (z := w * (c' : Int) - w' * (c : Int)) (d := c * c') p4 (by omega) (by omega)
  rw [e1]

theorem gainF_err (l g n G N : Int) : (gainF l g n G N).2.2.2 = 0 ∨ (gainF l g n G N).2.2.2 = 1 := by
  cases h1 : (gain_right' g n G N).2.2 with
  | false => right; unfold gainF; rw [h1]; rfl
  | true =>
    cases h2 : gain_mayLambda' l with
    | false => right; unfold gainF; rw [h1, h2]; rfl
    | true => exact Or.inl (gainF_ok h1 h2)

theorem gainF_may {l g n G N : Int} (h : (gainF l g n G N).2.2.2 = 0) : (gain_right' g n G N).2.2 = true ∧ gain_mayLambda' l = true := by
  unfold gainF at h
  cases h1 : (gain_right' g n G N).2.2 with
  | false => rw [h1] at h; cases h
  | true =>
    cases h2 : gain_mayLambda' l with
    | false => rw [h1, h2] at h; cases h
    | true => exact ⟨rfl, rfl⟩

/-- Left and right exchanged. -/
theorem gainF_swap {l g n G N : Int} (h1 : (gain_right' g n G N).2.2 = true) (h2 : gain_mayLambda' l = true) : gainF l (G - g) (N - n) G N = gainF l g n G N := by
  obtain ⟨m1, m2, m3, e⟩ := right_true h1
  have e' := right_of m3 m2 (by rw [show G - (G - g) = g from by omega, show N - (N - n) = n from by omega]; exact m1)
  rw [show G - (G - g) = g from by omega, show N - (N - n) = n from by omega] at e'
  unfold gainF
  rw [e, e']
  simp only [Bool.not_true, cond_false]
  unfold addQ
  rw [Add_comm (scoreF_lt l g n).1 (scoreF_lt l g n).2 (scoreF_lt l (G - g) (N - n)).1 (scoreF_lt l (G - g) (N - n)).2]

theorem gainF_none {l g n G N : Int} (h1 : (gain_right' g n G N).2.2 = true) (h2 : gain_mayLambda' l = true) : gainF l 0 0 G N = (false, [], [1], 0) := by
  obtain ⟨m1, m2, m3, e⟩ := right_true h1
  have m0 : gain_may' 0 0 = true := by decide
  have e' := right_of m0 m2 (by rw [Int.sub_zero, Int.sub_zero]; exact m2)
  rw [Int.sub_zero, Int.sub_zero] at e'
  obtain ⟨b1, b2⟩ := mayL_iff.1 h2
  unfold gainF
  rw [e', h2]
  simp only [Bool.not_true, cond_false]
  have hs : scoreF l 0 0 = (false, [], [1], 0) := by
    unfold scoreF
    rw [if_pos ⟨m0, h2⟩, fracM_ratio (w := 0) (e := 1) (by omega) (by decide) (by simp) (by decide +kernel) (by decide +kernel) rfl, intD_zero, digs_one]
  obtain ⟨w, c, ea, _, _, _⟩ := add_scores m0 m2 h2
  have h0 : (addQ (scoreF l 0 0) (scoreF l G N)).2.2.2 = 0 := by rw [ea]
  have := Add_Sub (scoreF_lt l 0 0).1 (scoreF_lt l 0 0).2 (scoreF_lt l G N).1 (scoreF_lt l G N).2 h0
  unfold subQ addQ
  rw [this, hs]

end Go.Ab

/- Layer 17: laws, their walks: printed by wip/tools/walk.py. -/
set_option linter.unusedVariables false
set_option linter.unusedSimpArgs false
set_option maxRecDepth 10000
namespace Go.Ab
open Go.Proofs Go.Num

inductive law17_awake_St
  | fn 
  | no

abbrev law17_awake_Res := Bool

noncomputable def law17_awake_fn'  : Option (law17_awake_St ⊕ law17_awake_Res) :=
  cond (decide (((scoreF 1 4 1).2.2.2) = 0)) (cond (decide ((List.length ((scoreF 1 4 1).2.1) : Int) = 1)) ((atI ((scoreF 1 4 1).2.1) 0).bind fun y6 => some (.inr (decide (((y6 : Int)) = 8)))) (some (.inr false))) (some (.inr false))

noncomputable def law17_awake_step : law17_awake_St → Option (law17_awake_St ⊕ law17_awake_Res)
  | .fn  => law17_awake_fn' 
  | .no => none

@[reducible] def law17_awake_post (h0 : AH) (r : law17_awake_Res) (v : AV) (h' : AH) : Prop := v = .bool r ∧ Grow h0 h'

def law17_awake_At (r : law17_awake_Res) : law17_awake_St → Prop
  | .fn  => ∀ {h : AH}, Runs (go (.fn F.law17_awake []) h) (law17_awake_post h r)
  | .no => True

theorem law17_awake_fn_walk {r : law17_awake_Res} {o : law17_awake_St ⊕ law17_awake_Res}  (e : law17_awake_fn'  = some o) (good : GoodS (law17_awake_At r) r o) : law17_awake_At r (.fn ) := by
  intro h
  rw [u_law17_awake]
  unfold law17_awake_fn' at e
  obtain ⟨_, H1, e1, s1, s1b, rfl, n1, n1b, g1, o1, o1b⟩ := gain_Score_spec 1 4 1
  refine Runs.step e1 ?_
  refine Runs.step rfl ?_
  refine Runs.step rfl ?_
  refine Runs.ifT rfl ?_
  refine Runs.step (seenAt rfl rfl) ?_
  refine Runs.step (seenAt rfl (asSl_v _)) ?_
  refine Runs.step (seenAt rfl (asSl_v _)) ?_
  refine Runs.step (seen (avInt_int _ _)) ?_
  refine Runs.new fun H2 b2 g2 => ?_
  refine Runs.puts b2 rfl fun H3 b3 u3 => ?_
  refine Runs.cond (fun k4 => ?_) (fun k4 => ?_)
  · replace e := (condT k4).symm.trans e
    refine Runs.step (AH.has.rd b3 1 rfl (asSl_v _)) ?_
    rw [(n1.grow (g2.updr (Nat.le_refl _) u3)).len]
    refine Runs.cond (fun k5 => ?_) (fun k5 => ?_)
    · replace e := (condT k5).symm.trans e
      refine Runs.step (AH.has.rd b3 1 rfl (asSl_v _)) ?_
      rw [(n1.grow (g2.updr (Nat.le_refl _) u3)).len]
      obtain ⟨y6, q6, e⟩ := Option.bind_eq_some_iff.1 e
      obtain ⟨r6, j6, l6⟩ := (n1.grow (g2.updr (Nat.le_refl _) u3)).atI q6
      refine Runs.step j6 ?_
      refine Runs.step (rdc l6 (avInt_int _ _)) ?_
      cases e
      cases good
      have G7 := ((g1.trans g2).updr (Nat.le_trans (g1).size (Nat.le_refl _)) u3)
      exact Runs.ret ⟨rfl, G7⟩
    · replace e := (condF k5).symm.trans e
      cases e
      cases good
      have G6 := ((g1.trans g2).updr (Nat.le_trans (g1).size (Nat.le_refl _)) u3)
      exact Runs.ret ⟨rfl, G6⟩
  · replace e := (condF k4).symm.trans e
    cases e
    cases good
    have G5 := ((g1.trans g2).updr (Nat.le_trans (g1).size (Nat.le_refl _)) u3)
    exact Runs.ret ⟨rfl, G5⟩

theorem law17_awake_run {s : law17_awake_St} {r : law17_awake_Res} (it : Iter law17_awake_step s r) : law17_awake_At r s := Iter.ind (fun s o e good => by
  cases s with
  | fn  => exact @law17_awake_fn_walk _ _  e good
  | no => exact True.intro
  ) it

theorem law17_awake_opt {h : AH}    {r : law17_awake_Res} (q : runP law17_awake_step (.fn ) = some r) : Runs (go (.fn F.law17_awake []) h) (law17_awake_post h r) := law17_awake_run (runP_iter q) 

theorem score_4 : scoreF 1 4 1 = (false, [8], [1], 0) := by decide +kernel

theorem awake17 {h : AH} : ∃ h', go (.fn F.law17_awake []) h = some (.bool true, h') ∧ Grow h h' := by
  have it : Iter law17_awake_step .fn true := .done (by
    show law17_awake_fn' = _
    unfold law17_awake_fn'
    rw [score_4]
    rfl)
  obtain ⟨_, h', e, rfl, g⟩ := law17_awake_run it (h := h)
  exact ⟨h', e, g⟩

inductive law17_GainScores_St
  | fn (a1 : Int) (a2 : Int) (a3 : Int)
  | no

abbrev law17_GainScores_Res := Bool

noncomputable def law17_GainScores_fn' (a1 : Int) (a2 : Int) (a3 : Int) : Option (law17_GainScores_St ⊕ law17_GainScores_Res) :=
  cond (true) (cond (true) (some (.inr (decide (((scoreF a1 a2 a3).2.2.2) = ((scoreF a1 a2 a3).2.2.2))))) (some (.inr false))) (some (.inr false))

noncomputable def law17_GainScores_step : law17_GainScores_St → Option (law17_GainScores_St ⊕ law17_GainScores_Res)
  | .fn a1 a2 a3 => law17_GainScores_fn' a1 a2 a3
  | .no => none

@[reducible] def law17_GainScores_post (h0 : AH) (r : law17_GainScores_Res) (v : AV) (h' : AH) : Prop := v = .bool r ∧ Grow h0 h'

def law17_GainScores_At (r : law17_GainScores_Res) : law17_GainScores_St → Prop
  | .fn a1 a2 a3 => ∀ {h : AH}, Runs (go (.fn F.law17_GainScores [.int .i64 a1, .agg [.int .i64 a2, .int .i64 a3]]) h) (law17_GainScores_post h r)
  | .no => True

theorem law17_GainScores_fn_walk {r : law17_GainScores_Res} {o : law17_GainScores_St ⊕ law17_GainScores_Res} {a1 : Int} {a2 : Int} {a3 : Int} (e : law17_GainScores_fn' a1 a2 a3 = some o) (good : GoodS (law17_GainScores_At r) r o) : law17_GainScores_At r (.fn a1 a2 a3) := by
  intro h
  rw [u_law17_GainScores]
  unfold law17_GainScores_fn' at e
  refine Runs.new fun H4 b4 g4 => ?_
  obtain ⟨H5, e5, g5⟩ := awake17
  refine Runs.step e5 ?_
  refine Runs.step (seen rfl) ?_
  refine Runs.step (AH.has.rd (g5.has b4) 0 rfl (avInt_int _ _)) ?_
  refine Runs.step (AH.has.rd (g5.has b4) 1 rfl (avInt_int _ _)) ?_
  obtain ⟨_, H6, e6, s6, s6b, rfl, n6, n6b, g6, o6, o6b⟩ := gain_Score_spec a1 a2 a3
  refine Runs.step e6 ?_
  refine Runs.step rfl ?_
  refine Runs.step rfl ?_
  refine Runs.ifT rfl ?_
  refine Runs.step (seenAt rfl rfl) ?_
  refine Runs.step (seenAt rfl (asSl_v _)) ?_
  refine Runs.step (seenAt rfl (asSl_v _)) ?_
  refine Runs.step (seen (avInt_int _ _)) ?_
  refine Runs.new fun H7 b7 g7 => ?_
  refine Runs.puts b7 rfl fun H8 b8 u8 => ?_
  have G9 := (((g5.trans g6).trans g7).updr (Nat.le_trans ((g5.trans g6)).size (Nat.le_refl _)) u8)
  have b4_10 := G9.has b4
  refine Runs.step (AH.has.rd b4_10 0 rfl (avInt_int _ _)) ?_
  refine Runs.step (AH.has.rd b4_10 1 rfl (avInt_int _ _)) ?_
  obtain ⟨_, H11, e11, s11, s11b, rfl, n11, n11b, g11, o11, o11b⟩ := ref17_Score_spec a1 a2 a3
  refine Runs.step e11 ?_
  refine Runs.step rfl ?_
  refine Runs.step rfl ?_
  refine Runs.ifT rfl ?_
  refine Runs.step (seenAt rfl rfl) ?_
  refine Runs.step (seenAt rfl (asSl_v _)) ?_
  refine Runs.step (seenAt rfl (asSl_v _)) ?_
  refine Runs.step (seen (avInt_int _ _)) ?_
  refine Runs.new fun H12 b12 g12 => ?_
  refine Runs.puts b12 rfl fun H13 b13 u13 => ?_
  have G14 := ((g11.trans g12).updr (Nat.le_trans (g11).size (Nat.le_refl _)) u13)
  have b8_15 := G14.has b8
  refine Runs.step (AH.has.rd b8_15 0 rfl rfl) ?_
  refine Runs.step (AH.has.rd b8_15 1 rfl (asSl_v _)) ?_
  refine Runs.step (AH.has.rd b8_15 2 rfl (asSl_v _)) ?_
  refine Runs.step (AH.has.rd b13 0 rfl rfl) ?_
  refine Runs.step (AH.has.rd b13 1 rfl (asSl_v _)) ?_
  refine Runs.step (AH.has.rd b13 2 rfl (asSl_v _)) ?_
  have G16 := ((g7.updr (Nat.le_refl _) u8).trans g11)
  have G17 := ((((g7.updr (Nat.le_refl _) u8).trans g11).trans g12).updr (Nat.le_trans (G16).size (Nat.le_refl _)) u13)
  have n6_18 := n6.grow G17
  have n6b_19 := n6b.grow G17
  obtain ⟨H20, e20, g20⟩ := ref08_Same_spec n6_18 n6b_19 (n11.grow (g12.updr (Nat.le_refl _) u13)) (n11b.grow (g12.updr (Nat.le_refl _) u13)) (((scoreF a1 a2 a3).1))
  refine Runs.step e20 ?_
  refine Runs.step (seen rfl) ?_
  refine Runs.cond (fun k21 => ?_) (fun k21 => ?_)
  · replace e := (condT k21).symm.trans e
    refine Runs.cond (fun k22 => ?_) (fun k22 => ?_)
    · replace e := (condT k22).symm.trans e
      cases e
      cases good
      have G23 := ((g4.trans g5).trans g6)
      have G24 := (((G23.trans g7).updr (Nat.le_trans (G23).size (Nat.le_refl _)) u8).trans g11)
      have G25 := ((((((((g4.trans g5).trans g6).trans g7).updr (Nat.le_trans (G23).size (Nat.le_refl _)) u8).trans g11).trans g12).updr (Nat.le_trans (G24).size (Nat.le_refl _)) u13).trans g20)
      exact Runs.ret ⟨rfl, G25⟩
    · replace e := (condF k22).symm.trans e
      cases e
      cases good
      have G23 := ((g4.trans g5).trans g6)
      have G24 := (((G23.trans g7).updr (Nat.le_trans (G23).size (Nat.le_refl _)) u8).trans g11)
      have G25 := ((((((((g4.trans g5).trans g6).trans g7).updr (Nat.le_trans (G23).size (Nat.le_refl _)) u8).trans g11).trans g12).updr (Nat.le_trans (G24).size (Nat.le_refl _)) u13).trans g20)
      exact Runs.ret ⟨rfl, G25⟩
  · replace e := (condF k21).symm.trans e
    cases e
    cases good
    have G22 := ((g4.trans g5).trans g6)
    have G23 := (((G22.trans g7).updr (Nat.le_trans (G22).size (Nat.le_refl _)) u8).trans g11)
    have G24 := ((((((((g4.trans g5).trans g6).trans g7).updr (Nat.le_trans (G22).size (Nat.le_refl _)) u8).trans g11).trans g12).updr (Nat.le_trans (G23).size (Nat.le_refl _)) u13).trans g20)
    exact Runs.ret ⟨rfl, G24⟩

theorem law17_GainScores_run {s : law17_GainScores_St} {r : law17_GainScores_Res} (it : Iter law17_GainScores_step s r) : law17_GainScores_At r s := Iter.ind (fun s o e good => by
  cases s with
  | fn a1 a2 a3 => exact @law17_GainScores_fn_walk _ _ a1 a2 a3 e good
  | no => exact True.intro
  ) it

theorem law17_GainScores_opt {h : AH}  {a1 : Int} {a2 : Int} {a3 : Int}  {r : law17_GainScores_Res} (q : runP law17_GainScores_step (.fn a1 a2 a3) = some r) : Runs (go (.fn F.law17_GainScores [.int .i64 a1, .agg [.int .i64 a2, .int .i64 a3]]) h) (law17_GainScores_post h r) := law17_GainScores_run (runP_iter q) 

inductive law17_GainSplits_St
  | fn (a1 : Int) (a2 : Int) (a3 : Int) (a4 : Int) (a5 : Int)
  | no

abbrev law17_GainSplits_Res := Bool

noncomputable def law17_GainSplits_fn' (a1 : Int) (a2 : Int) (a3 : Int) (a4 : Int) (a5 : Int) : Option (law17_GainSplits_St ⊕ law17_GainSplits_Res) :=
  cond (true) (cond (true) (some (.inr (decide (((gainF a1 a2 a3 a4 a5).2.2.2) = ((gainF a1 a2 a3 a4 a5).2.2.2))))) (some (.inr false))) (some (.inr false))

noncomputable def law17_GainSplits_step : law17_GainSplits_St → Option (law17_GainSplits_St ⊕ law17_GainSplits_Res)
  | .fn a1 a2 a3 a4 a5 => law17_GainSplits_fn' a1 a2 a3 a4 a5
  | .no => none

@[reducible] def law17_GainSplits_post (h0 : AH) (r : law17_GainSplits_Res) (v : AV) (h' : AH) : Prop := v = .bool r ∧ Grow h0 h'

def law17_GainSplits_At (r : law17_GainSplits_Res) : law17_GainSplits_St → Prop
  | .fn a1 a2 a3 a4 a5 => ∀ {h : AH}, Runs (go (.fn F.law17_GainSplits [.int .i64 a1, .agg [.int .i64 a2, .int .i64 a3], .agg [.int .i64 a4, .int .i64 a5]]) h) (law17_GainSplits_post h r)
  | .no => True

theorem law17_GainSplits_fn_walk {r : law17_GainSplits_Res} {o : law17_GainSplits_St ⊕ law17_GainSplits_Res} {a1 : Int} {a2 : Int} {a3 : Int} {a4 : Int} {a5 : Int} (e : law17_GainSplits_fn' a1 a2 a3 a4 a5 = some o) (good : GoodS (law17_GainSplits_At r) r o) : law17_GainSplits_At r (.fn a1 a2 a3 a4 a5) := by
  intro h
  rw [u_law17_GainSplits]
  unfold law17_GainSplits_fn' at e
  refine Runs.new fun H6 b6 g6 => ?_
  refine Runs.new fun H7 b7 g7 => ?_
  obtain ⟨H8, e8, g8⟩ := awake17
  refine Runs.step e8 ?_
  refine Runs.step (seen rfl) ?_
  refine Runs.step (AH.has.rd ((g7.trans g8).has b6) 0 rfl (avInt_int _ _)) ?_
  refine Runs.step (AH.has.rd ((g7.trans g8).has b6) 1 rfl (avInt_int _ _)) ?_
  refine Runs.step (AH.has.rd (g8.has b7) 0 rfl (avInt_int _ _)) ?_
  refine Runs.step (AH.has.rd (g8.has b7) 1 rfl (avInt_int _ _)) ?_
  obtain ⟨_, H9, e9, s9, s9b, rfl, n9, n9b, g9, o9, o9b⟩ := gain_Gain_spec a1 a2 a3 a4 a5
  refine Runs.step e9 ?_
  refine Runs.step rfl ?_
  refine Runs.step rfl ?_
  refine Runs.ifT rfl ?_
  refine Runs.step (seenAt rfl rfl) ?_
  refine Runs.step (seenAt rfl (asSl_v _)) ?_
  refine Runs.step (seenAt rfl (asSl_v _)) ?_
  refine Runs.step (seen (avInt_int _ _)) ?_
  refine Runs.new fun H10 b10 g10 => ?_
  refine Runs.puts b10 rfl fun H11 b11 u11 => ?_
  have G12 := ((g7.trans g8).trans g9)
  have G13 := ((((g7.trans g8).trans g9).trans g10).updr (Nat.le_trans (G12).size (Nat.le_refl _)) u11)
  have b6_14 := G13.has b6
  refine Runs.step (AH.has.rd b6_14 0 rfl (avInt_int _ _)) ?_
  refine Runs.step (AH.has.rd b6_14 1 rfl (avInt_int _ _)) ?_
  have G15 := (((g8.trans g9).trans g10).updr (Nat.le_trans ((g8.trans g9)).size (Nat.le_refl _)) u11)
  have b7_16 := G15.has b7
  refine Runs.step (AH.has.rd b7_16 0 rfl (avInt_int _ _)) ?_
  refine Runs.step (AH.has.rd b7_16 1 rfl (avInt_int _ _)) ?_
  obtain ⟨_, H17, e17, s17, s17b, rfl, n17, n17b, g17, o17, o17b⟩ := ref17_Gain_spec a1 a2 a3 a4 a5
  refine Runs.step e17 ?_
  refine Runs.step rfl ?_
  refine Runs.step rfl ?_
  refine Runs.ifT rfl ?_
  refine Runs.step (seenAt rfl rfl) ?_
  refine Runs.step (seenAt rfl (asSl_v _)) ?_
  refine Runs.step (seenAt rfl (asSl_v _)) ?_
  refine Runs.step (seen (avInt_int _ _)) ?_
  refine Runs.new fun H18 b18 g18 => ?_
  refine Runs.puts b18 rfl fun H19 b19 u19 => ?_
  have G20 := ((g17.trans g18).updr (Nat.le_trans (g17).size (Nat.le_refl _)) u19)
  have b11_21 := G20.has b11
  refine Runs.step (AH.has.rd b11_21 0 rfl rfl) ?_
  refine Runs.step (AH.has.rd b11_21 1 rfl (asSl_v _)) ?_
  refine Runs.step (AH.has.rd b11_21 2 rfl (asSl_v _)) ?_
  refine Runs.step (AH.has.rd b19 0 rfl rfl) ?_
  refine Runs.step (AH.has.rd b19 1 rfl (asSl_v _)) ?_
  refine Runs.step (AH.has.rd b19 2 rfl (asSl_v _)) ?_
  have G22 := ((g10.updr (Nat.le_refl _) u11).trans g17)
  have G23 := ((((g10.updr (Nat.le_refl _) u11).trans g17).trans g18).updr (Nat.le_trans (G22).size (Nat.le_refl _)) u19)
  have n9_24 := n9.grow G23
  have n9b_25 := n9b.grow G23
  obtain ⟨H26, e26, g26⟩ := ref08_Same_spec n9_24 n9b_25 (n17.grow (g18.updr (Nat.le_refl _) u19)) (n17b.grow (g18.updr (Nat.le_refl _) u19)) (((gainF a1 a2 a3 a4 a5).1))
  refine Runs.step e26 ?_
  refine Runs.step (seen rfl) ?_
  refine Runs.cond (fun k27 => ?_) (fun k27 => ?_)
  · replace e := (condT k27).symm.trans e
    refine Runs.cond (fun k28 => ?_) (fun k28 => ?_)
    · replace e := (condT k28).symm.trans e
      cases e
      cases good
      have G29 := (((g6.trans g7).trans g8).trans g9)
      have G30 := (((G29.trans g10).updr (Nat.le_trans (G29).size (Nat.le_refl _)) u11).trans g17)
      have G31 := (((((((((g6.trans g7).trans g8).trans g9).trans g10).updr (Nat.le_trans (G29).size (Nat.le_refl _)) u11).trans g17).trans g18).updr (Nat.le_trans (G30).size (Nat.le_refl _)) u19).trans g26)
      exact Runs.ret ⟨rfl, G31⟩
    · replace e := (condF k28).symm.trans e
      cases e
      cases good
      have G29 := (((g6.trans g7).trans g8).trans g9)
      have G30 := (((G29.trans g10).updr (Nat.le_trans (G29).size (Nat.le_refl _)) u11).trans g17)
      have G31 := (((((((((g6.trans g7).trans g8).trans g9).trans g10).updr (Nat.le_trans (G29).size (Nat.le_refl _)) u11).trans g17).trans g18).updr (Nat.le_trans (G30).size (Nat.le_refl _)) u19).trans g26)
      exact Runs.ret ⟨rfl, G31⟩
  · replace e := (condF k27).symm.trans e
    cases e
    cases good
    have G28 := (((g6.trans g7).trans g8).trans g9)
    have G29 := (((G28.trans g10).updr (Nat.le_trans (G28).size (Nat.le_refl _)) u11).trans g17)
    have G30 := (((((((((g6.trans g7).trans g8).trans g9).trans g10).updr (Nat.le_trans (G28).size (Nat.le_refl _)) u11).trans g17).trans g18).updr (Nat.le_trans (G29).size (Nat.le_refl _)) u19).trans g26)
    exact Runs.ret ⟨rfl, G30⟩

theorem law17_GainSplits_run {s : law17_GainSplits_St} {r : law17_GainSplits_Res} (it : Iter law17_GainSplits_step s r) : law17_GainSplits_At r s := Iter.ind (fun s o e good => by
  cases s with
  | fn a1 a2 a3 a4 a5 => exact @law17_GainSplits_fn_walk _ _ a1 a2 a3 a4 a5 e good
  | no => exact True.intro
  ) it

theorem law17_GainSplits_opt {h : AH}  {a1 : Int} {a2 : Int} {a3 : Int} {a4 : Int} {a5 : Int}  {r : law17_GainSplits_Res} (q : runP law17_GainSplits_step (.fn a1 a2 a3 a4 a5) = some r) : Runs (go (.fn F.law17_GainSplits [.int .i64 a1, .agg [.int .i64 a2, .int .i64 a3], .agg [.int .i64 a4, .int .i64 a5]]) h) (law17_GainSplits_post h r) := law17_GainSplits_run (runP_iter q) 

inductive law17_GainBoth_St
  | fn (a1 : Int) (a2 : Int) (a3 : Int) (a4 : Int) (a5 : Int)
  | no

abbrev law17_GainBoth_Res := Bool

noncomputable def law17_GainBoth_fn' (a1 : Int) (a2 : Int) (a3 : Int) (a4 : Int) (a5 : Int) : Option (law17_GainBoth_St ⊕ law17_GainBoth_Res) :=
  cond (!true) (cond (true) (some (.inr (decide (((gainF a1 a2 a3 a4 a5).2.2.2) = 1)))) (some (.inr false))) (cond (!decide (((gainF a1 a2 a3 a4 a5).2.2.2) = 0)) (cond (true) (some (.inr (decide (((gainF a1 a2 a3 a4 a5).2.2.2) = 1)))) (some (.inr false))) ((need ((((gainF a1 a2 a3 a4 a5).1)) = (((gainF a1 (IntKind.wrap .i64 (a4 - a2)) (IntKind.wrap .i64 (a5 - a3)) a4 a5).1)) ∧ ((gainF a1 a2 a3 a4 a5).2.1) = ((gainF a1 (IntKind.wrap .i64 (a4 - a2)) (IntKind.wrap .i64 (a5 - a3)) a4 a5).2.1) ∧ ((gainF a1 a2 a3 a4 a5).2.2.1) = ((gainF a1 (IntKind.wrap .i64 (a4 - a2)) (IntKind.wrap .i64 (a5 - a3)) a4 a5).2.2.1))).bind fun c28_0 => cond (decide (((gainF a1 (IntKind.wrap .i64 (a4 - a2)) (IntKind.wrap .i64 (a5 - a3)) a4 a5).2.2.2) = 0)) (cond (decide (((gainF a1 0 0 a4 a5).2.2.2) = 0)) (cond (true) (cond (decide ((List.length ((gainF a1 0 0 a4 a5).2.1) : Int) = 0)) (some (.inr (decide ((List.length ((gainF a1 0 0 a4 a5).2.2.1) : Int) = 1)))) (some (.inr false))) (some (.inr false))) (some (.inr false))) (some (.inr false))))

noncomputable def law17_GainBoth_step : law17_GainBoth_St → Option (law17_GainBoth_St ⊕ law17_GainBoth_Res)
  | .fn a1 a2 a3 a4 a5 => law17_GainBoth_fn' a1 a2 a3 a4 a5
  | .no => none

@[reducible] def law17_GainBoth_post (h0 : AH) (r : law17_GainBoth_Res) (v : AV) (h' : AH) : Prop := v = .bool r ∧ Grow h0 h'

def law17_GainBoth_At (r : law17_GainBoth_Res) : law17_GainBoth_St → Prop
  | .fn a1 a2 a3 a4 a5 => ∀ {h : AH}, Runs (go (.fn F.law17_GainBoth [.int .i64 a1, .agg [.int .i64 a2, .int .i64 a3], .agg [.int .i64 a4, .int .i64 a5]]) h) (law17_GainBoth_post h r)
  | .no => True

theorem law17_GainBoth_fn_walk {r : law17_GainBoth_Res} {o : law17_GainBoth_St ⊕ law17_GainBoth_Res} {a1 : Int} {a2 : Int} {a3 : Int} {a4 : Int} {a5 : Int} (e : law17_GainBoth_fn' a1 a2 a3 a4 a5 = some o) (good : GoodS (law17_GainBoth_At r) r o) : law17_GainBoth_At r (.fn a1 a2 a3 a4 a5) := by
  intro h
  rw [u_law17_GainBoth]
  unfold law17_GainBoth_fn' at e
  refine Runs.new fun H6 b6 g6 => ?_
  refine Runs.new fun H7 b7 g7 => ?_
  obtain ⟨H8, e8, g8⟩ := awake17
  refine Runs.step e8 ?_
  refine Runs.step (seen rfl) ?_
  refine Runs.step (AH.has.rd ((g7.trans g8).has b6) 0 rfl (avInt_int _ _)) ?_
  refine Runs.step (AH.has.rd ((g7.trans g8).has b6) 1 rfl (avInt_int _ _)) ?_
  refine Runs.step (AH.has.rd (g8.has b7) 0 rfl (avInt_int _ _)) ?_
  refine Runs.step (AH.has.rd (g8.has b7) 1 rfl (avInt_int _ _)) ?_
  obtain ⟨_, H9, e9, s9, s9b, rfl, n9, n9b, g9, o9, o9b⟩ := gain_Gain_spec a1 a2 a3 a4 a5
  refine Runs.step e9 ?_
  refine Runs.step rfl ?_
  refine Runs.step rfl ?_
  refine Runs.ifT rfl ?_
  refine Runs.step (seenAt rfl rfl) ?_
  refine Runs.step (seenAt rfl (asSl_v _)) ?_
  refine Runs.step (seenAt rfl (asSl_v _)) ?_
  refine Runs.step (seen (avInt_int _ _)) ?_
  refine Runs.new fun H10 b10 g10 => ?_
  refine Runs.puts b10 rfl fun H11 b11 u11 => ?_
  refine Runs.cond (fun k12 => ?_) (fun k12 => ?_)
  · replace e := (condT k12).symm.trans e
    refine Runs.cond (fun k13 => ?_) (fun k13 => ?_)
    · replace e := (condT k13).symm.trans e
      cases e
      cases good
      have G14 := (((g6.trans g7).trans g8).trans g9)
      have G15 := (((((g6.trans g7).trans g8).trans g9).trans g10).updr (Nat.le_trans (G14).size (Nat.le_refl _)) u11)
      exact Runs.ret ⟨rfl, G15⟩
    · replace e := (condF k13).symm.trans e
      cases e
      cases good
      have G14 := (((g6.trans g7).trans g8).trans g9)
      have G15 := (((((g6.trans g7).trans g8).trans g9).trans g10).updr (Nat.le_trans (G14).size (Nat.le_refl _)) u11)
      exact Runs.ret ⟨rfl, G15⟩
  · replace e := (condF k12).symm.trans e
    refine Runs.cond (fun k13 => ?_) (fun k13 => ?_)
    · replace e := (condT k13).symm.trans e
      refine Runs.cond (fun k14 => ?_) (fun k14 => ?_)
      · replace e := (condT k14).symm.trans e
        cases e
        cases good
        have G15 := (((g6.trans g7).trans g8).trans g9)
        have G16 := (((((g6.trans g7).trans g8).trans g9).trans g10).updr (Nat.le_trans (G15).size (Nat.le_refl _)) u11)
        exact Runs.ret ⟨rfl, G16⟩
      · replace e := (condF k14).symm.trans e
        cases e
        cases good
        have G15 := (((g6.trans g7).trans g8).trans g9)
        have G16 := (((((g6.trans g7).trans g8).trans g9).trans g10).updr (Nat.le_trans (G15).size (Nat.le_refl _)) u11)
        exact Runs.ret ⟨rfl, G16⟩
    · replace e := (condF k13).symm.trans e
      have G14 := (((g8.trans g9).trans g10).updr (Nat.le_trans ((g8.trans g9)).size (Nat.le_refl _)) u11)
      have b7_15 := G14.has b7
      refine Runs.step (AH.has.rd b7_15 0 rfl (avInt_int _ _)) ?_
      have G16 := ((g7.trans g8).trans g9)
      have G17 := ((((g7.trans g8).trans g9).trans g10).updr (Nat.le_trans (G16).size (Nat.le_refl _)) u11)
      have b6_18 := G17.has b6
      refine Runs.step (AH.has.rd b6_18 0 rfl (avInt_int _ _)) ?_
      refine Runs.step (AH.has.rd b7_15 1 rfl (avInt_int _ _)) ?_
      refine Runs.step (AH.has.rd b6_18 1 rfl (avInt_int _ _)) ?_
      refine Runs.step (AH.has.rd b7_15 0 rfl (avInt_int _ _)) ?_
      refine Runs.step (AH.has.rd b7_15 1 rfl (avInt_int _ _)) ?_
      obtain ⟨_, H19, e19, s19, s19b, rfl, n19, n19b, g19, o19, o19b⟩ := gain_Gain_spec a1 (IntKind.wrap .i64 (a4 - a2)) (IntKind.wrap .i64 (a5 - a3)) a4 a5
      refine Runs.step e19 ?_
      refine Runs.step rfl ?_
      refine Runs.step rfl ?_
      refine Runs.ifT rfl ?_
      refine Runs.step (seenAt rfl rfl) ?_
      refine Runs.step (seenAt rfl (asSl_v _)) ?_
      refine Runs.step (seenAt rfl (asSl_v _)) ?_
      refine Runs.step (seen (avInt_int _ _)) ?_
      refine Runs.new fun H20 b20 g20 => ?_
      refine Runs.puts b20 rfl fun H21 b21 u21 => ?_
      have G22 := ((g19.trans g20).updr (Nat.le_trans (g19).size (Nat.le_refl _)) u21)
      have b11_23 := G22.has b11
      refine Runs.step (AH.has.rd b11_23 0 rfl rfl) ?_
      refine Runs.step (AH.has.rd b11_23 1 rfl (asSl_v _)) ?_
      refine Runs.step (AH.has.rd b11_23 2 rfl (asSl_v _)) ?_
      refine Runs.step (AH.has.rd b21 0 rfl rfl) ?_
      refine Runs.step (AH.has.rd b21 1 rfl (asSl_v _)) ?_
      refine Runs.step (AH.has.rd b21 2 rfl (asSl_v _)) ?_
      have G24 := ((g10.updr (Nat.le_refl _) u11).trans g19)
      have G25 := ((((g10.updr (Nat.le_refl _) u11).trans g19).trans g20).updr (Nat.le_trans (G24).size (Nat.le_refl _)) u21)
      have n9_26 := n9.grow G25
      have n9b_27 := n9b.grow G25
      obtain ⟨c28_0, q28_0, e⟩ := Option.bind_eq_some_iff.1 e
      obtain ⟨H28, e28, g28⟩ := ref08_Same_need n9_26 n9b_27 (n19.grow (g20.updr (Nat.le_refl _) u21)) (n19b.grow (g20.updr (Nat.le_refl _) u21)) (((gainF a1 a2 a3 a4 a5).1)) (((gainF a1 (IntKind.wrap .i64 (a4 - a2)) (IntKind.wrap .i64 (a5 - a3)) a4 a5).1))  c28_0.down
      refine Runs.step e28 ?_
      refine Runs.step (seen rfl) ?_
      have G29 := (G22.trans g28)
      have b7_30 := G29.has b7_15
      refine Runs.step (AH.has.rd b7_30 0 rfl (avInt_int _ _)) ?_
      refine Runs.step (AH.has.rd b7_30 1 rfl (avInt_int _ _)) ?_
      obtain ⟨_, H31, e31, s31, s31b, rfl, n31, n31b, g31, o31, o31b⟩ := gain_Gain_spec a1 0 0 a4 a5
      refine Runs.step e31 ?_
      refine Runs.step rfl ?_
      refine Runs.step rfl ?_
      refine Runs.ifT rfl ?_
      refine Runs.step (seenAt rfl rfl) ?_
      refine Runs.step (seenAt rfl (asSl_v _)) ?_
      refine Runs.step (seenAt rfl (asSl_v _)) ?_
      refine Runs.step (seen (avInt_int _ _)) ?_
      refine Runs.new fun H32 b32 g32 => ?_
      refine Runs.puts b32 rfl fun H33 b33 u33 => ?_
      refine Runs.cond (fun k34 => ?_) (fun k34 => ?_)
      · replace e := (condT k34).symm.trans e
        refine Runs.cond (fun k35 => ?_) (fun k35 => ?_)
        · replace e := (condT k35).symm.trans e
          refine Runs.cond (fun k36 => ?_) (fun k36 => ?_)
          · replace e := (condT k36).symm.trans e
            refine Runs.step (AH.has.rd b33 1 rfl (asSl_v _)) ?_
            rw [(n31.grow (g32.updr (Nat.le_refl _) u33)).len]
            refine Runs.cond (fun k37 => ?_) (fun k37 => ?_)
            · replace e := (condT k37).symm.trans e
              refine Runs.step (AH.has.rd b33 2 rfl (asSl_v _)) ?_
              rw [(n31b.grow (g32.updr (Nat.le_refl _) u33)).len]
              cases e
              cases good
              have G38 := (((g6.trans g7).trans g8).trans g9)
              have G39 := (((G38.trans g10).updr (Nat.le_trans (G38).size (Nat.le_refl _)) u11).trans g19)
              have G40 := ((((G39.trans g20).updr (Nat.le_trans (G39).size (Nat.le_refl _)) u21).trans g28).trans g31)
              have G41 := ((((((((((((g6.trans g7).trans g8).trans g9).trans g10).updr (Nat.le_trans (G38).size (Nat.le_refl _)) u11).trans g19).trans g20).updr (Nat.le_trans (G39).size (Nat.le_refl _)) u21).trans g28).trans g31).trans g32).updr (Nat.le_trans (G40).size (Nat.le_refl _)) u33)
              exact Runs.ret ⟨rfl, G41⟩
            · replace e := (condF k37).symm.trans e
              cases e
              cases good
              have G38 := (((g6.trans g7).trans g8).trans g9)
              have G39 := (((G38.trans g10).updr (Nat.le_trans (G38).size (Nat.le_refl _)) u11).trans g19)
              have G40 := ((((G39.trans g20).updr (Nat.le_trans (G39).size (Nat.le_refl _)) u21).trans g28).trans g31)
              have G41 := ((((((((((((g6.trans g7).trans g8).trans g9).trans g10).updr (Nat.le_trans (G38).size (Nat.le_refl _)) u11).trans g19).trans g20).updr (Nat.le_trans (G39).size (Nat.le_refl _)) u21).trans g28).trans g31).trans g32).updr (Nat.le_trans (G40).size (Nat.le_refl _)) u33)
              exact Runs.ret ⟨rfl, G41⟩
          · replace e := (condF k36).symm.trans e
            cases e
            cases good
            have G37 := (((g6.trans g7).trans g8).trans g9)
            have G38 := (((G37.trans g10).updr (Nat.le_trans (G37).size (Nat.le_refl _)) u11).trans g19)
            have G39 := ((((G38.trans g20).updr (Nat.le_trans (G38).size (Nat.le_refl _)) u21).trans g28).trans g31)
            have G40 := ((((((((((((g6.trans g7).trans g8).trans g9).trans g10).updr (Nat.le_trans (G37).size (Nat.le_refl _)) u11).trans g19).trans g20).updr (Nat.le_trans (G38).size (Nat.le_refl _)) u21).trans g28).trans g31).trans g32).updr (Nat.le_trans (G39).size (Nat.le_refl _)) u33)
            exact Runs.ret ⟨rfl, G40⟩
        · replace e := (condF k35).symm.trans e
          cases e
          cases good
          have G36 := (((g6.trans g7).trans g8).trans g9)
          have G37 := (((G36.trans g10).updr (Nat.le_trans (G36).size (Nat.le_refl _)) u11).trans g19)
          have G38 := ((((G37.trans g20).updr (Nat.le_trans (G37).size (Nat.le_refl _)) u21).trans g28).trans g31)
          have G39 := ((((((((((((g6.trans g7).trans g8).trans g9).trans g10).updr (Nat.le_trans (G36).size (Nat.le_refl _)) u11).trans g19).trans g20).updr (Nat.le_trans (G37).size (Nat.le_refl _)) u21).trans g28).trans g31).trans g32).updr (Nat.le_trans (G38).size (Nat.le_refl _)) u33)
          exact Runs.ret ⟨rfl, G39⟩
      · replace e := (condF k34).symm.trans e
        cases e
        cases good
        have G35 := (((g6.trans g7).trans g8).trans g9)
        have G36 := (((G35.trans g10).updr (Nat.le_trans (G35).size (Nat.le_refl _)) u11).trans g19)
        have G37 := ((((G36.trans g20).updr (Nat.le_trans (G36).size (Nat.le_refl _)) u21).trans g28).trans g31)
        have G38 := ((((((((((((g6.trans g7).trans g8).trans g9).trans g10).updr (Nat.le_trans (G35).size (Nat.le_refl _)) u11).trans g19).trans g20).updr (Nat.le_trans (G36).size (Nat.le_refl _)) u21).trans g28).trans g31).trans g32).updr (Nat.le_trans (G37).size (Nat.le_refl _)) u33)
        exact Runs.ret ⟨rfl, G38⟩

theorem law17_GainBoth_run {s : law17_GainBoth_St} {r : law17_GainBoth_Res} (it : Iter law17_GainBoth_step s r) : law17_GainBoth_At r s := Iter.ind (fun s o e good => by
  cases s with
  | fn a1 a2 a3 a4 a5 => exact @law17_GainBoth_fn_walk _ _ a1 a2 a3 a4 a5 e good
  | no => exact True.intro
  ) it

theorem law17_GainBoth_opt {h : AH}  {a1 : Int} {a2 : Int} {a3 : Int} {a4 : Int} {a5 : Int}  {r : law17_GainBoth_Res} (q : runP law17_GainBoth_step (.fn a1 a2 a3 a4 a5) = some r) : Runs (go (.fn F.law17_GainBoth [.int .i64 a1, .agg [.int .i64 a2, .int .i64 a3], .agg [.int .i64 a4, .int .i64 a5]]) h) (law17_GainBoth_post h r) := law17_GainBoth_run (runP_iter q) 

end Go.Ab

/- Layer 17: laws of Score and Gain. -/
set_option linter.unusedVariables false
set_option linter.unusedSimpArgs false
set_option maxRecDepth 10000
namespace Go.Ab
open Go.Proofs Go.Num

theorem int_of_cells {h : AH} {x : AV} (h1 : ArgT Pg h T.int [x]) : ∃ n : Int, x = .int .i64 n ∧ -9223372036854775808 ≤ n ∧ n ≤ 9223372036854775807 := by
  obtain ⟨n, e, w⟩ := h1.int und_int
  cases e
  refine ⟨n, rfl, ?_⟩
  simpa [Lit.wf, IntKind.has, IntKind.min, IntKind.max, IntKind.bits, IntKind.signed] using w

theorem int_of_arg {h : AH} {x : AV} (a : ArgV Pg h T.int x) : ∃ n : Int, x = .int .i64 n ∧ -9223372036854775808 ≤ n ∧ n ≤ 9223372036854775807 := by
  unfold ArgV at a
  rw [und_int] at a
  obtain ⟨n, e, w⟩ := a.int und_int
  cases e
  refine ⟨n, rfl, ?_⟩
  simpa [Lit.wf, IntKind.has, IntKind.min, IntKind.max, IntKind.bits, IntKind.signed] using w

theorem sum_of_arg {h : AH} {x : AV} (a : ArgV Pg h T.api_Sum x) : ∃ g n : Int, x = .agg [.int .i64 g, .int .i64 n] ∧ (-9223372036854775808 ≤ g ∧ g ≤ 9223372036854775807) ∧ -9223372036854775808 ≤ n ∧ n ≤ 9223372036854775807 := by
  unfold ArgV at a
  rw [und_api_Sum] at a
  obtain ⟨cs, rfl, t⟩ := a
  obtain ⟨hl, hf⟩ := t.struct und_api_Sum
  rw [cells_api_Sum] at hl
  match cs, hl with
  | [x0, x1], _ =>
    simp [cells_int] at hf
    obtain ⟨h0, h1⟩ := hf
    obtain ⟨g, rfl, w⟩ := int_of_cells h0
    obtain ⟨n, rfl, w'⟩ := int_of_cells h1
    exact ⟨g, n, rfl, w, w'⟩

theorem Scores_iter (l g n : Int) : Iter law17_GainScores_step (.fn l g n) true := .done (by
  show law17_GainScores_fn' _ _ _ = _
  unfold law17_GainScores_fn'
  rw [decide_eq_true rfl]
  rfl)

theorem GainScores_law (h : AH) {x0 x1 : AV} (z0 : ArgV Pg h T.int x0) (z1 : ArgV Pg h T.api_Sum x1) : ∃ h', go (.fn F.law17_GainScores [x0, x1]) h = some (.bool true, h') := by
  obtain ⟨l, rfl, _⟩ := int_of_arg z0
  obtain ⟨g, n, rfl, _⟩ := sum_of_arg z1
  obtain ⟨_, h', e, rfl, _⟩ := law17_GainScores_run (Scores_iter l g n) (h := h)
  exact ⟨h', e⟩

theorem Splits_iter (l g n G N : Int) : Iter law17_GainSplits_step (.fn l g n G N) true := .done (by
  show law17_GainSplits_fn' _ _ _ _ _ = _
  unfold law17_GainSplits_fn'
  rw [decide_eq_true rfl]
  rfl)

theorem GainSplits_law (h : AH) {x0 x1 x2 : AV} (z0 : ArgV Pg h T.int x0) (z1 : ArgV Pg h T.api_Sum x1) (z2 : ArgV Pg h T.api_Sum x2) : ∃ h', go (.fn F.law17_GainSplits [x0, x1, x2]) h = some (.bool true, h') := by
  obtain ⟨l, rfl, _⟩ := int_of_arg z0
  obtain ⟨g, n, rfl, _⟩ := sum_of_arg z1
  obtain ⟨G, N, rfl, _⟩ := sum_of_arg z2
  obtain ⟨_, h', e, rfl, _⟩ := law17_GainSplits_run (Splits_iter l g n G N) (h := h)
  exact ⟨h', e⟩

theorem Both_iter (l g n G N : Int) : Iter law17_GainBoth_step (.fn l g n G N) true := .done (by
  show law17_GainBoth_fn' _ _ _ _ _ = _
  unfold law17_GainBoth_fn'
  simp only [Bool.not_true, cond_false, cond_true]
  rcases gainF_err l g n G N with h | h
  · obtain ⟨h1, h2⟩ := gainF_may h
    obtain ⟨m1, m2, m3, _⟩ := right_true h1
    obtain ⟨a1, a2, a3, a4⟩ := may_iff.1 m1
    obtain ⟨b1, b2, b3, b4⟩ := may_iff.1 m2
    rw [wrap64 (by omega) (by omega), wrap64 (by omega) (by omega), gainF_swap h1 h2, gainF_none h1 h2, need_of ⟨rfl, rfl, rfl⟩, h]
    rfl
  · rw [h]
    rfl)

theorem GainBoth_law (h : AH) {x0 x1 x2 : AV} (z0 : ArgV Pg h T.int x0) (z1 : ArgV Pg h T.api_Sum x1) (z2 : ArgV Pg h T.api_Sum x2) : ∃ h', go (.fn F.law17_GainBoth [x0, x1, x2]) h = some (.bool true, h') := by
  obtain ⟨l, rfl, _⟩ := int_of_arg z0
  obtain ⟨g, n, rfl, _⟩ := sum_of_arg z1
  obtain ⟨G, N, rfl, _⟩ := sum_of_arg z2
  obtain ⟨_, h', e, rfl, _⟩ := law17_GainBoth_run (Both_iter l g n G N) (h := h)
  exact ⟨h', e⟩

end Go.Ab
