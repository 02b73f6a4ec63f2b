/- Layer 3: sums: printed by wip/tools/walk.py. -/
import Derived.Test.YtddnmijnpieokaaS15a
set_option linter.unusedVariables false
set_option linter.unusedSimpArgs false
set_option maxRecDepth 10000
namespace Go.Ab
open Go.Proofs Go.Num

def modint_Add' (a1 : Bool) (x2 : List Nat) (a3 : Bool) (x4 : List Nat) : Bool × List Nat × Int :=
  cond (!((rtI a1 x2 && rtI a3 x4))) ((false, [], 1)) (cond (a1 == a3) (((((fromI a1 ((addN x2 x4).1)).1)), (fromI a1 ((addN x2 x4).1)).2, ((addN x2 x4).2))) (cond (decide ((cmpN x2 x4) < 0)) (((((fromI a3 ((subN x4 x2).1)).1)), (fromI a3 ((subN x4 x2).1)).2, ((subN x4 x2).2))) (((((fromI a1 ((subN x2 x4).1)).1)), (fromI a1 ((subN x2 x4).1)).2, ((subN x2 x4).2)))))

theorem modint_Add_spec {h : AH} {a2 : Sl} {x2 : List Nat} {a4 : Sl} {x4 : List Nat} (n2 : Nats h a2 x2) (n4 : Nats h a4 x4) (a1 : Bool) (a3 : Bool) : Runs (go (.fn F.modint_Add [.agg [.bool a1, a2.v], .agg [.bool a3, a4.v]]) h) fun v h' => ∃ s1 : Sl, v = .tup [.agg [.bool (modint_Add' a1 x2 a3 x4).1, s1.v], .int .i64 (modint_Add' a1 x2 a3 x4).2.2] ∧ Nats h' s1 ((modint_Add' a1 x2 a3 x4).2.1) ∧ Grow h h' ∧ Own h s1 := by
  rw [u_modint_Add]
  refine Runs.new fun H1 b1 g1 => ?_
  refine Runs.new fun H2 b2 g2 => ?_
  refine Runs.new fun H3 b3 g3 => ?_
  refine Runs.step (AH.has.rd ((g2.trans g3).has b1) 0 rfl rfl) ?_
  refine Runs.step (AH.has.rd ((g2.trans g3).has b1) 1 rfl (asSl_v _)) ?_
  refine Runs.step (AH.has.rd (g3.has b2) 0 rfl rfl) ?_
  refine Runs.step (AH.has.rd (g3.has b2) 1 rfl (asSl_v _)) ?_
  refine Runs.new fun H4 b4 g4 => ?_
  obtain ⟨H5, e5, g5⟩ := modint_right2_spec b4 (n2.grow (((g1.trans g2).trans g3).trans g4)) (n4.grow (((g1.trans g2).trans g3).trans g4))
  refine Runs.step e5 ?_
  refine Runs.step (seen rfl) ?_
  refine Runs.cond (fun k6 => ?_) (fun k6 => ?_)
  · refine Runs.puts ((g4.trans g5).has b3) rfl fun H7 b7 u7 => ?_
    have b4_7 := AH.has.updr (g5.has b4) (Nat.ne_of_gt (Nat.lt_of_lt_of_le (b3).lt (Nat.le_refl _))) u7
    refine Runs.step (AH.has.rd b7 0 rfl rfl) ?_
    refine Runs.step (AH.has.rd b7 1 rfl (asSl_v _)) ?_
    have z : modint_Add' a1 x2 a3 x4 = (false, [], 1) := by unfold modint_Add'; exact (condT k6).trans rfl
    rw [z]
    exact Runs.ret ⟨(⟨none, 0, .is 0⟩ : Sl), rfl, (Nats.nil _), (((((g1.trans g2).trans g3).trans g4).trans g5).updr (Nat.le_trans ((g1.trans g2)).size (Nat.le_refl _)) u7), (Own.nil _)⟩
  · refine Runs.step (AH.has.rd ((((g2.trans g3).trans g4).trans g5).has b1) 0 rfl rfl) ?_
    refine Runs.step (AH.has.rd (((g3.trans g4).trans g5).has b2) 0 rfl rfl) ?_
    refine Runs.cond (fun k7 => ?_) (fun k7 => ?_)
    · refine Runs.step (AH.has.rd ((((g2.trans g3).trans g4).trans g5).has b1) 1 rfl (asSl_v _)) ?_
      refine Runs.step (AH.has.rd (((g3.trans g4).trans g5).has b2) 1 rfl (asSl_v _)) ?_
      obtain ⟨s8, H8, e8, n8, g8, o8⟩ := nat_Add_spec (n2.grow ((((g1.trans g2).trans g3).trans g4).trans g5)) (n4.grow ((((g1.trans g2).trans g3).trans g4).trans g5))
      refine Runs.step e8 ?_
      refine Runs.step rfl ?_
      refine Runs.step (seen (asSl_v _)) ?_
      refine Runs.step (seen (avInt_int _ _)) ?_
      refine Runs.step (AH.has.rd (((((g2.trans g3).trans g4).trans g5).trans g8).has b1) 0 rfl rfl) ?_
      obtain ⟨s9, H9, e9, n9, g9, o9⟩ := modint_From_spec n8 a1
      refine Runs.step e9 ?_
      refine Runs.step rfl ?_
      refine Runs.ifT rfl ?_
      refine Runs.step (seenAt rfl rfl) ?_
      refine Runs.step (seenAt rfl (asSl_v _)) ?_
      refine Runs.puts ((((g4.trans g5).trans g8).trans g9).has b3) rfl fun H10 b10 u10 => ?_
      have n8_10 := (n8.grow g9).upda (Av.of_own o8 ((g4.trans g5).has b3).lt) u10
      have n9_10 := n9.upda (Av.of_own o9 (((g4.trans g5).trans g8).has b3).lt) u10
      have b4_10 := AH.has.updr (((g5.trans g8).trans g9).has b4) (Nat.ne_of_gt (Nat.lt_of_lt_of_le (b3).lt (Nat.le_refl _))) u10
      refine Runs.step (AH.has.rd b10 0 rfl rfl) ?_
      refine Runs.step (AH.has.rd b10 1 rfl (asSl_v _)) ?_
      have z : modint_Add' a1 x2 a3 x4 = ((((fromI a1 ((addN x2 x4).1)).1)), (fromI a1 ((addN x2 x4).1)).2, ((addN x2 x4).2)) := by unfold modint_Add'; exact (condF k6).trans ((condT k7).trans rfl)
      rw [z]
      exact Runs.ret ⟨s9, rfl, n9_10, (((((((g1.trans g2).trans g3).trans g4).trans g5).trans g8).trans g9).updr (Nat.le_trans ((g1.trans g2)).size (Nat.le_refl _)) u10), (o9.of_le (((((g1.trans g2).trans g3).trans g4).trans g5).trans g8))⟩
    · refine Runs.step (AH.has.rd ((((g2.trans g3).trans g4).trans g5).has b1) 1 rfl (asSl_v _)) ?_
      refine Runs.step (AH.has.rd (((g3.trans g4).trans g5).has b2) 1 rfl (asSl_v _)) ?_
      obtain ⟨H8, e8, g8⟩ := nat_Cmp_spec (n2.grow ((((g1.trans g2).trans g3).trans g4).trans g5)) (n4.grow ((((g1.trans g2).trans g3).trans g4).trans g5))
      refine Runs.step e8 ?_
      refine Runs.step (seen (avInt_int _ _)) ?_
      refine Runs.cond (fun k9 => ?_) (fun k9 => ?_)
      · refine Runs.step (AH.has.rd ((((g3.trans g4).trans g5).trans g8).has b2) 0 rfl rfl) ?_
        refine Runs.step (AH.has.rd ((((g3.trans g4).trans g5).trans g8).has b2) 1 rfl (asSl_v _)) ?_
        refine Runs.step (AH.has.rd (((((g2.trans g3).trans g4).trans g5).trans g8).has b1) 0 rfl rfl) ?_
        refine Runs.step (AH.has.rd (((((g2.trans g3).trans g4).trans g5).trans g8).has b1) 1 rfl (asSl_v _)) ?_
        refine Runs.puts (((((g2.trans g3).trans g4).trans g5).trans g8).has b1) rfl fun H10 b10 u10 => ?_
        have b2_10 := AH.has.updr ((((g3.trans g4).trans g5).trans g8).has b2) (Nat.ne_of_gt (Nat.lt_of_lt_of_le (b1).lt (Nat.le_refl _))) u10
        have b3_10 := AH.has.updr (((g4.trans g5).trans g8).has b3) (Nat.ne_of_gt (Nat.lt_of_lt_of_le (g2.has b1).lt (Nat.le_refl _))) u10
        have b4_10 := AH.has.updr ((g5.trans g8).has b4) (Nat.ne_of_gt (Nat.lt_of_lt_of_le ((g2.trans g3).has b1).lt (Nat.le_refl _))) u10
        refine Runs.puts b2_10 rfl fun H11 b11 u11 => ?_
        have b10_11 := AH.has.updr b10 (Nat.ne_of_lt (Nat.lt_of_lt_of_le (b1).lt (Nat.le_refl _))) u11
        have b3_11 := AH.has.updr b3_10 (Nat.ne_of_gt (Nat.lt_of_lt_of_le (b2).lt (Nat.le_refl _))) u11
        have b4_11 := AH.has.updr b4_10 (Nat.ne_of_gt (Nat.lt_of_lt_of_le (g3.has b2).lt (Nat.le_refl _))) u11
        refine Runs.step (AH.has.rd b10_11 1 rfl (asSl_v _)) ?_
        refine Runs.step (AH.has.rd b11 1 rfl (asSl_v _)) ?_
        obtain ⟨s12, H12, e12, n12, g12, o12⟩ := nat_Sub_spec (n4.grow (((((((g1.trans g2).trans g3).trans g4).trans g5).trans g8).updr (Nat.le_refl _) u10).updr (Nat.le_trans (g1).size (Nat.le_refl _)) u11)) (n2.grow (((((((g1.trans g2).trans g3).trans g4).trans g5).trans g8).updr (Nat.le_refl _) u10).updr (Nat.le_trans (g1).size (Nat.le_refl _)) u11))
        refine Runs.step e12 ?_
        refine Runs.step rfl ?_
        refine Runs.step (seen (asSl_v _)) ?_
        refine Runs.step (seen (avInt_int _ _)) ?_
        refine Runs.step (AH.has.rd (g12.has b10_11) 0 rfl rfl) ?_
        obtain ⟨s13, H13, e13, n13, g13, o13⟩ := modint_From_spec n12 a3
        refine Runs.step e13 ?_
        refine Runs.step rfl ?_
        refine Runs.ifT rfl ?_
        refine Runs.step (seenAt rfl rfl) ?_
        refine Runs.step (seenAt rfl (asSl_v _)) ?_
        refine Runs.puts ((g12.trans g13).has b3_11) rfl fun H14 b14 u14 => ?_
        have n12_14 := (n12.grow g13).upda (Av.of_own o12 (b3_11).lt) u14
        have n13_14 := n13.upda (Av.of_own o13 (g12.has b3_11).lt) u14
        have b10_14 := AH.has.updr ((g12.trans g13).has b10_11) (Nat.ne_of_lt (Nat.lt_of_lt_of_le (g2.has b1).lt (Nat.le_refl _))) u14
        have b11_14 := AH.has.updr ((g12.trans g13).has b11) (Nat.ne_of_lt (Nat.lt_of_lt_of_le (b2).lt (Nat.le_refl _))) u14
        have b4_14 := AH.has.updr ((g12.trans g13).has b4_11) (Nat.ne_of_gt (Nat.lt_of_lt_of_le (b3).lt (Nat.le_refl _))) u14
        refine Runs.step (AH.has.rd b14 0 rfl rfl) ?_
        refine Runs.step (AH.has.rd b14 1 rfl (asSl_v _)) ?_
        have z : modint_Add' a1 x2 a3 x4 = ((((fromI a3 ((subN x4 x2).1)).1)), (fromI a3 ((subN x4 x2).1)).2, ((subN x4 x2).2)) := by unfold modint_Add'; exact (condF k6).trans ((condF k7).trans ((condT k9).trans rfl))
        rw [z]
        exact Runs.ret ⟨s13, rfl, n13_14, ((((((((((g1.trans g2).trans g3).trans g4).trans g5).trans g8).updr (Nat.le_refl _) u10).updr (Nat.le_trans (g1).size (Nat.le_refl _)) u11).trans g12).trans g13).updr (Nat.le_trans ((g1.trans g2)).size (Nat.le_refl _)) u14), (o13.of_le ((((((((g1.trans g2).trans g3).trans g4).trans g5).trans g8).updr (Nat.le_refl _) u10).updr (Nat.le_trans (g1).size (Nat.le_refl _)) u11).trans g12))⟩
      · refine Runs.step (AH.has.rd (((((g2.trans g3).trans g4).trans g5).trans g8).has b1) 1 rfl (asSl_v _)) ?_
        refine Runs.step (AH.has.rd ((((g3.trans g4).trans g5).trans g8).has b2) 1 rfl (asSl_v _)) ?_
        obtain ⟨s10, H10, e10, n10, g10, o10⟩ := nat_Sub_spec (n2.grow (((((g1.trans g2).trans g3).trans g4).trans g5).trans g8)) (n4.grow (((((g1.trans g2).trans g3).trans g4).trans g5).trans g8))
        refine Runs.step e10 ?_
        refine Runs.step rfl ?_
        refine Runs.step (seen (asSl_v _)) ?_
        refine Runs.step (seen (avInt_int _ _)) ?_
        refine Runs.step (AH.has.rd ((((((g2.trans g3).trans g4).trans g5).trans g8).trans g10).has b1) 0 rfl rfl) ?_
        obtain ⟨s11, H11, e11, n11, g11, o11⟩ := modint_From_spec n10 a1
        refine Runs.step e11 ?_
        refine Runs.step rfl ?_
        refine Runs.ifT rfl ?_
        refine Runs.step (seenAt rfl rfl) ?_
        refine Runs.step (seenAt rfl (asSl_v _)) ?_
        refine Runs.puts (((((g4.trans g5).trans g8).trans g10).trans g11).has b3) rfl fun H12 b12 u12 => ?_
        have n10_12 := (n10.grow g11).upda (Av.of_own o10 (((g4.trans g5).trans g8).has b3).lt) u12
        have n11_12 := n11.upda (Av.of_own o11 ((((g4.trans g5).trans g8).trans g10).has b3).lt) u12
        have b4_12 := AH.has.updr ((((g5.trans g8).trans g10).trans g11).has b4) (Nat.ne_of_gt (Nat.lt_of_lt_of_le (b3).lt (Nat.le_refl _))) u12
        refine Runs.step (AH.has.rd b12 0 rfl rfl) ?_
        refine Runs.step (AH.has.rd b12 1 rfl (asSl_v _)) ?_
        have z : modint_Add' a1 x2 a3 x4 = ((((fromI a1 ((subN x2 x4).1)).1)), (fromI a1 ((subN x2 x4).1)).2, ((subN x2 x4).2)) := by unfold modint_Add'; exact (condF k6).trans ((condF k7).trans ((condF k9).trans rfl))
        rw [z]
        exact Runs.ret ⟨s11, rfl, n11_12, ((((((((g1.trans g2).trans g3).trans g4).trans g5).trans g8).trans g10).trans g11).updr (Nat.le_trans ((g1.trans g2)).size (Nat.le_refl _)) u12), (o11.of_le ((((((g1.trans g2).trans g3).trans g4).trans g5).trans g8).trans g10))⟩

def ref03_Add' (a1 : Bool) (x2 : List Nat) (a3 : Bool) (x4 : List Nat) : Bool × List Nat × Int :=
  cond (!(rtI a1 x2)) ((false, [], 1)) (cond (!(rtI a3 x4)) ((false, [], 1)) (cond (a1 == a3) (((((fromI a1 ((addN x2 x4).1)).1)), (fromI a1 ((addN x2 x4).1)).2, ((addN x2 x4).2))) (cond (decide ((cmpN x2 x4) ≥ 0)) (((((fromI a1 ((subN x2 x4).1)).1)), (fromI a1 ((subN x2 x4).1)).2, 0)) (((((fromI a3 ((subN x4 x2).1)).1)), (fromI a3 ((subN x4 x2).1)).2, 0)))))

theorem ref03_Add_spec {h : AH} {a2 : Sl} {x2 : List Nat} {a4 : Sl} {x4 : List Nat} (n2 : Nats h a2 x2) (n4 : Nats h a4 x4) (a1 : Bool) (a3 : Bool) : Runs (go (.fn F.ref03_Add [.agg [.bool a1, a2.v], .agg [.bool a3, a4.v]]) h) fun v h' => ∃ s1 : Sl, v = .tup [.agg [.bool (ref03_Add' a1 x2 a3 x4).1, s1.v], .int .i64 (ref03_Add' a1 x2 a3 x4).2.2] ∧ Nats h' s1 ((ref03_Add' a1 x2 a3 x4).2.1) ∧ Grow h h' ∧ Own h s1 := by
  rw [u_ref03_Add]
  refine Runs.new fun H1 b1 g1 => ?_
  refine Runs.new fun H2 b2 g2 => ?_
  refine Runs.new fun H3 b3 g3 => ?_
  refine Runs.step (AH.has.rd ((g2.trans g3).has b1) 0 rfl rfl) ?_
  refine Runs.step (AH.has.rd ((g2.trans g3).has b1) 1 rfl (asSl_v _)) ?_
  obtain ⟨H4, e4, g4⟩ := ref03_Right_spec (n2.grow ((g1.trans g2).trans g3)) a1
  refine Runs.step e4 ?_
  refine Runs.step (seen rfl) ?_
  refine Runs.step (AH.has.rd ((g3.trans g4).has b2) 0 rfl rfl) ?_
  refine Runs.step (AH.has.rd ((g3.trans g4).has b2) 1 rfl (asSl_v _)) ?_
  obtain ⟨H5, e5, g5⟩ := ref03_Right_spec (n4.grow (((g1.trans g2).trans g3).trans g4)) a3
  refine Runs.step e5 ?_
  refine Runs.step (seen rfl) ?_
  refine Runs.cond (fun k6 => ?_) (fun k6 => ?_)
  · refine Runs.puts ((g4.trans g5).has b3) rfl fun H7 b7 u7 => ?_
    refine Runs.step (AH.has.rd b7 0 rfl rfl) ?_
    refine Runs.step (AH.has.rd b7 1 rfl (asSl_v _)) ?_
    have z : ref03_Add' a1 x2 a3 x4 = (false, [], 1) := by unfold ref03_Add'; exact (condT k6).trans rfl
    rw [z]
    exact Runs.ret ⟨(⟨none, 0, .is 0⟩ : Sl), rfl, (Nats.nil _), (((((g1.trans g2).trans g3).trans g4).trans g5).updr (Nat.le_trans ((g1.trans g2)).size (Nat.le_refl _)) u7), (Own.nil _)⟩
  · refine Runs.cond (fun k7 => ?_) (fun k7 => ?_)
    · refine Runs.puts ((g4.trans g5).has b3) rfl fun H8 b8 u8 => ?_
      refine Runs.step (AH.has.rd b8 0 rfl rfl) ?_
      refine Runs.step (AH.has.rd b8 1 rfl (asSl_v _)) ?_
      have z : ref03_Add' a1 x2 a3 x4 = (false, [], 1) := by unfold ref03_Add'; exact (condF k6).trans ((condT k7).trans rfl)
      rw [z]
      exact Runs.ret ⟨(⟨none, 0, .is 0⟩ : Sl), rfl, (Nats.nil _), (((((g1.trans g2).trans g3).trans g4).trans g5).updr (Nat.le_trans ((g1.trans g2)).size (Nat.le_refl _)) u8), (Own.nil _)⟩
    · refine Runs.step (AH.has.rd ((((g2.trans g3).trans g4).trans g5).has b1) 0 rfl rfl) ?_
      refine Runs.step (AH.has.rd (((g3.trans g4).trans g5).has b2) 0 rfl rfl) ?_
      refine Runs.cond (fun k8 => ?_) (fun k8 => ?_)
      · refine Runs.step (AH.has.rd ((((g2.trans g3).trans g4).trans g5).has b1) 1 rfl (asSl_v _)) ?_
        refine Runs.step (AH.has.rd (((g3.trans g4).trans g5).has b2) 1 rfl (asSl_v _)) ?_
        obtain ⟨s9, H9, e9, n9, g9, o9⟩ := ref01_Add_spec (n2.grow ((((g1.trans g2).trans g3).trans g4).trans g5)) (n4.grow ((((g1.trans g2).trans g3).trans g4).trans g5))
        refine Runs.step e9 ?_
        refine Runs.step rfl ?_
        refine Runs.step (seen (asSl_v _)) ?_
        refine Runs.step (seen (avInt_int _ _)) ?_
        refine Runs.step (AH.has.rd (((((g2.trans g3).trans g4).trans g5).trans g9).has b1) 0 rfl rfl) ?_
        obtain ⟨s10, H10, e10, n10, g10, o10⟩ := ref03_From_spec n9 a1
        refine Runs.step e10 ?_
        refine Runs.step rfl ?_
        refine Runs.ifT rfl ?_
        refine Runs.step (seenAt rfl rfl) ?_
        refine Runs.step (seenAt rfl (asSl_v _)) ?_
        refine Runs.puts ((((g4.trans g5).trans g9).trans g10).has b3) rfl fun H11 b11 u11 => ?_
        have n9_11 := (n9.grow g10).upda (Av.of_own o9 ((g4.trans g5).has b3).lt) u11
        have n10_11 := n10.upda (Av.of_own o10 (((g4.trans g5).trans g9).has b3).lt) u11
        refine Runs.step (AH.has.rd b11 0 rfl rfl) ?_
        refine Runs.step (AH.has.rd b11 1 rfl (asSl_v _)) ?_
        have z : ref03_Add' a1 x2 a3 x4 = ((((fromI a1 ((addN x2 x4).1)).1)), (fromI a1 ((addN x2 x4).1)).2, ((addN x2 x4).2)) := by unfold ref03_Add'; exact (condF k6).trans ((condF k7).trans ((condT k8).trans rfl))
        rw [z]
        exact Runs.ret ⟨s10, rfl, n10_11, (((((((g1.trans g2).trans g3).trans g4).trans g5).trans g9).trans g10).updr (Nat.le_trans ((g1.trans g2)).size (Nat.le_refl _)) u11), (o10.of_le (((((g1.trans g2).trans g3).trans g4).trans g5).trans g9))⟩
      · refine Runs.step (AH.has.rd ((((g2.trans g3).trans g4).trans g5).has b1) 1 rfl (asSl_v _)) ?_
        refine Runs.step (AH.has.rd (((g3.trans g4).trans g5).has b2) 1 rfl (asSl_v _)) ?_
        obtain ⟨H9, e9, g9⟩ := ref01_Cmp_spec (n2.grow ((((g1.trans g2).trans g3).trans g4).trans g5)) (n4.grow ((((g1.trans g2).trans g3).trans g4).trans g5))
        refine Runs.step e9 ?_
        refine Runs.step (seen (avInt_int _ _)) ?_
        refine Runs.cond (fun k10 => ?_) (fun k10 => ?_)
        · refine Runs.step (AH.has.rd (((((g2.trans g3).trans g4).trans g5).trans g9).has b1) 1 rfl (asSl_v _)) ?_
          refine Runs.step (AH.has.rd ((((g3.trans g4).trans g5).trans g9).has b2) 1 rfl (asSl_v _)) ?_
          obtain ⟨s11, H11, e11, n11, g11, o11⟩ := ref01_Sub_spec (n2.grow (((((g1.trans g2).trans g3).trans g4).trans g5).trans g9)) (n4.grow (((((g1.trans g2).trans g3).trans g4).trans g5).trans g9))
          refine Runs.step e11 ?_
          refine Runs.step rfl ?_
          refine Runs.step (seen (asSl_v _)) ?_
          refine Runs.step (seen (avInt_int _ _)) ?_
          refine Runs.step (AH.has.rd ((((((g2.trans g3).trans g4).trans g5).trans g9).trans g11).has b1) 0 rfl rfl) ?_
          obtain ⟨s12, H12, e12, n12, g12, o12⟩ := ref03_From_spec n11 a1
          refine Runs.step e12 ?_
          refine Runs.step rfl ?_
          refine Runs.ifT rfl ?_
          refine Runs.step (seenAt rfl rfl) ?_
          refine Runs.step (seenAt rfl (asSl_v _)) ?_
          refine Runs.puts (((((g4.trans g5).trans g9).trans g11).trans g12).has b3) rfl fun H13 b13 u13 => ?_
          have n11_13 := (n11.grow g12).upda (Av.of_own o11 (((g4.trans g5).trans g9).has b3).lt) u13
          have n12_13 := n12.upda (Av.of_own o12 ((((g4.trans g5).trans g9).trans g11).has b3).lt) u13
          refine Runs.step (AH.has.rd b13 0 rfl rfl) ?_
          refine Runs.step (AH.has.rd b13 1 rfl (asSl_v _)) ?_
          have z : ref03_Add' a1 x2 a3 x4 = ((((fromI a1 ((subN x2 x4).1)).1)), (fromI a1 ((subN x2 x4).1)).2, 0) := by unfold ref03_Add'; exact (condF k6).trans ((condF k7).trans ((condF k8).trans ((condT k10).trans rfl)))
          rw [z]
          exact Runs.ret ⟨s12, rfl, n12_13, ((((((((g1.trans g2).trans g3).trans g4).trans g5).trans g9).trans g11).trans g12).updr (Nat.le_trans ((g1.trans g2)).size (Nat.le_refl _)) u13), (o12.of_le ((((((g1.trans g2).trans g3).trans g4).trans g5).trans g9).trans g11))⟩
        · refine Runs.step (AH.has.rd ((((g3.trans g4).trans g5).trans g9).has b2) 1 rfl (asSl_v _)) ?_
          refine Runs.step (AH.has.rd (((((g2.trans g3).trans g4).trans g5).trans g9).has b1) 1 rfl (asSl_v _)) ?_
          obtain ⟨s11, H11, e11, n11, g11, o11⟩ := ref01_Sub_spec (n4.grow (((((g1.trans g2).trans g3).trans g4).trans g5).trans g9)) (n2.grow (((((g1.trans g2).trans g3).trans g4).trans g5).trans g9))
          refine Runs.step e11 ?_
          refine Runs.step rfl ?_
          refine Runs.step (seen (asSl_v _)) ?_
          refine Runs.step (seen (avInt_int _ _)) ?_
          refine Runs.step (AH.has.rd (((((g3.trans g4).trans g5).trans g9).trans g11).has b2) 0 rfl rfl) ?_
          obtain ⟨s12, H12, e12, n12, g12, o12⟩ := ref03_From_spec n11 a3
          refine Runs.step e12 ?_
          refine Runs.step rfl ?_
          refine Runs.ifT rfl ?_
          refine Runs.step (seenAt rfl rfl) ?_
          refine Runs.step (seenAt rfl (asSl_v _)) ?_
          refine Runs.puts (((((g4.trans g5).trans g9).trans g11).trans g12).has b3) rfl fun H13 b13 u13 => ?_
          have n11_13 := (n11.grow g12).upda (Av.of_own o11 (((g4.trans g5).trans g9).has b3).lt) u13
          have n12_13 := n12.upda (Av.of_own o12 ((((g4.trans g5).trans g9).trans g11).has b3).lt) u13
          refine Runs.step (AH.has.rd b13 0 rfl rfl) ?_
          refine Runs.step (AH.has.rd b13 1 rfl (asSl_v _)) ?_
          have z : ref03_Add' a1 x2 a3 x4 = ((((fromI a3 ((subN x4 x2).1)).1)), (fromI a3 ((subN x4 x2).1)).2, 0) := by unfold ref03_Add'; exact (condF k6).trans ((condF k7).trans ((condF k8).trans ((condF k10).trans rfl)))
          rw [z]
          exact Runs.ret ⟨s12, rfl, n12_13, ((((((((g1.trans g2).trans g3).trans g4).trans g5).trans g9).trans g11).trans g12).updr (Nat.le_trans ((g1.trans g2)).size (Nat.le_refl _)) u13), (o12.of_le ((((((g1.trans g2).trans g3).trans g4).trans g5).trans g9).trans g11))⟩

theorem rtI_rt {p : Bool} {xs : List Nat} (h : rtI p xs = true) : rt xs = true := by
  unfold rtI at h
  revert h
  cases rt xs <;> simp

theorem ref03_Add_eq : ref03_Add' = modint_Add' := by
  funext p xs q ys
  unfold ref03_Add' modint_Add'
  cases hx : rtI p xs with
  | false => rfl
  | true =>
    cases hy : rtI q ys with
    | false => rfl
    | true =>
      have rx := rtI_rt hx
      have ry := rtI_rt hy
      simp only [Bool.not_true, cond_false, Bool.and_self]
      cases he : p == q with
      | true => rfl
      | false =>
        simp only [cond_false]
        have e1 : cmpN xs ys = cmp (num B xs) (num B ys) := by simp [cmpN, rx, ry]
        rw [e1]
        by_cases hc : num B xs < num B ys
        · rw [show decide (cmp (num B xs) (num B ys) < 0) = true from by rw [decide_eq_true_eq]; simp [cmp, hc], show decide (cmp (num B xs) (num B ys) ≥ 0) = false from by rw [decide_eq_false_iff_not]; simp [cmp, hc]]
          have : (subN ys xs).2 = 0 := by
            rw [show subN ys xs = (digs B (num B ys - num B xs), 0) from by simp [subN, rx, ry]; omega]
          simp [this]
        · have hn : ¬ cmp (num B xs) (num B ys) < 0 := by
            unfold cmp
            rw [if_neg hc]
            split <;> omega
          rw [show decide (cmp (num B xs) (num B ys) < 0) = false from decide_eq_false hn, show decide (cmp (num B xs) (num B ys) ≥ 0) = true from decide_eq_true (by omega)]
          have : (subN xs ys).2 = 0 := by
            rw [show subN xs ys = (digs B (num B xs - num B ys), 0) from by simp [subN, rx, ry, hc]]
          simp [this]

theorem ref03_Add_is {h : AH} {a2 : Sl} {x2 : List Nat} {a4 : Sl} {x4 : List Nat} (n2 : Nats h a2 x2) (n4 : Nats h a4 x4) (a1 : Bool) (a3 : Bool) : Runs (go (.fn F.ref03_Add [.agg [.bool a1, a2.v], .agg [.bool a3, a4.v]]) h) fun v h' => ∃ s1 : Sl, v = .tup [.agg [.bool (modint_Add' a1 x2 a3 x4).1, s1.v], .int .i64 (modint_Add' a1 x2 a3 x4).2.2] ∧ Nats h' s1 ((modint_Add' a1 x2 a3 x4).2.1) ∧ Grow h h' ∧ Own h s1 := by
  rw [← ref03_Add_eq]
  exact ref03_Add_spec n2 n4 a1 a3

def modint_Sub' (a1 : Bool) (x2 : List Nat) (a3 : Bool) (x4 : List Nat) : Bool × List Nat × Int :=
  cond (!((rtI a1 x2 && rtI a3 x4))) ((false, [], 1)) (((((modint_Add' a1 x2 ((negI a3 x4).1) ((negI a3 x4).2)).1)), (modint_Add' a1 x2 ((negI a3 x4).1) ((negI a3 x4).2)).2.1, ((modint_Add' a1 x2 ((negI a3 x4).1) ((negI a3 x4).2)).2.2)))

theorem modint_Sub_spec {h : AH} {a2 : Sl} {x2 : List Nat} {a4 : Sl} {x4 : List Nat} (n2 : Nats h a2 x2) (n4 : Nats h a4 x4) (a1 : Bool) (a3 : Bool) : Runs (go (.fn F.modint_Sub [.agg [.bool a1, a2.v], .agg [.bool a3, a4.v]]) h) fun v h' => ∃ s1 : Sl, v = .tup [.agg [.bool (modint_Sub' a1 x2 a3 x4).1, s1.v], .int .i64 (modint_Sub' a1 x2 a3 x4).2.2] ∧ Nats h' s1 ((modint_Sub' a1 x2 a3 x4).2.1) ∧ Grow h h' ∧ Own h s1 := by
  rw [u_modint_Sub]
  refine Runs.new fun H1 b1 g1 => ?_
  refine Runs.new fun H2 b2 g2 => ?_
  refine Runs.new fun H3 b3 g3 => ?_
  refine Runs.step (AH.has.rd ((g2.trans g3).has b1) 0 rfl rfl) ?_
  refine Runs.step (AH.has.rd ((g2.trans g3).has b1) 1 rfl (asSl_v _)) ?_
  refine Runs.step (AH.has.rd (g3.has b2) 0 rfl rfl) ?_
  refine Runs.step (AH.has.rd (g3.has b2) 1 rfl (asSl_v _)) ?_
  refine Runs.new fun H4 b4 g4 => ?_
  obtain ⟨H5, e5, g5⟩ := modint_right2_spec b4 (n2.grow (((g1.trans g2).trans g3).trans g4)) (n4.grow (((g1.trans g2).trans g3).trans g4))
  refine Runs.step e5 ?_
  refine Runs.step (seen rfl) ?_
  refine Runs.cond (fun k6 => ?_) (fun k6 => ?_)
  · refine Runs.puts ((g4.trans g5).has b3) rfl fun H7 b7 u7 => ?_
    have b4_7 := AH.has.updr (g5.has b4) (Nat.ne_of_gt (Nat.lt_of_lt_of_le (b3).lt (Nat.le_refl _))) u7
    refine Runs.step (AH.has.rd b7 0 rfl rfl) ?_
    refine Runs.step (AH.has.rd b7 1 rfl (asSl_v _)) ?_
    have z : modint_Sub' a1 x2 a3 x4 = (false, [], 1) := by unfold modint_Sub'; exact (condT k6).trans rfl
    rw [z]
    exact Runs.ret ⟨(⟨none, 0, .is 0⟩ : Sl), rfl, (Nats.nil _), (((((g1.trans g2).trans g3).trans g4).trans g5).updr (Nat.le_trans ((g1.trans g2)).size (Nat.le_refl _)) u7), (Own.nil _)⟩
  · refine Runs.step (AH.has.rd ((((g2.trans g3).trans g4).trans g5).has b1) 0 rfl rfl) ?_
    refine Runs.step (AH.has.rd ((((g2.trans g3).trans g4).trans g5).has b1) 1 rfl (asSl_v _)) ?_
    refine Runs.step (AH.has.rd (((g3.trans g4).trans g5).has b2) 0 rfl rfl) ?_
    refine Runs.step (AH.has.rd (((g3.trans g4).trans g5).has b2) 1 rfl (asSl_v _)) ?_
    obtain ⟨s7, H7, e7, n7, g7, o7⟩ := modint_Neg_spec (n4.grow ((((g1.trans g2).trans g3).trans g4).trans g5)) a3
    refine Runs.step e7 ?_
    refine Runs.step rfl ?_
    refine Runs.ifT rfl ?_
    refine Runs.step (seenAt rfl rfl) ?_
    refine Runs.step (seenAt rfl (asSl_v _)) ?_
    refine Runs.when (g7.same ((((g2.trans g3).trans g4).trans g5).has b1) 0 2) ?_
    obtain ⟨_, H8, e8, s8, rfl, n8, g8, o8⟩ := modint_Add_spec (n2.grow (((((g1.trans g2).trans g3).trans g4).trans g5).trans g7)) n7 a1 ((negI a3 x4).1)
    refine Runs.step e8 ?_
    refine Runs.step rfl ?_
    refine Runs.step rfl ?_
    refine Runs.ifT rfl ?_
    refine Runs.step (seenAt rfl rfl) ?_
    refine Runs.step (seenAt rfl (asSl_v _)) ?_
    refine Runs.step (seen (avInt_int _ _)) ?_
    refine Runs.puts ((((g4.trans g5).trans g7).trans g8).has b3) rfl fun H9 b9 u9 => ?_
    have n7_9 := (n7.grow g8).upda (Av.of_own o7 ((g4.trans g5).has b3).lt) u9
    have n8_9 := n8.upda (Av.of_own o8 (((g4.trans g5).trans g7).has b3).lt) u9
    have b4_9 := AH.has.updr (((g5.trans g7).trans g8).has b4) (Nat.ne_of_gt (Nat.lt_of_lt_of_le (b3).lt (Nat.le_refl _))) u9
    refine Runs.step (AH.has.rd b9 0 rfl rfl) ?_
    refine Runs.step (AH.has.rd b9 1 rfl (asSl_v _)) ?_
    have z : modint_Sub' a1 x2 a3 x4 = ((((modint_Add' a1 x2 ((negI a3 x4).1) ((negI a3 x4).2)).1)), (modint_Add' a1 x2 ((negI a3 x4).1) ((negI a3 x4).2)).2.1, ((modint_Add' a1 x2 ((negI a3 x4).1) ((negI a3 x4).2)).2.2)) := by unfold modint_Sub'; exact (condF k6).trans rfl
    rw [z]
    exact Runs.ret ⟨s8, rfl, n8_9, (((((((g1.trans g2).trans g3).trans g4).trans g5).trans g7).trans g8).updr (Nat.le_trans ((g1.trans g2)).size (Nat.le_refl _)) u9), (o8.of_le (((((g1.trans g2).trans g3).trans g4).trans g5).trans g7))⟩

def ref03_Sub' (a1 : Bool) (x2 : List Nat) (a3 : Bool) (x4 : List Nat) : Bool × List Nat × Int :=
  cond (!(rtI a1 x2)) ((false, [], 1)) (cond (!(rtI a3 x4)) ((false, [], 1)) (((((modint_Add' a1 x2 ((negI a3 x4).1) ((negI a3 x4).2)).1)), (modint_Add' a1 x2 ((negI a3 x4).1) ((negI a3 x4).2)).2.1, ((modint_Add' a1 x2 ((negI a3 x4).1) ((negI a3 x4).2)).2.2))))

theorem ref03_Sub_spec {h : AH} {a2 : Sl} {x2 : List Nat} {a4 : Sl} {x4 : List Nat} (n2 : Nats h a2 x2) (n4 : Nats h a4 x4) (a1 : Bool) (a3 : Bool) : Runs (go (.fn F.ref03_Sub [.agg [.bool a1, a2.v], .agg [.bool a3, a4.v]]) h) fun v h' => ∃ s1 : Sl, v = .tup [.agg [.bool (ref03_Sub' a1 x2 a3 x4).1, s1.v], .int .i64 (ref03_Sub' a1 x2 a3 x4).2.2] ∧ Nats h' s1 ((ref03_Sub' a1 x2 a3 x4).2.1) ∧ Grow h h' ∧ Own h s1 := by
  rw [u_ref03_Sub]
  refine Runs.new fun H1 b1 g1 => ?_
  refine Runs.new fun H2 b2 g2 => ?_
  refine Runs.new fun H3 b3 g3 => ?_
  refine Runs.step (AH.has.rd ((g2.trans g3).has b1) 0 rfl rfl) ?_
  refine Runs.step (AH.has.rd ((g2.trans g3).has b1) 1 rfl (asSl_v _)) ?_
  obtain ⟨H4, e4, g4⟩ := ref03_Right_spec (n2.grow ((g1.trans g2).trans g3)) a1
  refine Runs.step e4 ?_
  refine Runs.step (seen rfl) ?_
  refine Runs.step (AH.has.rd ((g3.trans g4).has b2) 0 rfl rfl) ?_
  refine Runs.step (AH.has.rd ((g3.trans g4).has b2) 1 rfl (asSl_v _)) ?_
  obtain ⟨H5, e5, g5⟩ := ref03_Right_spec (n4.grow (((g1.trans g2).trans g3).trans g4)) a3
  refine Runs.step e5 ?_
  refine Runs.step (seen rfl) ?_
  refine Runs.cond (fun k6 => ?_) (fun k6 => ?_)
  · refine Runs.puts ((g4.trans g5).has b3) rfl fun H7 b7 u7 => ?_
    refine Runs.step (AH.has.rd b7 0 rfl rfl) ?_
    refine Runs.step (AH.has.rd b7 1 rfl (asSl_v _)) ?_
    have z : ref03_Sub' a1 x2 a3 x4 = (false, [], 1) := by unfold ref03_Sub'; exact (condT k6).trans rfl
    rw [z]
    exact Runs.ret ⟨(⟨none, 0, .is 0⟩ : Sl), rfl, (Nats.nil _), (((((g1.trans g2).trans g3).trans g4).trans g5).updr (Nat.le_trans ((g1.trans g2)).size (Nat.le_refl _)) u7), (Own.nil _)⟩
  · refine Runs.cond (fun k7 => ?_) (fun k7 => ?_)
    · refine Runs.puts ((g4.trans g5).has b3) rfl fun H8 b8 u8 => ?_
      refine Runs.step (AH.has.rd b8 0 rfl rfl) ?_
      refine Runs.step (AH.has.rd b8 1 rfl (asSl_v _)) ?_
      have z : ref03_Sub' a1 x2 a3 x4 = (false, [], 1) := by unfold ref03_Sub'; exact (condF k6).trans ((condT k7).trans rfl)
      rw [z]
      exact Runs.ret ⟨(⟨none, 0, .is 0⟩ : Sl), rfl, (Nats.nil _), (((((g1.trans g2).trans g3).trans g4).trans g5).updr (Nat.le_trans ((g1.trans g2)).size (Nat.le_refl _)) u8), (Own.nil _)⟩
    · refine Runs.step (AH.has.rd ((((g2.trans g3).trans g4).trans g5).has b1) 0 rfl rfl) ?_
      refine Runs.step (AH.has.rd ((((g2.trans g3).trans g4).trans g5).has b1) 1 rfl (asSl_v _)) ?_
      refine Runs.step (AH.has.rd (((g3.trans g4).trans g5).has b2) 0 rfl rfl) ?_
      refine Runs.step (AH.has.rd (((g3.trans g4).trans g5).has b2) 1 rfl (asSl_v _)) ?_
      obtain ⟨s8, H8, e8, n8, g8, o8⟩ := ref03_Neg_spec (n4.grow ((((g1.trans g2).trans g3).trans g4).trans g5)) a3
      refine Runs.step e8 ?_
      refine Runs.step rfl ?_
      refine Runs.ifT rfl ?_
      refine Runs.step (seenAt rfl rfl) ?_
      refine Runs.step (seenAt rfl (asSl_v _)) ?_
      refine Runs.when (g8.same ((((g2.trans g3).trans g4).trans g5).has b1) 0 2) ?_
      obtain ⟨_, H9, e9, s9, rfl, n9, g9, o9⟩ := ref03_Add_is (n2.grow (((((g1.trans g2).trans g3).trans g4).trans g5).trans g8)) n8 a1 ((negI a3 x4).1)
      refine Runs.step e9 ?_
      refine Runs.step rfl ?_
      refine Runs.step rfl ?_
      refine Runs.ifT rfl ?_
      refine Runs.step (seenAt rfl rfl) ?_
      refine Runs.step (seenAt rfl (asSl_v _)) ?_
      refine Runs.step (seen (avInt_int _ _)) ?_
      refine Runs.puts ((((g4.trans g5).trans g8).trans g9).has b3) rfl fun H10 b10 u10 => ?_
      have n8_10 := (n8.grow g9).upda (Av.of_own o8 ((g4.trans g5).has b3).lt) u10
      have n9_10 := n9.upda (Av.of_own o9 (((g4.trans g5).trans g8).has b3).lt) u10
      refine Runs.step (AH.has.rd b10 0 rfl rfl) ?_
      refine Runs.step (AH.has.rd b10 1 rfl (asSl_v _)) ?_
      have z : ref03_Sub' a1 x2 a3 x4 = ((((modint_Add' a1 x2 ((negI a3 x4).1) ((negI a3 x4).2)).1)), (modint_Add' a1 x2 ((negI a3 x4).1) ((negI a3 x4).2)).2.1, ((modint_Add' a1 x2 ((negI a3 x4).1) ((negI a3 x4).2)).2.2)) := by unfold ref03_Sub'; exact (condF k6).trans ((condF k7).trans rfl)
      rw [z]
      exact Runs.ret ⟨s9, rfl, n9_10, (((((((g1.trans g2).trans g3).trans g4).trans g5).trans g8).trans g9).updr (Nat.le_trans ((g1.trans g2)).size (Nat.le_refl _)) u10), (o9.of_le (((((g1.trans g2).trans g3).trans g4).trans g5).trans g8))⟩

theorem ref03_Sub_eq : ref03_Sub' = modint_Sub' := by
  funext p xs q ys
  unfold ref03_Sub' modint_Sub'
  cases hx : rtI p xs with
  | false => rfl
  | true =>
    cases hy : rtI q ys with
    | false => rfl
    | true => rfl

theorem ref03_Sub_is {h : AH} {a2 : Sl} {x2 : List Nat} {a4 : Sl} {x4 : List Nat} (n2 : Nats h a2 x2) (n4 : Nats h a4 x4) (a1 : Bool) (a3 : Bool) : Runs (go (.fn F.ref03_Sub [.agg [.bool a1, a2.v], .agg [.bool a3, a4.v]]) h) fun v h' => ∃ s1 : Sl, v = .tup [.agg [.bool (modint_Sub' a1 x2 a3 x4).1, s1.v], .int .i64 (modint_Sub' a1 x2 a3 x4).2.2] ∧ Nats h' s1 ((modint_Sub' a1 x2 a3 x4).2.1) ∧ Grow h h' ∧ Own h s1 := by
  rw [← ref03_Sub_eq]
  exact ref03_Sub_spec n2 n4 a1 a3

def law03_ModintSums' (a1 : Bool) (x2 : List Nat) (a3 : Bool) (x4 : List Nat) : Bool :=
  cond (!((decide (List.length x2 ≤ 70) && decide (List.length x4 ≤ 70)))) (true) (cond (true) (cond (true) (cond (decide (((modint_Add' a1 x2 a3 x4).2.2) = ((modint_Add' a1 x2 a3 x4).2.2))) (cond (decide (((modint_Sub' a1 x2 a3 x4).2.2) = ((modint_Sub' a1 x2 a3 x4).2.2))) (decide ((List.length ((modint_Add' false [1] false []).2.1) : Int) = 1)) (false)) (false)) (false)) (false))

theorem law03_ModintSums_spec {h : AH} {a2 : Sl} {x2 : List Nat} {a4 : Sl} {x4 : List Nat} (n2 : Nats h a2 x2) (n4 : Nats h a4 x4) (a1 : Bool) (a3 : Bool) : Runs (go (.fn F.law03_ModintSums [.agg [.bool a1, a2.v], .agg [.bool a3, a4.v]]) h) fun v h' => v = .bool (law03_ModintSums' a1 x2 a3 x4) ∧ Grow h h' := by
  rw [u_law03_ModintSums]
  refine Runs.new fun H1 b1 g1 => ?_
  refine Runs.new fun H2 b2 g2 => ?_
  refine Runs.step (AH.has.rd (g2.has b1) 1 rfl (asSl_v _)) ?_
  refine Runs.step (AH.has.rd b2 1 rfl (asSl_v _)) ?_
  refine Runs.new fun H3 b3 g3 => ?_
  refine Runs.step (few2_spec b3 (n2.grow ((g1.trans g2).trans g3)) (n4.grow ((g1.trans g2).trans g3))) ?_
  refine Runs.step (seen rfl) ?_
  refine Runs.cond (fun k5 => ?_) (fun k5 => ?_)
  · have z : law03_ModintSums' a1 x2 a3 x4 = true := by unfold law03_ModintSums'; exact (condT k5).trans rfl
    rw [z]
    exact Runs.ret ⟨rfl, ((g1.trans g2).trans g3)⟩
  · refine Runs.step (AH.has.rd ((g2.trans g3).has b1) 0 rfl rfl) ?_
    refine Runs.step (AH.has.rd ((g2.trans g3).has b1) 1 rfl (asSl_v _)) ?_
    refine Runs.step (AH.has.rd (g3.has b2) 0 rfl rfl) ?_
    refine Runs.step (AH.has.rd (g3.has b2) 1 rfl (asSl_v _)) ?_
    obtain ⟨_, H6, e6, s6, rfl, n6, g6, o6⟩ := modint_Add_spec (n2.grow ((g1.trans g2).trans g3)) (n4.grow ((g1.trans g2).trans g3)) a1 a3
    refine Runs.step e6 ?_
    refine Runs.step rfl ?_
    refine Runs.step rfl ?_
    refine Runs.ifT rfl ?_
    refine Runs.step (seenAt rfl rfl) ?_
    refine Runs.step (seenAt rfl (asSl_v _)) ?_
    refine Runs.step (seen (avInt_int _ _)) ?_
    refine Runs.new fun H7 b7 g7 => ?_
    refine Runs.puts b7 rfl fun H8 b8 u8 => ?_
    refine Runs.step (AH.has.rd (((((g2.trans g3).trans g6).trans g7).updr (Nat.le_trans (((g2.trans g3).trans g6)).size (Nat.le_refl _)) u8).has b1) 0 rfl rfl) ?_
    refine Runs.step (AH.has.rd (((((g2.trans g3).trans g6).trans g7).updr (Nat.le_trans (((g2.trans g3).trans g6)).size (Nat.le_refl _)) u8).has b1) 1 rfl (asSl_v _)) ?_
    refine Runs.step (AH.has.rd ((((g3.trans g6).trans g7).updr (Nat.le_trans ((g3.trans g6)).size (Nat.le_refl _)) u8).has b2) 0 rfl rfl) ?_
    refine Runs.step (AH.has.rd ((((g3.trans g6).trans g7).updr (Nat.le_trans ((g3.trans g6)).size (Nat.le_refl _)) u8).has b2) 1 rfl (asSl_v _)) ?_
    obtain ⟨_, H9, e9, s9, rfl, n9, g9, o9⟩ := ref03_Add_is (n2.grow (((((g1.trans g2).trans g3).trans g6).trans g7).updr (Nat.le_trans ((((g1.trans g2).trans g3).trans g6)).size (Nat.le_refl _)) u8)) (n4.grow (((((g1.trans g2).trans g3).trans g6).trans g7).updr (Nat.le_trans ((((g1.trans g2).trans g3).trans g6)).size (Nat.le_refl _)) u8)) a1 a3
    refine Runs.step e9 ?_
    refine Runs.step rfl ?_
    refine Runs.step rfl ?_
    refine Runs.ifT rfl ?_
    refine Runs.step (seenAt rfl rfl) ?_
    refine Runs.step (seenAt rfl (asSl_v _)) ?_
    refine Runs.step (seen (avInt_int _ _)) ?_
    refine Runs.new fun H10 b10 g10 => ?_
    refine Runs.puts b10 rfl fun H11 b11 u11 => ?_
    refine Runs.step (AH.has.rd (((g9.trans g10).updr (Nat.le_trans (g9).size (Nat.le_refl _)) u11).has b8) 0 rfl rfl) ?_
    refine Runs.step (AH.has.rd (((g9.trans g10).updr (Nat.le_trans (g9).size (Nat.le_refl _)) u11).has b8) 1 rfl (asSl_v _)) ?_
    refine Runs.step (AH.has.rd b11 0 rfl rfl) ?_
    refine Runs.step (AH.has.rd b11 1 rfl (asSl_v _)) ?_
    obtain ⟨H12, e12, g12⟩ := ref03_Same_spec (n6.grow ((((g7.updr (Nat.le_refl _) u8).trans g9).trans g10).updr (Nat.le_trans (((g7.updr (Nat.le_refl _) u8).trans g9)).size (Nat.le_refl _)) u11)) (n9.grow (g10.updr (Nat.le_refl _) u11)) (((modint_Add' a1 x2 a3 x4).1))
    refine Runs.step e12 ?_
    refine Runs.step (seen rfl) ?_
    refine Runs.step (AH.has.rd (((((((((g2.trans g3).trans g6).trans g7).updr (Nat.le_trans (((g2.trans g3).trans g6)).size (Nat.le_refl _)) u8).trans g9).trans g10).updr (Nat.le_trans ((((((g2.trans g3).trans g6).trans g7).updr (Nat.le_trans (((g2.trans g3).trans g6)).size (Nat.le_refl _)) u8).trans g9)).size (Nat.le_refl _)) u11).trans g12).has b1) 0 rfl rfl) ?_
    refine Runs.step (AH.has.rd (((((((((g2.trans g3).trans g6).trans g7).updr (Nat.le_trans (((g2.trans g3).trans g6)).size (Nat.le_refl _)) u8).trans g9).trans g10).updr (Nat.le_trans ((((((g2.trans g3).trans g6).trans g7).updr (Nat.le_trans (((g2.trans g3).trans g6)).size (Nat.le_refl _)) u8).trans g9)).size (Nat.le_refl _)) u11).trans g12).has b1) 1 rfl (asSl_v _)) ?_
    refine Runs.step (AH.has.rd ((((((((g3.trans g6).trans g7).updr (Nat.le_trans ((g3.trans g6)).size (Nat.le_refl _)) u8).trans g9).trans g10).updr (Nat.le_trans (((((g3.trans g6).trans g7).updr (Nat.le_trans ((g3.trans g6)).size (Nat.le_refl _)) u8).trans g9)).size (Nat.le_refl _)) u11).trans g12).has b2) 0 rfl rfl) ?_
    refine Runs.step (AH.has.rd ((((((((g3.trans g6).trans g7).updr (Nat.le_trans ((g3.trans g6)).size (Nat.le_refl _)) u8).trans g9).trans g10).updr (Nat.le_trans (((((g3.trans g6).trans g7).updr (Nat.le_trans ((g3.trans g6)).size (Nat.le_refl _)) u8).trans g9)).size (Nat.le_refl _)) u11).trans g12).has b2) 1 rfl (asSl_v _)) ?_
    obtain ⟨_, H13, e13, s13, rfl, n13, g13, o13⟩ := modint_Sub_spec (n2.grow (((((((((g1.trans g2).trans g3).trans g6).trans g7).updr (Nat.le_trans ((((g1.trans g2).trans g3).trans g6)).size (Nat.le_refl _)) u8).trans g9).trans g10).updr (Nat.le_trans (((((((g1.trans g2).trans g3).trans g6).trans g7).updr (Nat.le_trans ((((g1.trans g2).trans g3).trans g6)).size (Nat.le_refl _)) u8).trans g9)).size (Nat.le_refl _)) u11).trans g12)) (n4.grow (((((((((g1.trans g2).trans g3).trans g6).trans g7).updr (Nat.le_trans ((((g1.trans g2).trans g3).trans g6)).size (Nat.le_refl _)) u8).trans g9).trans g10).updr (Nat.le_trans (((((((g1.trans g2).trans g3).trans g6).trans g7).updr (Nat.le_trans ((((g1.trans g2).trans g3).trans g6)).size (Nat.le_refl _)) u8).trans g9)).size (Nat.le_refl _)) u11).trans g12)) a1 a3
    refine Runs.step e13 ?_
    refine Runs.step rfl ?_
    refine Runs.step rfl ?_
    refine Runs.ifT rfl ?_
    refine Runs.step (seenAt rfl rfl) ?_
    refine Runs.step (seenAt rfl (asSl_v _)) ?_
    refine Runs.step (seen (avInt_int _ _)) ?_
    refine Runs.new fun H14 b14 g14 => ?_
    refine Runs.puts b14 rfl fun H15 b15 u15 => ?_
    refine Runs.step (AH.has.rd ((((((((((((g2.trans g3).trans g6).trans g7).updr (Nat.le_trans (((g2.trans g3).trans g6)).size (Nat.le_refl _)) u8).trans g9).trans g10).updr (Nat.le_trans ((((((g2.trans g3).trans g6).trans g7).updr (Nat.le_trans (((g2.trans g3).trans g6)).size (Nat.le_refl _)) u8).trans g9)).size (Nat.le_refl _)) u11).trans g12).trans g13).trans g14).updr (Nat.le_trans ((((((((((g2.trans g3).trans g6).trans g7).updr (Nat.le_trans (((g2.trans g3).trans g6)).size (Nat.le_refl _)) u8).trans g9).trans g10).updr (Nat.le_trans ((((((g2.trans g3).trans g6).trans g7).updr (Nat.le_trans (((g2.trans g3).trans g6)).size (Nat.le_refl _)) u8).trans g9)).size (Nat.le_refl _)) u11).trans g12).trans g13)).size (Nat.le_refl _)) u15).has b1) 0 rfl rfl) ?_
    refine Runs.step (AH.has.rd ((((((((((((g2.trans g3).trans g6).trans g7).updr (Nat.le_trans (((g2.trans g3).trans g6)).size (Nat.le_refl _)) u8).trans g9).trans g10).updr (Nat.le_trans ((((((g2.trans g3).trans g6).trans g7).updr (Nat.le_trans (((g2.trans g3).trans g6)).size (Nat.le_refl _)) u8).trans g9)).size (Nat.le_refl _)) u11).trans g12).trans g13).trans g14).updr (Nat.le_trans ((((((((((g2.trans g3).trans g6).trans g7).updr (Nat.le_trans (((g2.trans g3).trans g6)).size (Nat.le_refl _)) u8).trans g9).trans g10).updr (Nat.le_trans ((((((g2.trans g3).trans g6).trans g7).updr (Nat.le_trans (((g2.trans g3).trans g6)).size (Nat.le_refl _)) u8).trans g9)).size (Nat.le_refl _)) u11).trans g12).trans g13)).size (Nat.le_refl _)) u15).has b1) 1 rfl (asSl_v _)) ?_
    refine Runs.step (AH.has.rd (((((((((((g3.trans g6).trans g7).updr (Nat.le_trans ((g3.trans g6)).size (Nat.le_refl _)) u8).trans g9).trans g10).updr (Nat.le_trans (((((g3.trans g6).trans g7).updr (Nat.le_trans ((g3.trans g6)).size (Nat.le_refl _)) u8).trans g9)).size (Nat.le_refl _)) u11).trans g12).trans g13).trans g14).updr (Nat.le_trans (((((((((g3.trans g6).trans g7).updr (Nat.le_trans ((g3.trans g6)).size (Nat.le_refl _)) u8).trans g9).trans g10).updr (Nat.le_trans (((((g3.trans g6).trans g7).updr (Nat.le_trans ((g3.trans g6)).size (Nat.le_refl _)) u8).trans g9)).size (Nat.le_refl _)) u11).trans g12).trans g13)).size (Nat.le_refl _)) u15).has b2) 0 rfl rfl) ?_
    refine Runs.step (AH.has.rd (((((((((((g3.trans g6).trans g7).updr (Nat.le_trans ((g3.trans g6)).size (Nat.le_refl _)) u8).trans g9).trans g10).updr (Nat.le_trans (((((g3.trans g6).trans g7).updr (Nat.le_trans ((g3.trans g6)).size (Nat.le_refl _)) u8).trans g9)).size (Nat.le_refl _)) u11).trans g12).trans g13).trans g14).updr (Nat.le_trans (((((((((g3.trans g6).trans g7).updr (Nat.le_trans ((g3.trans g6)).size (Nat.le_refl _)) u8).trans g9).trans g10).updr (Nat.le_trans (((((g3.trans g6).trans g7).updr (Nat.le_trans ((g3.trans g6)).size (Nat.le_refl _)) u8).trans g9)).size (Nat.le_refl _)) u11).trans g12).trans g13)).size (Nat.le_refl _)) u15).has b2) 1 rfl (asSl_v _)) ?_
    obtain ⟨_, H16, e16, s16, rfl, n16, g16, o16⟩ := ref03_Sub_is (n2.grow ((((((((((((g1.trans g2).trans g3).trans g6).trans g7).updr (Nat.le_trans ((((g1.trans g2).trans g3).trans g6)).size (Nat.le_refl _)) u8).trans g9).trans g10).updr (Nat.le_trans (((((((g1.trans g2).trans g3).trans g6).trans g7).updr (Nat.le_trans ((((g1.trans g2).trans g3).trans g6)).size (Nat.le_refl _)) u8).trans g9)).size (Nat.le_refl _)) u11).trans g12).trans g13).trans g14).updr (Nat.le_trans (((((((((((g1.trans g2).trans g3).trans g6).trans g7).updr (Nat.le_trans ((((g1.trans g2).trans g3).trans g6)).size (Nat.le_refl _)) u8).trans g9).trans g10).updr (Nat.le_trans (((((((g1.trans g2).trans g3).trans g6).trans g7).updr (Nat.le_trans ((((g1.trans g2).trans g3).trans g6)).size (Nat.le_refl _)) u8).trans g9)).size (Nat.le_refl _)) u11).trans g12).trans g13)).size (Nat.le_refl _)) u15)) (n4.grow ((((((((((((g1.trans g2).trans g3).trans g6).trans g7).updr (Nat.le_trans ((((g1.trans g2).trans g3).trans g6)).size (Nat.le_refl _)) u8).trans g9).trans g10).updr (Nat.le_trans (((((((g1.trans g2).trans g3).trans g6).trans g7).updr (Nat.le_trans ((((g1.trans g2).trans g3).trans g6)).size (Nat.le_refl _)) u8).trans g9)).size (Nat.le_refl _)) u11).trans g12).trans g13).trans g14).updr (Nat.le_trans (((((((((((g1.trans g2).trans g3).trans g6).trans g7).updr (Nat.le_trans ((((g1.trans g2).trans g3).trans g6)).size (Nat.le_refl _)) u8).trans g9).trans g10).updr (Nat.le_trans (((((((g1.trans g2).trans g3).trans g6).trans g7).updr (Nat.le_trans ((((g1.trans g2).trans g3).trans g6)).size (Nat.le_refl _)) u8).trans g9)).size (Nat.le_refl _)) u11).trans g12).trans g13)).size (Nat.le_refl _)) u15)) a1 a3
    refine Runs.step e16 ?_
    refine Runs.step rfl ?_
    refine Runs.step rfl ?_
    refine Runs.ifT rfl ?_
    refine Runs.step (seenAt rfl rfl) ?_
    refine Runs.step (seenAt rfl (asSl_v _)) ?_
    refine Runs.step (seen (avInt_int _ _)) ?_
    refine Runs.new fun H17 b17 g17 => ?_
    refine Runs.puts b17 rfl fun H18 b18 u18 => ?_
    refine Runs.step (AH.has.rd (((g16.trans g17).updr (Nat.le_trans (g16).size (Nat.le_refl _)) u18).has b15) 0 rfl rfl) ?_
    refine Runs.step (AH.has.rd (((g16.trans g17).updr (Nat.le_trans (g16).size (Nat.le_refl _)) u18).has b15) 1 rfl (asSl_v _)) ?_
    refine Runs.step (AH.has.rd b18 0 rfl rfl) ?_
    refine Runs.step (AH.has.rd b18 1 rfl (asSl_v _)) ?_
    obtain ⟨H19, e19, g19⟩ := ref03_Same_spec (n13.grow ((((g14.updr (Nat.le_refl _) u15).trans g16).trans g17).updr (Nat.le_trans (((g14.updr (Nat.le_refl _) u15).trans g16)).size (Nat.le_refl _)) u18)) (n16.grow (g17.updr (Nat.le_refl _) u18)) (((modint_Sub' a1 x2 a3 x4).1))
    refine Runs.step e19 ?_
    refine Runs.step (seen rfl) ?_
    refine Runs.new fun H20 b20 g20 => ?_
    obtain ⟨_, H21, e21, s21, rfl, n21, g21, o21⟩ := modint_Add_spec (Nats.of_has (xs := [1]) b20 (by decide) (by decide)) (Nats.nil _) false false
    refine Runs.step e21 ?_
    refine Runs.step rfl ?_
    refine Runs.step rfl ?_
    refine Runs.ifT rfl ?_
    refine Runs.step (seenAt rfl rfl) ?_
    refine Runs.step (seenAt rfl (asSl_v _)) ?_
    refine Runs.step (seen (avInt_int _ _)) ?_
    refine Runs.new fun H22 b22 g22 => ?_
    refine Runs.puts b22 rfl fun H23 b23 u23 => ?_
    refine Runs.cond (fun k24 => ?_) (fun k24 => ?_)
    · refine Runs.cond (fun k25 => ?_) (fun k25 => ?_)
      · refine Runs.cond (fun k26 => ?_) (fun k26 => ?_)
        · refine Runs.cond (fun k27 => ?_) (fun k27 => ?_)
          · refine Runs.step (AH.has.rd b23 1 rfl (asSl_v _)) ?_
            rw [(n21.grow (g22.updr (Nat.le_refl _) u23)).len]
            have z : law03_ModintSums' a1 x2 a3 x4 = decide ((List.length ((modint_Add' false [1] false []).2.1) : Int) = 1) := by unfold law03_ModintSums'; exact (condF k5).trans ((condT k24).trans ((condT k25).trans ((condT k26).trans ((condT k27).trans rfl))))
            rw [z]
            exact Runs.ret ⟨rfl, ((((((((((((((((((((g1.trans g2).trans g3).trans g6).trans g7).updr (Nat.le_trans ((((g1.trans g2).trans g3).trans g6)).size (Nat.le_refl _)) u8).trans g9).trans g10).updr (Nat.le_trans (((((((g1.trans g2).trans g3).trans g6).trans g7).updr (Nat.le_trans ((((g1.trans g2).trans g3).trans g6)).size (Nat.le_refl _)) u8).trans g9)).size (Nat.le_refl _)) u11).trans g12).trans g13).trans g14).updr (Nat.le_trans (((((((((((g1.trans g2).trans g3).trans g6).trans g7).updr (Nat.le_trans ((((g1.trans g2).trans g3).trans g6)).size (Nat.le_refl _)) u8).trans g9).trans g10).updr (Nat.le_trans (((((((g1.trans g2).trans g3).trans g6).trans g7).updr (Nat.le_trans ((((g1.trans g2).trans g3).trans g6)).size (Nat.le_refl _)) u8).trans g9)).size (Nat.le_refl _)) u11).trans g12).trans g13)).size (Nat.le_refl _)) u15).trans g16).trans g17).updr (Nat.le_trans ((((((((((((((g1.trans g2).trans g3).trans g6).trans g7).updr (Nat.le_trans ((((g1.trans g2).trans g3).trans g6)).size (Nat.le_refl _)) u8).trans g9).trans g10).updr (Nat.le_trans (((((((g1.trans g2).trans g3).trans g6).trans g7).updr (Nat.le_trans ((((g1.trans g2).trans g3).trans g6)).size (Nat.le_refl _)) u8).trans g9)).size (Nat.le_refl _)) u11).trans g12).trans g13).trans g14).updr (Nat.le_trans (((((((((((g1.trans g2).trans g3).trans g6).trans g7).updr (Nat.le_trans ((((g1.trans g2).trans g3).trans g6)).size (Nat.le_refl _)) u8).trans g9).trans g10).updr (Nat.le_trans (((((((g1.trans g2).trans g3).trans g6).trans g7).updr (Nat.le_trans ((((g1.trans g2).trans g3).trans g6)).size (Nat.le_refl _)) u8).trans g9)).size (Nat.le_refl _)) u11).trans g12).trans g13)).size (Nat.le_refl _)) u15).trans g16)).size (Nat.le_refl _)) u18).trans g19).trans g20).trans g21).trans g22).updr (Nat.le_trans (((((((((((((((((((g1.trans g2).trans g3).trans g6).trans g7).updr (Nat.le_trans ((((g1.trans g2).trans g3).trans g6)).size (Nat.le_refl _)) u8).trans g9).trans g10).updr (Nat.le_trans (((((((g1.trans g2).trans g3).trans g6).trans g7).updr (Nat.le_trans ((((g1.trans g2).trans g3).trans g6)).size (Nat.le_refl _)) u8).trans g9)).size (Nat.le_refl _)) u11).trans g12).trans g13).trans g14).updr (Nat.le_trans (((((((((((g1.trans g2).trans g3).trans g6).trans g7).updr (Nat.le_trans ((((g1.trans g2).trans g3).trans g6)).size (Nat.le_refl _)) u8).trans g9).trans g10).updr (Nat.le_trans (((((((g1.trans g2).trans g3).trans g6).trans g7).updr (Nat.le_trans ((((g1.trans g2).trans g3).trans g6)).size (Nat.le_refl _)) u8).trans g9)).size (Nat.le_refl _)) u11).trans g12).trans g13)).size (Nat.le_refl _)) u15).trans g16).trans g17).updr (Nat.le_trans ((((((((((((((g1.trans g2).trans g3).trans g6).trans g7).updr (Nat.le_trans ((((g1.trans g2).trans g3).trans g6)).size (Nat.le_refl _)) u8).trans g9).trans g10).updr (Nat.le_trans (((((((g1.trans g2).trans g3).trans g6).trans g7).updr (Nat.le_trans ((((g1.trans g2).trans g3).trans g6)).size (Nat.le_refl _)) u8).trans g9)).size (Nat.le_refl _)) u11).trans g12).trans g13).trans g14).updr (Nat.le_trans (((((((((((g1.trans g2).trans g3).trans g6).trans g7).updr (Nat.le_trans ((((g1.trans g2).trans g3).trans g6)).size (Nat.le_refl _)) u8).trans g9).trans g10).updr (Nat.le_trans (((((((g1.trans g2).trans g3).trans g6).trans g7).updr (Nat.le_trans ((((g1.trans g2).trans g3).trans g6)).size (Nat.le_refl _)) u8).trans g9)).size (Nat.le_refl _)) u11).trans g12).trans g13)).size (Nat.le_refl _)) u15).trans g16)).size (Nat.le_refl _)) u18).trans g19).trans g20).trans g21)).size (Nat.le_refl _)) u23)⟩
          · have z : law03_ModintSums' a1 x2 a3 x4 = false := by unfold law03_ModintSums'; exact (condF k5).trans ((condT k24).trans ((condT k25).trans ((condT k26).trans ((condF k27).trans rfl))))
            rw [z]
            exact Runs.ret ⟨rfl, ((((((((((((((((((((g1.trans g2).trans g3).trans g6).trans g7).updr (Nat.le_trans ((((g1.trans g2).trans g3).trans g6)).size (Nat.le_refl _)) u8).trans g9).trans g10).updr (Nat.le_trans (((((((g1.trans g2).trans g3).trans g6).trans g7).updr (Nat.le_trans ((((g1.trans g2).trans g3).trans g6)).size (Nat.le_refl _)) u8).trans g9)).size (Nat.le_refl _)) u11).trans g12).trans g13).trans g14).updr (Nat.le_trans (((((((((((g1.trans g2).trans g3).trans g6).trans g7).updr (Nat.le_trans ((((g1.trans g2).trans g3).trans g6)).size (Nat.le_refl _)) u8).trans g9).trans g10).updr (Nat.le_trans (((((((g1.trans g2).trans g3).trans g6).trans g7).updr (Nat.le_trans ((((g1.trans g2).trans g3).trans g6)).size (Nat.le_refl _)) u8).trans g9)).size (Nat.le_refl _)) u11).trans g12).trans g13)).size (Nat.le_refl _)) u15).trans g16).trans g17).updr (Nat.le_trans ((((((((((((((g1.trans g2).trans g3).trans g6).trans g7).updr (Nat.le_trans ((((g1.trans g2).trans g3).trans g6)).size (Nat.le_refl _)) u8).trans g9).trans g10).updr (Nat.le_trans (((((((g1.trans g2).trans g3).trans g6).trans g7).updr (Nat.le_trans ((((g1.trans g2).trans g3).trans g6)).size (Nat.le_refl _)) u8).trans g9)).size (Nat.le_refl _)) u11).trans g12).trans g13).trans g14).updr (Nat.le_trans (((((((((((g1.trans g2).trans g3).trans g6).trans g7).updr (Nat.le_trans ((((g1.trans g2).trans g3).trans g6)).size (Nat.le_refl _)) u8).trans g9).trans g10).updr (Nat.le_trans (((((((g1.trans g2).trans g3).trans g6).trans g7).updr (Nat.le_trans ((((g1.trans g2).trans g3).trans g6)).size (Nat.le_refl _)) u8).trans g9)).size (Nat.le_refl _)) u11).trans g12).trans g13)).size (Nat.le_refl _)) u15).trans g16)).size (Nat.le_refl _)) u18).trans g19).trans g20).trans g21).trans g22).updr (Nat.le_trans (((((((((((((((((((g1.trans g2).trans g3).trans g6).trans g7).updr (Nat.le_trans ((((g1.trans g2).trans g3).trans g6)).size (Nat.le_refl _)) u8).trans g9).trans g10).updr (Nat.le_trans (((((((g1.trans g2).trans g3).trans g6).trans g7).updr (Nat.le_trans ((((g1.trans g2).trans g3).trans g6)).size (Nat.le_refl _)) u8).trans g9)).size (Nat.le_refl _)) u11).trans g12).trans g13).trans g14).updr (Nat.le_trans (((((((((((g1.trans g2).trans g3).trans g6).trans g7).updr (Nat.le_trans ((((g1.trans g2).trans g3).trans g6)).size (Nat.le_refl _)) u8).trans g9).trans g10).updr (Nat.le_trans (((((((g1.trans g2).trans g3).trans g6).trans g7).updr (Nat.le_trans ((((g1.trans g2).trans g3).trans g6)).size (Nat.le_refl _)) u8).trans g9)).size (Nat.le_refl _)) u11).trans g12).trans g13)).size (Nat.le_refl _)) u15).trans g16).trans g17).updr (Nat.le_trans ((((((((((((((g1.trans g2).trans g3).trans g6).trans g7).updr (Nat.le_trans ((((g1.trans g2).trans g3).trans g6)).size (Nat.le_refl _)) u8).trans g9).trans g10).updr (Nat.le_trans (((((((g1.trans g2).trans g3).trans g6).trans g7).updr (Nat.le_trans ((((g1.trans g2).trans g3).trans g6)).size (Nat.le_refl _)) u8).trans g9)).size (Nat.le_refl _)) u11).trans g12).trans g13).trans g14).updr (Nat.le_trans (((((((((((g1.trans g2).trans g3).trans g6).trans g7).updr (Nat.le_trans ((((g1.trans g2).trans g3).trans g6)).size (Nat.le_refl _)) u8).trans g9).trans g10).updr (Nat.le_trans (((((((g1.trans g2).trans g3).trans g6).trans g7).updr (Nat.le_trans ((((g1.trans g2).trans g3).trans g6)).size (Nat.le_refl _)) u8).trans g9)).size (Nat.le_refl _)) u11).trans g12).trans g13)).size (Nat.le_refl _)) u15).trans g16)).size (Nat.le_refl _)) u18).trans g19).trans g20).trans g21)).size (Nat.le_refl _)) u23)⟩
        · have z : law03_ModintSums' a1 x2 a3 x4 = false := by unfold law03_ModintSums'; exact (condF k5).trans ((condT k24).trans ((condT k25).trans ((condF k26).trans rfl)))
          rw [z]
          exact Runs.ret ⟨rfl, ((((((((((((((((((((g1.trans g2).trans g3).trans g6).trans g7).updr (Nat.le_trans ((((g1.trans g2).trans g3).trans g6)).size (Nat.le_refl _)) u8).trans g9).trans g10).updr (Nat.le_trans (((((((g1.trans g2).trans g3).trans g6).trans g7).updr (Nat.le_trans ((((g1.trans g2).trans g3).trans g6)).size (Nat.le_refl _)) u8).trans g9)).size (Nat.le_refl _)) u11).trans g12).trans g13).trans g14).updr (Nat.le_trans (((((((((((g1.trans g2).trans g3).trans g6).trans g7).updr (Nat.le_trans ((((g1.trans g2).trans g3).trans g6)).size (Nat.le_refl _)) u8).trans g9).trans g10).updr (Nat.le_trans (((((((g1.trans g2).trans g3).trans g6).trans g7).updr (Nat.le_trans ((((g1.trans g2).trans g3).trans g6)).size (Nat.le_refl _)) u8).trans g9)).size (Nat.le_refl _)) u11).trans g12).trans g13)).size (Nat.le_refl _)) u15).trans g16).trans g17).updr (Nat.le_trans ((((((((((((((g1.trans g2).trans g3).trans g6).trans g7).updr (Nat.le_trans ((((g1.trans g2).trans g3).trans g6)).size (Nat.le_refl _)) u8).trans g9).trans g10).updr (Nat.le_trans (((((((g1.trans g2).trans g3).trans g6).trans g7).updr (Nat.le_trans ((((g1.trans g2).trans g3).trans g6)).size (Nat.le_refl _)) u8).trans g9)).size (Nat.le_refl _)) u11).trans g12).trans g13).trans g14).updr (Nat.le_trans (((((((((((g1.trans g2).trans g3).trans g6).trans g7).updr (Nat.le_trans ((((g1.trans g2).trans g3).trans g6)).size (Nat.le_refl _)) u8).trans g9).trans g10).updr (Nat.le_trans (((((((g1.trans g2).trans g3).trans g6).trans g7).updr (Nat.le_trans ((((g1.trans g2).trans g3).trans g6)).size (Nat.le_refl _)) u8).trans g9)).size (Nat.le_refl _)) u11).trans g12).trans g13)).size (Nat.le_refl _)) u15).trans g16)).size (Nat.le_refl _)) u18).trans g19).trans g20).trans g21).trans g22).updr (Nat.le_trans (((((((((((((((((((g1.trans g2).trans g3).trans g6).trans g7).updr (Nat.le_trans ((((g1.trans g2).trans g3).trans g6)).size (Nat.le_refl _)) u8).trans g9).trans g10).updr (Nat.le_trans (((((((g1.trans g2).trans g3).trans g6).trans g7).updr (Nat.le_trans ((((g1.trans g2).trans g3).trans g6)).size (Nat.le_refl _)) u8).trans g9)).size (Nat.le_refl _)) u11).trans g12).trans g13).trans g14).updr (Nat.le_trans (((((((((((g1.trans g2).trans g3).trans g6).trans g7).updr (Nat.le_trans ((((g1.trans g2).trans g3).trans g6)).size (Nat.le_refl _)) u8).trans g9).trans g10).updr (Nat.le_trans (((((((g1.trans g2).trans g3).trans g6).trans g7).updr (Nat.le_trans ((((g1.trans g2).trans g3).trans g6)).size (Nat.le_refl _)) u8).trans g9)).size (Nat.le_refl _)) u11).trans g12).trans g13)).size (Nat.le_refl _)) u15).trans g16).trans g17).updr (Nat.le_trans ((((((((((((((g1.trans g2).trans g3).trans g6).trans g7).updr (Nat.le_trans ((((g1.trans g2).trans g3).trans g6)).size (Nat.le_refl _)) u8).trans g9).trans g10).updr (Nat.le_trans (((((((g1.trans g2).trans g3).trans g6).trans g7).updr (Nat.le_trans ((((g1.trans g2).trans g3).trans g6)).size (Nat.le_refl _)) u8).trans g9)).size (Nat.le_refl _)) u11).trans g12).trans g13).trans g14).updr (Nat.le_trans (((((((((((g1.trans g2).trans g3).trans g6).trans g7).updr (Nat.le_trans ((((g1.trans g2).trans g3).trans g6)).size (Nat.le_refl _)) u8).trans g9).trans g10).updr (Nat.le_trans (((((((g1.trans g2).trans g3).trans g6).trans g7).updr (Nat.le_trans ((((g1.trans g2).trans g3).trans g6)).size (Nat.le_refl _)) u8).trans g9)).size (Nat.le_refl _)) u11).trans g12).trans g13)).size (Nat.le_refl _)) u15).trans g16)).size (Nat.le_refl _)) u18).trans g19).trans g20).trans g21)).size (Nat.le_refl _)) u23)⟩
      · have z : law03_ModintSums' a1 x2 a3 x4 = false := by unfold law03_ModintSums'; exact (condF k5).trans ((condT k24).trans ((condF k25).trans rfl))
        rw [z]
        exact Runs.ret ⟨rfl, ((((((((((((((((((((g1.trans g2).trans g3).trans g6).trans g7).updr (Nat.le_trans ((((g1.trans g2).trans g3).trans g6)).size (Nat.le_refl _)) u8).trans g9).trans g10).updr (Nat.le_trans (((((((g1.trans g2).trans g3).trans g6).trans g7).updr (Nat.le_trans ((((g1.trans g2).trans g3).trans g6)).size (Nat.le_refl _)) u8).trans g9)).size (Nat.le_refl _)) u11).trans g12).trans g13).trans g14).updr (Nat.le_trans (((((((((((g1.trans g2).trans g3).trans g6).trans g7).updr (Nat.le_trans ((((g1.trans g2).trans g3).trans g6)).size (Nat.le_refl _)) u8).trans g9).trans g10).updr (Nat.le_trans (((((((g1.trans g2).trans g3).trans g6).trans g7).updr (Nat.le_trans ((((g1.trans g2).trans g3).trans g6)).size (Nat.le_refl _)) u8).trans g9)).size (Nat.le_refl _)) u11).trans g12).trans g13)).size (Nat.le_refl _)) u15).trans g16).trans g17).updr (Nat.le_trans ((((((((((((((g1.trans g2).trans g3).trans g6).trans g7).updr (Nat.le_trans ((((g1.trans g2).trans g3).trans g6)).size (Nat.le_refl _)) u8).trans g9).trans g10).updr (Nat.le_trans (((((((g1.trans g2).trans g3).trans g6).trans g7).updr (Nat.le_trans ((((g1.trans g2).trans g3).trans g6)).size (Nat.le_refl _)) u8).trans g9)).size (Nat.le_refl _)) u11).trans g12).trans g13).trans g14).updr (Nat.le_trans (((((((((((g1.trans g2).trans g3).trans g6).trans g7).updr (Nat.le_trans ((((g1.trans g2).trans g3).trans g6)).size (Nat.le_refl _)) u8).trans g9).trans g10).updr (Nat.le_trans (((((((g1.trans g2).trans g3).trans g6).trans g7).updr (Nat.le_trans ((((g1.trans g2).trans g3).trans g6)).size (Nat.le_refl _)) u8).trans g9)).size (Nat.le_refl _)) u11).trans g12).trans g13)).size (Nat.le_refl _)) u15).trans g16)).size (Nat.le_refl _)) u18).trans g19).trans g20).trans g21).trans g22).updr (Nat.le_trans (((((((((((((((((((g1.trans g2).trans g3).trans g6).trans g7).updr (Nat.le_trans ((((g1.trans g2).trans g3).trans g6)).size (Nat.le_refl _)) u8).trans g9).trans g10).updr (Nat.le_trans (((((((g1.trans g2).trans g3).trans g6).trans g7).updr (Nat.le_trans ((((g1.trans g2).trans g3).trans g6)).size (Nat.le_refl _)) u8).trans g9)).size (Nat.le_refl _)) u11).trans g12).trans g13).trans g14).updr (Nat.le_trans (((((((((((g1.trans g2).trans g3).trans g6).trans g7).updr (Nat.le_trans ((((g1.trans g2).trans g3).trans g6)).size (Nat.le_refl _)) u8).trans g9).trans g10).updr (Nat.le_trans (((((((g1.trans g2).trans g3).trans g6).trans g7).updr (Nat.le_trans ((((g1.trans g2).trans g3).trans g6)).size (Nat.le_refl _)) u8).trans g9)).size (Nat.le_refl _)) u11).trans g12).trans g13)).size (Nat.le_refl _)) u15).trans g16).trans g17).updr (Nat.le_trans ((((((((((((((g1.trans g2).trans g3).trans g6).trans g7).updr (Nat.le_trans ((((g1.trans g2).trans g3).trans g6)).size (Nat.le_refl _)) u8).trans g9).trans g10).updr (Nat.le_trans (((((((g1.trans g2).trans g3).trans g6).trans g7).updr (Nat.le_trans ((((g1.trans g2).trans g3).trans g6)).size (Nat.le_refl _)) u8).trans g9)).size (Nat.le_refl _)) u11).trans g12).trans g13).trans g14).updr (Nat.le_trans (((((((((((g1.trans g2).trans g3).trans g6).trans g7).updr (Nat.le_trans ((((g1.trans g2).trans g3).trans g6)).size (Nat.le_refl _)) u8).trans g9).trans g10).updr (Nat.le_trans (((((((g1.trans g2).trans g3).trans g6).trans g7).updr (Nat.le_trans ((((g1.trans g2).trans g3).trans g6)).size (Nat.le_refl _)) u8).trans g9)).size (Nat.le_refl _)) u11).trans g12).trans g13)).size (Nat.le_refl _)) u15).trans g16)).size (Nat.le_refl _)) u18).trans g19).trans g20).trans g21)).size (Nat.le_refl _)) u23)⟩
    · have z : law03_ModintSums' a1 x2 a3 x4 = false := by unfold law03_ModintSums'; exact (condF k5).trans ((condF k24).trans rfl)
      rw [z]
      exact Runs.ret ⟨rfl, ((((((((((((((((((((g1.trans g2).trans g3).trans g6).trans g7).updr (Nat.le_trans ((((g1.trans g2).trans g3).trans g6)).size (Nat.le_refl _)) u8).trans g9).trans g10).updr (Nat.le_trans (((((((g1.trans g2).trans g3).trans g6).trans g7).updr (Nat.le_trans ((((g1.trans g2).trans g3).trans g6)).size (Nat.le_refl _)) u8).trans g9)).size (Nat.le_refl _)) u11).trans g12).trans g13).trans g14).updr (Nat.le_trans (((((((((((g1.trans g2).trans g3).trans g6).trans g7).updr (Nat.le_trans ((((g1.trans g2).trans g3).trans g6)).size (Nat.le_refl _)) u8).trans g9).trans g10).updr (Nat.le_trans (((((((g1.trans g2).trans g3).trans g6).trans g7).updr (Nat.le_trans ((((g1.trans g2).trans g3).trans g6)).size (Nat.le_refl _)) u8).trans g9)).size (Nat.le_refl _)) u11).trans g12).trans g13)).size (Nat.le_refl _)) u15).trans g16).trans g17).updr (Nat.le_trans ((((((((((((((g1.trans g2).trans g3).trans g6).trans g7).updr (Nat.le_trans ((((g1.trans g2).trans g3).trans g6)).size (Nat.le_refl _)) u8).trans g9).trans g10).updr (Nat.le_trans (((((((g1.trans g2).trans g3).trans g6).trans g7).updr (Nat.le_trans ((((g1.trans g2).trans g3).trans g6)).size (Nat.le_refl _)) u8).trans g9)).size (Nat.le_refl _)) u11).trans g12).trans g13).trans g14).updr (Nat.le_trans (((((((((((g1.trans g2).trans g3).trans g6).trans g7).updr (Nat.le_trans ((((g1.trans g2).trans g3).trans g6)).size (Nat.le_refl _)) u8).trans g9).trans g10).updr (Nat.le_trans (((((((g1.trans g2).trans g3).trans g6).trans g7).updr (Nat.le_trans ((((g1.trans g2).trans g3).trans g6)).size (Nat.le_refl _)) u8).trans g9)).size (Nat.le_refl _)) u11).trans g12).trans g13)).size (Nat.le_refl _)) u15).trans g16)).size (Nat.le_refl _)) u18).trans g19).trans g20).trans g21).trans g22).updr (Nat.le_trans (((((((((((((((((((g1.trans g2).trans g3).trans g6).trans g7).updr (Nat.le_trans ((((g1.trans g2).trans g3).trans g6)).size (Nat.le_refl _)) u8).trans g9).trans g10).updr (Nat.le_trans (((((((g1.trans g2).trans g3).trans g6).trans g7).updr (Nat.le_trans ((((g1.trans g2).trans g3).trans g6)).size (Nat.le_refl _)) u8).trans g9)).size (Nat.le_refl _)) u11).trans g12).trans g13).trans g14).updr (Nat.le_trans (((((((((((g1.trans g2).trans g3).trans g6).trans g7).updr (Nat.le_trans ((((g1.trans g2).trans g3).trans g6)).size (Nat.le_refl _)) u8).trans g9).trans g10).updr (Nat.le_trans (((((((g1.trans g2).trans g3).trans g6).trans g7).updr (Nat.le_trans ((((g1.trans g2).trans g3).trans g6)).size (Nat.le_refl _)) u8).trans g9)).size (Nat.le_refl _)) u11).trans g12).trans g13)).size (Nat.le_refl _)) u15).trans g16).trans g17).updr (Nat.le_trans ((((((((((((((g1.trans g2).trans g3).trans g6).trans g7).updr (Nat.le_trans ((((g1.trans g2).trans g3).trans g6)).size (Nat.le_refl _)) u8).trans g9).trans g10).updr (Nat.le_trans (((((((g1.trans g2).trans g3).trans g6).trans g7).updr (Nat.le_trans ((((g1.trans g2).trans g3).trans g6)).size (Nat.le_refl _)) u8).trans g9)).size (Nat.le_refl _)) u11).trans g12).trans g13).trans g14).updr (Nat.le_trans (((((((((((g1.trans g2).trans g3).trans g6).trans g7).updr (Nat.le_trans ((((g1.trans g2).trans g3).trans g6)).size (Nat.le_refl _)) u8).trans g9).trans g10).updr (Nat.le_trans (((((((g1.trans g2).trans g3).trans g6).trans g7).updr (Nat.le_trans ((((g1.trans g2).trans g3).trans g6)).size (Nat.le_refl _)) u8).trans g9)).size (Nat.le_refl _)) u11).trans g12).trans g13)).size (Nat.le_refl _)) u15).trans g16)).size (Nat.le_refl _)) u18).trans g19).trans g20).trans g21)).size (Nat.le_refl _)) u23)⟩

end Go.Ab
