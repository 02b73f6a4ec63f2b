/- Layer 3: sums: printed by wip/tools/walk.py. -/
import Derived.Test.YtddnmijnpieokaaPS2
import Derived.Test.YtddnmijnpieokaaPAbsM

set_option linter.unusedVariables false
set_option linter.unusedSimpArgs false
set_option maxRecDepth 10000
namespace Go.Ab
open Go.Proofs Go.Num

def modint_Add' (a1 : Bool) (x2 : List Nat) (a3 : Bool) (x4 : List Nat) : Bool × List Nat × Int :=
  cond (!((rtI a1 x2 && rtI a3 x4))) ((false, [], 1)) (cond (a1 == a3) (((((fromI a1 ((addN x2 x4).1)).1)), (fromI a1 ((addN x2 x4).1)).2, ((addN x2 x4).2))) (cond (decide ((cmpN x2 x4) < 0)) (((((fromI a3 ((subN x4 x2).1)).1)), (fromI a3 ((subN x4 x2).1)).2, ((subN x4 x2).2))) (((((fromI a1 ((subN x2 x4).1)).1)), (fromI a1 ((subN x2 x4).1)).2, ((subN x2 x4).2)))))

theorem modint_Add_spec {h : AH} {a2 : Sl} {x2 : List Nat} {a4 : Sl} {x4 : List Nat} (n2 : Nats h a2 x2) (n4 : Nats h a4 x4) (a1 : Bool) (a3 : Bool) : Runs (go (.fn F.modint_Add [.agg [.bool a1, a2.v], .agg [.bool a3, a4.v]]) h) fun v h' => ∃ s1 : Sl, v = .tup [.agg [.bool (modint_Add' a1 x2 a3 x4).1, s1.v], .int .i64 (modint_Add' a1 x2 a3 x4).2.2] ∧ Nats h' s1 ((modint_Add' a1 x2 a3 x4).2.1) ∧ Grow h h' ∧ Own h s1 := by
  rw [u_modint_Add]
  refine Runs.new fun H5 b5 g5 => ?_
  refine Runs.new fun H6 b6 g6 => ?_
  refine Runs.new fun H7 b7 g7 => ?_
  refine Runs.step (AH.has.rd ((g6.trans g7).has b5) 0 rfl rfl) ?_
  refine Runs.step (AH.has.rd ((g6.trans g7).has b5) 1 rfl (asSl_v _)) ?_
  refine Runs.step (AH.has.rd (g7.has b6) 0 rfl rfl) ?_
  refine Runs.step (AH.has.rd (g7.has b6) 1 rfl (asSl_v _)) ?_
  refine Runs.new fun H8 b8 g8 => ?_
  obtain ⟨H9, e9, g9⟩ := modint_right2_spec b8 (n2.grow (((g5.trans g6).trans g7).trans g8)) (n4.grow (((g5.trans g6).trans g7).trans g8))
  refine Runs.step e9 ?_
  refine Runs.step (seen rfl) ?_
  refine Runs.cond (fun k10 => ?_) (fun k10 => ?_)
  · refine Runs.puts ((g8.trans g9).has b7) rfl fun H11 b11 u11 => ?_
    have b8_11 := AH.has.updr (g9.has b8) (Nat.ne_of_gt (Nat.lt_of_lt_of_le (b7).lt (Nat.le_refl _))) u11
    refine Runs.step (AH.has.rd b11 0 rfl rfl) ?_
    refine Runs.step (AH.has.rd b11 1 rfl (asSl_v _)) ?_
    have z : modint_Add' a1 x2 a3 x4 = (false, [], 1) := by unfold modint_Add'; exact (condT k10).trans rfl
    rw [z]
    exact Runs.ret ⟨(⟨none, 0, .is 0⟩ : Sl), rfl, (Nats.nil _), (((((g5.trans g6).trans g7).trans g8).trans g9).updr (Nat.le_trans ((g5.trans g6)).size (Nat.le_refl _)) u11), (Own.nil _)⟩
  · refine Runs.step (AH.has.rd ((((g6.trans g7).trans g8).trans g9).has b5) 0 rfl rfl) ?_
    refine Runs.step (AH.has.rd (((g7.trans g8).trans g9).has b6) 0 rfl rfl) ?_
    refine Runs.cond (fun k11 => ?_) (fun k11 => ?_)
    · refine Runs.step (AH.has.rd ((((g6.trans g7).trans g8).trans g9).has b5) 1 rfl (asSl_v _)) ?_
      refine Runs.step (AH.has.rd (((g7.trans g8).trans g9).has b6) 1 rfl (asSl_v _)) ?_
      obtain ⟨s12, H12, e12, n12, g12, o12⟩ := nat_Add_spec (n2.grow ((((g5.trans g6).trans g7).trans g8).trans g9)) (n4.grow ((((g5.trans g6).trans g7).trans g8).trans g9))
      refine Runs.step e12 ?_
      refine Runs.step rfl ?_
      refine Runs.step (seen (asSl_v _)) ?_
      refine Runs.step (seen (avInt_int _ _)) ?_
      refine Runs.step (AH.has.rd (((((g6.trans g7).trans g8).trans g9).trans g12).has b5) 0 rfl rfl) ?_
      obtain ⟨s13, H13, e13, n13, g13, o13⟩ := modint_From_spec n12 a1
      refine Runs.step e13 ?_
      refine Runs.step rfl ?_
      refine Runs.ifT rfl ?_
      refine Runs.step (seenAt rfl rfl) ?_
      refine Runs.step (seenAt rfl (asSl_v _)) ?_
      refine Runs.puts ((((g8.trans g9).trans g12).trans g13).has b7) rfl fun H14 b14 u14 => ?_
      have n12_14 := (n12.grow g13).upda (Av.of_own o12 ((g8.trans g9).has b7).lt) u14
      have n13_14 := n13.upda (Av.of_own o13 (((g8.trans g9).trans g12).has b7).lt) u14
      have b8_14 := AH.has.updr (((g9.trans g12).trans g13).has b8) (Nat.ne_of_gt (Nat.lt_of_lt_of_le (b7).lt (Nat.le_refl _))) u14
      refine Runs.step (AH.has.rd b14 0 rfl rfl) ?_
      refine Runs.step (AH.has.rd b14 1 rfl (asSl_v _)) ?_
      have z : modint_Add' a1 x2 a3 x4 = ((((fromI a1 ((addN x2 x4).1)).1)), (fromI a1 ((addN x2 x4).1)).2, ((addN x2 x4).2)) := by unfold modint_Add'; exact (condF k10).trans ((condT k11).trans rfl)
      rw [z]
      exact Runs.ret ⟨s13, rfl, n13_14, (((((((g5.trans g6).trans g7).trans g8).trans g9).trans g12).trans g13).updr (Nat.le_trans ((g5.trans g6)).size (Nat.le_refl _)) u14), (o13.of_le (((((g5.trans g6).trans g7).trans g8).trans g9).trans g12))⟩
    · refine Runs.step (AH.has.rd ((((g6.trans g7).trans g8).trans g9).has b5) 1 rfl (asSl_v _)) ?_
      refine Runs.step (AH.has.rd (((g7.trans g8).trans g9).has b6) 1 rfl (asSl_v _)) ?_
      obtain ⟨H12, e12, g12⟩ := nat_Cmp_spec (n2.grow ((((g5.trans g6).trans g7).trans g8).trans g9)) (n4.grow ((((g5.trans g6).trans g7).trans g8).trans g9))
      refine Runs.step e12 ?_
      refine Runs.step (seen (avInt_int _ _)) ?_
      refine Runs.cond (fun k13 => ?_) (fun k13 => ?_)
      · refine Runs.step (AH.has.rd ((((g7.trans g8).trans g9).trans g12).has b6) 0 rfl rfl) ?_
        refine Runs.step (AH.has.rd ((((g7.trans g8).trans g9).trans g12).has b6) 1 rfl (asSl_v _)) ?_
        refine Runs.step (AH.has.rd (((((g6.trans g7).trans g8).trans g9).trans g12).has b5) 0 rfl rfl) ?_
        refine Runs.step (AH.has.rd (((((g6.trans g7).trans g8).trans g9).trans g12).has b5) 1 rfl (asSl_v _)) ?_
        refine Runs.puts (((((g6.trans g7).trans g8).trans g9).trans g12).has b5) rfl fun H14 b14 u14 => ?_
        have b6_14 := AH.has.updr ((((g7.trans g8).trans g9).trans g12).has b6) (Nat.ne_of_gt (Nat.lt_of_lt_of_le (b5).lt (Nat.le_refl _))) u14
        have b7_14 := AH.has.updr (((g8.trans g9).trans g12).has b7) (Nat.ne_of_gt (Nat.lt_of_lt_of_le (g6.has b5).lt (Nat.le_refl _))) u14
        have b8_14 := AH.has.updr ((g9.trans g12).has b8) (Nat.ne_of_gt (Nat.lt_of_lt_of_le ((g6.trans g7).has b5).lt (Nat.le_refl _))) u14
        refine Runs.puts b6_14 rfl fun H15 b15 u15 => ?_
        have b14_15 := AH.has.updr b14 (Nat.ne_of_lt (Nat.lt_of_lt_of_le (b5).lt (Nat.le_refl _))) u15
        have b7_15 := AH.has.updr b7_14 (Nat.ne_of_gt (Nat.lt_of_lt_of_le (b6).lt (Nat.le_refl _))) u15
        have b8_15 := AH.has.updr b8_14 (Nat.ne_of_gt (Nat.lt_of_lt_of_le (g7.has b6).lt (Nat.le_refl _))) u15
        refine Runs.step (AH.has.rd b14_15 1 rfl (asSl_v _)) ?_
        refine Runs.step (AH.has.rd b15 1 rfl (asSl_v _)) ?_
        obtain ⟨s16, H16, e16, n16, g16, o16⟩ := nat_Sub_spec (n4.grow (((((((g5.trans g6).trans g7).trans g8).trans g9).trans g12).updr (Nat.le_refl _) u14).updr (Nat.le_trans (g5).size (Nat.le_refl _)) u15)) (n2.grow (((((((g5.trans g6).trans g7).trans g8).trans g9).trans g12).updr (Nat.le_refl _) u14).updr (Nat.le_trans (g5).size (Nat.le_refl _)) u15))
        refine Runs.step e16 ?_
        refine Runs.step rfl ?_
        refine Runs.step (seen (asSl_v _)) ?_
        refine Runs.step (seen (avInt_int _ _)) ?_
        refine Runs.step (AH.has.rd (g16.has b14_15) 0 rfl rfl) ?_
        obtain ⟨s17, H17, e17, n17, g17, o17⟩ := modint_From_spec n16 a3
        refine Runs.step e17 ?_
        refine Runs.step rfl ?_
        refine Runs.ifT rfl ?_
        refine Runs.step (seenAt rfl rfl) ?_
        refine Runs.step (seenAt rfl (asSl_v _)) ?_
        refine Runs.puts ((g16.trans g17).has b7_15) rfl fun H18 b18 u18 => ?_
        have n16_18 := (n16.grow g17).upda (Av.of_own o16 (b7_15).lt) u18
        have n17_18 := n17.upda (Av.of_own o17 (g16.has b7_15).lt) u18
        have b14_18 := AH.has.updr ((g16.trans g17).has b14_15) (Nat.ne_of_lt (Nat.lt_of_lt_of_le (g6.has b5).lt (Nat.le_refl _))) u18
        have b15_18 := AH.has.updr ((g16.trans g17).has b15) (Nat.ne_of_lt (Nat.lt_of_lt_of_le (b6).lt (Nat.le_refl _))) u18
        have b8_18 := AH.has.updr ((g16.trans g17).has b8_15) (Nat.ne_of_gt (Nat.lt_of_lt_of_le (b7).lt (Nat.le_refl _))) u18
        refine Runs.step (AH.has.rd b18 0 rfl rfl) ?_
        refine Runs.step (AH.has.rd b18 1 rfl (asSl_v _)) ?_
        have z : modint_Add' a1 x2 a3 x4 = ((((fromI a3 ((subN x4 x2).1)).1)), (fromI a3 ((subN x4 x2).1)).2, ((subN x4 x2).2)) := by unfold modint_Add'; exact (condF k10).trans ((condF k11).trans ((condT k13).trans rfl))
        rw [z]
        exact Runs.ret ⟨s17, rfl, n17_18, ((((((((((g5.trans g6).trans g7).trans g8).trans g9).trans g12).updr (Nat.le_refl _) u14).updr (Nat.le_trans (g5).size (Nat.le_refl _)) u15).trans g16).trans g17).updr (Nat.le_trans ((g5.trans g6)).size (Nat.le_refl _)) u18), (o17.of_le ((((((((g5.trans g6).trans g7).trans g8).trans g9).trans g12).updr (Nat.le_refl _) u14).updr (Nat.le_trans (g5).size (Nat.le_refl _)) u15).trans g16))⟩
      · refine Runs.step (AH.has.rd (((((g6.trans g7).trans g8).trans g9).trans g12).has b5) 1 rfl (asSl_v _)) ?_
        refine Runs.step (AH.has.rd ((((g7.trans g8).trans g9).trans g12).has b6) 1 rfl (asSl_v _)) ?_
        obtain ⟨s14, H14, e14, n14, g14, o14⟩ := nat_Sub_spec (n2.grow (((((g5.trans g6).trans g7).trans g8).trans g9).trans g12)) (n4.grow (((((g5.trans g6).trans g7).trans g8).trans g9).trans g12))
        refine Runs.step e14 ?_
        refine Runs.step rfl ?_
        refine Runs.step (seen (asSl_v _)) ?_
        refine Runs.step (seen (avInt_int _ _)) ?_
        refine Runs.step (AH.has.rd ((((((g6.trans g7).trans g8).trans g9).trans g12).trans g14).has b5) 0 rfl rfl) ?_
        obtain ⟨s15, H15, e15, n15, g15, o15⟩ := modint_From_spec n14 a1
        refine Runs.step e15 ?_
        refine Runs.step rfl ?_
        refine Runs.ifT rfl ?_
        refine Runs.step (seenAt rfl rfl) ?_
        refine Runs.step (seenAt rfl (asSl_v _)) ?_
        refine Runs.puts (((((g8.trans g9).trans g12).trans g14).trans g15).has b7) rfl fun H16 b16 u16 => ?_
        have n14_16 := (n14.grow g15).upda (Av.of_own o14 (((g8.trans g9).trans g12).has b7).lt) u16
        have n15_16 := n15.upda (Av.of_own o15 ((((g8.trans g9).trans g12).trans g14).has b7).lt) u16
        have b8_16 := AH.has.updr ((((g9.trans g12).trans g14).trans g15).has b8) (Nat.ne_of_gt (Nat.lt_of_lt_of_le (b7).lt (Nat.le_refl _))) u16
        refine Runs.step (AH.has.rd b16 0 rfl rfl) ?_
        refine Runs.step (AH.has.rd b16 1 rfl (asSl_v _)) ?_
        have z : modint_Add' a1 x2 a3 x4 = ((((fromI a1 ((subN x2 x4).1)).1)), (fromI a1 ((subN x2 x4).1)).2, ((subN x2 x4).2)) := by unfold modint_Add'; exact (condF k10).trans ((condF k11).trans ((condF k13).trans rfl))
        rw [z]
        exact Runs.ret ⟨s15, rfl, n15_16, ((((((((g5.trans g6).trans g7).trans g8).trans g9).trans g12).trans g14).trans g15).updr (Nat.le_trans ((g5.trans g6)).size (Nat.le_refl _)) u16), (o15.of_le ((((((g5.trans g6).trans g7).trans g8).trans g9).trans g12).trans g14))⟩

def ref03_Add' (a1 : Bool) (x2 : List Nat) (a3 : Bool) (x4 : List Nat) : Bool × List Nat × Int :=
  cond (!(rtI a1 x2)) ((false, [], 1)) (cond (!(rtI a3 x4)) ((false, [], 1)) (cond (a1 == a3) (((((fromI a1 ((addN x2 x4).1)).1)), (fromI a1 ((addN x2 x4).1)).2, ((addN x2 x4).2))) (cond (decide ((cmpN x2 x4) ≥ 0)) (((((fromI a1 ((subN x2 x4).1)).1)), (fromI a1 ((subN x2 x4).1)).2, 0)) (((((fromI a3 ((subN x4 x2).1)).1)), (fromI a3 ((subN x4 x2).1)).2, 0)))))

theorem ref03_Add_spec {h : AH} {a2 : Sl} {x2 : List Nat} {a4 : Sl} {x4 : List Nat} (n2 : Nats h a2 x2) (n4 : Nats h a4 x4) (a1 : Bool) (a3 : Bool) : Runs (go (.fn F.ref03_Add [.agg [.bool a1, a2.v], .agg [.bool a3, a4.v]]) h) fun v h' => ∃ s1 : Sl, v = .tup [.agg [.bool (ref03_Add' a1 x2 a3 x4).1, s1.v], .int .i64 (ref03_Add' a1 x2 a3 x4).2.2] ∧ Nats h' s1 ((ref03_Add' a1 x2 a3 x4).2.1) ∧ Grow h h' ∧ Own h s1 := by
  rw [u_ref03_Add]
  refine Runs.new fun H5 b5 g5 => ?_
  refine Runs.new fun H6 b6 g6 => ?_
  refine Runs.new fun H7 b7 g7 => ?_
  refine Runs.step (AH.has.rd ((g6.trans g7).has b5) 0 rfl rfl) ?_
  refine Runs.step (AH.has.rd ((g6.trans g7).has b5) 1 rfl (asSl_v _)) ?_
  obtain ⟨H8, e8, g8⟩ := ref03_Right_spec (n2.grow ((g5.trans g6).trans g7)) a1
  refine Runs.step e8 ?_
  refine Runs.step (seen rfl) ?_
  refine Runs.step (AH.has.rd ((g7.trans g8).has b6) 0 rfl rfl) ?_
  refine Runs.step (AH.has.rd ((g7.trans g8).has b6) 1 rfl (asSl_v _)) ?_
  obtain ⟨H9, e9, g9⟩ := ref03_Right_spec (n4.grow (((g5.trans g6).trans g7).trans g8)) a3
  refine Runs.step e9 ?_
  refine Runs.step (seen rfl) ?_
  refine Runs.cond (fun k10 => ?_) (fun k10 => ?_)
  · refine Runs.puts ((g8.trans g9).has b7) rfl fun H11 b11 u11 => ?_
    refine Runs.step (AH.has.rd b11 0 rfl rfl) ?_
    refine Runs.step (AH.has.rd b11 1 rfl (asSl_v _)) ?_
    have z : ref03_Add' a1 x2 a3 x4 = (false, [], 1) := by unfold ref03_Add'; exact (condT k10).trans rfl
    rw [z]
    exact Runs.ret ⟨(⟨none, 0, .is 0⟩ : Sl), rfl, (Nats.nil _), (((((g5.trans g6).trans g7).trans g8).trans g9).updr (Nat.le_trans ((g5.trans g6)).size (Nat.le_refl _)) u11), (Own.nil _)⟩
  · refine Runs.cond (fun k11 => ?_) (fun k11 => ?_)
    · refine Runs.puts ((g8.trans g9).has b7) rfl fun H12 b12 u12 => ?_
      refine Runs.step (AH.has.rd b12 0 rfl rfl) ?_
      refine Runs.step (AH.has.rd b12 1 rfl (asSl_v _)) ?_
      have z : ref03_Add' a1 x2 a3 x4 = (false, [], 1) := by unfold ref03_Add'; exact (condF k10).trans ((condT k11).trans rfl)
      rw [z]
      exact Runs.ret ⟨(⟨none, 0, .is 0⟩ : Sl), rfl, (Nats.nil _), (((((g5.trans g6).trans g7).trans g8).trans g9).updr (Nat.le_trans ((g5.trans g6)).size (Nat.le_refl _)) u12), (Own.nil _)⟩
    · refine Runs.step (AH.has.rd ((((g6.trans g7).trans g8).trans g9).has b5) 0 rfl rfl) ?_
      refine Runs.step (AH.has.rd (((g7.trans g8).trans g9).has b6) 0 rfl rfl) ?_
      refine Runs.cond (fun k12 => ?_) (fun k12 => ?_)
      · refine Runs.step (AH.has.rd ((((g6.trans g7).trans g8).trans g9).has b5) 1 rfl (asSl_v _)) ?_
        refine Runs.step (AH.has.rd (((g7.trans g8).trans g9).has b6) 1 rfl (asSl_v _)) ?_
        obtain ⟨s13, H13, e13, n13, g13, o13⟩ := ref01_Add_spec (n2.grow ((((g5.trans g6).trans g7).trans g8).trans g9)) (n4.grow ((((g5.trans g6).trans g7).trans g8).trans g9))
        refine Runs.step e13 ?_
        refine Runs.step rfl ?_
        refine Runs.step (seen (asSl_v _)) ?_
        refine Runs.step (seen (avInt_int _ _)) ?_
        refine Runs.step (AH.has.rd (((((g6.trans g7).trans g8).trans g9).trans g13).has b5) 0 rfl rfl) ?_
        obtain ⟨s14, H14, e14, n14, g14, o14⟩ := ref03_From_spec n13 a1
        refine Runs.step e14 ?_
        refine Runs.step rfl ?_
        refine Runs.ifT rfl ?_
        refine Runs.step (seenAt rfl rfl) ?_
        refine Runs.step (seenAt rfl (asSl_v _)) ?_
        refine Runs.puts ((((g8.trans g9).trans g13).trans g14).has b7) rfl fun H15 b15 u15 => ?_
        have n13_15 := (n13.grow g14).upda (Av.of_own o13 ((g8.trans g9).has b7).lt) u15
        have n14_15 := n14.upda (Av.of_own o14 (((g8.trans g9).trans g13).has b7).lt) u15
        refine Runs.step (AH.has.rd b15 0 rfl rfl) ?_
        refine Runs.step (AH.has.rd b15 1 rfl (asSl_v _)) ?_
        have z : ref03_Add' a1 x2 a3 x4 = ((((fromI a1 ((addN x2 x4).1)).1)), (fromI a1 ((addN x2 x4).1)).2, ((addN x2 x4).2)) := by unfold ref03_Add'; exact (condF k10).trans ((condF k11).trans ((condT k12).trans rfl))
        rw [z]
        exact Runs.ret ⟨s14, rfl, n14_15, (((((((g5.trans g6).trans g7).trans g8).trans g9).trans g13).trans g14).updr (Nat.le_trans ((g5.trans g6)).size (Nat.le_refl _)) u15), (o14.of_le (((((g5.trans g6).trans g7).trans g8).trans g9).trans g13))⟩
      · refine Runs.step (AH.has.rd ((((g6.trans g7).trans g8).trans g9).has b5) 1 rfl (asSl_v _)) ?_
        refine Runs.step (AH.has.rd (((g7.trans g8).trans g9).has b6) 1 rfl (asSl_v _)) ?_
        obtain ⟨H13, e13, g13⟩ := ref01_Cmp_spec (n2.grow ((((g5.trans g6).trans g7).trans g8).trans g9)) (n4.grow ((((g5.trans g6).trans g7).trans g8).trans g9))
        refine Runs.step e13 ?_
        refine Runs.step (seen (avInt_int _ _)) ?_
        refine Runs.cond (fun k14 => ?_) (fun k14 => ?_)
        · refine Runs.step (AH.has.rd (((((g6.trans g7).trans g8).trans g9).trans g13).has b5) 1 rfl (asSl_v _)) ?_
          refine Runs.step (AH.has.rd ((((g7.trans g8).trans g9).trans g13).has b6) 1 rfl (asSl_v _)) ?_
          obtain ⟨s15, H15, e15, n15, g15, o15⟩ := ref01_Sub_spec (n2.grow (((((g5.trans g6).trans g7).trans g8).trans g9).trans g13)) (n4.grow (((((g5.trans g6).trans g7).trans g8).trans g9).trans g13))
          refine Runs.step e15 ?_
          refine Runs.step rfl ?_
          refine Runs.step (seen (asSl_v _)) ?_
          refine Runs.step (seen (avInt_int _ _)) ?_
          refine Runs.step (AH.has.rd ((((((g6.trans g7).trans g8).trans g9).trans g13).trans g15).has b5) 0 rfl rfl) ?_
          obtain ⟨s16, H16, e16, n16, g16, o16⟩ := ref03_From_spec n15 a1
          refine Runs.step e16 ?_
          refine Runs.step rfl ?_
          refine Runs.ifT rfl ?_
          refine Runs.step (seenAt rfl rfl) ?_
          refine Runs.step (seenAt rfl (asSl_v _)) ?_
          refine Runs.puts (((((g8.trans g9).trans g13).trans g15).trans g16).has b7) rfl fun H17 b17 u17 => ?_
          have n15_17 := (n15.grow g16).upda (Av.of_own o15 (((g8.trans g9).trans g13).has b7).lt) u17
          have n16_17 := n16.upda (Av.of_own o16 ((((g8.trans g9).trans g13).trans g15).has b7).lt) u17
          refine Runs.step (AH.has.rd b17 0 rfl rfl) ?_
          refine Runs.step (AH.has.rd b17 1 rfl (asSl_v _)) ?_
          have z : ref03_Add' a1 x2 a3 x4 = ((((fromI a1 ((subN x2 x4).1)).1)), (fromI a1 ((subN x2 x4).1)).2, 0) := by unfold ref03_Add'; exact (condF k10).trans ((condF k11).trans ((condF k12).trans ((condT k14).trans rfl)))
          rw [z]
          exact Runs.ret ⟨s16, rfl, n16_17, ((((((((g5.trans g6).trans g7).trans g8).trans g9).trans g13).trans g15).trans g16).updr (Nat.le_trans ((g5.trans g6)).size (Nat.le_refl _)) u17), (o16.of_le ((((((g5.trans g6).trans g7).trans g8).trans g9).trans g13).trans g15))⟩
        · refine Runs.step (AH.has.rd ((((g7.trans g8).trans g9).trans g13).has b6) 1 rfl (asSl_v _)) ?_
          refine Runs.step (AH.has.rd (((((g6.trans g7).trans g8).trans g9).trans g13).has b5) 1 rfl (asSl_v _)) ?_
          obtain ⟨s15, H15, e15, n15, g15, o15⟩ := ref01_Sub_spec (n4.grow (((((g5.trans g6).trans g7).trans g8).trans g9).trans g13)) (n2.grow (((((g5.trans g6).trans g7).trans g8).trans g9).trans g13))
          refine Runs.step e15 ?_
          refine Runs.step rfl ?_
          refine Runs.step (seen (asSl_v _)) ?_
          refine Runs.step (seen (avInt_int _ _)) ?_
          refine Runs.step (AH.has.rd (((((g7.trans g8).trans g9).trans g13).trans g15).has b6) 0 rfl rfl) ?_
          obtain ⟨s16, H16, e16, n16, g16, o16⟩ := ref03_From_spec n15 a3
          refine Runs.step e16 ?_
          refine Runs.step rfl ?_
          refine Runs.ifT rfl ?_
          refine Runs.step (seenAt rfl rfl) ?_
          refine Runs.step (seenAt rfl (asSl_v _)) ?_
          refine Runs.puts (((((g8.trans g9).trans g13).trans g15).trans g16).has b7) rfl fun H17 b17 u17 => ?_
          have n15_17 := (n15.grow g16).upda (Av.of_own o15 (((g8.trans g9).trans g13).has b7).lt) u17
          have n16_17 := n16.upda (Av.of_own o16 ((((g8.trans g9).trans g13).trans g15).has b7).lt) u17
          refine Runs.step (AH.has.rd b17 0 rfl rfl) ?_
          refine Runs.step (AH.has.rd b17 1 rfl (asSl_v _)) ?_
          have z : ref03_Add' a1 x2 a3 x4 = ((((fromI a3 ((subN x4 x2).1)).1)), (fromI a3 ((subN x4 x2).1)).2, 0) := by unfold ref03_Add'; exact (condF k10).trans ((condF k11).trans ((condF k12).trans ((condF k14).trans rfl)))
          rw [z]
          exact Runs.ret ⟨s16, rfl, n16_17, ((((((((g5.trans g6).trans g7).trans g8).trans g9).trans g13).trans g15).trans g16).updr (Nat.le_trans ((g5.trans g6)).size (Nat.le_refl _)) u17), (o16.of_le ((((((g5.trans g6).trans g7).trans g8).trans g9).trans g13).trans g15))⟩

theorem rtI_rt {p : Bool} {xs : List Nat} (h : rtI p xs = true) : rt xs = true := by
  unfold rtI at h
  revert h
  cases rt xs <;> simp

theorem ref03_Add_eq : ref03_Add' = modint_Add' := by
  funext p xs q ys
  unfold ref03_Add' modint_Add'
  cases hx : rtI p xs with
  | false => rfl
  | true =>
    cases hy : rtI q ys with
    | false => rfl
    | true =>
      have rx := rtI_rt hx
      have ry := rtI_rt hy
      simp only [Bool.not_true, cond_false, Bool.and_self]
      cases he : p == q with
      | true => rfl
      | false =>
        simp only [cond_false]
        have e1 : cmpN xs ys = cmp (num B xs) (num B ys) := by simp [cmpN, rx, ry]
        rw [e1]
        by_cases hc : num B xs < num B ys
        · rw [show decide (cmp (num B xs) (num B ys) < 0) = true from by rw [decide_eq_true_eq]; simp [cmp, hc], show decide (cmp (num B xs) (num B ys) ≥ 0) = false from by rw [decide_eq_false_iff_not]; simp [cmp, hc]]
          have : (subN ys xs).2 = 0 := by
            rw [show subN ys xs = (digs B (num B ys - num B xs), 0) from by simp [subN, rx, ry]; omega]
          simp [this]
        · have hn : ¬ cmp (num B xs) (num B ys) < 0 := by
            unfold cmp
            rw [if_neg hc]
            split <;> omega
          rw [show decide (cmp (num B xs) (num B ys) < 0) = false from decide_eq_false hn, show decide (cmp (num B xs) (num B ys) ≥ 0) = true from decide_eq_true (by omega)]
          have : (subN xs ys).2 = 0 := by
            rw [show subN xs ys = (digs B (num B xs - num B ys), 0) from by simp [subN, rx, ry, hc]]
          simp [this]

theorem ref03_Add_is {h : AH} {a2 : Sl} {x2 : List Nat} {a4 : Sl} {x4 : List Nat} (n2 : Nats h a2 x2) (n4 : Nats h a4 x4) (a1 : Bool) (a3 : Bool) : Runs (go (.fn F.ref03_Add [.agg [.bool a1, a2.v], .agg [.bool a3, a4.v]]) h) fun v h' => ∃ s1 : Sl, v = .tup [.agg [.bool (modint_Add' a1 x2 a3 x4).1, s1.v], .int .i64 (modint_Add' a1 x2 a3 x4).2.2] ∧ Nats h' s1 ((modint_Add' a1 x2 a3 x4).2.1) ∧ Grow h h' ∧ Own h s1 := by
  rw [← ref03_Add_eq]
  exact ref03_Add_spec n2 n4 a1 a3

def modint_Sub' (a1 : Bool) (x2 : List Nat) (a3 : Bool) (x4 : List Nat) : Bool × List Nat × Int :=
  cond (!((rtI a1 x2 && rtI a3 x4))) ((false, [], 1)) (((((modint_Add' a1 x2 ((negI a3 x4).1) ((negI a3 x4).2)).1)), (modint_Add' a1 x2 ((negI a3 x4).1) ((negI a3 x4).2)).2.1, ((modint_Add' a1 x2 ((negI a3 x4).1) ((negI a3 x4).2)).2.2)))

theorem modint_Sub_spec {h : AH} {a2 : Sl} {x2 : List Nat} {a4 : Sl} {x4 : List Nat} (n2 : Nats h a2 x2) (n4 : Nats h a4 x4) (a1 : Bool) (a3 : Bool) : Runs (go (.fn F.modint_Sub [.agg [.bool a1, a2.v], .agg [.bool a3, a4.v]]) h) fun v h' => ∃ s1 : Sl, v = .tup [.agg [.bool (modint_Sub' a1 x2 a3 x4).1, s1.v], .int .i64 (modint_Sub' a1 x2 a3 x4).2.2] ∧ Nats h' s1 ((modint_Sub' a1 x2 a3 x4).2.1) ∧ Grow h h' ∧ Own h s1 := by
  rw [u_modint_Sub]
  refine Runs.new fun H5 b5 g5 => ?_
  refine Runs.new fun H6 b6 g6 => ?_
  refine Runs.new fun H7 b7 g7 => ?_
  refine Runs.step (AH.has.rd ((g6.trans g7).has b5) 0 rfl rfl) ?_
  refine Runs.step (AH.has.rd ((g6.trans g7).has b5) 1 rfl (asSl_v _)) ?_
  refine Runs.step (AH.has.rd (g7.has b6) 0 rfl rfl) ?_
  refine Runs.step (AH.has.rd (g7.has b6) 1 rfl (asSl_v _)) ?_
  refine Runs.new fun H8 b8 g8 => ?_
  obtain ⟨H9, e9, g9⟩ := modint_right2_spec b8 (n2.grow (((g5.trans g6).trans g7).trans g8)) (n4.grow (((g5.trans g6).trans g7).trans g8))
  refine Runs.step e9 ?_
  refine Runs.step (seen rfl) ?_
  refine Runs.cond (fun k10 => ?_) (fun k10 => ?_)
  · refine Runs.puts ((g8.trans g9).has b7) rfl fun H11 b11 u11 => ?_
    have b8_11 := AH.has.updr (g9.has b8) (Nat.ne_of_gt (Nat.lt_of_lt_of_le (b7).lt (Nat.le_refl _))) u11
    refine Runs.step (AH.has.rd b11 0 rfl rfl) ?_
    refine Runs.step (AH.has.rd b11 1 rfl (asSl_v _)) ?_
    have z : modint_Sub' a1 x2 a3 x4 = (false, [], 1) := by unfold modint_Sub'; exact (condT k10).trans rfl
    rw [z]
    exact Runs.ret ⟨(⟨none, 0, .is 0⟩ : Sl), rfl, (Nats.nil _), (((((g5.trans g6).trans g7).trans g8).trans g9).updr (Nat.le_trans ((g5.trans g6)).size (Nat.le_refl _)) u11), (Own.nil _)⟩
  · refine Runs.step (AH.has.rd ((((g6.trans g7).trans g8).trans g9).has b5) 0 rfl rfl) ?_
    refine Runs.step (AH.has.rd ((((g6.trans g7).trans g8).trans g9).has b5) 1 rfl (asSl_v _)) ?_
    refine Runs.step (AH.has.rd (((g7.trans g8).trans g9).has b6) 0 rfl rfl) ?_
    refine Runs.step (AH.has.rd (((g7.trans g8).trans g9).has b6) 1 rfl (asSl_v _)) ?_
    obtain ⟨s11, H11, e11, n11, g11, o11⟩ := modint_Neg_spec (n4.grow ((((g5.trans g6).trans g7).trans g8).trans g9)) a3
    refine Runs.step e11 ?_
    refine Runs.step rfl ?_
    refine Runs.ifT rfl ?_
    refine Runs.step (seenAt rfl rfl) ?_
    refine Runs.step (seenAt rfl (asSl_v _)) ?_
    refine Runs.when (g11.same ((((g6.trans g7).trans g8).trans g9).has b5) 0 2) ?_
    obtain ⟨_, H12, e12, s12, rfl, n12, g12, o12⟩ := modint_Add_spec (n2.grow (((((g5.trans g6).trans g7).trans g8).trans g9).trans g11)) n11 a1 ((negI a3 x4).1)
    refine Runs.step e12 ?_
    refine Runs.step rfl ?_
    refine Runs.step rfl ?_
    refine Runs.ifT rfl ?_
    refine Runs.step (seenAt rfl rfl) ?_
    refine Runs.step (seenAt rfl (asSl_v _)) ?_
    refine Runs.step (seen (avInt_int _ _)) ?_
    refine Runs.puts ((((g8.trans g9).trans g11).trans g12).has b7) rfl fun H13 b13 u13 => ?_
    have n11_13 := (n11.grow g12).upda (Av.of_own o11 ((g8.trans g9).has b7).lt) u13
    have n12_13 := n12.upda (Av.of_own o12 (((g8.trans g9).trans g11).has b7).lt) u13
    have b8_13 := AH.has.updr (((g9.trans g11).trans g12).has b8) (Nat.ne_of_gt (Nat.lt_of_lt_of_le (b7).lt (Nat.le_refl _))) u13
    refine Runs.step (AH.has.rd b13 0 rfl rfl) ?_
    refine Runs.step (AH.has.rd b13 1 rfl (asSl_v _)) ?_
    have z : modint_Sub' a1 x2 a3 x4 = ((((modint_Add' a1 x2 ((negI a3 x4).1) ((negI a3 x4).2)).1)), (modint_Add' a1 x2 ((negI a3 x4).1) ((negI a3 x4).2)).2.1, ((modint_Add' a1 x2 ((negI a3 x4).1) ((negI a3 x4).2)).2.2)) := by unfold modint_Sub'; exact (condF k10).trans rfl
    rw [z]
    exact Runs.ret ⟨s12, rfl, n12_13, (((((((g5.trans g6).trans g7).trans g8).trans g9).trans g11).trans g12).updr (Nat.le_trans ((g5.trans g6)).size (Nat.le_refl _)) u13), (o12.of_le (((((g5.trans g6).trans g7).trans g8).trans g9).trans g11))⟩

def ref03_Sub' (a1 : Bool) (x2 : List Nat) (a3 : Bool) (x4 : List Nat) : Bool × List Nat × Int :=
  cond (!(rtI a1 x2)) ((false, [], 1)) (cond (!(rtI a3 x4)) ((false, [], 1)) (((((modint_Add' a1 x2 ((negI a3 x4).1) ((negI a3 x4).2)).1)), (modint_Add' a1 x2 ((negI a3 x4).1) ((negI a3 x4).2)).2.1, ((modint_Add' a1 x2 ((negI a3 x4).1) ((negI a3 x4).2)).2.2))))

theorem ref03_Sub_spec {h : AH} {a2 : Sl} {x2 : List Nat} {a4 : Sl} {x4 : List Nat} (n2 : Nats h a2 x2) (n4 : Nats h a4 x4) (a1 : Bool) (a3 : Bool) : Runs (go (.fn F.ref03_Sub [.agg [.bool a1, a2.v], .agg [.bool a3, a4.v]]) h) fun v h' => ∃ s1 : Sl, v = .tup [.agg [.bool (ref03_Sub' a1 x2 a3 x4).1, s1.v], .int .i64 (ref03_Sub' a1 x2 a3 x4).2.2] ∧ Nats h' s1 ((ref03_Sub' a1 x2 a3 x4).2.1) ∧ Grow h h' ∧ Own h s1 := by
  rw [u_ref03_Sub]
  refine Runs.new fun H5 b5 g5 => ?_
  refine Runs.new fun H6 b6 g6 => ?_
  refine Runs.new fun H7 b7 g7 => ?_
  refine Runs.step (AH.has.rd ((g6.trans g7).has b5) 0 rfl rfl) ?_
  refine Runs.step (AH.has.rd ((g6.trans g7).has b5) 1 rfl (asSl_v _)) ?_
  obtain ⟨H8, e8, g8⟩ := ref03_Right_spec (n2.grow ((g5.trans g6).trans g7)) a1
  refine Runs.step e8 ?_
  refine Runs.step (seen rfl) ?_
  refine Runs.step (AH.has.rd ((g7.trans g8).has b6) 0 rfl rfl) ?_
  refine Runs.step (AH.has.rd ((g7.trans g8).has b6) 1 rfl (asSl_v _)) ?_
  obtain ⟨H9, e9, g9⟩ := ref03_Right_spec (n4.grow (((g5.trans g6).trans g7).trans g8)) a3
  refine Runs.step e9 ?_
  refine Runs.step (seen rfl) ?_
  refine Runs.cond (fun k10 => ?_) (fun k10 => ?_)
  · refine Runs.puts ((g8.trans g9).has b7) rfl fun H11 b11 u11 => ?_
    refine Runs.step (AH.has.rd b11 0 rfl rfl) ?_
    refine Runs.step (AH.has.rd b11 1 rfl (asSl_v _)) ?_
    have z : ref03_Sub' a1 x2 a3 x4 = (false, [], 1) := by unfold ref03_Sub'; exact (condT k10).trans rfl
    rw [z]
    exact Runs.ret ⟨(⟨none, 0, .is 0⟩ : Sl), rfl, (Nats.nil _), (((((g5.trans g6).trans g7).trans g8).trans g9).updr (Nat.le_trans ((g5.trans g6)).size (Nat.le_refl _)) u11), (Own.nil _)⟩
  · refine Runs.cond (fun k11 => ?_) (fun k11 => ?_)
    · refine Runs.puts ((g8.trans g9).has b7) rfl fun H12 b12 u12 => ?_
      refine Runs.step (AH.has.rd b12 0 rfl rfl) ?_
      refine Runs.step (AH.has.rd b12 1 rfl (asSl_v _)) ?_
      have z : ref03_Sub' a1 x2 a3 x4 = (false, [], 1) := by unfold ref03_Sub'; exact (condF k10).trans ((condT k11).trans rfl)
      rw [z]
      exact Runs.ret ⟨(⟨none, 0, .is 0⟩ : Sl), rfl, (Nats.nil _), (((((g5.trans g6).trans g7).trans g8).trans g9).updr (Nat.le_trans ((g5.trans g6)).size (Nat.le_refl _)) u12), (Own.nil _)⟩
    · refine Runs.step (AH.has.rd ((((g6.trans g7).trans g8).trans g9).has b5) 0 rfl rfl) ?_
      refine Runs.step (AH.has.rd ((((g6.trans g7).trans g8).trans g9).has b5) 1 rfl (asSl_v _)) ?_
      refine Runs.step (AH.has.rd (((g7.trans g8).trans g9).has b6) 0 rfl rfl) ?_
      refine Runs.step (AH.has.rd (((g7.trans g8).trans g9).has b6) 1 rfl (asSl_v _)) ?_
      obtain ⟨s12, H12, e12, n12, g12, o12⟩ := ref03_Neg_spec (n4.grow ((((g5.trans g6).trans g7).trans g8).trans g9)) a3
      refine Runs.step e12 ?_
      refine Runs.step rfl ?_
      refine Runs.ifT rfl ?_
      refine Runs.step (seenAt rfl rfl) ?_
      refine Runs.step (seenAt rfl (asSl_v _)) ?_
      refine Runs.when (g12.same ((((g6.trans g7).trans g8).trans g9).has b5) 0 2) ?_
      obtain ⟨_, H13, e13, s13, rfl, n13, g13, o13⟩ := ref03_Add_is (n2.grow (((((g5.trans g6).trans g7).trans g8).trans g9).trans g12)) n12 a1 ((negI a3 x4).1)
      refine Runs.step e13 ?_
      refine Runs.step rfl ?_
      refine Runs.step rfl ?_
      refine Runs.ifT rfl ?_
      refine Runs.step (seenAt rfl rfl) ?_
      refine Runs.step (seenAt rfl (asSl_v _)) ?_
      refine Runs.step (seen (avInt_int _ _)) ?_
      refine Runs.puts ((((g8.trans g9).trans g12).trans g13).has b7) rfl fun H14 b14 u14 => ?_
      have n12_14 := (n12.grow g13).upda (Av.of_own o12 ((g8.trans g9).has b7).lt) u14
      have n13_14 := n13.upda (Av.of_own o13 (((g8.trans g9).trans g12).has b7).lt) u14
      refine Runs.step (AH.has.rd b14 0 rfl rfl) ?_
      refine Runs.step (AH.has.rd b14 1 rfl (asSl_v _)) ?_
      have z : ref03_Sub' a1 x2 a3 x4 = ((((modint_Add' a1 x2 ((negI a3 x4).1) ((negI a3 x4).2)).1)), (modint_Add' a1 x2 ((negI a3 x4).1) ((negI a3 x4).2)).2.1, ((modint_Add' a1 x2 ((negI a3 x4).1) ((negI a3 x4).2)).2.2)) := by unfold ref03_Sub'; exact (condF k10).trans ((condF k11).trans rfl)
      rw [z]
      exact Runs.ret ⟨s13, rfl, n13_14, (((((((g5.trans g6).trans g7).trans g8).trans g9).trans g12).trans g13).updr (Nat.le_trans ((g5.trans g6)).size (Nat.le_refl _)) u14), (o13.of_le (((((g5.trans g6).trans g7).trans g8).trans g9).trans g12))⟩

theorem ref03_Sub_eq : ref03_Sub' = modint_Sub' := by
  funext p xs q ys
  unfold ref03_Sub' modint_Sub'
  cases hx : rtI p xs with
  | false => rfl
  | true =>
    cases hy : rtI q ys with
    | false => rfl
    | true => rfl

theorem ref03_Sub_is {h : AH} {a2 : Sl} {x2 : List Nat} {a4 : Sl} {x4 : List Nat} (n2 : Nats h a2 x2) (n4 : Nats h a4 x4) (a1 : Bool) (a3 : Bool) : Runs (go (.fn F.ref03_Sub [.agg [.bool a1, a2.v], .agg [.bool a3, a4.v]]) h) fun v h' => ∃ s1 : Sl, v = .tup [.agg [.bool (modint_Sub' a1 x2 a3 x4).1, s1.v], .int .i64 (modint_Sub' a1 x2 a3 x4).2.2] ∧ Nats h' s1 ((modint_Sub' a1 x2 a3 x4).2.1) ∧ Grow h h' ∧ Own h s1 := by
  rw [← ref03_Sub_eq]
  exact ref03_Sub_spec n2 n4 a1 a3

def law03_ModintSums' (a1 : Bool) (x2 : List Nat) (a3 : Bool) (x4 : List Nat) : Bool :=
  cond (!((decide (List.length x2 ≤ 70) && decide (List.length x4 ≤ 70)))) (true) (cond (true) (cond (true) (cond (decide (((modint_Add' a1 x2 a3 x4).2.2) = ((modint_Add' a1 x2 a3 x4).2.2))) (cond (decide (((modint_Sub' a1 x2 a3 x4).2.2) = ((modint_Sub' a1 x2 a3 x4).2.2))) (decide ((List.length ((modint_Add' false [1] false []).2.1) : Int) = 1)) (false)) (false)) (false)) (false))

theorem law03_ModintSums_spec {h : AH} {a2 : Sl} {x2 : List Nat} {a4 : Sl} {x4 : List Nat} (n2 : Nats h a2 x2) (n4 : Nats h a4 x4) (a1 : Bool) (a3 : Bool) : Runs (go (.fn F.law03_ModintSums [.agg [.bool a1, a2.v], .agg [.bool a3, a4.v]]) h) fun v h' => v = .bool (law03_ModintSums' a1 x2 a3 x4) ∧ Grow h h' := by
  rw [u_law03_ModintSums]
  refine Runs.new fun H5 b5 g5 => ?_
  refine Runs.new fun H6 b6 g6 => ?_
  refine Runs.step (AH.has.rd (g6.has b5) 1 rfl (asSl_v _)) ?_
  refine Runs.step (AH.has.rd b6 1 rfl (asSl_v _)) ?_
  refine Runs.new fun H7 b7 g7 => ?_
  refine Runs.step (few2_spec b7 (n2.grow ((g5.trans g6).trans g7)) (n4.grow ((g5.trans g6).trans g7))) ?_
  refine Runs.step (seen rfl) ?_
  refine Runs.cond (fun k9 => ?_) (fun k9 => ?_)
  · have z : law03_ModintSums' a1 x2 a3 x4 = true := by unfold law03_ModintSums'; exact (condT k9).trans rfl
    rw [z]
    exact Runs.ret ⟨rfl, ((g5.trans g6).trans g7)⟩
  · refine Runs.step (AH.has.rd ((g6.trans g7).has b5) 0 rfl rfl) ?_
    refine Runs.step (AH.has.rd ((g6.trans g7).has b5) 1 rfl (asSl_v _)) ?_
    refine Runs.step (AH.has.rd (g7.has b6) 0 rfl rfl) ?_
    refine Runs.step (AH.has.rd (g7.has b6) 1 rfl (asSl_v _)) ?_
    obtain ⟨_, H10, e10, s10, rfl, n10, g10, o10⟩ := modint_Add_spec (n2.grow ((g5.trans g6).trans g7)) (n4.grow ((g5.trans g6).trans g7)) a1 a3
    refine Runs.step e10 ?_
    refine Runs.step rfl ?_
    refine Runs.step rfl ?_
    refine Runs.ifT rfl ?_
    refine Runs.step (seenAt rfl rfl) ?_
    refine Runs.step (seenAt rfl (asSl_v _)) ?_
    refine Runs.step (seen (avInt_int _ _)) ?_
    refine Runs.new fun H11 b11 g11 => ?_
    refine Runs.puts b11 rfl fun H12 b12 u12 => ?_
    refine Runs.step (AH.has.rd (((((g6.trans g7).trans g10).trans g11).updr (Nat.le_trans (((g6.trans g7).trans g10)).size (Nat.le_refl _)) u12).has b5) 0 rfl rfl) ?_
    refine Runs.step (AH.has.rd (((((g6.trans g7).trans g10).trans g11).updr (Nat.le_trans (((g6.trans g7).trans g10)).size (Nat.le_refl _)) u12).has b5) 1 rfl (asSl_v _)) ?_
    refine Runs.step (AH.has.rd ((((g7.trans g10).trans g11).updr (Nat.le_trans ((g7.trans g10)).size (Nat.le_refl _)) u12).has b6) 0 rfl rfl) ?_
    refine Runs.step (AH.has.rd ((((g7.trans g10).trans g11).updr (Nat.le_trans ((g7.trans g10)).size (Nat.le_refl _)) u12).has b6) 1 rfl (asSl_v _)) ?_
    obtain ⟨_, H13, e13, s13, rfl, n13, g13, o13⟩ := ref03_Add_is (n2.grow (((((g5.trans g6).trans g7).trans g10).trans g11).updr (Nat.le_trans ((((g5.trans g6).trans g7).trans g10)).size (Nat.le_refl _)) u12)) (n4.grow (((((g5.trans g6).trans g7).trans g10).trans g11).updr (Nat.le_trans ((((g5.trans g6).trans g7).trans g10)).size (Nat.le_refl _)) u12)) a1 a3
    refine Runs.step e13 ?_
    refine Runs.step rfl ?_
    refine Runs.step rfl ?_
    refine Runs.ifT rfl ?_
    refine Runs.step (seenAt rfl rfl) ?_
    refine Runs.step (seenAt rfl (asSl_v _)) ?_
    refine Runs.step (seen (avInt_int _ _)) ?_
    refine Runs.new fun H14 b14 g14 => ?_
    refine Runs.puts b14 rfl fun H15 b15 u15 => ?_
    refine Runs.step (AH.has.rd (((g13.trans g14).updr (Nat.le_trans (g13).size (Nat.le_refl _)) u15).has b12) 0 rfl rfl) ?_
    refine Runs.step (AH.has.rd (((g13.trans g14).updr (Nat.le_trans (g13).size (Nat.le_refl _)) u15).has b12) 1 rfl (asSl_v _)) ?_
    refine Runs.step (AH.has.rd b15 0 rfl rfl) ?_
    refine Runs.step (AH.has.rd b15 1 rfl (asSl_v _)) ?_
    obtain ⟨H16, e16, g16⟩ := ref03_Same_spec (n10.grow ((((g11.updr (Nat.le_refl _) u12).trans g13).trans g14).updr (Nat.le_trans (((g11.updr (Nat.le_refl _) u12).trans g13)).size (Nat.le_refl _)) u15)) (n13.grow (g14.updr (Nat.le_refl _) u15)) (((modint_Add' a1 x2 a3 x4).1))
    refine Runs.step e16 ?_
    refine Runs.step (seen rfl) ?_
    refine Runs.step (AH.has.rd (((((((((g6.trans g7).trans g10).trans g11).updr (Nat.le_trans (((g6.trans g7).trans g10)).size (Nat.le_refl _)) u12).trans g13).trans g14).updr (Nat.le_trans ((((((g6.trans g7).trans g10).trans g11).updr (Nat.le_trans (((g6.trans g7).trans g10)).size (Nat.le_refl _)) u12).trans g13)).size (Nat.le_refl _)) u15).trans g16).has b5) 0 rfl rfl) ?_
    refine Runs.step (AH.has.rd (((((((((g6.trans g7).trans g10).trans g11).updr (Nat.le_trans (((g6.trans g7).trans g10)).size (Nat.le_refl _)) u12).trans g13).trans g14).updr (Nat.le_trans ((((((g6.trans g7).trans g10).trans g11).updr (Nat.le_trans (((g6.trans g7).trans g10)).size (Nat.le_refl _)) u12).trans g13)).size (Nat.le_refl _)) u15).trans g16).has b5) 1 rfl (asSl_v _)) ?_
    refine Runs.step (AH.has.rd ((((((((g7.trans g10).trans g11).updr (Nat.le_trans ((g7.trans g10)).size (Nat.le_refl _)) u12).trans g13).trans g14).updr (Nat.le_trans (((((g7.trans g10).trans g11).updr (Nat.le_trans ((g7.trans g10)).size (Nat.le_refl _)) u12).trans g13)).size (Nat.le_refl _)) u15).trans g16).has b6) 0 rfl rfl) ?_
    refine Runs.step (AH.has.rd ((((((((g7.trans g10).trans g11).updr (Nat.le_trans ((g7.trans g10)).size (Nat.le_refl _)) u12).trans g13).trans g14).updr (Nat.le_trans (((((g7.trans g10).trans g11).updr (Nat.le_trans ((g7.trans g10)).size (Nat.le_refl _)) u12).trans g13)).size (Nat.le_refl _)) u15).trans g16).has b6) 1 rfl (asSl_v _)) ?_
    obtain ⟨_, H17, e17, s17, rfl, n17, g17, o17⟩ := modint_Sub_spec (n2.grow (((((((((g5.trans g6).trans g7).trans g10).trans g11).updr (Nat.le_trans ((((g5.trans g6).trans g7).trans g10)).size (Nat.le_refl _)) u12).trans g13).trans g14).updr (Nat.le_trans (((((((g5.trans g6).trans g7).trans g10).trans g11).updr (Nat.le_trans ((((g5.trans g6).trans g7).trans g10)).size (Nat.le_refl _)) u12).trans g13)).size (Nat.le_refl _)) u15).trans g16)) (n4.grow (((((((((g5.trans g6).trans g7).trans g10).trans g11).updr (Nat.le_trans ((((g5.trans g6).trans g7).trans g10)).size (Nat.le_refl _)) u12).trans g13).trans g14).updr (Nat.le_trans (((((((g5.trans g6).trans g7).trans g10).trans g11).updr (Nat.le_trans ((((g5.trans g6).trans g7).trans g10)).size (Nat.le_refl _)) u12).trans g13)).size (Nat.le_refl _)) u15).trans g16)) a1 a3
    refine Runs.step e17 ?_
    refine Runs.step rfl ?_
    refine Runs.step rfl ?_
    refine Runs.ifT rfl ?_
    refine Runs.step (seenAt rfl rfl) ?_
    refine Runs.step (seenAt rfl (asSl_v _)) ?_
    refine Runs.step (seen (avInt_int _ _)) ?_
    refine Runs.new fun H18 b18 g18 => ?_
    refine Runs.puts b18 rfl fun H19 b19 u19 => ?_
    refine Runs.step (AH.has.rd ((((((((((((g6.trans g7).trans g10).trans g11).updr (Nat.le_trans (((g6.trans g7).trans g10)).size (Nat.le_refl _)) u12).trans g13).trans g14).updr (Nat.le_trans ((((((g6.trans g7).trans g10).trans g11).updr (Nat.le_trans (((g6.trans g7).trans g10)).size (Nat.le_refl _)) u12).trans g13)).size (Nat.le_refl _)) u15).trans g16).trans g17).trans g18).updr (Nat.le_trans ((((((((((g6.trans g7).trans g10).trans g11).updr (Nat.le_trans (((g6.trans g7).trans g10)).size (Nat.le_refl _)) u12).trans g13).trans g14).updr (Nat.le_trans ((((((g6.trans g7).trans g10).trans g11).updr (Nat.le_trans (((g6.trans g7).trans g10)).size (Nat.le_refl _)) u12).trans g13)).size (Nat.le_refl _)) u15).trans g16).trans g17)).size (Nat.le_refl _)) u19).has b5) 0 rfl rfl) ?_
    refine Runs.step (AH.has.rd ((((((((((((g6.trans g7).trans g10).trans g11).updr (Nat.le_trans (((g6.trans g7).trans g10)).size (Nat.le_refl _)) u12).trans g13).trans g14).updr (Nat.le_trans ((((((g6.trans g7).trans g10).trans g11).updr (Nat.le_trans (((g6.trans g7).trans g10)).size (Nat.le_refl _)) u12).trans g13)).size (Nat.le_refl _)) u15).trans g16).trans g17).trans g18).updr (Nat.le_trans ((((((((((g6.trans g7).trans g10).trans g11).updr (Nat.le_trans (((g6.trans g7).trans g10)).size (Nat.le_refl _)) u12).trans g13).trans g14).updr (Nat.le_trans ((((((g6.trans g7).trans g10).trans g11).updr (Nat.le_trans (((g6.trans g7).trans g10)).size (Nat.le_refl _)) u12).trans g13)).size (Nat.le_refl _)) u15).trans g16).trans g17)).size (Nat.le_refl _)) u19).has b5) 1 rfl (asSl_v _)) ?_
    refine Runs.step (AH.has.rd (((((((((((g7.trans g10).trans g11).updr (Nat.le_trans ((g7.trans g10)).size (Nat.le_refl _)) u12).trans g13).trans g14).updr (Nat.le_trans (((((g7.trans g10).trans g11).updr (Nat.le_trans ((g7.trans g10)).size (Nat.le_refl _)) u12).trans g13)).size (Nat.le_refl _)) u15).trans g16).trans g17).trans g18).updr (Nat.le_trans (((((((((g7.trans g10).trans g11).updr (Nat.le_trans ((g7.trans g10)).size (Nat.le_refl _)) u12).trans g13).trans g14).updr (Nat.le_trans (((((g7.trans g10).trans g11).updr (Nat.le_trans ((g7.trans g10)).size (Nat.le_refl _)) u12).trans g13)).size (Nat.le_refl _)) u15).trans g16).trans g17)).size (Nat.le_refl _)) u19).has b6) 0 rfl rfl) ?_
    refine Runs.step (AH.has.rd (((((((((((g7.trans g10).trans g11).updr (Nat.le_trans ((g7.trans g10)).size (Nat.le_refl _)) u12).trans g13).trans g14).updr (Nat.le_trans (((((g7.trans g10).trans g11).updr (Nat.le_trans ((g7.trans g10)).size (Nat.le_refl _)) u12).trans g13)).size (Nat.le_refl _)) u15).trans g16).trans g17).trans g18).updr (Nat.le_trans (((((((((g7.trans g10).trans g11).updr (Nat.le_trans ((g7.trans g10)).size (Nat.le_refl _)) u12).trans g13).trans g14).updr (Nat.le_trans (((((g7.trans g10).trans g11).updr (Nat.le_trans ((g7.trans g10)).size (Nat.le_refl _)) u12).trans g13)).size (Nat.le_refl _)) u15).trans g16).trans g17)).size (Nat.le_refl _)) u19).has b6) 1 rfl (asSl_v _)) ?_
    obtain ⟨_, H20, e20, s20, rfl, n20, g20, o20⟩ := ref03_Sub_is (n2.grow ((((((((((((g5.trans g6).trans g7).trans g10).trans g11).updr (Nat.le_trans ((((g5.trans g6).trans g7).trans g10)).size (Nat.le_refl _)) u12).trans g13).trans g14).updr (Nat.le_trans (((((((g5.trans g6).trans g7).trans g10).trans g11).updr (Nat.le_trans ((((g5.trans g6).trans g7).trans g10)).size (Nat.le_refl _)) u12).trans g13)).size (Nat.le_refl _)) u15).trans g16).trans g17).trans g18).updr (Nat.le_trans (((((((((((g5.trans g6).trans g7).trans g10).trans g11).updr (Nat.le_trans ((((g5.trans g6).trans g7).trans g10)).size (Nat.le_refl _)) u12).trans g13).trans g14).updr (Nat.le_trans (((((((g5.trans g6).trans g7).trans g10).trans g11).updr (Nat.le_trans ((((g5.trans g6).trans g7).trans g10)).size (Nat.le_refl _)) u12).trans g13)).size (Nat.le_refl _)) u15).trans g16).trans g17)).size (Nat.le_refl _)) u19)) (n4.grow ((((((((((((g5.trans g6).trans g7).trans g10).trans g11).updr (Nat.le_trans ((((g5.trans g6).trans g7).trans g10)).size (Nat.le_refl _)) u12).trans g13).trans g14).updr (Nat.le_trans (((((((g5.trans g6).trans g7).trans g10).trans g11).updr (Nat.le_trans ((((g5.trans g6).trans g7).trans g10)).size (Nat.le_refl _)) u12).trans g13)).size (Nat.le_refl _)) u15).trans g16).trans g17).trans g18).updr (Nat.le_trans (((((((((((g5.trans g6).trans g7).trans g10).trans g11).updr (Nat.le_trans ((((g5.trans g6).trans g7).trans g10)).size (Nat.le_refl _)) u12).trans g13).trans g14).updr (Nat.le_trans (((((((g5.trans g6).trans g7).trans g10).trans g11).updr (Nat.le_trans ((((g5.trans g6).trans g7).trans g10)).size (Nat.le_refl _)) u12).trans g13)).size (Nat.le_refl _)) u15).trans g16).trans g17)).size (Nat.le_refl _)) u19)) a1 a3
    refine Runs.step e20 ?_
    refine Runs.step rfl ?_
    refine Runs.step rfl ?_
    refine Runs.ifT rfl ?_
    refine Runs.step (seenAt rfl rfl) ?_
    refine Runs.step (seenAt rfl (asSl_v _)) ?_
    refine Runs.step (seen (avInt_int _ _)) ?_
    refine Runs.new fun H21 b21 g21 => ?_
    refine Runs.puts b21 rfl fun H22 b22 u22 => ?_
    refine Runs.step (AH.has.rd (((g20.trans g21).updr (Nat.le_trans (g20).size (Nat.le_refl _)) u22).has b19) 0 rfl rfl) ?_
    refine Runs.step (AH.has.rd (((g20.trans g21).updr (Nat.le_trans (g20).size (Nat.le_refl _)) u22).has b19) 1 rfl (asSl_v _)) ?_
    refine Runs.step (AH.has.rd b22 0 rfl rfl) ?_
    refine Runs.step (AH.has.rd b22 1 rfl (asSl_v _)) ?_
    obtain ⟨H23, e23, g23⟩ := ref03_Same_spec (n17.grow ((((g18.updr (Nat.le_refl _) u19).trans g20).trans g21).updr (Nat.le_trans (((g18.updr (Nat.le_refl _) u19).trans g20)).size (Nat.le_refl _)) u22)) (n20.grow (g21.updr (Nat.le_refl _) u22)) (((modint_Sub' a1 x2 a3 x4).1))
    refine Runs.step e23 ?_
    refine Runs.step (seen rfl) ?_
    refine Runs.new fun H24 b24 g24 => ?_
    obtain ⟨_, H25, e25, s25, rfl, n25, g25, o25⟩ := modint_Add_spec (Nats.of_has (xs := [1]) b24 (by decide) (by decide)) (Nats.nil _) false false
    refine Runs.step e25 ?_
    refine Runs.step rfl ?_
    refine Runs.step rfl ?_
    refine Runs.ifT rfl ?_
    refine Runs.step (seenAt rfl rfl) ?_
    refine Runs.step (seenAt rfl (asSl_v _)) ?_
    refine Runs.step (seen (avInt_int _ _)) ?_
    refine Runs.new fun H26 b26 g26 => ?_
    refine Runs.puts b26 rfl fun H27 b27 u27 => ?_
    refine Runs.cond (fun k28 => ?_) (fun k28 => ?_)
    · refine Runs.cond (fun k29 => ?_) (fun k29 => ?_)
      · refine Runs.cond (fun k30 => ?_) (fun k30 => ?_)
        · refine Runs.cond (fun k31 => ?_) (fun k31 => ?_)
          · refine Runs.step (AH.has.rd b27 1 rfl (asSl_v _)) ?_
            rw [(n25.grow (g26.updr (Nat.le_refl _) u27)).len]
            have z : law03_ModintSums' a1 x2 a3 x4 = decide ((List.length ((modint_Add' false [1] false []).2.1) : Int) = 1) := by unfold law03_ModintSums'; exact (condF k9).trans ((condT k28).trans ((condT k29).trans ((condT k30).trans ((condT k31).trans rfl))))
            rw [z]
            exact Runs.ret ⟨rfl, ((((((((((((((((((((g5.trans g6).trans g7).trans g10).trans g11).updr (Nat.le_trans ((((g5.trans g6).trans g7).trans g10)).size (Nat.le_refl _)) u12).trans g13).trans g14).updr (Nat.le_trans (((((((g5.trans g6).trans g7).trans g10).trans g11).updr (Nat.le_trans ((((g5.trans g6).trans g7).trans g10)).size (Nat.le_refl _)) u12).trans g13)).size (Nat.le_refl _)) u15).trans g16).trans g17).trans g18).updr (Nat.le_trans (((((((((((g5.trans g6).trans g7).trans g10).trans g11).updr (Nat.le_trans ((((g5.trans g6).trans g7).trans g10)).size (Nat.le_refl _)) u12).trans g13).trans g14).updr (Nat.le_trans (((((((g5.trans g6).trans g7).trans g10).trans g11).updr (Nat.le_trans ((((g5.trans g6).trans g7).trans g10)).size (Nat.le_refl _)) u12).trans g13)).size (Nat.le_refl _)) u15).trans g16).trans g17)).size (Nat.le_refl _)) u19).trans g20).trans g21).updr (Nat.le_trans ((((((((((((((g5.trans g6).trans g7).trans g10).trans g11).updr (Nat.le_trans ((((g5.trans g6).trans g7).trans g10)).size (Nat.le_refl _)) u12).trans g13).trans g14).updr (Nat.le_trans (((((((g5.trans g6).trans g7).trans g10).trans g11).updr (Nat.le_trans ((((g5.trans g6).trans g7).trans g10)).size (Nat.le_refl _)) u12).trans g13)).size (Nat.le_refl _)) u15).trans g16).trans g17).trans g18).updr (Nat.le_trans (((((((((((g5.trans g6).trans g7).trans g10).trans g11).updr (Nat.le_trans ((((g5.trans g6).trans g7).trans g10)).size (Nat.le_refl _)) u12).trans g13).trans g14).updr (Nat.le_trans (((((((g5.trans g6).trans g7).trans g10).trans g11).updr (Nat.le_trans ((((g5.trans g6).trans g7).trans g10)).size (Nat.le_refl _)) u12).trans g13)).size (Nat.le_refl _)) u15).trans g16).trans g17)).size (Nat.le_refl _)) u19).trans g20)).size (Nat.le_refl _)) u22).trans g23).trans g24).trans g25).trans g26).updr (Nat.le_trans (((((((((((((((((((g5.trans g6).trans g7).trans g10).trans g11).updr (Nat.le_trans ((((g5.trans g6).trans g7).trans g10)).size (Nat.le_refl _)) u12).trans g13).trans g14).updr (Nat.le_trans (((((((g5.trans g6).trans g7).trans g10).trans g11).updr (Nat.le_trans ((((g5.trans g6).trans g7).trans g10)).size (Nat.le_refl _)) u12).trans g13)).size (Nat.le_refl _)) u15).trans g16).trans g17).trans g18).updr (Nat.le_trans (((((((((((g5.trans g6).trans g7).trans g10).trans g11).updr (Nat.le_trans ((((g5.trans g6).trans g7).trans g10)).size (Nat.le_refl _)) u12).trans g13).trans g14).updr (Nat.le_trans (((((((g5.trans g6).trans g7).trans g10).trans g11).updr (Nat.le_trans ((((g5.trans g6).trans g7).trans g10)).size (Nat.le_refl _)) u12).trans g13)).size (Nat.le_refl _)) u15).trans g16).trans g17)).size (Nat.le_refl _)) u19).trans g20).trans g21).updr (Nat.le_trans ((((((((((((((g5.trans g6).trans g7).trans g10).trans g11).updr (Nat.le_trans ((((g5.trans g6).trans g7).trans g10)).size (Nat.le_refl _)) u12).trans g13).trans g14).updr (Nat.le_trans (((((((g5.trans g6).trans g7).trans g10).trans g11).updr (Nat.le_trans ((((g5.trans g6).trans g7).trans g10)).size (Nat.le_refl _)) u12).trans g13)).size (Nat.le_refl _)) u15).trans g16).trans g17).trans g18).updr (Nat.le_trans (((((((((((g5.trans g6).trans g7).trans g10).trans g11).updr (Nat.le_trans ((((g5.trans g6).trans g7).trans g10)).size (Nat.le_refl _)) u12).trans g13).trans g14).updr (Nat.le_trans (((((((g5.trans g6).trans g7).trans g10).trans g11).updr (Nat.le_trans ((((g5.trans g6).trans g7).trans g10)).size (Nat.le_refl _)) u12).trans g13)).size (Nat.le_refl _)) u15).trans g16).trans g17)).size (Nat.le_refl _)) u19).trans g20)).size (Nat.le_refl _)) u22).trans g23).trans g24).trans g25)).size (Nat.le_refl _)) u27)⟩
          · have z : law03_ModintSums' a1 x2 a3 x4 = false := by unfold law03_ModintSums'; exact (condF k9).trans ((condT k28).trans ((condT k29).trans ((condT k30).trans ((condF k31).trans rfl))))
            rw [z]
            exact Runs.ret ⟨rfl, ((((((((((((((((((((g5.trans g6).trans g7).trans g10).trans g11).updr (Nat.le_trans ((((g5.trans g6).trans g7).trans g10)).size (Nat.le_refl _)) u12).trans g13).trans g14).updr (Nat.le_trans (((((((g5.trans g6).trans g7).trans g10).trans g11).updr (Nat.le_trans ((((g5.trans g6).trans g7).trans g10)).size (Nat.le_refl _)) u12).trans g13)).size (Nat.le_refl _)) u15).trans g16).trans g17).trans g18).updr (Nat.le_trans (((((((((((g5.trans g6).trans g7).trans g10).trans g11).updr (Nat.le_trans ((((g5.trans g6).trans g7).trans g10)).size (Nat.le_refl _)) u12).trans g13).trans g14).updr (Nat.le_trans (((((((g5.trans g6).trans g7).trans g10).trans g11).updr (Nat.le_trans ((((g5.trans g6).trans g7).trans g10)).size (Nat.le_refl _)) u12).trans g13)).size (Nat.le_refl _)) u15).trans g16).trans g17)).size (Nat.le_refl _)) u19).trans g20).trans g21).updr (Nat.le_trans ((((((((((((((g5.trans g6).trans g7).trans g10).trans g11).updr (Nat.le_trans ((((g5.trans g6).trans g7).trans g10)).size (Nat.le_refl _)) u12).trans g13).trans g14).updr (Nat.le_trans (((((((g5.trans g6).trans g7).trans g10).trans g11).updr (Nat.le_trans ((((g5.trans g6).trans g7).trans g10)).size (Nat.le_refl _)) u12).trans g13)).size (Nat.le_refl _)) u15).trans g16).trans g17).trans g18).updr (Nat.le_trans (((((((((((g5.trans g6).trans g7).trans g10).trans g11).updr (Nat.le_trans ((((g5.trans g6).trans g7).trans g10)).size (Nat.le_refl _)) u12).trans g13).trans g14).updr (Nat.le_trans (((((((g5.trans g6).trans g7).trans g10).trans g11).updr (Nat.le_trans ((((g5.trans g6).trans g7).trans g10)).size (Nat.le_refl _)) u12).trans g13)).size (Nat.le_refl _)) u15).trans g16).trans g17)).size (Nat.le_refl _)) u19).trans g20)).size (Nat.le_refl _)) u22).trans g23).trans g24).trans g25).trans g26).updr (Nat.le_trans (((((((((((((((((((g5.trans g6).trans g7).trans g10).trans g11).updr (Nat.le_trans ((((g5.trans g6).trans g7).trans g10)).size (Nat.le_refl _)) u12).trans g13).trans g14).updr (Nat.le_trans (((((((g5.trans g6).trans g7).trans g10).trans g11).updr (Nat.le_trans ((((g5.trans g6).trans g7).trans g10)).size (Nat.le_refl _)) u12).trans g13)).size (Nat.le_refl _)) u15).trans g16).trans g17).trans g18).updr (Nat.le_trans (((((((((((g5.trans g6).trans g7).trans g10).trans g11).updr (Nat.le_trans ((((g5.trans g6).trans g7).trans g10)).size (Nat.le_refl _)) u12).trans g13).trans g14).updr (Nat.le_trans (((((((g5.trans g6).trans g7).trans g10).trans g11).updr (Nat.le_trans ((((g5.trans g6).trans g7).trans g10)).size (Nat.le_refl _)) u12).trans g13)).size (Nat.le_refl _)) u15).trans g16).trans g17)).size (Nat.le_refl _)) u19).trans g20).trans g21).updr (Nat.le_trans ((((((((((((((g5.trans g6).trans g7).trans g10).trans g11).updr (Nat.le_trans ((((g5.trans g6).trans g7).trans g10)).size (Nat.le_refl _)) u12).trans g13).trans g14).updr (Nat.le_trans (((((((g5.trans g6).trans g7).trans g10).trans g11).updr (Nat.le_trans ((((g5.trans g6).trans g7).trans g10)).size (Nat.le_refl _)) u12).trans g13)).size (Nat.le_refl _)) u15).trans g16).trans g17).trans g18).updr (Nat.le_trans (((((((((((g5.trans g6).trans g7).trans g10).trans g11).updr (Nat.le_trans ((((g5.trans g6).trans g7).trans g10)).size (Nat.le_refl _)) u12).trans g13).trans g14).updr (Nat.le_trans (((((((g5.trans g6).trans g7).trans g10).trans g11).updr (Nat.le_trans ((((g5.trans g6).trans g7).trans g10)).size (Nat.le_refl _)) u12).trans g13)).size (Nat.le_refl _)) u15).trans g16).trans g17)).size (Nat.le_refl _)) u19).trans g20)).size (Nat.le_refl _)) u22).trans g23).trans g24).trans g25)).size (Nat.le_refl _)) u27)⟩
        · have z : law03_ModintSums' a1 x2 a3 x4 = false := by unfold law03_ModintSums'; exact (condF k9).trans ((condT k28).trans ((condT k29).trans ((condF k30).trans rfl)))
          rw [z]
          exact Runs.ret ⟨rfl, ((((((((((((((((((((g5.trans g6).trans g7).trans g10).trans g11).updr (Nat.le_trans ((((g5.trans g6).trans g7).trans g10)).size (Nat.le_refl _)) u12).trans g13).trans g14).updr (Nat.le_trans (((((((g5.trans g6).trans g7).trans g10).trans g11).updr (Nat.le_trans ((((g5.trans g6).trans g7).trans g10)).size (Nat.le_refl _)) u12).trans g13)).size (Nat.le_refl _)) u15).trans g16).trans g17).trans g18).updr (Nat.le_trans (((((((((((g5.trans g6).trans g7).trans g10).trans g11).updr (Nat.le_trans ((((g5.trans g6).trans g7).trans g10)).size (Nat.le_refl _)) u12).trans g13).trans g14).updr (Nat.le_trans (((((((g5.trans g6).trans g7).trans g10).trans g11).updr (Nat.le_trans ((((g5.trans g6).trans g7).trans g10)).size (Nat.le_refl _)) u12).trans g13)).size (Nat.le_refl _)) u15).trans g16).trans g17)).size (Nat.le_refl _)) u19).trans g20).trans g21).updr (Nat.le_trans ((((((((((((((g5.trans g6).trans g7).trans g10).trans g11).updr (Nat.le_trans ((((g5.trans g6).trans g7).trans g10)).size (Nat.le_refl _)) u12).trans g13).trans g14).updr (Nat.le_trans (((((((g5.trans g6).trans g7).trans g10).trans g11).updr (Nat.le_trans ((((g5.trans g6).trans g7).trans g10)).size (Nat.le_refl _)) u12).trans g13)).size (Nat.le_refl _)) u15).trans g16).trans g17).trans g18).updr (Nat.le_trans (((((((((((g5.trans g6).trans g7).trans g10).trans g11).updr (Nat.le_trans ((((g5.trans g6).trans g7).trans g10)).size (Nat.le_refl _)) u12).trans g13).trans g14).updr (Nat.le_trans (((((((g5.trans g6).trans g7).trans g10).trans g11).updr (Nat.le_trans ((((g5.trans g6).trans g7).trans g10)).size (Nat.le_refl _)) u12).trans g13)).size (Nat.le_refl _)) u15).trans g16).trans g17)).size (Nat.le_refl _)) u19).trans g20)).size (Nat.le_refl _)) u22).trans g23).trans g24).trans g25).trans g26).updr (Nat.le_trans (((((((((((((((((((g5.trans g6).trans g7).trans g10).trans g11).updr (Nat.le_trans ((((g5.trans g6).trans g7).trans g10)).size (Nat.le_refl _)) u12).trans g13).trans g14).updr (Nat.le_trans (((((((g5.trans g6).trans g7).trans g10).trans g11).updr (Nat.le_trans ((((g5.trans g6).trans g7).trans g10)).size (Nat.le_refl _)) u12).trans g13)).size (Nat.le_refl _)) u15).trans g16).trans g17).trans g18).updr (Nat.le_trans (((((((((((g5.trans g6).trans g7).trans g10).trans g11).updr (Nat.le_trans ((((g5.trans g6).trans g7).trans g10)).size (Nat.le_refl _)) u12).trans g13).trans g14).updr (Nat.le_trans (((((((g5.trans g6).trans g7).trans g10).trans g11).updr (Nat.le_trans ((((g5.trans g6).trans g7).trans g10)).size (Nat.le_refl _)) u12).trans g13)).size (Nat.le_refl _)) u15).trans g16).trans g17)).size (Nat.le_refl _)) u19).trans g20).trans g21).updr (Nat.le_trans ((((((((((((((g5.trans g6).trans g7).trans g10).trans g11).updr (Nat.le_trans ((((g5.trans g6).trans g7).trans g10)).size (Nat.le_refl _)) u12).trans g13).trans g14).updr (Nat.le_trans (((((((g5.trans g6).trans g7).trans g10).trans g11).updr (Nat.le_trans ((((g5.trans g6).trans g7).trans g10)).size (Nat.le_refl _)) u12).trans g13)).size (Nat.le_refl _)) u15).trans g16).trans g17).trans g18).updr (Nat.le_trans (((((((((((g5.trans g6).trans g7).trans g10).trans g11).updr (Nat.le_trans ((((g5.trans g6).trans g7).trans g10)).size (Nat.le_refl _)) u12).trans g13).trans g14).updr (Nat.le_trans (((((((g5.trans g6).trans g7).trans g10).trans g11).updr (Nat.le_trans ((((g5.trans g6).trans g7).trans g10)).size (Nat.le_refl _)) u12).trans g13)).size (Nat.le_refl _)) u15).trans g16).trans g17)).size (Nat.le_refl _)) u19).trans g20)).size (Nat.le_refl _)) u22).trans g23).trans g24).trans g25)).size (Nat.le_refl _)) u27)⟩
      · have z : law03_ModintSums' a1 x2 a3 x4 = false := by unfold law03_ModintSums'; exact (condF k9).trans ((condT k28).trans ((condF k29).trans rfl))
        rw [z]
        exact Runs.ret ⟨rfl, ((((((((((((((((((((g5.trans g6).trans g7).trans g10).trans g11).updr (Nat.le_trans ((((g5.trans g6).trans g7).trans g10)).size (Nat.le_refl _)) u12).trans g13).trans g14).updr (Nat.le_trans (((((((g5.trans g6).trans g7).trans g10).trans g11).updr (Nat.le_trans ((((g5.trans g6).trans g7).trans g10)).size (Nat.le_refl _)) u12).trans g13)).size (Nat.le_refl _)) u15).trans g16).trans g17).trans g18).updr (Nat.le_trans (((((((((((g5.trans g6).trans g7).trans g10).trans g11).updr (Nat.le_trans ((((g5.trans g6).trans g7).trans g10)).size (Nat.le_refl _)) u12).trans g13).trans g14).updr (Nat.le_trans (((((((g5.trans g6).trans g7).trans g10).trans g11).updr (Nat.le_trans ((((g5.trans g6).trans g7).trans g10)).size (Nat.le_refl _)) u12).trans g13)).size (Nat.le_refl _)) u15).trans g16).trans g17)).size (Nat.le_refl _)) u19).trans g20).trans g21).updr (Nat.le_trans ((((((((((((((g5.trans g6).trans g7).trans g10).trans g11).updr (Nat.le_trans ((((g5.trans g6).trans g7).trans g10)).size (Nat.le_refl _)) u12).trans g13).trans g14).updr (Nat.le_trans (((((((g5.trans g6).trans g7).trans g10).trans g11).updr (Nat.le_trans ((((g5.trans g6).trans g7).trans g10)).size (Nat.le_refl _)) u12).trans g13)).size (Nat.le_refl _)) u15).trans g16).trans g17).trans g18).updr (Nat.le_trans (((((((((((g5.trans g6).trans g7).trans g10).trans g11).updr (Nat.le_trans ((((g5.trans g6).trans g7).trans g10)).size (Nat.le_refl _)) u12).trans g13).trans g14).updr (Nat.le_trans (((((((g5.trans g6).trans g7).trans g10).trans g11).updr (Nat.le_trans ((((g5.trans g6).trans g7).trans g10)).size (Nat.le_refl _)) u12).trans g13)).size (Nat.le_refl _)) u15).trans g16).trans g17)).size (Nat.le_refl _)) u19).trans g20)).size (Nat.le_refl _)) u22).trans g23).trans g24).trans g25).trans g26).updr (Nat.le_trans (((((((((((((((((((g5.trans g6).trans g7).trans g10).trans g11).updr (Nat.le_trans ((((g5.trans g6).trans g7).trans g10)).size (Nat.le_refl _)) u12).trans g13).trans g14).updr (Nat.le_trans (((((((g5.trans g6).trans g7).trans g10).trans g11).updr (Nat.le_trans ((((g5.trans g6).trans g7).trans g10)).size (Nat.le_refl _)) u12).trans g13)).size (Nat.le_refl _)) u15).trans g16).trans g17).trans g18).updr (Nat.le_trans (((((((((((g5.trans g6).trans g7).trans g10).trans g11).updr (Nat.le_trans ((((g5.trans g6).trans g7).trans g10)).size (Nat.le_refl _)) u12).trans g13).trans g14).updr (Nat.le_trans (((((((g5.trans g6).trans g7).trans g10).trans g11).updr (Nat.le_trans ((((g5.trans g6).trans g7).trans g10)).size (Nat.le_refl _)) u12).trans g13)).size (Nat.le_refl _)) u15).trans g16).trans g17)).size (Nat.le_refl _)) u19).trans g20).trans g21).updr (Nat.le_trans ((((((((((((((g5.trans g6).trans g7).trans g10).trans g11).updr (Nat.le_trans ((((g5.trans g6).trans g7).trans g10)).size (Nat.le_refl _)) u12).trans g13).trans g14).updr (Nat.le_trans (((((((g5.trans g6).trans g7).trans g10).trans g11).updr (Nat.le_trans ((((g5.trans g6).trans g7).trans g10)).size (Nat.le_refl _)) u12).trans g13)).size (Nat.le_refl _)) u15).trans g16).trans g17).trans g18).updr (Nat.le_trans (((((((((((g5.trans g6).trans g7).trans g10).trans g11).updr (Nat.le_trans ((((g5.trans g6).trans g7).trans g10)).size (Nat.le_refl _)) u12).trans g13).trans g14).updr (Nat.le_trans (((((((g5.trans g6).trans g7).trans g10).trans g11).updr (Nat.le_trans ((((g5.trans g6).trans g7).trans g10)).size (Nat.le_refl _)) u12).trans g13)).size (Nat.le_refl _)) u15).trans g16).trans g17)).size (Nat.le_refl _)) u19).trans g20)).size (Nat.le_refl _)) u22).trans g23).trans g24).trans g25)).size (Nat.le_refl _)) u27)⟩
    · have z : law03_ModintSums' a1 x2 a3 x4 = false := by unfold law03_ModintSums'; exact (condF k9).trans ((condF k28).trans rfl)
      rw [z]
      exact Runs.ret ⟨rfl, ((((((((((((((((((((g5.trans g6).trans g7).trans g10).trans g11).updr (Nat.le_trans ((((g5.trans g6).trans g7).trans g10)).size (Nat.le_refl _)) u12).trans g13).trans g14).updr (Nat.le_trans (((((((g5.trans g6).trans g7).trans g10).trans g11).updr (Nat.le_trans ((((g5.trans g6).trans g7).trans g10)).size (Nat.le_refl _)) u12).trans g13)).size (Nat.le_refl _)) u15).trans g16).trans g17).trans g18).updr (Nat.le_trans (((((((((((g5.trans g6).trans g7).trans g10).trans g11).updr (Nat.le_trans ((((g5.trans g6).trans g7).trans g10)).size (Nat.le_refl _)) u12).trans g13).trans g14).updr (Nat.le_trans (((((((g5.trans g6).trans g7).trans g10).trans g11).updr (Nat.le_trans ((((g5.trans g6).trans g7).trans g10)).size (Nat.le_refl _)) u12).trans g13)).size (Nat.le_refl _)) u15).trans g16).trans g17)).size (Nat.le_refl _)) u19).trans g20).trans g21).updr (Nat.le_trans ((((((((((((((g5.trans g6).trans g7).trans g10).trans g11).updr (Nat.le_trans ((((g5.trans g6).trans g7).trans g10)).size (Nat.le_refl _)) u12).trans g13).trans g14).updr (Nat.le_trans (((((((g5.trans g6).trans g7).trans g10).trans g11).updr (Nat.le_trans ((((g5.trans g6).trans g7).trans g10)).size (Nat.le_refl _)) u12).trans g13)).size (Nat.le_refl _)) u15).trans g16).trans g17).trans g18).updr (Nat.le_trans (((((((((((g5.trans g6).trans g7).trans g10).trans g11).updr (Nat.le_trans ((((g5.trans g6).trans g7).trans g10)).size (Nat.le_refl _)) u12).trans g13).trans g14).updr (Nat.le_trans (((((((g5.trans g6).trans g7).trans g10).trans g11).updr (Nat.le_trans ((((g5.trans g6).trans g7).trans g10)).size (Nat.le_refl _)) u12).trans g13)).size (Nat.le_refl _)) u15).trans g16).trans g17)).size (Nat.le_refl _)) u19).trans g20)).size (Nat.le_refl _)) u22).trans g23).trans g24).trans g25).trans g26).updr (Nat.le_trans (((((((((((((((((((g5.trans g6).trans g7).trans g10).trans g11).updr (Nat.le_trans ((((g5.trans g6).trans g7).trans g10)).size (Nat.le_refl _)) u12).trans g13).trans g14).updr (Nat.le_trans (((((((g5.trans g6).trans g7).trans g10).trans g11).updr (Nat.le_trans ((((g5.trans g6).trans g7).trans g10)).size (Nat.le_refl _)) u12).trans g13)).size (Nat.le_refl _)) u15).trans g16).trans g17).trans g18).updr (Nat.le_trans (((((((((((g5.trans g6).trans g7).trans g10).trans g11).updr (Nat.le_trans ((((g5.trans g6).trans g7).trans g10)).size (Nat.le_refl _)) u12).trans g13).trans g14).updr (Nat.le_trans (((((((g5.trans g6).trans g7).trans g10).trans g11).updr (Nat.le_trans ((((g5.trans g6).trans g7).trans g10)).size (Nat.le_refl _)) u12).trans g13)).size (Nat.le_refl _)) u15).trans g16).trans g17)).size (Nat.le_refl _)) u19).trans g20).trans g21).updr (Nat.le_trans ((((((((((((((g5.trans g6).trans g7).trans g10).trans g11).updr (Nat.le_trans ((((g5.trans g6).trans g7).trans g10)).size (Nat.le_refl _)) u12).trans g13).trans g14).updr (Nat.le_trans (((((((g5.trans g6).trans g7).trans g10).trans g11).updr (Nat.le_trans ((((g5.trans g6).trans g7).trans g10)).size (Nat.le_refl _)) u12).trans g13)).size (Nat.le_refl _)) u15).trans g16).trans g17).trans g18).updr (Nat.le_trans (((((((((((g5.trans g6).trans g7).trans g10).trans g11).updr (Nat.le_trans ((((g5.trans g6).trans g7).trans g10)).size (Nat.le_refl _)) u12).trans g13).trans g14).updr (Nat.le_trans (((((((g5.trans g6).trans g7).trans g10).trans g11).updr (Nat.le_trans ((((g5.trans g6).trans g7).trans g10)).size (Nat.le_refl _)) u12).trans g13)).size (Nat.le_refl _)) u15).trans g16).trans g17)).size (Nat.le_refl _)) u19).trans g20)).size (Nat.le_refl _)) u22).trans g23).trans g24).trans g25)).size (Nat.le_refl _)) u27)⟩

end Go.Ab

/- Bits of limbs; bits.Mul64. -/
set_option linter.unusedVariables false
set_option linter.unusedSimpArgs false
set_option maxRecDepth 10000
namespace Go.Ab
open Go.Proofs Go.Num

theorem ishr_nat (x n : Nat) : ishr .u64 (x : Int) (n : Int) = ((x / 2 ^ min n 64 : Nat) : Int) := by
  unfold ishr
  rw [Int.toNat_natCast, show IntKind.bits .u64 = 64 from rfl]
  have : ((2 : Int) ^ min n 64) = ((2 ^ min n 64 : Nat) : Int) := by simp
  rw [this, Int.fdiv_eq_ediv_of_nonneg _ (Int.natCast_nonneg _)]
  exact (Int.natCast_ediv _ _).symm

theorem iand_low {x : Nat} (hx : x < 18446744073709551616) : iand .u64 (x : Int) 4294967295 = ((x % 4294967296 : Nat) : Int) := by
  unfold iand
  rw [show IntKind.bits .u64 = 64 from rfl, wrapU]
  have e1 : BitVec.ofInt 64 (x : Int) = BitVec.ofNat 64 x := rfl
  have e2 : BitVec.ofInt 64 4294967295 = BitVec.ofNat 64 4294967295 := rfl
  rw [e1, e2, BitVec.toNat_and, BitVec.toNat_ofNat, BitVec.toNat_ofNat]
  rw [Nat.mod_eq_of_lt (show x < 2 ^ 64 from hx), Nat.mod_eq_of_lt (show 4294967295 < 2 ^ 64 from by decide)]
  rw [show (4294967295 : Nat) = 2 ^ 32 - 1 from rfl, Nat.and_two_pow_sub_one_eq_mod]
  have := Nat.mod_lt x (show 0 < 2 ^ 32 by decide)
  omega

def mul64 (a1 a2 : Int) : Int × Int := ((IntKind.wrap .u64 ((IntKind.wrap .u64 ((IntKind.wrap .u64 ((ishr .u64 a1 32) * (ishr .u64 a2 32))) + (ishr .u64 (IntKind.wrap .u64 ((IntKind.wrap .u64 ((ishr .u64 a1 32) * (iand .u64 a2 4294967295))) + (ishr .u64 (IntKind.wrap .u64 ((iand .u64 a1 4294967295) * (iand .u64 a2 4294967295))) 32))) 32))) + (ishr .u64 (IntKind.wrap .u64 ((iand .u64 (IntKind.wrap .u64 ((IntKind.wrap .u64 ((ishr .u64 a1 32) * (iand .u64 a2 4294967295))) + (ishr .u64 (IntKind.wrap .u64 ((iand .u64 a1 4294967295) * (iand .u64 a2 4294967295))) 32))) 4294967295) + (IntKind.wrap .u64 ((iand .u64 a1 4294967295) * (ishr .u64 a2 32))))) 32))), IntKind.wrap .u64 (a1 * a2))

theorem math_bits_Mul64_spec (a1 a2 : Int) {h : AH} : go (.fn F.math_bits_Mul64 [.int .u64 a1, .int .u64 a2]) h = some (.tup [.int .u64 (mul64 a1 a2).1, .int .u64 (mul64 a1 a2).2], h) := u_math_bits_Mul64 a1 a2 h

theorem mul_parts (x1 x0 y1 y0 : Nat) : (x1 * 4294967296 + x0) * (y1 * 4294967296 + y0) = x1 * y1 * 18446744073709551616 + (x1 * y0 + x0 * y1) * 4294967296 + x0 * y0 := by
  rw [Nat.add_mul, Nat.mul_add, Nat.mul_add]
  have e1 : x1 * 4294967296 * (y1 * 4294967296) = x1 * y1 * 18446744073709551616 := by
    rw [Nat.mul_mul_mul_comm]
  have e2 : x1 * 4294967296 * y0 = x1 * y0 * 4294967296 := by rw [Nat.mul_right_comm]
  have e3 : x0 * (y1 * 4294967296) = x0 * y1 * 4294967296 := by rw [Nat.mul_assoc]
  rw [e1, e2, e3]
  omega

theorem mul64_eq {x y : Nat} (hx : x < B) (hy : y < B) : mul64 (x : Int) (y : Int) = (((x * y / B : Nat) : Int), ((x * y % B : Nat) : Int)) := by
  have hx : x < 18446744073709551616 := hx
  have hy : y < 18446744073709551616 := hy
  unfold mul64
  have s1 := ishr_nat x 32
  have s2 := ishr_nat y 32
  have a1 := iand_low hx
  have a2 := iand_low hy
  have p32 : (2 : Nat) ^ min 32 64 = 4294967296 := rfl
  rw [p32] at s1 s2
  rw [show ((32 : Nat) : Int) = 32 from rfl] at s1 s2
  rw [s1, s2, a1, a2]
  generalize hx1 : x / 4294967296 = x1
  generalize hx0 : x % 4294967296 = x0
  generalize hy1 : y / 4294967296 = y1
  generalize hy0 : y % 4294967296 = y0
  have ex : x = x1 * 4294967296 + x0 := by omega
  have ey : y = y1 * 4294967296 + y0 := by omega
  have l1 : x1 ≤ 4294967295 := by omega
  have l2 : x0 ≤ 4294967295 := by omega
  have l3 : y1 ≤ 4294967295 := by omega
  have l4 : y0 ≤ 4294967295 := by omega
  have b1 : x1 * y1 ≤ 4294967295 * 4294967295 := Nat.mul_le_mul l1 l3
  have b2 : x1 * y0 ≤ 4294967295 * 4294967295 := Nat.mul_le_mul l1 l4
  have b3 : x0 * y1 ≤ 4294967295 * 4294967295 := Nat.mul_le_mul l2 l3
  have b4 : x0 * y0 ≤ 4294967295 * 4294967295 := Nat.mul_le_mul l2 l4
  have key := mul_parts x1 x0 y1 y0
  rw [← ex, ← ey] at key
  have w1 : IntKind.wrap .u64 (((x0 : Nat) : Int) * ((y0 : Nat) : Int)) = ((x0 * y0 : Nat) : Int) := by rw [wrapU, ← Int.natCast_mul]; omega
  have w2 : IntKind.wrap .u64 (((x1 : Nat) : Int) * ((y0 : Nat) : Int)) = ((x1 * y0 : Nat) : Int) := by rw [wrapU, ← Int.natCast_mul]; omega
  have w3 : IntKind.wrap .u64 (((x0 : Nat) : Int) * ((y1 : Nat) : Int)) = ((x0 * y1 : Nat) : Int) := by rw [wrapU, ← Int.natCast_mul]; omega
  have w4 : IntKind.wrap .u64 (((x1 : Nat) : Int) * ((y1 : Nat) : Int)) = ((x1 * y1 : Nat) : Int) := by rw [wrapU, ← Int.natCast_mul]; omega
  rw [w1, w2, w3, w4]
  have lo : IntKind.wrap .u64 ((x : Int) * (y : Int)) = ((x * y % B : Nat) : Int) := by
    rw [wrapU, ← Int.natCast_mul]
    rfl
  rw [lo]
  generalize x0 * y0 = p at *
  generalize x1 * y0 = q at *
  generalize x0 * y1 = u at *
  generalize x1 * y1 = v at *
  have s3 := ishr_nat p 32
  rw [p32] at s3
  rw [show ((32 : Nat) : Int) = 32 from rfl] at s3
  rw [s3]
  have w5 : IntKind.wrap .u64 (((q : Nat) : Int) + ((p / 4294967296 : Nat) : Int)) = ((q + p / 4294967296 : Nat) : Int) := by rw [wrapU]; omega
  rw [w5]
  have ht : q + p / 4294967296 < 18446744073709551616 := by omega
  have s4 := ishr_nat (q + p / 4294967296) 32
  rw [p32] at s4
  rw [show ((32 : Nat) : Int) = 32 from rfl] at s4
  rw [s4, iand_low ht]
  generalize ht' : q + p / 4294967296 = t at *
  have w6 : IntKind.wrap .u64 (((t % 4294967296 : Nat) : Int) + ((u : Nat) : Int)) = ((t % 4294967296 + u : Nat) : Int) := by rw [wrapU]; omega
  rw [w6]
  have s5 := ishr_nat (t % 4294967296 + u) 32
  rw [p32] at s5
  rw [show ((32 : Nat) : Int) = 32 from rfl] at s5
  rw [s5]
  have w7 : IntKind.wrap .u64 (((v : Nat) : Int) + ((t / 4294967296 : Nat) : Int)) = ((v + t / 4294967296 : Nat) : Int) := by rw [wrapU]; omega
  rw [w7]
  have w8 : IntKind.wrap .u64 (((v + t / 4294967296 : Nat) : Int) + (((t % 4294967296 + u) / 4294967296 : Nat) : Int)) = ((v + t / 4294967296 + (t % 4294967296 + u) / 4294967296 : Nat) : Int) := by rw [wrapU]; omega
  rw [w8]
  have hi : v + t / 4294967296 + (t % 4294967296 + u) / 4294967296 = x * y / 18446744073709551616 := by
    rw [key]
    omega
  rw [hi]

end Go.Ab

/- Layer 1: the school product: printed by wip/tools/walk.py. -/
set_option linter.unusedVariables false
set_option linter.unusedSimpArgs false
set_option maxRecDepth 10000
namespace Go.Ab
open Go.Proofs Go.Num

inductive nat_school_St
  | fn (x1 : List Nat) (x2 : List Nat)
  | p3 (x1 : List Nat) (x2 : List Nat) (x3 : List Nat) (a4 : Int) (a5 : Int)
  | p7 (x1 : List Nat) (x2 : List Nat) (a3 : Int) (a4 : Int) (a5 : Int) (x6 : List Nat) (a7 : Int) (a8 : Int) (x9 : List Nat) (a10 : Int) (a11 : Int)

abbrev nat_school_Res := List Nat

noncomputable def nat_school_fn' (x1 : List Nat) (x2 : List Nat) : Option (nat_school_St ⊕ nat_school_Res) :=
  (mkI (IntKind.wrap .i64 ((List.length x1 : Int) + (List.length x2 : Int))) (IntKind.wrap .i64 ((List.length x1 : Int) + (List.length x2 : Int)))).bind fun m3 => some (.inl (.p3 x2 (List.replicate m3 0) x1 (List.length x1 : Int) 0))

noncomputable def nat_school_p3' (x1 : List Nat) (x2 : List Nat) (x3 : List Nat) (a4 : Int) (a5 : Int) : Option (nat_school_St ⊕ nat_school_Res) :=
  cond (decide (a5 < a4)) ((atI x3 a5).bind fun y7 => some (.inl (.p7 x1 x2 a5 ((y7 : Int)) 0 x3 a4 a5 x1 (List.length x1 : Int) 0))) (some (.inr (digs B (num B x2))))

noncomputable def nat_school_p7' (x1 : List Nat) (x2 : List Nat) (a3 : Int) (a4 : Int) (a5 : Int) (x6 : List Nat) (a7 : Int) (a8 : Int) (x9 : List Nat) (a10 : Int) (a11 : Int) : Option (nat_school_St ⊕ nat_school_Res) :=
  cond (decide (a11 < a10)) ((atI x9 a11).bind fun y13 => (inI (List.length x2) (IntKind.wrap .i64 (a3 + a11))).bind fun j15 => (add64P ((mul64 a4 ((y13 : Int))).2) (((List.getD x2 j15 0 : Nat) : Int)) 0).bind fun p16 => (add64P (p16.1) a5 0).bind fun p17 => (inI (List.length x2) (IntKind.wrap .i64 (a3 + a11))).bind fun j18 => (u64P (p17.1)).bind fun w19 => some (.inl (.p7 x1 (List.set x2 j18 w19) a3 a4 (IntKind.wrap .u64 ((IntKind.wrap .u64 (((mul64 a4 ((y13 : Int))).1) + (p16.2))) + (p17.2))) x6 a7 a8 x9 a10 (IntKind.wrap .i64 (a11 + 1))))) ((inI (List.length x2) (IntKind.wrap .i64 (a3 + (List.length x1 : Int)))).bind fun j13 => (u64P a5).bind fun w14 => some (.inl (.p3 x1 (List.set x2 j13 w14) x6 a7 (IntKind.wrap .i64 (a8 + 1)))))

noncomputable def nat_school_step : nat_school_St → Option (nat_school_St ⊕ nat_school_Res)
  | .fn x1 x2 => nat_school_fn' x1 x2
  | .p3 x1 x2 x3 a4 a5 => nat_school_p3' x1 x2 x3 a4 a5
  | .p7 x1 x2 a3 a4 a5 x6 a7 a8 x9 a10 a11 => nat_school_p7' x1 x2 a3 a4 a5 x6 a7 a8 x9 a10 a11

@[reducible] def nat_school_post (h0 : AH) (r : nat_school_Res) (v : AV) (h' : AH) : Prop := ∃ s1 : Sl, v = s1.v ∧ Nats h' s1 r ∧ Grow h0 h' ∧ Own h0 s1

def nat_school_At (r : nat_school_Res) : nat_school_St → Prop
  | .fn x1 x2 => ∀ {h : AH} {a1 : Sl} {a2 : Sl}, Nats h a1 x1 → Nats h a2 x2 → Runs (go (.fn F.nat_school [a1.v, a2.v]) h) (nat_school_post h r)
  | .p3 x1 x2 x3 a4 a5 => ∀ {h0 h : AH} {a1 : Sl} {a2 : Sl} {a3 : Sl} {i2 : Nat}, Grow h0 h → Nats h a1 x1 → Vec h a2 i2 x2 → Nats h a3 x3 → h0.blks.size ≤ i2 → Av a1 i2 x1 → Av a3 i2 x3 → Runs (go (.pt F.nat_school Td.nat_school_3 [(1, a1.v), (5, a2.v), (20, a3.v), (21, .int .i64 a4), (22, .int .i64 a5)]) h) (nat_school_post h0 r)
  | .p7 x1 x2 a3 a4 a5 x6 a7 a8 x9 a10 a11 => ∀ {h0 h : AH} {a1 : Sl} {a2 : Sl} {a6 : Sl} {a9 : Sl} {i2 : Nat}, Grow h0 h → Nats h a1 x1 → Vec h a2 i2 x2 → Nats h a6 x6 → Nats h a9 x9 → h0.blks.size ≤ i2 → Av a1 i2 x1 → Av a6 i2 x6 → Av a9 i2 x9 → Runs (go (.pt F.nat_school Td.nat_school_7 [(1, a1.v), (5, a2.v), (6, .int .i64 a3), (7, .int .u64 a4), (8, .int .u64 a5), (20, a6.v), (21, .int .i64 a7), (22, .int .i64 a8), (27, a9.v), (28, .int .i64 a10), (29, .int .i64 a11)]) h) (nat_school_post h0 r)

theorem nat_school_fn_walk {r : nat_school_Res} {o : nat_school_St ⊕ nat_school_Res} {x1 : List Nat} {x2 : List Nat} (e : nat_school_fn' x1 x2 = some o) (good : GoodS (nat_school_At r) r o) : nat_school_At r (.fn x1 x2) := by
  intro h a1 a2 n1 n2
  rw [u_nat_school]
  unfold nat_school_fn' at e
  rw [n1.len]
  rw [n2.len]
  obtain ⟨m3, q3, e⟩ := Option.bind_eq_some_iff.1 e
  refine Runs.mk q3 bytes_uint64 fun s3 H3 v3 g3 => ?_
  cases e
  exact good g3 (n2.grow g3) v3 (n1.grow g3) (Nat.le_refl _) (Av.of_base n2 (Nat.le_refl _)) (Av.of_base n1 (Nat.le_refl _))

theorem nat_school_p3_walk {r : nat_school_Res} {o : nat_school_St ⊕ nat_school_Res} {x1 : List Nat} {x2 : List Nat} {x3 : List Nat} {a4 : Int} {a5 : Int} (e : nat_school_p3' x1 x2 x3 a4 a5 = some o) (good : GoodS (nat_school_At r) r o) : nat_school_At r (.p3 x1 x2 x3 a4 a5) := by
  intro h0 h a1 a2 a3 i2 g0 n1 v2 n3 hi2 av1_2 av3_2
  rw [p_nat_school_3]
  unfold nat_school_p3' at e
  rw [n1.len]
  rw [n3.len]
  refine Runs.cond (fun k6 => ?_) (fun k6 => ?_)
  · replace e := (condT k6).symm.trans e
    obtain ⟨y7, q7, e⟩ := Option.bind_eq_some_iff.1 e
    obtain ⟨r7, j7, l7⟩ := n3.atI q7
    refine Runs.step j7 ?_
    refine Runs.step (rdc l7 (avInt_int _ _)) ?_
    cases e
    exact good g0 n1 v2 n3 n1 hi2 av1_2 av3_2 av1_2
  · replace e := (condF k6).symm.trans e
    obtain ⟨s7, e7, n7, o7⟩ := nat_trim_spec v2.nats
    refine Runs.step e7 ?_
    refine Runs.step (seen (asSl_v _)) ?_
    cases e
    cases good
    exact Runs.ret ⟨s7, rfl, n7, g0, ((o7 _ (v2.own hi2)).of_le (Grow.refl _))⟩

theorem nat_school_p7_walk {r : nat_school_Res} {o : nat_school_St ⊕ nat_school_Res} {x1 : List Nat} {x2 : List Nat} {a3 : Int} {a4 : Int} {a5 : Int} {x6 : List Nat} {a7 : Int} {a8 : Int} {x9 : List Nat} {a10 : Int} {a11 : Int} (e : nat_school_p7' x1 x2 a3 a4 a5 x6 a7 a8 x9 a10 a11 = some o) (good : GoodS (nat_school_At r) r o) : nat_school_At r (.p7 x1 x2 a3 a4 a5 x6 a7 a8 x9 a10 a11) := by
  intro h0 h a1 a2 a6 a9 i2 g0 n1 v2 n6 n9 hi2 av1_2 av6_2 av9_2
  rw [p_nat_school_7]
  unfold nat_school_p7' at e
  rw [n1.len]
  rw [v2.nats.len]
  rw [n9.len]
  refine Runs.cond (fun k12 => ?_) (fun k12 => ?_)
  · replace e := (condT k12).symm.trans e
    obtain ⟨y13, q13, e⟩ := Option.bind_eq_some_iff.1 e
    obtain ⟨r13, j13, l13⟩ := n9.atI q13
    refine Runs.step j13 ?_
    refine Runs.step (rdc l13 (avInt_int _ _)) ?_
    refine Runs.step (math_bits_Mul64_spec a4 ((y13 : Int))) ?_
    refine Runs.step rfl ?_
    refine Runs.step (seen (avInt_int _ _)) ?_
    refine Runs.step (seen (avInt_int _ _)) ?_
    obtain ⟨j15, q15, e⟩ := Option.bind_eq_some_iff.1 e
    refine Runs.step (v2.idx rfl q15) ?_
    refine Runs.step (v2.rd rfl q15 (avInt_int _ _)) ?_
    obtain ⟨p16, q16, e⟩ := Option.bind_eq_some_iff.1 e
    refine Runs.step (prim_add64 q16) ?_
    refine Runs.step rfl ?_
    refine Runs.step (seen (avInt_int _ _)) ?_
    refine Runs.step (seen (avInt_int _ _)) ?_
    obtain ⟨p17, q17, e⟩ := Option.bind_eq_some_iff.1 e
    refine Runs.step (prim_add64 q17) ?_
    refine Runs.step rfl ?_
    refine Runs.step (seen (avInt_int _ _)) ?_
    refine Runs.step (seen (avInt_int _ _)) ?_
    obtain ⟨j18, q18, e⟩ := Option.bind_eq_some_iff.1 e
    refine Runs.step (v2.idx rfl q18) ?_
    obtain ⟨w19, z19, e⟩ := Option.bind_eq_some_iff.1 e
    refine Runs.vput v2 rfl q18 z19 fun H19 v19 u19 => ?_
    have n1_19 := n1.upda av1_2 u19
    have n6_19 := n6.upda av6_2 u19
    have n9_19 := n9.upda av9_2 u19
    cases e
    exact good (g0.updr hi2 u19) n1_19 v19 n6_19 n9_19 hi2 av1_2 av6_2 av9_2
  · replace e := (condF k12).symm.trans e
    obtain ⟨j13, q13, e⟩ := Option.bind_eq_some_iff.1 e
    refine Runs.step (v2.idx rfl q13) ?_
    obtain ⟨w14, z14, e⟩ := Option.bind_eq_some_iff.1 e
    refine Runs.vput v2 rfl q13 z14 fun H14 v14 u14 => ?_
    have n1_14 := n1.upda av1_2 u14
    have n6_14 := n6.upda av6_2 u14
    have n9_14 := n9.upda av9_2 u14
    cases e
    exact good (g0.updr hi2 u14) n1_14 v14 n6_14 hi2 av1_2 av6_2

theorem nat_school_run {s : nat_school_St} {r : nat_school_Res} (it : Iter nat_school_step s r) : nat_school_At r s := Iter.ind (fun s o e good => by
  cases s with
  | fn x1 x2 => exact @nat_school_fn_walk _ _ x1 x2 e good
  | p3 x1 x2 x3 a4 a5 => exact @nat_school_p3_walk _ _ x1 x2 x3 a4 a5 e good
  | p7 x1 x2 a3 a4 a5 x6 a7 a8 x9 a10 a11 => exact @nat_school_p7_walk _ _ x1 x2 a3 a4 a5 x6 a7 a8 x9 a10 a11 e good
  ) it

theorem nat_school_opt {h : AH} {a1 : Sl} {a2 : Sl} {x1 : List Nat} {x2 : List Nat} (n1 : Nats h a1 x1) (n2 : Nats h a2 x2) {r : nat_school_Res} (q : runP nat_school_step (.fn x1 x2) = some r) : Runs (go (.fn F.nat_school [a1.v, a2.v]) h) (nat_school_post h r) := nat_school_run (runP_iter q) n1 n2

end Go.Ab

/- Layer 1: what the school product answers. -/
set_option linter.unusedVariables false
set_option linter.unusedSimpArgs false
set_option maxRecDepth 10000
namespace Go.Ab
open Go.Proofs Go.Num

theorem carry_eq {t o c : Nat} (ho : o < 18446744073709551616) (hc : c < 18446744073709551616) (h : (t + o + c) / 18446744073709551616 < 18446744073709551616) :
    ((t % 18446744073709551616 + o + 0) % 18446744073709551616 + c + 0) % 18446744073709551616 = (t + o + c) % 18446744073709551616 ∧
    IntKind.wrap .u64 (IntKind.wrap .u64 (((t / 18446744073709551616 : Nat) : Int) + (((t % 18446744073709551616 + o + 0) / 18446744073709551616 : Nat) : Int)) + ((((t % 18446744073709551616 + o + 0) % 18446744073709551616 + c + 0) / 18446744073709551616 : Nat) : Int)) = (((t + o + c) / 18446744073709551616 : Nat) : Int) := by
  rw [wrapU, wrapU]
  omega

/-- Nothing stands from place k on. -/
def Empty (o : List Nat) (k : Nat) : Prop := ∀ j (h : j < o.length), k ≤ j → o[j] = 0

theorem Empty.set {o : List Nat} {k j w : Nat} (z : Empty o k) (hj : j < k) : Empty (o.set j w) k := fun t ht hk => by
  rw [List.getElem_set_ne (by omega)]
  exact z t (by simpa using ht) hk

theorem Empty.succ {o : List Nat} {k : Nat} (z : Empty o k) : Empty o (k + 1) := fun t ht hk => z t ht (by omega)

theorem set_lt {b : Nat} {o : List Nat} {j w : Nat} (h : ∀ x ∈ o, x < b) (hw : w < b) : ∀ x ∈ o.set j w, x < b := fun x hx => by
  rcases List.mem_or_eq_of_mem_set hx with h1 | h1
  · exact h x h1
  · rw [h1]; exact hw

theorem school_row {xs ys : List Nat} {r : nat_school_Res} {i x T : Nat} (hx : x < B) (ly : ∀ y ∈ ys, y < B) (hn : xs.length + ys.length ≤ 8796093022208) (hi : i < xs.length)
    (K : ∀ o : List Nat, o.length = xs.length + ys.length → (∀ y ∈ o, y < B) → Empty o (i + 1 + ys.length) → num B o = T + B ^ i * (x * num B ys) → Iter nat_school_step (.p3 ys o xs (xs.length : Int) ((i + 1 : Nat) : Int)) r) :
    ∀ (d k : Nat), k + d = ys.length → ∀ (o : List Nat) (c : Nat), o.length = xs.length + ys.length → (∀ y ∈ o, y < B) → Empty o (i + ys.length) → c < B → Row B o i k c x ys T →
      Iter nat_school_step (.p7 ys o (i : Int) (x : Int) (c : Int) xs (xs.length : Int) (i : Int) ys (ys.length : Int) (k : Int)) r
  | 0, k, hk, o, c, lo, to, zo, hc, row => by
    have hk : k = ys.length := by omega
    subst hk
    have hj : i + ys.length < o.length := by omega
    refine .next ?_ (K (o.set (i + ys.length) c) (by simpa using lo) (set_lt to hc) ?_ ?_)
    · show nat_school_p7' _ _ _ _ _ _ _ _ _ _ _ = _
      unfold nat_school_p7'
      rw [condF (by rw [decide_eq_false_iff_not]; omega), ← Int.natCast_add, wrap_nat (by omega), inI_nat hj, Option.bind_some, u64P_nat hc, Option.bind_some, wrap_succ (by omega)]
    · rw [show i + 1 + ys.length = i + ys.length + 1 from by omega]
      intro j h1 h2
      rw [List.getElem_set_ne (by omega)]
      exact zo j (by simpa using h1) (by omega)
    · exact row.stop hj (zo _ hj (Nat.le_refl _))
  | d + 1, k, hk, o, c, lo, to, zo, hc, row => by
    have hk' : k < ys.length := by omega
    have hj : i + k < o.length := by omega
    have hy := ly ys[k] (List.getElem_mem _)
    have ho := to o[i + k] (List.getElem_mem _)
    have hc' := carry_lt hx hy ho hc
    obtain ⟨c1, c2⟩ := carry_eq ho hc hc'
    have hl := Nat.mod_lt (x * ys[k] + o[i + k] + c) (show 0 < 18446744073709551616 by omega)
    refine .next ?_ (school_row hx ly hn hi K d (k + 1) (by omega) (o.set (i + k) ((x * ys[k] + o[i + k] + c) % 18446744073709551616)) ((x * ys[k] + o[i + k] + c) / 18446744073709551616) (by simpa using lo) (set_lt to hl) (zo.set (by omega)) hc' (row.step hk' hj (Nat.div_add_mod' _ _).symm))
    · show nat_school_p7' _ _ _ _ _ _ _ _ _ _ _ = _
      unfold nat_school_p7'
      rw [condT (by rw [decide_eq_true_eq]; omega), atI_nat hk', Option.bind_some, ← Int.natCast_add, wrap_nat (by omega), inI_nat hj, Option.bind_some, mul64_eq hx hy]
      dsimp only
      rw [show List.getD o (i + k) 0 = o[i + k] from getD_lt hj]
      have a1 := add64P_nat (x * ys[k] % B) o[i + k] (c := 0) (by omega)
      have a2 := add64P_nat ((x * ys[k] % B + o[i + k] + 0) % 18446744073709551616) c (c := 0) (by omega)
      rw [show ((0 : Nat) : Int) = 0 from rfl] at a1 a2
      rw [a1, Option.bind_some]
      dsimp only
      rw [a2, Option.bind_some, Option.bind_some]
      dsimp only
      rw [c1, c2, u64P_nat hl, Option.bind_some, wrap_succ (by omega)]

theorem school_rows {xs ys : List Nat} (lx : ∀ x ∈ xs, x < B) (ly : ∀ y ∈ ys, y < B) (hn : xs.length + ys.length ≤ 8796093022208) :
    ∀ (d i : Nat), i + d = xs.length → ∀ (o : List Nat), o.length = xs.length + ys.length → (∀ y ∈ o, y < B) → Empty o (i + ys.length) → num B o = num B (xs.take i) * num B ys →
      Iter nat_school_step (.p3 ys o xs (xs.length : Int) (i : Int)) (digs B (num B xs * num B ys))
  | 0, i, hi, o, lo, to, zo, e => by
    have hi : i = xs.length := by omega
    subst hi
    rw [List.take_length] at e
    refine .done ?_
    show nat_school_p3' _ _ _ _ _ = _
    unfold nat_school_p3'
    rw [condF (by rw [decide_eq_false_iff_not]; omega), e]
  | d + 1, i, hi, o, lo, to, zo, e => by
    have hi' : i < xs.length := by omega
    refine .next (s' := .p7 ys o (i : Int) (xs[i] : Int) ((0 : Nat) : Int) xs (xs.length : Int) (i : Int) ys (ys.length : Int) ((0 : Nat) : Int)) ?_
      (school_row (T := num B (xs.take i) * num B ys) (lx _ (List.getElem_mem _)) ly hn hi' (fun o' l' t' z' e' => ?_) ys.length 0 (by omega) o 0 lo to zo (show 0 < 18446744073709551616 by omega) (Row.start e))
    · show nat_school_p3' _ _ _ _ _ = _
      unfold nat_school_p3'
      rw [condT (by rw [decide_eq_true_eq]; omega), atI_nat hi', Option.bind_some]
      rfl
    · refine school_rows lx ly hn d (i + 1) (by omega) o' l' t' z' ?_
      rw [e', rows_step hi' rfl]

theorem nat_school_iter {xs ys : List Nat} (lx : ∀ x ∈ xs, x < B) (ly : ∀ y ∈ ys, y < B) (hn : xs.length + ys.length ≤ 8796093022208) : Iter nat_school_step (.fn xs ys) (digs B (num B xs * num B ys)) := by
  have z : ∀ k, Empty (List.replicate (xs.length + ys.length) 0) k := fun k j hj _ => by simp
  refine .next (s' := .p3 ys (List.replicate (xs.length + ys.length) 0) xs (xs.length : Int) ((0 : Nat) : Int)) ?_ (school_rows lx ly hn xs.length 0 (by omega) _ (by simp) ?_ (z _) ?_)
  · show nat_school_fn' _ _ = _
    unfold nat_school_fn'
    rw [← Int.natCast_add, wrap_nat (by omega), mkI_nat hn, Option.bind_some]
    rfl
  · intro y hy
    rw [List.eq_of_mem_replicate hy]
    exact show 0 < 18446744073709551616 by omega
  · have := num_noughts B [] (xs.length + ys.length)
    simpa [num] using this

theorem nat_school_spec {h : AH} {s t : Sl} {xs ys : List Nat} (n : Nats h s xs) (m : Nats h t ys) (hn : xs.length + ys.length ≤ 8796093022208) : ∃ (s' : Sl) (h' : AH), go (.fn F.nat_school [s.v, t.v]) h = some (s'.v, h') ∧ Nats h' s' (digs B (num B xs * num B ys)) ∧ Grow h h' ∧ Own h s' := by
  obtain ⟨_, h', e, s', rfl, n', g, o⟩ := nat_school_run (nat_school_iter n.lt m.lt hn) n m
  exact ⟨s', h', e, n', g, o⟩

end Go.Ab

/- Layer 1: the document's product: printed by wip/tools/walk.py. -/
set_option linter.unusedVariables false
set_option linter.unusedSimpArgs false
set_option maxRecDepth 10000
namespace Go.Ab
open Go.Proofs Go.Num

inductive ref01_mul_St
  | fn (x1 : List Nat) (x2 : List Nat)
  | p3 (x1 : List Nat) (x2 : List Nat) (x3 : List Nat) (a4 : Int)
  | p7 (x1 : List Nat) (x2 : List Nat) (x3 : List Nat) (a4 : Int) (a5 : Int) (a6 : Int)

abbrev ref01_mul_Res := List Nat

noncomputable def ref01_mul_fn' (x1 : List Nat) (x2 : List Nat) : Option (ref01_mul_St ⊕ ref01_mul_Res) :=
  (mkI (IntKind.wrap .i64 ((List.length x1 : Int) + (List.length x2 : Int))) (IntKind.wrap .i64 ((List.length x1 : Int) + (List.length x2 : Int)))).bind fun m3 => some (.inl (.p3 x1 x2 (List.replicate m3 0) 0))

noncomputable def ref01_mul_p3' (x1 : List Nat) (x2 : List Nat) (x3 : List Nat) (a4 : Int) : Option (ref01_mul_St ⊕ ref01_mul_Res) :=
  cond (decide (a4 < (List.length x1 : Int))) (some (.inl (.p7 x1 x2 x3 a4 0 0))) ((need (∀ x ∈ x3, x < D)).bind fun c6_0 => some (.inr (digs D (num D x3))))

noncomputable def ref01_mul_p7' (x1 : List Nat) (x2 : List Nat) (x3 : List Nat) (a4 : Int) (a5 : Int) (a6 : Int) : Option (ref01_mul_St ⊕ ref01_mul_Res) :=
  cond (decide (a6 < (List.length x2 : Int))) ((inI (List.length x3) (IntKind.wrap .i64 (a4 + a6))).bind fun j8 => (atI x1 a4).bind fun y9 => (atI x2 a6).bind fun y10 => (inI (List.length x3) (IntKind.wrap .i64 (a4 + a6))).bind fun j11 => (u64P (Int.tmod (IntKind.wrap .u64 ((IntKind.wrap .u64 ((((List.getD x3 j8 0 : Nat) : Int)) + (IntKind.wrap .u64 (((y9 : Int)) * ((y10 : Int)))))) + a5)) 65536)).bind fun w12 => some (.inl (.p7 x1 x2 (List.set x3 j11 w12) a4 (IntKind.wrap .u64 (Int.tdiv (IntKind.wrap .u64 ((IntKind.wrap .u64 ((((List.getD x3 j8 0 : Nat) : Int)) + (IntKind.wrap .u64 (((y9 : Int)) * ((y10 : Int)))))) + a5)) 65536)) (IntKind.wrap .i64 (a6 + 1))))) ((inI (List.length x3) (IntKind.wrap .i64 (a4 + (List.length x2 : Int)))).bind fun j8 => (u64P a5).bind fun w9 => some (.inl (.p3 x1 x2 (List.set x3 j8 w9) (IntKind.wrap .i64 (a4 + 1)))))

noncomputable def ref01_mul_step : ref01_mul_St → Option (ref01_mul_St ⊕ ref01_mul_Res)
  | .fn x1 x2 => ref01_mul_fn' x1 x2
  | .p3 x1 x2 x3 a4 => ref01_mul_p3' x1 x2 x3 a4
  | .p7 x1 x2 x3 a4 a5 a6 => ref01_mul_p7' x1 x2 x3 a4 a5 a6

@[reducible] def ref01_mul_post (h0 : AH) (r : ref01_mul_Res) (v : AV) (h' : AH) : Prop := ∃ s1 : Sl, v = s1.v ∧ Nats h' s1 r ∧ Grow h0 h' ∧ Own h0 s1

def ref01_mul_At (r : ref01_mul_Res) : ref01_mul_St → Prop
  | .fn x1 x2 => ∀ {h : AH} {a1 : Sl} {a2 : Sl}, Nats h a1 x1 → Nats h a2 x2 → Runs (go (.fn F.ref01_mul [a1.v, a2.v]) h) (ref01_mul_post h r)
  | .p3 x1 x2 x3 a4 => ∀ {h0 h : AH} {a1 : Sl} {a2 : Sl} {a3 : Sl} {i3 : Nat}, Grow h0 h → Nats h a1 x1 → Nats h a2 x2 → Vec h a3 i3 x3 → h0.blks.size ≤ i3 → Av a1 i3 x1 → Av a2 i3 x2 → Runs (go (.pt F.ref01_mul Td.ref01_mul_3 [(0, a1.v), (1, a2.v), (5, a3.v), (6, .int .i64 a4)]) h) (ref01_mul_post h0 r)
  | .p7 x1 x2 x3 a4 a5 a6 => ∀ {h0 h : AH} {a1 : Sl} {a2 : Sl} {a3 : Sl} {i3 : Nat}, Grow h0 h → Nats h a1 x1 → Nats h a2 x2 → Vec h a3 i3 x3 → h0.blks.size ≤ i3 → Av a1 i3 x1 → Av a2 i3 x2 → Runs (go (.pt F.ref01_mul Td.ref01_mul_7 [(0, a1.v), (1, a2.v), (5, a3.v), (6, .int .i64 a4), (7, .int .u64 a5), (8, .int .i64 a6)]) h) (ref01_mul_post h0 r)

theorem ref01_mul_fn_walk {r : ref01_mul_Res} {o : ref01_mul_St ⊕ ref01_mul_Res} {x1 : List Nat} {x2 : List Nat} (e : ref01_mul_fn' x1 x2 = some o) (good : GoodS (ref01_mul_At r) r o) : ref01_mul_At r (.fn x1 x2) := by
  intro h a1 a2 n1 n2
  rw [u_ref01_mul]
  unfold ref01_mul_fn' at e
  rw [n1.len]
  rw [n2.len]
  obtain ⟨m3, q3, e⟩ := Option.bind_eq_some_iff.1 e
  refine Runs.mk q3 bytes_uint64 fun s3 H3 v3 g3 => ?_
  cases e
  exact good g3 (n1.grow g3) (n2.grow g3) v3 (Nat.le_refl _) (Av.of_base n1 (Nat.le_refl _)) (Av.of_base n2 (Nat.le_refl _))

theorem ref01_mul_p3_walk {r : ref01_mul_Res} {o : ref01_mul_St ⊕ ref01_mul_Res} {x1 : List Nat} {x2 : List Nat} {x3 : List Nat} {a4 : Int} (e : ref01_mul_p3' x1 x2 x3 a4 = some o) (good : GoodS (ref01_mul_At r) r o) : ref01_mul_At r (.p3 x1 x2 x3 a4) := by
  intro h0 h a1 a2 a3 i3 g0 n1 n2 v3 hi3 av1_3 av2_3
  rw [p_ref01_mul_3]
  unfold ref01_mul_p3' at e
  rw [n1.len]
  refine Runs.cond (fun k5 => ?_) (fun k5 => ?_)
  · replace e := (condT k5).symm.trans e
    cases e
    exact good g0 n1 n2 v3 hi3 av1_3 av2_3
  · replace e := (condF k5).symm.trans e
    obtain ⟨c6_0, q6_0, e⟩ := Option.bind_eq_some_iff.1 e
    obtain ⟨s6, e6, n6, o6⟩ := ref01_cut_spec v3.nats  c6_0.down
    refine Runs.step e6 ?_
    refine Runs.step (seen (asSl_v _)) ?_
    cases e
    cases good
    exact Runs.ret ⟨s6, rfl, n6, g0, ((o6 _ (v3.own hi3)).of_le (Grow.refl _))⟩

theorem ref01_mul_p7_walk {r : ref01_mul_Res} {o : ref01_mul_St ⊕ ref01_mul_Res} {x1 : List Nat} {x2 : List Nat} {x3 : List Nat} {a4 : Int} {a5 : Int} {a6 : Int} (e : ref01_mul_p7' x1 x2 x3 a4 a5 a6 = some o) (good : GoodS (ref01_mul_At r) r o) : ref01_mul_At r (.p7 x1 x2 x3 a4 a5 a6) := by
  intro h0 h a1 a2 a3 i3 g0 n1 n2 v3 hi3 av1_3 av2_3
  rw [p_ref01_mul_7]
  unfold ref01_mul_p7' at e
  rw [n1.len]
  rw [n2.len]
  rw [v3.nats.len]
  refine Runs.cond (fun k7 => ?_) (fun k7 => ?_)
  · replace e := (condT k7).symm.trans e
    obtain ⟨j8, q8, e⟩ := Option.bind_eq_some_iff.1 e
    refine Runs.step (v3.idx rfl q8) ?_
    refine Runs.step (v3.rd rfl q8 (avInt_int _ _)) ?_
    obtain ⟨y9, q9, e⟩ := Option.bind_eq_some_iff.1 e
    obtain ⟨r9, j9, l9⟩ := n1.atI q9
    refine Runs.step j9 ?_
    refine Runs.step (rdc l9 (avInt_int _ _)) ?_
    obtain ⟨y10, q10, e⟩ := Option.bind_eq_some_iff.1 e
    obtain ⟨r10, j10, l10⟩ := n2.atI q10
    refine Runs.step j10 ?_
    refine Runs.step (rdc l10 (avInt_int _ _)) ?_
    obtain ⟨j11, q11, e⟩ := Option.bind_eq_some_iff.1 e
    refine Runs.step (v3.idx rfl q11) ?_
    obtain ⟨w12, z12, e⟩ := Option.bind_eq_some_iff.1 e
    refine Runs.vput v3 rfl q11 z12 fun H12 v12 u12 => ?_
    have n1_12 := n1.upda av1_3 u12
    have n2_12 := n2.upda av2_3 u12
    cases e
    exact good (g0.updr hi3 u12) n1_12 n2_12 v12 hi3 av1_3 av2_3
  · replace e := (condF k7).symm.trans e
    obtain ⟨j8, q8, e⟩ := Option.bind_eq_some_iff.1 e
    refine Runs.step (v3.idx rfl q8) ?_
    obtain ⟨w9, z9, e⟩ := Option.bind_eq_some_iff.1 e
    refine Runs.vput v3 rfl q8 z9 fun H9 v9 u9 => ?_
    have n1_9 := n1.upda av1_3 u9
    have n2_9 := n2.upda av2_3 u9
    cases e
    exact good (g0.updr hi3 u9) n1_9 n2_9 v9 hi3 av1_3 av2_3

theorem ref01_mul_run {s : ref01_mul_St} {r : ref01_mul_Res} (it : Iter ref01_mul_step s r) : ref01_mul_At r s := Iter.ind (fun s o e good => by
  cases s with
  | fn x1 x2 => exact @ref01_mul_fn_walk _ _ x1 x2 e good
  | p3 x1 x2 x3 a4 => exact @ref01_mul_p3_walk _ _ x1 x2 x3 a4 e good
  | p7 x1 x2 x3 a4 a5 a6 => exact @ref01_mul_p7_walk _ _ x1 x2 x3 a4 a5 a6 e good
  ) it

theorem ref01_mul_opt {h : AH} {a1 : Sl} {a2 : Sl} {x1 : List Nat} {x2 : List Nat} (n1 : Nats h a1 x1) (n2 : Nats h a2 x2) {r : ref01_mul_Res} (q : runP ref01_mul_step (.fn x1 x2) = some r) : Runs (go (.fn F.ref01_mul [a1.v, a2.v]) h) (ref01_mul_post h r) := ref01_mul_run (runP_iter q) n1 n2

end Go.Ab

/- Layer 1: what the document's product answers. -/
set_option linter.unusedVariables false
set_option linter.unusedSimpArgs false
set_option maxRecDepth 10000
namespace Go.Ab
open Go.Proofs Go.Num

theorem tmodD (n : Nat) : Int.tmod (n : Int) 65536 = ((n % 65536 : Nat) : Int) := rfl
theorem tdivD (n : Nat) : Int.tdiv (n : Int) 65536 = ((n / 65536 : Nat) : Int) := rfl

theorem wrap_low {n : Nat} (h : n < 18446744073709551616) : IntKind.wrap .u64 (n : Int) = (n : Int) := by
  rw [wrapU]
  omega

theorem mulD_row {xs ys : List Nat} {r : ref01_mul_Res} {i T : Nat} (lx : ∀ x ∈ xs, x < D) (ly : ∀ y ∈ ys, y < D) (hn : xs.length + ys.length ≤ 8796093022208) (hi : i < xs.length)
    (K : ∀ o : List Nat, o.length = xs.length + ys.length → (∀ y ∈ o, y < D) → Empty o (i + 1 + ys.length) → num D o = T + D ^ i * (xs[i] * num D ys) → Iter ref01_mul_step (.p3 xs ys o ((i + 1 : Nat) : Int)) r) :
    ∀ (d k : Nat), k + d = ys.length → ∀ (o : List Nat) (c : Nat), o.length = xs.length + ys.length → (∀ y ∈ o, y < D) → Empty o (i + ys.length) → c < D → Row D o i k c xs[i] ys T →
      Iter ref01_mul_step (.p7 xs ys o (i : Int) (c : Int) (k : Int)) r
  | 0, k, hk, o, c, lo, to, zo, hc, row => by
    have hk : k = ys.length := by omega
    subst hk
    have hj : i + ys.length < o.length := by omega
    have hc' : c < 65536 := hc
    refine .next ?_ (K (o.set (i + ys.length) c) (by simpa using lo) (set_lt to hc) ?_ ?_)
    · show ref01_mul_p7' _ _ _ _ _ _ = _
      unfold ref01_mul_p7'
      rw [condF (by rw [decide_eq_false_iff_not]; omega), ← Int.natCast_add, wrap_nat (by omega), inI_nat hj, Option.bind_some, u64P_nat (by omega), Option.bind_some, wrap_succ (by omega)]
    · rw [show i + 1 + ys.length = i + ys.length + 1 from by omega]
      intro j h1 h2
      rw [List.getElem_set_ne (by omega)]
      exact zo j (by simpa using h1) (by omega)
    · exact row.stop hj (zo _ hj (Nat.le_refl _))
  | d + 1, k, hk, o, c, lo, to, zo, hc, row => by
    have hk' : k < ys.length := by omega
    have hj : i + k < o.length := by omega
    have hx := lx xs[i] (List.getElem_mem _)
    have hy := ly ys[k] (List.getElem_mem _)
    have ho := to o[i + k] (List.getElem_mem _)
    have hc' := carry_lt hx hy ho hc
    have hl := Nat.mod_lt (xs[i] * ys[k] + o[i + k] + c) (show 0 < 65536 by omega)
    refine .next ?_ (mulD_row lx ly hn hi K d (k + 1) (by omega) (o.set (i + k) ((xs[i] * ys[k] + o[i + k] + c) % 65536)) ((xs[i] * ys[k] + o[i + k] + c) / 65536) (by simpa using lo) (set_lt to hl) (zo.set (by omega)) hc' (row.step hk' hj (Nat.div_add_mod' _ _).symm))
    · show ref01_mul_p7' _ _ _ _ _ _ = _
      unfold ref01_mul_p7'
      have hp : xs[i] * ys[k] ≤ 65535 * 65535 := Nat.mul_le_mul (by have : xs[i] < 65536 := hx; omega) (by have : ys[k] < 65536 := hy; omega)
      have ho' : o[i + k] < 65536 := ho
      have hc'' : c < 65536 := hc
      have e1 : IntKind.wrap .u64 (IntKind.wrap .u64 (((List.getD o (i + k) 0 : Nat) : Int) + IntKind.wrap .u64 ((xs[i] : Int) * (ys[k] : Int))) + (c : Int)) = ((xs[i] * ys[k] + o[i + k] + c : Nat) : Int) := by
        rw [show List.getD o (i + k) 0 = o[i + k] from getD_lt hj, ← Int.natCast_mul]
        generalize xs[i] * ys[k] = t at *
        generalize o[i + k] = w at *
        rw [wrap_low (n := t) (by omega), ← Int.natCast_add, wrap_low (by omega), ← Int.natCast_add, wrap_low (by omega)]
        omega
      rw [condT (by rw [decide_eq_true_eq]; omega), ← Int.natCast_add, wrap_nat (by omega), inI_nat hj, Option.bind_some, atI_nat hi, Option.bind_some, atI_nat hk', Option.bind_some, Option.bind_some, e1, tmodD, tdivD, u64P_nat (by omega), Option.bind_some, wrap_succ (by omega), wrap_low]
      have : (xs[i] * ys[k] + o[i + k] + c) / 65536 < 65536 := hc'
      omega

theorem mulD_rows {xs ys : List Nat} (lx : ∀ x ∈ xs, x < D) (ly : ∀ y ∈ ys, y < D) (hn : xs.length + ys.length ≤ 8796093022208) :
    ∀ (d i : Nat), i + d = xs.length → ∀ (o : List Nat), o.length = xs.length + ys.length → (∀ y ∈ o, y < D) → Empty o (i + ys.length) → num D o = num D (xs.take i) * num D ys →
      Iter ref01_mul_step (.p3 xs ys o (i : Int)) (digs D (num D xs * num D ys))
  | 0, i, hi, o, lo, to, zo, e => by
    have hi : i = xs.length := by omega
    subst hi
    rw [List.take_length] at e
    refine .done ?_
    show ref01_mul_p3' _ _ _ _ = _
    unfold ref01_mul_p3'
    rw [condF (by rw [decide_eq_false_iff_not]; omega), need_of to, Option.bind_some, e]
  | d + 1, i, hi, o, lo, to, zo, e => by
    have hi' : i < xs.length := by omega
    refine .next (s' := .p7 xs ys o (i : Int) ((0 : Nat) : Int) ((0 : Nat) : Int)) ?_
      (mulD_row (T := num D (xs.take i) * num D ys) lx ly hn hi' (fun o' l' t' z' e' => ?_) ys.length 0 (by omega) o 0 lo to zo (show 0 < 65536 by omega) (Row.start e))
    · show ref01_mul_p3' _ _ _ _ = _
      unfold ref01_mul_p3'
      rw [condT (by rw [decide_eq_true_eq]; omega)]
      rfl
    · refine mulD_rows lx ly hn d (i + 1) (by omega) o' l' t' z' ?_
      rw [e', rows_step hi' rfl]

theorem ref01_mul_iter {xs ys : List Nat} (lx : ∀ x ∈ xs, x < D) (ly : ∀ y ∈ ys, y < D) (hn : xs.length + ys.length ≤ 8796093022208) : Iter ref01_mul_step (.fn xs ys) (digs D (num D xs * num D ys)) := by
  have z : ∀ k, Empty (List.replicate (xs.length + ys.length) 0) k := fun k j hj _ => by simp
  refine .next (s' := .p3 xs ys (List.replicate (xs.length + ys.length) 0) ((0 : Nat) : Int)) ?_ (mulD_rows lx ly hn xs.length 0 (by omega) _ (by simp) ?_ (z _) ?_)
  · show ref01_mul_fn' _ _ = _
    unfold ref01_mul_fn'
    rw [← Int.natCast_add, wrap_nat (by omega), mkI_nat hn, Option.bind_some]
    rfl
  · intro y hy
    rw [List.eq_of_mem_replicate hy]
    exact show 0 < 65536 by omega
  · have := num_noughts D [] (xs.length + ys.length)
    simpa [num] using this

theorem ref01_mul_spec {h : AH} {s t : Sl} {xs ys : List Nat} (n : Nats h s xs) (m : Nats h t ys) (lx : ∀ x ∈ xs, x < D) (ly : ∀ y ∈ ys, y < D) (hn : xs.length + ys.length ≤ 8796093022208) : ∃ (s' : Sl) (h' : AH), go (.fn F.ref01_mul [s.v, t.v]) h = some (s'.v, h') ∧ Nats h' s' (digs D (num D xs * num D ys)) ∧ Grow h h' ∧ Own h s' := by
  obtain ⟨_, h', e, s', rfl, n', g, o⟩ := ref01_mul_run (ref01_mul_iter lx ly hn) n m
  exact ⟨s', h', e, n', g, o⟩

end Go.Ab

/- Layer 1: into: printed by wip/tools/walk.py. -/
set_option linter.unusedVariables false
set_option linter.unusedSimpArgs false
set_option maxRecDepth 10000
namespace Go.Ab
open Go.Proofs Go.Num

inductive nat_into_St
  | fn (x1 : List Nat) (x2 : List Nat) (a3 : Int)
  | p2 (x1 : List Nat) (x2 : List Nat) (a3 : Int) (a4 : Int) (a5 : Int)

abbrev nat_into_Res := List Nat

noncomputable def nat_into_fn' (x1 : List Nat) (x2 : List Nat) (a3 : Int) : Option (nat_into_St ⊕ nat_into_Res) :=
  some (.inl (.p2 x1 x2 a3 0 a3))

noncomputable def nat_into_p2' (x1 : List Nat) (x2 : List Nat) (a3 : Int) (a4 : Int) (a5 : Int) : Option (nat_into_St ⊕ nat_into_Res) :=
  cond (decide (a5 < (List.length x1 : Int))) (cond (decide ((IntKind.wrap .i64 (a5 - a3)) < (List.length x2 : Int))) (cond (decide ((IntKind.wrap .i64 (a5 - a3)) < (List.length x2 : Int))) ((atI x2 (IntKind.wrap .i64 (a5 - a3))).bind fun y9 => (inI (List.length x1) a5).bind fun j10 => (add64P (((List.getD x1 j10 0 : Nat) : Int)) ((y9 : Int)) a4).bind fun p11 => (inI (List.length x1) a5).bind fun j12 => (u64P (p11.1)).bind fun w13 => some (.inl (.p2 (List.set x1 j12 w13) x2 a3 (p11.2) (IntKind.wrap .i64 (a5 + 1))))) ((inI (List.length x1) a5).bind fun j9 => (add64P (((List.getD x1 j9 0 : Nat) : Int)) 0 a4).bind fun p10 => (inI (List.length x1) a5).bind fun j11 => (u64P (p10.1)).bind fun w12 => some (.inl (.p2 (List.set x1 j11 w12) x2 a3 (p10.2) (IntKind.wrap .i64 (a5 + 1)))))) (cond (decide (a4 > 0)) (cond (decide ((IntKind.wrap .i64 (a5 - a3)) < (List.length x2 : Int))) ((atI x2 (IntKind.wrap .i64 (a5 - a3))).bind fun y10 => (inI (List.length x1) a5).bind fun j11 => (add64P (((List.getD x1 j11 0 : Nat) : Int)) ((y10 : Int)) a4).bind fun p12 => (inI (List.length x1) a5).bind fun j13 => (u64P (p12.1)).bind fun w14 => some (.inl (.p2 (List.set x1 j13 w14) x2 a3 (p12.2) (IntKind.wrap .i64 (a5 + 1))))) ((inI (List.length x1) a5).bind fun j10 => (add64P (((List.getD x1 j10 0 : Nat) : Int)) 0 a4).bind fun p11 => (inI (List.length x1) a5).bind fun j12 => (u64P (p11.1)).bind fun w13 => some (.inl (.p2 (List.set x1 j12 w13) x2 a3 (p11.2) (IntKind.wrap .i64 (a5 + 1)))))) (some (.inr x1)))) (some (.inr x1))

noncomputable def nat_into_step : nat_into_St → Option (nat_into_St ⊕ nat_into_Res)
  | .fn x1 x2 a3 => nat_into_fn' x1 x2 a3
  | .p2 x1 x2 a3 a4 a5 => nat_into_p2' x1 x2 a3 a4 a5

@[reducible] def nat_into_post (h0 : AH) (a : Sl) (i : Nat) (r : nat_into_Res) (v : AV) (h' : AH) : Prop := v = .tup [] ∧ Vec h' a i r ∧ Upd h0 h' i

def nat_into_At (r : nat_into_Res) : nat_into_St → Prop
  | .fn x1 x2 a3 => ∀ {h : AH} {a1 : Sl} {a2 : Sl} {i1 : Nat}, Vec h a1 i1 x1 → Nats h a2 x2 → Av a2 i1 x2 → Runs (go (.fn F.nat_into [a1.v, a2.v, .int .i64 a3]) h) (nat_into_post h a1 i1 r)
  | .p2 x1 x2 a3 a4 a5 => ∀ {h0 h : AH} {a1 : Sl} {a2 : Sl} {i1 : Nat}, Upd h0 h i1 → Vec h a1 i1 x1 → Nats h a2 x2 → Av a2 i1 x2 → Runs (go (.pt F.nat_into Td.nat_into_2 [(0, a1.v), (1, a2.v), (2, .int .i64 a3), (6, .int .u64 a4), (7, .int .i64 a5)]) h) (nat_into_post h0 a1 i1 r)

theorem nat_into_fn_walk {r : nat_into_Res} {o : nat_into_St ⊕ nat_into_Res} {x1 : List Nat} {x2 : List Nat} {a3 : Int} (e : nat_into_fn' x1 x2 a3 = some o) (good : GoodS (nat_into_At r) r o) : nat_into_At r (.fn x1 x2 a3) := by
  intro h a1 a2 i1 v1 n2 av2_1
  rw [u_nat_into]
  unfold nat_into_fn' at e
  cases e
  exact good ((Grow.refl _).toUpd _) v1 n2 av2_1

theorem nat_into_p2_walk {r : nat_into_Res} {o : nat_into_St ⊕ nat_into_Res} {x1 : List Nat} {x2 : List Nat} {a3 : Int} {a4 : Int} {a5 : Int} (e : nat_into_p2' x1 x2 a3 a4 a5 = some o) (good : GoodS (nat_into_At r) r o) : nat_into_At r (.p2 x1 x2 a3 a4 a5) := by
  intro h0 h a1 a2 i1 g0 v1 n2 av2_1
  rw [p_nat_into_2]
  unfold nat_into_p2' at e
  rw [v1.nats.len]
  rw [n2.len]
  refine Runs.cond (fun k6 => ?_) (fun k6 => ?_)
  · replace e := (condT k6).symm.trans e
    refine Runs.cond (fun k7 => ?_) (fun k7 => ?_)
    · replace e := (condT k7).symm.trans e
      refine Runs.cond (fun k8 => ?_) (fun k8 => ?_)
      · replace e := (condT k8).symm.trans e
        obtain ⟨y9, q9, e⟩ := Option.bind_eq_some_iff.1 e
        obtain ⟨r9, j9, l9⟩ := n2.atI q9
        refine Runs.step j9 ?_
        refine Runs.step (rdc l9 (avInt_int _ _)) ?_
        obtain ⟨j10, q10, e⟩ := Option.bind_eq_some_iff.1 e
        refine Runs.step (v1.idx rfl q10) ?_
        refine Runs.step (v1.rd rfl q10 (avInt_int _ _)) ?_
        obtain ⟨p11, q11, e⟩ := Option.bind_eq_some_iff.1 e
        refine Runs.step (prim_add64 q11) ?_
        refine Runs.step rfl ?_
        refine Runs.step (seen (avInt_int _ _)) ?_
        refine Runs.step (seen (avInt_int _ _)) ?_
        obtain ⟨j12, q12, e⟩ := Option.bind_eq_some_iff.1 e
        refine Runs.step (v1.idx rfl q12) ?_
        obtain ⟨w13, z13, e⟩ := Option.bind_eq_some_iff.1 e
        refine Runs.vput v1 rfl q12 z13 fun H13 v13 u13 => ?_
        have n2_13 := n2.upda av2_1 u13
        cases e
        exact good (g0.trans u13) v13 n2_13 av2_1
      · replace e := (condF k8).symm.trans e
        obtain ⟨j9, q9, e⟩ := Option.bind_eq_some_iff.1 e
        refine Runs.step (v1.idx rfl q9) ?_
        refine Runs.step (v1.rd rfl q9 (avInt_int _ _)) ?_
        obtain ⟨p10, q10, e⟩ := Option.bind_eq_some_iff.1 e
        refine Runs.step (prim_add64 q10) ?_
        refine Runs.step rfl ?_
        refine Runs.step (seen (avInt_int _ _)) ?_
        refine Runs.step (seen (avInt_int _ _)) ?_
        obtain ⟨j11, q11, e⟩ := Option.bind_eq_some_iff.1 e
        refine Runs.step (v1.idx rfl q11) ?_
        obtain ⟨w12, z12, e⟩ := Option.bind_eq_some_iff.1 e
        refine Runs.vput v1 rfl q11 z12 fun H12 v12 u12 => ?_
        have n2_12 := n2.upda av2_1 u12
        cases e
        exact good (g0.trans u12) v12 n2_12 av2_1
    · replace e := (condF k7).symm.trans e
      refine Runs.cond (fun k8 => ?_) (fun k8 => ?_)
      · replace e := (condT k8).symm.trans e
        refine Runs.cond (fun k9 => ?_) (fun k9 => ?_)
        · replace e := (condT k9).symm.trans e
          obtain ⟨y10, q10, e⟩ := Option.bind_eq_some_iff.1 e
          obtain ⟨r10, j10, l10⟩ := n2.atI q10
          refine Runs.step j10 ?_
          refine Runs.step (rdc l10 (avInt_int _ _)) ?_
          obtain ⟨j11, q11, e⟩ := Option.bind_eq_some_iff.1 e
          refine Runs.step (v1.idx rfl q11) ?_
          refine Runs.step (v1.rd rfl q11 (avInt_int _ _)) ?_
          obtain ⟨p12, q12, e⟩ := Option.bind_eq_some_iff.1 e
          refine Runs.step (prim_add64 q12) ?_
          refine Runs.step rfl ?_
          refine Runs.step (seen (avInt_int _ _)) ?_
          refine Runs.step (seen (avInt_int _ _)) ?_
          obtain ⟨j13, q13, e⟩ := Option.bind_eq_some_iff.1 e
          refine Runs.step (v1.idx rfl q13) ?_
          obtain ⟨w14, z14, e⟩ := Option.bind_eq_some_iff.1 e
          refine Runs.vput v1 rfl q13 z14 fun H14 v14 u14 => ?_
          have n2_14 := n2.upda av2_1 u14
          cases e
          exact good (g0.trans u14) v14 n2_14 av2_1
        · replace e := (condF k9).symm.trans e
          obtain ⟨j10, q10, e⟩ := Option.bind_eq_some_iff.1 e
          refine Runs.step (v1.idx rfl q10) ?_
          refine Runs.step (v1.rd rfl q10 (avInt_int _ _)) ?_
          obtain ⟨p11, q11, e⟩ := Option.bind_eq_some_iff.1 e
          refine Runs.step (prim_add64 q11) ?_
          refine Runs.step rfl ?_
          refine Runs.step (seen (avInt_int _ _)) ?_
          refine Runs.step (seen (avInt_int _ _)) ?_
          obtain ⟨j12, q12, e⟩ := Option.bind_eq_some_iff.1 e
          refine Runs.step (v1.idx rfl q12) ?_
          obtain ⟨w13, z13, e⟩ := Option.bind_eq_some_iff.1 e
          refine Runs.vput v1 rfl q12 z13 fun H13 v13 u13 => ?_
          have n2_13 := n2.upda av2_1 u13
          cases e
          exact good (g0.trans u13) v13 n2_13 av2_1
      · replace e := (condF k8).symm.trans e
        cases e
        cases good
        exact Runs.ret ⟨rfl, v1, g0⟩
  · replace e := (condF k6).symm.trans e
    cases e
    cases good
    exact Runs.ret ⟨rfl, v1, g0⟩

theorem nat_into_run {s : nat_into_St} {r : nat_into_Res} (it : Iter nat_into_step s r) : nat_into_At r s := Iter.ind (fun s o e good => by
  cases s with
  | fn x1 x2 a3 => exact @nat_into_fn_walk _ _ x1 x2 a3 e good
  | p2 x1 x2 a3 a4 a5 => exact @nat_into_p2_walk _ _ x1 x2 a3 a4 a5 e good
  ) it

end Go.Ab

/- Layer 1: what 'into' answers. -/
set_option linter.unusedVariables false
set_option linter.unusedSimpArgs false
set_option maxRecDepth 10000
namespace Go.Ab
open Go.Proofs Go.Num

theorem getD_of {xs : List Nat} {i : Nat} (h : i < xs.length) : List.getD xs i 0 = xs[i] := getD_lt h

theorem into_step {o xs : List Nat} {at' i c : Nat} (ho : o.length ≤ 4611686018427387904) (hx : xs.length ≤ 4611686018427387904) (h1 : i < o.length) (h2 : at' ≤ i) (hc : c ≤ 1) (hs : i - at' < xs.length ∨ 0 < c) :
    nat_into_step (.p2 o xs (at' : Int) (c : Int) (i : Int)) = some (.inl (.p2 (o.set i ((xs.getD (i - at') 0 + o[i] + c) % 18446744073709551616)) xs (at' : Int) (((xs.getD (i - at') 0 + o[i] + c) / 18446744073709551616 : Nat) : Int) ((i + 1 : Nat) : Int))) := by
  show nat_into_p2' _ _ _ _ _ = _
  unfold nat_into_p2'
  have e0 : IntKind.wrap .i64 ((i : Int) - (at' : Int)) = ((i - at' : Nat) : Int) := by rw [wrap64 (by omega) (by omega)]; omega
  have hm : ∀ n : Nat, n % 18446744073709551616 < 18446744073709551616 := fun n => Nat.mod_lt n (by omega)
  rw [condT (by rw [decide_eq_true_eq]; omega), e0]
  by_cases hk : i - at' < xs.length
  · have a1 := add64P_nat o[i] xs[i - at'] hc
    rw [condT (by rw [decide_eq_true_eq]; omega), condT (by rw [decide_eq_true_eq]; omega), atI_nat hk, Option.bind_some, inI_nat h1, Option.bind_some, getD_of h1, a1, Option.bind_some, Option.bind_some]
    dsimp only
    rw [u64P_nat (hm _), Option.bind_some, wrap_succ (by omega), getD_of hk, Nat.add_comm o[i]]
  · have hc' : 0 < c := by omega
    have a1 := add64P_nat o[i] 0 hc
    rw [show ((0 : Nat) : Int) = 0 from rfl] at a1
    rw [condF (by rw [decide_eq_false_iff_not]; omega), condT (by rw [decide_eq_true_eq]; omega), condF (by rw [decide_eq_false_iff_not]; omega), inI_nat h1, Option.bind_some, getD_of h1, a1, Option.bind_some, Option.bind_some]
    dsimp only
    rw [u64P_nat (hm _), Option.bind_some, wrap_succ (by omega), show xs.getD (i - at') 0 = 0 from by simp [List.getD, List.getElem?_eq_none (Nat.le_of_not_lt hk)]]
    rw [Nat.add_comm o[i]]

theorem into_loop {xs : List Nat} {at' T : Nat} (lx : ∀ x ∈ xs, x < B) (hx : xs.length ≤ 4611686018427387904) :
    ∀ (d i : Nat) (o : List Nat) (c : Nat), i + d = o.length → at' ≤ i → o.length ≤ 4611686018427387904 → (∀ y ∈ o, y < B) → c ≤ 1 → num B o + c * B ^ i = T + B ^ at' * num B (xs.take (i - at')) → T + B ^ at' * num B xs < B ^ o.length →
      ∃ r, Iter nat_into_step (.p2 o xs (at' : Int) (c : Int) (i : Int)) r ∧ r.length = o.length ∧ (∀ y ∈ r, y < B) ∧ num B r = T + B ^ at' * num B xs
  | 0, i, o, c, hi, hat, ho, to, hc, inv, bound => by
    have hi : i = o.length := by omega
    subst hi
    have hxs : num B xs = num B (xs.take (o.length - at')) + B ^ (xs.take (o.length - at')).length * num B (xs.drop (o.length - at')) := by
      rw [← num_append, List.take_append_drop]
    have hc0 : c = 0 := by
      rcases Nat.eq_zero_or_pos c with e | e
      · exact e
      · have : c = 1 := by omega
        subst this
        have : B ^ at' * num B (xs.take (o.length - at')) ≤ B ^ at' * num B xs := Nat.mul_le_mul_left _ (by omega)
        omega
    subst hc0
    have hd : num B (xs.take (o.length - at')) = num B xs := by
      by_cases hl : xs.length ≤ o.length - at'
      · rw [List.take_of_length_le hl]
      · rw [List.length_take, Nat.min_eq_left (by omega)] at hxs
        rw [hxs]
        rcases Nat.eq_zero_or_pos (num B (xs.drop (o.length - at'))) with e | e
        · rw [e]; omega
        · exfalso
          have h1 : B ^ (o.length - at') ≤ num B xs := by
            have : B ^ (o.length - at') * 1 ≤ B ^ (o.length - at') * num B (xs.drop (o.length - at')) := Nat.mul_le_mul_left _ e
            omega
          have h2 : B ^ at' * B ^ (o.length - at') ≤ B ^ at' * num B xs := Nat.mul_le_mul_left _ h1
          rw [← Nat.pow_add, show at' + (o.length - at') = o.length from by omega] at h2
          omega
    refine ⟨o, .done ?_, rfl, to, ?_⟩
    · show nat_into_p2' _ _ _ _ _ = _
      unfold nat_into_p2'
      rw [condF (by rw [decide_eq_false_iff_not]; omega)]
    · rw [← hd]
      omega
  | d + 1, i, o, c, hi, hat, ho, to, hc, inv, bound => by
    have h1 : i < o.length := by omega
    by_cases hs : i - at' < xs.length ∨ 0 < c
    · have hm := Nat.mod_lt (xs.getD (i - at') 0 + o[i] + c) (show 0 < 18446744073709551616 by omega)
      have hy : xs.getD (i - at') 0 < 18446744073709551616 := by
        by_cases hk : i - at' < xs.length
        · rw [getD_of hk]; exact lx _ (List.getElem_mem _)
        · rw [show xs.getD (i - at') 0 = 0 from by simp [List.getD, List.getElem?_eq_none (Nat.le_of_not_lt hk)]]
          omega
      have hoi : o[i] < 18446744073709551616 := to _ (List.getElem_mem _)
      obtain ⟨r, it, r1, r2, r3⟩ := into_loop (T := T) (at' := at') lx hx d (i + 1) (o.set i ((xs.getD (i - at') 0 + o[i] + c) % 18446744073709551616)) ((xs.getD (i - at') 0 + o[i] + c) / 18446744073709551616) (by simp; omega) (by omega) (by simpa using ho) (set_lt to hm) (by omega) (by
        have k1 := num_set (b := B) h1 ((xs.getD (i - at') 0 + o[i] + c) % 18446744073709551616)
        have k2 := row_alg k1 (Nat.div_add_mod' (xs.getD (i - at') 0 + o[i] + c) 18446744073709551616).symm inv
        rw [Nat.pow_succ, k2, show i + 1 - at' = i - at' + 1 from by omega, num_take_getD, Nat.mul_add, ← Nat.mul_assoc, ← Nat.pow_add, show at' + (i - at') = i from by omega]
        omega) (by simpa using bound)
      exact ⟨r, .next (into_step ho hx h1 hat hc hs) it, by simpa using r1, r2, r3⟩
    · have hc0 : c = 0 := by omega
      subst hc0
      rw [List.take_of_length_le (by omega)] at inv
      refine ⟨o, .done ?_, rfl, to, by omega⟩
      show nat_into_p2' _ _ _ _ _ = _
      unfold nat_into_p2'
      have e0 : IntKind.wrap .i64 ((i : Int) - (at' : Int)) = ((i - at' : Nat) : Int) := by rw [wrap64 (by omega) (by omega)]; omega
      rw [condT (by rw [decide_eq_true_eq]; omega), e0, condF (by rw [decide_eq_false_iff_not]; omega), condF (by rw [decide_eq_false_iff_not]; omega)]

theorem nat_into_spec {h : AH} {s t : Sl} {i : Nat} {o xs : List Nat} (v : Vec h s i o) (m : Nats h t xs) (av : Av t i xs) {at' : Nat} (hat : at' ≤ o.length) (ho : o.length ≤ 4611686018427387904) (hx : xs.length ≤ 4611686018427387904) (bound : num B o + B ^ at' * num B xs < B ^ o.length) :
    ∃ (h' : AH) (r : List Nat), go (.fn F.nat_into [s.v, t.v, .int .i64 (at' : Int)]) h = some (.tup [], h') ∧ Vec h' s i r ∧ Upd h h' i ∧ r.length = o.length ∧ num B r = num B o + B ^ at' * num B xs := by
  obtain ⟨r, it, r1, r2, r3⟩ := into_loop (T := num B o) (at' := at') m.lt hx (o.length - at') at' o 0 (by omega) (Nat.le_refl _) ho v.lt (by omega) (by simp [num]) bound
  obtain ⟨_, h', e, rfl, v', u⟩ := nat_into_run (.next (s := .fn o xs (at' : Int)) rfl it) v m av
  exact ⟨h', r, e, v', u, r1, r3⟩

end Go.Ab

/- Layer 1: what the long product is made of. -/
set_option linter.unusedVariables false
set_option linter.unusedSimpArgs false
set_option maxRecDepth 10000
namespace Go.Ab
open Go.Proofs Go.Num

@[reducible] def halvesV (p : Ref) : AV := .func (.func F.nat_product_1) [] [.ptr (some p)]

theorem callV_halves (p : Ref) (x y : AV) (h : AH) : callV Pg go (halvesV p) [x, y] h = go (.fn F.nat_product_1 [x, y, .ptr (some p)]) h := by kernel_rfl

theorem Grow.same_cell {h h' : AH} (g : Grow h h') {p : Ref} {v : AV} (c : h.cell p = some v) : SameAt h h' p 1 := ⟨fun j hj => by
  have : j = 0 := by omega
  subst this
  rw [Ref.add_zero, c, g.cell_some c], fun h => by cases h⟩

theorem copy_vec {h : AH} {s d : Sl} {i : Nat} {xs ys : List Nat} (n : Nats h s xs) (v : Vec h d i ys) (hl : xs.length ≤ ys.length) : ∃ h', copyH s d 1 h = some h' ∧ Vec h' d i (xs ++ ys.drop xs.length) ∧ Upd h h' i := by
  have hd : d.ref = some (.new i 0) := by rw [v.is]
  have hdl : d.len = ys.length := v.len
  have hg := n.cells.gets
  unfold copyH
  rw [hd]
  cases hs : s.ref with
  | none =>
    have : xs = [] := by
      cases xs with
      | nil => rfl
      | cons x xs =>
        obtain ⟨r, e, _⟩ := n.cells.get 0 _ rfl
        rw [hs] at e
        cases e
    subst this
    exact ⟨h, rfl, by simpa using v, (Grow.refl h).toUpd i⟩
  | some r =>
    rw [hs, n.len] at hg
    simp only [AH.getsO] at hg
    dsimp only
    rw [n.len, hdl, Nat.min_eq_left hl, hg, Option.bind_some]
    obtain ⟨e, b⟩ := v.has
    rw [b.puts (by simp; omega)]
    have e1 : (ys.map u64).take 0 ++ xs.map u64 ++ (ys.map u64).drop (0 + (xs.map u64).length) = (xs ++ ys.drop xs.length).map u64 := by
      simp [List.map_drop]
    rw [e1]
    refine ⟨_, rfl, ⟨?_, ⟨e, AH.has_upd b _ _⟩, ?_, ?_⟩, AH.upd_Upd h i _ e⟩
    · have : (xs ++ ys.drop xs.length).length = ys.length := by simp; omega
      rw [this]
      exact v.is
    · intro z hz
      rcases List.mem_append.1 hz with h1 | h1
      · exact n.lt z h1
      · exact v.lt z (List.mem_of_mem_drop h1)
    · have := v.short
      simp
      omega

theorem product_low {h : AH} {s : Sl} {xs : List Nat} {p : Ref} {k : Nat} (n : Nats h s xs) (c : h.cell p = some (.int .i64 (k : Int))) : ∃ s', go (.fn F.nat_product_1_1 [s.v, .ptr (some p)]) h = some (s'.v, h) ∧ Nats h s' (digs B (num B (xs.take (min k xs.length)))) := by
  rw [u_nat_product_1_1, c, Option.bind_some, avInt_int, Option.bind_some, imin_eq, n.len]
  obtain ⟨s1, e1, n1, _⟩ := n.cut (l := 0) (n := min k xs.length) (by omega) (by omega)
  rw [show min (k : Int) (xs.length : Int) = ((min k xs.length : Nat) : Int) from by omega, show (0 : Int) = ((0 : Nat) : Int) from rfl, e1, Option.bind_some]
  obtain ⟨s2, e2, n2, _⟩ := nat_trim_spec n1
  rw [e2, Option.bind_some, Option.bind_some, asSl_v, Option.bind_some]
  exact ⟨s2, rfl, by simpa using n2⟩

theorem product_high {h : AH} {s : Sl} {xs : List Nat} {p : Ref} {k : Nat} (n : Nats h s xs) (c : h.cell p = some (.int .i64 (k : Int))) : ∃ s', go (.fn F.nat_product_1_2 [s.v, .ptr (some p)]) h = some (s'.v, h) ∧ Nats h s' (xs.drop (min k xs.length)) := by
  rw [u_nat_product_1_2, c, Option.bind_some, avInt_int, Option.bind_some, imin_eq, n.len]
  obtain ⟨s1, e1, n1, _⟩ := n.cut (l := min k xs.length) (n := xs.length) (by omega) (by omega)
  rw [show min (k : Int) (xs.length : Int) = ((min k xs.length : Nat) : Int) from by omega, e1, Option.bind_some]
  refine ⟨s1, rfl, ?_⟩
  rwa [List.take_of_length_le (by simp)] at n1

end Go.Ab

/- Layer 1: the long product. -/
set_option linter.unusedVariables false
set_option linter.unusedSimpArgs false
set_option maxRecDepth 10000
namespace Go.Ab
open Go.Proofs Go.Num

theorem B1 : 1 ≤ B := by decide

theorem split_num (b : Nat) (xs : List Nat) (n : Nat) : num b xs = num b (xs.take (min n xs.length)) + b ^ n * num b (xs.drop (min n xs.length)) := by
  have e : num b xs = num b (xs.take (min n xs.length) ++ xs.drop (min n xs.length)) := by rw [List.take_append_drop]
  rw [num_append, List.length_take] at e
  by_cases h : n ≤ xs.length
  · rw [e, show min (min n xs.length) xs.length = n from by omega]
  · have : xs.drop (min n xs.length) = [] := List.drop_of_length_le (by omega)
    rw [this] at e ⊢
    simpa [num] using e

theorem digs_mono {a c : Nat} (h : a ≤ c) : (digs B a).length ≤ (digs B c).length := by
  rw [digs_len B2]
  exact Nat.lt_of_le_of_lt h ((digs_len B2 c _).1 (Nat.le_refl _))

theorem digs_of_len {xs : List Nat} (h : ∀ x ∈ xs, x < B) : (digs B (num B xs)).length ≤ xs.length := by
  rw [digs_len B2]
  exact num_lt B1 h

theorem karatsuba (P al ah bl bh : Nat) : (al + P * ah) * (bl + P * bh) = al * bl + P * ((al + ah) * (bl + bh) - al * bl - ah * bh) + P * P * (ah * bh) := by
  have e : (al + ah) * (bl + bh) - al * bl - ah * bh = al * bh + ah * bl := by
    rw [Nat.add_mul, Nat.mul_add, Nat.mul_add]
    omega
  rw [e, Nat.add_mul, Nat.mul_add, Nat.mul_add, Nat.mul_add]
  have e1 : al * (P * bh) = P * (al * bh) := Nat.mul_left_comm _ _ _
  have e2 : P * ah * bl = P * (ah * bl) := Nat.mul_assoc _ _ _
  have e3 : P * ah * (P * bh) = P * P * (ah * bh) := Nat.mul_mul_mul_comm _ _ _ _
  rw [e1, e2, e3]
  omega

set_option maxHeartbeats 2000000 in
theorem product_1_spec : ∀ (N : Nat) {h : AH} {s t : Sl} {xs ys : List Nat} {p : Ref}, xs.length + ys.length < N → N ≤ 268435456 → Nats h s xs → Nats h t ys → h.cell p = some (halvesV p) →
    Runs (go (.fn F.nat_product_1 [s.v, t.v, .ptr (some p)]) h) fun v h' => ∃ s' : Sl, v = s'.v ∧ Nats h' s' (digs B (num B xs * num B ys)) ∧ Grow h h' ∧ Own h s'
  | 0, _, _, _, _, _, _, hN, _, _, _, _ => by omega
  | N + 1, h, s, t, xs, ys, p, hN, hM, ns, nt, c => by
    rw [u_nat_product_1, ns.len, nt.len]
    refine Runs.cond (fun k1 => ?_) (fun k1 => ?_)
    · obtain ⟨s4, h4, e4, n4, g4, o4⟩ := nat_school_spec ns nt (by omega)
      refine Runs.step e4 ?_
      refine Runs.step (seen (asSl_v _)) ?_
      exact Runs.ret ⟨s4, rfl, n4, g4, o4⟩
    refine Runs.cond (fun k2 => ?_) (fun k2 => ?_)
    · obtain ⟨s4, h4, e4, n4, g4, o4⟩ := nat_school_spec ns nt (by omega)
      refine Runs.step e4 ?_
      refine Runs.step (seen (asSl_v _)) ?_
      exact Runs.ret ⟨s4, rfl, n4, g4, o4⟩
    rw [decide_eq_false_iff_not] at k1 k2
    obtain ⟨n, hn⟩ : ∃ n, n = (max xs.length ys.length + 1) / 2 := ⟨_, rfl⟩
    have hw : IntKind.wrap .i64 (Int.tdiv (IntKind.wrap .i64 ((imax (xs.length : Int) (ys.length : Int)) + 1)) 2) = (n : Int) := by
      rw [imax_eq, show max (xs.length : Int) (ys.length : Int) = ((max xs.length ys.length : Nat) : Int) from by omega, wrap_succ (by omega)]
      show IntKind.wrap .i64 (((max xs.length ys.length + 1) / 2 : Nat) : Int) = _
      rw [← hn, wrap_nat (by omega)]
    rw [hw]
    -- the two halves of each
    have lax : (xs.take (min n xs.length)).length = min n xs.length := by simp
    have lbx : (ys.take (min n ys.length)).length = min n ys.length := by simp
    have tax : ∀ x ∈ xs.take (min n xs.length), x < B := fun x hx => ns.lt x (List.mem_of_mem_take hx)
    have tbx : ∀ x ∈ ys.take (min n ys.length), x < B := fun x hx => nt.lt x (List.mem_of_mem_take hx)
    have tah : ∀ x ∈ xs.drop (min n xs.length), x < B := fun x hx => ns.lt x (List.mem_of_mem_drop hx)
    have tbh : ∀ x ∈ ys.drop (min n ys.length), x < B := fun x hx => nt.lt x (List.mem_of_mem_drop hx)
    have lah : (xs.drop (min n xs.length)).length = xs.length - min n xs.length := by simp
    have lbh : (ys.drop (min n ys.length)).length = ys.length - min n ys.length := by simp
    have da := digs_of_len tax
    have db := digs_of_len tbx
    have dah := digs_of_len tah
    have dbh := digs_of_len tbh
    have ea := split_num B xs n
    have eb := split_num B ys n
    generalize hal : num B (xs.take (min n xs.length)) = al at *
    generalize hah : num B (xs.drop (min n xs.length)) = ah at *
    generalize hbl : num B (ys.take (min n ys.length)) = bl at *
    generalize hbh : num B (ys.drop (min n ys.length)) = bh at *
    -- the box of n
    refine Runs.new fun H8 b8 g8 => ?_
    refine Runs.puts b8 rfl fun H9 b9 u9 => ?_
    have gA := g8.updr (Nat.le_refl _) u9
    have c9 := gA.cell_some c
    have k9 : H9.cell (.new h.blks.size 0) = some (.int .i64 (n : Int)) := b9.cell 0
    have ns9 := ns.grow gA
    have nt9 := nt.grow gA
    refine Runs.step c9 ?_
    refine Runs.step c9 ?_
    obtain ⟨s12, e12, n12⟩ := product_low ns9 k9
    obtain ⟨s14, e14, n14⟩ := product_low nt9 k9
    rw [hal] at n12
    rw [hbl] at n14
    refine Runs.step e12 ?_
    refine Runs.step (seen (asSl_v _)) ?_
    refine Runs.when ((Grow.refl _).same_cell c9) ?_
    refine Runs.when ((Grow.refl _).same_cell c9) ?_
    refine Runs.step e14 ?_
    refine Runs.step (seen (asSl_v _)) ?_
    refine Runs.when ((Grow.refl _).same_cell c9) ?_
    refine Runs.when ((Grow.refl _).same_cell c9) ?_
    obtain ⟨_, H16, e16, s16, rfl, n16, g16, o16⟩ := product_1_spec N (by omega) (by omega) n12 n14 c9
    rw [num_digs B2, num_digs B2] at n16
    refine Runs.step ((callV_halves p _ _ _).trans e16) ?_
    refine Runs.step (seen (asSl_v _)) ?_
    refine Runs.when (g16.same_cell c9) ?_
    have c16 := g16.cell_some c9
    have k16 := g16.cell_some k9
    obtain ⟨s18, e18, n18⟩ := product_high (ns9.grow g16) k16
    obtain ⟨s20, e20, n20⟩ := product_high (nt9.grow g16) k16
    refine Runs.step e18 ?_
    refine Runs.step (seen (asSl_v _)) ?_
    refine Runs.when ((Grow.refl _).same_cell c16) ?_
    refine Runs.step e20 ?_
    refine Runs.step (seen (asSl_v _)) ?_
    refine Runs.when ((Grow.refl _).same_cell c16) ?_
    obtain ⟨_, H22, e22, s22, rfl, n22, g22, o22⟩ := product_1_spec N (by omega) (by omega) n18 n20 c16
    rw [hah, hbh] at n22
    refine Runs.step ((callV_halves p _ _ _).trans e22) ?_
    refine Runs.step (seen (asSl_v _)) ?_
    have c22 := g22.cell_some c16
    have k22 := g22.cell_some k16
    have gB := g16.trans g22
    refine Runs.step c22 ?_
    -- the sums
    obtain ⟨s25, e25, n25⟩ := product_low (ns9.grow gB) k22
    obtain ⟨s27, e27, n27⟩ := product_high (ns9.grow gB) k22
    rw [hal] at n25
    refine Runs.step e25 ?_
    refine Runs.step (seen (asSl_v _)) ?_
    refine Runs.when ((Grow.refl _).same_cell c22) ?_
    refine Runs.step e27 ?_
    refine Runs.step (seen (asSl_v _)) ?_
    refine Runs.when ((Grow.refl _).same_cell c22) ?_
    obtain ⟨s29, H29, zs, e29, n29, g29, o29, v29, l29⟩ := nat_sum_spec n25 n27 (by omega) (by omega)
    rw [num_digs B2, hah] at v29
    refine Runs.step e29 ?_
    refine Runs.step (seen (asSl_v _)) ?_
    refine Runs.when (g29.same_cell c22) ?_
    have c29 := g29.cell_some c22
    have k29 := g29.cell_some k22
    obtain ⟨s31, e31, n31, _⟩ := nat_trim_spec n29
    rw [v29] at n31
    refine Runs.step e31 ?_
    refine Runs.step (seen (asSl_v _)) ?_
    refine Runs.when ((Grow.refl _).same_cell c29) ?_
    obtain ⟨s33, e33, n33⟩ := product_low (nt9.grow (gB.trans g29)) k29
    obtain ⟨s35, e35, n35⟩ := product_high (nt9.grow (gB.trans g29)) k29
    rw [hbl] at n33
    refine Runs.step e33 ?_
    refine Runs.step (seen (asSl_v _)) ?_
    refine Runs.when ((Grow.refl _).same_cell c29) ?_
    refine Runs.step e35 ?_
    refine Runs.step (seen (asSl_v _)) ?_
    refine Runs.when ((Grow.refl _).same_cell c29) ?_
    obtain ⟨s37, H37, ws, e37, n37, g37, o37, v37, l37⟩ := nat_sum_spec n33 n35 (by omega) (by omega)
    rw [num_digs B2, hbh] at v37
    refine Runs.step e37 ?_
    refine Runs.step (seen (asSl_v _)) ?_
    refine Runs.when (g37.same_cell c29) ?_
    have c37 := g37.cell_some c29
    have k37 := g37.cell_some k29
    obtain ⟨s39, e39, n39, _⟩ := nat_trim_spec n37
    rw [v37] at n39
    refine Runs.step e39 ?_
    refine Runs.step (seen (asSl_v _)) ?_
    refine Runs.when ((Grow.refl _).same_cell c37) ?_
    have q1 := digs_add_len B2 al ah
    have q2 := digs_add_len B2 bl bh
    obtain ⟨_, H41, e41, s41, rfl, n41, g41, o41⟩ := product_1_spec N (by omega) (by omega) (n31.grow g37) n39 c37
    rw [num_digs B2, num_digs B2] at n41
    refine Runs.step ((callV_halves p _ _ _).trans e41) ?_
    refine Runs.step (seen (asSl_v _)) ?_
    -- the differences
    have mm : al * bl + ah * bh ≤ (al + ah) * (bl + bh) := by
      rw [Nat.add_mul, Nat.mul_add, Nat.mul_add]
      omega
    have gC := g22.trans (g29.trans (g37.trans g41))
    have lm : (digs B ((al + ah) * (bl + bh))).length ≤ 2 * n + 2 := by
      rw [digs_len B2]
      have h1 := (digs_len B2 (al + ah) (n + 1)).1 (by omega)
      have h2 := (digs_len B2 (bl + bh) (n + 1)).1 (by omega)
      rw [show 2 * n + 2 = (n + 1) + (n + 1) from by omega, Nat.pow_add]
      exact Nat.mul_lt_mul_of_lt_of_lt h1 h2
    obtain ⟨s43, H43, us, e43, n43, g43, o43, v43, l43⟩ := nat_less_spec n41 (n16.grow gC) (by omega) (digs_mono (by omega)) (by rw [num_digs B2, num_digs B2]; omega)
    rw [num_digs B2, num_digs B2] at v43
    refine Runs.step e43 ?_
    refine Runs.step (seen (asSl_v _)) ?_
    obtain ⟨s45, e45, n45, _⟩ := nat_trim_spec n43
    rw [v43] at n45
    refine Runs.step e45 ?_
    refine Runs.step (seen (asSl_v _)) ?_
    have gD := (g29.trans (g37.trans g41)).trans g43
    have l45 := digs_mono (a := (al + ah) * (bl + bh) - al * bl) (c := (al + ah) * (bl + bh)) (by omega)
    obtain ⟨s47, H47, rs, e47, n47, g47, o47, v47, l47⟩ := nat_less_spec n45 (n22.grow gD) (by omega) (digs_mono (by omega)) (by rw [num_digs B2, num_digs B2]; omega)
    rw [num_digs B2, num_digs B2] at v47
    refine Runs.step e47 ?_
    refine Runs.step (seen (asSl_v _)) ?_
    obtain ⟨s49, e49, n49, _⟩ := nat_trim_spec n47
    rw [v47] at n49
    refine Runs.step e49 ?_
    refine Runs.step (seen (asSl_v _)) ?_
    -- all together
    have gE : Grow H9 H47 := (g16.trans gC).trans (g43.trans g47)
    have n16' := n16.grow ((gC.trans g43).trans g47)
    have n22' := n22.grow (gD.trans g47)
    have b47 := gE.has b9
    rw [show IntKind.wrap .i64 ((IntKind.wrap .i64 ((xs.length : Int) + (ys.length : Int))) + 1) = ((xs.length + ys.length + 1 : Nat) : Int) from by
      rw [← Int.natCast_add, wrap_nat (by omega), wrap_succ (by omega)]]
    refine Runs.mk (mkI_nat (by omega)) bytes_uint64 fun s51 H51 v51 g51 => ?_
    have total := karatsuba (B ^ n) al ah bl bh
    rw [← ea, ← eb] at total
    generalize hm : (al + ah) * (bl + bh) - al * bl - ah * bh = m at *
    have lt : num B xs * num B ys < B ^ (xs.length + ys.length) := by
      rw [Nat.pow_add]
      exact Nat.mul_lt_mul_of_lt_of_lt (num_lt B1 ns.lt) (num_lt B1 nt.lt)
    have lt1 : num B xs * num B ys < B ^ (xs.length + ys.length + 1) := Nat.lt_of_lt_of_le lt (Nat.pow_le_pow_right B1 (by omega))
    have lp : (digs B (al * bl)).length ≤ xs.length + ys.length := by
      rw [digs_len B2]
      omega
    obtain ⟨H52, e52, v52, u52⟩ := copy_vec (n16'.grow g51) v51 (by simp; omega)
    refine Runs.step e52 ?_
    have i47 := b47.lt
    have ne : h.blks.size ≠ H47.blks.size := Nat.ne_of_lt i47
    have b52 := AH.has.updr (g51.has b47) ne u52
    refine Runs.step (AH.has.rd0 b52 rfl (avInt_int _ _)) ?_
    have av49 := Av.of_base n49 (Nat.le_refl _)
    have av22 := Av.of_base n22' (Nat.le_refl _)
    have w0 : num B (digs B (al * bl) ++ (List.replicate (xs.length + ys.length + 1) 0).drop (digs B (al * bl)).length) = al * bl := by
      rw [List.drop_replicate, num_noughts, num_digs B2]
    have lw0 : (digs B (al * bl) ++ (List.replicate (xs.length + ys.length + 1) 0).drop (digs B (al * bl)).length).length = xs.length + ys.length + 1 := by
      simp
      omega
    generalize digs B (al * bl) ++ (List.replicate (xs.length + ys.length + 1) 0).drop (digs B (al * bl)).length = o0 at *
    have lmm := digs_mono (a := m) (c := (al + ah) * (bl + bh)) (by omega)
    obtain ⟨H54, o1, e54, v54, u54, l54, w54⟩ := nat_into_spec v52 ((n49.grow g51).upda av49 u52) av49 (at' := n) (by omega) (by omega) (by omega) (by rw [w0, num_digs B2, lw0]; omega)
    refine Runs.step e54 ?_
    refine Runs.step rfl ?_
    have b54 := AH.has.updr b52 ne u54
    refine Runs.step (AH.has.rd0 b54 rfl (avInt_int _ _)) ?_
    rw [show IntKind.wrap .i64 (2 * (n : Int)) = ((2 * n : Nat) : Int) from by rw [wrap64 (by omega) (by omega)]; omega]
    have pp : B ^ (2 * n) = B ^ n * B ^ n := by rw [← Nat.pow_add]; congr 1; omega
    have lq : (digs B (ah * bh)).length ≤ xs.length + ys.length := by
      rw [digs_len B2]
      have : 1 * (ah * bh) ≤ B ^ n * B ^ n * (ah * bh) := Nat.mul_le_mul_right _ (Nat.mul_pos (Nat.pow_pos B1) (Nat.pow_pos B1))
      omega
    rw [w0, num_digs B2] at w54
    obtain ⟨H56, o2, e56, v56, u56, l56, w56⟩ := nat_into_spec v54 (((n22'.grow g51).upda av22 u52).upda av22 u54) av22 (at' := 2 * n) (by omega) (by omega) (by omega) (by rw [w54, num_digs B2, l54, lw0, pp]; omega)
    rw [num_digs B2, w54, pp, ← total] at w56
    refine Runs.step e56 ?_
    refine Runs.step rfl ?_
    obtain ⟨s57, e57, n57, o57⟩ := nat_trim_spec v56.nats
    rw [w56] at n57
    refine Runs.step e57 ?_
    refine Runs.step (seen (asSl_v _)) ?_
    have gF : Grow h H47 := gA.trans gE
    refine Runs.ret ⟨s57, rfl, n57, (((gF.trans g51).updr gF.size u52).updr gF.size u54).updr gF.size u56, o57 _ (v56.own gF.size)⟩

end Go.Ab

/- Layer 1: Mul. -/
set_option linter.unusedVariables false
set_option linter.unusedSimpArgs false
set_option maxRecDepth 10000
namespace Go.Ab
open Go.Proofs Go.Num

theorem nat_product_spec {h : AH} {s t : Sl} {xs ys : List Nat} (n : Nats h s xs) (m : Nats h t ys) (hl : xs.length + ys.length < 268435456) : ∃ (s' : Sl) (h' : AH), go (.fn F.nat_product [s.v, t.v]) h = some (s'.v, h') ∧ Nats h' s' (digs B (num B xs * num B ys)) ∧ Grow h h' ∧ Own h s' := by
  have key : Runs (go (.fn F.nat_product [s.v, t.v]) h) fun v h' => ∃ s' : Sl, v = s'.v ∧ Nats h' s' (digs B (num B xs * num B ys)) ∧ Grow h h' ∧ Own h s' := by
    rw [u_nat_product]
    refine Runs.new fun H3 b3 g3 => ?_
    refine Runs.puts b3 rfl fun H4 b4 u4 => ?_
    have gA := g3.updr (Nat.le_refl _) u4
    have c4 : H4.cell (.new h.blks.size 0) = some (halvesV (.new h.blks.size 0)) := b4.cell 0
    refine Runs.step c4 ?_
    obtain ⟨_, H6, e6, s6, rfl, n6, g6, o6⟩ := product_1_spec 268435456 hl (Nat.le_refl _) (n.grow gA) (m.grow gA) c4
    refine Runs.step ((callV_halves _ _ _ _).trans e6) ?_
    refine Runs.step (seen (asSl_v _)) ?_
    exact Runs.ret ⟨s6, rfl, n6, gA.trans g6, o6.of_le gA⟩
  obtain ⟨_, h', e, s', rfl, k⟩ := key
  exact ⟨s', h', e, k⟩

/-- The product of two numbers' limbs. -/
def mulN (xs ys : List Nat) : List Nat × Int := if rt xs = true ∧ rt ys = true then told (num B xs * num B ys) else ([], 1)

theorem nat_Mul_spec {h : AH} {s t : Sl} {xs ys : List Nat} (n : Nats h s xs) (m : Nats h t ys) : ∃ (s' : Sl) (h' : AH), go (.fn F.nat_Mul [s.v, t.v]) h = some (.tup [s'.v, .int .i64 (mulN xs ys).2], h') ∧ Nats h' s' (mulN xs ys).1 ∧ Grow h h' ∧ Own h s' := by
  rw [u_nat_Mul]
  simp only [newK_eq]
  have r := Rows.two n m
  have g := Grow.push h (.cells [s.v, t.v] T.api_Nat)
  generalize h.push (.cells [s.v, t.v] T.api_Nat) = h0 at *
  rw [nat_right_spec r]
  simp only [Option.bind_some, asBool_bool, List.all_cons, List.all_nil, Bool.and_true]
  cases hx : rt xs with
  | false => exact ⟨⟨none, 0, .is 0⟩, h0, by simp [mulN, hx], by simpa [mulN, hx] using Nats.nil h0, g, Own.nil h⟩
  | true =>
    cases hy : rt ys with
    | false => exact ⟨⟨none, 0, .is 0⟩, h0, by simp [mulN, hx, hy], by simpa [mulN, hx, hy] using Nats.nil h0, g, Own.nil h⟩
    | true =>
      simp only [Bool.and_self, Bool.not_true, cond_false]
      have lx := (rt_iff.1 hx).1
      have ly := (rt_iff.1 hy).1
      rw [show mulN xs ys = told (num B xs * num B ys) from by simp [mulN, hx, hy]]
      obtain ⟨s1, h1, e1, n1, g1, o1⟩ := nat_product_spec (n.grow g) (m.grow g) (by omega)
      obtain ⟨s2, e2, n2, o2⟩ := nat_told_spec n1
      rw [num_digs B2] at e2 n2
      refine ⟨s2, h1, ?_, n2, g.trans g1, o2 _ (o1.of_le g)⟩
      simp only [e1, e2, Option.bind_some, asSl_v, asTup2_tup, avInt_int]

theorem ref01_Mul_spec {h : AH} {s t : Sl} {xs ys : List Nat} (n : Nats h s xs) (m : Nats h t ys) : ∃ (s' : Sl) (h' : AH), go (.fn F.ref01_Mul [s.v, t.v]) h = some (.tup [s'.v, .int .i64 (mulN xs ys).2], h') ∧ Nats h' s' (mulN xs ys).1 ∧ Grow h h' ∧ Own h s' := by
  rw [u_ref01_Mul, ref01_Right_spec n, Option.bind_some, Option.bind_some, asBool_bool, Option.bind_some, ref01_Right_spec m, Option.bind_some, Option.bind_some, asBool_bool, Option.bind_some]
  cases hx : rt xs with
  | false => exact ⟨⟨none, 0, .is 0⟩, h, by simp [mulN, hx], by simpa [mulN, hx] using Nats.nil h, Grow.refl h, Own.nil h⟩
  | true =>
    cases hy : rt ys with
    | false => exact ⟨⟨none, 0, .is 0⟩, h, by simp [mulN, hx, hy], by simpa [mulN, hx, hy] using Nats.nil h, Grow.refl h, Own.nil h⟩
    | true =>
      simp only [Bool.not_true, cond_false]
      have lx := (rt_iff.1 hx).1
      have ly := (rt_iff.1 hy).1
      rw [show mulN xs ys = told (num B xs * num B ys) from by simp [mulN, hx, hy]]
      obtain ⟨d1, h1, e1, n1, g1, o1⟩ := ref01_In_spec n (by omega)
      obtain ⟨d2, h2, e2, n2, g2, o2⟩ := ref01_In_spec (m.grow g1) (by omega)
      have k1 := digsD_len n.lt lx
      have k2 := digsD_len m.lt ly
      obtain ⟨d3, h3, e3, n3, g3, o3⟩ := ref01_mul_spec (n1.grow g2) n2 (digs_lt D2 _) (digs_lt D2 _) (by omega)
      rw [num_digs D2, num_digs D2] at n3
      have k3 : (digs D (num B xs * num B ys)).length ≤ 536870912 := by
        have h1 := (digs_len D2 (num B xs) _).1 (Nat.le_refl _)
        have h2 := (digs_len D2 (num B ys) _).1 (Nat.le_refl _)
        have : (digs D (num B xs * num B ys)).length ≤ (digs D (num B xs)).length + (digs D (num B ys)).length := by
          rw [digs_len D2, Nat.pow_add]
          exact Nat.mul_lt_mul_of_lt_of_lt h1 h2
        omega
      obtain ⟨d4, h4, e4, n4, g4, o4⟩ := ref01_told_spec n3 (digs_lt D2 _) (digs_trim D2 _) k3
      rw [num_digs D2] at e4 n4
      refine ⟨d4, h4, ?_, n4, g1.trans (g2.trans (g3.trans g4)), o4.of_le (g1.trans (g2.trans g3))⟩
      simp only [e1, e2, e3, e4, Option.bind_some, asSl_v, asTup2_tup, avInt_int]

end Go.Ab
