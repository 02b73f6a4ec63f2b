/- squeezed -/
import Derived.Test.YthpakkpckmjhjaaGreatDoorPS36
import Derived.Test.YthpakkpckmjhjaaGreatDoorPAbsP

set_option linter.unusedVariables false
set_option linter.unusedSimpArgs false
set_option maxRecDepth 10000
namespace Go.Ab
open Go.Proofs Go.Num
inductive kfz
 | fn (x1 : List Nat) (x2 : List Nat)
 | p7 (x1 : List Nat) (x2c0 : List Nat) (x3c0 : List Nat) (p4c0 : Bool) (x4c1 : List Nat) (p7c0 : Bool) (x7c1 : List Nat)
abbrev kdu := List Nat × Int
noncomputable def kc9 (x1 : List Nat) (x2 : List Nat) : Option (kfz ⊕ kdu) :=
 cond (!(rt x1)) (some (.inr ([], 1))) (cond (!(rt x2)) (some (.inr ([], 1))) ((u64P 1).bind fun w8 => cond (decide ((cmpN x2 [w8]) ≤ 0)) (some (.inr ([], 1))) ((need (-9223372036854775808 ≤ (1 : Int) ∧ (1 : Int) ≤ 9223372036854775807)).bind fun c16_0 => some (.inl (.p7 x2 ((divN x1 x2).2.1) x2 false [] ((ofI 1).1) ((ofI 1).2))))))
noncomputable def kes (x1 : List Nat) (x2c0 : List Nat) (x3c0 : List Nat) (p4c0 : Bool) (x4c1 : List Nat) (p7c0 : Bool) (x7c1 : List Nat) : Option (kfz ⊕ kdu) :=
 cond (decide ((List.length x2c0 : Int) > 0)) (some (.inl (.p7 x1 ((divN x3c0 x2c0).2.1) x2c0 p7c0 x7c1 (((kbt p4c0 x4c1 (((kba ((fromI false ((divN x3c0 x2c0).1)).1) ((fromI false ((divN x3c0 x2c0).1)).2) p7c0 x7c1).1)) ((kba ((fromI false ((divN x3c0 x2c0).1)).1) ((fromI false ((divN x3c0 x2c0).1)).2) p7c0 x7c1).2.1)).1)) ((kbt p4c0 x4c1 (((kba ((fromI false ((divN x3c0 x2c0).1)).1) ((fromI false ((divN x3c0 x2c0).1)).2) p7c0 x7c1).1)) ((kba ((fromI false ((divN x3c0 x2c0).1)).1) ((fromI false ((divN x3c0 x2c0).1)).2) p7c0 x7c1).2.1)).2.1)))) ((u64P 1).bind fun w11 => cond (!decide ((cmpN x3c0 [w11]) = 0)) (some (.inr ([], 6))) (some (.inr ((floorI p4c0 x4c1 ((fromI false x1).1) ((fromI false x1).2)).2.2.2.1, ((floorI p4c0 x4c1 ((fromI false x1).1) ((fromI false x1).2)).2.2.2.2)))))
noncomputable def knh : kfz → Option (kfz ⊕ kdu)
 | .fn x1 x2 => kc9 x1 x2
 | .p7 x1 x2c0 x3c0 p4c0 x4c1 p7c0 x7c1 => kes x1 x2c0 x3c0 p4c0 x4c1 p7c0 x7c1
@[reducible] def kp1 (h0 : AH) (r : kdu) (v : AV) (h' : AH) : Prop := ∃ s1 : Sl, v = .tup [s1.v, .int .i64 r.2] ∧ Nats h' s1 r.1 ∧ Grow h0 h' ∧ Own h0 s1
def kkg (r : kdu) : kfz → Prop
 | .fn x1 x2 => ∀ {h : AH} {a1 : Sl} {a2 : Sl}, Nats h a1 x1 → Nats h a2 x2 → Runs (go (.fn F.kfq [a1.v, a2.v]) h) (kp1 h r)
 | .p7 x1 x2c0 x3c0 p4c0 x4c1 p7c0 x7c1 => ∀ {h0 h : AH} {a1 : Sl} {s2c0 : Sl} {s3c0 : Sl} {s4c1 : Sl} {s7c1 : Sl} {i2 : Nat} {i3 : Nat} {i4 : Nat} {i7 : Nat}, Grow h0 h → Nats h a1 x1 → h.has i2 [s2c0.v] T.kw → Nats h s2c0 x2c0 → h.has i3 [s3c0.v] T.kw → Nats h s3c0 x3c0 → h.has i4 [.bool p4c0, s4c1.v] T.kf → Nats h s4c1 x4c1 → h.has i7 [.bool p7c0, s7c1.v] T.kf → Nats h s7c1 x7c1 → h0.blks.size ≤ i2 → h0.blks.size ≤ i3 → h0.blks.size ≤ i4 → h0.blks.size ≤ i7 → Av a1 i2 x1 → Av a1 i3 x1 → Av a1 i4 x1 → Av a1 i7 x1 → Av s2c0 i2 x2c0 → Av s2c0 i3 x2c0 → Av s2c0 i4 x2c0 → Av s2c0 i7 x2c0 → Av s3c0 i2 x3c0 → Av s3c0 i3 x3c0 → Av s3c0 i4 x3c0 → Av s3c0 i7 x3c0 → Av s4c1 i2 x4c1 → Av s4c1 i3 x4c1 → Av s4c1 i4 x4c1 → Av s4c1 i7 x4c1 → Av s7c1 i2 x7c1 → Av s7c1 i3 x7c1 → Av s7c1 i4 x7c1 → Av s7c1 i7 x7c1 → i2 ≠ i3 → i2 ≠ i4 → i3 ≠ i4 → i2 ≠ i7 → i3 ≠ i7 → i4 ≠ i7 → Runs (go (.pt F.kfq Td.kk5 [(1, a1.v), (7, .ptr (some (.new i2 0))), (9, .ptr (some (.new i3 0))), (10, .ptr (some (.new i4 0))), (12, .func (.func F.kh6) [] [.ptr (some (.new i3 0)), .ptr (some (.new i2 0)), .ptr (some (.new i7 0)), .ptr (some (.new i4 0))])]) h) (kp1 h0 r)
theorem k51 {r : kdu} {o : kfz ⊕ kdu} {x1 : List Nat} {x2 : List Nat} (e : kc9 x1 x2 = some o) (good : GoodS (kkg r) r o) : kkg r (.fn x1 x2) := by
 intro h a1 a2 n1 n2
 rw [k8p]
 unfold kc9 at e
 refine Runs.step (kdg n1) ?_
 refine Runs.step (seen rfl) ?_
 refine Runs.cond (fun k4 => ?_) (fun k4 => ?_)
 ·replace e := (condT k4).symm.trans e
  cases e
  cases good
  exact Runs.ret ⟨(⟨none, 0, .is 0⟩ : Sl), rfl, (Nats.nil _), (Grow.refl _), (Own.nil _)⟩
 ·replace e := (condF k4).symm.trans e
  refine Runs.step (kdg n2) ?_
  refine Runs.step (seen rfl) ?_
  refine Runs.cond (fun k6 => ?_) (fun k6 => ?_)
  ·replace e := (condT k6).symm.trans e
   cases e
   cases good
   exact Runs.ret ⟨(⟨none, 0, .is 0⟩ : Sl), rfl, (Nats.nil _), (Grow.refl _), (Own.nil _)⟩
  ·replace e := (condF k6).symm.trans e
   refine Runs.new fun H7 b7 g7 => ?_
   obtain ⟨w8, z8, e⟩ := Option.bind_eq_some_iff.1 e
   obtain ⟨H9, e9, g9⟩ := kjo (n2.grow g7) (Nats.of_has1 b7 z8)
   refine Runs.step e9 ?_
   refine Runs.step (seen (kb _ _)) ?_
   refine Runs.cond (fun k10 => ?_) (fun k10 => ?_)
   ·replace e := (condT k10).symm.trans e
    cases e
    cases good
    exact Runs.ret ⟨(⟨none, 0, .is 0⟩ : Sl), rfl, (Nats.nil _), (g7.trans g9), (Own.nil _)⟩
   ·replace e := (condF k10).symm.trans e
    obtain ⟨s11, s11b, H11, e11, n11, n11b, g11, o11, o11b⟩ := ki5 (n1.grow (g7.trans g9)) (n2.grow (g7.trans g9))
    refine Runs.step e11 ?_
    refine Runs.step rfl ?_
    refine Runs.step (seen (asSl_v _)) ?_
    refine Runs.step (seen (asSl_v _)) ?_
    refine Runs.step (seen (kb _ _)) ?_
    refine Runs.new fun H12 b12 g12 => ?_
    refine Runs.puts b12 rfl fun H13 b13 u13 => ?_
    refine Runs.new fun H14 b14 g14 => ?_
    refine Runs.puts b14 rfl fun H15 b15 u15 => ?_
    obtain ⟨c16_0, q16_0, e⟩ := Option.bind_eq_some_iff.1 e
    obtain ⟨s16, H16, e16, n16, g16, o16⟩ := k99 1  c16_0.down
    refine Runs.step e16 ?_
    refine Runs.step rfl ?_
    refine Runs.ifT rfl ?_
    refine Runs.step (seenAt rfl rfl) ?_
    refine Runs.step (seenAt rfl (asSl_v _)) ?_
    refine Runs.new fun H17 b17 g17 => ?_
    refine Runs.new fun H18 b18 g18 => ?_
    refine Runs.puts (g18.has b17) rfl fun H19 b19 u19 => ?_
    have b18_19 := AH.has.updr b18 (Nat.ne_of_gt (Nat.lt_of_lt_of_le (b17).lt (Nat.le_refl _))) u19
    refine Runs.puts b18_19 rfl fun H20 b20 u20 => ?_
    have b19_20 := AH.has.updr b19 (Nat.ne_of_lt (Nat.lt_of_lt_of_le (b17).lt (Nat.le_refl _))) u20
    cases e
    exact good (((((((((((g7.trans g9).trans g11).trans g12).updr (Nat.le_trans (((g7.trans g9).trans g11)).size (Nat.le_refl _)) u13).trans g14).updr (Nat.le_trans (((((g7.trans g9).trans g11).trans g12).updr (Nat.le_trans (((g7.trans g9).trans g11)).size (Nat.le_refl _)) u13)).size (Nat.le_refl _)) u15).trans g16).trans g17).trans g18).updr (Nat.le_trans ((((((((g7.trans g9).trans g11).trans g12).updr (Nat.le_trans (((g7.trans g9).trans g11)).size (Nat.le_refl _)) u13).trans g14).updr (Nat.le_trans (((((g7.trans g9).trans g11).trans g12).updr (Nat.le_trans (((g7.trans g9).trans g11)).size (Nat.le_refl _)) u13)).size (Nat.le_refl _)) u15).trans g16)).size (Nat.le_refl _)) u19).updr (Nat.le_trans (((((((((g7.trans g9).trans g11).trans g12).updr (Nat.le_trans (((g7.trans g9).trans g11)).size (Nat.le_refl _)) u13).trans g14).updr (Nat.le_trans (((((g7.trans g9).trans g11).trans g12).updr (Nat.le_trans (((g7.trans g9).trans g11)).size (Nat.le_refl _)) u13)).size (Nat.le_refl _)) u15).trans g16).trans g17)).size (Nat.le_refl _)) u20) (n2.grow (((((((((((g7.trans g9).trans g11).trans g12).updr (Nat.le_trans (((g7.trans g9).trans g11)).size (Nat.le_refl _)) u13).trans g14).updr (Nat.le_trans (((((g7.trans g9).trans g11).trans g12).updr (Nat.le_trans (((g7.trans g9).trans g11)).size (Nat.le_refl _)) u13)).size (Nat.le_refl _)) u15).trans g16).trans g17).trans g18).updr (Nat.le_trans ((((((((g7.trans g9).trans g11).trans g12).updr (Nat.le_trans (((g7.trans g9).trans g11)).size (Nat.le_refl _)) u13).trans g14).updr (Nat.le_trans (((((g7.trans g9).trans g11).trans g12).updr (Nat.le_trans (((g7.trans g9).trans g11)).size (Nat.le_refl _)) u13)).size (Nat.le_refl _)) u15).trans g16)).size (Nat.le_refl _)) u19).updr (Nat.le_trans (((((((((g7.trans g9).trans g11).trans g12).updr (Nat.le_trans (((g7.trans g9).trans g11)).size (Nat.le_refl _)) u13).trans g14).updr (Nat.le_trans (((((g7.trans g9).trans g11).trans g12).updr (Nat.le_trans (((g7.trans g9).trans g11)).size (Nat.le_refl _)) u13)).size (Nat.le_refl _)) u15).trans g16).trans g17)).size (Nat.le_refl _)) u20)) (((((((g14.updr (Nat.le_refl _) u15).trans g16).trans g17).trans g18).updr (Nat.le_trans (((g14.updr (Nat.le_refl _) u15).trans g16)).size (Nat.le_refl _)) u19).updr (Nat.le_trans ((((g14.updr (Nat.le_refl _) u15).trans g16).trans g17)).size (Nat.le_refl _)) u20).has b13) (n11b.grow ((((((((g12.updr (Nat.le_refl _) u13).trans g14).updr (Nat.le_trans ((g12.updr (Nat.le_refl _) u13)).size (Nat.le_refl _)) u15).trans g16).trans g17).trans g18).updr (Nat.le_trans (((((g12.updr (Nat.le_refl _) u13).trans g14).updr (Nat.le_trans ((g12.updr (Nat.le_refl _) u13)).size (Nat.le_refl _)) u15).trans g16)).size (Nat.le_refl _)) u19).updr (Nat.le_trans ((((((g12.updr (Nat.le_refl _) u13).trans g14).updr (Nat.le_trans ((g12.updr (Nat.le_refl _) u13)).size (Nat.le_refl _)) u15).trans g16).trans g17)).size (Nat.le_refl _)) u20)) (((((g16.trans g17).trans g18).updr (Nat.le_trans (g16).size (Nat.le_refl _)) u19).updr (Nat.le_trans ((g16.trans g17)).size (Nat.le_refl _)) u20).has b15) (n2.grow (((((((((((g7.trans g9).trans g11).trans g12).updr (Nat.le_trans (((g7.trans g9).trans g11)).size (Nat.le_refl _)) u13).trans g14).updr (Nat.le_trans (((((g7.trans g9).trans g11).trans g12).updr (Nat.le_trans (((g7.trans g9).trans g11)).size (Nat.le_refl _)) u13)).size (Nat.le_refl _)) u15).trans g16).trans g17).trans g18).updr (Nat.le_trans ((((((((g7.trans g9).trans g11).trans g12).updr (Nat.le_trans (((g7.trans g9).trans g11)).size (Nat.le_refl _)) u13).trans g14).updr (Nat.le_trans (((((g7.trans g9).trans g11).trans g12).updr (Nat.le_trans (((g7.trans g9).trans g11)).size (Nat.le_refl _)) u13)).size (Nat.le_refl _)) u15).trans g16)).size (Nat.le_refl _)) u19).updr (Nat.le_trans (((((((((g7.trans g9).trans g11).trans g12).updr (Nat.le_trans (((g7.trans g9).trans g11)).size (Nat.le_refl _)) u13).trans g14).updr (Nat.le_trans (((((g7.trans g9).trans g11).trans g12).updr (Nat.le_trans (((g7.trans g9).trans g11)).size (Nat.le_refl _)) u13)).size (Nat.le_refl _)) u15).trans g16).trans g17)).size (Nat.le_refl _)) u20)) b19_20 (Nats.nil _) b20 (n16.grow (((g17.trans g18).updr (Nat.le_refl _) u19).updr (Nat.le_trans (g17).size (Nat.le_refl _)) u20)) (Nat.le_trans (((g7.trans g9).trans g11)).size (Nat.le_refl _)) (Nat.le_trans (((((g7.trans g9).trans g11).trans g12).updr (Nat.le_trans (((g7.trans g9).trans g11)).size (Nat.le_refl _)) u13)).size (Nat.le_refl _)) (Nat.le_trans ((((((((g7.trans g9).trans g11).trans g12).updr (Nat.le_trans (((g7.trans g9).trans g11)).size (Nat.le_refl _)) u13).trans g14).updr (Nat.le_trans (((((g7.trans g9).trans g11).trans g12).updr (Nat.le_trans (((g7.trans g9).trans g11)).size (Nat.le_refl _)) u13)).size (Nat.le_refl _)) u15).trans g16)).size (Nat.le_refl _)) (Nat.le_trans (((((((((g7.trans g9).trans g11).trans g12).updr (Nat.le_trans (((g7.trans g9).trans g11)).size (Nat.le_refl _)) u13).trans g14).updr (Nat.le_trans (((((g7.trans g9).trans g11).trans g12).updr (Nat.le_trans (((g7.trans g9).trans g11)).size (Nat.le_refl _)) u13)).size (Nat.le_refl _)) u15).trans g16).trans g17)).size (Nat.le_refl _)) (Av.of_base n2 (Nat.le_trans (((g7.trans g9).trans g11)).size (Nat.le_refl _))) (Av.of_base n2 (Nat.le_trans (((((g7.trans g9).trans g11).trans g12).updr (Nat.le_trans (((g7.trans g9).trans g11)).size (Nat.le_refl _)) u13)).size (Nat.le_refl _))) (Av.of_base n2 (Nat.le_trans ((((((((g7.trans g9).trans g11).trans g12).updr (Nat.le_trans (((g7.trans g9).trans g11)).size (Nat.le_refl _)) u13).trans g14).updr (Nat.le_trans (((((g7.trans g9).trans g11).trans g12).updr (Nat.le_trans (((g7.trans g9).trans g11)).size (Nat.le_refl _)) u13)).size (Nat.le_refl _)) u15).trans g16)).size (Nat.le_refl _))) (Av.of_base n2 (Nat.le_trans (((((((((g7.trans g9).trans g11).trans g12).updr (Nat.le_trans (((g7.trans g9).trans g11)).size (Nat.le_refl _)) u13).trans g14).updr (Nat.le_trans (((((g7.trans g9).trans g11).trans g12).updr (Nat.le_trans (((g7.trans g9).trans g11)).size (Nat.le_refl _)) u13)).size (Nat.le_refl _)) u15).trans g16).trans g17)).size (Nat.le_refl _))) (Av.of_base n11b (Nat.le_refl _)) (Av.of_base n11b (Nat.le_trans ((g12.updr (Nat.le_refl _) u13)).size (Nat.le_refl _))) (Av.of_base n11b (Nat.le_trans (((((g12.updr (Nat.le_refl _) u13).trans g14).updr (Nat.le_trans ((g12.updr (Nat.le_refl _) u13)).size (Nat.le_refl _)) u15).trans g16)).size (Nat.le_refl _))) (Av.of_base n11b (Nat.le_trans ((((((g12.updr (Nat.le_refl _) u13).trans g14).updr (Nat.le_trans ((g12.updr (Nat.le_refl _) u13)).size (Nat.le_refl _)) u15).trans g16).trans g17)).size (Nat.le_refl _))) (Av.of_base n2 (Nat.le_trans (((g7.trans g9).trans g11)).size (Nat.le_refl _))) (Av.of_base n2 (Nat.le_trans (((((g7.trans g9).trans g11).trans g12).updr (Nat.le_trans (((g7.trans g9).trans g11)).size (Nat.le_refl _)) u13)).size (Nat.le_refl _))) (Av.of_base n2 (Nat.le_trans ((((((((g7.trans g9).trans g11).trans g12).updr (Nat.le_trans (((g7.trans g9).trans g11)).size (Nat.le_refl _)) u13).trans g14).updr (Nat.le_trans (((((g7.trans g9).trans g11).trans g12).updr (Nat.le_trans (((g7.trans g9).trans g11)).size (Nat.le_refl _)) u13)).size (Nat.le_refl _)) u15).trans g16)).size (Nat.le_refl _))) (Av.of_base n2 (Nat.le_trans (((((((((g7.trans g9).trans g11).trans g12).updr (Nat.le_trans (((g7.trans g9).trans g11)).size (Nat.le_refl _)) u13).trans g14).updr (Nat.le_trans (((((g7.trans g9).trans g11).trans g12).updr (Nat.le_trans (((g7.trans g9).trans g11)).size (Nat.le_refl _)) u13)).size (Nat.le_refl _)) u15).trans g16).trans g17)).size (Nat.le_refl _))) (Av.nil _ _) (Av.nil _ _) (Av.nil _ _) (Av.nil _ _) (Av.of_own o16 ((g14.updr (Nat.le_refl _) u15).has b13).lt) (Av.of_own o16 (b15).lt) (Av.of_base n16 (Nat.le_refl _)) (Av.of_base n16 (Nat.le_trans (g17).size (Nat.le_refl _))) (Nat.ne_of_lt (Nat.lt_of_lt_of_le (b13).lt (Nat.le_refl _))) (Nat.ne_of_lt (Nat.lt_of_lt_of_le (((g14.updr (Nat.le_refl _) u15).trans g16).has b13).lt (Nat.le_refl _))) (Nat.ne_of_lt (Nat.lt_of_lt_of_le (g16.has b15).lt (Nat.le_refl _))) (Nat.ne_of_lt (Nat.lt_of_lt_of_le ((((g14.updr (Nat.le_refl _) u15).trans g16).trans g17).has b13).lt (Nat.le_refl _))) (Nat.ne_of_lt (Nat.lt_of_lt_of_le ((g16.trans g17).has b15).lt (Nat.le_refl _))) (Nat.ne_of_lt (Nat.lt_of_lt_of_le (b17).lt (Nat.le_refl _)))
theorem k9m {r : kdu} {o : kfz ⊕ kdu} {x1 : List Nat} {x2c0 : List Nat} {x3c0 : List Nat} {p4c0 : Bool} {x4c1 : List Nat} {p7c0 : Bool} {x7c1 : List Nat} (e : kes x1 x2c0 x3c0 p4c0 x4c1 p7c0 x7c1 = some o) (good : GoodS (kkg r) r o) : kkg r (.p7 x1 x2c0 x3c0 p4c0 x4c1 p7c0 x7c1) := by
 intro h0 h a1 s2c0 s3c0 s4c1 s7c1 i2 i3 i4 i7 g0 n1 b2 n2c0 b3 n3c0 b4 n4c1 b7 n7c1 hi2 hi3 hi4 hi7 av1_2 av1_3 av1_4 av1_7 av2c0_2 av2c0_3 av2c0_4 av2c0_7 av3c0_2 av3c0_3 av3c0_4 av3c0_7 av4c1_2 av4c1_3 av4c1_4 av4c1_7 av7c1_2 av7c1_3 av7c1_4 av7c1_7 ne2_3 ne2_4 ne3_4 ne2_7 ne3_7 ne4_7
 rw [kx2]
 unfold kes at e
 refine Runs.step (AH.has.rd0 b2 rfl (asSl_v _)) ?_
 rw [n2c0.len]
 refine Runs.cond (fun k9 => ?_) (fun k9 => ?_)
 ·replace e := (condT k9).symm.trans e
  rw [kxz]
  refine Runs.stepB (AH.has.rd0 b3 rfl (asSl_v _)) ?_
  refine Runs.stepB (AH.has.rd0 b2 rfl (asSl_v _)) ?_
  obtain ⟨s10, s10b, H10, e10, n10, n10b, g10, o10, o10b⟩ := ki5 n3c0 n2c0
  refine Runs.stepB e10 ?_
  refine Runs.stepB rfl ?_
  refine Runs.stepB (seen (asSl_v _)) ?_
  refine Runs.stepB (seen (asSl_v _)) ?_
  refine Runs.stepB (seen (kb _ _)) ?_
  refine Runs.newB fun H11 b11 g11 => ?_
  refine Runs.stepB (AH.has.rd ((g10.trans g11).has b7) 0 rfl rfl) ?_
  refine Runs.stepB (AH.has.rd ((g10.trans g11).has b7) 1 rfl (asSl_v _)) ?_
  obtain ⟨s12, H12, e12, n12, g12, o12⟩ := kcf (n10.grow g11) false
  refine Runs.stepB e12 ?_
  refine Runs.stepB rfl ?_
  refine Runs.ifTB rfl ?_
  refine Runs.stepB (seenAt rfl rfl) ?_
  refine Runs.stepB (seenAt rfl (asSl_v _)) ?_
  refine Runs.whenB (g12.same ((g10.trans g11).has b7) 0 2) ?_
  refine Runs.whenB (g12.same b11 0 0) ?_
  obtain ⟨_, H13, e13, s13, rfl, n13, g13, o13⟩ := kbbl n12 (n7c1.grow ((g10.trans g11).trans g12)) ((fromI false ((divN x3c0 x2c0).1)).1) p7c0
  refine Runs.stepB e13 ?_
  refine Runs.stepB rfl ?_
  refine Runs.stepB rfl ?_
  refine Runs.ifTB rfl ?_
  refine Runs.stepB (seenAt rfl rfl) ?_
  refine Runs.stepB (seenAt rfl (asSl_v _)) ?_
  refine Runs.stepB (seen (kb _ _)) ?_
  refine Runs.whenB (g13.same (g12.has b11) 0 0) ?_
  refine Runs.putsB ((g12.trans g13).has b11) rfl fun H14 b14 u14 => ?_
  have n12_14 := (n12.grow g13).upda (Av.of_own o12 (b11).lt) u14
  have n13_14 := n13.upda (Av.of_own o13 (g12.has b11).lt) u14
  refine Runs.stepB (AH.has.rd (((((g10.trans g11).trans g12).trans g13).updr (Nat.le_trans (g10).size (Nat.le_refl _)) u14).has b4) 0 rfl rfl) ?_
  refine Runs.stepB (AH.has.rd (((((g10.trans g11).trans g12).trans g13).updr (Nat.le_trans (g10).size (Nat.le_refl _)) u14).has b4) 1 rfl (asSl_v _)) ?_
  refine Runs.stepB (AH.has.rd b14 0 rfl rfl) ?_
  refine Runs.stepB (AH.has.rd b14 1 rfl (asSl_v _)) ?_
  obtain ⟨_, H15, e15, s15, rfl, n15, g15, o15⟩ := kzs (n4c1.grow ((((g10.trans g11).trans g12).trans g13).updr (Nat.le_trans (g10).size (Nat.le_refl _)) u14)) n13_14 p4c0 (((kba ((fromI false ((divN x3c0 x2c0).1)).1) ((fromI false ((divN x3c0 x2c0).1)).2) p7c0 x7c1).1))
  refine Runs.stepB e15 ?_
  refine Runs.stepB rfl ?_
  refine Runs.stepB rfl ?_
  refine Runs.ifTB rfl ?_
  refine Runs.stepB (seenAt rfl rfl) ?_
  refine Runs.stepB (seenAt rfl (asSl_v _)) ?_
  refine Runs.stepB (seen (kb _ _)) ?_
  refine Runs.newB fun H16 b16 g16 => ?_
  refine Runs.putsB b16 rfl fun H17 b17 u17 => ?_
  refine Runs.stepB (AH.has.rd0 ((((((((g10.trans g11).trans g12).trans g13).updr (Nat.le_trans (g10).size (Nat.le_refl _)) u14).trans g15).trans g16).updr (Nat.le_trans ((((((g10.trans g11).trans g12).trans g13).updr (Nat.le_trans (g10).size (Nat.le_refl _)) u14).trans g15)).size (Nat.le_refl _)) u17).has b2) rfl (asSl_v _)) ?_
  refine Runs.stepB (AH.has.rd ((((((((g10.trans g11).trans g12).trans g13).updr (Nat.le_trans (g10).size (Nat.le_refl _)) u14).trans g15).trans g16).updr (Nat.le_trans ((((((g10.trans g11).trans g12).trans g13).updr (Nat.le_trans (g10).size (Nat.le_refl _)) u14).trans g15)).size (Nat.le_refl _)) u17).has b7) 0 rfl rfl) ?_
  refine Runs.stepB (AH.has.rd ((((((((g10.trans g11).trans g12).trans g13).updr (Nat.le_trans (g10).size (Nat.le_refl _)) u14).trans g15).trans g16).updr (Nat.le_trans ((((((g10.trans g11).trans g12).trans g13).updr (Nat.le_trans (g10).size (Nat.le_refl _)) u14).trans g15)).size (Nat.le_refl _)) u17).has b7) 1 rfl (asSl_v _)) ?_
  refine Runs.stepB (AH.has.rd b17 0 rfl rfl) ?_
  refine Runs.stepB (AH.has.rd b17 1 rfl (asSl_v _)) ?_
  refine Runs.putsB ((((((((g10.trans g11).trans g12).trans g13).updr (Nat.le_trans (g10).size (Nat.le_refl _)) u14).trans g15).trans g16).updr (Nat.le_trans ((((((g10.trans g11).trans g12).trans g13).updr (Nat.le_trans (g10).size (Nat.le_refl _)) u14).trans g15)).size (Nat.le_refl _)) u17).has b3) rfl fun H18 b18 u18 => ?_
  have n1_18 := (n1.grow (((((((g10.trans g11).trans g12).trans g13).updr (Nat.le_trans (g10).size (Nat.le_refl _)) u14).trans g15).trans g16).updr (Nat.le_trans ((((((g10.trans g11).trans g12).trans g13).updr (Nat.le_trans (g10).size (Nat.le_refl _)) u14).trans g15)).size (Nat.le_refl _)) u17)).upda av1_3 u18
  have n2c0_18 := (n2c0.grow (((((((g10.trans g11).trans g12).trans g13).updr (Nat.le_trans (g10).size (Nat.le_refl _)) u14).trans g15).trans g16).updr (Nat.le_trans ((((((g10.trans g11).trans g12).trans g13).updr (Nat.le_trans (g10).size (Nat.le_refl _)) u14).trans g15)).size (Nat.le_refl _)) u17)).upda av2c0_3 u18
  have n3c0_18 := (n3c0.grow (((((((g10.trans g11).trans g12).trans g13).updr (Nat.le_trans (g10).size (Nat.le_refl _)) u14).trans g15).trans g16).updr (Nat.le_trans ((((((g10.trans g11).trans g12).trans g13).updr (Nat.le_trans (g10).size (Nat.le_refl _)) u14).trans g15)).size (Nat.le_refl _)) u17)).upda av3c0_3 u18
  have n4c1_18 := (n4c1.grow (((((((g10.trans g11).trans g12).trans g13).updr (Nat.le_trans (g10).size (Nat.le_refl _)) u14).trans g15).trans g16).updr (Nat.le_trans ((((((g10.trans g11).trans g12).trans g13).updr (Nat.le_trans (g10).size (Nat.le_refl _)) u14).trans g15)).size (Nat.le_refl _)) u17)).upda av4c1_3 u18
  have n7c1_18 := (n7c1.grow (((((((g10.trans g11).trans g12).trans g13).updr (Nat.le_trans (g10).size (Nat.le_refl _)) u14).trans g15).trans g16).updr (Nat.le_trans ((((((g10.trans g11).trans g12).trans g13).updr (Nat.le_trans (g10).size (Nat.le_refl _)) u14).trans g15)).size (Nat.le_refl _)) u17)).upda av7c1_3 u18
  have n10_18 := (n10.grow ((((((g11.trans g12).trans g13).updr (Nat.le_refl _) u14).trans g15).trans g16).updr (Nat.le_trans (((((g11.trans g12).trans g13).updr (Nat.le_refl _) u14).trans g15)).size (Nat.le_refl _)) u17)).upda (Av.of_own o10 (b3).lt) u18
  have n10b_18 := (n10b.grow ((((((g11.trans g12).trans g13).updr (Nat.le_refl _) u14).trans g15).trans g16).updr (Nat.le_trans (((((g11.trans g12).trans g13).updr (Nat.le_refl _) u14).trans g15)).size (Nat.le_refl _)) u17)).upda (Av.of_own o10b (b3).lt) u18
  have n12_18 := (n12_14.grow ((g15.trans g16).updr (Nat.le_trans (g15).size (Nat.le_refl _)) u17)).upda (Av.of_own o12 ((g10.trans g11).has b3).lt) u18
  have n13_18 := (n13_14.grow ((g15.trans g16).updr (Nat.le_trans (g15).size (Nat.le_refl _)) u17)).upda (Av.of_own o13 (((g10.trans g11).trans g12).has b3).lt) u18
  have n15_18 := (n15.grow (g16.updr (Nat.le_refl _) u17)).upda (Av.of_own o15 (((((g10.trans g11).trans g12).trans g13).updr (Nat.le_trans (g10).size (Nat.le_refl _)) u14).has b3).lt) u18
  have b2_18 := AH.has.updr ((((((((g10.trans g11).trans g12).trans g13).updr (Nat.le_trans (g10).size (Nat.le_refl _)) u14).trans g15).trans g16).updr (Nat.le_trans ((((((g10.trans g11).trans g12).trans g13).updr (Nat.le_trans (g10).size (Nat.le_refl _)) u14).trans g15)).size (Nat.le_refl _)) u17).has b2) ne2_3 u18
  have b4_18 := AH.has.updr ((((((((g10.trans g11).trans g12).trans g13).updr (Nat.le_trans (g10).size (Nat.le_refl _)) u14).trans g15).trans g16).updr (Nat.le_trans ((((((g10.trans g11).trans g12).trans g13).updr (Nat.le_trans (g10).size (Nat.le_refl _)) u14).trans g15)).size (Nat.le_refl _)) u17).has b4) (Ne.symm ne3_4) u18
  have b7_18 := AH.has.updr ((((((((g10.trans g11).trans g12).trans g13).updr (Nat.le_trans (g10).size (Nat.le_refl _)) u14).trans g15).trans g16).updr (Nat.le_trans ((((((g10.trans g11).trans g12).trans g13).updr (Nat.le_trans (g10).size (Nat.le_refl _)) u14).trans g15)).size (Nat.le_refl _)) u17).has b7) (Ne.symm ne3_7) u18
  have b14_18 := AH.has.updr (((g15.trans g16).updr (Nat.le_trans (g15).size (Nat.le_refl _)) u17).has b14) (Nat.ne_of_gt (Nat.lt_of_lt_of_le (g10.has b3).lt (Nat.le_refl _))) u18
  have b17_18 := AH.has.updr b17 (Nat.ne_of_gt (Nat.lt_of_lt_of_le ((((((g10.trans g11).trans g12).trans g13).updr (Nat.le_trans (g10).size (Nat.le_refl _)) u14).trans g15).has b3).lt (Nat.le_refl _))) u18
  refine Runs.whenB (kir b17 b17_18 0 2) ?_
  refine Runs.whenB (kir ((((((((g10.trans g11).trans g12).trans g13).updr (Nat.le_trans (g10).size (Nat.le_refl _)) u14).trans g15).trans g16).updr (Nat.le_trans ((((((g10.trans g11).trans g12).trans g13).updr (Nat.le_trans (g10).size (Nat.le_refl _)) u14).trans g15)).size (Nat.le_refl _)) u17).has b7) b7_18 0 2) ?_
  refine Runs.putsB b2_18 rfl fun H19 b19 u19 => ?_
  have n1_19 := n1_18.upda av1_2 u19
  have n2c0_19 := n2c0_18.upda av2c0_2 u19
  have n3c0_19 := n3c0_18.upda av3c0_2 u19
  have n4c1_19 := n4c1_18.upda av4c1_2 u19
  have n7c1_19 := n7c1_18.upda av7c1_2 u19
  have n10_19 := n10_18.upda (Av.of_own o10 (b2).lt) u19
  have n10b_19 := n10b_18.upda (Av.of_own o10b (b2).lt) u19
  have n12_19 := n12_18.upda (Av.of_own o12 ((g10.trans g11).has b2).lt) u19
  have n13_19 := n13_18.upda (Av.of_own o13 (((g10.trans g11).trans g12).has b2).lt) u19
  have n15_19 := n15_18.upda (Av.of_own o15 (((((g10.trans g11).trans g12).trans g13).updr (Nat.le_trans (g10).size (Nat.le_refl _)) u14).has b2).lt) u19
  have b18_19 := AH.has.updr b18 (Ne.symm ne2_3) u19
  have b4_19 := AH.has.updr b4_18 (Ne.symm ne2_4) u19
  have b7_19 := AH.has.updr b7_18 (Ne.symm ne2_7) u19
  have b14_19 := AH.has.updr b14_18 (Nat.ne_of_gt (Nat.lt_of_lt_of_le (g10.has b2).lt (Nat.le_refl _))) u19
  have b17_19 := AH.has.updr b17_18 (Nat.ne_of_gt (Nat.lt_of_lt_of_le ((((((g10.trans g11).trans g12).trans g13).updr (Nat.le_trans (g10).size (Nat.le_refl _)) u14).trans g15).has b2).lt (Nat.le_refl _))) u19
  refine Runs.whenB (kir b17_18 b17_19 0 2) ?_
  refine Runs.whenB (kir b7_18 b7_19 0 2) ?_
  refine Runs.putsB b4_19 rfl fun H20 b20 u20 => ?_
  have n1_20 := n1_19.upda av1_4 u20
  have n2c0_20 := n2c0_19.upda av2c0_4 u20
  have n3c0_20 := n3c0_19.upda av3c0_4 u20
  have n4c1_20 := n4c1_19.upda av4c1_4 u20
  have n7c1_20 := n7c1_19.upda av7c1_4 u20
  have n10_20 := n10_19.upda (Av.of_own o10 (b4).lt) u20
  have n10b_20 := n10b_19.upda (Av.of_own o10b (b4).lt) u20
  have n12_20 := n12_19.upda (Av.of_own o12 ((g10.trans g11).has b4).lt) u20
  have n13_20 := n13_19.upda (Av.of_own o13 (((g10.trans g11).trans g12).has b4).lt) u20
  have n15_20 := n15_19.upda (Av.of_own o15 (((((g10.trans g11).trans g12).trans g13).updr (Nat.le_trans (g10).size (Nat.le_refl _)) u14).has b4).lt) u20
  have b19_20 := AH.has.updr b19 ne2_4 u20
  have b18_20 := AH.has.updr b18_19 ne3_4 u20
  have b7_20 := AH.has.updr b7_19 (Ne.symm ne4_7) u20
  have b14_20 := AH.has.updr b14_19 (Nat.ne_of_gt (Nat.lt_of_lt_of_le (g10.has b4).lt (Nat.le_refl _))) u20
  have b17_20 := AH.has.updr b17_19 (Nat.ne_of_gt (Nat.lt_of_lt_of_le ((((((g10.trans g11).trans g12).trans g13).updr (Nat.le_trans (g10).size (Nat.le_refl _)) u14).trans g15).has b4).lt (Nat.le_refl _))) u20
  refine Runs.whenB (kir b17_19 b17_20 0 2) ?_
  refine Runs.putsB b7_20 rfl fun H21 b21 u21 => ?_
  have n1_21 := n1_20.upda av1_7 u21
  have n2c0_21 := n2c0_20.upda av2c0_7 u21
  have n3c0_21 := n3c0_20.upda av3c0_7 u21
  have n4c1_21 := n4c1_20.upda av4c1_7 u21
  have n7c1_21 := n7c1_20.upda av7c1_7 u21
  have n10_21 := n10_20.upda (Av.of_own o10 (b7).lt) u21
  have n10b_21 := n10b_20.upda (Av.of_own o10b (b7).lt) u21
  have n12_21 := n12_20.upda (Av.of_own o12 ((g10.trans g11).has b7).lt) u21
  have n13_21 := n13_20.upda (Av.of_own o13 (((g10.trans g11).trans g12).has b7).lt) u21
  have n15_21 := n15_20.upda (Av.of_own o15 (((((g10.trans g11).trans g12).trans g13).updr (Nat.le_trans (g10).size (Nat.le_refl _)) u14).has b7).lt) u21
  have b19_21 := AH.has.updr b19_20 ne2_7 u21
  have b18_21 := AH.has.updr b18_20 ne3_7 u21
  have b20_21 := AH.has.updr b20 ne4_7 u21
  have b14_21 := AH.has.updr b14_20 (Nat.ne_of_gt (Nat.lt_of_lt_of_le (g10.has b7).lt (Nat.le_refl _))) u21
  have b17_21 := AH.has.updr b17_20 (Nat.ne_of_gt (Nat.lt_of_lt_of_le ((((((g10.trans g11).trans g12).trans g13).updr (Nat.le_trans (g10).size (Nat.le_refl _)) u14).trans g15).has b7).lt (Nat.le_refl _))) u21
  refine Runs.retB ?_
  refine Runs.step rfl ?_
  cases e
  exact good ((((((((((((g0.trans g10).trans g11).trans g12).trans g13).updr (Nat.le_trans ((g0.trans g10)).size (Nat.le_refl _)) u14).trans g15).trans g16).updr (Nat.le_trans (((((((g0.trans g10).trans g11).trans g12).trans g13).updr (Nat.le_trans ((g0.trans g10)).size (Nat.le_refl _)) u14).trans g15)).size (Nat.le_refl _)) u17).updr hi3 u18).updr hi2 u19).updr hi4 u20).updr hi7 u21) n1_21 b19_21 n10b_21 b18_21 n2c0_21 b20_21 n7c1_21 b21 n15_21 hi2 hi3 hi4 hi7 av1_2 av1_3 av1_4 av1_7 (Av.of_own o10b (b2).lt) (Av.of_own o10b (b3).lt) (Av.of_own o10b (b4).lt) (Av.of_own o10b (b7).lt) av2c0_2 av2c0_3 av2c0_4 av2c0_7 av7c1_2 av7c1_3 av7c1_4 av7c1_7 (Av.of_own o15 (((((g10.trans g11).trans g12).trans g13).updr (Nat.le_trans (g10).size (Nat.le_refl _)) u14).has b2).lt) (Av.of_own o15 (((((g10.trans g11).trans g12).trans g13).updr (Nat.le_trans (g10).size (Nat.le_refl _)) u14).has b3).lt) (Av.of_own o15 (((((g10.trans g11).trans g12).trans g13).updr (Nat.le_trans (g10).size (Nat.le_refl _)) u14).has b4).lt) (Av.of_own o15 (((((g10.trans g11).trans g12).trans g13).updr (Nat.le_trans (g10).size (Nat.le_refl _)) u14).has b7).lt) ne2_3 ne2_4 ne3_4 ne2_7 ne3_7 ne4_7
 ·replace e := (condF k9).symm.trans e
  refine Runs.step (AH.has.rd0 b3 rfl (asSl_v _)) ?_
  refine Runs.new fun H10 b10 g10 => ?_
  obtain ⟨w11, z11, e⟩ := Option.bind_eq_some_iff.1 e
  obtain ⟨H12, e12, g12⟩ := kjo (n3c0.grow g10) (Nats.of_has1 b10 z11)
  refine Runs.step e12 ?_
  refine Runs.step (seen (kb _ _)) ?_
  refine Runs.cond (fun k13 => ?_) (fun k13 => ?_)
  ·replace e := (condT k13).symm.trans e
   cases e
   cases good
   exact Runs.ret ⟨(⟨none, 0, .is 0⟩ : Sl), rfl, (Nats.nil _), ((g0.trans g10).trans g12), (Own.nil _)⟩
  ·replace e := (condF k13).symm.trans e
   refine Runs.new fun H14 b14 g14 => ?_
   refine Runs.new fun H15 b15 g15 => ?_
   refine Runs.step (AH.has.rd ((((g10.trans g12).trans g14).trans g15).has b4) 0 rfl rfl) ?_
   refine Runs.step (AH.has.rd ((((g10.trans g12).trans g14).trans g15).has b4) 1 rfl (asSl_v _)) ?_
   obtain ⟨s16, H16, e16, n16, g16, o16⟩ := kcf (n1.grow (((g10.trans g12).trans g14).trans g15)) false
   refine Runs.step e16 ?_
   refine Runs.step rfl ?_
   refine Runs.ifT rfl ?_
   refine Runs.step (seenAt rfl rfl) ?_
   refine Runs.step (seenAt rfl (asSl_v _)) ?_
   refine Runs.when (g16.same ((((g10.trans g12).trans g14).trans g15).has b4) 0 2) ?_
   refine Runs.when (g16.same b15 0 0) ?_
   refine Runs.when (g16.same (g15.has b14) 0 0) ?_
   obtain ⟨_, H17, e17, s17, s17b, rfl, n17, n17b, g17, o17, o17b⟩ := k9f (n4c1.grow ((((g10.trans g12).trans g14).trans g15).trans g16)) n16 p4c0 ((fromI false x1).1)
   refine Runs.step e17 ?_
   refine Runs.step rfl ?_
   refine Runs.step rfl ?_
   refine Runs.ifT rfl ?_
   refine Runs.step (seenAt rfl rfl) ?_
   refine Runs.step (seenAt rfl (asSl_v _)) ?_
   refine Runs.step rfl ?_
   refine Runs.ifT rfl ?_
   refine Runs.step (seenAt rfl rfl) ?_
   refine Runs.step (seenAt rfl (asSl_v _)) ?_
   refine Runs.step (seen (kb _ _)) ?_
   refine Runs.when (g17.same (g16.has b15) 0 0) ?_
   refine Runs.when (g17.same ((g15.trans g16).has b14) 0 0) ?_
   refine Runs.puts (((g15.trans g16).trans g17).has b14) rfl fun H18 b18 u18 => ?_
   have n16_18 := (n16.grow g17).upda (Av.of_own o16 (g15.has b14).lt) u18
   have n17_18 := n17.upda (Av.of_own o17 ((g15.trans g16).has b14).lt) u18
   have n17b_18 := n17b.upda (Av.of_own o17b ((g15.trans g16).has b14).lt) u18
   have b15_18 := AH.has.updr ((g16.trans g17).has b15) (Nat.ne_of_gt (Nat.lt_of_lt_of_le (b14).lt (Nat.le_refl _))) u18
   refine Runs.puts b15_18 rfl fun H19 b19 u19 => ?_
   have n16_19 := n16_18.upda (Av.of_own o16 (b15).lt) u19
   have n17_19 := n17_18.upda (Av.of_own o17 (g16.has b15).lt) u19
   have n17b_19 := n17b_18.upda (Av.of_own o17b (g16.has b15).lt) u19
   have b18_19 := AH.has.updr b18 (Nat.ne_of_lt (Nat.lt_of_lt_of_le (b14).lt (Nat.le_refl _))) u19
   refine Runs.step (AH.has.rd b19 1 rfl (asSl_v _)) ?_
   cases e
   cases good
   exact Runs.ret ⟨s17b, rfl, n17b_19, ((((((((g0.trans g10).trans g12).trans g14).trans g15).trans g16).trans g17).updr (Nat.le_trans (((g0.trans g10).trans g12)).size (Nat.le_refl _)) u18).updr (Nat.le_trans ((((g0.trans g10).trans g12).trans g14)).size (Nat.le_refl _)) u19), (o17b.of_le (((((g0.trans g10).trans g12).trans g14).trans g15).trans g16))⟩
theorem k7o {s : kfz} {r : kdu} (it : Iter knh s r) : kkg r s := Iter.ind (fun s o e good => by
 cases s with
 | fn x1 x2 => exact @k51 _ _ x1 x2 e good
 | p7 x1 x2c0 x3c0 p4c0 x4c1 p7c0 x7c1 => exact @k9m _ _ x1 x2c0 x3c0 p4c0 x4c1 p7c0 x7c1 e good
 ) it
inductive kfm
 | fn (x1 : List Nat) (x2 : List Nat)
 | p9 (x1 : List Nat) (x2 : List Nat) (x3 : List Nat) (p4c0 : Bool) (x4c1 : List Nat) (p5c0 : Bool) (x5c1 : List Nat)
abbrev kec := List Nat × Int
noncomputable def kdc (x1 : List Nat) (x2 : List Nat) : Option (kfm ⊕ kec) :=
 cond (!(rt x1)) (some (.inr ([], 1))) (cond (!(rt x2)) (some (.inr ([], 1))) ((u64P 2).bind fun p7 => cond (decide ((cmpN x2 (digs B p7)) < 0)) (some (.inr ([], 1))) ((need (List.length x2 ≤ 1073741824)).bind fun c11 => (need (-9223372036854775808 ≤ (1 : Int) ∧ (1 : Int) ≤ 9223372036854775807)).bind fun c15_0 => some (.inl (.p9 x2 x2 ((divN x1 x2).2.1) false [] ((ofI 1).1) ((ofI 1).2))))))
noncomputable def kep (x1 : List Nat) (x2 : List Nat) (x3 : List Nat) (p4c0 : Bool) (x4c1 : List Nat) (p5c0 : Bool) (x5c1 : List Nat) : Option (kfm ⊕ kec) :=
 cond (decide ((List.length x3 : Int) > 0)) (some (.inl (.p9 x1 x3 ((divN x2 x3).2.1) p5c0 x5c1 (((kbt p4c0 x4c1 (((kba ((fromI false ((divN x2 x3).1)).1) ((fromI false ((divN x2 x3).1)).2) p5c0 x5c1).1)) ((kba ((fromI false ((divN x2 x3).1)).1) ((fromI false ((divN x2 x3).1)).2) p5c0 x5c1).2.1)).1)) ((kbt p4c0 x4c1 (((kba ((fromI false ((divN x2 x3).1)).1) ((fromI false ((divN x2 x3).1)).2) p5c0 x5c1).1)) ((kba ((fromI false ((divN x2 x3).1)).1) ((fromI false ((divN x2 x3).1)).2) p5c0 x5c1).2.1)).2.1)))) ((u64P 1).bind fun p7 => cond (!decide ((cmpN x2 (digs B p7)) = 0)) (some (.inr ([], 6))) (some (.inr ((floorI p4c0 x4c1 ((fromI false x1).1) ((fromI false x1).2)).2.2.2.1, 0))))
noncomputable def kmg : kfm → Option (kfm ⊕ kec)
 | .fn x1 x2 => kdc x1 x2
 | .p9 x1 x2 x3 p4c0 x4c1 p5c0 x5c1 => kep x1 x2 x3 p4c0 x4c1 p5c0 x5c1
@[reducible] def kpn (h0 : AH) (r : kec) (v : AV) (h' : AH) : Prop := ∃ s1 : Sl, v = .tup [s1.v, .int .i64 r.2] ∧ Nats h' s1 r.1 ∧ Grow h0 h' ∧ Own h0 s1
def kj3 (r : kec) : kfm → Prop
 | .fn x1 x2 => ∀ {h : AH} {a1 : Sl} {a2 : Sl}, Nats h a1 x1 → Nats h a2 x2 → Runs (go (.fn F.kf1 [a1.v, a2.v]) h) (kpn h r)
 | .p9 x1 x2 x3 p4c0 x4c1 p5c0 x5c1 => ∀ {h0 h : AH} {a1 : Sl} {a2 : Sl} {a3 : Sl} {s4c1 : Sl} {s5c1 : Sl} {i4 : Nat} {i5 : Nat}, Grow h0 h → Nats h a1 x1 → Nats h a2 x2 → Nats h a3 x3 → h.has i4 [.bool p4c0, s4c1.v] T.kf → Nats h s4c1 x4c1 → h.has i5 [.bool p5c0, s5c1.v] T.kf → Nats h s5c1 x5c1 → h0.blks.size ≤ i4 → h0.blks.size ≤ i5 → Av a1 i4 x1 → Av a1 i5 x1 → Av a2 i4 x2 → Av a2 i5 x2 → Av a3 i4 x3 → Av a3 i5 x3 → Av s4c1 i4 x4c1 → Av s4c1 i5 x4c1 → Av s5c1 i4 x5c1 → Av s5c1 i5 x5c1 → i4 ≠ i5 → Runs (go (.pt F.kf1 Td.knx [(1, a1.v), (8, a2.v), (9, a3.v), (10, .ptr (some (.new i4 0))), (11, .ptr (some (.new i5 0)))]) h) (kpn h0 r)
theorem k3z {r : kec} {o : kfm ⊕ kec} {x1 : List Nat} {x2 : List Nat} (e : kdc x1 x2 = some o) (good : GoodS (kj3 r) r o) : kj3 r (.fn x1 x2) := by
 intro h a1 a2 n1 n2
 rw [kbcd]
 unfold kdc at e
 refine Runs.step (kbr n1) ?_
 refine Runs.step (seen rfl) ?_
 refine Runs.step (kbr n2) ?_
 refine Runs.step (seen rfl) ?_
 refine Runs.cond (fun k5 => ?_) (fun k5 => ?_)
 ·replace e := (condT k5).symm.trans e
  cases e
  cases good
  exact Runs.ret ⟨(⟨none, 0, .is 0⟩ : Sl), rfl, (Nats.nil _), (Grow.refl _), (Own.nil _)⟩
 ·replace e := (condF k5).symm.trans e
  refine Runs.cond (fun k6 => ?_) (fun k6 => ?_)
  ·replace e := (condT k6).symm.trans e
   cases e
   cases good
   exact Runs.ret ⟨(⟨none, 0, .is 0⟩ : Sl), rfl, (Nats.nil _), (Grow.refl _), (Own.nil _)⟩
  ·replace e := (condF k6).symm.trans e
   obtain ⟨p7, q7, e⟩ := Option.bind_eq_some_iff.1 e
   obtain ⟨s7, H7, e7, n7, g7, o7⟩ := kpe q7
   refine Runs.step e7 ?_
   refine Runs.step (seen (asSl_v _)) ?_
   obtain ⟨H8, e8, g8⟩ := kjl (n2.grow g7) n7
   refine Runs.step e8 ?_
   refine Runs.step (seen (kb _ _)) ?_
   refine Runs.cond (fun k9 => ?_) (fun k9 => ?_)
   ·replace e := (condT k9).symm.trans e
    cases e
    cases good
    exact Runs.ret ⟨(⟨none, 0, .is 0⟩ : Sl), rfl, (Nats.nil _), (g7.trans g8), (Own.nil _)⟩
   ·replace e := (condF k9).symm.trans e
    refine Runs.new fun H10 b10 g10 => ?_
    refine Runs.step (kl3 (n2.grow ((g7.trans g8).trans g10))) ?_
    obtain ⟨c11, q11, e⟩ := Option.bind_eq_some_iff.1 e
    obtain ⟨s11, H11, e11, n11, g11, o11⟩ := kri b10 (n2.grow ((g7.trans g8).trans g10)) g10 (Nat.le_refl _) c11.down
    refine Runs.step e11 ?_
    refine Runs.step (asSl_v _) ?_
    obtain ⟨s12, H12, e12, n12, g12, o12⟩ := kpz (n1.grow (((g7.trans g8).trans g10).trans g11)) (n2.grow (((g7.trans g8).trans g10).trans g11))
    refine Runs.step e12 ?_
    refine Runs.step (seen (asSl_v _)) ?_
    refine Runs.new fun H13 b13 g13 => ?_
    refine Runs.puts b13 rfl fun H14 b14 u14 => ?_
    obtain ⟨c15_0, q15_0, e⟩ := Option.bind_eq_some_iff.1 e
    obtain ⟨s15, H15, e15, n15, g15, o15⟩ := k4v 1  c15_0.down
    refine Runs.step e15 ?_
    refine Runs.step rfl ?_
    refine Runs.ifT rfl ?_
    refine Runs.step (seenAt rfl rfl) ?_
    refine Runs.step (seenAt rfl (asSl_v _)) ?_
    refine Runs.new fun H16 b16 g16 => ?_
    refine Runs.puts b16 rfl fun H17 b17 u17 => ?_
    cases e
    exact good (((((((((g7.trans g8).trans g10).trans g11).trans g12).trans g13).updr (Nat.le_trans (((((g7.trans g8).trans g10).trans g11).trans g12)).size (Nat.le_refl _)) u14).trans g15).trans g16).updr (Nat.le_trans ((((((((g7.trans g8).trans g10).trans g11).trans g12).trans g13).updr (Nat.le_trans (((((g7.trans g8).trans g10).trans g11).trans g12)).size (Nat.le_refl _)) u14).trans g15)).size (Nat.le_refl _)) u17) (n2.grow (((((((((g7.trans g8).trans g10).trans g11).trans g12).trans g13).updr (Nat.le_trans (((((g7.trans g8).trans g10).trans g11).trans g12)).size (Nat.le_refl _)) u14).trans g15).trans g16).updr (Nat.le_trans ((((((((g7.trans g8).trans g10).trans g11).trans g12).trans g13).updr (Nat.le_trans (((((g7.trans g8).trans g10).trans g11).trans g12)).size (Nat.le_refl _)) u14).trans g15)).size (Nat.le_refl _)) u17)) (n11.grow (((((g12.trans g13).updr (Nat.le_trans (g12).size (Nat.le_refl _)) u14).trans g15).trans g16).updr (Nat.le_trans ((((g12.trans g13).updr (Nat.le_trans (g12).size (Nat.le_refl _)) u14).trans g15)).size (Nat.le_refl _)) u17)) (n12.grow ((((g13.updr (Nat.le_refl _) u14).trans g15).trans g16).updr (Nat.le_trans (((g13.updr (Nat.le_refl _) u14).trans g15)).size (Nat.le_refl _)) u17)) (((g15.trans g16).updr (Nat.le_trans (g15).size (Nat.le_refl _)) u17).has b14) (Nats.nil _) b17 (n15.grow (g16.updr (Nat.le_refl _) u17)) (Nat.le_trans (((((g7.trans g8).trans g10).trans g11).trans g12)).size (Nat.le_refl _)) (Nat.le_trans ((((((((g7.trans g8).trans g10).trans g11).trans g12).trans g13).updr (Nat.le_trans (((((g7.trans g8).trans g10).trans g11).trans g12)).size (Nat.le_refl _)) u14).trans g15)).size (Nat.le_refl _)) (Av.of_base n2 (Nat.le_trans (((((g7.trans g8).trans g10).trans g11).trans g12)).size (Nat.le_refl _))) (Av.of_base n2 (Nat.le_trans ((((((((g7.trans g8).trans g10).trans g11).trans g12).trans g13).updr (Nat.le_trans (((((g7.trans g8).trans g10).trans g11).trans g12)).size (Nat.le_refl _)) u14).trans g15)).size (Nat.le_refl _))) (Av.of_base n11 (Nat.le_trans (g12).size (Nat.le_refl _))) (Av.of_base n11 (Nat.le_trans ((((g12.trans g13).updr (Nat.le_trans (g12).size (Nat.le_refl _)) u14).trans g15)).size (Nat.le_refl _))) (Av.of_base n12 (Nat.le_refl _)) (Av.of_base n12 (Nat.le_trans (((g13.updr (Nat.le_refl _) u14).trans g15)).size (Nat.le_refl _))) (Av.nil _ _) (Av.nil _ _) (Av.of_own o15 (b14).lt) (Av.of_base n15 (Nat.le_refl _)) (Nat.ne_of_lt (Nat.lt_of_lt_of_le (g15.has b14).lt (Nat.le_refl _)))
theorem kbcn {r : kec} {o : kfm ⊕ kec} {x1 : List Nat} {x2 : List Nat} {x3 : List Nat} {p4c0 : Bool} {x4c1 : List Nat} {p5c0 : Bool} {x5c1 : List Nat} (e : kep x1 x2 x3 p4c0 x4c1 p5c0 x5c1 = some o) (good : GoodS (kj3 r) r o) : kj3 r (.p9 x1 x2 x3 p4c0 x4c1 p5c0 x5c1) := by
 intro h0 h a1 a2 a3 s4c1 s5c1 i4 i5 g0 n1 n2 n3 b4 n4c1 b5 n5c1 hi4 hi5 av1_4 av1_5 av2_4 av2_5 av3_4 av3_5 av4c1_4 av4c1_5 av5c1_4 av5c1_5 ne4_5
 rw [kba6]
 unfold kep at e
 rw [n3.len]
 refine Runs.cond (fun k6 => ?_) (fun k6 => ?_)
 ·replace e := (condT k6).symm.trans e
  obtain ⟨s7, s7b, H7, e7, n7, n7b, g7, o7, o7b⟩ := koq n2 n3
  refine Runs.step e7 ?_
  refine Runs.step rfl ?_
  refine Runs.step (seen (asSl_v _)) ?_
  refine Runs.step (seen (asSl_v _)) ?_
  refine Runs.step (seen (kb _ _)) ?_
  refine Runs.new fun H8 b8 g8 => ?_
  refine Runs.step (AH.has.rd ((g7.trans g8).has b5) 0 rfl rfl) ?_
  refine Runs.step (AH.has.rd ((g7.trans g8).has b5) 1 rfl (asSl_v _)) ?_
  obtain ⟨s9, H9, e9, n9, g9, o9⟩ := kcl (n7.grow g8) false
  refine Runs.step e9 ?_
  refine Runs.step rfl ?_
  refine Runs.ifT rfl ?_
  refine Runs.step (seenAt rfl rfl) ?_
  refine Runs.step (seenAt rfl (asSl_v _)) ?_
  refine Runs.when (g9.same ((g7.trans g8).has b5) 0 2) ?_
  refine Runs.when (g9.same b8 0 0) ?_
  obtain ⟨_, H10, e10, s10, rfl, n10, g10, o10⟩ := kzz n9 (n5c1.grow ((g7.trans g8).trans g9)) ((fromI false ((divN x2 x3).1)).1) p5c0
  refine Runs.step e10 ?_
  refine Runs.step rfl ?_
  refine Runs.step rfl ?_
  refine Runs.ifT rfl ?_
  refine Runs.step (seenAt rfl rfl) ?_
  refine Runs.step (seenAt rfl (asSl_v _)) ?_
  refine Runs.step (seen (kb _ _)) ?_
  refine Runs.when (g10.same (g9.has b8) 0 0) ?_
  refine Runs.puts ((g9.trans g10).has b8) rfl fun H11 b11 u11 => ?_
  have n9_11 := (n9.grow g10).upda (Av.of_own o9 (b8).lt) u11
  have n10_11 := n10.upda (Av.of_own o10 (g9.has b8).lt) u11
  refine Runs.step (AH.has.rd (((((g7.trans g8).trans g9).trans g10).updr (Nat.le_trans (g7).size (Nat.le_refl _)) u11).has b4) 0 rfl rfl) ?_
  refine Runs.step (AH.has.rd (((((g7.trans g8).trans g9).trans g10).updr (Nat.le_trans (g7).size (Nat.le_refl _)) u11).has b4) 1 rfl (asSl_v _)) ?_
  refine Runs.step (AH.has.rd b11 0 rfl rfl) ?_
  refine Runs.step (AH.has.rd b11 1 rfl (asSl_v _)) ?_
  obtain ⟨_, H12, e12, s12, rfl, n12, g12, o12⟩ := k8s (n4c1.grow ((((g7.trans g8).trans g9).trans g10).updr (Nat.le_trans (g7).size (Nat.le_refl _)) u11)) n10_11 p4c0 (((kba ((fromI false ((divN x2 x3).1)).1) ((fromI false ((divN x2 x3).1)).2) p5c0 x5c1).1))
  refine Runs.step e12 ?_
  refine Runs.step rfl ?_
  refine Runs.step rfl ?_
  refine Runs.ifT rfl ?_
  refine Runs.step (seenAt rfl rfl) ?_
  refine Runs.step (seenAt rfl (asSl_v _)) ?_
  refine Runs.step (seen (kb _ _)) ?_
  refine Runs.new fun H13 b13 g13 => ?_
  refine Runs.puts b13 rfl fun H14 b14 u14 => ?_
  refine Runs.step (AH.has.rd ((((((((g7.trans g8).trans g9).trans g10).updr (Nat.le_trans (g7).size (Nat.le_refl _)) u11).trans g12).trans g13).updr (Nat.le_trans ((((((g7.trans g8).trans g9).trans g10).updr (Nat.le_trans (g7).size (Nat.le_refl _)) u11).trans g12)).size (Nat.le_refl _)) u14).has b5) 0 rfl rfl) ?_
  refine Runs.step (AH.has.rd ((((((((g7.trans g8).trans g9).trans g10).updr (Nat.le_trans (g7).size (Nat.le_refl _)) u11).trans g12).trans g13).updr (Nat.le_trans ((((((g7.trans g8).trans g9).trans g10).updr (Nat.le_trans (g7).size (Nat.le_refl _)) u11).trans g12)).size (Nat.le_refl _)) u14).has b5) 1 rfl (asSl_v _)) ?_
  refine Runs.puts ((((((((g7.trans g8).trans g9).trans g10).updr (Nat.le_trans (g7).size (Nat.le_refl _)) u11).trans g12).trans g13).updr (Nat.le_trans ((((((g7.trans g8).trans g9).trans g10).updr (Nat.le_trans (g7).size (Nat.le_refl _)) u11).trans g12)).size (Nat.le_refl _)) u14).has b4) rfl fun H15 b15 u15 => ?_
  have n1_15 := (n1.grow (((((((g7.trans g8).trans g9).trans g10).updr (Nat.le_trans (g7).size (Nat.le_refl _)) u11).trans g12).trans g13).updr (Nat.le_trans ((((((g7.trans g8).trans g9).trans g10).updr (Nat.le_trans (g7).size (Nat.le_refl _)) u11).trans g12)).size (Nat.le_refl _)) u14)).upda av1_4 u15
  have n2_15 := (n2.grow (((((((g7.trans g8).trans g9).trans g10).updr (Nat.le_trans (g7).size (Nat.le_refl _)) u11).trans g12).trans g13).updr (Nat.le_trans ((((((g7.trans g8).trans g9).trans g10).updr (Nat.le_trans (g7).size (Nat.le_refl _)) u11).trans g12)).size (Nat.le_refl _)) u14)).upda av2_4 u15
  have n3_15 := (n3.grow (((((((g7.trans g8).trans g9).trans g10).updr (Nat.le_trans (g7).size (Nat.le_refl _)) u11).trans g12).trans g13).updr (Nat.le_trans ((((((g7.trans g8).trans g9).trans g10).updr (Nat.le_trans (g7).size (Nat.le_refl _)) u11).trans g12)).size (Nat.le_refl _)) u14)).upda av3_4 u15
  have n4c1_15 := (n4c1.grow (((((((g7.trans g8).trans g9).trans g10).updr (Nat.le_trans (g7).size (Nat.le_refl _)) u11).trans g12).trans g13).updr (Nat.le_trans ((((((g7.trans g8).trans g9).trans g10).updr (Nat.le_trans (g7).size (Nat.le_refl _)) u11).trans g12)).size (Nat.le_refl _)) u14)).upda av4c1_4 u15
  have n5c1_15 := (n5c1.grow (((((((g7.trans g8).trans g9).trans g10).updr (Nat.le_trans (g7).size (Nat.le_refl _)) u11).trans g12).trans g13).updr (Nat.le_trans ((((((g7.trans g8).trans g9).trans g10).updr (Nat.le_trans (g7).size (Nat.le_refl _)) u11).trans g12)).size (Nat.le_refl _)) u14)).upda av5c1_4 u15
  have n7_15 := (n7.grow ((((((g8.trans g9).trans g10).updr (Nat.le_refl _) u11).trans g12).trans g13).updr (Nat.le_trans (((((g8.trans g9).trans g10).updr (Nat.le_refl _) u11).trans g12)).size (Nat.le_refl _)) u14)).upda (Av.of_own o7 (b4).lt) u15
  have n7b_15 := (n7b.grow ((((((g8.trans g9).trans g10).updr (Nat.le_refl _) u11).trans g12).trans g13).updr (Nat.le_trans (((((g8.trans g9).trans g10).updr (Nat.le_refl _) u11).trans g12)).size (Nat.le_refl _)) u14)).upda (Av.of_own o7b (b4).lt) u15
  have n9_15 := (n9_11.grow ((g12.trans g13).updr (Nat.le_trans (g12).size (Nat.le_refl _)) u14)).upda (Av.of_own o9 ((g7.trans g8).has b4).lt) u15
  have n10_15 := (n10_11.grow ((g12.trans g13).updr (Nat.le_trans (g12).size (Nat.le_refl _)) u14)).upda (Av.of_own o10 (((g7.trans g8).trans g9).has b4).lt) u15
  have n12_15 := (n12.grow (g13.updr (Nat.le_refl _) u14)).upda (Av.of_own o12 (((((g7.trans g8).trans g9).trans g10).updr (Nat.le_trans (g7).size (Nat.le_refl _)) u11).has b4).lt) u15
  have b5_15 := AH.has.updr ((((((((g7.trans g8).trans g9).trans g10).updr (Nat.le_trans (g7).size (Nat.le_refl _)) u11).trans g12).trans g13).updr (Nat.le_trans ((((((g7.trans g8).trans g9).trans g10).updr (Nat.le_trans (g7).size (Nat.le_refl _)) u11).trans g12)).size (Nat.le_refl _)) u14).has b5) (Ne.symm ne4_5) u15
  have b11_15 := AH.has.updr (((g12.trans g13).updr (Nat.le_trans (g12).size (Nat.le_refl _)) u14).has b11) (Nat.ne_of_gt (Nat.lt_of_lt_of_le (g7.has b4).lt (Nat.le_refl _))) u15
  have b14_15 := AH.has.updr b14 (Nat.ne_of_gt (Nat.lt_of_lt_of_le ((((((g7.trans g8).trans g9).trans g10).updr (Nat.le_trans (g7).size (Nat.le_refl _)) u11).trans g12).has b4).lt (Nat.le_refl _))) u15
  refine Runs.step (AH.has.rd b14_15 0 rfl rfl) ?_
  refine Runs.step (AH.has.rd b14_15 1 rfl (asSl_v _)) ?_
  refine Runs.puts b5_15 rfl fun H16 b16 u16 => ?_
  have n1_16 := n1_15.upda av1_5 u16
  have n2_16 := n2_15.upda av2_5 u16
  have n3_16 := n3_15.upda av3_5 u16
  have n4c1_16 := n4c1_15.upda av4c1_5 u16
  have n5c1_16 := n5c1_15.upda av5c1_5 u16
  have n7_16 := n7_15.upda (Av.of_own o7 (b5).lt) u16
  have n7b_16 := n7b_15.upda (Av.of_own o7b (b5).lt) u16
  have n9_16 := n9_15.upda (Av.of_own o9 ((g7.trans g8).has b5).lt) u16
  have n10_16 := n10_15.upda (Av.of_own o10 (((g7.trans g8).trans g9).has b5).lt) u16
  have n12_16 := n12_15.upda (Av.of_own o12 (((((g7.trans g8).trans g9).trans g10).updr (Nat.le_trans (g7).size (Nat.le_refl _)) u11).has b5).lt) u16
  have b15_16 := AH.has.updr b15 ne4_5 u16
  have b11_16 := AH.has.updr b11_15 (Nat.ne_of_gt (Nat.lt_of_lt_of_le (g7.has b5).lt (Nat.le_refl _))) u16
  have b14_16 := AH.has.updr b14_15 (Nat.ne_of_gt (Nat.lt_of_lt_of_le ((((((g7.trans g8).trans g9).trans g10).updr (Nat.le_trans (g7).size (Nat.le_refl _)) u11).trans g12).has b5).lt (Nat.le_refl _))) u16
  cases e
  exact good ((((((((((g0.trans g7).trans g8).trans g9).trans g10).updr (Nat.le_trans ((g0.trans g7)).size (Nat.le_refl _)) u11).trans g12).trans g13).updr (Nat.le_trans (((((((g0.trans g7).trans g8).trans g9).trans g10).updr (Nat.le_trans ((g0.trans g7)).size (Nat.le_refl _)) u11).trans g12)).size (Nat.le_refl _)) u14).updr hi4 u15).updr hi5 u16) n1_16 n3_16 n7b_16 b15_16 n5c1_16 b16 n12_16 hi4 hi5 av1_4 av1_5 av3_4 av3_5 (Av.of_own o7b (b4).lt) (Av.of_own o7b (b5).lt) av5c1_4 av5c1_5 (Av.of_own o12 (((((g7.trans g8).trans g9).trans g10).updr (Nat.le_trans (g7).size (Nat.le_refl _)) u11).has b4).lt) (Av.of_own o12 (((((g7.trans g8).trans g9).trans g10).updr (Nat.le_trans (g7).size (Nat.le_refl _)) u11).has b5).lt) ne4_5
 ·replace e := (condF k6).symm.trans e
  obtain ⟨p7, q7, e⟩ := Option.bind_eq_some_iff.1 e
  obtain ⟨s7, H7, e7, n7, g7, o7⟩ := kpe q7
  refine Runs.step e7 ?_
  refine Runs.step (seen (asSl_v _)) ?_
  obtain ⟨H8, e8, g8⟩ := kjl (n2.grow g7) n7
  refine Runs.step e8 ?_
  refine Runs.step (seen (kb _ _)) ?_
  refine Runs.cond (fun k9 => ?_) (fun k9 => ?_)
  ·replace e := (condT k9).symm.trans e
   cases e
   cases good
   exact Runs.ret ⟨(⟨none, 0, .is 0⟩ : Sl), rfl, (Nats.nil _), ((g0.trans g7).trans g8), (Own.nil _)⟩
  ·replace e := (condF k9).symm.trans e
   refine Runs.new fun H10 b10 g10 => ?_
   refine Runs.new fun H11 b11 g11 => ?_
   refine Runs.step (AH.has.rd ((((g7.trans g8).trans g10).trans g11).has b4) 0 rfl rfl) ?_
   refine Runs.step (AH.has.rd ((((g7.trans g8).trans g10).trans g11).has b4) 1 rfl (asSl_v _)) ?_
   obtain ⟨s12, H12, e12, n12, g12, o12⟩ := kcl (n1.grow (((g7.trans g8).trans g10).trans g11)) false
   refine Runs.step e12 ?_
   refine Runs.step rfl ?_
   refine Runs.ifT rfl ?_
   refine Runs.step (seenAt rfl rfl) ?_
   refine Runs.step (seenAt rfl (asSl_v _)) ?_
   refine Runs.when (g12.same ((((g7.trans g8).trans g10).trans g11).has b4) 0 2) ?_
   refine Runs.when (g12.same b11 0 0) ?_
   refine Runs.when (g12.same (g11.has b10) 0 0) ?_
   obtain ⟨_, H13, e13, s13, s13b, rfl, n13, n13b, g13, o13, o13b⟩ := kbag (n4c1.grow ((((g7.trans g8).trans g10).trans g11).trans g12)) n12 p4c0 ((fromI false x1).1)
   refine Runs.step e13 ?_
   refine Runs.step rfl ?_
   refine Runs.step rfl ?_
   refine Runs.ifT rfl ?_
   refine Runs.step (seenAt rfl rfl) ?_
   refine Runs.step (seenAt rfl (asSl_v _)) ?_
   refine Runs.step rfl ?_
   refine Runs.ifT rfl ?_
   refine Runs.step (seenAt rfl rfl) ?_
   refine Runs.step (seenAt rfl (asSl_v _)) ?_
   refine Runs.step (seen (kb _ _)) ?_
   refine Runs.when (g13.same (g12.has b11) 0 0) ?_
   refine Runs.when (g13.same ((g11.trans g12).has b10) 0 0) ?_
   refine Runs.puts (((g11.trans g12).trans g13).has b10) rfl fun H14 b14 u14 => ?_
   have n12_14 := (n12.grow g13).upda (Av.of_own o12 (g11.has b10).lt) u14
   have n13_14 := n13.upda (Av.of_own o13 ((g11.trans g12).has b10).lt) u14
   have n13b_14 := n13b.upda (Av.of_own o13b ((g11.trans g12).has b10).lt) u14
   have b11_14 := AH.has.updr ((g12.trans g13).has b11) (Nat.ne_of_gt (Nat.lt_of_lt_of_le (b10).lt (Nat.le_refl _))) u14
   refine Runs.puts b11_14 rfl fun H15 b15 u15 => ?_
   have n12_15 := n12_14.upda (Av.of_own o12 (b11).lt) u15
   have n13_15 := n13_14.upda (Av.of_own o13 (g12.has b11).lt) u15
   have n13b_15 := n13b_14.upda (Av.of_own o13b (g12.has b11).lt) u15
   have b14_15 := AH.has.updr b14 (Nat.ne_of_lt (Nat.lt_of_lt_of_le (b10).lt (Nat.le_refl _))) u15
   refine Runs.step (AH.has.rd b15 1 rfl (asSl_v _)) ?_
   cases e
   cases good
   exact Runs.ret ⟨s13b, rfl, n13b_15, ((((((((g0.trans g7).trans g8).trans g10).trans g11).trans g12).trans g13).updr (Nat.le_trans (((g0.trans g7).trans g8)).size (Nat.le_refl _)) u14).updr (Nat.le_trans ((((g0.trans g7).trans g8).trans g10)).size (Nat.le_refl _)) u15), (o13b.of_le (((((g0.trans g7).trans g8).trans g10).trans g11).trans g12))⟩
theorem kbck {s : kfm} {r : kec} (it : Iter kmg s r) : kj3 r s := Iter.ind (fun s o e good => by
 cases s with
 | fn x1 x2 => exact @k3z _ _ x1 x2 e good
 | p9 x1 x2 x3 p4c0 x4c1 p5c0 x5c1 => exact @kbcn _ _ x1 x2 x3 p4c0 x4c1 p5c0 x5c1 e good
 ) it
end Go.Ab

/- squeezed -/
set_option linter.unusedVariables false
set_option linter.unusedSimpArgs false
set_option maxRecDepth 10000
namespace Go.Ab
open Go.Proofs Go.Num
theorem knd {a b : Nat} (ha : a < B ^ 64) (hb : b < B ^ 64) : cmpN (digs B a) (digs B b) = cmp a b := by
 unfold cmpN
 rw [if_pos ⟨kx ha, kx hb⟩, kg B2, kg B2]
theorem cmp_eq {a b : Nat} : cmp a b = 0 ↔ a = b := by
 unfold cmp
 by_cases h : a < b
 ·rw [if_pos h]; omega
 ·rw [if_neg h]
  by_cases h2 : a = b
  ·rw [if_pos h2]; omega
  ·rw [if_neg h2]; omega
structure Eu (n A X Y : Nat) (e : Int) (u v : Nat) : Prop where
 sign : e = 1 ∨ e = -1
 sum : u * Y + v * X = n
 ub : u ≤ n
 one : (n : Int) ∣ e * u * A - X
 two : (n : Int) ∣ -(e * v) * A - Y
theorem Eu.vb {n A X Y : Nat} {e : Int} {u v : Nat} (E : Eu n A X Y e u v) (hX : 0 < X) : v ≤ n := by
 have h1 : v * 1 ≤ v * X := Nat.mul_le_mul_left _ hX
 have := E.sum
 omega
theorem Eu.next {n A X Y : Nat} {e : Int} {u v : Nat} (E : Eu n A X Y e u v) (hY : 0 < Y) (hX : 0 < X) : Eu n A Y (X % Y) (-e) v (u + X / Y * v) := by
 have dm := Nat.div_add_mod X Y
 refine ⟨?_, ?_, E.vb hX, ?_, ?_⟩
 ·rcases E.sign with h | h <;> subst h <;> simp
 ·have h := E.sum
  have h1 : v * X = v * (Y * (X / Y)) + v * (X % Y) := by rw [← Nat.mul_add, dm]
  have h2 : v * (Y * (X / Y)) = X / Y * v * Y := by rw [Nat.mul_comm Y, ← Nat.mul_assoc, Nat.mul_comm v]
  rw [Nat.add_mul]
  omega
 ·have := E.two
  rwa [Int.neg_mul e (v : Int)]
 ·have h1 := E.one
  have h2 := Int.dvd_mul_of_dvd_right (b := ((X / Y : Nat) : Int)) E.two
  have h3 := Int.dvd_sub h1 h2
  have e1 : e * (u : Int) * (A : Int) - (X : Int) - ((X / Y : Nat) : Int) * (-(e * (v : Int)) * (A : Int) - (Y : Int)) = -(-e * ((u + X / Y * v : Nat) : Int)) * (A : Int) - ((X % Y : Nat) : Int) := by
   have hX : (X : Int) = (Y : Int) * ((X / Y : Nat) : Int) + ((X % Y : Nat) : Int) := by rw [← Int.natCast_mul, ← Int.natCast_add, dm]
   generalize X / Y = q at *
   generalize X % Y = r at *
   rw [hX, Int.natCast_add, Int.natCast_mul]
   simp only [Int.neg_mul, Int.mul_add, Int.add_mul, Int.mul_sub, Int.mul_neg, Int.neg_neg]
   have a1 : e * ((q : Int) * (v : Int)) * (A : Int) = (q : Int) * (e * (v : Int) * (A : Int)) := by
    rw [← Int.mul_assoc, Int.mul_comm e (q : Int), Int.mul_assoc (q : Int), Int.mul_assoc (q : Int)]
   have a2 : (Y : Int) * (q : Int) = (q : Int) * (Y : Int) := Int.mul_comm _ _
   rw [a1, a2]
   omega
  rwa [e1] at h3
def InvAns (n A X Y : Nat) (r : List Nat × Int) : Prop := (Nat.gcd X Y ≠ 1 → r = ([], 6)) ∧ (Nat.gcd X Y = 1 → ∃ w : Nat, w < n ∧ r = (digs B w, 0) ∧ w * A % n = 1)
theorem kzq {n A : Nat} (hn : n < B ^ 64) (hn2 : 2 ≤ n) : ∀ (Y X : Nat) (e : Int) (u v : Nat), X < B ^ 64 → Y < B ^ 64 → 0 < X → Eu n A X Y e u v →
  ∃ r, Iter knh (.p7 (digs B n) (digs B Y) (digs B X) (intD (e * u)).1 (intD (e * u)).2 (intD (-(e * v))).1 (intD (-(e * v))).2) r ∧
   Iter kmg (.p9 (digs B n) (digs B X) (digs B Y) (intD (e * u)).1 (intD (e * u)).2 (intD (-(e * v))).1 (intD (-(e * v))).2) r ∧ InvAns n A X Y r := by
 intro Y
 induction Y using Nat.strongRecOn with
 | ind Y ih =>
  intro X e u v hX hY hX0 E
  have he : e.natAbs = 1 := by rcases E.sign with h | h <;> subst h <;> rfl
  have hu : (e * (u : Int)).natAbs = u := by rw [Int.natAbs_mul, he, Nat.one_mul, Int.natAbs_natCast]
  have hv : (-(e * (v : Int))).natAbs = v := by rw [Int.natAbs_neg, Int.natAbs_mul, he, Nat.one_mul, Int.natAbs_natCast]
  have hvn : v ≤ n := E.vb hX0
  have hun : u ≤ n := E.ub
  have fn : fromI false (digs B n) = intD (n : Int) := by rw [kcx hn]; rfl
  have hni : ((n : Int)).natAbs < B ^ 64 := by simpa using hn
  by_cases h0 : Y = 0
  ·subst h0
   have hg : Nat.gcd X 0 = X := Nat.gcd_zero_right X
   have h64 := kpy
   have c1 : cmpN (digs B X) [1] = cmp X 1 := by rw [← kik]; exact knd hX (by omega)
   have c2 : cmpN (digs B X) (digs B 1) = cmp X 1 := knd hX (by omega)
   by_cases h1 : X = 1
   ·subst h1
    have hfl := kba9 (u := e * (u : Int)) (v := (n : Int)) (by omega) hni (by omega)
    have hw0 := Int.emod_nonneg (e * (u : Int)) (show (n : Int) ≠ 0 by omega)
    have hw1 := Int.emod_lt_of_pos (e * (u : Int)) (show 0 < (n : Int) by omega)
    obtain ⟨w, hw⟩ : ∃ w : Nat, e * (u : Int) % (n : Int) = (w : Int) := ⟨_, (Int.toNat_of_nonneg hw0).symm⟩
    have hdw : (intD (e * (u : Int) % (n : Int))).2 = digs B w := by rw [hw, kn8]
    refine ⟨(digs B w, 0), .done ?_, .done ?_, fun h => absurd hg h, fun _ => ⟨w, by omega, rfl, ?_⟩⟩
    ·show kes _ _ _ _ _ _ _ = _
     unfold kes
     rw [kbh, condF (by rfl), kfs, Option.bind_some, c1, condF (by rfl), fn, hfl]
     dsimp only
     rw [hdw]
    ·show kep _ _ _ _ _ _ _ = _
     unfold kep
     rw [kbh, condF (by rfl), kfs, Option.bind_some, c2, condF (by rfl), fn, hfl]
     dsimp only
     rw [hdw]
    ·have hd := E.one
     have h2 : (e * (u : Int) * (A : Int)) % (n : Int) = 1 := by
      have h3 := Int.emod_eq_emod_iff_emod_sub_eq_zero.2 (Int.emod_eq_zero_of_dvd hd)
      rw [h3]
      exact Int.emod_eq_of_lt (by omega) (by omega)
     have h4 : (w : Int) % (n : Int) = (e * (u : Int)) % (n : Int) := by rw [← hw, Int.emod_emod_of_dvd _ (Int.dvd_refl _)]
     have h5 : ((w * A % n : Nat) : Int) = 1 := by
      rw [Int.natCast_emod, Int.natCast_mul, Int.mul_emod, h4, ← Int.mul_emod]
      exact h2
     omega
   ·refine ⟨([], 6), .done ?_, .done ?_, fun _ => rfl, fun h => absurd (hg.symm.trans h) h1⟩
    ·show kes _ _ _ _ _ _ _ = _
     unfold kes
     rw [kbh, condF (by rfl), kfs, Option.bind_some, c1, condT (by rw [Bool.not_eq_true', decide_eq_false_iff_not, cmp_eq]; exact h1)]
    ·show kep _ _ _ _ _ _ _ = _
     unfold kep
     rw [kbh, condF (by rfl), kfs, Option.bind_some, c2, condT (by rw [Bool.not_eq_true', decide_eq_false_iff_not, cmp_eq]; exact h1)]
  ·have hY0 : 0 < Y := by omega
   have E' := E.next hY0 hX0
   have hv' := E'.vb hY0
   have hm := Nat.mod_lt X hY0
   have hne : digs B Y ≠ [] := fun h => h0 ((kg2 B2).1 h)
   have hlen : (digs B Y).length ≠ 0 := by simpa using hne
   obtain ⟨r, it1, it2, ans⟩ := ih (X % Y) hm Y (-e) v (u + X / Y * v) hY (by omega) hY0 E'
   have dv : divN (digs B X) (digs B Y) = (digs B (X / Y), digs B (X % Y), 0) := by
    unfold divN
    rw [if_pos ⟨kx hX, kx hY⟩, if_neg hne, kg B2, kg B2]
   have hq : X / Y < B ^ 64 := Nat.lt_of_le_of_lt (Nat.div_le_self _ _) hX
   have fq : fromI false (digs B (X / Y)) = intD ((X / Y : Nat) : Int) := by rw [kcx hq]; rfl
   have hqi : (((X / Y : Nat) : Int)).natAbs < B ^ 64 := by rw [Int.natAbs_natCast]; exact hq
   have hp : (((X / Y : Nat) : Int) * -(e * (v : Int))).natAbs = X / Y * v := by rw [Int.natAbs_mul, hv, Int.natAbs_natCast]
   have mul := kbbz hqi (show (-(e * (v : Int))).natAbs < B ^ 64 by omega)
   rw [if_pos (by rw [hp]; omega)] at mul
   have es : e * (u : Int) - ((X / Y : Nat) : Int) * -(e * (v : Int)) = -(-e * ((u + X / Y * v : Nat) : Int)) := by
    generalize X / Y = q
    rw [Int.natCast_add, Int.natCast_mul, Int.neg_mul, Int.neg_neg, Int.mul_add, Int.mul_neg, Int.mul_left_comm e]
    omega
   have hn' : (-(-e * ((u + X / Y * v : Nat) : Int))).natAbs = u + X / Y * v := by
    rw [Int.natAbs_neg, Int.natAbs_mul, Int.natAbs_neg, he, Nat.one_mul, Int.natAbs_natCast]
   have sub := k0e (u := e * (u : Int)) (v := ((X / Y : Nat) : Int) * -(e * (v : Int))) (by omega) (by rw [hp]; omega)
   rw [es, if_pos (by rw [hn']; omega)] at sub
   have et : -(e * (v : Int)) = -e * (v : Int) := by rw [Int.neg_mul]
   refine ⟨r, .next ?_ it1, .next ?_ it2, ?_⟩
   ·show kes _ _ _ _ _ _ _ = _
    unfold kes
    rw [condT (by rw [decide_eq_true_eq]; omega), dv]
    dsimp only
    rw [fq, mul]
    dsimp only
    rw [sub, ← et]
   ·show kep _ _ _ _ _ _ _ = _
    unfold kep
    rw [condT (by rw [decide_eq_true_eq]; omega), dv]
    dsimp only
    rw [fq, mul]
    dsimp only
    rw [sub, ← et]
   ·have hg : Nat.gcd X Y = Nat.gcd Y (X % Y) := by rw [Nat.gcd_comm X Y, Nat.gcd_rec, Nat.gcd_comm]
    unfold InvAns
    rw [hg]
    exact ans
end Go.Ab

/- squeezed -/
set_option linter.unusedVariables false
set_option linter.unusedSimpArgs false
set_option maxRecDepth 10000
namespace Go.Ab
open Go.Proofs Go.Num
def kwc (xs ys : List Nat) (r : List Nat × Int) : Prop :=
 (rt xs = true ∧ rt ys = true ∧ 2 ≤ num B ys → InvAns (num B ys) (num B xs) (num B ys) (num B xs % num B ys) r) ∧ (¬ (rt xs = true ∧ rt ys = true ∧ 2 ≤ num B ys) → r = ([], 1))
theorem k4h {ys : List Nat} (ly : ∀ y ∈ ys, y < B) (t : Trim ys) : ys = digs B (num B ys) := (kdz B2 ly t).symm
theorem ktu {xs ys : List Nat} (lx : ∀ x ∈ xs, x < B) (ly : ∀ y ∈ ys, y < B) : ∃ r, Iter knh (.fn xs ys) r ∧ Iter kmg (.fn xs ys) r ∧ kwc xs ys r := by
 cases hx : rt xs with
 | false =>
  refine ⟨([], 1), .done ?_, .done ?_, fun h => absurd h.1 (by simp [hx]), fun _ => rfl⟩
  ·show kc9 _ _ = _
   unfold kc9
   rw [hx]
   rfl
  ·show kdc _ _ = _
   unfold kdc
   rw [hx]
   rfl
 | true =>
  cases hy : rt ys with
  | false =>
   refine ⟨([], 1), .done ?_, .done ?_, fun h => absurd h.2.1 (by simp [hy]), fun _ => rfl⟩
   ·show kc9 _ _ = _
    unfold kc9
    rw [hx, hy]
    rfl
   ·show kdc _ _ = _
    unfold kdc
    rw [hx, hy]
    rfl
  | true =>
   obtain ⟨ly64, ty⟩ := rt_iff.1 hy
   obtain ⟨n, hn⟩ : ∃ n, n = num B ys := ⟨_, rfl⟩
   have hys : ys = digs B n := by rw [hn]; exact k4h ly ty
   have hn64 : n < B ^ 64 := by rw [hn]; exact khp ly hy
   have h64 := kpy
   have c1 : cmpN ys [1] = cmp n 1 := by rw [hys, ← kik]; exact knd hn64 (by omega)
   have c2 : cmpN ys (digs B 2) = cmp n 2 := by rw [hys]; exact knd hn64 (by omega)
   have p2 : u64P 2 = some 2 := kz (n := 2) (by decide)
   by_cases h2 : 2 ≤ n
   ·have hne : ys ≠ [] := by
     rintro rfl
     simp [num] at hn
     omega
    have hm := Nat.mod_lt (num B xs) (show 0 < n by omega)
    have E0 : Eu n (num B xs) n (num B xs % n) (-1) 0 1 := by
     refine ⟨.inr rfl, by omega, by omega, ?_, ?_⟩
     ·rw [Int.natCast_zero, Int.mul_zero, Int.zero_mul, Int.zero_sub]
      exact Int.dvd_neg.2 (Int.dvd_refl _)
     ·rw [Int.natCast_one, Int.mul_one, Int.neg_neg, Int.one_mul]
      have := Nat.div_add_mod (num B xs) n
      refine ⟨((num B xs / n : Nat) : Int), ?_⟩
      rw [← Int.natCast_mul]
      omega
    obtain ⟨r, it1, it2, ans⟩ := kzq hn64 h2 (num B xs % n) n (-1) 0 1 hn64 (by omega) (by omega) E0
    have dv : (divN xs ys).2.1 = digs B (num B xs % n) := by rw [kp7 hx hy hne, hn]
    have e0 : intD (-1 * ((0 : Nat) : Int)) = (false, []) := k4t
    have e1 : intD (-(-1 * ((1 : Nat) : Int))) = ofI 1 := by rw [k2x (by decide)]; rfl
    rw [e0, e1] at it1 it2
    refine ⟨r, .next ?_ it1, .next ?_ it2, fun _ => by rw [← hn]; exact ans, fun h => absurd ⟨hx, hy, hn ▸ h2⟩ h⟩
    ·show kc9 _ _ = _
     unfold kc9
     rw [hx, hy, condF (by rfl), condF (by rfl), kfs, Option.bind_some, c1, condF (by rw [decide_eq_false_iff_not, cmp_le]; omega), ki (by decide), Option.bind_some, dv, ← hys]
    ·show kdc _ _ = _
     unfold kdc
     rw [hx, hy, condF (by rfl), condF (by rfl), p2, Option.bind_some, c2, condF (by rw [decide_eq_false_iff_not, cmp_lt]; omega), ki (by omega), Option.bind_some, ki (by decide), Option.bind_some, dv, ← hys]
   ·refine ⟨([], 1), .done ?_, .done ?_, fun h => absurd (hn ▸ h.2.2) h2, fun _ => rfl⟩
    ·show kc9 _ _ = _
     unfold kc9
     rw [hx, hy, condF (by rfl), condF (by rfl), kfs, Option.bind_some, c1, condT (by rw [decide_eq_true_eq, cmp_le]; omega)]
    ·show kdc _ _ = _
     unfold kdc
     rw [hx, hy, condF (by rfl), condF (by rfl), p2, Option.bind_some, c2, condT (by rw [decide_eq_true_eq, cmp_lt]; omega)]
noncomputable def invN (xs ys : List Nat) : List Nat × Int := by
 classical
 exact if h : (∀ x ∈ xs, x < B) ∧ (∀ y ∈ ys, y < B) then (ktu h.1 h.2).choose else ([], 0)
theorem kol {xs ys : List Nat} (lx : ∀ x ∈ xs, x < B) (ly : ∀ y ∈ ys, y < B) : Iter knh (.fn xs ys) (invN xs ys) ∧ Iter kmg (.fn xs ys) (invN xs ys) ∧ kwc xs ys (invN xs ys) := by
 unfold invN
 rw [dif_pos ⟨lx, ly⟩]
 exact (ktu lx ly).choose_spec
theorem kxs {h : AH} {s t : Sl} {xs ys : List Nat} (n : Nats h s xs) (m : Nats h t ys) : Runs (go (.fn F.kfq [s.v, t.v]) h) (kp1 h (invN xs ys)) := k7o (kol n.lt m.lt).1 n m
theorem ky4 {h : AH} {s t : Sl} {xs ys : List Nat} (n : Nats h s xs) (m : Nats h t ys) : Runs (go (.fn F.kf1 [s.v, t.v]) h) (kpn h (invN xs ys)) := kbck (kol n.lt m.lt).2.1 n m
end Go.Ab

/- squeezed -/
set_option linter.unusedVariables false
set_option linter.unusedSimpArgs false
namespace Go.Ab
variable {P : Program}
inductive All2 {α β : Type} (R : α → β → Prop) : List α → List β → Prop
 | nil : All2 R [] []
 | cons {a : α} {b : β} {ls : List α} {bs : List β} : R a b → All2 R ls bs → All2 R (a :: ls) (b :: bs)
section
variable {α β : Type} {R S : α → β → Prop}
theorem All2.imp (f : ∀ a b, R a b → S a b) {ls : List α} {bs : List β} (a : All2 R ls bs) : All2 S ls bs := by
 induction a with
 | nil => exact .nil
 | cons h _ ih => exact .cons (f _ _ h) ih
theorem All2.length {ls : List α} {bs : List β} (a : All2 R ls bs) : ls.length = bs.length := by
 induction a with
 | nil => rfl
 | cons h _ ih => simp [ih]
theorem All2.get {ls : List α} {bs : List β} (a : All2 R ls bs) : ∀ {i : Nat} {y : β}, bs[i]? = some y → ∃ x, ls[i]? = some x ∧ R x y := by
 induction a with
 | nil => intro i y h; simp at h
 | cons h _ ih =>
  intro i y hy
  cases i with
  | zero => cases hy; exact ⟨_, rfl, h⟩
  | succ i => exact ih hy
theorem All2.snoc {ls : List α} {bs : List β} (a : All2 R ls bs) {x : α} {y : β} (h : R x y) : All2 R (ls ++ [x]) (bs ++ [y]) := by
 induction a with
 | nil => exact .cons h .nil
 | cons h' _ ih => exact .cons h' ih
end
structure El (α : Type) where
 w : Nat
 pos : 0 < w
 has : AH → List AV → α → Prop
 av : Nat → List AV → α → Prop
 len : ∀ {h : AH} {cs : List AV} {a : α}, has h cs a → cs.length = w
 grow : ∀ {h h' : AH} {cs : List AV} {a : α}, Grow h h' → has h cs a → has h' cs a
 upd : ∀ {h h' : AH} {i : Nat} {cs : List AV} {a : α}, has h cs a → av i cs a → Upd h h' i → has h' cs a
 new : ∀ {h : AH} {i : Nat} {cs : List AV} {a : α}, has h cs a → h.blks.size ≤ i → av i cs a
def El.int (k : IntKind) : El Int where
 w := 1
 pos := by decide
 has _ cs n := cs = [.int k n]
 av _ _ _ := True
 len e := by rw [e]; rfl
 grow _ e := e
 upd e _ _ := e
 new _ _ := trivial
def El.bool : El Bool where
 w := 1
 pos := by decide
 has _ cs b := cs = [.bool b]
 av _ _ _ := True
 len e := by rw [e]; rfl
 grow _ e := e
 upd e _ _ := e
 new _ _ := trivial
theorem Sl.vs_inj {s t : Sl} (h : [Sl.v s] = [Sl.v t]) : s = t := by
 cases s; cases t
 simp only [Sl.v, List.cons.injEq, AV.slice.injEq, and_true] at h
 obtain ⟨rfl, rfl, rfl⟩ := h
 rfl
def El.nats : El (List Nat) where
 w := 1
 pos := by decide
 has h cs xs := ∃ s, cs = [Sl.v s] ∧ Nats h s xs
 av i cs xs := ∃ s, cs = [Sl.v s] ∧ Av s i xs
 len := fun ⟨s, e, _⟩ => by rw [e]; rfl
 grow g := fun ⟨s, e, n⟩ => ⟨s, e, n.grow g⟩
 upd := fun ⟨s, e, n⟩ ⟨t, e', a⟩ u => by
  rw [e] at e'
  cases Sl.vs_inj e'
  exact ⟨s, e, n.upda a u⟩
 new := fun ⟨s, e, n⟩ hi => ⟨s, e, Av.of_base n hi⟩
def El.pair {α β : Type} (A : El α) (B : El β) : El (α × β) where
 w := A.w + B.w
 pos := by have := A.pos; omega
 has h cs p := ∃ c1 c2, cs = c1 ++ c2 ∧ A.has h c1 p.1 ∧ B.has h c2 p.2
 av i cs p := ∃ c1 c2, cs = c1 ++ c2 ∧ c1.length = A.w ∧ A.av i c1 p.1 ∧ B.av i c2 p.2
 len := fun ⟨c1, c2, e, a, b⟩ => by rw [e, List.length_append, A.len a, B.len b]
 grow g := fun ⟨c1, c2, e, a, b⟩ => ⟨c1, c2, e, A.grow g a, B.grow g b⟩
 upd := fun ⟨c1, c2, e, a, b⟩ ⟨d1, d2, e', l, a', b'⟩ u => by
  rw [e] at e'
  obtain ⟨rfl, rfl⟩ := List.append_inj e' (by rw [A.len a, l])
  exact ⟨c1, c2, e, A.upd a a' u, B.upd b b' u⟩
 new := fun ⟨c1, c2, e, a, b⟩ hi => ⟨c1, c2, e, A.len a, A.new a hi, B.new b hi⟩
theorem kfj {w : Nat} : ∀ {rows : List (List AV)}, (∀ r ∈ rows, r.length = w) → rows.flatten.length = rows.length * w
 | [], _ => by simp
 | r :: rows, h => by
  rw [List.flatten_cons, List.length_append, kfj (fun q hq => h q (by simp [hq])), h r (by simp), List.length_cons, Nat.add_mul]
  omega
theorem koi {w : Nat} : ∀ {rows : List (List AV)}, (∀ r ∈ rows, r.length = w) → ∀ {i : Nat} {r : List AV} {k : Nat} {v : AV}, rows[i]? = some r → r[k]? = some v → rows.flatten[i * w + k]? = some v
 | [], _, i, r, k, v, hi, _ => by simp at hi
 | q :: rows, h, 0, r, k, v, hi, hk => by
  cases hi
  rw [List.flatten_cons, List.getElem?_append_left (by have := (List.getElem?_eq_some_iff.1 hk).1; omega)]
  simpa using hk
 | q :: rows, h, i + 1, r, k, v, hi, hk => by
  have := koi (fun q hq => h q (by simp [hq])) (show rows[i]? = some r from hi) hk
  rw [List.flatten_cons, List.getElem?_append_right (by rw [h q (by simp), Nat.add_mul]; omega), h q (by simp), show (i + 1) * w + k - w = i * w + k from by rw [Nat.add_mul]; omega]
  exact this
theorem All2.rows {α : Type} {E : El α} {h : AH} {rows : List (List AV)} {xs : List α} (a : All2 (E.has h) rows xs) : ∀ r ∈ rows, r.length = E.w := by
 induction a with
 | nil => simp
 | cons h' _ ih =>
  intro r hr
  rcases List.mem_cons.1 hr with rfl | hr
  ·exact E.len h'
  ·exact ih r hr
structure Seq {α : Type} (E : El α) (h : AH) (s : Sl) (xs : List α) : Prop where
 rows : ∃ rows, Cells h s E.w rows.flatten ∧ All2 (E.has h) rows xs
 len : s.len = xs.length
 short : xs.length ≤ 9223372036854775807
theorem Seq.grow {α : Type} {E : El α} {h h' : AH} {s : Sl} {xs : List α} (n : Seq E h s xs) (g : Grow h h') : Seq E h' s xs := by
 obtain ⟨⟨rows, c, a⟩, l, sh⟩ := n
 exact ⟨⟨rows, c.grow g, a.imp fun _ _ => E.grow g⟩, l, sh⟩
theorem Seq.nil {α : Type} (E : El α) (h : AH) : Seq E h ⟨none, 0, .is 0⟩ [] := ⟨⟨[], Cells.nil h _, .nil⟩, rfl, by simp⟩
def atX {α : Type} (xs : List α) (i : Int) : Option α := if 0 ≤ i then xs[i.toNat]? else none
theorem kvz {α : Type} {xs : List α} {i : Int} {y : α} (q : atX xs i = some y) : ∃ j : Nat, i = (j : Int) ∧ xs[j]? = some y := by
 unfold atX at q
 split at q
 ·exact ⟨i.toNat, by omega, q⟩
 ·cases q
theorem kns {α : Type} {xs : List α} {i : Nat} (h : i < xs.length) : atX xs (i : Int) = some xs[i] := by
 unfold atX
 rw [if_pos (by omega), Int.toNat_natCast, List.getElem?_eq_getElem h]
structure Lies (h : AH) (r : Ref) (cs : List AV) : Prop where
 at' : ∀ k v, cs[k]? = some v → h.cell (r.add k) = some v
theorem Lies.rd {A : Type} {f : AV → Option A} {h h' : AH} {r : Ref} {cs : List AV} (l : Lies h r cs) (g : Grow h h') (k : Nat) {v : AV} {x : A} (hk : cs[k]? = some v) (hf : f v = some x) : (h'.cell (r.add k)).bind f = some x := by
 rw [g.cell_some (l.at' k v hk)]
 exact hf
theorem Lies.rd0 {A : Type} {f : AV → Option A} {h h' : AH} {r : Ref} {cs : List AV} (l : Lies h r cs) (g : Grow h h') {v : AV} {x : A} (hk : cs[0]? = some v) (hf : f v = some x) : (h'.cell r).bind f = some x := by
 have := l.rd g 0 hk hf
 rwa [Ref.add_zero] at this
theorem Seq.at {α : Type} {E : El α} {h : AH} {s : Sl} {xs : List α} (n : Seq E h s xs) {i : Int} {y : α} (q : atX xs i = some y) : ∃ (r : Ref) (cs : List AV), idx s.ref xs.length i E.w = some r ∧ E.has h cs y ∧ Lies h r cs := by
 obtain ⟨⟨rows, c, a⟩, l, sh⟩ := n
 obtain ⟨j, rfl, hj⟩ := kvz q
 obtain ⟨cs, e1, e2⟩ := a.get hj
 have hjl := (List.getElem?_eq_some_iff.1 hj).1
 have hr := a.rows
 have key : ∀ k v, cs[k]? = some v → ∃ r, s.ref = some r ∧ h.cell (r.add (j * E.w + k)) = some v := fun k v hk => c.get _ _ (koi hr e1 hk)
 cases hs : s.ref with
 | none =>
  exfalso
  cases cs with
  | nil => have := E.len e2; have := E.pos; simp at *; omega
  | cons v vs =>
   obtain ⟨r, e, _⟩ := key 0 v rfl
   rw [hs] at e
   cases e
 | some r =>
  refine ⟨r.add (j * E.w), cs, ?_, e2, ⟨fun k v hk => ?_⟩⟩
  ·rw [kc6 _ _ _ _ (by omega) (by omega)]
   simp
  ·obtain ⟨r', e, e'⟩ := key k v hk
   rw [hs] at e
   cases e
   rw [Ref.add_add]
   exact e'
structure GL {α : Type} (E : El α) (elem : TypeId) (h : AH) (s : Sl) (i : Nat) (xs : List α) : Prop where
 rows : ∃ rows, Cells h s E.w rows.flatten ∧ All2 (fun cs a => E.has h cs a ∧ E.av i cs a) rows xs
 len : s.len = xs.length
 own : s.cap = .is s.len ∨ (s.ref = some (.new i 0) ∧ s.cap = .opn E.w ∧ ∃ bs, h.has i bs elem)
 loc : ∀ r, s.ref = some r → ∃ o, r = .new i o
theorem GL.nil {α : Type} (E : El α) (elem : TypeId) (h : AH) (i : Nat) : GL E elem h ⟨none, 0, .is 0⟩ i [] :=
 ⟨⟨[], Cells.nil h _, .nil⟩, rfl, .inl rfl, fun r hr => by cases hr⟩
theorem GL.one {α : Type} {E : El α} {elem e : TypeId} {h : AH} {i : Nat} {cs : List AV} {x : α} (b : h.has i cs e) (c : E.has h cs x) (a : E.av i cs x) : GL E elem h ⟨some (.new i 0), 1, .is 1⟩ i [x] :=
 ⟨⟨[cs], Cells.of_has (by simpa using b) (by simp [E.len c]), .cons ⟨c, a⟩ .nil⟩, rfl, .inl rfl, fun r hr => by cases hr; exact ⟨_, rfl⟩⟩
theorem GL.grow {α : Type} {E : El α} {elem : TypeId} {h h' : AH} {s : Sl} {i : Nat} {xs : List α} (v : GL E elem h s i xs) (g : Grow h h') : GL E elem h' s i xs := by
 obtain ⟨⟨rows, c, a⟩, l, o, lo⟩ := v
 exact ⟨⟨rows, c.grow g, a.imp fun _ _ p => ⟨E.grow g p.1, p.2⟩⟩, l, o.imp id fun ⟨e1, e2, bs, b⟩ => ⟨e1, e2, bs, g.has b⟩, lo⟩
theorem GL.seq {α : Type} {E : El α} {elem : TypeId} {h : AH} {s : Sl} {i : Nat} {xs : List α} (v : GL E elem h s i xs) (hs : xs.length ≤ 9223372036854775807) : Seq E h s xs := by
 obtain ⟨⟨rows, c, a⟩, l, o, lo⟩ := v
 exact ⟨⟨rows, c, a.imp fun _ _ p => p.1⟩, l, hs⟩
theorem GL.own_of {α : Type} {E : El α} {elem : TypeId} {h h0 : AH} {s : Sl} {i : Nat} {xs : List α} (v : GL E elem h s i xs) (hi : h0.blks.size ≤ i) : Own h0 s := fun r hr => by
 obtain ⟨o, rfl⟩ := v.loc r hr
 exact ⟨i, o, rfl, hi⟩
theorem AH.kill_Upd (h : AH) (i : Nat) : Upd h (h.kill (some (.new i 0))) i :=
 ⟨rfl, by simp [AH.kill], fun j hj _ => by
  show (h.blks.setIfInBounds i .dead)[j]? = _
  rw [Array.getElem?_setIfInBounds_ne (fun x => hj x.symm)]⟩
theorem GL.push {α : Type} {E : El α} {elem : TypeId} {h : AH} {s : Sl} {i : Nat} {xs : List α} (v : GL E elem h s i xs) {cs : List AV} {x : α} (c : E.has h cs x) (a : E.av i cs x) (hg : growOk P (xs.length + 1) elem E.w = true) :
  ∃ s' h', kp P s cs 1 elem E.w h = some (s'.v, h') ∧ GL E elem h' s' h.blks.size (xs ++ [x]) ∧ Upd h h' i := by
 obtain ⟨⟨rows, cc, aa⟩, l, o, lo⟩ := v
 rw [← l] at hg
 have fl : (s.len + 1) * E.w = (rows.flatten ++ cs).length := by rw [Nat.add_mul, cc.len, List.length_append, E.len c, Nat.one_mul]
 have fr : rows.flatten ++ cs = (rows ++ [cs]).flatten := by simp
 rcases o with e | ⟨e1, e2, bs, b⟩
 ·rw [kfy e (by omega) hg cc]
  refine ⟨_, _, rfl, ⟨⟨rows ++ [cs], ⟨rfl, by rw [← fr]; exact fl, fun j w hw => ⟨_, rfl, ?_⟩⟩, ?_⟩, by simp [l], .inr ⟨rfl, rfl, rows.flatten ++ cs, AH.has_push _ _ _⟩, fun r hr => by cases hr; exact ⟨_, rfl⟩⟩, (Grow.push _ _).toUpd i⟩
  ·rw [fr]
   simpa using hw
  ·refine All2.snoc (aa.imp fun _ _ p => ?_) ⟨E.grow (Grow.push _ _) c, E.new c (Nat.le_refl _)⟩
   exact ⟨E.grow (Grow.push _ _) p.1, E.new p.1 (Nat.le_refl _)⟩
 ·have hap : kp P s cs 1 elem E.w h = some (Sl.v ⟨some (.new h.blks.size 0), s.len + 1, .opn E.w⟩, (h.kill s.ref).push (.cells (rows.flatten ++ cs) elem)) := by
   unfold kp
   simp only [e2]
   rw [show Nat.beq 1 0 = false from rfl, show Nat.beq E.w E.w = true from Nat.beq_refl _]
   simp only [cond_false, hg, Bool.and_true, cond_true, e1, show h.blks[i]? = _ from b]
   have hgets := cc.gets
   rw [e1] at hgets
   simp only [hgets, Option.bind_some]
   rw [show Nat.beq elem elem = true from Nat.beq_refl _, cond_true]
   have : (AH.kill h (some (Ref.new i 0))).blks.size = h.blks.size := by simp [AH.kill]
   simp [AH.next, this, Sl.v]
   rfl
  rw [hap, e1]
  have sz : (h.kill (some (.new i 0))).blks.size = h.blks.size := by simp [AH.kill]
  have u : Upd h (h.kill (some (.new i 0))) i := AH.kill_Upd h i
  refine ⟨_, _, rfl, ⟨⟨rows ++ [cs], ⟨rfl, by rw [← fr]; exact fl, fun j w hw => ⟨_, rfl, ?_⟩⟩, ?_⟩, by simp [l], .inr ⟨rfl, rfl, rows.flatten ++ cs, ?_⟩, fun r hr => by cases hr; exact ⟨_, rfl⟩⟩, u.trans ((Grow.push _ _).toUpd i)⟩
  ·rw [fr, ← sz]
   simpa using hw
  ·refine All2.snoc (aa.imp fun _ _ p => ?_) ⟨E.grow (Grow.push _ _) (E.upd c a u), E.new c (Nat.le_refl _)⟩
   exact ⟨E.grow (Grow.push _ _) (E.upd p.1 p.2 u), E.new p.1 (Nat.le_refl _)⟩
  ·have := AH.has_push (h.kill (some (.new i 0))) (rows.flatten ++ cs) elem
   rw [sz] at this
   exact this
theorem kqn {h : AH} {i n : Nat} {cs : List AV} {e elem : TypeId} (b : h.has i cs e) (hl : n * P.cellsOf elem = cs.length) : kbf P elem (Sl.v ⟨some (.new i 0), n, .is n⟩) h = some (cs, n) :=
 khk (Cells.of_has b hl)
section
variable {Q : AV → AH → Prop}
theorem Runs.putAt {h : AH} {i o : Nat} {cs cs' vs : List AV} {e : TypeId} {K : AH → Option (AV × AH)} (b : h.has i cs e) (hl : o + vs.length ≤ cs.length) (hc : cs.take o ++ vs ++ cs.drop (o + vs.length) = cs') (H : ∀ h', h'.has i cs' e → Upd h h' i → Runs (K h') Q) : Runs ((h.puts ((Ref.new i 0).add o) vs).bind K) Q := by
 subst hc
 rw [Ref.add_new, Nat.zero_add, b.puts hl]
 exact H _ (AH.has_upd b _ e) (AH.upd_Upd h i _ e)
end
end Go.Ab

/- squeezed -/
set_option linter.unusedVariables false
set_option linter.unusedSimpArgs false
namespace Go.Ab
def overW (xs ys : List Nat) : Option (List Nat) := if ys.length ≤ xs.length then some (ys ++ xs.drop ys.length) else none
end Go.Ab

/- squeezed -/
set_option linter.unusedVariables false
set_option linter.unusedSimpArgs false
namespace Go.Ab
variable {P : Program}
def UpdO (h h' : AH) : Option Nat → Prop
 | none => Grow h h'
 | some k => Upd h h' k
def AvO (s : Sl) (xs : List Nat) : Option Nat → Prop
 | none => True
 | some k => Av s k xs
def LeO (n : Nat) : Option Nat → Prop
 | none => True
 | some k => n ≤ k
def LtO (n : Nat) : Option Nat → Prop
 | none => True
 | some k => k < n
def NeO (j : Nat) : Option Nat → Prop
 | none => True
 | some k => j ≠ k
def NeOO : Option Nat → Option Nat → Prop
 | none, _ => True
 | some j, i => NeO j i
theorem LeO.trans {m n : Nat} (h : m ≤ n) : ∀ {i : Option Nat}, LeO n i → LeO m i
 | none, _ => trivial
 | some k, l => Nat.le_trans h l
theorem NeO.of_le {j n : Nat} : ∀ {i : Option Nat}, LeO n i → j < n → NeO j i
 | none, _, _ => trivial
 | some k, l, h => by
  have : n ≤ k := l
  show j ≠ k
  omega
theorem NeOO.of_le {n : Nat} : ∀ {j i : Option Nat}, LtO n j → LeO n i → NeOO j i
 | none, _, _, _ => trivial
 | some j, _, l, h => NeO.of_le h l
theorem AvO.of_base {h0 : AH} {s : Sl} {xs : List Nat} (n : Nats h0 s xs) : ∀ {i : Option Nat}, LeO h0.blks.size i → AvO s xs i
 | none, _ => trivial
 | some k, l => Av.of_base n l
theorem AvO.of_own {h1 : AH} {s : Sl} {xs : List Nat} (o : Own h1 s) : ∀ {i : Option Nat}, LtO h1.blks.size i → AvO s xs i
 | none, _ => trivial
 | some k, l => Av.of_own o l
theorem AvO.nil (i : Option Nat) (s : Sl) : AvO s [] i := by
 cases i
 ·trivial
 ·exact .inl rfl
theorem UpdO.trans {h1 h2 h3 : AH} : ∀ {i : Option Nat}, UpdO h1 h2 i → UpdO h2 h3 i → UpdO h1 h3 i
 | none, u, w => Grow.trans u w
 | some k, u, w => Upd.trans u w
theorem Grow.updo {h h1 h2 : AH} (g : Grow h h1) : ∀ {i : Option Nat}, LeO h.blks.size i → UpdO h1 h2 i → Grow h h2
 | none, _, u => g.trans u
 | some k, l, u => g.updr l u
theorem AH.has.updo {h1 h2 : AH} {j : Nat} {cs : List AV} {e : TypeId} (b : h1.has j cs e) : ∀ {i : Option Nat}, NeO j i → UpdO h1 h2 i → h2.has j cs e
 | none, _, u => u.has b
 | some k, l, u => AH.has.updr b l u
theorem Vec.updo {h1 h2 : AH} {s : Sl} {j : Nat} {xs : List Nat} (b : Vec h1 s j xs) : ∀ {i : Option Nat}, NeO j i → UpdO h1 h2 i → Vec h2 s j xs
 | none, _, u => b.grow u
 | some k, l, u => b.updr l u
theorem Nats.updo {h1 h2 : AH} {s : Sl} {xs : List Nat} (b : Nats h1 s xs) : ∀ {i : Option Nat}, AvO s xs i → UpdO h1 h2 i → Nats h2 s xs
 | none, _, u => b.grow u
 | some k, l, u => b.upda l u
def GO {α : Type} (E : El α) (elem : TypeId) (h : AH) (s : Sl) (i : Option Nat) (xs : List α) : Prop :=
 xs.length ≤ 9223372036854775807 ∧ match i with
 | none => s = ⟨none, 0, .is 0⟩ ∧ xs = []
 | some k => GL E elem h s k xs ∧ k < h.blks.size
def AvE {α : Type} (E : El α) (cs : List AV) (x : α) : Option Nat → Prop
 | none => True
 | some k => E.av k cs x
variable {α : Type} {E : El α} {elem : TypeId}
theorem GO.none (E : El α) (elem : TypeId) (h : AH) : GO E elem h ⟨none, 0, .is 0⟩ none [] := ⟨by simp, rfl, rfl⟩
theorem GO.one {h : AH} {i : Nat} {cs : List AV} {x : α} {e : TypeId} (b : h.has i cs e) (c : E.has h cs x) (a : E.av i cs x) : GO E elem h ⟨some (.new i 0), 1, .is 1⟩ (some i) [x] :=
 ⟨by simp, GL.one b c a, b.lt⟩
theorem GO.grow {h h' : AH} {s : Sl} : ∀ {i : Option Nat} {xs : List α}, GO E elem h s i xs → Grow h h' → GO E elem h' s i xs
 | .none, _, v, g => v
 | .some k, _, ⟨l, v, lt⟩, g => ⟨l, v.grow g, Nat.lt_of_lt_of_le lt g.size⟩
theorem GO.lt {h : AH} {s : Sl} : ∀ {i : Option Nat} {xs : List α}, GO E elem h s i xs → LtO h.blks.size i
 | .none, _, _ => trivial
 | .some k, _, v => v.2.2
theorem GO.seq {h : AH} {s : Sl} : ∀ {i : Option Nat} {xs : List α}, GO E elem h s i xs → Seq E h s xs
 | .none, xs, ⟨_, e1, e2⟩ => by
  subst e1; subst e2
  exact Seq.nil E h
 | .some k, _, v => v.2.1.seq v.1
theorem GO.len {h : AH} {s : Sl} {i : Option Nat} {xs : List α} (v : GO E elem h s i xs) : s.len = xs.length := v.seq.len
theorem GO.own {h h0 : AH} {s : Sl} : ∀ {i : Option Nat} {xs : List α}, GO E elem h s i xs → LeO h0.blks.size i → Own h0 s
 | .none, _, v, _ => fun r hr => by rw [v.2.1] at hr; cases hr
 | .some k, _, v, l => v.2.1.own_of l
theorem GL.lt {h : AH} {s : Sl} {i : Nat} {x : α} {xs : List α} (v : GL E elem h s i (xs ++ [x])) : i < h.blks.size := by
 obtain ⟨⟨rows, c, a⟩, l, o, lo⟩ := v
 have hr : rows.length = xs.length + 1 := by have := All2.length a; simpa using this
 have hf := kfj (w := E.w) (rows := rows) (All2.rows (a.imp fun _ _ p => p.1))
 have hp := E.pos
 have h0 : 0 < rows.flatten.length := by
  rw [hf, hr]
  exact Nat.mul_pos (by omega) hp
 obtain ⟨r, e1, e2⟩ := c.get 0 _ (List.getElem?_eq_getElem h0)
 obtain ⟨k, rfl⟩ := lo r e1
 have := AH.cell_inn e2
 rw [Ref.add_new] at this
 exact this
theorem kvo {n m : Nat} (h : growOk P n elem m = true) : n ≤ 9223372036854775807 := by
 unfold growOk at h
 rw [Bool.and_eq_true, decide_eq_true_eq] at h
 have := h.1.2
 simp only [kbc] at this
 omega
theorem GO.push {h : AH} {s : Sl} {i : Option Nat} {xs : List α} (v : GO E elem h s i xs) {cs : List AV} {x : α} (c : E.has h cs x) (a : AvE E cs x i) (hg : growOk P (xs.length + 1) elem E.w = true) :
  ∃ s' h', kp P s cs 1 elem E.w h = some (s'.v, h') ∧ GO E elem h' s' (some h.blks.size) (xs ++ [x]) ∧ UpdO h h' i := by
 have hl := kvo hg
 cases i with
 | none =>
  obtain ⟨_, e1, e2⟩ := v
  subst e1; subst e2
  obtain ⟨s', h', e, v', u⟩ := (GL.nil E elem h h.blks.size).push c (E.new c (Nat.le_refl _)) hg
  exact ⟨s', h', e, ⟨by simp, v', v'.lt⟩, (Grow.refl h).updr (Nat.le_refl _) u⟩
 | some k =>
  obtain ⟨s', h', e, v', u⟩ := v.2.1.push c a hg
  exact ⟨s', h', e, ⟨by simpa using hl, v', v'.lt⟩, u⟩
theorem Seq.lit {h : AH} {i n : Nat} {rows : List (List AV)} {e : TypeId} {xs : List α} (b : h.has i rows.flatten e) (a : All2 (E.has h) rows xs) (hn : xs.length = n) (hs : n ≤ 9223372036854775807 := by decide) : Seq E h ⟨some (.new i 0), n, .is n⟩ xs := by
 refine ⟨⟨rows, Cells.of_has b ?_, a⟩, hn.symm, by omega⟩
 rw [kfj a.rows, All2.length a, hn]
theorem AvE.nats {s : Sl} {xs : List Nat} : ∀ {i : Option Nat}, AvO s xs i → AvE El.nats [s.v] xs i
 | .none, _ => trivial
 | .some k, a => ⟨s, rfl, a⟩
theorem AvE.int {k : IntKind} {n : Int} {cs : List AV} : ∀ {i : Option Nat}, AvE (El.int k) cs n i
 | .none => trivial
 | .some _ => trivial
theorem AvE.bool {b : Bool} {cs : List AV} : ∀ {i : Option Nat}, AvE El.bool cs b i
 | .none => trivial
 | .some _ => trivial
theorem AvE.pair {α β : Type} {A : El α} {B : El β} {c1 c2 : List AV} {a : α} {b : β} : ∀ {i : Option Nat}, c1.length = A.w → AvE A c1 a i → AvE B c2 b i → AvE (El.pair A B) (c1 ++ c2) (a, b) i
 | .none, _, _, _ => trivial
 | .some k, l, x, y => ⟨c1, c2, rfl, l, x, y⟩
end Go.Ab

/- squeezed -/
set_option linter.unusedVariables false
set_option linter.unusedSimpArgs false
namespace Go.Ab
variable {P : Program}
abbrev Fp := Nat → Prop
def Fp.no : Fp := fun _ => False
def Fp.all : Fp := fun _ => True
def Fp.or (S T : Fp) : Fp := fun j => S j ∨ T j
def Fp.below (n : Nat) : Fp := fun j => j < n
def Fp.from (n : Nat) : Fp := fun j => n ≤ j
def Fp.sl (s : Sl) (xs : List Nat) : Fp := fun j => ¬ Av s j xs
theorem Fp.not_or {S T : Fp} {i : Nat} (a : ¬ S i) (b : ¬ T i) : ¬ (Fp.or S T) i := fun h => h.elim a b
theorem Fp.not_no {i : Nat} : ¬ Fp.no i := fun h => h
theorem Fp.not_below {n i : Nat} (h : n ≤ i) : ¬ (Fp.below n) i := fun k => by
 have : i < n := k
 omega
theorem Fp.not_from {n i : Nat} (h : i < n) : ¬ (Fp.from n) i := fun k => by
 have : n ≤ i := k
 omega
theorem Fp.not_sl {s : Sl} {xs : List Nat} {i : Nat} (a : Av s i xs) : ¬ (Fp.sl s xs) i := fun k => k a
def NotO (S : Fp) : Option Nat → Prop
 | none => True
 | some k => ¬ S k
theorem NotO.or {S T : Fp} : ∀ {i : Option Nat}, NotO S i → NotO T i → NotO (Fp.or S T) i
 | none, _, _ => trivial
 | some _, a, b => Fp.not_or a b
theorem NotO.no : ∀ {i : Option Nat}, NotO Fp.no i
 | none => trivial
 | some _ => Fp.not_no
theorem NotO.below {n : Nat} : ∀ {i : Option Nat}, LeO n i → NotO (Fp.below n) i
 | none, _ => trivial
 | some _, l => Fp.not_below l
theorem NotO.from {n : Nat} : ∀ {i : Option Nat}, LtO n i → NotO (Fp.from n) i
 | none, _ => trivial
 | some _, l => Fp.not_from l
theorem NotO.sl {s : Sl} {xs : List Nat} : ∀ {i : Option Nat}, AvO s xs i → NotO (Fp.sl s xs) i
 | none, _ => trivial
 | some _, l => Fp.not_sl l
theorem NotO.mono {S T : Fp} (h : ∀ j, S j → T j) : ∀ {i : Option Nat}, NotO T i → NotO S i
 | none, _ => trivial
 | some _, l => fun k => l (h _ k)
structure Ef (α : Type) where
 w : Nat
 pos : 0 < w
 has : AH → Fp → List AV → α → Prop
 len : ∀ {h : AH} {S : Fp} {cs : List AV} {a : α}, has h S cs a → cs.length = w
 grow : ∀ {h h' : AH} {S : Fp} {cs : List AV} {a : α}, Grow h h' → has h S cs a → has h' S cs a
 mono : ∀ {h : AH} {S T : Fp} {cs : List AV} {a : α}, (∀ j, S j → T j) → has h S cs a → has h T cs a
 upd : ∀ {h h' : AH} {S : Fp} {i : Nat} {cs : List AV} {a : α}, ¬ S i → Upd h h' i → has h S cs a → has h' S cs a
 bound : ∀ {h : AH} {S : Fp} {cs : List AV} {a : α}, has h S cs a → has h (fun j => S j ∧ j < h.blks.size) cs a
theorem Ef.updo {α : Type} (E : Ef α) {h h' : AH} {S : Fp} {cs : List AV} {a : α} : ∀ {i : Option Nat}, NotO S i → UpdO h h' i → E.has h S cs a → E.has h' S cs a
 | none, _, u, e => E.grow u e
 | some _, n, u, e => E.upd n u e
def Ef.int (k : IntKind) : Ef Int where
 w := 1
 pos := by decide
 has _ _ cs n := cs = [.int k n]
 len e := by rw [e]; rfl
 grow _ e := e
 mono _ e := e
 upd _ _ e := e
 bound e := e
def Ef.bool : Ef Bool where
 w := 1
 pos := by decide
 has _ _ cs b := cs = [.bool b]
 len e := by rw [e]; rfl
 grow _ e := e
 mono _ e := e
 upd _ _ e := e
 bound e := e
def Ef.str : Ef ByteArray where
 w := 1
 pos := by decide
 has _ _ cs b := cs = [.str b]
 len e := by rw [e]; rfl
 grow _ e := e
 mono _ e := e
 upd _ _ e := e
 bound e := e
def Ef.nats : Ef (List Nat) where
 w := 1
 pos := by decide
 has h S cs xs := ∃ s, cs = [Sl.v s] ∧ Nats h s xs ∧ ∀ j, ¬ Av s j xs → S j
 len := fun ⟨s, e, _, _⟩ => by rw [e]; rfl
 grow g := fun ⟨s, e, n, a⟩ => ⟨s, e, n.grow g, a⟩
 mono m := fun ⟨s, e, n, a⟩ => ⟨s, e, n, fun j k => m j (a j k)⟩
 upd no u := fun ⟨s, e, n, a⟩ => ⟨s, e, n.upda (Classical.byContradiction fun k => no (a _ k)) u, a⟩
 bound := fun {h} _ _ _ ⟨s, e, n, a⟩ => ⟨s, e, n, fun j k => ⟨a j k, by
  rcases Nat.lt_or_ge j h.blks.size with h1 | h1
  ·exact h1
  ·exact absurd (Av.of_base n h1) k⟩⟩
def Ef.pair {α β : Type} (A : Ef α) (B : Ef β) : Ef (α × β) where
 w := A.w + B.w
 pos := by have := A.pos; omega
 has h S cs p := ∃ c1 c2, cs = c1 ++ c2 ∧ A.has h S c1 p.1 ∧ B.has h S c2 p.2
 len := fun ⟨c1, c2, e, a, b⟩ => by rw [e, List.length_append, A.len a, B.len b]
 grow g := fun ⟨c1, c2, e, a, b⟩ => ⟨c1, c2, e, A.grow g a, B.grow g b⟩
 mono m := fun ⟨c1, c2, e, a, b⟩ => ⟨c1, c2, e, A.mono m a, B.mono m b⟩
 upd no u := fun ⟨c1, c2, e, a, b⟩ => ⟨c1, c2, e, A.upd no u a, B.upd no u b⟩
 bound := fun ⟨c1, c2, e, a, b⟩ => ⟨c1, c2, e, A.bound a, B.bound b⟩
theorem All2.set {α β : Type} {R : α → β → Prop} {l : List α} {m : List β} (a : All2 R l m) {x : α} {y : β} (h : R x y) : ∀ j : Nat, All2 R (l.set j x) (m.set j y) := by
 induction a with
 | nil => intro j; exact .nil
 | cons h1 h2 ih =>
  intro j
  cases j with
  | zero => exact .cons h h2
  | succ j => exact .cons h1 (ih j)
def RefIn (S : Fp) (s : Sl) (n : Nat) : Prop := n = 0 ∨ ∀ j o, s.ref = some (.new j o) → S j
structure Sq {α : Type} (E : Ef α) (h : AH) (S : Fp) (s : Sl) (xs : List α) : Prop where
 rows : ∃ rows, Cells h s E.w rows.flatten ∧ All2 (E.has h S) rows xs
 len : s.len = xs.length
 short : xs.length ≤ 9223372036854775807
 at' : RefIn S s xs.length
variable {α : Type} {E : Ef α}
theorem Ef.rows {h : AH} {S : Fp} {rows : List (List AV)} {xs : List α} (a : All2 (E.has h S) rows xs) : ∀ r ∈ rows, r.length = E.w := by
 induction a with
 | nil => simp
 | cons h' _ ih =>
  intro r hr
  rcases List.mem_cons.1 hr with rfl | hr
  ·exact E.len h'
  ·exact ih r hr
theorem Cells.updn {h h' : AH} {s : Sl} {n : Nat} {flat : List AV} (c : Cells h s n flat) {i : Nat} (hi : ∀ o, s.ref ≠ some (.new i o)) (u : Upd h h' i) : Cells h' s n flat :=
 ⟨c.fit, c.len, fun k v hv => by
  obtain ⟨r, e1, e2⟩ := c.get k v hv
  refine ⟨r, e1, u.cell e2 fun o he => ?_⟩
  cases r with
  | old a => cases he
  | new j p =>
   simp only [Ref.add_new, Ref.new.injEq] at he
   exact hi p (by rw [e1, he.1])⟩
theorem Sq.grow {h h' : AH} {S : Fp} {s : Sl} {xs : List α} (n : Sq E h S s xs) (g : Grow h h') : Sq E h' S s xs := by
 obtain ⟨⟨rows, c, a⟩, l, sh, at'⟩ := n
 exact ⟨⟨rows, c.grow g, a.imp fun _ _ => E.grow g⟩, l, sh, at'⟩
theorem Sq.mono {h : AH} {S T : Fp} {s : Sl} {xs : List α} (n : Sq E h S s xs) (m : ∀ j, S j → T j) : Sq E h T s xs := by
 obtain ⟨⟨rows, c, a⟩, l, sh, at'⟩ := n
 exact ⟨⟨rows, c, a.imp fun _ _ => E.mono m⟩, l, sh, at'.imp id fun f j o e => m j (f j o e)⟩
theorem Sq.nil (E : Ef α) (h : AH) (S : Fp) : Sq E h S ⟨none, 0, .is 0⟩ [] := ⟨⟨[], Cells.nil h _, .nil⟩, rfl, by simp, .inl rfl⟩
theorem Sq.upd {h h' : AH} {S : Fp} {s : Sl} {xs : List α} (n : Sq E h S s xs) {i : Nat} (no : ¬ S i) (u : Upd h h' i) : Sq E h' S s xs := by
 obtain ⟨⟨rows, c, a⟩, l, sh, at'⟩ := n
 refine ⟨⟨rows, ?_, a.imp fun _ _ => E.upd no u⟩, l, sh, at'⟩
 rcases at' with e | f
 ·have hr : rows.length = 0 := by rw [All2.length a, e]
  have hr : rows = [] := List.length_eq_zero_iff.1 hr
  subst hr
  exact ⟨c.fit, c.len, fun k v hv => by simp at hv⟩
 ·exact c.updn (fun o ho => no (f i o ho)) u
theorem Sq.updo {h h' : AH} {S : Fp} {s : Sl} {xs : List α} (n : Sq E h S s xs) : ∀ {i : Option Nat}, NotO S i → UpdO h h' i → Sq E h' S s xs
 | none, _, u => n.grow u
 | some _, no, u => n.upd no u
theorem Sq.bound {h : AH} {S : Fp} {s : Sl} {xs : List α} (n : Sq E h S s xs) : Sq E h (fun j => S j ∧ j < h.blks.size) s xs := by
 obtain ⟨⟨rows, c, a⟩, l, sh, at'⟩ := n
 refine ⟨⟨rows, c, a.imp fun _ _ => E.bound⟩, l, sh, ?_⟩
 rcases Nat.eq_zero_or_pos xs.length with e | e
 ·exact .inl e
 ·refine .inr fun j o hj => ⟨(at'.resolve_left (by omega)) j o hj, ?_⟩
  have hf := kfj (w := E.w) (rows := rows) (Ef.rows a)
  have h0 : 0 < rows.flatten.length := by
   rw [hf, All2.length a]
   exact Nat.mul_pos e E.pos
  obtain ⟨r, e1, e2⟩ := c.get 0 _ (List.getElem?_eq_getElem h0)
  rw [hj] at e1
  cases e1
  have := AH.cell_inn e2
  rw [Ref.add_new] at this
  exact this
def Ef.seq {α : Type} (E : Ef α) : Ef (List α) where
 w := 1
 pos := by decide
 has h S cs xs := ∃ s, cs = [Sl.v s] ∧ Sq E h S s xs
 len := fun ⟨s, e, _⟩ => by rw [e]; rfl
 grow g := fun ⟨s, e, n⟩ => ⟨s, e, n.grow g⟩
 mono m := fun ⟨s, e, n⟩ => ⟨s, e, n.mono m⟩
 upd no u := fun ⟨s, e, n⟩ => ⟨s, e, n.upd no u⟩
 bound := fun ⟨s, e, n⟩ => ⟨s, e, n.bound⟩
theorem Sq.at {h : AH} {S : Fp} {s : Sl} {xs : List α} (n : Sq E h S s xs) {i : Int} {y : α} (q : atX xs i = some y) : ∃ (r : Ref) (cs : List AV), idx s.ref xs.length i E.w = some r ∧ E.has h S cs y ∧ Lies h r cs := by
 obtain ⟨⟨rows, c, a⟩, l, sh, at'⟩ := n
 obtain ⟨j, rfl, hj⟩ := kvz q
 obtain ⟨cs, e1, e2⟩ := a.get hj
 have hjl := (List.getElem?_eq_some_iff.1 hj).1
 have hr := Ef.rows a
 have key : ∀ k v, cs[k]? = some v → ∃ r, s.ref = some r ∧ h.cell (r.add (j * E.w + k)) = some v := fun k v hk => c.get _ _ (koi hr e1 hk)
 cases hs : s.ref with
 | none =>
  exfalso
  cases cs with
  | nil => have := E.len e2; have := E.pos; simp at *; omega
  | cons v vs =>
   obtain ⟨r, e, _⟩ := key 0 v rfl
   rw [hs] at e
   cases e
 | some r =>
  refine ⟨r.add (j * E.w), cs, ?_, e2, ⟨fun k v hk => ?_⟩⟩
  ·rw [kc6 _ _ _ _ (by omega) (by omega)]
   simp
  ·obtain ⟨r', e, e'⟩ := key k v hk
   rw [hs] at e
   cases e
   rw [Ref.add_add]
   exact e'
theorem Sq.lit {h : AH} {S : Fp} {i n : Nat} {rows : List (List AV)} {e : TypeId} {xs : List α} (b : h.has i rows.flatten e) (a : All2 (E.has h S) rows xs) (hn : xs.length = n) (hs : n ≤ 9223372036854775807 := by decide) : Sq E h (Fp.or (fun j => j = i) S) ⟨some (.new i 0), n, .is n⟩ xs := by
 refine ⟨⟨rows, Cells.of_has b ?_, a.imp fun _ _ => E.mono fun j k => .inr k⟩, hn.symm, by omega, .inr fun j o e => ?_⟩
 ·rw [kfj (Ef.rows a), All2.length a, hn]
 ·cases e
  exact .inl rfl
def GF {α : Type} (E : Ef α) (elem : TypeId) (h : AH) (S : Fp) (s : Sl) (i : Option Nat) (xs : List α) : Prop :=
 xs.length ≤ 9223372036854775807 ∧ match i with
 | none => s = ⟨none, 0, .is 0⟩ ∧ xs = []
 | some k => ¬ S k ∧ s.ref = some (.new k 0) ∧ s.len = xs.length ∧ ∃ rows e, h.has k rows.flatten e ∧ (s.cap = .is s.len ∨ s.cap = .opn E.w ∧ e = elem) ∧ All2 (E.has h S) rows xs
variable {elem : TypeId}
theorem GF.none (E : Ef α) (elem : TypeId) (h : AH) (S : Fp) : GF E elem h S ⟨none, 0, .is 0⟩ none [] := ⟨by simp, rfl, rfl⟩
theorem GF.one {h : AH} {S : Fp} {i : Nat} {cs : List AV} {x : α} {e : TypeId} (b : h.has i cs e) (c : E.has h S cs x) (a : ¬ S i) : GF E elem h S ⟨some (.new i 0), 1, .is 1⟩ (some i) [x] :=
 ⟨by simp, a, rfl, rfl, [cs], e, by simpa using b, .inl rfl, .cons c .nil⟩
theorem GF.lit {h : AH} {S : Fp} {i n : Nat} {rows : List (List AV)} {xs : List α} {e : TypeId} (b : h.has i rows.flatten e) (c : All2 (E.has h S) rows xs) (a : ¬ S i) (hn : xs.length = n) (hs : n ≤ 9223372036854775807 := by decide) : GF E elem h S ⟨some (.new i 0), n, .is n⟩ (some i) xs :=
 ⟨by omega, a, rfl, hn.symm, rows, e, b, .inl rfl, c⟩
theorem GF.grow {h h' : AH} {S : Fp} {s : Sl} : ∀ {i : Option Nat} {xs : List α}, GF E elem h S s i xs → Grow h h' → GF E elem h' S s i xs
 | .none, _, v, g => v
 | .some k, _, ⟨l, a, r, ln, rows, e, b, c, r2⟩, g => ⟨l, a, r, ln, rows, e, g.has b, c, r2.imp fun _ _ => E.grow g⟩
theorem GF.lt {h : AH} {S : Fp} {s : Sl} : ∀ {i : Option Nat} {xs : List α}, GF E elem h S s i xs → LtO h.blks.size i
 | .none, _, _ => trivial
 | .some k, _, ⟨l, a, r, ln, rows, e, b, c, r2⟩ => b.lt
theorem GF.mono {h : AH} {S T : Fp} {s : Sl} : ∀ {i : Option Nat} {xs : List α}, GF E elem h S s i xs → (∀ j, S j → T j) → NotO T i → GF E elem h T s i xs
 | .none, _, v, _, _ => v
 | .some k, _, ⟨l, a, r, ln, rows, e, b, c, r2⟩, m, no => ⟨l, no, r, ln, rows, e, b, c, r2.imp fun _ _ => E.mono m⟩
theorem GF.bound {h : AH} {S : Fp} {s : Sl} : ∀ {i : Option Nat} {xs : List α}, GF E elem h S s i xs → GF E elem h (fun j => S j ∧ j < h.blks.size) s i xs
 | .none, _, v => v
 | .some k, _, ⟨l, a, r, ln, rows, e, b, c, r2⟩ => ⟨l, fun x => a x.1, r, ln, rows, e, b, c, r2.imp fun _ _ => E.bound⟩
def Fp.opt (i : Option Nat) : Fp := fun j => i = some j
theorem GF.sq {h : AH} {S : Fp} {s : Sl} : ∀ {i : Option Nat} {xs : List α}, GF E elem h S s i xs → Sq E h (Fp.or (Fp.opt i) S) s xs
 | .none, xs, ⟨_, e1, e2⟩ => by
  subst e1; subst e2
  exact Sq.nil E h _
 | .some k, _, ⟨l, a, r, ln, rows, e, b, c, r2⟩ => by
  have hc := Cells.of_has (n := E.w) (m := s.len) b (by rw [kfj (Ef.rows r2), All2.length r2, ln])
  refine ⟨⟨rows, ⟨?_, ?_, ?_⟩, r2.imp fun _ _ => E.mono fun j x => .inr x⟩, ln, l, .inr fun j o ho => ?_⟩
  ·rcases c with c | c
   ·unfold Sl.fit; rw [c]; exact Nat.le_refl _
   ·unfold Sl.fit; rw [c.1]
  ·exact hc.len
  ·rw [r]; exact hc.get
  ·rw [r] at ho
   cases ho
   exact .inl rfl
theorem GF.len {h : AH} {S : Fp} {s : Sl} {i : Option Nat} {xs : List α} (v : GF E elem h S s i xs) : s.len = xs.length := v.sq.len
theorem GF.own {h h0 : AH} {S : Fp} {s : Sl} : ∀ {i : Option Nat} {xs : List α}, GF E elem h S s i xs → LeO h0.blks.size i → Own h0 s
 | .none, _, v, _ => fun r hr => by rw [v.2.1] at hr; cases hr
 | .some k, _, ⟨_, _, r, _⟩, l => fun q hq => by
  rw [r] at hq
  cases hq
  exact ⟨k, 0, rfl, l⟩
theorem GF.upd {h h' : AH} {S : Fp} {s : Sl} {i : Nat} (u : Upd h h' i) (no : ¬ S i) : ∀ {j : Option Nat} {xs : List α}, GF E elem h S s j xs → (∀ k, j = some k → k ≠ i) → GF E elem h' S s j xs
 | .none, _, v, _ => v
 | .some k, _, ⟨l, a, r, ln, rows, e, b, c, r2⟩, ne => ⟨l, a, r, ln, rows, e, b.updr (ne k rfl) u, c, r2.imp fun _ _ => E.upd no u⟩
theorem GF.updo {h h' : AH} {S : Fp} {s : Sl} {j : Option Nat} {xs : List α} (v : GF E elem h S s j xs) : ∀ {i : Option Nat}, NotO S i → NeOO j i → UpdO h h' i → GF E elem h' S s j xs
 | .none, _, _, u => v.grow u
 | .some i, no, ne, u => v.upd u no fun k e => by
  subst e
  exact ne
theorem GF.set {h : AH} {S T : Fp} {s : Sl} {i : Option Nat} {xs : List α} (v : GF E elem h S s i xs) {cs : List AV} {x : α} (c : E.has h T cs x) (no : NotO T i) {z : Int} {j : Nat} (q : inI xs.length z = some j) :
  ∃ r h', idx s.ref xs.length z E.w = some r ∧ h.puts r cs = some h' ∧ GF E elem h' (Fp.or S T) s i (xs.set j x) ∧ UpdO h h' i := by
 obtain ⟨hz, hj⟩ := kmx q
 cases i with
 | none =>
  obtain ⟨_, e1, e2⟩ := v
  subst e2
  simp at hj
 | some k =>
  obtain ⟨l, a, r, ln, rows, e, b, cp, r2⟩ := v
  have hrl := All2.length r2
  have hr := Ef.rows r2
  have hw := E.len c
  have hfl := kfj hr
  have hle : j * E.w + cs.length ≤ rows.flatten.length := by
   rw [hfl, hw, ← Nat.succ_mul]
   exact Nat.mul_le_mul_right _ (by omega)
  have hfl2 : ∀ (rs : List (List AV)) (n : Nat), (∀ r ∈ rs, r.length = E.w) → rs.flatten.take (n * E.w) = (rs.take n).flatten ∧ rs.flatten.drop (n * E.w) = (rs.drop n).flatten := by
   intro rs
   induction rs with
   | nil => intro n _; simp
   | cons r rs ih =>
    intro n hh
    cases n with
    | zero => simp
    | succ n =>
     have h1 := ih n fun q hq => hh q (by simp [hq])
     have h2 := hh r (by simp)
     rw [Nat.succ_mul, List.flatten_cons, List.take_succ_cons, List.drop_succ_cons, List.flatten_cons, ← h1.1, ← h1.2]
     constructor
     ·rw [List.take_append, h2, List.take_of_length_le (by omega), Nat.add_sub_cancel]
     ·rw [List.drop_append, h2, List.drop_eq_nil_of_le (by omega), Nat.add_sub_cancel, List.nil_append]
  have key : rows.flatten.take (j * E.w) ++ cs ++ rows.flatten.drop (j * E.w + cs.length) = (rows.set j cs).flatten := by
   have h3 : j * E.w + cs.length = (j + 1) * E.w := by rw [hw, Nat.succ_mul]
   rw [h3, (hfl2 rows j hr).1, (hfl2 rows (j + 1) hr).2, List.set_eq_take_append_cons_drop, if_pos (by omega)]
   simp
  refine ⟨.new k (j * E.w), h.upd k (rows.set j cs).flatten e, ?_, ?_, ⟨by simpa using l, fun x => x.elim a no, r, by simpa using ln, rows.set j cs, e, AH.has_upd b _ _, cp, ?_⟩, AH.upd_Upd h k _ e⟩
  ·rw [r, hz, kc6 _ _ _ _ (by omega) (by omega)]
   simp
  ·rw [b.puts hle, key]
  ·have : All2 (fun cs a => E.has h (Fp.or S T) cs a) (rows.set j cs) (xs.set j x) := All2.set (r2.imp fun _ _ => E.mono fun j k => .inl k) (E.mono (fun j k => .inr k) c) j
   exact this.imp fun _ _ y => E.upd (fun x => x.elim a no) (AH.upd_Upd h k _ e) y
theorem GF.push {h : AH} {S T : Fp} {s : Sl} {i : Option Nat} {xs : List α} (v : GF E elem h S s i xs) {cs : List AV} {x : α} (c : E.has h T cs x) (no : NotO T i) (hg : growOk P (xs.length + 1) elem E.w = true) :
  ∃ s' h', kp P s cs 1 elem E.w h = some (s'.v, h') ∧ GF E elem h' (fun j => (Fp.or S T) j ∧ j < h.blks.size) s' (some h.blks.size) (xs ++ [x]) ∧ UpdO h h' i := by
 have hl := kvo hg
 have hw := E.len c
 have nS : ¬ ((Fp.or S T) h.blks.size ∧ h.blks.size < h.blks.size) := fun k => Nat.lt_irrefl _ k.2
 cases i with
 | none =>
  obtain ⟨_, e1, e2⟩ := v
  subst e1; subst e2
  rw [kfy (c := 0) rfl (by simp) (by simpa using hg) (Cells.nil h E.w)]
  refine ⟨_, _, rfl, ⟨by simp, nS, rfl, by simp, [cs], elem, ?_, .inr ⟨rfl, rfl⟩, .cons ?_ .nil⟩, Grow.push _ _⟩
  ·simpa using AH.has_push h cs elem
  ·refine E.grow (Grow.push _ _) (E.mono (fun j k => ⟨.inr k.1, k.2⟩) (E.bound c))
 | some k =>
  have sq := v.sq
  obtain ⟨l, a, r, ln, rows, e, b, cp, r2⟩ := v
  have hr := Ef.rows r2
  have cc : Cells h s E.w rows.flatten := by
   have hc := Cells.of_has (n := E.w) (m := s.len) b (by rw [kfj hr, All2.length r2, ln])
   refine ⟨?_, hc.len, by rw [r]; exact hc.get⟩
   rcases cp with c | c
   ·unfold Sl.fit; rw [c]; exact Nat.le_refl _
   ·unfold Sl.fit; rw [c.1]
  rw [← ln] at hg
  rcases cp with ce | ⟨ce, rfl⟩
  ·rw [kfy ce (by omega) hg cc]
   refine ⟨_, _, rfl, ⟨by simpa using hl, nS, rfl, by simp [ln], rows ++ [cs], elem, ?_, .inr ⟨rfl, rfl⟩, All2.snoc (r2.imp fun _ _ y => ?_) ?_⟩, (Grow.push _ _).toUpd k⟩
   ·have := AH.has_push h (rows.flatten ++ cs) elem
    simpa using this
   ·exact E.grow (Grow.push _ _) (E.mono (fun j q => ⟨.inl q.1, q.2⟩) (E.bound y))
   ·exact E.grow (Grow.push _ _) (E.mono (fun j q => ⟨.inr q.1, q.2⟩) (E.bound c))
  ·have hap : kp P s cs 1 e E.w h = some (Sl.v ⟨some (.new h.blks.size 0), s.len + 1, .opn E.w⟩, (h.kill s.ref).push (.cells (rows.flatten ++ cs) e)) := by
    unfold kp
    simp only [ce]
    rw [show Nat.beq 1 0 = false from rfl, show Nat.beq E.w E.w = true from Nat.beq_refl _]
    simp only [cond_false, hg, Bool.and_true, cond_true, r, show h.blks[k]? = _ from b]
    have hgets := cc.gets
    rw [r] at hgets
    simp only [hgets, Option.bind_some]
    rw [show Nat.beq e e = true from Nat.beq_refl _, cond_true]
    have : (AH.kill h (some (Ref.new k 0))).blks.size = h.blks.size := by simp [AH.kill]
    simp [AH.next, this, Sl.v]
    rfl
   rw [hap, r]
   have sz : (h.kill (some (.new k 0))).blks.size = h.blks.size := by simp [AH.kill]
   have u : Upd h (h.kill (some (.new k 0))) k := AH.kill_Upd h k
   refine ⟨_, _, rfl, ⟨by simpa using hl, nS, rfl, by simp [ln], rows ++ [cs], e, ?_, .inr ⟨rfl, rfl⟩, All2.snoc (r2.imp fun _ _ y => ?_) ?_⟩, u.trans ((Grow.push _ _).toUpd k)⟩
   ·have := AH.has_push (h.kill (some (.new k 0))) (rows.flatten ++ cs) e
    rw [sz] at this
    simpa using this
   ·exact E.grow (Grow.push _ _) (E.mono (fun j q => ⟨.inl q.1, q.2⟩) (E.upd (fun q => a q.1) u (E.bound y)))
   ·exact E.grow (Grow.push _ _) (E.mono (fun j q => ⟨.inr q.1, q.2⟩) (E.upd (fun q => no q.1) u (E.bound c)))
end Go.Ab

/- squeezed -/
set_option linter.unusedVariables false
set_option linter.unusedSimpArgs false
namespace Go.Ab
variable {P : Program}
end Go.Ab

/- squeezed -/
set_option linter.unusedVariables false
set_option linter.unusedSimpArgs false
namespace Go.Ab
theorem All2.drop {α β : Type} {R : α → β → Prop} {l : List α} {m : List β} (a : All2 R l m) : ∀ k : Nat, All2 R (l.drop k) (m.drop k) := by
 induction a with
 | nil => intro k; simp; exact .nil
 | cons h t ih =>
  intro k
  cases k with
  | zero => exact .cons h t
  | succ k => exact ih k
theorem All2.take {α β : Type} {R : α → β → Prop} {l : List α} {m : List β} (a : All2 R l m) : ∀ k : Nat, All2 R (l.take k) (m.take k) := by
 induction a with
 | nil => intro k; simp; exact .nil
 | cons h t ih =>
  intro k
  cases k with
  | zero => exact .nil
  | succ k => exact .cons h (ih k)
theorem All2.append {α β : Type} {R : α → β → Prop} {l l' : List α} {m m' : List β} (a : All2 R l m) (b : All2 R l' m') : All2 R (l ++ l') (m ++ m') := by
 induction a with
 | nil => exact b
 | cons h t ih => exact .cons h ih
theorem kvd {w : Nat} : ∀ {rows : List (List AV)}, (∀ r ∈ rows, r.length = w) → ∀ k : Nat, rows.flatten.drop (k * w) = (rows.drop k).flatten
 | [], _, k => by simp
 | r :: rows, h, 0 => by simp
 | r :: rows, h, k + 1 => by
  rw [List.flatten_cons, List.drop_succ_cons, ← kvd (fun q hq => h q (by simp [hq])) k, Nat.add_mul, Nat.one_mul, Nat.add_comm, ← List.drop_drop, List.drop_left' (h r (by simp))]
theorem kud {w : Nat} : ∀ {rows : List (List AV)}, (∀ r ∈ rows, r.length = w) → ∀ k : Nat, rows.flatten.take (k * w) = (rows.take k).flatten
 | [], _, k => by simp
 | r :: rows, h, 0 => by simp
 | r :: rows, h, k + 1 => by
  rw [List.flatten_cons, List.take_succ_cons, List.flatten_cons, ← kud (fun q hq => h q (by simp [hq])) k, Nat.add_mul, Nat.one_mul, Nat.add_comm (k * w)]
  have hr := h r (by simp)
  rw [List.take_append, List.take_of_length_le (by omega), hr]
  congr 2
  omega
theorem kbb6 {s s' : Sl} {l m : Int} {w : Nat} (e : cutSl s l m w = some s') {j o : Nat} (hr : s'.ref = some (.new j o)) : ∃ o', s.ref = some (.new j o') := by
 have key : ∀ {a : Nat}, (s.ref.map (·.add a)) = some (Ref.new j o) → ∃ o', s.ref = some (.new j o') := fun {a} h => by
  cases hs : s.ref with
  | none => rw [hs] at h; cases h
  | some r =>
   rw [hs, Option.map_some, Option.some.injEq] at h
   cases r with
   | new i p =>
    simp only [Ref.add_new, Ref.new.injEq] at h
    exact ⟨p, by rw [h.1]⟩
   | old a' => cases h
 unfold cutSl at e
 split at e
 ·rename_i c hc
  cases hd : decide (0 ≤ l ∧ l ≤ m ∧ m ≤ (c : Int)) with
  | false => rw [hd] at e; cases e
  | true =>
   rw [hd, cond_true, Option.some.injEq] at e
   rw [← e] at hr
   dsimp only at hr
   split at hr
   ·exact ⟨o, hr⟩
   ·exact key hr
 ·rename_i sz hc
  cases hb : Nat.beq sz w with
  | false => rw [hb] at e; cases e
  | true =>
   rw [hb, cond_true] at e
   cases hd : decide (0 ≤ l ∧ l ≤ m ∧ m ≤ (s.len : Int)) with
   | false => rw [hd] at e; cases e
   | true =>
    rw [hd, cond_true, Option.some.injEq] at e
    rw [← e] at hr
    exact key hr
theorem Sq.cut {α : Type} {E : Ef α} {h : AH} {S : Fp} {s : Sl} {xs : List α} (n : Sq E h S s xs) {l m : Nat} (h1 : l ≤ m) (h2 : m ≤ xs.length) : ∃ s', cutSl s (l : Int) (m : Int) E.w = some s' ∧ Sq E h S s' ((xs.drop l).take (m - l)) ∧ ∀ h0, Own h0 s → Own h0 s' := by
 obtain ⟨⟨rows, c, a⟩, ln, sh, at'⟩ := n
 have hr := Ef.rows a
 obtain ⟨s', e, l', c', o⟩ := c.cut h1 (by rw [ln]; exact h2)
 refine ⟨s', e, ⟨⟨(rows.drop l).take (m - l), ?_, (a.drop l).take _⟩, by rw [l', List.length_take, List.length_drop]; omega, by rw [List.length_take, List.length_drop]; omega, ?_⟩, o⟩
 ·rw [← kud (fun r hr' => hr r (List.mem_of_mem_drop hr')), ← kvd hr]
  exact c'
 ·rcases at' with h0 | h0
  ·left
   rw [List.length_take, List.length_drop]
   omega
  ·right
   intro j o' hj
   obtain ⟨o2, e2⟩ := kbb6 e hj
   exact h0 j o2 e2
end Go.Ab

/- squeezed -/
set_option linter.unusedVariables false
set_option linter.unusedSimpArgs false
namespace Go.Ab
theorem AH.setBlk_get {h : AH} {l : Nat} {b : ABlk} (hl : l < h.blks.size) : (h.setBlk l b).blks[l]? = some b := by
 simp [AH.setBlk, hl]
theorem AH.setBlk_ne {h : AH} {l i : Nat} {b : ABlk} (hi : i ≠ l) : (h.setBlk l b).blks[i]? = h.blks[i]? := by
 simp only [AH.setBlk]
 rw [Array.getElem?_setIfInBounds_ne (fun e => hi e.symm)]
theorem AH.setBlk_size (h : AH) (l : Nat) (b : ABlk) : (h.setBlk l b).blks.size = h.blks.size := by simp [AH.setBlk]
theorem Grow.setBlk {h h1 : AH} (g : Grow h h1) {l : Nat} (hl : h.blks.size ≤ l) (b : ABlk) : Grow h (h1.setBlk l b) :=
 ⟨g.old, by rw [AH.setBlk_size]; exact g.size, fun i hi => by rw [AH.setBlk_ne (by omega)]; exact g.blk i hi⟩
theorem kte {h : AH} {l : Nat} {pe : Option Code} {f : FuncId} {fr : Fr} {ps : Array Tmp} {bs bd : Code} {d : Nat} (hb : h.blks[l]? = some (.loop .ready pe f fr ps bs bd d)) :
  beginA l h = some (h.setBlk l (.loop .busy pe f fr ps bs bd d)) := by
 simp only [beginA, hb]
theorem ktk {h : AH} {l : Nat} {st : LoopState} {pe : Option Code} {f : FuncId} {fr : Fr} {ps : Array Tmp} {bs bd : Code} {d : Nat} (hb : h.blks[l]? = some (.loop st pe f fr ps bs bd d)) (j : Option Code) :
  kdm l j h = some (.bool j.isNone, h.setBlk l (.loop (cond j.isNone .ready .done) j f fr ps bs bd d)) := by
 simp only [kdm, hb]
theorem ku6 {h : AH} {l : Nat} {pe : Option Code} {f : FuncId} {fr : Fr} {ps : Array Tmp} {bs bd : Code} {d : Nat} (hb : h.blks[l]? = some (.loop .ready pe f fr ps bs bd d)) : kgu l h = some (pe, h.setBlk l .dead) := by
 simp only [kgu, hb]
 rfl
theorem kw7 {R : Type} {f : FuncId} {a c : List AV} {k : FuncId → List AV → List AV → Option R} : funcK (.func (.func f) a c) k = k f a c := rfl
theorem Runs.newM {P : AV → AH → Prop} {h : AH} {b : ABlk} {K : Nat → AH → Option (AV × AH)} (H : ∀ h', h'.blks[h.blks.size]? = some b → Grow h h' → Runs (K h.blks.size h') P) : Runs (newM h b K) P :=
 H _ (by simp [AH.alloc]) (Grow.push h _)
end Go.Ab

/- squeezed -/
set_option linter.unusedVariables false
set_option linter.unusedSimpArgs false
namespace Go.Ab
variable {P : Program}
structure Md (T : Fp) (h h' : AH) : Prop where
 old : h'.old = h.old
 size : h.blks.size ≤ h'.blks.size
 blk : ∀ j, j < h.blks.size → ¬ T j → h'.blks[j]? = h.blks[j]?
theorem Md.refl (T : Fp) (h : AH) : Md T h h := ⟨rfl, Nat.le_refl _, fun _ _ _ => rfl⟩
theorem Grow.md {h h' : AH} (g : Grow h h') (T : Fp) : Md T h h' := ⟨g.old, g.size, fun j hj _ => g.blk j hj⟩
theorem Upd.md {h h' : AH} {i : Nat} (u : Upd h h' i) {T : Fp} (t : T i) : Md T h h' := ⟨u.old, u.size, fun j hj n => u.blk j (fun e => n (e ▸ t)) hj⟩
theorem UpdO.md {h h' : AH} {T : Fp} : ∀ {i : Option Nat}, UpdO h h' i → (∀ k, i = some k → T k) → Md T h h'
 | none, u, _ => Grow.md u T
 | some k, u, t => Upd.md u (t k rfl)
theorem Md.grow {h h' : AH} {T : Fp} (m : Md T h h') (n : ∀ j, j < h.blks.size → ¬ T j) : Grow h h' := ⟨m.old, m.size, fun j hj => m.blk j hj (n j hj)⟩
theorem Md.mono {h h' : AH} {S T : Fp} (m : Md S h h') (f : ∀ j, j < h.blks.size → S j → T j) : Md T h h' := ⟨m.old, m.size, fun j hj n => m.blk j hj fun s => n (f j hj s)⟩
theorem Md.next {h h1 h2 : AH} {S T : Fp} (a : Md S h h1) (b : Md T h1 h2) (f : ∀ j, j < h.blks.size → T j → S j) : Md S h h2 :=
 ⟨b.old.trans a.old, Nat.le_trans a.size b.size, fun j hj n => (b.blk j (Nat.lt_of_lt_of_le hj a.size) fun t => n (f j hj t)).trans (a.blk j hj n)⟩
theorem Md.trans {h h1 h2 : AH} {T : Fp} (a : Md T h h1) (b : Md T h1 h2) : Md T h h2 := a.next b fun _ _ t => t
theorem Md.thenG {h h1 h2 : AH} {T : Fp} (a : Md T h h1) (b : Grow h1 h2) : Md T h h2 := a.next (b.md Fp.no) fun _ _ t => t.elim
theorem Grow.thenM {h h1 h2 : AH} {T : Fp} (a : Grow h h1) (b : Md T h1 h2) : Md T h h2 := (a.md T).trans b
def Dis (S T : Fp) : Prop := ∀ j, S j → T j → False
theorem Dis.symm {S T : Fp} (d : Dis S T) : Dis T S := fun j a b => d j b a
theorem Dis.no {S : Fp} : Dis S Fp.no := fun _ _ b => b
theorem Dis.mono {S T S' T' : Fp} (d : Dis S T) (f : ∀ j, S' j → S j) (g : ∀ j, T' j → T j) : Dis S' T' := fun j a b => d j (f j a) (g j b)
theorem Md.has {h h' : AH} {T : Fp} (m : Md T h h') {i : Nat} {cs : List AV} {e : TypeId} (b : h.has i cs e) (n : ¬ T i) : h'.has i cs e := (m.blk i b.lt n).trans b
theorem Md.get {h h' : AH} {T : Fp} (m : Md T h h') {i : Nat} {b : ABlk} (e : h.blks[i]? = some b) (n : ¬ T i) : h'.blks[i]? = some b :=
 (m.blk i (Array.getElem?_eq_some_iff.1 e).1 n).trans e
theorem Md.cell {h h' : AH} {T : Fp} (m : Md T h h') {r : Ref} {v : AV} (hc : h.cell r = some v) (n : ∀ j o, r = .new j o → ¬ T j) : h'.cell r = some v := by
 have hi := AH.cell_inn hc
 cases r with
 | old a => simpa only [AH.cell, m.old] using hc
 | new j o => simpa only [AH.cell, m.blk j hi (n j o rfl)] using hc
theorem Own.md {h h1 : AH} {T : Fp} (m : Md T h h1) {s : Sl} (o : Own h1 s) : Own h s := fun q hq => by
 obtain ⟨j, k, e, l⟩ := o q hq
 exact ⟨j, k, e, Nat.le_trans m.size l⟩
def mixA (h h' : AH) (k : Nat) : AH := ⟨h'.old, ((List.range h.blks.size).map fun i => (if i < k then h'.blks[i]? else h.blks[i]?).getD .dead).toArray⟩
theorem kef (h h' : AH) (k : Nat) : (mixA h h' k).blks.size = h.blks.size := by simp [mixA]
theorem kil {h h' : AH} {k i : Nat} (hs : h.blks.size ≤ h'.blks.size) (hi : i < h.blks.size) : (mixA h h' k).blks[i]? = if i < k then h'.blks[i]? else h.blks[i]? := by
 have hi' : i < h'.blks.size := Nat.lt_of_lt_of_le hi hs
 simp only [mixA, List.getElem?_toArray, List.getElem?_map, List.getElem?_range hi, Option.map_some]
 split
 ·rw [Array.getElem?_eq_getElem hi']; rfl
 ·rw [Array.getElem?_eq_getElem hi]; rfl
theorem Ef.md {α : Type} (E : Ef α) {h h' : AH} {S T : Fp} {cs : List AV} {a : α} (m : Md T h h') (d : Dis S T) (e : E.has h S cs a) : E.has h' S cs a := by
 have key : ∀ k, k ≤ h.blks.size → E.has (mixA h h' k) S cs a := by
  intro k
  induction k with
  | zero =>
   intro _
   refine E.grow ⟨m.old, by rw [kef]; exact Nat.le_refl _, fun i hi => ?_⟩ e
   rw [kil m.size hi, if_neg (by omega)]
  | succ k ih =>
   intro hk
   have e' := ih (by omega)
   by_cases hS : S k
   ·have hT : ¬ T k := fun t => d k hS t
    refine E.grow (show Grow (mixA h h' k) (mixA h h' (k + 1)) from ⟨rfl, by rw [kef, kef]; exact Nat.le_refl _, fun i hi => ?_⟩) e'
    rw [kef] at hi
    rw [kil m.size hi, kil m.size hi]
    by_cases h1 : i = k
    ·subst h1
     rw [if_pos (by omega), if_neg (by omega), m.blk i hi hT]
    ·by_cases h2 : i < k
     ·rw [if_pos (by omega), if_pos h2]
     ·rw [if_neg (by omega), if_neg h2]
   ·refine E.upd hS (show Upd (mixA h h' k) (mixA h h' (k + 1)) k from ⟨rfl, by rw [kef, kef]; exact Nat.le_refl _, fun i hne hi => ?_⟩) e'
    rw [kef] at hi
    rw [kil m.size hi, kil m.size hi]
    by_cases h2 : i < k
    ·rw [if_pos (by omega), if_pos h2]
    ·rw [if_neg (by omega), if_neg h2]
 refine E.grow (show Grow (mixA h h' h.blks.size) h' from ⟨rfl, by rw [kef]; exact m.size, fun i hi => ?_⟩) (key _ (Nat.le_refl _))
 rw [kef] at hi
 rw [kil m.size hi, if_pos hi]
theorem Cells.md {h h' : AH} {s : Sl} {n : Nat} {flat : List AV} (c : Cells h s n flat) {T : Fp} (m : Md T h h') (no : ∀ j o, s.ref = some (.new j o) → ¬ T j) : Cells h' s n flat :=
 ⟨c.fit, c.len, fun k v hv => by
  obtain ⟨r, e1, e2⟩ := c.get k v hv
  refine ⟨r, e1, m.cell e2 fun j o he => ?_⟩
  cases r with
  | old a => cases he
  | new j' p =>
   simp only [Ref.add_new, Ref.new.injEq] at he
   obtain ⟨rfl, _⟩ := he
   exact no _ p e1⟩
section
variable {α : Type} {E : Ef α}
theorem Sq.md {h h' : AH} {S T : Fp} {s : Sl} {xs : List α} (n : Sq E h S s xs) (m : Md T h h') (d : Dis S T) : Sq E h' S s xs := by
 obtain ⟨s', e, n'⟩ := Ef.md (Ef.seq E) m d (show (Ef.seq E).has h S [s.v] xs from ⟨s, rfl, n⟩)
 cases Sl.vs_inj e
 exact n'
theorem Nats.mdE {h h' : AH} {S T : Fp} {s : Sl} {xs : List Nat} (n : Nats h s xs) (a : ∀ j, ¬ Av s j xs → S j) (m : Md T h h') (d : Dis S T) : Nats h' s xs := by
 obtain ⟨s', e, n', _⟩ := Ef.md Ef.nats m d (show Ef.nats.has h S [s.v] xs from ⟨s, rfl, n, a⟩)
 cases Sl.vs_inj e
 exact n'
theorem GF.md {elem : TypeId} {h h' : AH} {S T : Fp} {s : Sl} (m : Md T h h') (d : Dis S T) : ∀ {j : Option Nat} {xs : List α}, GF E elem h S s j xs → (∀ k, j = some k → ¬ T k) → GF E elem h' S s j xs
 | .none, _, v, _ => v
 | .some k, _, ⟨l, a, r, ln, rows, e, b, c, r2⟩, ne => ⟨l, a, r, ln, rows, e, m.has b (ne k rfl), c, r2.imp fun _ _ => E.md m d⟩
end
end Go.Ab

/- squeezed -/
set_option linter.unusedVariables false
set_option linter.unusedSimpArgs false
namespace Go.Ab
def kvGet {A : Type} : List (Int × A) → Int → Option A
 | [], _ => none
 | (k, v) :: t, n => if n = k then some v else kvGet t n
def kvPut {A : Type} : List (Int × A) → Int → A → List (Int × A)
 | [], n, v => [(n, v)]
 | (k, w) :: t, n, v => if n = k then (k, v) :: t else (k, w) :: kvPut t n v
def kvDel {A : Type} : List (Int × A) → Int → List (Int × A)
 | [], _ => []
 | (k, w) :: t, n => if n = k then t else (k, w) :: kvDel t n
theorem kx1 {A : Type} (l : List (Int × A)) (n m : Int) (v : A) : kvGet (kvPut l n v) m = if m = n then some v else kvGet l m := by
 induction l with
 | nil => simp [kvPut, kvGet]
 | cons p t ih =>
  obtain ⟨k, w⟩ := p
  simp only [kvPut]
  by_cases h : n = k
  ·subst h
   rw [if_pos rfl]
   simp only [kvGet]
   by_cases h2 : m = n
   ·rw [if_pos h2, if_pos h2]
   ·rw [if_neg h2, if_neg h2, if_neg h2]
  ·rw [if_neg h]
   simp only [kvGet, ih]
   by_cases h2 : m = k
   ·rw [if_pos h2, if_pos h2, if_neg (by omega)]
   ·rw [if_neg h2, if_neg h2]
theorem kty {A : Type} {l : List (Int × A)} {n : Int} (v : A) (h : kvGet l n = none) : kvPut l n v = l ++ [(n, v)] := by
 induction l with
 | nil => rfl
 | cons p t ih =>
  obtain ⟨k, w⟩ := p
  simp only [kvGet] at h
  by_cases e : n = k
  ·rw [if_pos e] at h
   cases h
  ·rw [if_neg e] at h
   simp only [kvPut, if_neg e, ih h, List.cons_append]
theorem ks5 {A : Type} {l : List (Int × A)} {n : Int} {w : A} (v : A) (h : kvGet l n = some w) : (kvPut l n v).length = l.length := by
 induction l with
 | nil => cases h
 | cons p t ih =>
  obtain ⟨k, u⟩ := p
  simp only [kvGet] at h
  by_cases e : n = k
  ·simp only [kvPut, if_pos e, List.length_cons]
  ·rw [if_neg e] at h
   simp only [kvPut, if_neg e, List.length_cons, ih h]
def Kv (es : List AEnt) (l : List (Int × AV)) : Prop := es.map (fun e => (e.key, e.val)) = l.map fun p => (AV.int .i64 p.1, p.2)
theorem Kv.nil : Kv [] [] := rfl
theorem Kv.len {es : List AEnt} {l : List (Int × AV)} (k : Kv es l) : es.length = l.length := by
 have := congrArg List.length k
 simpa using this
theorem krm {n : Int} : ∀ {es : List AEnt} {l : List (Int × AV)} (j : Nat), Kv es l →
  (findA .i64 n es j = some none ∧ kvGet l n = none ∧ (∀ v b, Kv (es ++ [⟨.int .i64 n, v, b⟩]) (kvPut l n v)) ∧ kvDel l n = l) ∨
  ∃ t v, findA .i64 n es j = some (some (j + t, v)) ∧ t < es.length ∧ kvGet l n = some v ∧ (∀ w, Kv (es.modify t fun e => ⟨.int .i64 n, w, e.born⟩) (kvPut l n w)) ∧ Kv (es.eraseIdx t) (kvDel l n)
 | [], l, j, k => by
  cases l with
  | nil => exact .inl ⟨rfl, rfl, fun v b => rfl, rfl⟩
  | cons p t => simp [Kv] at k
 | e :: es, l, j, k => by
  cases l with
  | nil => simp [Kv] at k
  | cons p t =>
   obtain ⟨m, w⟩ := p
   simp only [Kv, List.map_cons, List.cons.injEq, Prod.mk.injEq] at k
   obtain ⟨⟨k1, k2⟩, k3⟩ := k
   have ih := krm (n := n) (j + 1) (show Kv es t from k3)
   simp only [findA, k1, decide_true, cond_true, kvGet, kvPut, kvDel]
   by_cases h : n = m
   ·subst h
    right
    refine ⟨0, e.val, by simp, by simp, by rw [if_pos rfl, k2], fun u => ?_, ?_⟩
    ·simp only [if_true]
     simp only [Kv, List.modify_zero_cons, List.map_cons]
     rw [show es.map _ = t.map _ from k3]
    ·simp only [if_true]
     exact k3
   ·rw [decide_eq_false h, cond_false]
    simp only [if_neg h]
    rcases ih with ⟨a, b, c, d⟩ | ⟨x, v, a, b, c, d, f⟩
    ·left
     refine ⟨a, b, fun v bb => ?_, by rw [d]⟩
     have := c v bb
     simp only [Kv, List.map_append, List.cons_append, List.map_cons] at this ⊢
     rw [this, k1, k2]
    ·right
     refine ⟨x + 1, v, by rw [a]; congr 3; omega, by simp; omega, c, fun u => ?_, ?_⟩
     ·have := d u
      simp only [Kv, List.modify_succ_cons, List.map_cons] at this ⊢
      rw [this, k1, k2]
     ·simp only [Kv, List.eraseIdx_cons_succ, List.map_cons] at f ⊢
      rw [f, k1, k2]
def MapIs (h : AH) (i : Nat) (l : List (Int × AV)) : Prop := ∃ es ck, h.blks[i]? = some (.map es ck) ∧ Kv es l
theorem MapIs.lt {h : AH} {i : Nat} {l : List (Int × AV)} (m : MapIs h i l) : i < h.blks.size := by
 obtain ⟨es, ck, e, _⟩ := m
 exact (Array.getElem?_eq_some_iff.1 e).1
theorem MapIs.md {h h' : AH} {i : Nat} {l : List (Int × AV)} {T : Fp} (m : MapIs h i l) (d : Md T h h') (n : ¬ T i) : MapIs h' i l := by
 obtain ⟨es, ck, e, k⟩ := m
 exact ⟨es, ck, d.get e n, k⟩
theorem MapIs.grow {h h' : AH} {i : Nat} {l : List (Int × AV)} (m : MapIs h i l) (g : Grow h h') : MapIs h' i l := m.md (g.md Fp.no) Fp.not_no
theorem AH.setBlk_Upd {h : AH} {i : Nat} (b : ABlk) : Upd h (h.setBlk i b) i := ⟨rfl, by rw [AH.setBlk_size]; exact Nat.le_refl _, fun j hj _ => AH.setBlk_ne hj⟩
section
variable {h : AH} {i : Nat} {l : List (Int × AV)}
theorem MapIs.at (m : MapIs h i l) : ∃ es ck, h.mapAt i = some (es, ck) ∧ Kv es l := by
 obtain ⟨es, ck, e, k⟩ := m
 exact ⟨es, ck, by simp only [AH.mapAt, e], k⟩
theorem MapIs.get (m : MapIs h i l) (n : Int) : mapGet h (some i) .i64 n = some (kvGet l n) := by
 obtain ⟨es, ck, e, k⟩ := m.at
 simp only [mapGet, e, Option.bind_some]
 rcases krm (n := n) 0 k with ⟨a, b, _⟩ | ⟨t, v, a, _, b, _⟩
 ·rw [a, b]; rfl
 ·rw [a, b]; rfl
theorem MapIs.put (m : MapIs h i l) (n : Int) (v : AV) : ∃ h', mapPut h i .i64 n v = some h' ∧ MapIs h' i (kvPut l n v) ∧ Upd h h' i := by
 have hl := m.lt
 obtain ⟨es, ck, e, k⟩ := m.at
 simp only [mapPut, e, Option.bind_some]
 rcases krm (n := n) 0 k with ⟨a, b, c, _⟩ | ⟨t, w, a, _, b, c, _⟩
 ·rw [a]
  exact ⟨_, rfl, ⟨_, _, AH.setBlk_get hl, c v ck⟩, AH.setBlk_Upd _⟩
 ·rw [a, Nat.zero_add]
  exact ⟨_, rfl, ⟨_, _, AH.setBlk_get hl, c v⟩, AH.setBlk_Upd _⟩
theorem MapIs.size (m : MapIs h i l) : mapLen h (some i) = some l.length := by
 obtain ⟨es, ck, e, k⟩ := m.at
 simp only [mapLen, e, Option.map_some, k.len]
theorem MapIs.clear (m : MapIs h i l) : ∃ h', kkk h (some i) = some h' ∧ MapIs h' i [] ∧ Upd h h' i := by
 have hl := m.lt
 obtain ⟨es, ck, e, k⟩ := m.at
 simp only [kkk, e, Option.map_some]
 exact ⟨_, rfl, ⟨_, _, AH.setBlk_get hl, Kv.nil⟩, AH.setBlk_Upd _⟩
end
section
variable {P : AV → AH → Prop}
theorem Runs.call {x : Option (AV × AH)} {Q : AV → AH → Prop} {K : AV × AH → Option (AV × AH)} (r : Runs x Q) (H : ∀ v h', Q v h' → Runs (K (v, h')) P) : Runs (x.bind K) P := by
 obtain ⟨v, h', e, q⟩ := r
 subst e
 exact H v h' q
theorem Runs.newMap {h : AH} {K : Nat → AH → Option (AV × AH)} (H : ∀ h', MapIs h' h.blks.size [] → Grow h h' → Runs (K h.blks.size h') P) : Runs (Go.Ab.newM h (.map [] 0) K) P :=
 Runs.newM fun h' e g => H h' ⟨[], 0, e, Kv.nil⟩ g
theorem kmi {n : Nat} {G : Int → AH → Option (AV × AH)} {p : Nat → Bool} {h0 : AH}
  (step : ∀ (i : Nat) (h : AH) (P : AV → AH → Prop), i < n → Grow h0 h → (∀ h', Grow h0 h' → p i = true → P (.int .i64 (i : Int)) h') → (∀ h', Grow h0 h' → p i = false → Runs (G ((i + 1 : Nat) : Int) h') P) → Runs (G (i : Int) h) P)
  (done : ∀ (h : AH), Grow h0 h → G (n : Int) h = some (.int .i64 (-1), h)) : ∀ (k i : Nat), i + k = n → ∀ {h : AH}, Grow h0 h → (∀ j, j < i → p j = false) →
  Runs (G (i : Int) h) fun v h' => Grow h0 h' ∧ ((v = .int .i64 (-1) ∧ ∀ j, j < n → p j = false) ∨ ∃ j, j < n ∧ v = .int .i64 (j : Int) ∧ p j = true ∧ ∀ t, t < j → p t = false) := by
 intro k
 induction k with
 | zero =>
  intro i hi h g hp
  have : i = n := by omega
  subst this
  rw [done h g]
  exact Runs.ret ⟨g, .inl ⟨rfl, hp⟩⟩
 | succ k ih =>
  intro i hi h g hp
  refine step i h _ (by omega) g (fun h' g' e => ⟨g', .inr ⟨i, by omega, rfl, e, hp⟩⟩) fun h' g' e => ih (i + 1) (by omega) g' fun j hj => ?_
  rcases Nat.lt_or_ge j i with h1 | h1
  ·exact hp j h1
  ·have : j = i := by omega
   subst this
   exact e
theorem Runs.contains {α : Type} {xs : List α} {p : α → Bool} {x : Option (AV × AH)} {h0 : AH} (R : Runs x fun v h' => Grow h0 h' ∧ ((v = .int .i64 (-1) ∧ ∀ j, j < xs.length → (xs[j]?).any p = false) ∨ ∃ j, j < xs.length ∧ v = .int .i64 (j : Int) ∧ (xs[j]?).any p = true ∧ ∀ t, t < j → (xs[t]?).any p = false)) :
  Runs (x.bind fun q => ((some q.1).bind (AV.asInt .i64)).bind fun n => some (.bool (decide (n ≥ 0)), q.2)) fun v h' => v = .bool (xs.any p) ∧ Grow h0 h' := by
 refine R.call fun v h' ⟨g, d⟩ => ?_
 rcases d with ⟨rfl, a⟩ | ⟨j, hj, rfl, a, _⟩
 ·refine Runs.step (seen (kb _ _)) (Runs.ret ⟨?_, g⟩)
  have : xs.any p = false := by
   rw [List.any_eq_false]
   intro y hy
   obtain ⟨t, ht, rfl⟩ := List.getElem_of_mem hy
   have := a t ht
   rw [List.getElem?_eq_getElem ht] at this
   simpa using this
  rw [this]
  exact congrArg AV.bool (decide_eq_false (by omega))
 ·refine Runs.step (seen (kb _ _)) (Runs.ret ⟨?_, g⟩)
  have : xs.any p = true := by
   rw [List.any_eq_true]
   rw [List.getElem?_eq_getElem hj] at a
   exact ⟨xs[j], List.getElem_mem hj, by simpa using a⟩
  rw [this]
  exact congrArg AV.bool (decide_eq_true (by omega))
end
end Go.Ab

/- squeezed -/
set_option linter.unusedVariables false
set_option linter.unusedSimpArgs false
namespace Go.Ab
abbrev EI : Ef Int := Ef.int .i64
section
variable {h : AH} {S : Fp} {s : Sl}
theorem Sq.int {k : IntKind} {xs : List Int} (n : Sq (Ef.int k) h S s xs) {i : Nat} (hi : i < xs.length) : ∃ r : Ref, idx s.ref s.len (i : Int) 1 = some r ∧ (h.cell r).bind (AV.asInt k) = some xs[i] := by
 obtain ⟨r, cs, e1, e2, l⟩ := n.at (kns hi)
 have e2 : cs = [.int k xs[i]] := e2
 subst e2
 rw [n.len]
 exact ⟨r, e1, l.rd0 (Grow.refl _) rfl (kb _ _)⟩
theorem Sq.sl {α : Type} {E : Ef α} {xs : List (List α)} (n : Sq (Ef.seq E) h S s xs) {i : Nat} (hi : i < xs.length) : ∃ (r : Ref) (s' : Sl), idx s.ref s.len (i : Int) 1 = some r ∧ (h.cell r).bind AV.asSl = some s' ∧ (h.cell (r.add 0)).bind AV.asSl = some s' ∧ Sq E h S s' xs[i] := by
 obtain ⟨r, cs, e1, ⟨s', rfl, n'⟩, l⟩ := n.at (kns hi)
 rw [n.len]
 exact ⟨r, s', e1, l.rd0 (Grow.refl _) rfl (asSl_v _), l.rd (Grow.refl _) 0 rfl (asSl_v _), n'⟩
theorem Sq.nats {xs : List (List Nat)} (n : Sq Ef.nats h S s xs) {i : Nat} (hi : i < xs.length) : ∃ (r : Ref) (s' : Sl), idx s.ref s.len (i : Int) 1 = some r ∧ (h.cell r).bind AV.asSl = some s' ∧ Nats h s' xs[i] ∧ ∀ j, ¬ Av s' j xs[i] → S j := by
 obtain ⟨r, cs, e1, ⟨s', rfl, n', a⟩, l⟩ := n.at (kns hi)
 rw [n.len]
 exact ⟨r, s', e1, l.rd0 (Grow.refl _) rfl (asSl_v _), n', a⟩
end
structure Nd where
 leaf : Bool
 weight : Int
 party : Int
 feature : Int
 cut : Int
 left : Int
 right : Int
 deriving DecidableEq
def Nd.cells (x : Nd) : List AV := [.bool x.leaf, .int .i64 x.weight, .int .i64 x.party, .int .i64 x.feature, .int .i64 x.cut, .int .i64 x.left, .int .i64 x.right]
@[reducible] def Ef.nd : Ef Nd where
 w := 7
 pos := by decide
 has _ _ cs x := cs = x.cells
 len e := by rw [e]; rfl
 grow _ e := e
 mono _ e := e
 upd _ _ e := e
 bound e := e
theorem k2j {α : Type} {xs : List α} {i : Nat} (hi : i < xs.length) (p : α → Bool) : (xs.drop i).all p = (p xs[i] && (xs.drop (i + 1)).all p) := by
 rw [List.drop_eq_getElem_cons hi, List.all_cons]
theorem k9o {α : Type} {xs : List α} {i : Nat} (hi : xs.length ≤ i) (p : α → Bool) : (xs.drop i).all p = true := by
 rw [List.drop_of_length_le hi]; rfl
theorem k69 {n i : Nat} (hi : i < n) (p : Nat → Bool) : ((List.range n).drop i).all p = (p i && ((List.range n).drop (i + 1)).all p) := by
 rw [k2j (by simpa using hi), List.getElem_range]
end Go.Ab

/- squeezed -/
set_option linter.unusedVariables false
set_option linter.unusedSimpArgs false
namespace Go.Num
def half (n : Nat) : Nat := (n + 1) / 2
theorem k7v {n : Nat} (ho : n % 2 = 1) (e : Nat) : (2 ^ e * half n ^ e) % n = 1 % n := by
 rw [← Nat.mul_pow, show 2 * half n = n + 1 from by unfold half; omega, Nat.pow_mod, Nat.add_mod_left, ← Nat.pow_mod, Nat.one_pow]
def redc (n e z : Nat) : Nat := z * half n ^ e % n
theorem kpf (n e z : Nat) : redc n e (z % n) = redc n e z := by
 unfold redc
 rw [Nat.mod_mul_mod]
theorem kwo {n : Nat} (ho : n % 2 = 1) (e x : Nat) : redc n e (x * 2 ^ e) = x % n := by
 unfold redc
 rw [Nat.mul_assoc, Nat.mul_mod, k7v ho, ← Nat.mul_mod, Nat.mul_one]
theorem kv2 {n e r z : Nat} (ho : n % 2 = 1) (hr : r < n) (h : (r * 2 ^ e) % n = z % n) : r = redc n e z := by
 rw [← kpf, ← h, kpf, kwo ho, Nat.mod_eq_of_lt hr]
theorem k36 {n e x : Nat} (ho : n % 2 = 1) : redc n e (x * 2 ^ e % n * 1) = x % n := by
 rw [Nat.mul_one, kpf, kwo ho]
theorem k1u {b T Y x N v : Nat} (hb : 0 < b) (hv : (N * v + 1) % b = 0) : (T + Y * x + N * ((T + Y * x) % b * v % b)) % b = 0 := by
 generalize T + Y * x = U
 have e1 : (U + N * (U % b * v % b)) % b = (U + N * (U * v)) % b := by
  rw [Nat.add_mod, Nat.mul_mod_mod_aux N U v b, ← Nat.add_mod]
 rw [e1, show U + N * (U * v) = U * (N * v + 1) from by rw [Nat.mul_add, Nat.mul_one, Nat.add_comm]; simp only [Nat.mul_comm, Nat.mul_left_comm], Nat.mul_mod, hv, Nat.mul_zero, Nat.zero_mod]
where
 Nat.mul_mod_mod_aux (N U v b : Nat) : N * (U % b * v % b) % b = N * (U * v) % b := by
  rw [Nat.mul_mod_mod, ← Nat.mul_mod_mod, Nat.mod_mul_mod, Nat.mul_mod_mod]
theorem kbak {b T Y x N m : Nat} (hT : T < Y + N) (hx : x < b) (hm : m < b) : (T + Y * x + N * m) / b < Y + N := by
 have hb : 0 < b := by omega
 rw [Nat.div_lt_iff_lt_mul hb]
 have h1 : Y * x ≤ Y * (b - 1) := Nat.mul_le_mul_left _ (by omega)
 have h2 : N * m ≤ N * (b - 1) := Nat.mul_le_mul_left _ (by omega)
 obtain ⟨c, rfl⟩ : ∃ c, b = c + 1 := ⟨b - 1, by omega⟩
 rw [Nat.add_mul, Nat.mul_add Y, Nat.mul_add N, Nat.mul_one, Nat.mul_one]
 simp only [Nat.add_sub_cancel] at h1 h2
 omega
theorem k07 {b p T Y x X N M m T' : Nat} (h : T * p = X * Y + N * M) (e : T + Y * x + N * m = T' * b) : T' * (p * b) = (X + p * x) * Y + N * (M + p * m) := by
 have : T' * (p * b) = (T' * b) * p := by simp only [Nat.mul_assoc, Nat.mul_comm, Nat.mul_left_comm]
 rw [this, ← e, Nat.add_mul, Nat.add_mul, h, Nat.add_mul, Nat.mul_add]
 simp only [Nat.mul_assoc, Nat.mul_comm, Nat.mul_left_comm]
 omega
end Go.Num

/- squeezed -/
set_option linter.unusedVariables false
set_option linter.unusedSimpArgs false
set_option maxRecDepth 10000
namespace Go.Ab
open Go.Proofs Go.Num
end Go.Ab

/- squeezed -/
set_option linter.unusedVariables false
set_option linter.unusedSimpArgs false
set_option maxRecDepth 10000
namespace Go.Ab
open Go.Proofs Go.Num
inductive kno
 | fn (x1 : List Nat) (x2 : List Nat) (a3 : Int)
 | p2 (x1 : List Nat) (x2 : List Nat) (a3 : Int) (a4 : Int) (a5 : Int) (a6 : Int)
abbrev kq3 := List Nat
noncomputable def kbbj (x1 : List Nat) (x2 : List Nat) (a3 : Int) : Option (kno ⊕ kq3) :=
 some (.inl (.p2 x1 x2 a3 0 (List.length x1 : Int) 0))
noncomputable def khl (x1 : List Nat) (x2 : List Nat) (a3 : Int) (a4 : Int) (a5 : Int) (a6 : Int) : Option (kno ⊕ kq3) :=
 cond (decide (a6 < a5)) (cond (decide (a6 < (List.length x2 : Int))) ((atI x2 a6).bind fun y9 => (add64P ((mul64 ((y9 : Int)) a3).2) a4 0).bind fun p11 => (inI (List.length x1) a6).bind fun j12 => (add64P (((List.getD x1 j12 0 : Nat) : Int)) (p11.1) 0).bind fun p13 => (inI (List.length x1) a6).bind fun j14 => (u64P (p13.1)).bind fun w15 => some (.inl (.p2 (List.set x1 j14 w15) x2 a3 (IntKind.wrap .u64 ((IntKind.wrap .u64 (((mul64 ((y9 : Int)) a3).1) + (p11.2))) + (p13.2))) a5 (IntKind.wrap .i64 (a6 + 1))))) ((add64P 0 a4 0).bind fun p9 => (inI (List.length x1) a6).bind fun j10 => (add64P (((List.getD x1 j10 0 : Nat) : Int)) (p9.1) 0).bind fun p11 => (inI (List.length x1) a6).bind fun j12 => (u64P (p11.1)).bind fun w13 => some (.inl (.p2 (List.set x1 j12 w13) x2 a3 (IntKind.wrap .u64 ((IntKind.wrap .u64 (0 + (p9.2))) + (p11.2))) a5 (IntKind.wrap .i64 (a6 + 1)))))) (some (.inr x1))
noncomputable def ket : kno → Option (kno ⊕ kq3)
 | .fn x1 x2 a3 => kbbj x1 x2 a3
 | .p2 x1 x2 a3 a4 a5 a6 => khl x1 x2 a3 a4 a5 a6
end Go.Ab

/- squeezed -/
set_option linter.unusedVariables false
set_option linter.unusedSimpArgs false
set_option maxRecDepth 10000
namespace Go.Ab
open Go.Proofs Go.Num
def addMul : List Nat → List Nat → Nat → Nat → List Nat
 | [], _, _, _ => []
 | t :: ts, ys, a, c => (t + ys.headD 0 * a + c) % B :: addMul ts ys.tail a ((t + ys.headD 0 * a + c) / B)
theorem kkw : ∀ (ts ys : List Nat) (a c : Nat), (addMul ts ys a c).length = ts.length
 | [], _, _, _ => rfl
 | t :: ts, ys, a, c => by rw [addMul, List.length_cons, List.length_cons, kkw]
theorem kmf : ∀ (ts ys : List Nat) (a c : Nat), ∀ x ∈ addMul ts ys a c, x < B
 | [], _, _, _, x, h => by cases h
 | t :: ts, ys, a, c, x, h => by
  rw [addMul] at h
  rcases List.mem_cons.1 h with rfl | h
  ·exact Nat.mod_lt _ (by decide)
  ·exact kmf ts _ _ _ x h
theorem kme (b x : Nat) (xs : List Nat) : num b (x :: xs) = x + b * num b xs := rfl
theorem kpq (b : Nat) (ys : List Nat) : num b ys = ys.headD 0 + b * num b ys.tail := by
 cases ys with
 | nil => simp [num]
 | cons y ys => rfl
theorem kos : ∀ (ts ys : List Nat) (a c : Nat), num B (addMul ts ys a c) = (num B ts + num B ys * a + c) % B ^ ts.length
 | [], ys, a, c => by simp [addMul, num, Nat.mod_one]
 | t :: ts, ys, a, c => by
  rw [addMul, kme, kos ts, kme, kpq B ys, List.length_cons, Nat.pow_succ, Nat.mul_comm (B ^ ts.length) B, Nat.mod_mul]
  generalize ys.headD 0 = y
  generalize num B ys.tail = Y
  generalize num B ts = T
  have e : t + B * T + (y + B * Y) * a + c = (t + y * a + c) + B * (T + Y * a) := by
   rw [Nat.add_mul, Nat.mul_add, Nat.mul_assoc]
   omega
  rw [e, Nat.add_mul_mod_self_left, Nat.add_mul_div_left _ _ (show 0 < B from by decide)]
  congr 3
  omega
theorem k7u {t o c : Nat} (ho : o < 18446744073709551616) (hc : c < 18446744073709551616) (h : (o + t + c) / 18446744073709551616 < 18446744073709551616) :
  (o + (t % 18446744073709551616 + c + 0) % 18446744073709551616 + 0) % 18446744073709551616 = (o + t + c) % 18446744073709551616 ∧
  IntKind.wrap .u64 (IntKind.wrap .u64 (((t / 18446744073709551616 : Nat) : Int) + (((t % 18446744073709551616 + c + 0) / 18446744073709551616 : Nat) : Int)) + (((o + (t % 18446744073709551616 + c + 0) % 18446744073709551616 + 0) / 18446744073709551616 : Nat) : Int)) = (((o + t + c) / 18446744073709551616 : Nat) : Int) := by
 rw [wrapU, wrapU]
 omega
theorem k62 {o c : Nat} (ho : o < 18446744073709551616) (hc : c < 18446744073709551616) :
  (o + (0 + c + 0) % 18446744073709551616 + 0) % 18446744073709551616 = (o + c) % 18446744073709551616 ∧
  IntKind.wrap .u64 (IntKind.wrap .u64 (0 + (((0 + c + 0) / 18446744073709551616 : Nat) : Int)) + (((o + (0 + c + 0) % 18446744073709551616 + 0) / 18446744073709551616 : Nat) : Int)) = (((o + c) / 18446744073709551616 : Nat) : Int) := by
 rw [wrapU, wrapU]
 omega
theorem kps {α : Type} (l : List α) (x y : α) (r : List α) {n : Nat} (h : n = l.length) : (l ++ x :: r).set n y = (l ++ [y]) ++ r := by
 subst h
 simp
theorem kvu {ys : List Nat} {a : Nat} (ha : a < B) (ly : ∀ y ∈ ys, y < B) : ∀ (ts l : List Nat) (c : Nat), (∀ t ∈ ts, t < B) → c < B → l.length + ts.length ≤ 8796093022208 →
  Iter ket (.p2 (l ++ ts) ys (a : Int) (c : Int) ((l.length + ts.length : Nat) : Int) (l.length : Int)) (l ++ addMul ts (ys.drop l.length) a c)
 | [], l, c, _, _, _ => by
  refine .done ?_
  show khl _ _ _ _ _ _ = _
  unfold khl
  rw [condF (by rw [decide_eq_false_iff_not]; simp)]
  rfl
 | t :: ts, l, c, lt, hc, hn => by
  have ht := lt t (by simp)
  have hn' : l.length + ts.length + 1 ≤ 8796093022208 := by simpa [Nat.add_assoc] using hn
  have hj : l.length < (l ++ t :: ts).length := by simp
  have hg : List.getD (l ++ t :: ts) l.length 0 = t := by rw [kbd hj]; simp
  have rek := fun (c' : Nat) (hc' : c' < B) (x : Nat) => kvu ha ly ts (l ++ [x]) c' (fun t h => lt t (by simp [h])) hc' (by simp; omega)
  have key : ∀ (c' x : Nat), c' < B → khl (l ++ t :: ts) ys (a : Int) (c : Int) ((l.length + (t :: ts).length : Nat) : Int) (l.length : Int) = some (.inl (.p2 ((l ++ [x]) ++ ts) ys (a : Int) (c' : Int) ((l.length + (t :: ts).length : Nat) : Int) ((l.length + 1 : Nat) : Int))) →
    x = (t + (ys.drop l.length).headD 0 * a + c) % B → c' = (t + (ys.drop l.length).headD 0 * a + c) / B → Iter ket (.p2 (l ++ t :: ts) ys (a : Int) (c : Int) ((l.length + (t :: ts).length : Nat) : Int) (l.length : Int)) (l ++ addMul (t :: ts) (ys.drop l.length) a c) := fun c' x hc' h1 hx hcc => by
   refine .next h1 ?_
   have := rek c' hc' x
   have e1 : (l ++ [x]).length + ts.length = l.length + (t :: ts).length := by simp; omega
   have e2 : (l ++ [x]).length = l.length + 1 := by simp
   rw [e1, e2] at this
   rw [addMul, ← hx, ← hcc, List.tail_drop]
   simpa using this
  by_cases hi : l.length < ys.length
  ·have hy := ly ys[l.length] (List.getElem_mem _)
   have hd : (ys.drop l.length).headD 0 = ys[l.length] := by rw [List.drop_eq_getElem_cons hi]; rfl
   rw [hd] at key
   have hcl : (t + ys[l.length] * a + c) / B < B := by rw [Nat.add_comm t]; exact krl hy ha ht hc
   obtain ⟨c1, c2⟩ := k7u (t := ys[l.length] * a) ht hc hcl
   refine key _ _ hcl ?_ rfl rfl
   unfold khl
   rw [condT (by rw [decide_eq_true_eq]; rw [List.length_cons]; omega), condT (by rw [decide_eq_true_eq]; omega), kbg hi, Option.bind_some, kok hy ha]
   dsimp only
   have a1 := kfc (ys[l.length] * a % B) c (c := 0) (by omega)
   have a2 := kfc t ((ys[l.length] * a % B + c + 0) % 18446744073709551616) (c := 0) (by omega)
   rw [show ((0 : Nat) : Int) = 0 from rfl] at a1 a2
   rw [a1, Option.bind_some, ku hj, Option.bind_some, hg]
   dsimp only
   rw [a2, Option.bind_some, Option.bind_some]
   dsimp only
   rw [c1, c2, kz (Nat.mod_lt _ (by decide)), Option.bind_some, ko (by omega), kps l t _ ts rfl]
  ·have hd : (ys.drop l.length).headD 0 = 0 := by rw [List.drop_eq_nil_of_le (by omega)]; rfl
   simp only [hd, Nat.zero_mul, Nat.add_zero] at key
   have hcl : (t + c) / B < B := by
    have : t < 18446744073709551616 := ht
    have : c < 18446744073709551616 := hc
    show (t + c) / 18446744073709551616 < 18446744073709551616
    omega
   obtain ⟨c1, c2⟩ := k62 ht hc
   refine key _ _ hcl ?_ rfl rfl
   unfold khl
   rw [condT (by rw [decide_eq_true_eq]; rw [List.length_cons]; omega), condF (by rw [decide_eq_false_iff_not]; omega)]
   have a1 := kfc 0 c (c := 0) (by omega)
   have a2 := kfc t ((0 + c + 0) % 18446744073709551616) (c := 0) (by omega)
   rw [show ((0 : Nat) : Int) = 0 from rfl] at a1 a2
   rw [a1, Option.bind_some, ku hj, Option.bind_some, hg]
   dsimp only
   rw [a2, Option.bind_some, Option.bind_some]
   dsimp only
   rw [c1, c2, kz (Nat.mod_lt _ (by decide)), Option.bind_some, ko (by omega), kps l t _ ts rfl]
theorem kuv {ts ys : List Nat} {a : Nat} (lt : ∀ t ∈ ts, t < B) (ly : ∀ y ∈ ys, y < B) (ha : a < B) (hn : ts.length ≤ 8796093022208) : runP ket (.fn ts ys (a : Int)) = some (addMul ts ys a 0) := by
 refine ke3 (.next rfl ?_)
 have := kvu ha ly ts [] 0 lt (by decide) (by simpa using hn)
 simpa using this
end Go.Ab

/- squeezed -/
set_option linter.unusedVariables false
set_option linter.unusedSimpArgs false
set_option maxRecDepth 10000
namespace Go.Ab
open Go.Proofs Go.Num
inductive kjn
 | fn (x1c0 : List Nat) (z1c1 : Int) (x1c2 : List Nat) (x1c3 : List Nat) (x2 : List Nat) (x3 : List Nat)
 | p4 (x1c0 : List Nat) (z1c1 : Int) (x1c2 : List Nat) (x1c3 : List Nat) (x2 : List Nat) (x3 : List Nat) (a4 : Int) (x5 : List Nat) (a6 : Int) (a7 : Int)
abbrev km3 := List Nat
noncomputable def kqj (x1c0 : List Nat) (z1c1 : Int) (x1c2 : List Nat) (x1c3 : List Nat) (x2 : List Nat) (x3 : List Nat) : Option (kjn ⊕ km3) :=
 (mkI (IntKind.wrap .i64 ((List.length x1c0 : Int) + 2)) (IntKind.wrap .i64 ((List.length x1c0 : Int) + 2))).bind fun m4 => some (.inl (.p4 x1c0 z1c1 x1c2 x1c3 x2 x3 (List.length x1c0 : Int) (List.replicate m4 0) (List.length x1c0 : Int) 0))
noncomputable def kiy (x1c0 : List Nat) (z1c1 : Int) (x1c2 : List Nat) (x1c3 : List Nat) (x2 : List Nat) (x3 : List Nat) (a4 : Int) (x5 : List Nat) (a6 : Int) (a7 : Int) : Option (kjn ⊕ km3) :=
 cond (decide (a7 < a6)) (cond (decide (a7 < (List.length x2 : Int))) ((atI x2 a7).bind fun y10 => (runP ket (.fn x5 x3 ((y10 : Int)))).bind fun p11 => (need (List.length p11 = List.length x5)).bind fun c11 => (inI (List.length x5) 0).bind fun j12 => (runP ket (.fn p11 x1c0 (IntKind.wrap .u64 ((((List.getD p11 j12 0 : Nat) : Int)) * z1c1)))).bind fun p13 => (need (List.length p13 = List.length p11)).bind fun c13 => (cutP (List.length x5) 1 (List.length x5 : Int)).bind fun p14 => (overW p13 (List.take p14.2 (List.drop p14.1 p13))).bind fun y15 => (inI (List.length x5) (IntKind.wrap .i64 (a4 + 1))).bind fun j16 => (u64P 0).bind fun w17 => some (.inl (.p4 x1c0 z1c1 x1c2 x1c3 x2 x3 a4 (List.set y15 j16 w17) a6 (IntKind.wrap .i64 (a7 + 1))))) ((runP ket (.fn x5 x3 0)).bind fun p10 => (need (List.length p10 = List.length x5)).bind fun c10 => (inI (List.length x5) 0).bind fun j11 => (runP ket (.fn p10 x1c0 (IntKind.wrap .u64 ((((List.getD p10 j11 0 : Nat) : Int)) * z1c1)))).bind fun p12 => (need (List.length p12 = List.length p10)).bind fun c12 => (cutP (List.length x5) 1 (List.length x5 : Int)).bind fun p13 => (overW p12 (List.take p13.2 (List.drop p13.1 p12))).bind fun y14 => (inI (List.length x5) (IntKind.wrap .i64 (a4 + 1))).bind fun j15 => (u64P 0).bind fun w16 => some (.inl (.p4 x1c0 z1c1 x1c2 x1c3 x2 x3 a4 (List.set y14 j15 w16) a6 (IntKind.wrap .i64 (a7 + 1)))))) (cond (decide ((cmpN (digs B (num B x5)) x1c0) ≥ 0)) (some (.inr ((subN (digs B (num B x5)) x1c0).1))) (some (.inr (digs B (num B x5)))))
noncomputable def kly : kjn → Option (kjn ⊕ km3)
 | .fn x1c0 z1c1 x1c2 x1c3 x2 x3 => kqj x1c0 z1c1 x1c2 x1c3 x2 x3
 | .p4 x1c0 z1c1 x1c2 x1c3 x2 x3 a4 x5 a6 a7 => kiy x1c0 z1c1 x1c2 x1c3 x2 x3 a4 x5 a6 a7
end Go.Ab
