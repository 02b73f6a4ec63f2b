/- squeezed -/
import Derived.Test.YtdgeifgljeebbaaGreatPS42

set_option linter.unusedVariables false
set_option linter.unusedSimpArgs false
set_option maxRecDepth 10000
namespace Go.Ab
open Go.Proofs Go.Num
inductive kcs
 | fn (x1c0 : List Nat) (z1c1 : Int) (x1c2 : List Nat) (x1c3 : List Nat) (x2 : List Nat) (x3 : List Nat)
 | p7 (x1c0 : List Nat) (z1c1 : Int) (x1c2 : List Nat) (x1c3 : List Nat) (x2 : List Nat) (x4 : List (List Nat)) (x5 : List Nat) (a6 : Int)
 | p12 (x1 : List Nat) (x2c0 : List Nat) (z2c1 : Int) (x2c2 : List Nat) (x2c3 : List Nat) (x3 : List (List Nat)) (x4 : List Nat) (a5 : Int)
 | p16 (x1 : List Nat) (x2c0 : List Nat) (z2c1 : Int) (x2c2 : List Nat) (x2c3 : List Nat) (x3 : List (List Nat)) (x4 : List Nat) (a5 : Int) (a6 : Int) (a7 : Int)
abbrev kbz := List Nat × Int
noncomputable def kj6 (x1c0 : List Nat) (z1c1 : Int) (x1c2 : List Nat) (x1c3 : List Nat) (x2 : List Nat) (x3 : List Nat) : Option (kcs ⊕ kbz) :=
 cond (!((belowF x2 x1c0))) (some (.inr ([], 1))) (cond (!(rt x3)) (some (.inr ([], 1))) (cond (decide ((List.length x3 : Int) > 8)) (some (.inr ([], 1))) ((runP kck (.fn x1c0 z1c1 x1c2 x1c3 x2 x1c3)).bind fun p17 => some (.inl (.p7 x1c0 z1c1 x1c2 x1c3 x3 [x1c2] p17 0)))))
noncomputable def kf9 (x1c0 : List Nat) (z1c1 : Int) (x1c2 : List Nat) (x1c3 : List Nat) (x2 : List Nat) (x4 : List (List Nat)) (x5 : List Nat) (a6 : Int) : Option (kcs ⊕ kbz) :=
 cond (decide (a6 < 15)) ((atX x4 (IntKind.wrap .i64 ((List.length x4 : Int) - 1))).bind fun y8 => (runP kck (.fn x1c0 z1c1 x1c2 x1c3 y8 x5)).bind fun p9 => (need (growOk Pg (List.length x4 + 1) T.kr 1 = true)).bind fun c11 => some (.inl (.p7 x1c0 z1c1 x1c2 x1c3 x2 (x4 ++ [p9]) x5 (IntKind.wrap .i64 (a6 + 1))))) (some (.inl (.p12 x2 x1c0 z1c1 x1c2 x1c3 x4 x1c2 (IntKind.wrap .i64 (Int.tdiv (IntKind.wrap .i64 ((IntKind.wrap .i64 ((((bitsN x2 : Nat) : Int)) + 4)) - 1)) 4)))))
noncomputable def kg2 (x1 : List Nat) (x2c0 : List Nat) (z2c1 : Int) (x2c2 : List Nat) (x2c3 : List Nat) (x3 : List (List Nat)) (x4 : List Nat) (a5 : Int) : Option (kcs ⊕ kbz) :=
 cond (decide (a5 > 0)) (some (.inl (.p16 x1 x2c0 z2c1 x2c2 x2c3 x3 x4 a5 0 0))) ((u64P 1).bind fun w8 => (runP kck (.fn x2c0 z2c1 x2c2 x2c3 x4 [w8])).bind fun p9 => some (.inr (p9, 0)))
noncomputable def kgf (x1 : List Nat) (x2c0 : List Nat) (z2c1 : Int) (x2c2 : List Nat) (x2c3 : List Nat) (x3 : List (List Nat)) (x4 : List Nat) (a5 : Int) (a6 : Int) (a7 : Int) : Option (kcs ⊕ kbz) :=
 cond (decide (a7 < 4)) ((runP kck (.fn x2c0 z2c1 x2c2 x2c3 x4 x4)).bind fun p9 => (need (((IntKind.wrap .i64 ((IntKind.wrap .i64 ((IntKind.wrap .i64 (a5 * 4)) - 1)) - a7)) : Int) ≤ 9223372036854775807)).bind fun c10_0 => cond (((bitN x1 (IntKind.wrap .i64 ((IntKind.wrap .i64 ((IntKind.wrap .i64 (a5 * 4)) - 1)) - a7))))) (cond (decide ((IntKind.wrap .i64 (3 - a7)) < 0)) (none) (some (.inl (.p16 x1 x2c0 z2c1 x2c2 x2c3 x3 p9 a5 (ior .i64 a6 (ishl .i64 1 (IntKind.wrap .i64 (3 - a7)))) (IntKind.wrap .i64 (a7 + 1)))))) (some (.inl (.p16 x1 x2c0 z2c1 x2c2 x2c3 x3 p9 a5 a6 (IntKind.wrap .i64 (a7 + 1)))))) ((atX x3 a6).bind fun y9 => (runP kck (.fn x2c0 z2c1 x2c2 x2c3 x4 y9)).bind fun p10 => some (.inl (.p12 x1 x2c0 z2c1 x2c2 x2c3 x3 p10 (IntKind.wrap .i64 (a5 - 1)))))
noncomputable def kgt : kcs → Option (kcs ⊕ kbz)
 | .fn x1c0 z1c1 x1c2 x1c3 x2 x3 => kj6 x1c0 z1c1 x1c2 x1c3 x2 x3
 | .p7 x1c0 z1c1 x1c2 x1c3 x2 x4 x5 a6 => kf9 x1c0 z1c1 x1c2 x1c3 x2 x4 x5 a6
 | .p12 x1 x2c0 z2c1 x2c2 x2c3 x3 x4 a5 => kg2 x1 x2c0 z2c1 x2c2 x2c3 x3 x4 a5
 | .p16 x1 x2c0 z2c1 x2c2 x2c3 x3 x4 a5 a6 a7 => kgf x1 x2c0 z2c1 x2c2 x2c3 x3 x4 a5 a6 a7
@[reducible] def ki6 (h0 : AH) (r : kbz) (v : AV) (h' : AH) : Prop := ∃ s1 : Sl, v = .tup [s1.v, .int .i64 r.2] ∧ Nats h' s1 r.1 ∧ Grow h0 h' ∧ Own h0 s1
def kea (r : kbz) : kcs → Prop
 | .fn x1c0 z1c1 x1c2 x1c3 x2 x3 => ∀ {h : AH} {s1c0 : Sl} {s1c2 : Sl} {s1c3 : Sl} {a2 : Sl} {a3 : Sl} {i1 : Nat}, h.has i1 [s1c0.v, .int .u64 z1c1, s1c2.v, s1c3.v] T.kcc → Nats h s1c0 x1c0 → Nats h s1c2 x1c2 → Nats h s1c3 x1c3 → Nats h a2 x2 → Nats h a3 x3 → Runs (go (.fn F.kb0 [.ptr (some (.new i1 0)), a2.v, a3.v]) h) (ki6 h r)
 | .p7 x1c0 z1c1 x1c2 x1c3 x2 x4 x5 a6 => ∀ {h0 h : AH} {s1c0 : Sl} {s1c2 : Sl} {s1c3 : Sl} {a2 : Sl} {a4 : Sl} {a5 : Sl} {i4 : Option Nat} {i1 : Nat}, Grow h0 h → h0.has i1 [s1c0.v, .int .u64 z1c1, s1c2.v, s1c3.v] T.kcc → Nats h0 s1c0 x1c0 → Nats h0 s1c2 x1c2 → Nats h0 s1c3 x1c3 → Nats h0 a2 x2 → GO El.nats T.kr h a4 i4 x4 → Nats h a5 x5 → LeO h0.blks.size i4 → AvO a5 x5 i4 → Runs (go (.pt F.kb0 Td.kny [(0, .ptr (some (.new i1 0))), (2, a2.v), (8, .func (.func F.kx) [.ptr (some (.new i1 0))] []), (9, a4.v), (10, a5.v), (44, .int .i64 a6)]) h) (ki6 h0 r)
 | .p12 x1 x2c0 z2c1 x2c2 x2c3 x3 x4 a5 => ∀ {h0 h : AH} {a1 : Sl} {s2c0 : Sl} {s2c2 : Sl} {s2c3 : Sl} {a3 : Sl} {a4 : Sl} {i2 : Nat}, Grow h0 h → Nats h0 a1 x1 → h0.has i2 [s2c0.v, .int .u64 z2c1, s2c2.v, s2c3.v] T.kcc → Nats h0 s2c0 x2c0 → Nats h0 s2c2 x2c2 → Nats h0 s2c3 x2c3 → Seq El.nats h a3 x3 → Nats h a4 x4 → Runs (go (.pt F.kb0 Td.kl9 [(2, a1.v), (8, .func (.func F.kx) [.ptr (some (.new i2 0))] []), (9, a3.v), (11, a4.v), (12, .int .i64 a5)]) h) (ki6 h0 r)
 | .p16 x1 x2c0 z2c1 x2c2 x2c3 x3 x4 a5 a6 a7 => ∀ {h0 h : AH} {a1 : Sl} {s2c0 : Sl} {s2c2 : Sl} {s2c3 : Sl} {a3 : Sl} {a4 : Sl} {i2 : Nat}, Grow h0 h → Nats h0 a1 x1 → h0.has i2 [s2c0.v, .int .u64 z2c1, s2c2.v, s2c3.v] T.kcc → Nats h0 s2c0 x2c0 → Nats h0 s2c2 x2c2 → Nats h0 s2c3 x2c3 → Seq El.nats h a3 x3 → Nats h a4 x4 → Runs (go (.pt F.kb0 Td.kjo [(2, a1.v), (8, .func (.func F.kx) [.ptr (some (.new i2 0))] []), (9, a3.v), (11, a4.v), (12, .int .i64 a5), (13, .int .i64 a6), (72, .int .i64 a7)]) h) (ki6 h0 r)
theorem k0c {r : kbz} {o : kcs ⊕ kbz} {x1c0 : List Nat} {z1c1 : Int} {x1c2 : List Nat} {x1c3 : List Nat} {x2 : List Nat} {x3 : List Nat} (e : kj6 x1c0 z1c1 x1c2 x1c3 x2 x3 = some o) (good : GoodS (kea r) r o) : kea r (.fn x1c0 z1c1 x1c2 x1c3 x2 x3) := by
 intro h s1c0 s1c2 s1c3 a2 a3 i1 b1 n1c0 n1c2 n1c3 n2 n3
 rw [k3m]
 unfold kj6 at e
 rw [n3.len]
 refine Runs.new fun H4 b4 g4 => ?_
 obtain ⟨_, H5, e5, rfl, g5⟩ := kbar (g4.has b1) (n1c0.grow g4) (n1c2.grow g4) (n1c3.grow g4) b4 (n2.grow g4)
 refine Runs.step e5 ?_
 refine Runs.step (seen rfl) ?_
 refine Runs.cond (fun k6 => ?_) (fun k6 => ?_)
 ·replace e := (condT k6).symm.trans e
  cases e
  cases good
  exact Runs.ret ⟨(⟨none, 0, .is 0⟩ : Sl), rfl, (Nats.nil _), (g4.trans g5), (Own.nil _)⟩
 ·replace e := (condF k6).symm.trans e
  refine Runs.step (kc4 (n3.grow (g4.trans g5))) ?_
  refine Runs.step (seen rfl) ?_
  refine Runs.cond (fun k8 => ?_) (fun k8 => ?_)
  ·replace e := (condT k8).symm.trans e
   cases e
   cases good
   exact Runs.ret ⟨(⟨none, 0, .is 0⟩ : Sl), rfl, (Nats.nil _), (g4.trans g5), (Own.nil _)⟩
  ·replace e := (condF k8).symm.trans e
   refine Runs.cond (fun k9 => ?_) (fun k9 => ?_)
   ·replace e := (condT k9).symm.trans e
    cases e
    cases good
    exact Runs.ret ⟨(⟨none, 0, .is 0⟩ : Sl), rfl, (Nats.nil _), (g4.trans g5), (Own.nil _)⟩
   ·replace e := (condF k9).symm.trans e
    refine Runs.step rfl ?_
    refine Runs.step (AH.has.rd ((g4.trans g5).has b1) 2 rfl (asSl_v _)) ?_
    refine Runs.new fun H10 b10 g10 => ?_
    refine Runs.step rfl ?_
    have G11 := ((g4.trans g5).trans g10)
    have b1_12 := G11.has b1
    refine Runs.step (AH.has.rd b1_12 3 rfl (asSl_v _)) ?_
    have n1c0_13 := n1c0.grow G11
    have n1c2_14 := n1c2.grow G11
    have n1c3_15 := n1c3.grow G11
    have n2_16 := n2.grow G11
    obtain ⟨p17, q17, e⟩ := Option.bind_eq_some_iff.1 e
    obtain ⟨_, H17, e17, s17, rfl, n17, g17, o17⟩ := kk3 b1_12 n1c0_13 n1c2_14 n1c3_15 n2_16 n1c3_15 q17
    refine Runs.step e17 ?_
    refine Runs.step (seen (asSl_v _)) ?_
    cases e
    have G18 := (G11.trans g17)
    exact good G18 b1 n1c0 n1c2 n1c3 n3 (GO.one (g17.has b10) ⟨_, rfl, (n1c2_14.grow g17)⟩ (AvE.nats (i := some (H5.blks.size)) (Av.of_base n1c2 (Nat.le_trans ((g4.trans g5)).size (Nat.le_refl _))))) n17 (Nat.le_trans ((g4.trans g5)).size (Nat.le_refl _)) (Av.of_own o17 (b10).lt)
theorem k7u {r : kbz} {o : kcs ⊕ kbz} {x1c0 : List Nat} {z1c1 : Int} {x1c2 : List Nat} {x1c3 : List Nat} {x2 : List Nat} {x4 : List (List Nat)} {x5 : List Nat} {a6 : Int} (e : kf9 x1c0 z1c1 x1c2 x1c3 x2 x4 x5 a6 = some o) (good : GoodS (kea r) r o) : kea r (.p7 x1c0 z1c1 x1c2 x1c3 x2 x4 x5 a6) := by
 intro h0 h s1c0 s1c2 s1c3 a2 a4 a5 i4 i1 g0 b1 n1c0 n1c2 n1c3 n2 v4 n5 hi4 av5_4
 rw [k4p]
 unfold kf9 at e
 rw [(v4).seq.len]
 refine Runs.cond (fun k7 => ?_) (fun k7 => ?_)
 ·replace e := (condT k7).symm.trans e
  obtain ⟨y8, q8, e⟩ := Option.bind_eq_some_iff.1 e
  obtain ⟨r8, cs8, j8, E8, l8⟩ := ((v4).seq).at q8
  obtain ⟨s8, rfl, n8⟩ := E8
  refine Runs.step j8 ?_
  refine Runs.step (l8.rd0 (Grow.refl _) rfl (asSl_v _)) ?_
  obtain ⟨p9, q9, e⟩ := Option.bind_eq_some_iff.1 e
  obtain ⟨_, H9, e9, s9, rfl, n9, g9, o9⟩ := kk3 (g0.has b1) (n1c0.grow g0) (n1c2.grow g0) (n1c3.grow g0) n8 n5 q9
  refine Runs.step e9 ?_
  refine Runs.step (seen (asSl_v _)) ?_
  refine Runs.new fun H10 b10 g10 => ?_
  refine Runs.step (kye b10 (by rw [k81]; rfl)) ?_
  obtain ⟨c11, q11, e⟩ := Option.bind_eq_some_iff.1 e
  obtain ⟨s11, H11, e11, v11, u11⟩ := GO.push (E := El.nats) (v4.grow (g9.trans g10)) ⟨_, rfl, (n9.grow g10)⟩ (AvE.nats (AvO.of_own o9 (v4).lt)) c11.down
  refine Runs.step e11 ?_
  have n5_11 := (n5.grow (g9.trans g10)).updo av5_4 u11
  have n9_11 := (n9.grow g10).updo (AvO.of_own o9 (v4).lt) u11
  have b10_11 := AH.has.updo b10 (NeO.of_lt ((v4.grow g9)).lt (Nat.le_refl _)) u11
  refine Runs.step (asSl_v _) ?_
  have G12 := ((g0.trans g9).trans g10)
  cases e
  have G13 := (G12.updo hi4 u11)
  exact good G13 b1 n1c0 n1c2 n1c3 n2 v11 n5_11 (LeO.trans (G12).size (Nat.le_refl _)) (AvO.of_base n5 (LeO.trans ((g9.trans g10)).size (Nat.le_refl _)))
 ·replace e := (condF k7).symm.trans e
  refine Runs.step rfl ?_
  refine Runs.step (AH.has.rd (g0.has b1) 2 rfl (asSl_v _)) ?_
  obtain ⟨_, H8, e8, rfl, g8⟩ := kqv (n2.grow g0)
  refine Runs.step e8 ?_
  refine Runs.step (seen (kb _ _)) ?_
  cases e
  exact good (g0.trans g8) n2 b1 n1c0 n1c2 n1c3 (((v4.grow g8)).seq) (n1c2.grow (g0.trans g8))
theorem k8b {r : kbz} {o : kcs ⊕ kbz} {x1 : List Nat} {x2c0 : List Nat} {z2c1 : Int} {x2c2 : List Nat} {x2c3 : List Nat} {x3 : List (List Nat)} {x4 : List Nat} {a5 : Int} (e : kg2 x1 x2c0 z2c1 x2c2 x2c3 x3 x4 a5 = some o) (good : GoodS (kea r) r o) : kea r (.p12 x1 x2c0 z2c1 x2c2 x2c3 x3 x4 a5) := by
 intro h0 h a1 s2c0 s2c2 s2c3 a3 a4 i2 g0 n1 b2 n2c0 n2c2 n2c3 n3 n4
 rw [k7c]
 unfold kg2 at e
 refine Runs.cond (fun k6 => ?_) (fun k6 => ?_)
 ·replace e := (condT k6).symm.trans e
  cases e
  exact good g0 n1 b2 n2c0 n2c2 n2c3 n3 n4
 ·replace e := (condF k6).symm.trans e
  refine Runs.new fun H7 b7 g7 => ?_
  obtain ⟨w8, z8, e⟩ := Option.bind_eq_some_iff.1 e
  obtain ⟨p9, q9, e⟩ := Option.bind_eq_some_iff.1 e
  obtain ⟨_, H9, e9, s9, rfl, n9, g9, o9⟩ := kk3 ((g0.trans g7).has b2) (n2c0.grow (g0.trans g7)) (n2c2.grow (g0.trans g7)) (n2c3.grow (g0.trans g7)) (n4.grow g7) (Nats.of_has1 b7 z8) q9
  refine Runs.step e9 ?_
  refine Runs.step (seen (asSl_v _)) ?_
  cases e
  cases good
  have G10 := ((g0.trans g7).trans g9)
  exact Runs.ret ⟨s9, rfl, n9, G10, (o9.of_le (g0.trans g7))⟩
theorem k33 {r : kbz} {o : kcs ⊕ kbz} {x1 : List Nat} {x2c0 : List Nat} {z2c1 : Int} {x2c2 : List Nat} {x2c3 : List Nat} {x3 : List (List Nat)} {x4 : List Nat} {a5 : Int} {a6 : Int} {a7 : Int} (e : kgf x1 x2c0 z2c1 x2c2 x2c3 x3 x4 a5 a6 a7 = some o) (good : GoodS (kea r) r o) : kea r (.p16 x1 x2c0 z2c1 x2c2 x2c3 x3 x4 a5 a6 a7) := by
 intro h0 h a1 s2c0 s2c2 s2c3 a3 a4 i2 g0 n1 b2 n2c0 n2c2 n2c3 n3 n4
 rw [k59]
 unfold kgf at e
 rw [n3.len]
 refine Runs.cond (fun k8 => ?_) (fun k8 => ?_)
 ·replace e := (condT k8).symm.trans e
  obtain ⟨p9, q9, e⟩ := Option.bind_eq_some_iff.1 e
  obtain ⟨_, H9, e9, s9, rfl, n9, g9, o9⟩ := kk3 (g0.has b2) (n2c0.grow g0) (n2c2.grow g0) (n2c3.grow g0) n4 n4 q9
  refine Runs.step e9 ?_
  refine Runs.step (seen (asSl_v _)) ?_
  obtain ⟨c10_0, q10_0, e⟩ := Option.bind_eq_some_iff.1 e
  obtain ⟨_, H10, e10, rfl, g10⟩ := ktq (n1.grow (g0.trans g9))  c10_0.down
  refine Runs.step e10 ?_
  refine Runs.step (seen rfl) ?_
  refine Runs.cond (fun k11 => ?_) (fun k11 => ?_)
  ·replace e := (condT k11).symm.trans e
   refine Runs.cond (fun k12 => ?_) (fun k12 => ?_)
   ·replace e := (condT k12).symm.trans e
    cases e
   ·replace e := (condF k12).symm.trans e
    cases e
    have G13 := ((g0.trans g9).trans g10)
    exact good G13 n1 b2 n2c0 n2c2 n2c3 (n3.grow (g9.trans g10)) (n9.grow g10)
  ·replace e := (condF k11).symm.trans e
   cases e
   have G12 := ((g0.trans g9).trans g10)
   exact good G12 n1 b2 n2c0 n2c2 n2c3 (n3.grow (g9.trans g10)) (n9.grow g10)
 ·replace e := (condF k8).symm.trans e
  obtain ⟨y9, q9, e⟩ := Option.bind_eq_some_iff.1 e
  obtain ⟨r9, cs9, j9, E9, l9⟩ := (n3).at q9
  obtain ⟨s9, rfl, n9⟩ := E9
  refine Runs.step j9 ?_
  refine Runs.step (l9.rd0 (Grow.refl _) rfl (asSl_v _)) ?_
  obtain ⟨p10, q10, e⟩ := Option.bind_eq_some_iff.1 e
  obtain ⟨_, H10, e10, s10, rfl, n10, g10, o10⟩ := kk3 (g0.has b2) (n2c0.grow g0) (n2c2.grow g0) (n2c3.grow g0) n4 n9 q10
  refine Runs.step e10 ?_
  refine Runs.step (seen (asSl_v _)) ?_
  cases e
  exact good (g0.trans g10) n1 b2 n2c0 n2c2 n2c3 (n3.grow g10) n10
theorem kbaw {s : kcs} {r : kbz} (it : Iter kgt s r) : kea r s := Iter.ind (fun s o e good => by
 cases s with
 | fn x1c0 z1c1 x1c2 x1c3 x2 x3 => exact @k0c _ _ x1c0 z1c1 x1c2 x1c3 x2 x3 e good
 | p7 x1c0 z1c1 x1c2 x1c3 x2 x4 x5 a6 => exact @k7u _ _ x1c0 z1c1 x1c2 x1c3 x2 x4 x5 a6 e good
 | p12 x1 x2c0 z2c1 x2c2 x2c3 x3 x4 a5 => exact @k8b _ _ x1 x2c0 z2c1 x2c2 x2c3 x3 x4 a5 e good
 | p16 x1 x2c0 z2c1 x2c2 x2c3 x3 x4 a5 a6 a7 => exact @k33 _ _ x1 x2c0 z2c1 x2c2 x2c3 x3 x4 a5 a6 a7 e good
 ) it
theorem kbas {h : AH} {s1c0 : Sl} {s1c2 : Sl} {s1c3 : Sl} {a2 : Sl} {a3 : Sl} {i1 : Nat} {x1c0 : List Nat} {z1c1 : Int} {x1c2 : List Nat} {x1c3 : List Nat} {x2 : List Nat} {x3 : List Nat} (b1 : h.has i1 [s1c0.v, .int .u64 z1c1, s1c2.v, s1c3.v] T.kcc) (n1c0 : Nats h s1c0 x1c0) (n1c2 : Nats h s1c2 x1c2) (n1c3 : Nats h s1c3 x1c3) (n2 : Nats h a2 x2) (n3 : Nats h a3 x3) {r : kbz} (q : runP kgt (.fn x1c0 z1c1 x1c2 x1c3 x2 x3) = some r) : Runs (go (.fn F.kb0 [.ptr (some (.new i1 0)), a2.v, a3.v]) h) (ki6 h r) := kbaw (kbt q) b1 n1c0 n1c2 n1c3 n2 n3
end Go.Ab

/- squeezed -/
set_option linter.unusedVariables false
set_option linter.unusedSimpArgs false
set_option maxRecDepth 10000
namespace Go.Ab
open Go.Proofs Go.Num
theorem k9j {n : Nat} (h : n ≤ 1000000) : growOk Pg n T.kr 1 = true := by
 unfold growOk
 rw [k1p, k2g]
 have h1 : n * 24 ≤ kw := by simp only [kw]; omega
 have h2 : n ≤ kw := by simp only [kw]; omega
 simp [h1, h2]
theorem k69 : ∀ c : _root_.Fin 4, ∀ m : _root_.Fin (2 ^ c.val), ior .i64 ((m.val * 2 ^ (4 - c.val) : Nat) : Int) (ishl .i64 1 (IntKind.wrap .i64 (3 - (c.val : Int)))) = (((2 * m.val + 1) * 2 ^ (3 - c.val) : Nat) : Int) := by decide +kernel
theorem kuf (E j : Nat) : E / 2 ^ j = 2 * (E / 2 ^ (j + 1)) + (E.testBit j).toNat := by
 rw [Nat.testBit_eq_decide_div_mod_eq, Nat.pow_succ, ← Nat.div_div_eq_div_mul]
 generalize E / 2 ^ j = z
 have := Nat.mod_two_eq_zero_or_one z
 rcases this with h | h <;> rw [h] <;> simp <;> omega
structure RingOk (N k v : Nat) : Prop where
 hk : k ≤ 60
 lt : N < B ^ k
 one : 1 < N
 odd : N % 2 = 1
 hv : v < B
 inv : (N * v + 1) % B = 0
 len : (digs B N).length = k
def form (N k u : Nat) : List Nat := digs B (u * 2 ^ (64 * k) % N)
def kce (N k A : Nat) (j : Nat) : List (List Nat) := (List.range (j + 1)).map fun i => form N k (A ^ i)
section
variable {N k v : Nat} {ones nexts : List Nat}
theorem RingOk.prod (r : RingOk N k v) {X Y : Nat} (hX : X < N) (hY : Y < N) : runP kck (.fn (digs B N) (v : Int) ones nexts (digs B X) (digs B Y)) = some (digs B (redc N (64 * k) (X * Y))) := by
 have := kbav (ns := digs B N) (xs := digs B X) (ys := digs B Y) (ones := ones) (nexts := nexts) r.hk r.len (ku B2 N) (kbn B2 N) (ku B2 X) (ku B2 Y) r.hv
  (by rw [kf B2]; exact r.inv) (by rw [kf B2]; exact r.odd) ((kp B2 X k).2 (Nat.lt_trans hX r.lt)) (by rw [kf B2, kf B2]; exact hY)
 simpa only [kf B2] using this
theorem RingOk.forms (r : RingOk N k v) (x y : Nat) : runP kck (.fn (digs B N) (v : Int) ones nexts (form N k x) (form N k y)) = some (form N k (x * y)) := by
 have hN : 0 < N := by have := r.one; omega
 unfold form
 rw [r.prod (Nat.mod_lt _ hN) (Nat.mod_lt _ hN), kbce r.odd]
theorem RingOk.into (r : RingOk N k v) {a : Nat} (ha : a < N) : runP kck (.fn (digs B N) (v : Int) ones nexts (digs B a) (digs B (2 ^ (64 * k) * 2 ^ (64 * k) % N))) = some (form N k a) := by
 have hN : 0 < N := by have := r.one; omega
 unfold form
 rw [r.prod ha (Nat.mod_lt _ hN), kys r.odd]
theorem RingOk.out (r : RingOk N k v) (x : Nat) : runP kck (.fn (digs B N) (v : Int) ones nexts (form N k x) [1]) = some (digs B (x % N)) := by
 have hN : 0 < N := by have := r.one; omega
 have h1 : ([1] : List Nat) = digs B 1 := by rw [kdh B2 (by decide), show 1 / B = 0 from rfl, kbl]; rfl
 unfold form
 rw [h1, r.prod (Nat.mod_lt _ hN) r.one, kbab r.odd]
theorem k84 (A j : Nat) : kce N k A (j + 1) = kce N k A j ++ [form N k (A ^ (j + 1))] := by
 unfold kce
 rw [List.range_succ, List.map_append]
 rfl
theorem kwr {A j i : Nat} (h : i ≤ j) : atX (kce N k A j) (i : Int) = some (form N k (A ^ i)) := by
 unfold kce
 rw [kqr (by rw [List.length_map, List.length_range]; omega), List.getElem_map, List.getElem_range]
theorem kun (r : RingOk N k v) {es : List Nat} (le : ∀ x ∈ es, x < B) (re : rt es = true) {A t : Nat} (ht : t ≤ 100000) (K : Iter kgt (.p12 es (digs B N) (v : Int) ones nexts (kce N k A 15) (form N k (A ^ (num B es / 2 ^ (4 * t)))) (t : Int)) (digs B (A ^ num B es % N), 0)) :
  ∀ (d c m q : Nat), c + d = 4 → num B es / 2 ^ (4 * (t + 1) - c) = q * 2 ^ c + m → m < 2 ^ c →
   Iter kgt (.p16 es (digs B N) (v : Int) ones nexts (kce N k A 15) (form N k (A ^ (q * 2 ^ c))) ((t + 1 : Nat) : Int) ((m * 2 ^ (4 - c) : Nat) : Int) (c : Int)) (digs B (A ^ num B es % N), 0)
 | 0, c, m, q, hc, hq, hm => by
  have hc : c = 4 := by omega
  subst hc
  refine .next ?_ K
  show kgf _ _ _ _ _ _ _ _ _ _ = _
  unfold kgf
  have h16 : (2 : Nat) ^ 4 = 16 := rfl
  rw [h16] at hm
  rw [condF (by decide), show m * 2 ^ (4 - 4) = m from by simp, kwr (by omega), Option.bind_some, r.forms, Option.bind_some, show (((t + 1 : Nat) : Int) - 1) = (t : Int) from by omega, kn (by omega), ← Nat.pow_add, ← hq, show 4 * (t + 1) - 4 = 4 * t from by omega]
 | d + 1, c, m, q, hc, hq, hm => by
  have hb := kuf (num B es) (4 * (t + 1) - (c + 1))
  rw [show 4 * (t + 1) - (c + 1) + 1 = 4 * (t + 1) - c from by omega, hq] at hb
  have hd := k69 ⟨c, by omega⟩ ⟨m, hm⟩
  dsimp only at hd
  have e1 : q * 2 ^ (c + 1) = q * 2 ^ c + q * 2 ^ c := by rw [Nat.pow_succ, ← Nat.mul_assoc]; omega
  have e2 : m * 2 ^ (4 - c) = 2 * m * 2 ^ (4 - (c + 1)) := by rw [show 4 - c = 4 - (c + 1) + 1 from by omega, Nat.pow_succ, Nat.mul_comm (2 ^ (4 - (c + 1))) 2, ← Nat.mul_assoc, Nat.mul_comm m 2]
  have hi : (IntKind.wrap .i64 ((IntKind.wrap .i64 ((IntKind.wrap .i64 (((t + 1 : Nat) : Int) * 4)) - 1)) - (c : Int))) = ((4 * (t + 1) - (c + 1) : Nat) : Int) := by
   rw [show ((t + 1 : Nat) : Int) * 4 = ((4 * (t + 1) : Nat) : Int) from by omega, kn (by omega), show ((4 * (t + 1) : Nat) : Int) - 1 = ((4 * (t + 1) - 1 : Nat) : Int) from by omega, kn (by omega), show ((4 * (t + 1) - 1 : Nat) : Int) - (c : Int) = ((4 * (t + 1) - (c + 1) : Nat) : Int) from by omega, kn (by omega)]
  have hm2 : 2 ^ (c + 1) = 2 * 2 ^ c := by rw [Nat.pow_succ]; omega
  have hneed : ((4 * (t + 1) - (c + 1) : Nat) : Int) ≤ 9223372036854775807 := by omega
  have step : kgf es (digs B N) (v : Int) ones nexts (kce N k A 15) (form N k (A ^ (q * 2 ^ c))) ((t + 1 : Nat) : Int) ((m * 2 ^ (4 - c) : Nat) : Int) (c : Int) =
    some (.inl (.p16 es (digs B N) (v : Int) ones nexts (kce N k A 15) (form N k (A ^ (q * 2 ^ (c + 1)))) ((t + 1 : Nat) : Int) (((2 * m + ((num B es).testBit (4 * (t + 1) - (c + 1))).toNat) * 2 ^ (4 - (c + 1)) : Nat) : Int) ((c + 1 : Nat) : Int))) := by
   unfold kgf
   rw [condT (by rw [decide_eq_true_eq]; omega), r.forms, Option.bind_some, hi, kg hneed, Option.bind_some, kip re, kq (by omega), ← Nat.pow_add, ← e1]
   cases hbit : (num B es).testBit (4 * (t + 1) - (c + 1))
   ·rw [cond_false, e2]
    rfl
   ·rw [cond_true, condF (by rw [decide_eq_false_iff_not, show (3 : Int) - (c : Int) = ((3 - c : Nat) : Int) from by omega, kn (by omega)]; omega), hd, show 4 - (c + 1) = 3 - c from by omega]
    rfl
  refine .next step (kun r le re ht K d (c + 1) _ q (by omega) ?_ ?_)
  ·rw [hb, e1]
   omega
  ·cases (num B es).testBit (4 * (t + 1) - (c + 1))
   ·show 2 * m + 0 < _
    omega
   ·show 2 * m + 1 < _
    omega
theorem kv4 (r : RingOk N k v) {es : List Nat} (le : ∀ x ∈ es, x < B) (re : rt es = true) {A : Nat} : ∀ t : Nat, t ≤ 100000 →
  Iter kgt (.p12 es (digs B N) (v : Int) ones nexts (kce N k A 15) (form N k (A ^ (num B es / 2 ^ (4 * t)))) (t : Int)) (digs B (A ^ num B es % N), 0)
 | 0, _ => by
  refine .done ?_
  show kg2 _ _ _ _ _ _ _ _ = _
  unfold kg2
  rw [condF (by decide), show u64P 1 = some 1 from rfl, Option.bind_some, r.out, Option.bind_some, Nat.mul_zero, Nat.pow_zero, Nat.div_one]
 | t + 1, ht => by
  have K := kv4 r le re (A := A) t (by omega)
  have := kun r le re (by omega) K 4 0 0 (num B es / 2 ^ (4 * (t + 1))) (by omega) (by simp) (by simp)
  rw [Nat.pow_zero, Nat.mul_one, Nat.zero_mul] at this
  refine .next ?_ this
  show kg2 _ _ _ _ _ _ _ _ = _
  unfold kg2
  rw [condT (by rw [decide_eq_true_eq]; omega)]
  rfl
theorem exp_p7 (r : RingOk N k v) (h1 : ones = form N k 1) {es : List Nat} (le : ∀ x ∈ es, x < B) (re : rt es = true) {A : Nat} : ∀ (d j : Nat), j + d = 15 →
  Iter kgt (.p7 (digs B N) (v : Int) ones nexts es (kce N k A j) (form N k A) (j : Int)) (digs B (A ^ num B es % N), 0)
 | 0, j, hj => by
  have hj : j = 15 := by omega
  subst hj
  have h64 := (rt_iff.1 re).1
  have hlt := num_lt B1 le
  rw [B_pow2] at hlt
  have hb : bitsN es ≤ 64 * 64 := by
   unfold bitsN
   rw [if_pos re]
   exact Nat.le_trans (bl_le hlt) (Nat.mul_le_mul_left _ h64)
  have hE : num B es < 2 ^ bitsN es := by
   unfold bitsN
   rw [if_pos re]
   exact (bl_Bl _).1
  have := kv4 r le re (A := A) (ones := ones) (nexts := nexts) ((bitsN es + 3) / 4) (by omega)
  have hz : num B es / 2 ^ (4 * ((bitsN es + 3) / 4)) = 0 := by
   refine Nat.div_eq_of_lt (Nat.lt_of_lt_of_le hE (Nat.pow_le_pow_right (by decide) (by omega)))
  rw [hz, Nat.pow_zero, ← h1] at this
  refine .next ?_ this
  show kf9 _ _ _ _ _ _ _ _ = _
  unfold kf9
  rw [condF (by decide), show ((bitsN es : Nat) : Int) + 4 = ((bitsN es + 4 : Nat) : Int) from by omega, kn (by omega), show ((bitsN es + 4 : Nat) : Int) - 1 = ((bitsN es + 3 : Nat) : Int) from by omega, kn (by omega), show Int.tdiv ((bitsN es + 3 : Nat) : Int) 4 = (((bitsN es + 3) / 4 : Nat) : Int) from rfl, kn (by omega)]
 | d + 1, j, hj => by
  have hl : (kce N k A j).length = j + 1 := by unfold kce; simp
  refine .next ?_ (exp_p7 r h1 le re d (j + 1) (by omega))
  show kf9 _ _ _ _ _ _ _ _ = _
  unfold kf9
  have hg : growOk Pg (j + 1 + 1) T.kr 1 = true := k9j (by omega)
  rw [condT (by rw [decide_eq_true_eq]; omega), hl, show ((j + 1 : Nat) : Int) - 1 = (j : Int) from by omega, kn (by omega), kwr (Nat.le_refl _), Option.bind_some, r.forms, Option.bind_some, kg hg, Option.bind_some, kq (by omega), k84, Nat.pow_succ]
theorem k02 (r : RingOk N k v) {A : Nat} (hA : A < N) {es : List Nat} (le : ∀ x ∈ es, x < B) (re : rt es = true) (h8 : es.length ≤ 8) :
  runP kgt (.fn (digs B N) (v : Int) (form N k 1) (digs B (2 ^ (64 * k) * 2 ^ (64 * k) % N)) (digs B A) es) = some (digs B (A ^ num B es % N), 0) := by
 have := exp_p7 r rfl (nexts := digs B (2 ^ (64 * k) * 2 ^ (64 * k) % N)) le re (A := A) 15 0 (by omega)
 refine kbq (.next ?_ this)
 show kj6 _ _ _ _ _ _ = _
 have h60 : N < B ^ 64 := Nat.lt_of_lt_of_le r.lt (Nat.pow_le_pow_right (by decide) (by have := r.hk; omega))
 have hb : belowF (digs B A) (digs B N) = true := by
  unfold belowF
  rw [kbp (Nat.lt_trans hA h60), kn3 (kbp (Nat.lt_trans hA h60)) (kbp h60), kf B2, kf B2]
  unfold cmp
  rw [if_pos hA]
  rfl
 unfold kj6
 rw [hb, re, show (!true) = false from rfl, cond_false, cond_false, condF (by rw [decide_eq_false_iff_not]; omega), r.into hA, Option.bind_some]
 simp [kce, form]
end
end Go.Ab

/- squeezed -/
set_option linter.unusedVariables false
set_option linter.unusedSimpArgs false
set_option maxRecDepth 10000
namespace Go.Ab
open Go.Proofs Go.Num
inductive khs
 | fn (x1c0 : List Nat) (z1c1 : Int) (x1c2 : List Nat) (x1c3 : List Nat) (a2 : Int)
 | no
abbrev kfj := List Nat
noncomputable def kjj (x1c0 : List Nat) (z1c1 : Int) (x1c2 : List Nat) (x1c3 : List Nat) (a2 : Int) : Option (khs ⊕ kfj) :=
 (mkI (IntKind.wrap .i64 ((IntKind.wrap .i64 (a2 * (List.length x1c0 : Int))) + 1)) (IntKind.wrap .i64 ((IntKind.wrap .i64 (a2 * (List.length x1c0 : Int))) + 1))).bind fun m3 => (inI (List.length (List.replicate m3 0)) (IntKind.wrap .i64 (a2 * (List.length x1c0 : Int)))).bind fun j4 => (u64P 1).bind fun w5 => some (.inr ((divN (List.set (List.replicate m3 0) j4 w5) x1c0).2.1))
noncomputable def kqp : khs → Option (khs ⊕ kfj)
 | .fn x1c0 z1c1 x1c2 x1c3 a2 => kjj x1c0 z1c1 x1c2 x1c3 a2
 | .no => none
@[reducible] def kwx (h0 : AH) (r : kfj) (v : AV) (h' : AH) : Prop := ∃ s1 : Sl, v = s1.v ∧ Nats h' s1 r ∧ Grow h0 h' ∧ Own h0 s1
def ko1 (r : kfj) : khs → Prop
 | .fn x1c0 z1c1 x1c2 x1c3 a2 => ∀ {h : AH} {s1c0 : Sl} {s1c2 : Sl} {s1c3 : Sl} {i1 : Nat}, h.has i1 [s1c0.v, .int .u64 z1c1, s1c2.v, s1c3.v] T.kcc → Nats h s1c0 x1c0 → Nats h s1c2 x1c2 → Nats h s1c3 x1c3 → Runs (go (.fn F.ki9 [.ptr (some (.new i1 0)), .int .i64 a2]) h) (kwx h r)
 | .no => True
theorem kbbl {r : kfj} {o : khs ⊕ kfj} {x1c0 : List Nat} {z1c1 : Int} {x1c2 : List Nat} {x1c3 : List Nat} {a2 : Int} (e : kjj x1c0 z1c1 x1c2 x1c3 a2 = some o) (good : GoodS (ko1 r) r o) : ko1 r (.fn x1c0 z1c1 x1c2 x1c3 a2) := by
 intro h s1c0 s1c2 s1c3 i1 b1 n1c0 n1c2 n1c3
 rw [k5a]
 unfold kjj at e
 refine Runs.step rfl ?_
 refine Runs.step (AH.has.rd b1 0 rfl (asSl_v _)) ?_
 rw [n1c0.len]
 obtain ⟨m3, q3, e⟩ := Option.bind_eq_some_iff.1 e
 refine Runs.mk q3 kb5 fun s3 H3 v3 g3 => ?_
 rw [v3.nats.len]
 refine Runs.step rfl ?_
 refine Runs.step (AH.has.rd (g3.has b1) 0 rfl (asSl_v _)) ?_
 rw [(n1c0.grow g3).len]
 obtain ⟨j4, q4, e⟩ := Option.bind_eq_some_iff.1 e
 refine Runs.step (v3.idx rfl q4) ?_
 obtain ⟨w5, z5, e⟩ := Option.bind_eq_some_iff.1 e
 refine Runs.vput v3 rfl q4 z5 fun H5 v5 u5 => ?_
 refine Runs.step rfl ?_
 refine Runs.step (AH.has.rd ((g3.updr (Nat.le_refl _) u5).has b1) 0 rfl (asSl_v _)) ?_
 obtain ⟨s6, s6b, H6, e6, n6, n6b, g6, o6, o6b⟩ := ko6 v5.nats (n1c0.grow (g3.updr (Nat.le_refl _) u5))
 refine Runs.step e6 ?_
 refine Runs.step rfl ?_
 refine Runs.step (seen (asSl_v _)) ?_
 refine Runs.step (seen (asSl_v _)) ?_
 refine Runs.step (seen (kb _ _)) ?_
 cases e
 cases good
 have G7 := ((g3.updr (Nat.le_refl _) u5).trans g6)
 exact Runs.ret ⟨s6b, rfl, n6b, G7, (o6b.of_le (g3.updr (Nat.le_refl _) u5))⟩
theorem kbbn {s : khs} {r : kfj} (it : Iter kqp s r) : ko1 r s := Iter.ind (fun s o e good => by
 cases s with
 | fn x1c0 z1c1 x1c2 x1c3 a2 => exact @kbbl _ _ x1c0 z1c1 x1c2 x1c3 a2 e good
 | no => exact True.intro
 ) it
theorem ktk {h : AH} {s1c0 : Sl} {s1c2 : Sl} {s1c3 : Sl} {i1 : Nat} {x1c0 : List Nat} {z1c1 : Int} {x1c2 : List Nat} {x1c3 : List Nat} {a2 : Int} (b1 : h.has i1 [s1c0.v, .int .u64 z1c1, s1c2.v, s1c3.v] T.kcc) (n1c0 : Nats h s1c0 x1c0) (n1c2 : Nats h s1c2 x1c2) (n1c3 : Nats h s1c3 x1c3) {r : kfj} (q : runP kqp (.fn x1c0 z1c1 x1c2 x1c3 a2) = some r) : Runs (go (.fn F.ki9 [.ptr (some (.new i1 0)), .int .i64 a2]) h) (kwx h r) := kbbn (kbt q) b1 n1c0 n1c2 n1c3
end Go.Ab

/- squeezed -/
set_option linter.unusedVariables false
set_option linter.unusedSimpArgs false
set_option maxRecDepth 10000
namespace Go.Ab
open Go.Proofs Go.Num
theorem k56 (n : Nat) : num B (List.replicate n 0 ++ [1]) = B ^ n := by
 have h : num B (List.replicate n 0) = 0 := by have := kd3 B [] n; simpa [num] using this
 rw [kbs, h, List.length_replicate]
 simp [num]
theorem kvw {ns c2 c3 : List Nat} (z : Int) {p k : Nat} (hk : ns.length = k) (hp : p ≤ 2) (h8 : k ≤ 8) (h0 : k ≠ 0) (r : rt ns = true) : runP kqp (.fn ns z c2 c3 (p : Int)) = some (digs B (B ^ (p * k) % num B ns)) := by
 have hpk : p * k ≤ 2 * 8 := Nat.mul_le_mul hp h8
 refine kbq (.done ?_)
 show kjj ns z c2 c3 (p : Int) = _
 unfold kjj
 have e : IntKind.wrap .i64 ((p : Int) * (k : Int)) = ((p * k : Nat) : Int) := by rw [← Int.natCast_mul, kn (by omega)]
 rw [hk, e, kq (by omega), kcz (by omega), Option.bind_some, List.length_replicate, kv (by omega), Option.bind_some, show u64P 1 = some 1 from rfl, Option.bind_some]
 have hs : (List.replicate (p * k + 1) 0).set (p * k) 1 = List.replicate (p * k) 0 ++ [1] := by
  rw [List.replicate_succ']
  have := kmf (List.replicate (p * k) 0) 0 1 [] (n := p * k) (by simp)
  rw [this, List.append_nil]
 have rx : rt (List.replicate (p * k) 0 ++ [1]) = true := rt_iff.2 ⟨by simp; omega, fun h => by simp⟩
 rw [hs, koa rx r (fun e => h0 (by rw [← hk, e]; rfl)), k56]
theorem k9y (n x : Int) : IntKind.wrap .u64 (x * IntKind.wrap .u64 (2 - IntKind.wrap .u64 (n * x))) = (x * (2 - n * x)) % 18446744073709551616 := by
 rw [wrapU, wrapU, wrapU]
 have : (2 - n * x % 18446744073709551616) % 18446744073709551616 = (2 - n * x) % 18446744073709551616 := by
  generalize n * x = t
  omega
 rw [this, newton.Int.mul_emod_aux]
theorem k2e {n x i : Nat} (hi : i < 6) (h : (n * x) % 2 ^ (2 ^ i) = 1 % 2 ^ (2 ^ i)) : ∃ y : Nat, y < 18446744073709551616 ∧ (((x : Int) * (2 - (n : Int) * (x : Int))) % 18446744073709551616) = (y : Int) ∧ (n * y) % 2 ^ (2 ^ (i + 1)) = 1 % 2 ^ (2 ^ (i + 1)) := by
 have h1 := Int.emod_nonneg ((x : Int) * (2 - (n : Int) * (x : Int))) (show (18446744073709551616 : Int) ≠ 0 by decide)
 have h2 := Int.emod_lt_of_pos ((x : Int) * (2 - (n : Int) * (x : Int))) (show (0 : Int) < 18446744073709551616 by decide)
 refine ⟨(((x : Int) * (2 - (n : Int) * (x : Int))) % 18446744073709551616).toNat, by omega, by omega, ?_⟩
 have hw : (2 : Nat) ^ (2 ^ (i + 1)) = 2 ^ (2 ^ i) * 2 ^ (2 ^ i) := by rw [← Nat.pow_add, Nat.pow_succ, Nat.mul_two]
 have hd : (2 : Nat) ^ (2 ^ (i + 1)) ∣ 18446744073709551616 := Nat.pow_dvd_pow 2 (show 2 ^ (i + 1) ≤ 2 ^ 6 from Nat.pow_le_pow_right (by decide) (by omega))
 generalize (2 : Nat) ^ (2 ^ (i + 1)) = w at hw hd ⊢
 have hd' : (w : Int) ∣ 18446744073709551616 := Int.natCast_dvd_natCast.2 hd
 have := newton hw h (((x : Int) * (2 - (n : Int) * (x : Int))) % 18446744073709551616) (Int.emod_emod_of_dvd _ hd')
 have e : ((((x : Int) * (2 - (n : Int) * (x : Int))) % 18446744073709551616).toNat : Int) = ((x : Int) * (2 - (n : Int) * (x : Int))) % 18446744073709551616 := by omega
 rw [← e] at this
 generalize (((x : Int) * (2 - (n : Int) * (x : Int))) % 18446744073709551616).toNat = y at this ⊢
 rw [← Int.natCast_mul] at this
 exact Int.ofNat.inj this
theorem k05 {n x : Nat} (h : (n * x) % 2 ^ (2 ^ 6) = 1 % 2 ^ (2 ^ 6)) : ∃ v : Nat, v < 18446744073709551616 ∧ IntKind.wrap .u64 (0 - (x : Int)) = (v : Int) ∧ (n * v + 1) % 18446744073709551616 = 0 := by
 rw [wrapU]
 refine ⟨((0 - (x : Int)) % 18446744073709551616).toNat, by omega, by omega, ?_⟩
 have e : ((((0 - (x : Int)) % 18446744073709551616).toNat : Nat) : Int) = (0 - (x : Int)) % 18446744073709551616 := by omega
 have h' : (n * x) % 18446744073709551616 = 1 := h
 have k : ((n : Int) * ((0 - (x : Int)) % 18446744073709551616) + 1) % 18446744073709551616 = 0 := by
  rw [Int.add_emod, newton.Int.mul_emod_aux, ← Int.add_emod, Int.zero_sub, Int.mul_neg, ← Int.natCast_mul]
  omega
 rw [← e] at k
 generalize ((0 - (x : Int)) % 18446744073709551616).toNat = y at k ⊢
 rw [← Int.natCast_mul] at k
 omega
def NewP (h : AH) (ns : List Nat) (w : AV) (h' : AH) : Prop :=
 ∃ (j v : Nat) (s0 s2 s3 : Sl), w = .tup [.ptr (some (.new j 0)), .int .i64 0] ∧ v < B ∧ (num B ns * v + 1) % B = 0 ∧ h'.has j [s0.v, .int .u64 (v : Int), s2.v, s3.v] T.kcc ∧ Nats h' s0 ns ∧ Nats h' s2 (digs B (B ^ (1 * ns.length) % num B ns)) ∧ Nats h' s3 (digs B (B ^ (2 * ns.length) % num B ns)) ∧ Grow h h'
theorem kv7 {h0 h : AH} {s : Sl} {ns : List Nat} (n : Nats h s ns) (hn : 0 < ns.length) (h8 : ns.length ≤ 8) (r : rt ns = true) (g : Grow h0 h) : ∀ (d i x : Nat), i + d = 6 → x < 18446744073709551616 → (ns[0] * x) % 2 ^ (2 ^ i) = 1 % 2 ^ (2 ^ i) →
  Runs (go (.pt F.kd7 Td.kif [(0, s.v), (4, .int .u64 (x : Int)), (40, .int .i64 (i : Int))]) h) (NewP h0 ns)
 | 0, i, x, hi, hx, e => by
  have hi : i = 6 := by omega
  subst hi
  obtain ⟨v, v1, v2, v3⟩ := k05 e
  rw [kw7]
  refine Runs.ifF (by decide) ?_
  obtain ⟨s1, h1, e1, n1, g1, o1⟩ := kkh n (by omega)
  refine Runs.step e1 ?_
  refine Runs.step (seen (asSl_v _)) ?_
  rw [v2]
  refine Runs.new fun h2 b2 g2 => ?_
  obtain ⟨_, h3, e3, s3, rfl, n3, g3, o3⟩ := ktk b2 (n1.grow g2) (Nats.nil _) (Nats.nil _) (kvw (v : Int) rfl (show 1 ≤ 2 by decide) h8 (by omega) r)
  refine Runs.step e3 ?_
  refine Runs.step (seen (asSl_v _)) ?_
  refine Runs.putAt (o := 2) (cs' := [s1.v, .int .u64 (v : Int), s3.v, (⟨none, 0, .is 0⟩ : Sl).v]) (vs := [s3.v]) (g3.has b2) (by simp) rfl fun h4 b4 u4 => ?_
  have n3' := n3.upda (Av.of_own o3 b2.lt) u4
  have gg : Grow h1 h4 := (g2.trans g3).updr (Nat.le_refl _) u4
  obtain ⟨_, h5, e5, s5, rfl, n5, g5, o5⟩ := ktk (a2 := ((2 : Nat) : Int)) b4 (n1.grow gg) n3' (Nats.nil _) (kvw (v : Int) rfl (show 2 ≤ 2 by decide) h8 (by omega) r)
  refine Runs.step e5 ?_
  refine Runs.step (seen (asSl_v _)) ?_
  refine Runs.putAt (o := 3) (cs' := [s1.v, .int .u64 (v : Int), s3.v, s5.v]) (vs := [s5.v]) (g5.has b4) (by simp) rfl fun h6 b6 u6 => ?_
  have gg6 : Grow h1 h6 := (gg.trans g5).updr (Nat.le_refl _) u6
  refine Runs.ret ⟨_, v, s1, s3, s5, rfl, v1, ?_, b6, n1.grow gg6, (n3'.grow g5).upda (Av.of_own o3 b2.lt) u6, n5.upda (Av.of_own o5 b4.lt) u6, (g.trans g1).trans gg6⟩
  rw [kji B ns, Nat.add_mul, Nat.mul_assoc, Nat.add_right_comm, Nat.add_mul_mod_self_left]
  have : ns.headD 0 = ns[0] := by
   cases ns with
   | nil => simp at hn
   | cons y ys => rfl
  rw [this]
  exact v3
 | d + 1, i, x, hi, hx, e => by
  rw [kw7]
  refine Runs.ifT (by rw [decide_eq_true_eq]; omega) ?_
  obtain ⟨q, e1, e2⟩ := n.at (i := 0) hn
  rw [n.len] at e1 ⊢
  refine Runs.step e1 ?_
  refine Runs.step (rdc e2 (kb _ _)) ?_
  obtain ⟨y, y1, y2, y3⟩ := k2e (by omega) e
  rw [k9y, y2, kq (by omega)]
  exact kv7 n hn h8 r g d (i + 1) y (by omega) y1 y3
theorem k3e {h : AH} {s : Sl} {ns : List Nat} (n : Nats h s ns) (r : rt ns = true) (hn : ns.length ≠ 0) (h8 : ns.length ≤ 8) (ho : num B ns % 2 = 1) (h1 : 1 < num B ns) : Runs (go (.fn F.kd7 [s.v]) h) (NewP h ns) := by
 have hp : 0 < ns.length := by omega
 have hd : ns.headD 0 = ns[0] := by
  cases ns with
  | nil => simp at hp
  | cons y ys => rfl
 have hb : ns[0] < 18446744073709551616 := n.lt _ (List.getElem_mem _)
 have hodd : ns[0] % 2 = 1 := by
  rw [kji B ns, hd] at ho
  have : (ns[0] + 18446744073709551616 * num B ns.tail) % 2 = 1 := ho
  omega
 have hs : (ns[0] * ns[0]) % 2 ^ (2 ^ 0) = 1 % 2 ^ (2 ^ 0) := by
  show (ns[0] * ns[0]) % 2 = 1
  rw [Nat.mul_mod, hodd]
 have rd : ∀ {K : Ref → Option (AV × AH)} {Q : AV → AH → Prop}, (∀ q, h.cell q = some (.int .u64 ((ns[0] : Nat) : Int)) → Runs (K q) Q) → Runs ((idx s.ref ns.length 0 1).bind K) Q := by
  intro K Q H
  obtain ⟨q, e1, e2⟩ := n.at (i := 0) hp
  rw [n.len] at e1
  exact Runs.step e1 (H q e2)
 rw [k4i]
 refine Runs.step (kc4 n) ?_
 refine Runs.step (seen rfl) ?_
 rw [show s.len = ns.length from n.len]
 refine Runs.ifF (by rw [r]; rfl) ?_
 refine Runs.ifF (by rw [decide_eq_false_iff_not]; omega) ?_
 refine Runs.ifF (by rw [decide_eq_false_iff_not]; omega) ?_
 refine rd fun q hq => ?_
 refine Runs.step (rdc hq (kb _ _)) ?_
 refine Runs.ifF (by rw [kxj hb, decide_eq_false_iff_not]; omega) ?_
 have lp : Runs (go (.pt F.kd7 Td.kif [(0, s.v), (4, .int .u64 ((ns[0] : Nat) : Int)), (40, .int .i64 0)]) h) (NewP h ns) := kv7 n hp h8 r (Grow.refl h) 6 0 ns[0] rfl hb hs
 refine Runs.cond (fun k => ?_) (fun k => ?_)
 ·refine rd fun q hq => ?_
  refine Runs.step (rdc hq (kb _ _)) ?_
  refine Runs.ifF ?_ ?_
  ·rw [decide_eq_false_iff_not]
   intro e
   have hl : ns.length = 1 := by rw [decide_eq_true_eq] at k; omega
   obtain ⟨y, hy⟩ := List.length_eq_one_iff.1 hl
   subst hy
   simp [num] at h1 e
   omega
  ·refine rd fun q hq => ?_
   refine Runs.step (rdc hq (kb _ _)) ?_
   exact lp
 ·refine rd fun q hq => ?_
  refine Runs.step (rdc hq (kb _ _)) ?_
  exact lp
end Go.Ab

/- squeezed -/
set_option linter.unusedVariables false
set_option linter.unusedSimpArgs false
set_option maxRecDepth 10000
namespace Go.Ab
open Go.Proofs Go.Num
def kbi (x1 : List Nat) : List Nat :=
 (mulN x1 x1).1
theorem kwy {h : AH} {a1 : Sl} {x1 : List Nat} (n1 : Nats h a1 x1)  : Runs (go (.fn F.kon [a1.v]) h) fun v h' => ∃ s1 : Sl, v = s1.v ∧ Nats h' s1 (kbi x1) ∧ Grow h h' ∧ Own h s1 := by
 rw [k3g]
 obtain ⟨s2, H2, e2, n2, g2, o2⟩ := kpo n1 n1
 refine Runs.step e2 ?_
 refine Runs.step rfl ?_
 refine Runs.step (seen (asSl_v _)) ?_
 refine Runs.step (seen (kb _ _)) ?_
 have z : kbi x1 = (mulN x1 x1).1 := by unfold kbi; exact rfl
 rw [z]
 exact Runs.ret ⟨s2, rfl, n2, g2, (o2.of_le (Grow.refl _))⟩
def ks (x1 : List Nat) : Bool :=
 cond ((rt x1)) (cond (((bitN x1 0))) (cond (decide ((((bitsN x1 : Nat) : Int)) ≥ 15)) (decide ((((bitsN x1 : Nat) : Int)) ≤ 80)) (false)) (false)) (false)
theorem krk {h : AH} {a1 : Sl} {x1 : List Nat} (n1 : Nats h a1 x1)  : Runs (go (.fn F.knm [a1.v]) h) fun v h' => v = .bool (ks x1) ∧ Grow h h' := by
 rw [k5q]
 obtain ⟨_, H2, e2, rfl, g2⟩ := kqv n1
 refine Runs.step e2 ?_
 refine Runs.step (seen (kb _ _)) ?_
 refine Runs.step (kc4 (n1.grow g2)) ?_
 refine Runs.step (seen rfl) ?_
 refine Runs.cond (fun k4 => ?_) (fun k4 => ?_)
 ·obtain ⟨_, H5, e5, rfl, g5⟩ := ktq (n1.grow g2) (i := 0) (by decide)
  refine Runs.step e5 ?_
  refine Runs.step (seen rfl) ?_
  refine Runs.cond (fun k6 => ?_) (fun k6 => ?_)
  ·refine Runs.cond (fun k7 => ?_) (fun k7 => ?_)
   ·have z : ks x1 = decide ((((bitsN x1 : Nat) : Int)) ≤ 80) := by unfold ks; exact (condT k4).trans ((condT k6).trans ((condT k7).trans rfl))
    rw [z]
    exact Runs.ret ⟨rfl, (g2.trans g5)⟩
   ·have z : ks x1 = false := by unfold ks; exact (condT k4).trans ((condT k6).trans ((condF k7).trans rfl))
    rw [z]
    exact Runs.ret ⟨rfl, (g2.trans g5)⟩
  ·have z : ks x1 = false := by unfold ks; exact (condT k4).trans ((condF k6).trans rfl)
   rw [z]
   exact Runs.ret ⟨rfl, (g2.trans g5)⟩
 ·have z : ks x1 = false := by unfold ks; exact (condF k4).trans rfl
  rw [z]
  exact Runs.ret ⟨rfl, g2⟩
def kcg (x1 : List Nat) (x2 : List Nat) : Bool :=
 cond ((rt x2)) (decide ((cmpN x2 x1) < 0)) (false)
theorem kqs {h : AH} {a1 : Sl} {x1 : List Nat} {a2 : Sl} {x2 : List Nat} (n1 : Nats h a1 x1) (n2 : Nats h a2 x2)  : Runs (go (.fn F.kox [a1.v, a2.v]) h) fun v h' => v = .bool (kcg x1 x2) ∧ Grow h h' := by
 rw [kz5]
 refine Runs.step (kc4 n2) ?_
 refine Runs.step (seen rfl) ?_
 refine Runs.cond (fun k4 => ?_) (fun k4 => ?_)
 ·obtain ⟨H5, e5, g5⟩ := kib n2 n1
  refine Runs.step e5 ?_
  refine Runs.step (seen (kb _ _)) ?_
  have z : kcg x1 x2 = decide ((cmpN x2 x1) < 0) := by unfold kcg; exact (condT k4).trans rfl
  rw [z]
  exact Runs.ret ⟨rfl, g5⟩
 ·have z : kcg x1 x2 = false := by unfold kcg; exact (condF k4).trans rfl
  rw [z]
  exact Runs.ret ⟨rfl, (Grow.refl _)⟩
def kbj (x1 : List Nat) (x2 : List Nat) (x3 : List Nat) : Bool :=
 cond (!(rt x1)) (false) (cond (decide ((List.length x1 : Int) = 0)) (false) (cond (decide ((cmpN x1 x3) ≥ 0)) (false) (decide ((cmpN ((gcdN x1 x2).1) [1]) = 0))))
theorem kur {h : AH} {a1 : Sl} {x1 : List Nat} {a2 : Sl} {x2 : List Nat} {a3 : Sl} {x3 : List Nat} (n1 : Nats h a1 x1) (n2 : Nats h a2 x2) (n3 : Nats h a3 x3)  : Runs (go (.fn F.kou [a1.v, a2.v, a3.v]) h) fun v h' => v = .bool (kbj x1 x2 x3) ∧ Grow h h' := by
 rw [k7b]
 rw [n1.len]
 refine Runs.step (kc4 n1) ?_
 refine Runs.step (seen rfl) ?_
 refine Runs.cond (fun k5 => ?_) (fun k5 => ?_)
 ·have z : kbj x1 x2 x3 = false := by unfold kbj; exact (condT k5).trans rfl
  rw [z]
  exact Runs.ret ⟨rfl, (Grow.refl _)⟩
 ·refine Runs.cond (fun k6 => ?_) (fun k6 => ?_)
  ·have z : kbj x1 x2 x3 = false := by unfold kbj; exact (condF k5).trans ((condT k6).trans rfl)
   rw [z]
   exact Runs.ret ⟨rfl, (Grow.refl _)⟩
  ·obtain ⟨H7, e7, g7⟩ := kib n1 n3
   refine Runs.step e7 ?_
   refine Runs.step (seen (kb _ _)) ?_
   refine Runs.cond (fun k8 => ?_) (fun k8 => ?_)
   ·have z : kbj x1 x2 x3 = false := by unfold kbj; exact (condF k5).trans ((condF k6).trans ((condT k8).trans rfl))
    rw [z]
    exact Runs.ret ⟨rfl, g7⟩
   ·obtain ⟨_, H9, e9, s9, rfl, n9, g9, o9⟩ := kyw (n1.grow g7) (n2.grow g7)
    refine Runs.step e9 ?_
    refine Runs.step rfl ?_
    refine Runs.step (seen (asSl_v _)) ?_
    refine Runs.step (seen (kb _ _)) ?_
    refine Runs.new fun H10 b10 g10 => ?_
    obtain ⟨H11, e11, g11⟩ := kib (n9.grow g10) (Nats.of_has (xs := [1]) b10 (by decide) (by decide))
    refine Runs.step e11 ?_
    refine Runs.step (seen (kb _ _)) ?_
    have z : kbj x1 x2 x3 = decide ((cmpN ((gcdN x1 x2).1) [1]) = 0) := by unfold kbj; exact (condF k5).trans ((condF k6).trans ((condF k8).trans rfl))
    rw [z]
    have G12 := (((g7.trans g9).trans g10).trans g11)
    exact Runs.ret ⟨rfl, G12⟩
def knn (x1 : List Nat) (x2 : List Nat) (x3 : List Nat) : List Nat :=
 (divN ((mulN x2 x3).1) (kbi x1)).2.1
theorem k6g {h : AH} {a1 : Sl} {x1 : List Nat} {a2 : Sl} {x2 : List Nat} {a3 : Sl} {x3 : List Nat} (n1 : Nats h a1 x1) (n2 : Nats h a2 x2) (n3 : Nats h a3 x3)  : Runs (go (.fn F.kr6 [a1.v, a2.v, a3.v]) h) fun v h' => ∃ s1 : Sl, v = s1.v ∧ Nats h' s1 (knn x1 x2 x3) ∧ Grow h h' ∧ Own h s1 := by
 rw [k51]
 obtain ⟨s4, H4, e4, n4, g4, o4⟩ := kpo n2 n3
 refine Runs.step e4 ?_
 refine Runs.step rfl ?_
 refine Runs.step (seen (asSl_v _)) ?_
 refine Runs.step (seen (kb _ _)) ?_
 obtain ⟨_, H5, e5, s5, rfl, n5, g5, o5⟩ := kwy (n1.grow g4)
 refine Runs.step e5 ?_
 refine Runs.step (seen (asSl_v _)) ?_
 obtain ⟨s6, s6b, H6, e6, n6, n6b, g6, o6, o6b⟩ := ko6 (n4.grow g5) n5
 refine Runs.step e6 ?_
 refine Runs.step rfl ?_
 refine Runs.step (seen (asSl_v _)) ?_
 refine Runs.step (seen (asSl_v _)) ?_
 refine Runs.step (seen (kb _ _)) ?_
 have z : knn x1 x2 x3 = (divN ((mulN x2 x3).1) (kbi x1)).2.1 := by unfold knn; exact rfl
 rw [z]
 have G7 := ((g4.trans g5).trans g6)
 exact Runs.ret ⟨s6b, rfl, n6b, G7, (o6b.of_le (g4.trans g5))⟩
def kfm (x1 : List Nat) (x2 : List Nat) : List Nat :=
 (addN ((mulN x2 x1).1) [1]).1
theorem kbbd {h : AH} {a1 : Sl} {x1 : List Nat} {a2 : Sl} {x2 : List Nat} (n1 : Nats h a1 x1) (n2 : Nats h a2 x2)  : Runs (go (.fn F.kqy [a1.v, a2.v]) h) fun v h' => ∃ s1 : Sl, v = s1.v ∧ Nats h' s1 (kfm x1 x2) ∧ Grow h h' ∧ Own h s1 := by
 rw [kbbr]
 obtain ⟨s3, H3, e3, n3, g3, o3⟩ := kpo n2 n1
 refine Runs.step e3 ?_
 refine Runs.step rfl ?_
 refine Runs.step (seen (asSl_v _)) ?_
 refine Runs.step (seen (kb _ _)) ?_
 refine Runs.new fun H4 b4 g4 => ?_
 obtain ⟨s5, H5, e5, n5, g5, o5⟩ := k0b (n3.grow g4) (Nats.of_has (xs := [1]) b4 (by decide) (by decide))
 refine Runs.step e5 ?_
 refine Runs.step rfl ?_
 refine Runs.step (seen (asSl_v _)) ?_
 refine Runs.step (seen (kb _ _)) ?_
 have z : kfm x1 x2 = (addN ((mulN x2 x1).1) [1]).1 := by unfold kfm; exact rfl
 rw [z]
 have G6 := ((g3.trans g4).trans g5)
 exact Runs.ret ⟨s5, rfl, n5, G6, (o5.of_le (g3.trans g4))⟩
def knb (x1 : List Nat) : List Nat :=
 (mulN x1 x1).1
theorem k3h {h : AH} {a1 : Sl} {x1 : List Nat} (n1 : Nats h a1 x1)  : Runs (go (.fn F.kj7 [a1.v]) h) fun v h' => ∃ s1 : Sl, v = s1.v ∧ Nats h' s1 (knb x1) ∧ Grow h h' ∧ Own h s1 := by
 rw [k7g]
 obtain ⟨s2, H2, e2, n2, g2, o2⟩ := kr1 n1 n1
 refine Runs.step e2 ?_
 refine Runs.step rfl ?_
 refine Runs.step (seen (asSl_v _)) ?_
 refine Runs.step (seen (kb _ _)) ?_
 have z : knb x1 = (mulN x1 x1).1 := by unfold knb; exact rfl
 rw [z]
 exact Runs.ret ⟨s2, rfl, n2, g2, (o2.of_le (Grow.refl _))⟩
def kij (x1 : List Nat) (x2 : List Nat) : Bool :=
 cond ((rt x2)) (decide ((cmpN x2 x1) < 0)) (false)
theorem kzt {h : AH} {a1 : Sl} {x1 : List Nat} {a2 : Sl} {x2 : List Nat} (n1 : Nats h a1 x1) (n2 : Nats h a2 x2)  : Runs (go (.fn F.kjz [a1.v, a2.v]) h) fun v h' => v = .bool (kij x1 x2) ∧ Grow h h' := by
 rw [k8y]
 refine Runs.step (kbr n2) ?_
 refine Runs.step (seen rfl) ?_
 refine Runs.cond (fun k4 => ?_) (fun k4 => ?_)
 ·obtain ⟨H5, e5, g5⟩ := km6 n2 n1
  refine Runs.step e5 ?_
  refine Runs.step (seen (kb _ _)) ?_
  have z : kij x1 x2 = decide ((cmpN x2 x1) < 0) := by unfold kij; exact (condT k4).trans rfl
  rw [z]
  exact Runs.ret ⟨rfl, g5⟩
 ·have z : kij x1 x2 = false := by unfold kij; exact (condF k4).trans rfl
  rw [z]
  exact Runs.ret ⟨rfl, (Grow.refl _)⟩
def kdw (x1 : List Nat) (x2 : List Nat) (x3 : List Nat) : Bool :=
 cond (!(rt x1)) (false) (cond (decide ((List.length x1 : Int) = 0)) (false) (cond (decide ((cmpN x1 x3) ≥ 0)) (false) (decide ((cmpN ((gcdN x1 x2).1) [1]) = 0))))
theorem k7a {h : AH} {a1 : Sl} {x1 : List Nat} {a2 : Sl} {x2 : List Nat} {a3 : Sl} {x3 : List Nat} (n1 : Nats h a1 x1) (n2 : Nats h a2 x2) (n3 : Nats h a3 x3)  : Runs (go (.fn F.kj0 [a1.v, a2.v, a3.v]) h) fun v h' => v = .bool (kdw x1 x2 x3) ∧ Grow h h' := by
 rw [k4b]
 rw [n1.len]
 refine Runs.step (kbr n1) ?_
 refine Runs.step (seen rfl) ?_
 refine Runs.cond (fun k5 => ?_) (fun k5 => ?_)
 ·have z : kdw x1 x2 x3 = false := by unfold kdw; exact (condT k5).trans rfl
  rw [z]
  exact Runs.ret ⟨rfl, (Grow.refl _)⟩
 ·refine Runs.cond (fun k6 => ?_) (fun k6 => ?_)
  ·have z : kdw x1 x2 x3 = false := by unfold kdw; exact (condF k5).trans ((condT k6).trans rfl)
   rw [z]
   exact Runs.ret ⟨rfl, (Grow.refl _)⟩
  ·obtain ⟨H7, e7, g7⟩ := km6 n1 n3
   refine Runs.step e7 ?_
   refine Runs.step (seen (kb _ _)) ?_
   refine Runs.cond (fun k8 => ?_) (fun k8 => ?_)
   ·have z : kdw x1 x2 x3 = false := by unfold kdw; exact (condF k5).trans ((condF k6).trans ((condT k8).trans rfl))
    rw [z]
    exact Runs.ret ⟨rfl, g7⟩
   ·obtain ⟨_, H9, e9, s9, rfl, n9, g9, o9⟩ := kzg (n1.grow g7) (n2.grow g7)
    refine Runs.step e9 ?_
    refine Runs.step rfl ?_
    refine Runs.step (seen (asSl_v _)) ?_
    refine Runs.step (seen (kb _ _)) ?_
    obtain ⟨s10, H10, e10, n10, g10, o10⟩ := kmn
    refine Runs.step e10 ?_
    refine Runs.step (seen (asSl_v _)) ?_
    obtain ⟨H11, e11, g11⟩ := km6 (n9.grow g10) n10
    refine Runs.step e11 ?_
    refine Runs.step (seen (kb _ _)) ?_
    have z : kdw x1 x2 x3 = decide ((cmpN ((gcdN x1 x2).1) [1]) = 0) := by unfold kdw; exact (condF k5).trans ((condF k6).trans ((condF k8).trans rfl))
    rw [z]
    have G12 := (((g7.trans g9).trans g10).trans g11)
    exact Runs.ret ⟨rfl, G12⟩
def koo (x1 : List Nat) (x2 : List Nat) : List Nat :=
 (addN ((mulN x2 x1).1) [1]).1
theorem k9c {h : AH} {a1 : Sl} {x1 : List Nat} {a2 : Sl} {x2 : List Nat} (n1 : Nats h a1 x1) (n2 : Nats h a2 x2)  : Runs (go (.fn F.kmy [a1.v, a2.v]) h) fun v h' => ∃ s1 : Sl, v = s1.v ∧ Nats h' s1 (koo x1 x2) ∧ Grow h h' ∧ Own h s1 := by
 rw [k6k]
 obtain ⟨s3, H3, e3, n3, g3, o3⟩ := kr1 n2 n1
 refine Runs.step e3 ?_
 refine Runs.step rfl ?_
 refine Runs.step (seen (asSl_v _)) ?_
 refine Runs.step (seen (kb _ _)) ?_
 obtain ⟨s4, H4, e4, n4, g4, o4⟩ := kmn
 refine Runs.step e4 ?_
 refine Runs.step (seen (asSl_v _)) ?_
 obtain ⟨s5, H5, e5, n5, g5, o5⟩ := kze (n3.grow g4) n4
 refine Runs.step e5 ?_
 refine Runs.step rfl ?_
 refine Runs.step (seen (asSl_v _)) ?_
 refine Runs.step (seen (kb _ _)) ?_
 have z : koo x1 x2 = (addN ((mulN x2 x1).1) [1]).1 := by unfold koo; exact rfl
 rw [z]
 have G6 := ((g3.trans g4).trans g5)
 exact Runs.ret ⟨s5, rfl, n5, G6, (o5.of_le (g3.trans g4))⟩
def kc3 (x1 : List Nat) (x2 : List Nat) (x3 : List Nat) : List Nat :=
 (divN ((mulN x1 x2).1) x3).2.1
theorem kr4 {h : AH} {a1 : Sl} {x1 : List Nat} {a2 : Sl} {x2 : List Nat} {a3 : Sl} {x3 : List Nat} (n1 : Nats h a1 x1) (n2 : Nats h a2 x2) (n3 : Nats h a3 x3)  : Runs (go (.fn F.kkm [a1.v, a2.v, a3.v]) h) fun v h' => ∃ s1 : Sl, v = s1.v ∧ Nats h' s1 (kc3 x1 x2 x3) ∧ Grow h h' ∧ Own h s1 := by
 rw [k94]
 obtain ⟨s4, H4, e4, n4, g4, o4⟩ := kr1 n1 n2
 refine Runs.step e4 ?_
 refine Runs.step rfl ?_
 refine Runs.step (seen (asSl_v _)) ?_
 refine Runs.step (seen (kb _ _)) ?_
 obtain ⟨s5, H5, e5, n5, g5, o5⟩ := ku9 n4 (n3.grow g4)
 refine Runs.step e5 ?_
 refine Runs.step (seen (asSl_v _)) ?_
 have z : kc3 x1 x2 x3 = (divN ((mulN x1 x2).1) x3).2.1 := by unfold kc3; exact rfl
 rw [z]
 exact Runs.ret ⟨s5, rfl, n5, (g4.trans g5), (o5.of_le g4)⟩
theorem k7n : knb = kbi := rfl
theorem kyg {h : AH} {a1 : Sl} {x1 : List Nat} (n1 : Nats h a1 x1)  : Runs (go (.fn F.kj7 [a1.v]) h) fun v h' => ∃ s1 : Sl, v = s1.v ∧ Nats h' s1 (kbi x1) ∧ Grow h h' ∧ Own h s1 := by
 rw [← k7n]
 exact k3h n1
theorem k3f : kij = kcg := rfl
theorem kr2 {h : AH} {a1 : Sl} {x1 : List Nat} {a2 : Sl} {x2 : List Nat} (n1 : Nats h a1 x1) (n2 : Nats h a2 x2)  : Runs (go (.fn F.kjz [a1.v, a2.v]) h) fun v h' => v = .bool (kcg x1 x2) ∧ Grow h h' := by
 rw [← k3f]
 exact kzt n1 n2
theorem k8j : kdw = kbj := rfl
theorem ktl {h : AH} {a1 : Sl} {x1 : List Nat} {a2 : Sl} {x2 : List Nat} {a3 : Sl} {x3 : List Nat} (n1 : Nats h a1 x1) (n2 : Nats h a2 x2) (n3 : Nats h a3 x3)  : Runs (go (.fn F.kj0 [a1.v, a2.v, a3.v]) h) fun v h' => v = .bool (kbj x1 x2 x3) ∧ Grow h h' := by
 rw [← k8j]
 exact k7a n1 n2 n3
theorem k97 : koo = kfm := rfl
theorem k7t {h : AH} {a1 : Sl} {x1 : List Nat} {a2 : Sl} {x2 : List Nat} (n1 : Nats h a1 x1) (n2 : Nats h a2 x2)  : Runs (go (.fn F.kmy [a1.v, a2.v]) h) fun v h' => ∃ s1 : Sl, v = s1.v ∧ Nats h' s1 (kfm x1 x2) ∧ Grow h h' ∧ Own h s1 := by
 rw [← k97]
 exact k9c n1 n2
inductive kh4
 | fn (x1 : List Nat)
 | no
abbrev kfg := Bool
noncomputable def kkj (x1 : List Nat) : Option (kh4 ⊕ kfg) :=
 cond ((rt x1)) (cond (decide ((List.length x1 : Int) > 0)) ((atI x1 0).bind fun y6 => cond (decide ((Int.tmod ((y6 : Int)) 2) = 1)) (cond (decide ((((bitsN x1 : Nat) : Int)) ≥ 15)) (some (.inr (decide ((((bitsN x1 : Nat) : Int)) ≤ 80)))) (some (.inr false))) (some (.inr false))) (some (.inr false))) (some (.inr false))
noncomputable def krt : kh4 → Option (kh4 ⊕ kfg)
 | .fn x1 => kkj x1
 | .no => none
@[reducible] def kss (h0 : AH) (r : kfg) (v : AV) (h' : AH) : Prop := v = .bool r ∧ Grow h0 h'
def ko3 (r : kfg) : kh4 → Prop
 | .fn x1 => ∀ {h : AH} {a1 : Sl}, Nats h a1 x1 → Runs (go (.fn F.kim [a1.v]) h) (kss h r)
 | .no => True
theorem k5z {r : kfg} {o : kh4 ⊕ kfg} {x1 : List Nat} (e : kkj x1 = some o) (good : GoodS (ko3 r) r o) : ko3 r (.fn x1) := by
 intro h a1 n1
 rw [k9p]
 unfold kkj at e
 rw [n1.len]
 refine Runs.step (kbr n1) ?_
 refine Runs.step (seen rfl) ?_
 obtain ⟨_, H3, e3, rfl, g3⟩ := kp5 n1
 refine Runs.step e3 ?_
 refine Runs.step (seen (kb _ _)) ?_
 refine Runs.cond (fun k4 => ?_) (fun k4 => ?_)
 ·replace e := (condT k4).symm.trans e
  refine Runs.cond (fun k5 => ?_) (fun k5 => ?_)
  ·replace e := (condT k5).symm.trans e
   obtain ⟨y6, q6, e⟩ := Option.bind_eq_some_iff.1 e
   obtain ⟨r6, j6, l6⟩ := (n1.grow g3).atI q6
   refine Runs.step j6 ?_
   refine Runs.step (rdc l6 (kb _ _)) ?_
   refine Runs.cond (fun k7 => ?_) (fun k7 => ?_)
   ·replace e := (condT k7).symm.trans e
    refine Runs.cond (fun k8 => ?_) (fun k8 => ?_)
    ·replace e := (condT k8).symm.trans e
     cases e
     cases good
     exact Runs.ret ⟨rfl, g3⟩
    ·replace e := (condF k8).symm.trans e
     cases e
     cases good
     exact Runs.ret ⟨rfl, g3⟩
   ·replace e := (condF k7).symm.trans e
    cases e
    cases good
    exact Runs.ret ⟨rfl, g3⟩
  ·replace e := (condF k5).symm.trans e
   cases e
   cases good
   exact Runs.ret ⟨rfl, g3⟩
 ·replace e := (condF k4).symm.trans e
  cases e
  cases good
  exact Runs.ret ⟨rfl, g3⟩
theorem kzw {s : kh4} {r : kfg} (it : Iter krt s r) : ko3 r s := Iter.ind (fun s o e good => by
 cases s with
 | fn x1 => exact @k5z _ _ x1 e good
 | no => exact True.intro
 ) it
theorem k8k {h : AH} {a1 : Sl} {x1 : List Nat} (n1 : Nats h a1 x1) {r : kfg} (q : runP krt (.fn x1) = some r) : Runs (go (.fn F.kim [a1.v]) h) (kss h r) := kzw (kbt q) n1
theorem bit0 {xs : List Nat} (l : ∀ x ∈ xs, x < B) (h : 0 < xs.length) (r : rt xs = true) : bitN xs 0 = decide (xs[0] % 2 = 1) := by
 have := kpa l (q := 0) (r := 0) h (by decide)
 rw [Nat.pow_zero, Nat.div_one] at this
 rw [show (0 : Int) = ((0 : Nat) : Int) from rfl, kip r]
 exact this
theorem kzn {xs : List Nat} (l : ∀ x ∈ xs, x < B) : Iter krt (.fn xs) (ks xs) := by
 refine .done ?_
 show kkj _ = _
 unfold kkj ks
 cases hr : rt xs with
 | false => rfl
 | true =>
  rw [cond_true, cond_true]
  by_cases hl : 0 < xs.length
  ·rw [condT (by rw [decide_eq_true_eq]; omega), show (0 : Int) = ((0 : Nat) : Int) from rfl, kbb hl, Option.bind_some, tmod2, show ((0 : Nat) : Int) = 0 from rfl, bit0 l hl hr]
   have : decide (((xs[0] % 2 : Nat) : Int) = 1) = decide (xs[0] % 2 = 1) := by rw [decide_eq_decide]; omega
   rw [this]
   cases decide (xs[0] % 2 = 1)
   ·rfl
   ·rw [cond_true, cond_true]
    cases decide (((bitsN xs : Nat) : Int) ≥ 15) <;> rfl
  ·have : xs = [] := List.length_eq_zero_iff.1 (by omega)
   subst this
   rfl
theorem kr5 {h : AH} {s : Sl} {xs : List Nat} (n : Nats h s xs) : Runs (go (.fn F.kim [s.v]) h) fun v h' => v = .bool (ks xs) ∧ Grow h h' := k8k n (kbq (kzn n.lt))
end Go.Ab

/- squeezed -/
set_option linter.unusedVariables false
set_option linter.unusedSimpArgs false
set_option maxRecDepth 10000
namespace Go.Ab
open Go.Proofs Go.Num
inductive kfw
 | fn (x1 : List Nat) (x2 : List Nat) (x3 : List Nat)
 | p3 (x1 : List Nat) (x2 : List Nat) (x3 : List Nat) (x4 : List Nat) (a5 : Int)
abbrev kde := List Nat
noncomputable def kkr (x1 : List Nat) (x2 : List Nat) (x3 : List Nat) : Option (kfw ⊕ kde) :=
 some (.inl (.p3 x1 x2 x3 [1] (IntKind.wrap .i64 ((((bitsN x2 : Nat) : Int)) - 1))))
noncomputable def kgo (x1 : List Nat) (x2 : List Nat) (x3 : List Nat) (x4 : List Nat) (a5 : Int) : Option (kfw ⊕ kde) :=
 cond (decide (a5 ≥ 0)) ((need ((a5 : Int) ≤ 9223372036854775807)).bind fun c8_0 => cond (((bitN x2 a5))) (some (.inl (.p3 x1 x2 x3 (kc3 (kc3 x4 x4 x3) x1 x3) (IntKind.wrap .i64 (a5 - 1))))) (some (.inl (.p3 x1 x2 x3 (kc3 x4 x4 x3) (IntKind.wrap .i64 (a5 - 1)))))) (some (.inr x4))
noncomputable def ksh : kfw → Option (kfw ⊕ kde)
 | .fn x1 x2 x3 => kkr x1 x2 x3
 | .p3 x1 x2 x3 x4 a5 => kgo x1 x2 x3 x4 a5
@[reducible] def kn2 (h0 : AH) (r : kde) (v : AV) (h' : AH) : Prop := ∃ s1 : Sl, v = s1.v ∧ Nats h' s1 r ∧ Grow h0 h' ∧ Own h0 s1
def kj8 (r : kde) : kfw → Prop
 | .fn x1 x2 x3 => ∀ {h : AH} {a1 : Sl} {a2 : Sl} {a3 : Sl}, Nats h a1 x1 → Nats h a2 x2 → Nats h a3 x3 → Runs (go (.fn F.kdu [a1.v, a2.v, a3.v]) h) (kn2 h r)
 | .p3 x1 x2 x3 x4 a5 => ∀ {h0 h : AH} {a1 : Sl} {a2 : Sl} {a3 : Sl} {a4 : Sl}, Grow h0 h → Nats h a1 x1 → Nats h a2 x2 → Nats h a3 x3 → Nats h a4 x4 → Own h0 a4 → Runs (go (.pt F.kdu Td.kkg [(0, a1.v), (1, a2.v), (2, a3.v), (7, a4.v), (8, .int .i64 a5)]) h) (kn2 h0 r)
theorem kbax {r : kde} {o : kfw ⊕ kde} {x1 : List Nat} {x2 : List Nat} {x3 : List Nat} (e : kkr x1 x2 x3 = some o) (good : GoodS (kj8 r) r o) : kj8 r (.fn x1 x2 x3) := by
 intro h a1 a2 a3 n1 n2 n3
 rw [k5t]
 unfold kkr at e
 obtain ⟨s4, H4, e4, n4, g4, o4⟩ := kmn
 refine Runs.step e4 ?_
 refine Runs.step (seen (asSl_v _)) ?_
 obtain ⟨_, H5, e5, rfl, g5⟩ := kp5 (n2.grow g4)
 refine Runs.step e5 ?_
 refine Runs.step (seen (kb _ _)) ?_
 cases e
 exact good (g4.trans g5) (n1.grow (g4.trans g5)) (n2.grow (g4.trans g5)) (n3.grow (g4.trans g5)) (n4.grow g5) (o4.of_le (Grow.refl _))
theorem kzz {r : kde} {o : kfw ⊕ kde} {x1 : List Nat} {x2 : List Nat} {x3 : List Nat} {x4 : List Nat} {a5 : Int} (e : kgo x1 x2 x3 x4 a5 = some o) (good : GoodS (kj8 r) r o) : kj8 r (.p3 x1 x2 x3 x4 a5) := by
 intro h0 h a1 a2 a3 a4 g0 n1 n2 n3 n4 ow4
 rw [k52]
 unfold kgo at e
 refine Runs.cond (fun k6 => ?_) (fun k6 => ?_)
 ·replace e := (condT k6).symm.trans e
  obtain ⟨_, H7, e7, s7, rfl, n7, g7, o7⟩ := kr4 n4 n4 n3
  refine Runs.step e7 ?_
  refine Runs.step (seen (asSl_v _)) ?_
  obtain ⟨c8_0, q8_0, e⟩ := Option.bind_eq_some_iff.1 e
  obtain ⟨_, H8, e8, rfl, g8⟩ := k65 (n2.grow g7)  c8_0.down
  refine Runs.step e8 ?_
  refine Runs.step (seen rfl) ?_
  refine Runs.cond (fun k9 => ?_) (fun k9 => ?_)
  ·replace e := (condT k9).symm.trans e
   obtain ⟨_, H10, e10, s10, rfl, n10, g10, o10⟩ := kr4 (n7.grow g8) (n1.grow (g7.trans g8)) (n3.grow (g7.trans g8))
   refine Runs.step e10 ?_
   refine Runs.step (seen (asSl_v _)) ?_
   have G11 := ((g7.trans g8).trans g10)
   have n1_12 := n1.grow G11
   have n2_13 := n2.grow G11
   have n3_14 := n3.grow G11
   have G15 := ((g0.trans g7).trans g8)
   cases e
   have G16 := (G15.trans g10)
   exact good G16 n1_12 n2_13 n3_14 n10 (o10.of_le G15)
  ·replace e := (condF k9).symm.trans e
   cases e
   have G10 := ((g0.trans g7).trans g8)
   exact good G10 (n1.grow (g7.trans g8)) (n2.grow (g7.trans g8)) (n3.grow (g7.trans g8)) (n7.grow g8) (o7.of_le g0)
 ·replace e := (condF k6).symm.trans e
  cases e
  cases good
  exact Runs.ret ⟨a4, rfl, n4, g0, (ow4.of_le (Grow.refl _))⟩
theorem kbat {s : kfw} {r : kde} (it : Iter ksh s r) : kj8 r s := Iter.ind (fun s o e good => by
 cases s with
 | fn x1 x2 x3 => exact @kbax _ _ x1 x2 x3 e good
 | p3 x1 x2 x3 x4 a5 => exact @kzz _ _ x1 x2 x3 x4 a5 e good
 ) it
theorem k4z {h : AH} {a1 : Sl} {a2 : Sl} {a3 : Sl} {x1 : List Nat} {x2 : List Nat} {x3 : List Nat} (n1 : Nats h a1 x1) (n2 : Nats h a2 x2) (n3 : Nats h a3 x3) {r : kde} (q : runP ksh (.fn x1 x2 x3) = some r) : Runs (go (.fn F.kdu [a1.v, a2.v, a3.v]) h) (kn2 h r) := kbat (kbt q) n1 n2 n3
end Go.Ab

/- squeezed -/
set_option linter.unusedVariables false
set_option linter.unusedSimpArgs false
set_option maxRecDepth 10000
namespace Go.Ab
open Go.Proofs Go.Num
def powOk (xs es ns : List Nat) : Prop := rt xs = true ∧ rt es = true ∧ rt ns = true ∧ ns.length ≤ 30 ∧ 1 < num B ns ∧ num B xs < num B ns
def powN (xs es ns : List Nat) : List Nat := digs B (num B xs ^ num B es % num B ns)
theorem ktz {a b : Nat} (ha : a < B ^ 30) (hb : b < B ^ 30) : mulN (digs B a) (digs B b) = (digs B (a * b), 0) := by
 have h60 : a * b < B ^ 64 := by
  calc a * b < B ^ 30 * B ^ 30 := Nat.mul_lt_mul_of_lt_of_lt ha hb
   _ = B ^ 60 := by rw [← Nat.pow_add]
   _ ≤ B ^ 64 := Nat.pow_le_pow_right (by decide) (by decide)
 have up : ∀ {c : Nat}, c < B ^ 30 → c < B ^ 64 := fun h => Nat.lt_of_lt_of_le h (Nat.pow_le_pow_right (by decide) (by decide))
 unfold mulN
 rw [if_pos ⟨kbp (up ha), kbp (up hb)⟩, kf B2, kf B2]
 unfold told
 rw [if_pos h60]
theorem lt30 {ns : List Nat} (l : ∀ x ∈ ns, x < B) (h : ns.length ≤ 30) : num B ns < B ^ 30 := Nat.lt_of_lt_of_le (num_lt B1 l) (Nat.pow_le_pow_right (by decide) h)
theorem kmk {xs : List Nat} (l : ∀ x ∈ xs, x < B) (r : rt xs = true) : digs B (num B xs) = xs := kds B2 l (rt_iff.1 r).2
theorem kyk {ns : List Nat} (l : ∀ x ∈ ns, x < B) (r : rt ns = true) (h : ns.length ≤ 30) (h1 : 0 < num B ns) {a b : Nat} (ha : a < num B ns) (hb : b < num B ns) : kc3 (digs B a) (digs B b) ns = digs B (a * b % num B ns) := by
 have hn := lt30 l h
 have h60 : a * b < B ^ 64 := by
  calc a * b < B ^ 30 * B ^ 30 := Nat.mul_lt_mul_of_lt_of_lt (Nat.lt_trans ha hn) (Nat.lt_trans hb hn)
   _ = B ^ 60 := by rw [← Nat.pow_add]
   _ ≤ B ^ 64 := Nat.pow_le_pow_right (by decide) (by decide)
 unfold kc3
 rw [ktz (Nat.lt_trans ha hn) (Nat.lt_trans hb hn), koa (kbp h60) r (fun e => by rw [e] at h1; simp [num] at h1), kf B2]
theorem ktm {xs es ns : List Nat} (lx : ∀ x ∈ xs, x < B) (le : ∀ x ∈ es, x < B) (ln : ∀ x ∈ ns, x < B) (c : powOk xs es ns) : ∀ j : Nat, j ≤ 100000 →
  Iter ksh (.p3 xs es ns (digs B (num B xs ^ (num B es / 2 ^ j) % num B ns)) ((j : Int) - 1)) (powN xs es ns)
 | 0, _ => by
  refine .done ?_
  show kgo _ _ _ _ _ = _
  unfold kgo powN
  rw [condF (by decide), Nat.pow_zero, Nat.div_one]
 | j + 1, hj => by
  obtain ⟨c1, c2, c3, c4, c5, c6⟩ := c
  have K := ktm lx le ln ⟨c1, c2, c3, c4, c5, c6⟩ j (by omega)
  have h0 : 0 < num B ns := by omega
  have hb := kuf (num B es) j
  refine .next ?_ K
  show kgo _ _ _ _ _ = _
  unfold kgo
  have hneed : ((j : Nat) : Int) ≤ 9223372036854775807 := by omega
  rw [show ((j + 1 : Nat) : Int) - 1 = (j : Int) from by omega, condT (by rw [decide_eq_true_eq]; omega), kg hneed, Option.bind_some, kip c2, hb]
  have sq : kc3 (digs B (num B xs ^ (num B es / 2 ^ (j + 1)) % num B ns)) (digs B (num B xs ^ (num B es / 2 ^ (j + 1)) % num B ns)) ns = digs B (num B xs ^ (2 * (num B es / 2 ^ (j + 1))) % num B ns) := by
   rw [kyk ln c3 c4 h0 (Nat.mod_lt _ h0) (Nat.mod_lt _ h0), ← Nat.mul_mod, ← Nat.pow_add, Nat.two_mul]
  have hw : IntKind.wrap .i64 ((j : Int) - 1) = (j : Int) - 1 := wrap64 (by omega) (by omega)
  rw [sq, hw]
  cases (num B es).testBit j
  ·rfl
  ·have ml : kc3 (digs B (num B xs ^ (2 * (num B es / 2 ^ (j + 1))) % num B ns)) xs ns = digs B (num B xs ^ (2 * (num B es / 2 ^ (j + 1)) + 1) % num B ns) := by
    have := kyk ln c3 c4 h0 (Nat.mod_lt (num B xs ^ (2 * (num B es / 2 ^ (j + 1)))) h0) c6
    rw [kmk lx c1] at this
    rw [this, Nat.mod_mul_mod, ← Nat.pow_succ]
   rw [ml]
   rfl
theorem kbau {h : AH} {s t u : Sl} {xs es ns : List Nat} (nx : Nats h s xs) (ne : Nats h t es) (nn : Nats h u ns) (c : powOk xs es ns) : Runs (go (.fn F.kdu [s.v, t.v, u.v]) h) (kn2 h (powN xs es ns)) := by
 refine k4z nx ne nn (kbq (.next ?_ (ktm nx.lt ne.lt nn.lt c (bitsN es) ?_)))
 ·show kkr _ _ _ = _
  have hE : num B es < 2 ^ bitsN es := by
   unfold bitsN
   rw [if_pos c.2.1]
   exact (bl_Bl _).1
  have hw : IntKind.wrap .i64 (((bitsN es : Nat) : Int) - 1) = ((bitsN es : Nat) : Int) - 1 := by
   have hlt := num_lt B1 ne.lt
   have h64 := (rt_iff.1 c.2.1).1
   have hb : bitsN es ≤ 64 * es.length := by
    unfold bitsN
    rw [if_pos c.2.1]
    rw [B_pow2] at hlt
    exact bl_le hlt
   exact wrap64 (by omega) (by omega)
  have h1 : ([1] : List Nat) = digs B 1 := by rw [kdh B2 (by decide), show 1 / B = 0 from rfl, kbl]; rfl
  unfold kkr
  rw [hw, Nat.div_eq_of_lt hE, Nat.pow_zero, Nat.mod_eq_of_lt c.2.2.2.2.1, h1]
 ·have hlt := num_lt B1 ne.lt
  have h64 := (rt_iff.1 c.2.1).1
  unfold bitsN
  rw [if_pos c.2.1]
  rw [B_pow2] at hlt
  have := bl_le hlt
  omega
theorem kpe {ns : List Nat} (l : ∀ x ∈ ns, x < B) (h : ks ns = true) : rt ns = true ∧ num B ns % 2 = 1 ∧ 16384 ≤ num B ns ∧ num B ns < 2 ^ 80 := by
 unfold ks at h
 simp only [Bool.cond_eq_true_distrib, Bool.cond_false_right, Bool.and_eq_true, decide_eq_true_eq] at h
 obtain ⟨h1, h2, h3, h4⟩ := h
 have hb : bitsN ns = bl (num B ns) := by unfold bitsN; rw [if_pos h1]
 rw [hb] at h3 h4
 obtain ⟨b1, b2⟩ := bl_Bl (num B ns)
 refine ⟨h1, ?_, ?_, ?_⟩
 ·rw [show (0 : Int) = ((0 : Nat) : Int) from rfl, kip h1, Nat.testBit_zero, decide_eq_true_eq] at h2
  exact h2
 ·rcases b2 with b2 | b2
  ·omega
  ·exact Nat.le_trans (Nat.pow_le_pow_right (n := 2) (i := 14) (by decide) (by omega)) b2
 ·exact Nat.lt_of_lt_of_le b1 (Nat.pow_le_pow_right (by decide) (by omega))
theorem kxc {ns : List Nat} (l : ∀ x ∈ ns, x < B) (h : ks ns = true) : kbi ns = digs B (num B ns * num B ns) ∧ num B ns * num B ns < B ^ 3 ∧ 1 < num B ns * num B ns ∧ num B ns * num B ns % 2 = 1 := by
 obtain ⟨h1, h2, h3, h4⟩ := kpe l h
 have h30 : num B ns < B ^ 30 := Nat.lt_trans h4 (by decide)
 refine ⟨?_, ?_, ?_, ?_⟩
 ·unfold kbi
  have := ktz h30 h30
  rw [kmk l h1] at this
  rw [this]
 ·calc num B ns * num B ns < 2 ^ 80 * 2 ^ 80 := Nat.mul_lt_mul_of_lt_of_lt h4 h4
   _ < B ^ 3 := by decide
 ·calc 1 < 16384 * 16384 := by decide
   _ ≤ num B ns * num B ns := Nat.mul_le_mul h3 h3
 ·rw [Nat.mul_mod, h2]
def kmd (ns xs es : List Nat) : Prop := ks ns = true ∧ rt xs = true ∧ num B xs < num B ns * num B ns ∧ rt es = true ∧ es.length ≤ 8
theorem k8n {h : AH} {s t u : Sl} {ns xs es : List Nat} (nn : Nats h s ns) (nx : Nats h t xs) (ne : Nats h u es) (c : kmd ns xs es) :
  Runs (go (.fn F.kr0 [s.v, t.v, u.v]) h) fun v h' => ∃ s1 : Sl, v = s1.v ∧ Nats h' s1 (powN xs es (kbi ns)) ∧ Grow h h' ∧ Own h s1 := by
 obtain ⟨c1, c2, c3, c4, c5⟩ := c
 obtain ⟨q1, q2, q3, q4⟩ := kxc nn.lt c1
 have hN0 : num B ns * num B ns ≠ 0 := by omega
 rw [k7k]
 obtain ⟨_, h1, e1, s1, rfl, n1, g1, o1⟩ := kwy nn
 refine Runs.step e1 ?_
 refine Runs.step (seen (asSl_v _)) ?_
 rw [q1] at n1 ⊢
 have hl3 : (digs B (num B ns * num B ns)).length ≤ 3 := (kp B2 _ 3).2 q2
 have hn : num B (digs B (num B ns * num B ns)) = num B ns * num B ns := kf B2 _
 obtain ⟨_, h2, e2, j, v, s0, s2, s3, rfl, v1, v2, b, m0, m2, m3, g2⟩ := k3e n1 (kbp (Nat.lt_of_lt_of_le q2 (Nat.pow_le_pow_right (by decide) (by decide)))) (fun e => hN0 (by rw [List.length_eq_zero_iff] at e; exact (kk7 B2).1 e)) (by omega) (by rw [hn]; exact q4) (by rw [hn]; exact q3)
 refine Runs.step e2 ?_
 refine Runs.step rfl ?_
 refine Runs.step (seen rfl) ?_
 refine Runs.step (seen (kb _ _)) ?_
 rw [hn] at v2 m2 m3
 have ring : RingOk (num B ns * num B ns) (digs B (num B ns * num B ns)).length v := ⟨by omega, by have := num_lt B1 (ku B2 (num B ns * num B ns)); rwa [hn] at this, q3, q4, v1, v2, rfl⟩
 have f1 : digs B (B ^ (1 * (digs B (num B ns * num B ns)).length) % (num B ns * num B ns)) = form (num B ns * num B ns) (digs B (num B ns * num B ns)).length 1 := by
  unfold form
  rw [Nat.one_mul, Nat.one_mul, B_pow2]
 have f2 : B ^ (2 * (digs B (num B ns * num B ns)).length) = 2 ^ (64 * (digs B (num B ns * num B ns)).length) * 2 ^ (64 * (digs B (num B ns * num B ns)).length) := by
  rw [Nat.two_mul, Nat.pow_add, B_pow2]
 rw [f1] at m2
 rw [f2] at m3
 have it := k02 ring c3 ne.lt c4 c5
 rw [kmk nx.lt c2] at it
 obtain ⟨_, h3, e3, s4, rfl, n4, g4, o4⟩ := kbas b m0 m2 m3 (nx.grow (g1.trans g2)) (ne.grow (g1.trans g2)) it
 refine Runs.step e3 ?_
 refine Runs.step rfl ?_
 refine Runs.step (seen (asSl_v _)) ?_
 refine Runs.step (seen (kb _ _)) ?_
 refine Runs.ret ⟨s4, rfl, ?_, (g1.trans g2).trans g4, o4.of_le (g1.trans g2)⟩
 unfold powN
 rw [hn]
 exact n4
end Go.Ab

/- squeezed -/
set_option linter.unusedVariables false
set_option linter.unusedSimpArgs false
set_option maxRecDepth 10000
namespace Go.Ab
open Go.Proofs Go.Num
inductive kfy
 | fn (x1 : List (List Nat))
 | p2 (x1 : List (List Nat)) (a2 : Int)
abbrev kdm := Bool
noncomputable def ksb (x1 : List (List Nat)) : Option (kfy ⊕ kdm) :=
 some (.inl (.p2 x1 0))
noncomputable def kei (x1 : List (List Nat)) (a2 : Int) : Option (kfy ⊕ kdm) :=
 cond (decide (a2 < (List.length x1 : Int))) ((atX x1 a2).bind fun y4 => cond (decide ((List.length y4 : Int) > 20)) (some (.inr false)) (some (.inl (.p2 x1 (IntKind.wrap .i64 (a2 + 1)))))) (some (.inr true))
noncomputable def kl4 : kfy → Option (kfy ⊕ kdm)
 | .fn x1 => ksb x1
 | .p2 x1 a2 => kei x1 a2
@[reducible] def kmw (h0 : AH) (r : kdm) (v : AV) (h' : AH) : Prop := v = .bool r ∧ Grow h0 h'
def kjk (r : kdm) : kfy → Prop
 | .fn x1 => ∀ {h : AH} {a1 : Sl}, Seq El.nats h a1 x1 → Runs (go (.fn F.kex [a1.v]) h) (kmw h r)
 | .p2 x1 a2 => ∀ {h0 h : AH} {a1 : Sl}, Grow h0 h → Seq El.nats h a1 x1 → Runs (go (.pt F.kex Td.kom [(0, a1.v), (3, .int .i64 a2)]) h) (kmw h0 r)
theorem k0q {r : kdm} {o : kfy ⊕ kdm} {x1 : List (List Nat)} (e : ksb x1 = some o) (good : GoodS (kjk r) r o) : kjk r (.fn x1) := by
 intro h a1 n1
 rw [k8i]
 unfold ksb at e
 cases e
 exact good (Grow.refl _) n1
theorem k8s {r : kdm} {o : kfy ⊕ kdm} {x1 : List (List Nat)} {a2 : Int} (e : kei x1 a2 = some o) (good : GoodS (kjk r) r o) : kjk r (.p2 x1 a2) := by
 intro h0 h a1 g0 n1
 rw [kbby]
 unfold kei at e
 rw [n1.len]
 refine Runs.cond (fun k3 => ?_) (fun k3 => ?_)
 ·replace e := (condT k3).symm.trans e
  obtain ⟨y4, q4, e⟩ := Option.bind_eq_some_iff.1 e
  obtain ⟨r4, cs4, j4, E4, l4⟩ := (n1).at q4
  obtain ⟨s4, rfl, n4⟩ := E4
  refine Runs.step j4 ?_
  refine Runs.step (l4.rd0 (Grow.refl _) rfl (asSl_v _)) ?_
  rw [n4.len]
  refine Runs.cond (fun k5 => ?_) (fun k5 => ?_)
  ·replace e := (condT k5).symm.trans e
   cases e
   cases good
   exact Runs.ret ⟨rfl, g0⟩
  ·replace e := (condF k5).symm.trans e
   cases e
   exact good g0 n1
 ·replace e := (condF k3).symm.trans e
  cases e
  cases good
  exact Runs.ret ⟨rfl, g0⟩
theorem k3u {s : kfy} {r : kdm} (it : Iter kl4 s r) : kjk r s := Iter.ind (fun s o e good => by
 cases s with
 | fn x1 => exact @k0q _ _ x1 e good
 | p2 x1 a2 => exact @k8s _ _ x1 a2 e good
 ) it
theorem k8e {h : AH} {a1 : Sl} {x1 : List (List Nat)} (n1 : Seq El.nats h a1 x1) {r : kdm} (q : runP kl4 (.fn x1) = some r) : Runs (go (.fn F.kex [a1.v]) h) (kmw h r) := k3u (kbt q) n1
end Go.Ab

/- squeezed -/
set_option linter.unusedVariables false
set_option linter.unusedSimpArgs false
set_option maxRecDepth 10000
namespace Go.Ab
open Go.Proofs Go.Num
def few06 (l : List (List Nat)) : Bool := l.all fun x => decide (x.length ≤ 20)
theorem kvj {l : List (List Nat)} (hl : l.length ≤ 1000000) : ∀ (d i : Nat), i + d = l.length → Iter kl4 (.p2 l (i : Int)) ((l.drop i).all fun x => decide (x.length ≤ 20))
 | 0, i, hi => by
  refine .done ?_
  show kei _ _ = _
  unfold kei
  rw [condF (by rw [decide_eq_false_iff_not]; omega), List.drop_eq_nil_of_le (by omega)]
  rfl
 | d + 1, i, hi => by
  have hi' : i < l.length := by omega
  have K := kvj hl d (i + 1) (by omega)
  rw [List.drop_eq_getElem_cons hi', List.all_cons]
  have step : kei l (i : Int) = cond (decide (((l[i]).length : Int) > 20)) (some (.inr false)) (some (.inl (.p2 l ((i + 1 : Nat) : Int)))) := by
   unfold kei
   rw [condT (by rw [decide_eq_true_eq]; omega), kqr hi', Option.bind_some, kq (by omega)]
  by_cases h20 : (l[i]).length ≤ 20
  ·rw [show decide ((l[i]).length ≤ 20) = true from by rw [decide_eq_true_eq]; exact h20, Bool.true_and]
   refine .next ?_ K
   show kei _ _ = _
   rw [step, condF (by rw [decide_eq_false_iff_not]; omega)]
  ·rw [show decide ((l[i]).length ≤ 20) = false from by rw [decide_eq_false_iff_not]; exact h20, Bool.false_and]
   refine .done ?_
   show kei _ _ = _
   rw [step, condT (by rw [decide_eq_true_eq]; omega)]
theorem k50 {l : List (List Nat)} (hl : l.length ≤ 1000000) : Iter kl4 (.fn l) (few06 l) := by
 refine .next rfl ?_
 have := kvj hl l.length 0 (by omega)
 exact this
theorem k0g {h : AH} {t : Sl} {l : List (List Nat)} (m : Seq El.nats h t l) (hl : l.length ≤ 1000000) : Runs (go (.fn F.kex [t.v]) h) (kmw h (few06 l)) := k8e m (kbq (k50 hl))
end Go.Ab

/- squeezed -/
set_option linter.unusedVariables false
set_option linter.unusedSimpArgs false
set_option maxRecDepth 10000
namespace Go.Ab
open Go.Proofs Go.Num
inductive khy
 | fn (x1 : List Nat) (x2 : List Nat)
 | no
abbrev ke8 := List Nat
noncomputable def kkt (x1 : List Nat) (x2 : List Nat) : Option (khy ⊕ ke8) :=
 (need (powOk x2 x1 (kbi x1))).bind fun c4_0 => some (.inr (powN x2 x1 (kbi x1)))
noncomputable def knj : khy → Option (khy ⊕ ke8)
 | .fn x1 x2 => kkt x1 x2
 | .no => none
@[reducible] def kuz (h0 : AH) (r : ke8) (v : AV) (h' : AH) : Prop := ∃ s1 : Sl, v = s1.v ∧ Nats h' s1 r ∧ Grow h0 h' ∧ Own h0 s1
def krr (r : ke8) : khy → Prop
 | .fn x1 x2 => ∀ {h : AH} {a1 : Sl} {a2 : Sl}, Nats h a1 x1 → Nats h a2 x2 → Runs (go (.fn F.kop [a1.v, a2.v]) h) (kuz h r)
 | .no => True
theorem kbah {r : ke8} {o : khy ⊕ ke8} {x1 : List Nat} {x2 : List Nat} (e : kkt x1 x2 = some o) (good : GoodS (krr r) r o) : krr r (.fn x1 x2) := by
 intro h a1 a2 n1 n2
 rw [kbci]
 unfold kkt at e
 obtain ⟨_, H3, e3, s3, rfl, n3, g3, o3⟩ := kyg n1
 refine Runs.step e3 ?_
 refine Runs.step (seen (asSl_v _)) ?_
 obtain ⟨c4_0, q4_0, e⟩ := Option.bind_eq_some_iff.1 e
 obtain ⟨_, H4, e4, s4, rfl, n4, g4, o4⟩ := kbau (n2.grow g3) (n1.grow g3) n3  c4_0.down
 refine Runs.step e4 ?_
 refine Runs.step (seen (asSl_v _)) ?_
 cases e
 cases good
 exact Runs.ret ⟨s4, rfl, n4, (g3.trans g4), (o4.of_le g3)⟩
theorem kbbj {s : khy} {r : ke8} (it : Iter knj s r) : krr r s := Iter.ind (fun s o e good => by
 cases s with
 | fn x1 x2 => exact @kbah _ _ x1 x2 e good
 | no => exact True.intro
 ) it
theorem k5r {h : AH} {a1 : Sl} {a2 : Sl} {x1 : List Nat} {x2 : List Nat} (n1 : Nats h a1 x1) (n2 : Nats h a2 x2) {r : ke8} (q : runP knj (.fn x1 x2) = some r) : Runs (go (.fn F.kop [a1.v, a2.v]) h) (kuz h r) := kbbj (kbt q) n1 n2
inductive khu
 | fn (x1 : List Nat) (x2 : List Nat) (x3 : List Nat)
 | no
abbrev kfi := List Nat × Int
noncomputable def kjq (x1 : List Nat) (x2 : List Nat) (x3 : List Nat) : Option (khu ⊕ kfi) :=
 cond (!((ks x1))) (some (.inr ([], 1))) (cond (!((kcg x1 x2))) (some (.inr ([], 10))) (cond (!((kbj x3 x1 x1))) (some (.inr ([], 1))) ((need (kmd x1 x3 x1)).bind fun c16_0 => some (.inr ((knn x1 (kfm x1 x2) (powN x3 x1 (kbi x1))), 0)))))
noncomputable def kmx : khu → Option (khu ⊕ kfi)
 | .fn x1 x2 x3 => kjq x1 x2 x3
 | .no => none
@[reducible] def kpy (h0 : AH) (r : kfi) (v : AV) (h' : AH) : Prop := ∃ s1 : Sl, v = .tup [s1.v, .int .i64 r.2] ∧ Nats h' s1 r.1 ∧ Grow h0 h' ∧ Own h0 s1
def kpv (r : kfi) : khu → Prop
 | .fn x1 x2 x3 => ∀ {h : AH} {a1 : Sl} {a2 : Sl} {a3 : Sl}, Nats h a1 x1 → Nats h a2 x2 → Nats h a3 x3 → Runs (go (.fn F.kia [a1.v, a2.v, a3.v]) h) (kpy h r)
 | .no => True
theorem kza {r : kfi} {o : khu ⊕ kfi} {x1 : List Nat} {x2 : List Nat} {x3 : List Nat} (e : kjq x1 x2 x3 = some o) (good : GoodS (kpv r) r o) : kpv r (.fn x1 x2 x3) := by
 intro h a1 a2 a3 n1 n2 n3
 rw [k15]
 unfold kjq at e
 obtain ⟨_, H4, e4, rfl, g4⟩ := krk n1
 refine Runs.step e4 ?_
 refine Runs.step (seen rfl) ?_
 refine Runs.cond (fun k5 => ?_) (fun k5 => ?_)
 ·replace e := (condT k5).symm.trans e
  cases e
  cases good
  exact Runs.ret ⟨(⟨none, 0, .is 0⟩ : Sl), rfl, (Nats.nil _), g4, (Own.nil _)⟩
 ·replace e := (condF k5).symm.trans e
  obtain ⟨_, H6, e6, rfl, g6⟩ := kqs (n1.grow g4) (n2.grow g4)
  refine Runs.step e6 ?_
  refine Runs.step (seen rfl) ?_
  refine Runs.cond (fun k7 => ?_) (fun k7 => ?_)
  ·replace e := (condT k7).symm.trans e
   cases e
   cases good
   exact Runs.ret ⟨(⟨none, 0, .is 0⟩ : Sl), rfl, (Nats.nil _), (g4.trans g6), (Own.nil _)⟩
  ·replace e := (condF k7).symm.trans e
   obtain ⟨_, H8, e8, rfl, g8⟩ := kur (n3.grow (g4.trans g6)) (n1.grow (g4.trans g6)) (n1.grow (g4.trans g6))
   refine Runs.step e8 ?_
   refine Runs.step (seen rfl) ?_
   refine Runs.cond (fun k9 => ?_) (fun k9 => ?_)
   ·replace e := (condT k9).symm.trans e
    cases e
    cases good
    have G10 := ((g4.trans g6).trans g8)
    exact Runs.ret ⟨(⟨none, 0, .is 0⟩ : Sl), rfl, (Nats.nil _), G10, (Own.nil _)⟩
   ·replace e := (condF k9).symm.trans e
    have G10 := ((g4.trans g6).trans g8)
    have n1_11 := n1.grow G10
    have n2_12 := n2.grow G10
    obtain ⟨_, H13, e13, s13, rfl, n13, g13, o13⟩ := kbbd n1_11 n2_12
    refine Runs.step e13 ?_
    refine Runs.step (seen (asSl_v _)) ?_
    have G14 := (G10.trans g13)
    have n3_15 := n3.grow G14
    obtain ⟨c16_0, q16_0, e⟩ := Option.bind_eq_some_iff.1 e
    obtain ⟨_, H16, e16, s16, rfl, n16, g16, o16⟩ := k8n (n1_11.grow g13) n3_15 (n1_11.grow g13)  c16_0.down
    refine Runs.step e16 ?_
    refine Runs.step (seen (asSl_v _)) ?_
    obtain ⟨_, H17, e17, s17, rfl, n17, g17, o17⟩ := k6g (n1_11.grow (g13.trans g16)) (n13.grow g16) n16
    refine Runs.step e17 ?_
    refine Runs.step (seen (asSl_v _)) ?_
    cases e
    cases good
    have G18 := (G14.trans g16)
    have G19 := (G18.trans g17)
    exact Runs.ret ⟨s17, rfl, n17, G19, (o17.of_le G18)⟩
theorem k61 {s : khu} {r : kfi} (it : Iter kmx s r) : kpv r s := Iter.ind (fun s o e good => by
 cases s with
 | fn x1 x2 x3 => exact @kza _ _ x1 x2 x3 e good
 | no => exact True.intro
 ) it
theorem kv3 {h : AH} {a1 : Sl} {a2 : Sl} {a3 : Sl} {x1 : List Nat} {x2 : List Nat} {x3 : List Nat} (n1 : Nats h a1 x1) (n2 : Nats h a2 x2) (n3 : Nats h a3 x3) {r : kfi} (q : runP kmx (.fn x1 x2 x3) = some r) : Runs (go (.fn F.kia [a1.v, a2.v, a3.v]) h) (kpy h r) := k61 (kbt q) n1 n2 n3
inductive kin
 | fn (x1 : List Nat) (x2 : List Nat) (x3 : List Nat)
 | no
abbrev kfp := List Nat × Int
noncomputable def kk4 (x1 : List Nat) (x2 : List Nat) (x3 : List Nat) : Option (kin ⊕ kfp) :=
 cond (!((ks x1))) (some (.inr ([], 1))) (cond (!((kcg x1 x2))) (some (.inr ([], 10))) (cond (!((kbj x3 x1 x1))) (some (.inr ([], 1))) ((runP knj (.fn x1 x3)).bind fun p16 => some (.inr ((kc3 (kfm x1 x2) p16 (kbi x1)), 0)))))
noncomputable def ko4 : kin → Option (kin ⊕ kfp)
 | .fn x1 x2 x3 => kk4 x1 x2 x3
 | .no => none
@[reducible] def ko9 (h0 : AH) (r : kfp) (v : AV) (h' : AH) : Prop := ∃ s1 : Sl, v = .tup [s1.v, .int .i64 r.2] ∧ Nats h' s1 r.1 ∧ Grow h0 h' ∧ Own h0 s1
def kqj (r : kfp) : kin → Prop
 | .fn x1 x2 x3 => ∀ {h : AH} {a1 : Sl} {a2 : Sl} {a3 : Sl}, Nats h a1 x1 → Nats h a2 x2 → Nats h a3 x3 → Runs (go (.fn F.kk8 [a1.v, a2.v, a3.v]) h) (ko9 h r)
 | .no => True
theorem kbbt {r : kfp} {o : kin ⊕ kfp} {x1 : List Nat} {x2 : List Nat} {x3 : List Nat} (e : kk4 x1 x2 x3 = some o) (good : GoodS (kqj r) r o) : kqj r (.fn x1 x2 x3) := by
 intro h a1 a2 a3 n1 n2 n3
 rw [k1g]
 unfold kk4 at e
 obtain ⟨_, H4, e4, rfl, g4⟩ := kr5 n1
 refine Runs.step e4 ?_
 refine Runs.step (seen rfl) ?_
 refine Runs.cond (fun k5 => ?_) (fun k5 => ?_)
 ·replace e := (condT k5).symm.trans e
  cases e
  cases good
  exact Runs.ret ⟨(⟨none, 0, .is 0⟩ : Sl), rfl, (Nats.nil _), g4, (Own.nil _)⟩
 ·replace e := (condF k5).symm.trans e
  obtain ⟨_, H6, e6, rfl, g6⟩ := kr2 (n1.grow g4) (n2.grow g4)
  refine Runs.step e6 ?_
  refine Runs.step (seen rfl) ?_
  refine Runs.cond (fun k7 => ?_) (fun k7 => ?_)
  ·replace e := (condT k7).symm.trans e
   cases e
   cases good
   exact Runs.ret ⟨(⟨none, 0, .is 0⟩ : Sl), rfl, (Nats.nil _), (g4.trans g6), (Own.nil _)⟩
  ·replace e := (condF k7).symm.trans e
   obtain ⟨_, H8, e8, rfl, g8⟩ := ktl (n3.grow (g4.trans g6)) (n1.grow (g4.trans g6)) (n1.grow (g4.trans g6))
   refine Runs.step e8 ?_
   refine Runs.step (seen rfl) ?_
   refine Runs.cond (fun k9 => ?_) (fun k9 => ?_)
   ·replace e := (condT k9).symm.trans e
    cases e
    cases good
    have G10 := ((g4.trans g6).trans g8)
    exact Runs.ret ⟨(⟨none, 0, .is 0⟩ : Sl), rfl, (Nats.nil _), G10, (Own.nil _)⟩
   ·replace e := (condF k9).symm.trans e
    have G10 := ((g4.trans g6).trans g8)
    have n1_11 := n1.grow G10
    have n2_12 := n2.grow G10
    obtain ⟨_, H13, e13, s13, rfl, n13, g13, o13⟩ := k7t n1_11 n2_12
    refine Runs.step e13 ?_
    refine Runs.step (seen (asSl_v _)) ?_
    have G14 := (G10.trans g13)
    have n3_15 := n3.grow G14
    obtain ⟨p16, q16, e⟩ := Option.bind_eq_some_iff.1 e
    obtain ⟨_, H16, e16, s16, rfl, n16, g16, o16⟩ := k5r (n1_11.grow g13) n3_15 q16
    refine Runs.step e16 ?_
    refine Runs.step (seen (asSl_v _)) ?_
    obtain ⟨_, H17, e17, s17, rfl, n17, g17, o17⟩ := kyg (n1_11.grow (g13.trans g16))
    refine Runs.step e17 ?_
    refine Runs.step (seen (asSl_v _)) ?_
    obtain ⟨_, H18, e18, s18, rfl, n18, g18, o18⟩ := kr4 (n13.grow (g16.trans g17)) (n16.grow g17) n17
    refine Runs.step e18 ?_
    refine Runs.step (seen (asSl_v _)) ?_
    cases e
    cases good
    have G19 := ((G14.trans g16).trans g17)
    have G20 := (G19.trans g18)
    exact Runs.ret ⟨s18, rfl, n18, G20, (o18.of_le G19)⟩
theorem kbaz {s : kin} {r : kfp} (it : Iter ko4 s r) : kqj r s := Iter.ind (fun s o e good => by
 cases s with
 | fn x1 x2 x3 => exact @kbbt _ _ x1 x2 x3 e good
 | no => exact True.intro
 ) it
theorem k4v {h : AH} {a1 : Sl} {a2 : Sl} {a3 : Sl} {x1 : List Nat} {x2 : List Nat} {x3 : List Nat} (n1 : Nats h a1 x1) (n2 : Nats h a2 x2) (n3 : Nats h a3 x3) {r : kfp} (q : runP ko4 (.fn x1 x2 x3) = some r) : Runs (go (.fn F.kk8 [a1.v, a2.v, a3.v]) h) (ko9 h r) := kbaz (kbt q) n1 n2 n3
inductive khr
 | fn
 | no
abbrev kg5 := Bool
noncomputable def kkz  : Option (khr ⊕ kg5) :=
 (u64P 17947).bind fun w4 => (u64P 5).bind fun w5 => (u64P 1).bind fun w6 => (runP kmx (.fn [w4] [w5] [w6])).bind fun p7 => cond (decide ((p7.2) = 0)) (cond (decide ((List.length p7.1 : Int) = 1)) ((atI p7.1 0).bind fun y10 => some (.inr (decide (((y10 : Int)) = 89736)))) (some (.inr false))) (some (.inr false))
noncomputable def kxd : khr → Option (khr ⊕ kg5)
 | .fn  => kkz
 | .no => none
@[reducible] def k8w (h0 : AH) (r : kg5) (v : AV) (h' : AH) : Prop := v = .bool r ∧ Grow h0 h'
def krm (r : kg5) : khr → Prop
 | .fn  => ∀ {h : AH}, Runs (go (.fn F.kow []) h) (k8w h r)
 | .no => True
theorem k6d {r : kg5} {o : khr ⊕ kg5}  (e : kkz  = some o) (good : GoodS (krm r) r o) : krm r (.fn ) := by
 intro h
 rw [k8v]
 unfold kkz at e
 refine Runs.new fun H1 b1 g1 => ?_
 refine Runs.new fun H2 b2 g2 => ?_
 refine Runs.new fun H3 b3 g3 => ?_
 obtain ⟨w4, z4, e⟩ := Option.bind_eq_some_iff.1 e
 obtain ⟨w5, z5, e⟩ := Option.bind_eq_some_iff.1 e
 obtain ⟨w6, z6, e⟩ := Option.bind_eq_some_iff.1 e
 obtain ⟨p7, q7, e⟩ := Option.bind_eq_some_iff.1 e
 obtain ⟨_, H7, e7, s7, rfl, n7, g7, o7⟩ := kv3 (Nats.of_has1 ((g2.trans g3).has b1) z4) (Nats.of_has1 (g3.has b2) z5) (Nats.of_has1 b3 z6) q7
 refine Runs.step e7 ?_
 refine Runs.step rfl ?_
 refine Runs.step (seen (asSl_v _)) ?_
 rw [n7.len]
 refine Runs.step (seen (kb _ _)) ?_
 refine Runs.cond (fun k8 => ?_) (fun k8 => ?_)
 ·replace e := (condT k8).symm.trans e
  refine Runs.cond (fun k9 => ?_) (fun k9 => ?_)
  ·replace e := (condT k9).symm.trans e
   obtain ⟨y10, q10, e⟩ := Option.bind_eq_some_iff.1 e
   obtain ⟨r10, j10, l10⟩ := n7.atI q10
   refine Runs.step j10 ?_
   refine Runs.step (rdc l10 (kb _ _)) ?_
   cases e
   cases good
   have G11 := (((g1.trans g2).trans g3).trans g7)
   exact Runs.ret ⟨rfl, G11⟩
  ·replace e := (condF k9).symm.trans e
   cases e
   cases good
   have G10 := (((g1.trans g2).trans g3).trans g7)
   exact Runs.ret ⟨rfl, G10⟩
 ·replace e := (condF k8).symm.trans e
  cases e
  cases good
  have G9 := (((g1.trans g2).trans g3).trans g7)
  exact Runs.ret ⟨rfl, G9⟩
theorem kbch {s : khr} {r : kg5} (it : Iter kxd s r) : krm r s := Iter.ind (fun s o e good => by
 cases s with
 | fn  => exact @k6d _ _  e good
 | no => exact True.intro
 ) it
end Go.Ab

/- squeezed -/
set_option linter.unusedVariables false
set_option linter.unusedSimpArgs false
set_option maxRecDepth 10000
namespace Go.Ab
open Go.Proofs Go.Num
theorem k3o {xs ys : List Nat} (hx : rt xs = true) (hy : rt ys = true) (h : cmpN xs ys < 0) : num B xs < num B ys := by
 rw [kn3 hx hy] at h
 unfold cmp at h
 split at h
 ·assumption
 ·split at h <;> simp at h
theorem kz4 {cs ns bs : List Nat} (h : kbj cs ns bs = true) (hb : rt bs = true) : rt cs = true ∧ num B cs < num B bs := by
 unfold kbj at h
 cases hr : rt cs with
 | false => rw [hr] at h; cases h
 | true =>
  rw [hr] at h
  refine ⟨rfl, k3o hr hb ?_⟩
  simp only [Bool.not_true, cond_false] at h
  by_cases h0 : decide ((cs.length : Int) = 0) = true
  ·rw [h0] at h; cases h
  ·rw [Bool.not_eq_true] at h0
   rw [h0, cond_false] at h
   by_cases h1 : decide (cmpN cs bs ≥ 0) = true
   ·rw [h1] at h; cases h
   ·rw [decide_eq_true_eq] at h1
    omega
section
variable {ns xs es : List Nat} (ln : ∀ x ∈ ns, x < B) (le : ∀ x ∈ es, x < B)
include ln le
theorem k7r (m : ks ns = true) (hx : rt xs = true) (h1 : num B xs < num B ns * num B ns) (he : rt es = true) (h2 : num B es ≤ num B ns) : kmd ns xs es ∧ powOk xs es (kbi ns) := by
 obtain ⟨m1, m2, m3, m4⟩ := kpe ln m
 obtain ⟨q1, q2, q3, q4⟩ := kxc ln m
 have h8 : es.length ≤ 8 := by
  have := (kp B2 (num B es) 8).2 (Nat.lt_of_le_of_lt h2 (Nat.lt_trans m4 (by decide)))
  rwa [kmk le he] at this
 have h3 : (kbi ns).length ≤ 3 := by rw [q1]; exact (kp B2 _ 3).2 q2
 have hn : num B (kbi ns) = num B ns * num B ns := by rw [q1, kf B2]
 refine ⟨⟨m, hx, h1, he, h8⟩, hx, he, ?_, by omega, by rw [hn]; exact q3, by rw [hn]; exact h1⟩
 rw [q1]
 exact kbp (Nat.lt_of_lt_of_le q2 (Nat.pow_le_pow_right (by decide) (by decide)))
end
section
variable {ns xs ys : List Nat} (ln : ∀ x ∈ ns, x < B) (lx : ∀ x ∈ xs, x < B) (ly : ∀ x ∈ ys, x < B)
theorem kv6 (ln : ∀ x ∈ ns, x < B) (lx : ∀ x ∈ xs, x < B) (m : ks ns = true) (a : kbj xs ns ns = true) : kmd ns xs ns ∧ powOk xs ns (kbi ns) := by
 obtain ⟨m1, m2, m3, m4⟩ := kpe ln m
 obtain ⟨a1, a2⟩ := kz4 a m1
 refine k7r ln ln m a1 (Nat.lt_of_lt_of_le a2 ?_) m1 (Nat.le_refl _)
 have := Nat.mul_le_mul_left (num B ns) (show 1 ≤ num B ns by omega)
 omega
def encF (ns ms rs : List Nat) : List Nat × Int :=
 cond (!ks ns) ([], 1) (cond (!kcg ns ms) ([], 10) (cond (!kbj rs ns ns) ([], 1) (kc3 (kfm ns ms) (powN rs ns (kbi ns)) (kbi ns), 0)))
include ln lx
theorem kz0 (m : ks ns = true) (a : kbj xs ns ns = true) : runP knj (.fn ns xs) = some (powN xs ns (kbi ns)) := by
 refine kbq (.done ?_)
 show kkt _ _ = _
 unfold kkt
 rw [kg (kv6 ln lx m a).2]
 rfl
theorem kph (ms : List Nat) : Iter kmx (.fn ns ms xs) (encF ns ms xs) ∧ Iter ko4 (.fn ns ms xs) (encF ns ms xs) := by
 refine ⟨.done ?_, .done ?_⟩
 ·show kjq _ _ _ = _
  unfold kjq encF
  cases m : ks ns
  ·rfl
  cases p : kcg ns ms
  ·rfl
  cases a : kbj xs ns ns
  ·rfl
  rw [kg (kv6 ln lx m a).1]
  rfl
 ·show kk4 _ _ _ = _
  unfold kk4 encF
  cases m : ks ns
  ·rfl
  cases p : kcg ns ms
  ·rfl
  cases a : kbj xs ns ns
  ·rfl
  rw [kz0 ln lx m a]
  rfl
end
section
variable {h : AH} {s t u : Sl} {ns xs ys : List Nat} (n : Nats h s ns) (m : Nats h t xs) (k : Nats h u ys)
include n m k
theorem k08 : Runs (go (.fn F.kia [s.v, t.v, u.v]) h) (kpy h (encF ns xs ys)) := kv3 n m k (kbq (kph n.lt k.lt xs).1)
theorem k86 : Runs (go (.fn F.kk8 [s.v, t.v, u.v]) h) (ko9 h (encF ns xs ys)) := k4v n m k (kbq (kph n.lt k.lt xs).2)
end
end Go.Ab

/- squeezed -/
set_option linter.unusedVariables false
set_option linter.unusedSimpArgs false
set_option maxRecDepth 10000
namespace Go.Ab
open Go.Proofs Go.Num
theorem enc_5 : encF [17947] [5] [1] = ([89736], 0) := by decide +kernel
theorem k35 {h : AH} : ∃ h', go (.fn F.kow []) h = some (.bool true, h') ∧ Grow h h' := by
 have it : Iter kxd .fn true := .done (by
  show kkz = _
  unfold kkz
  rw [show u64P 17947 = some 17947 from rfl, Option.bind_some, show u64P 5 = some 5 from rfl, Option.bind_some, show u64P 1 = some 1 from rfl, Option.bind_some, kbq (kph (by decide) (by decide) [5]).1, Option.bind_some, enc_5]
  rfl)
 obtain ⟨_, h', e, rfl, g⟩ := kbch it (h := h)
 exact ⟨h', e, g⟩
end Go.Ab

/- squeezed -/
set_option linter.unusedVariables false
set_option linter.unusedSimpArgs false
set_option maxRecDepth 10000
namespace Go.Ab
open Go.Proofs Go.Num
inductive kfq
 | fn (a1 : Int)
 | p4 (a1 : Int) (x2 : List Nat) (a3 : Int)
abbrev kd6 := List Nat
noncomputable def kld (a1 : Int) : Option (kfq ⊕ kd6) :=
 (mkI (IntKind.wrap .i64 ((IntKind.wrap .i64 (Int.tdiv a1 16)) + 1)) (IntKind.wrap .i64 ((IntKind.wrap .i64 (Int.tdiv a1 16)) + 1))).bind fun m2 => (inI (List.length (List.replicate m2 0)) (IntKind.wrap .i64 (Int.tdiv a1 16))).bind fun j3 => (u64P 1).bind fun w4 => some (.inl (.p4 a1 (List.set (List.replicate m2 0) j3 w4) 0))
noncomputable def kgg (a1 : Int) (x2 : List Nat) (a3 : Int) : Option (kfq ⊕ kd6) :=
 cond (decide (a3 < (Int.tmod a1 16))) ((inI (List.length x2) (IntKind.wrap .i64 (Int.tdiv a1 16))).bind fun j5 => (inI (List.length x2) (IntKind.wrap .i64 (Int.tdiv a1 16))).bind fun j6 => (u64P (IntKind.wrap .u64 ((((List.getD x2 j5 0 : Nat) : Int)) * 2))).bind fun w7 => some (.inl (.p4 a1 (List.set x2 j6 w7) (IntKind.wrap .i64 (a3 + 1))))) (some (.inr x2))
noncomputable def kqu : kfq → Option (kfq ⊕ kd6)
 | .fn a1 => kld a1
 | .p4 a1 x2 a3 => kgg a1 x2 a3
@[reducible] def kt9 (h0 : AH) (r : kd6) (v : AV) (h' : AH) : Prop := ∃ s1 : Sl, v = s1.v ∧ Nats h' s1 r ∧ Grow h0 h' ∧ Own h0 s1
def kkn (r : kd6) : kfq → Prop
 | .fn a1 => ∀ {h : AH}, Runs (go (.fn F.ke0 [.int .i64 a1]) h) (kt9 h r)
 | .p4 a1 x2 a3 => ∀ {h0 h : AH} {a2 : Sl} {i2 : Nat}, Grow h0 h → Vec h a2 i2 x2 → h0.blks.size ≤ i2 → Runs (go (.pt F.ke0 Td.koq [(0, .int .i64 a1), (3, a2.v), (4, .int .i64 a3)]) h) (kt9 h0 r)
theorem k26 {r : kd6} {o : kfq ⊕ kd6} {a1 : Int} (e : kld a1 = some o) (good : GoodS (kkn r) r o) : kkn r (.fn a1) := by
 intro h
 rw [k6p]
 unfold kld at e
 obtain ⟨m2, q2, e⟩ := Option.bind_eq_some_iff.1 e
 refine Runs.mk q2 kb5 fun s2 H2 v2 g2 => ?_
 rw [v2.nats.len]
 obtain ⟨j3, q3, e⟩ := Option.bind_eq_some_iff.1 e
 refine Runs.step (v2.idx rfl q3) ?_
 obtain ⟨w4, z4, e⟩ := Option.bind_eq_some_iff.1 e
 refine Runs.vput v2 rfl q3 z4 fun H4 v4 u4 => ?_
 cases e
 exact good (g2.updr (Nat.le_refl _) u4) v4 (Nat.le_refl _)
theorem k1x {r : kd6} {o : kfq ⊕ kd6} {a1 : Int} {x2 : List Nat} {a3 : Int} (e : kgg a1 x2 a3 = some o) (good : GoodS (kkn r) r o) : kkn r (.p4 a1 x2 a3) := by
 intro h0 h a2 i2 g0 v2 hi2
 rw [k0u]
 unfold kgg at e
 rw [v2.nats.len]
 refine Runs.cond (fun k4 => ?_) (fun k4 => ?_)
 ·replace e := (condT k4).symm.trans e
  obtain ⟨j5, q5, e⟩ := Option.bind_eq_some_iff.1 e
  refine Runs.step (v2.idx rfl q5) ?_
  refine Runs.step (v2.rd rfl q5 (kb _ _)) ?_
  obtain ⟨j6, q6, e⟩ := Option.bind_eq_some_iff.1 e
  refine Runs.step (v2.idx rfl q6) ?_
  obtain ⟨w7, z7, e⟩ := Option.bind_eq_some_iff.1 e
  refine Runs.vput v2 rfl q6 z7 fun H7 v7 u7 => ?_
  cases e
  exact good (g0.updr hi2 u7) v7 hi2
 ·replace e := (condF k4).symm.trans e
  cases e
  cases good
  exact Runs.ret ⟨a2, rfl, v2.nats, g0, (v2.own hi2)⟩
theorem k20 {s : kfq} {r : kd6} (it : Iter kqu s r) : kkn r s := Iter.ind (fun s o e good => by
 cases s with
 | fn a1 => exact @k26 _ _ a1 e good
 | p4 a1 x2 a3 => exact @k1x _ _ a1 x2 a3 e good
 ) it
end Go.Ab

/- squeezed -/
set_option linter.unusedVariables false
set_option linter.unusedSimpArgs false
set_option maxRecDepth 10000
namespace Go.Ab
open Go.Proofs Go.Num
def powL (a : Nat) : List Nat := List.replicate (a / 16) 0 ++ [2 ^ (a % 16)]
theorem kke (a : Nat) : num D (powL a) = 2 ^ a := by
 unfold powL
 rw [kbs, kwq, List.length_replicate]
 have e : D = 2 ^ 16 := rfl
 simp only [kko, num]
 rw [e, ← Nat.pow_mul, Nat.zero_add, Nat.mul_zero, Nat.add_zero, ← Nat.pow_add, Nat.div_add_mod]
theorem kw4 (a : Nat) : ∀ x ∈ powL a, x < D := by
 intro x hx
 unfold powL at hx
 rcases List.mem_append.1 hx with h | h
 ·rw [(List.mem_replicate.1 h).2]; decide
 ·rw [List.mem_singleton.1 h]
  exact Nat.pow_lt_pow_right (by decide) (Nat.mod_lt _ (by decide))
theorem ks5 (a : Nat) : (powL a).length = a / 16 + 1 := by simp [powL]
theorem pow_p4 {a : Nat} (ha : a ≤ 4096) : ∀ (k i : Nat), i + k = a % 16 → Iter kqu (.p4 (a : Int) (List.replicate (a / 16) 0 ++ [2 ^ i]) (i : Int)) (powL a) := by
 have hd : IntKind.wrap .i64 (Int.tdiv (a : Int) 16) = ((a / 16 : Nat) : Int) := by
  rw [show Int.tdiv (a : Int) 16 = ((a / 16 : Nat) : Int) from rfl, kn (by omega)]
 have hm : Int.tmod (a : Int) 16 = ((a % 16 : Nat) : Int) := rfl
 intro k
 induction k with
 | zero =>
  intro i hi
  refine .done ?_
  show kgg _ _ _ = _
  unfold kgg
  rw [hm, condF (by rw [decide_eq_false_iff_not]; omega), show i = a % 16 from by omega]
  rfl
 | succ k ih =>
  intro i hi
  refine .next (s' := .p4 (a : Int) (List.replicate (a / 16) 0 ++ [2 ^ (i + 1)]) ((i + 1 : Nat) : Int)) ?_ (ih (i + 1) (by omega))
  show kgg _ _ _ = _
  have hl : a / 16 < (List.replicate (a / 16) 0 ++ [2 ^ i]).length := by simp
  have hg : List.getD (List.replicate (a / 16) 0 ++ [2 ^ i]) (a / 16) 0 = 2 ^ i := by
   rw [List.getD, List.getElem?_append_right (by simp)]
   simp
  have hp : 2 ^ (i + 1) < 18446744073709551616 := by
   have h1 : i + 1 ≤ 16 := by have := Nat.mod_lt a (show 0 < 16 by decide); omega
   exact Nat.lt_of_le_of_lt (Nat.pow_le_pow_right (by decide) h1) (by decide)
  have e2 : IntKind.wrap .u64 (((2 ^ i : Nat) : Int) * 2) = ((2 ^ (i + 1) : Nat) : Int) := by
   rw [show (((2 ^ i : Nat) : Int) * 2) = ((2 ^ i * 2 : Nat) : Int) from by rw [Int.natCast_mul]; rfl, ← Nat.pow_succ]
   generalize 2 ^ (i + 1) = z at *
   rw [wrapU]
   omega
  unfold kgg
  rw [hm, condT (by rw [decide_eq_true_eq]; omega), hd, kv hl, Option.bind_some, Option.bind_some, hg, e2, kba hp, Option.bind_some, kq (by omega)]
  have : List.set (List.replicate (a / 16) 0 ++ [2 ^ i]) (a / 16) (2 ^ (i + 1)) = List.replicate (a / 16) 0 ++ [2 ^ (i + 1)] := by
   rw [List.set_append_right _ _ (by simp)]
   simp
  rw [this]
theorem kxz {h : AH} {a : Int} (c : 0 ≤ a ∧ a ≤ 4096) : ∃ (s1 : Sl) (h' : AH), go (.fn F.ke0 [.int .i64 a]) h = some (s1.v, h') ∧ Nats h' s1 (powL a.toNat) ∧ Grow h h' ∧ Own h s1 := by
 obtain ⟨n, rfl⟩ : ∃ n : Nat, a = (n : Int) := ⟨a.toNat, by omega⟩
 have hd : IntKind.wrap .i64 (Int.tdiv (n : Int) 16) = ((n / 16 : Nat) : Int) := by
  rw [show Int.tdiv (n : Int) 16 = ((n / 16 : Nat) : Int) from rfl, kn (by omega)]
 have it : Iter kqu (.fn (n : Int)) (powL n) := by
  refine .next ?_ (pow_p4 (by omega) (n % 16) 0 (by omega))
  show kld _ = _
  unfold kld
  rw [hd, show (((n / 16 : Nat) : Int) + 1) = ((n / 16 + 1 : Nat) : Int) from rfl, kn (by omega), kcz (by omega), Option.bind_some, kv (by simp), Option.bind_some, show u64P 1 = some 1 from rfl, Option.bind_some]
  have : List.set (List.replicate (n / 16 + 1) 0) (n / 16) 1 = List.replicate (n / 16) 0 ++ [2 ^ 0] := by
   rw [List.replicate_succ', List.set_append_right _ _ (by simp)]
   simp
  rw [this]
  rfl
 rw [Int.toNat_natCast]
 obtain ⟨_, h', e, s1, rfl, n1, g1, o1⟩ := k20 it (h := h)
 exact ⟨s1, h', e, n1, g1, o1⟩
end Go.Ab

/- squeezed -/
set_option linter.unusedVariables false
set_option linter.unusedSimpArgs false
set_option maxRecDepth 10000
namespace Go.Ab
open Go.Proofs Go.Num
inductive kit
 | fn (x1 : List Nat) (a2 : Int)
 | no
abbrev kfv := List Nat × Int
noncomputable def kjm (x1 : List Nat) (a2 : Int) : Option (kit ⊕ kfv) :=
 cond (!(rt x1)) (some (.inr ([], 1))) (cond (decide (a2 < 0)) (some (.inr ([], 1))) (cond (decide (a2 ≥ 4096)) (some (.inr ([], 0))) ((need (List.length x1 ≤ 1073741824)).bind fun c7_0 => (need (0 ≤ a2 ∧ a2 ≤ 4096)).bind fun c8_0 => (need (∀ x ∈ (digs D (num B x1)), x < D)).bind fun c9_0 => (need (∀ x ∈ (powL (Int.toNat a2)), x < D)).bind fun c9_1 => (need (List.length (digs D (num B x1)) ≤ 536870912)).bind fun c9_2 => (need (List.length (powL (Int.toNat a2)) ≤ 536870912)).bind fun c9_3 => (need (0 < num D (powL (Int.toNat a2)))).bind fun c9_4 => (need (∀ x ∈ (digs D (num D (digs D (num B x1)) / num D (powL (Int.toNat a2)))), x < D)).bind fun c10_0 => (need (Trim (digs D (num D (digs D (num B x1)) / num D (powL (Int.toNat a2)))))).bind fun c10_1 => (need (List.length (digs D (num D (digs D (num B x1)) / num D (powL (Int.toNat a2)))) ≤ 536870912)).bind fun c10_2 => some (.inr ((told (num D (digs D (num D (digs D (num B x1)) / num D (powL (Int.toNat a2)))))).1, ((told (num D (digs D (num D (digs D (num B x1)) / num D (powL (Int.toNat a2)))))).2))))))
noncomputable def ktd : kit → Option (kit ⊕ kfv)
 | .fn x1 a2 => kjm x1 a2
 | .no => none
@[reducible] def ko2 (h0 : AH) (r : kfv) (v : AV) (h' : AH) : Prop := ∃ s1 : Sl, v = .tup [s1.v, .int .i64 r.2] ∧ Nats h' s1 r.1 ∧ Grow h0 h' ∧ Own h0 s1
def kq8 (r : kfv) : kit → Prop
 | .fn x1 a2 => ∀ {h : AH} {a1 : Sl}, Nats h a1 x1 → Runs (go (.fn F.ki2 [a1.v, .int .i64 a2]) h) (ko2 h r)
 | .no => True
theorem k6x {r : kfv} {o : kit ⊕ kfv} {x1 : List Nat} {a2 : Int} (e : kjm x1 a2 = some o) (good : GoodS (kq8 r) r o) : kq8 r (.fn x1 a2) := by
 intro h a1 n1
 rw [k30]
 unfold kjm at e
 refine Runs.step (kbr n1) ?_
 refine Runs.step (seen rfl) ?_
 refine Runs.cond (fun k4 => ?_) (fun k4 => ?_)
 ·replace e := (condT k4).symm.trans e
  cases e
  cases good
  exact Runs.ret ⟨(⟨none, 0, .is 0⟩ : Sl), rfl, (Nats.nil _), (Grow.refl _), (Own.nil _)⟩
 ·replace e := (condF k4).symm.trans e
  refine Runs.cond (fun k5 => ?_) (fun k5 => ?_)
  ·replace e := (condT k5).symm.trans e
   cases e
   cases good
   exact Runs.ret ⟨(⟨none, 0, .is 0⟩ : Sl), rfl, (Nats.nil _), (Grow.refl _), (Own.nil _)⟩
  ·replace e := (condF k5).symm.trans e
   refine Runs.cond (fun k6 => ?_) (fun k6 => ?_)
   ·replace e := (condT k6).symm.trans e
    cases e
    cases good
    exact Runs.ret ⟨(⟨none, 0, .is 0⟩ : Sl), rfl, (Nats.nil _), (Grow.refl _), (Own.nil _)⟩
   ·replace e := (condF k6).symm.trans e
    obtain ⟨c7_0, q7_0, e⟩ := Option.bind_eq_some_iff.1 e
    obtain ⟨s7, H7, e7, n7, g7, o7⟩ := kcq n1  c7_0.down
    refine Runs.step e7 ?_
    refine Runs.step (seen (asSl_v _)) ?_
    obtain ⟨c8_0, q8_0, e⟩ := Option.bind_eq_some_iff.1 e
    obtain ⟨s8, H8, e8, n8, g8, o8⟩ := kxz  c8_0.down
    refine Runs.step e8 ?_
    refine Runs.step (seen (asSl_v _)) ?_
    obtain ⟨c9_0, q9_0, e⟩ := Option.bind_eq_some_iff.1 e
    obtain ⟨c9_1, q9_1, e⟩ := Option.bind_eq_some_iff.1 e
    obtain ⟨c9_2, q9_2, e⟩ := Option.bind_eq_some_iff.1 e
    obtain ⟨c9_3, q9_3, e⟩ := Option.bind_eq_some_iff.1 e
    obtain ⟨c9_4, q9_4, e⟩ := Option.bind_eq_some_iff.1 e
    obtain ⟨s9, s9b, H9, e9, n9, n9b, g9, o9, o9b⟩ := kxf (n7.grow g8) n8  c9_0.down c9_1.down c9_2.down c9_3.down c9_4.down
    refine Runs.step e9 ?_
    refine Runs.step rfl ?_
    refine Runs.step (seen (asSl_v _)) ?_
    refine Runs.step (seen (asSl_v _)) ?_
    obtain ⟨c10_0, q10_0, e⟩ := Option.bind_eq_some_iff.1 e
    obtain ⟨c10_1, q10_1, e⟩ := Option.bind_eq_some_iff.1 e
    obtain ⟨c10_2, q10_2, e⟩ := Option.bind_eq_some_iff.1 e
    obtain ⟨s10, H10, e10, n10, g10, o10⟩ := kiq n9  c10_0.down c10_1.down c10_2.down
    refine Runs.step e10 ?_
    refine Runs.step rfl ?_
    refine Runs.step (seen (asSl_v _)) ?_
    refine Runs.step (seen (kb _ _)) ?_
    cases e
    cases good
    have G11 := ((g7.trans g8).trans g9)
    have G12 := (G11.trans g10)
    exact Runs.ret ⟨s10, rfl, n10, G12, (o10.of_le G11)⟩
theorem k0e {s : kit} {r : kfv} (it : Iter ktd s r) : kq8 r s := Iter.ind (fun s o e good => by
 cases s with
 | fn x1 a2 => exact @k6x _ _ x1 a2 e good
 | no => exact True.intro
 ) it
theorem k9g {h : AH} {a1 : Sl} {x1 : List Nat} {a2 : Int} (n1 : Nats h a1 x1) {r : kfv} (q : runP ktd (.fn x1 a2) = some r) : Runs (go (.fn F.ki2 [a1.v, .int .i64 a2]) h) (ko2 h r) := k0e (kbt q) n1
inductive khp
 | fn (x1 : List Nat) (a2 : Int)
 | no
abbrev kf6 := List Nat × Int
noncomputable def kkc (x1 : List Nat) (a2 : Int) : Option (khp ⊕ kf6) :=
 cond (!(rt x1)) (some (.inr ([], 1))) (cond (decide (a2 < 0)) (some (.inr ([], 1))) (cond (decide ((List.length x1 : Int) = 0)) (some (.inr ([], 0))) (cond (decide (a2 > 4096)) (some (.inr ([], 4))) ((need (List.length x1 ≤ 1073741824)).bind fun c8_0 => (need (0 ≤ a2 ∧ a2 ≤ 4096)).bind fun c9_0 => (need (∀ x ∈ (digs D (num B x1)), x < D)).bind fun c10_0 => (need (∀ x ∈ (powL (Int.toNat a2)), x < D)).bind fun c10_1 => (need (List.length (digs D (num B x1)) + List.length (powL (Int.toNat a2)) ≤ 8796093022208)).bind fun c10_2 => (need (∀ x ∈ (digs D (num D (digs D (num B x1)) * num D (powL (Int.toNat a2)))), x < D)).bind fun c11_0 => (need (Trim (digs D (num D (digs D (num B x1)) * num D (powL (Int.toNat a2)))))).bind fun c11_1 => (need (List.length (digs D (num D (digs D (num B x1)) * num D (powL (Int.toNat a2)))) ≤ 536870912)).bind fun c11_2 => some (.inr ((told (num D (digs D (num D (digs D (num B x1)) * num D (powL (Int.toNat a2)))))).1, ((told (num D (digs D (num D (digs D (num B x1)) * num D (powL (Int.toNat a2)))))).2)))))))
noncomputable def ksq : khp → Option (khp ⊕ kf6)
 | .fn x1 a2 => kkc x1 a2
 | .no => none
@[reducible] def kpb (h0 : AH) (r : kf6) (v : AV) (h' : AH) : Prop := ∃ s1 : Sl, v = .tup [s1.v, .int .i64 r.2] ∧ Nats h' s1 r.1 ∧ Grow h0 h' ∧ Own h0 s1
def krb (r : kf6) : khp → Prop
 | .fn x1 a2 => ∀ {h : AH} {a1 : Sl}, Nats h a1 x1 → Runs (go (.fn F.kkb [a1.v, .int .i64 a2]) h) (kpb h r)
 | .no => True
theorem k1r {r : kf6} {o : khp ⊕ kf6} {x1 : List Nat} {a2 : Int} (e : kkc x1 a2 = some o) (good : GoodS (krb r) r o) : krb r (.fn x1 a2) := by
 intro h a1 n1
 rw [kba0]
 unfold kkc at e
 rw [n1.len]
 refine Runs.step (kbr n1) ?_
 refine Runs.step (seen rfl) ?_
 refine Runs.cond (fun k4 => ?_) (fun k4 => ?_)
 ·replace e := (condT k4).symm.trans e
  cases e
  cases good
  exact Runs.ret ⟨(⟨none, 0, .is 0⟩ : Sl), rfl, (Nats.nil _), (Grow.refl _), (Own.nil _)⟩
 ·replace e := (condF k4).symm.trans e
  refine Runs.cond (fun k5 => ?_) (fun k5 => ?_)
  ·replace e := (condT k5).symm.trans e
   cases e
   cases good
   exact Runs.ret ⟨(⟨none, 0, .is 0⟩ : Sl), rfl, (Nats.nil _), (Grow.refl _), (Own.nil _)⟩
  ·replace e := (condF k5).symm.trans e
   refine Runs.cond (fun k6 => ?_) (fun k6 => ?_)
   ·replace e := (condT k6).symm.trans e
    cases e
    cases good
    exact Runs.ret ⟨(⟨none, 0, .is 0⟩ : Sl), rfl, (Nats.nil _), (Grow.refl _), (Own.nil _)⟩
   ·replace e := (condF k6).symm.trans e
    refine Runs.cond (fun k7 => ?_) (fun k7 => ?_)
    ·replace e := (condT k7).symm.trans e
     cases e
     cases good
     exact Runs.ret ⟨(⟨none, 0, .is 0⟩ : Sl), rfl, (Nats.nil _), (Grow.refl _), (Own.nil _)⟩
    ·replace e := (condF k7).symm.trans e
     obtain ⟨c8_0, q8_0, e⟩ := Option.bind_eq_some_iff.1 e
     obtain ⟨s8, H8, e8, n8, g8, o8⟩ := kcq n1  c8_0.down
     refine Runs.step e8 ?_
     refine Runs.step (seen (asSl_v _)) ?_
     obtain ⟨c9_0, q9_0, e⟩ := Option.bind_eq_some_iff.1 e
     obtain ⟨s9, H9, e9, n9, g9, o9⟩ := kxz  c9_0.down
     refine Runs.step e9 ?_
     refine Runs.step (seen (asSl_v _)) ?_
     obtain ⟨c10_0, q10_0, e⟩ := Option.bind_eq_some_iff.1 e
     obtain ⟨c10_1, q10_1, e⟩ := Option.bind_eq_some_iff.1 e
     obtain ⟨c10_2, q10_2, e⟩ := Option.bind_eq_some_iff.1 e
     obtain ⟨s10, H10, e10, n10, g10, o10⟩ := kns (n8.grow g9) n9  c10_0.down c10_1.down c10_2.down
     refine Runs.step e10 ?_
     refine Runs.step (seen (asSl_v _)) ?_
     obtain ⟨c11_0, q11_0, e⟩ := Option.bind_eq_some_iff.1 e
     obtain ⟨c11_1, q11_1, e⟩ := Option.bind_eq_some_iff.1 e
     obtain ⟨c11_2, q11_2, e⟩ := Option.bind_eq_some_iff.1 e
     obtain ⟨s11, H11, e11, n11, g11, o11⟩ := kiq n10  c11_0.down c11_1.down c11_2.down
     refine Runs.step e11 ?_
     refine Runs.step rfl ?_
     refine Runs.step (seen (asSl_v _)) ?_
     refine Runs.step (seen (kb _ _)) ?_
     cases e
     cases good
     have G12 := ((g8.trans g9).trans g10)
     have G13 := (G12.trans g11)
     exact Runs.ret ⟨s11, rfl, n11, G13, (o11.of_le G12)⟩
theorem k27 {s : khp} {r : kf6} (it : Iter ksq s r) : krb r s := Iter.ind (fun s o e good => by
 cases s with
 | fn x1 a2 => exact @k1r _ _ x1 a2 e good
 | no => exact True.intro
 ) it
theorem k40 {h : AH} {a1 : Sl} {x1 : List Nat} {a2 : Int} (n1 : Nats h a1 x1) {r : kf6} (q : runP ksq (.fn x1 a2) = some r) : Runs (go (.fn F.kkb [a1.v, .int .i64 a2]) h) (kpb h r) := k27 (kbt q) n1
end Go.Ab

/- squeezed -/
set_option linter.unusedVariables false
set_option linter.unusedSimpArgs false
set_option maxRecDepth 10000
namespace Go.Ab
open Go.Proofs Go.Num
theorem knf {X : Nat} (h : X < B ^ 64) : told X = (digs B X, 0) := by
 unfold told
 rw [if_pos h]
theorem kj2 {X : Nat} (h : X < B ^ 64) : (digs D X).length ≤ 256 := (kp D2 X 256).2 (Nat.lt_of_lt_of_le h (by
 have : B ^ 64 = D ^ 256 := by
  rw [show B = D ^ 4 from by decide, ← Nat.pow_mul]
 omega))
theorem Shr_is {h : AH} {s : Sl} {X w : Nat} (n : Nats h s (digs B X)) (hX : X < B ^ 64) (hw : w < 4096) : Runs (go (.fn F.ki2 [s.v, .int .i64 (w : Int)]) h) (ko2 h (digs B (X / 2 ^ w), 0)) := k9g n (kbq (.done (by
 show kjm _ _ = _
 unfold kjm
 have l64 : (digs B X).length ≤ 64 := (kp B2 X 64).2 hX
 have q : X / 2 ^ w < B ^ 64 := Nat.lt_of_le_of_lt (Nat.div_le_self _ _) hX
 have pl := ks5 w
 have dl := kj2 hX
 have dl2 := kj2 q
 rw [kbp hX, Bool.not_true, cond_false, condF (by rw [decide_eq_false_iff_not]; omega), condF (by rw [decide_eq_false_iff_not]; omega), kg (by omega), Option.bind_some, kg (by omega), Option.bind_some]
 simp only [kf B2, kf D2, Int.toNat_natCast, kke]
 rw [kg (ku D2 _), Option.bind_some, kg (kw4 _), Option.bind_some, kg (by rw [kf B2]; omega), Option.bind_some, kg (by omega), Option.bind_some, kg (by rw [kke]; exact Nat.pow_pos (by decide)), Option.bind_some, kg (ku D2 _), Option.bind_some, kg (kbn D2 _), Option.bind_some, kg (by rw [kf B2, kf D2, kke]; omega), Option.bind_some, knf q])))
theorem Shl_is {h : AH} {s : Sl} {T w : Nat} (n : Nats h s (digs B T)) (hT : T * 2 ^ w < B ^ 64) (hw : w ≤ 4096) : Runs (go (.fn F.kkb [s.v, .int .i64 (w : Int)]) h) (kpb h (digs B (T * 2 ^ w), 0)) := k40 n (kbq (.done (by
 show kkc _ _ = _
 unfold kkc
 have hp : 0 < 2 ^ w := Nat.pow_pos (by decide)
 have hX : T < B ^ 64 := Nat.lt_of_le_of_lt (Nat.le_mul_of_pos_right _ hp) hT
 have l64 : (digs B T).length ≤ 64 := (kp B2 T 64).2 hX
 have pl := ks5 w
 have dl := kj2 hX
 have dl2 := kj2 hT
 rw [kbp hX, Bool.not_true, cond_false, condF (by rw [decide_eq_false_iff_not]; omega)]
 by_cases h0 : T = 0
 ·subst h0
  rw [condT (by rw [kbl]; rfl), Nat.zero_mul, kbl]
 ·have hne : (digs B T).length ≠ 0 := fun e => h0 ((kk7 B2).1 (List.length_eq_zero_iff.1 e))
  rw [condF (by rw [decide_eq_false_iff_not]; omega), condF (by rw [decide_eq_false_iff_not]; omega), kg (by omega), Option.bind_some, kg (by omega), Option.bind_some]
  simp only [kf B2, kf D2, Int.toNat_natCast, kke]
  rw [kg (ku D2 _), Option.bind_some, kg (kw4 _), Option.bind_some, kg (by rw [kf B2]; omega), Option.bind_some, kg (ku D2 _), Option.bind_some, kg (kbn D2 _), Option.bind_some, kg (by rw [kf B2, kf D2, kke]; omega), Option.bind_some, knf hT])))
def Ef.byte : Ef Nat where
 w := 1
 pos := by decide
 has _ _ cs b := cs = [.int .u8 (b : Int)] ∧ b < 256
 len e := by rw [e.1]; rfl
 grow _ e := e
 mono _ e := e
 upd _ _ e := e
 bound e := e
theorem kuv : ∀ (j m : Nat) {v c s : Nat}, j < m → v < 2 ^ s * B ^ j → c * 2 ^ s + 2 ^ s ≤ B → (padD B m v).set j ((padD B m v).getD j 0 + c * 2 ^ s) = padD B m (v + c * 2 ^ s * B ^ j) ∧ (padD B m v).getD j 0 < 2 ^ s
 | _, 0, _, _, _, h, _, _ => absurd h (Nat.not_lt_zero _)
 | 0, m + 1, v, c, s, _, hv, hc => by
  have B0 : 0 < B := by decide
  have hv : v < 2 ^ s := by simpa using hv
  have h1 : v < B := by omega
  have h2 : v + c * 2 ^ s < B := by omega
  simp only [padD, List.set_cons_zero, List.getD_cons_zero, Nat.pow_zero, Nat.mul_one]
  rw [Nat.mod_eq_of_lt h1, Nat.mod_eq_of_lt h2, Nat.div_eq_of_lt h1, Nat.div_eq_of_lt h2]
  exact ⟨rfl, hv⟩
 | j + 1, m + 1, v, c, s, hj, hv, hc => by
  have B0 : 0 < B := by decide
  have hv' : v / B < 2 ^ s * B ^ j := Nat.div_lt_of_lt_mul (by rw [Nat.pow_succ] at hv; rw [Nat.mul_comm B, Nat.mul_assoc]; exact hv)
  obtain ⟨h1, h2⟩ := kuv j m (c := c) (show j < m by omega) hv' hc
  simp only [padD, List.set_cons_succ, List.getD_cons_succ]
  refine ⟨?_, h2⟩
  rw [h1]
  have e : c * 2 ^ s * B ^ (j + 1) = B * (c * 2 ^ s * B ^ j) := by rw [Nat.pow_succ, ← Nat.mul_assoc, Nat.mul_comm]
  rw [e, Nat.add_mul_mod_self_left, Nat.add_mul_div_left _ _ B0]
theorem pow256 (i : Nat) : 256 ^ i = 2 ^ (8 * (i % 8)) * B ^ (i / 8) := by
 have e : B = 2 ^ 64 := rfl
 rw [e, ← Nat.pow_mul, ← Nat.pow_add, show (256 : Nat) = 2 ^ 8 from rfl, ← Nat.pow_mul]
 congr 1
 omega
theorem kog {bs : List Nat} (h : ∀ b ∈ bs, b < 256) : num 256 bs < 256 ^ bs.length := num_lt (by decide) h
end Go.Ab

/- squeezed -/
set_option linter.unusedVariables false
set_option linter.unusedSimpArgs false
set_option maxRecDepth 10000
namespace Go.Ab
open Go.Proofs Go.Num
def beN (bs : List Nat) : Nat := num 256 bs.reverse
theorem kg3 {h : AH} {S : Fp} {s : Sl} {bs : List Nat} (n : Sq Ef.byte h S s bs) {i : Nat} (hi : i < bs.length) : ∃ r : Ref, idx s.ref s.len (i : Int) 1 = some r ∧ (h.cell r).bind (AV.asInt .u8) = some ((bs[i] : Nat) : Int) ∧ bs[i] < 256 := by
 obtain ⟨r, cs, e1, ⟨rfl, e2⟩, e3⟩ := n.at (i := (i : Int)) (kqr hi)
 rw [n.len]
 exact ⟨r, e1, e3.rd0 (Grow.refl h) (f := AV.asInt .u8) rfl (kb _ _), e2⟩
theorem kmr {h : AH} {S : Fp} {s : Sl} {bs : List Nat} (n : Sq Ef.byte h S s bs) : ∀ b ∈ bs, b < 256 := by
 intro b hb
 obtain ⟨i, hi, rfl⟩ := List.getElem_of_mem hb
 exact (kg3 n hi).choose_spec.2.2
theorem kt4 {h : AH} {S : Fp} {s : Sl} {bs : List Nat} (n : Sq Ef.byte h S s bs) : ∀ (k i : Nat), i + k = bs.length →
  ∃ r : Int, go (.pt F.kf3 Td.khm [(0, s.v), (1, .func (.func F.kdr) [] []), (7, .int .i64 (bs.length : Int)), (8, .int .i64 (i : Int))]) h = some (.int .i64 r, h) ∧
   ((r = -1 ∧ ∀ t (ht : t < bs.length), i ≤ t → bs[t] = 0) ∨ ∃ j : Nat, r = (j : Int) ∧ j < bs.length ∧ ∀ t (ht : t < bs.length), i ≤ t → t < j → bs[t] = 0)
 | 0, i, hi => by
  refine ⟨-1, ?_, .inl ⟨rfl, fun t ht h => by omega⟩⟩
  rw [kt8, condF (by rw [decide_eq_false_iff_not]; omega)]
 | k + 1, i, hi => by
  have hlt : i < bs.length := by omega
  obtain ⟨r, e1, e2, e3⟩ := kg3 n hlt
  have hs := n.short
  have st : go (.pt F.kf3 Td.khm [(0, s.v), (1, .func (.func F.kdr) [] []), (7, .int .i64 (bs.length : Int)), (8, .int .i64 (i : Int))]) h = cond (!decide (((bs[i] : Nat) : Int) = 0)) (some (.int .i64 (i : Int), h)) (go (.pt F.kf3 Td.khm [(0, s.v), (1, .func (.func F.kdr) [] []), (7, .int .i64 (bs.length : Int)), (8, .int .i64 ((i + 1 : Nat) : Int))]) h) := by
   rw [kt8, condT (by rw [decide_eq_true_eq]; omega), e1, Option.bind_some, e2, Option.bind_some, k39, Option.bind_some, kq (by omega)]
   rfl
  rw [st]
  by_cases h0 : bs[i] = 0
  ·obtain ⟨r', f1, f2⟩ := kt4 n k (i + 1) (by omega)
   refine ⟨r', by rw [h0]; exact f1, ?_⟩
   rcases f2 with ⟨g1, g2⟩ | ⟨j, g1, g2, g3⟩
   ·exact .inl ⟨g1, fun t ht hle => by
     rcases Nat.lt_or_ge i t with h' | h'
     ·exact g2 t ht h'
     ·have : t = i := by omega
      subst this; exact h0⟩
   ·exact .inr ⟨j, g1, g2, fun t ht hle hj => by
     rcases Nat.lt_or_ge i t with h' | h'
     ·exact g3 t ht h' hj
     ·have : t = i := by omega
      subst this; exact h0⟩
  ·exact ⟨(i : Int), by rw [condT (by rw [decide_eq_false (show ¬ ((bs[i] : Nat) : Int) = 0 from by omega)]; rfl)], .inr ⟨i, rfl, hlt, fun t ht h1 h2 => by omega⟩⟩
theorem kpk {bs : List Nat} {j : Nat} (h : ∀ t (ht : t < bs.length), t < j → bs[t] = 0) (hj : j ≤ bs.length) : beN (bs.drop j) = beN bs := by
 have e : bs = List.replicate j 0 ++ bs.drop j := by
  conv => lhs; rw [← List.take_append_drop j bs]
  congr 1
  apply List.ext_getElem
  ·simp; omega
  ·intro i h1 h2
   rw [List.getElem_take, List.getElem_replicate]
   exact h i _ (by simp at h1; omega)
 unfold beN
 conv => rhs; rw [e]
 rw [List.reverse_append, List.reverse_replicate, kbs]
 rw [kwq, Nat.mul_zero, Nat.add_zero]
theorem k85 {bs : List Nat} (h : ∀ t (ht : t < bs.length), bs[t] = 0) : beN bs = 0 := by
 rw [← kpk (j := bs.length) (fun t ht _ => h t ht) (Nat.le_refl _), List.drop_length]
 rfl
theorem k1f {h0 : AH} {S : Fp} {s : Sl} {bs : List Nat} (n0 : Sq Ef.byte h0 S s bs) (hl : bs.length ≤ 512) {t : Sl} {it : Nat} (hit : h0.blks.size ≤ it) : ∀ (k i : Nat), i + k = bs.length → ∀ {h : AH}, Grow h0 h → Vec h t it (padD B ((bs.length + 7) / 8) (num 256 (bs.reverse.take i))) →
  Runs (go (.pt F.ke1 Td.kmj [(0, s.v), (5, t.v), (23, .int .i64 (bs.length : Int)), (24, .int .i64 (i : Int))]) h) fun v h' => ∃ s1 : Sl, v = .tup [s1.v, .int .i64 0] ∧ Nats h' s1 (digs B (beN bs)) ∧ Grow h0 h' ∧ Own h0 s1 := by
 have lt := kmr n0
 intro k
 induction k with
 | zero =>
  intro i hi h g v
  have hi' : i = bs.length := by omega
  rw [kt7]
  refine Runs.ifF (by rw [decide_eq_false_iff_not]; omega) ?_
  rw [hi', List.take_of_length_le (by simp)] at v
  have hb : beN bs < B ^ ((bs.length + 7) / 8) := by
   have h1 : beN bs < 256 ^ bs.length := by
    have := kog (bs := bs.reverse) (fun b hb => lt b (List.mem_reverse.1 hb))
    rwa [List.length_reverse] at this
   refine Nat.lt_of_lt_of_le h1 ?_
   rw [show B = 256 ^ 8 from by decide, ← Nat.pow_mul]
   exact Nat.pow_le_pow_right (by decide) (by omega)
  have hv := krg (b := B) (by decide) _ _ hb
  have h64 : beN bs < B ^ 64 := Nat.lt_of_lt_of_le hb (Nat.pow_le_pow_right (by decide) (by omega))
  obtain ⟨s1, e, n1, o1⟩ := ko0 v.nats
  rw [show num 256 bs.reverse = beN bs from rfl, hv, knf h64] at e n1
  refine Runs.step e ?_
  refine Runs.step rfl ?_
  refine Runs.step (seen (asSl_v _)) ?_
  refine Runs.step (seen (kb _ _)) ?_
  refine Runs.ret ⟨s1, rfl, n1, g, o1 _ ?_⟩
  intro r hr
  rw [v.is] at hr
  cases hr
  exact ⟨it, 0, rfl, hit⟩
 | succ k ih =>
  intro i hi h g v
  have hm : i / 8 < (bs.length + 7) / 8 := by omega
  have hr : bs.length - 1 - i < bs.length := by omega
  obtain ⟨r, e1, e2, e3⟩ := kg3 (n0.grow g) hr
  have hd : IntKind.wrap .i64 (Int.tdiv (i : Int) 8) = ((i / 8 : Nat) : Int) := by
   rw [show Int.tdiv (i : Int) 8 = ((i / 8 : Nat) : Int) from rfl, kn (by omega)]
  have hm8 : Int.tmod (i : Int) 8 = ((i % 8 : Nat) : Int) := rfl
  have hsub : IntKind.wrap .i64 ((IntKind.wrap .i64 ((s.len : Int) - 1)) - (i : Int)) = ((bs.length - 1 - i : Nat) : Int) := by
   rw [n0.len, show ((bs.length : Int) - 1) = ((bs.length - 1 : Nat) : Int) from by omega, kn (by omega), show (((bs.length - 1 : Nat) : Int) - (i : Int)) = ((bs.length - 1 - i : Nat) : Int) from by omega, kn (by omega)]
  have h8 : IntKind.wrap .i64 (8 * ((i % 8 : Nat) : Int)) = ((8 * (i % 8) : Nat) : Int) := by
   rw [show (8 * ((i % 8 : Nat) : Int)) = ((8 * (i % 8) : Nat) : Int) from by omega, kn (by omega)]
  have hlen : (padD B ((bs.length + 7) / 8) (num 256 (bs.reverse.take i))).length = (bs.length + 7) / 8 := kn5 _ _ _
  have q := kv (n := (bs.length + 7) / 8) (i := i / 8) hm
  rw [kt7]
  refine Runs.ifT (by rw [decide_eq_true_eq]; omega) ?_
  rw [hd, hm8, h8, hsub, show t.len = (bs.length + 7) / 8 from by rw [v.nats.len, hlen]]
  refine Runs.step (v.idx hlen q) ?_
  refine Runs.step (v.rd hlen q (kb _ _)) ?_
  refine Runs.step e1 ?_
  refine Runs.step e2 ?_
  refine Runs.ifF (by rw [decide_eq_false_iff_not]; omega) ?_
  refine Runs.step (v.idx hlen q) ?_
  have hi' : i < bs.reverse.length := by simp; omega
  have hrev : bs.reverse[i] = bs[bs.length - 1 - i] := by rw [List.getElem_reverse]
  have hv0 : num 256 (bs.reverse.take i) < 2 ^ (8 * (i % 8)) * B ^ (i / 8) := by
   rw [← pow256]
   have := kog (bs := bs.reverse.take i) (fun b hb => lt b (List.mem_reverse.1 (List.mem_of_mem_take hb)))
   rwa [List.length_take, Nat.min_eq_left (by omega)] at this
  have hs8 : (i % 8) ≤ 7 := by omega
  have hc : bs[bs.length - 1 - i] * 2 ^ (8 * (i % 8)) + 2 ^ (8 * (i % 8)) ≤ B := by
   have h1 : (bs[bs.length - 1 - i] + 1) * 2 ^ (8 * (i % 8)) ≤ 256 * 2 ^ (8 * 7) := Nat.mul_le_mul (by omega) (Nat.pow_le_pow_right (by decide) (by omega))
   rw [Nat.add_mul, Nat.one_mul] at h1
   have : 256 * 2 ^ (8 * 7) = B := by decide
   omega
  obtain ⟨p1, p2⟩ := kuv (i / 8) ((bs.length + 7) / 8) (v := num 256 (bs.reverse.take i)) (c := bs[bs.length - 1 - i]) (s := 8 * (i % 8)) hm hv0 hc
  generalize hG : (padD B ((bs.length + 7) / 8) (num 256 (bs.reverse.take i))).getD (i / 8) 0 = old at *
  have hpos : 0 < 2 ^ (8 * (i % 8)) := Nat.pow_pos (by decide)
  have wb : IntKind.wrap .u64 ((bs[bs.length - 1 - i] : Nat) : Int) = ((bs[bs.length - 1 - i] : Nat) : Int) := by rw [wrapU]; omega
  have hB : B = 18446744073709551616 := rfl
  have hor : ior .u64 (old : Int) (ishl .u64 (IntKind.wrap .u64 ((bs[bs.length - 1 - i] : Nat) : Int)) ((8 * (i % 8) : Nat) : Int)) = ((old + bs[bs.length - 1 - i] * 2 ^ (8 * (i % 8)) : Nat) : Int) := by
   have hlt : bs[bs.length - 1 - i] * 2 ^ (8 * (i % 8)) < 18446744073709551616 := by omega
   rw [wb, kiv _ _ (by omega), Nat.mod_eq_of_lt hlt, ksg, kng hlt p2 (by omega), Nat.add_comm]
  rw [hor]
  have z : u64P ((old + bs[bs.length - 1 - i] * 2 ^ (8 * (i % 8)) : Nat) : Int) = some (old + bs[bs.length - 1 - i] * 2 ^ (8 * (i % 8))) := kba (by omega)
  refine Runs.vput v hlen q z fun h10 v10 u10 => ?_
  rw [kq (by omega)]
  refine ih (i + 1) (by omega) (g.updr hit u10) ?_
  rw [p1] at v10
  have e5 : num 256 (bs.reverse.take (i + 1)) = num 256 (bs.reverse.take i) + bs[bs.length - 1 - i] * 2 ^ (8 * (i % 8)) * B ^ (i / 8) := by
   rw [kbx 256 hi', hrev, pow256, Nat.mul_comm (2 ^ (8 * (i % 8)) * B ^ (i / 8)), Nat.mul_assoc]
  rw [e5]
  exact v10
theorem k6c {h : AH} {S : Fp} {s : Sl} {bs : List Nat} (n : Sq Ef.byte h S s bs) (hl : bs.length ≤ 512) : Runs (go (.fn F.ke1 [s.v]) h) fun v h' => ∃ s1 : Sl, v = .tup [s1.v, .int .i64 0] ∧ Nats h' s1 (digs B (beN bs)) ∧ Grow h h' ∧ Own h s1 := by
 obtain ⟨r, e, hr⟩ := kt4 n bs.length 0 (by omega)
 rw [k6q, kbbx, n.len]
 refine Runs.step e ?_
 refine Runs.step (seen (kb _ _)) ?_
 rcases hr with ⟨rfl, h0⟩ | ⟨j, rfl, hj, h0⟩
 ·refine Runs.ifT rfl ?_
  rw [k85 fun t ht => h0 t ht (Nat.zero_le _), kbl]
  exact Runs.ret ⟨⟨none, 0, .is 0⟩, rfl, Nats.nil _, Grow.refl _, Own.nil _⟩
 ·refine Runs.ifF (by rw [decide_eq_false_iff_not]; omega) ?_
  obtain ⟨s4, e4, n4, -⟩ := n.cut (l := j) (m := bs.length) (by omega) (Nat.le_refl _)
  have e4 : cutSl s (j : Int) (bs.length : Int) 1 = some s4 := e4
  have hd : (bs.drop j).take (bs.length - j) = bs.drop j := List.take_of_length_le (by simp)
  rw [hd] at n4
  refine Runs.step e4 ?_
  rw [n4.len]
  have l4 : (bs.drop j).length = bs.length - j := by simp
  refine Runs.ifF (by rw [decide_eq_false_iff_not]; omega) ?_
  have hw : IntKind.wrap .i64 (Int.tdiv (IntKind.wrap .i64 (((bs.drop j).length : Int) + 7)) 8) = ((((bs.drop j).length + 7) / 8 : Nat) : Int) := by
   rw [show (((bs.drop j).length : Int) + 7) = (((bs.drop j).length + 7 : Nat) : Int) from by omega, kn (by omega), show Int.tdiv (((bs.drop j).length + 7 : Nat) : Int) 8 = ((((bs.drop j).length + 7) / 8 : Nat) : Int) from rfl, kn (by omega)]
  rw [hw]
  refine Runs.mk (kcz (by omega)) kb5 fun t h5 v5 g5 => ?_
  have vz : List.replicate (((bs.drop j).length + 7) / 8) 0 = padD B (((bs.drop j).length + 7) / 8) (num 256 ((bs.drop j).reverse.take 0)) := by
   rw [List.take_zero]
   generalize ((bs.drop j).length + 7) / 8 = m
   induction m with
   | zero => rfl
   | succ m ih => rw [List.replicate_succ, ih]; simp [padD, num]
  rw [vz] at v5
  refine (k1f n4 (by omega) (Nat.le_refl _) (bs.drop j).length 0 (by omega) g5 v5).imp fun v h' ⟨s1, a, b, c, d⟩ => ⟨s1, a, ?_, c, d⟩
  rw [kpk (fun t ht h1 => h0 t ht (Nat.zero_le _) h1) (by omega)] at b
  exact b
end Go.Ab

/- squeezed -/
set_option linter.unusedVariables false
set_option linter.unusedSimpArgs false
set_option maxRecDepth 10000
namespace Go.Ab
open Go.Proofs Go.Num
theorem k7o {n : Nat} (h : n ≤ 1000000) : growOk Pg n T.ke 1 = true := by
 unfold growOk
 rw [kvt, kb5]
 have h1 : n * 8 ≤ kw := by simp only [kw]; omega
 have h2 : n ≤ kw := by simp only [kw]; omega
 simp [h1, h2]
theorem krl (L : Nat) : 256 ^ L ≤ B ^ ((L + 7) / 8) := by
 rw [show B = 256 ^ 8 from by decide, ← Nat.pow_mul]
 exact Nat.pow_le_pow_right (by decide) (by omega)
theorem pow_D (u : Nat) : 256 ^ (2 * u) = D ^ u := by rw [show D = 256 ^ 2 from by decide, ← Nat.pow_mul]
def ReadP (h0 : AH) (X : Nat) (v : AV) (h' : AH) : Prop := ∃ s1 : Sl, v = .tup [s1.v, .int .i64 0] ∧ Nats h' s1 (digs B X) ∧ Grow h0 h' ∧ Own h0 s1
theorem k9l {h0 : AH} {S : Fp} {s : Sl} {bs : List Nat} (n0 : Sq Ef.byte h0 S s bs) (hl : bs.length ≤ 512) {j : Nat} (hj : j ≤ bs.length) : ∀ (f u : Nat), bs.length - j ≤ 2 * u + 2 * f → 2 * u ≤ bs.length - j + 1 → ∀ {h : AH} {d : Sl} {ds : List Nat}, Mine h0 h d T.ke 1 (ds.map u64) → ds.length = u → (∀ x ∈ ds, x < D) → num D ds = num 256 (bs.reverse.take (min (2 * u) (bs.length - j))) →
  Runs (go (.pt F.kb4 Td.ker [(0, s.v), (4, .int .i64 (j : Int)), (5, d.v), (6, .int .i64 ((bs.length : Int) - 1 - ((2 * u : Nat) : Int)))]) h) (ReadP h0 (beN (bs.drop j))) := by
 have lt := kmr n0
 have ltr : ∀ b ∈ bs.reverse, b < 256 := fun b hb => lt b (List.mem_reverse.1 hb)
 have hrl : bs.reverse.length = bs.length := List.length_reverse
 have nats : ∀ {h : AH} {d : Sl} {ds : List Nat}, Mine h0 h d T.ke 1 (ds.map u64) → ds.length ≤ 1000 → (∀ x ∈ ds, x < D) → Nats h d ds := fun M l hx => ⟨M.cells, fun x hxx => Nat.lt_trans (hx x hxx) (by decide), by omega⟩
 have fin : ∀ {u : Nat} {h : AH} {d : Sl} {ds : List Nat}, bs.length - j ≤ 2 * u → Mine h0 h d T.ke 1 (ds.map u64) → ds.length ≤ 1000 → (∀ x ∈ ds, x < D) → num D ds = num 256 (bs.reverse.take (min (2 * u) (bs.length - j))) →
   Runs (go (.pt F.kb4 Td.ker [(0, s.v), (4, .int .i64 (j : Int)), (5, d.v), (6, .int .i64 ((bs.length : Int) - 1 - ((2 * u : Nat) : Int)))]) h) (ReadP h0 (beN (bs.drop j))) := fun {u h d ds} hu M l hx e => by
  rw [kx2]
  refine Runs.ifF (by rw [decide_eq_false_iff_not]; omega) ?_
  rw [Nat.min_eq_right hu] at e
  have e' : num D ds = beN (bs.drop j) := by
   rw [e]
   unfold beN
   rw [List.reverse_drop]
  have hX : beN (bs.drop j) < B ^ 64 := by
   have h1 := kog (bs := (bs.drop j).reverse) (fun b hb => lt b (List.mem_of_mem_drop (List.mem_reverse.1 hb)))
   rw [List.length_reverse] at h1
   exact Nat.lt_of_lt_of_le h1 (Nat.le_trans (krl _) (Nat.pow_le_pow_right (by decide) (by rw [List.length_drop]; omega)))
  have nd := nats M l hx
  obtain ⟨s1, e1, n1, o1⟩ := kgz nd hx
  rw [e'] at n1
  refine Runs.step e1 ?_
  refine Runs.step (seen (asSl_v _)) ?_
  have dl := kj2 hX
  obtain ⟨s2, h2, e2, n2, g2, o2⟩ := kiq n1 (ku D2 _) (kbn D2 _) (by omega)
  rw [kf D2, knf hX] at e2 n2
  refine Runs.step e2 ?_
  refine Runs.step rfl ?_
  refine Runs.step (seen (asSl_v _)) ?_
  refine Runs.step (seen (kb _ _)) ?_
  exact Runs.ret ⟨s2, rfl, n2, M.grow.trans g2, o2.of_le M.grow⟩
 intro f
 induction f with
 | zero =>
  intro u h1 h2 h d ds M l hx e
  exact fin (by omega) M (by omega) hx e
 | succ f ih =>
  intro u h1 h2 h d ds M l hx e
  by_cases hu : bs.length - j ≤ 2 * u
  ·exact fin hu M (by omega) hx e
  ·have hp : bs.length - 1 - 2 * u < bs.length := by omega
   have hidx : (bs.length : Int) - 1 - ((2 * u : Nat) : Int) = ((bs.length - 1 - 2 * u : Nat) : Int) := by omega
   obtain ⟨r, e1, e2, e3⟩ := kg3 (n0.grow M.grow) hp
   have hsh := n0.short
   rw [kx2, hidx]
   refine Runs.ifT (by rw [decide_eq_true_eq]; omega) ?_
   refine Runs.step e1 (Runs.step e2 ?_)
   have w1 : IntKind.wrap .i64 (((bs.length - 1 - 2 * u : Nat) : Int) - 1) = ((bs.length - 1 - 2 * u : Nat) : Int) - 1 := by rw [IntKind.wrap_i64]; omega
   have w2 : IntKind.wrap .i64 (((bs.length - 1 - 2 * u : Nat) : Int) - 2) = (bs.length : Int) - 1 - ((2 * (u + 1) : Nat) : Int) := by rw [IntKind.wrap_i64]; omega
   rw [w1, w2]
   have wb : ∀ {b : Nat}, b < 256 → IntKind.wrap .u64 (b : Int) = (b : Int) := fun hb => by rw [wrapU]; omega
   have hget : bs.reverse[2 * u]'(by omega) = bs[bs.length - 1 - 2 * u] := by rw [List.getElem_reverse]
   have mn : min (2 * u) (bs.length - j) = 2 * u := by omega
   rw [mn] at e
   have hT : num 256 (bs.reverse.take (2 * u + 1)) = num 256 (bs.reverse.take (2 * u)) + D ^ u * bs[bs.length - 1 - 2 * u] := by
    rw [kbx 256 (by omega), hget, pow_D]
   have push : ∀ {x : Nat}, x < D → num 256 (bs.reverse.take (min (2 * (u + 1)) (bs.length - j))) = num 256 (bs.reverse.take (2 * u)) + D ^ u * x → ∀ {K : Sl → AV × AH → Option (AV × AH)}, (∀ (s' : Sl) (q : AV × AH), Mine h0 q.2 s' T.ke 1 ((ds ++ [x]).map u64) → Runs (K s' q) (ReadP h0 (beN (bs.drop j)))) →
     Runs (newK h (.cells [.int .u64 (x : Int)] T.ke) fun h9r h9 => (ky Pg T.ke ((⟨some h9r, 1, .is 1⟩ : Sl).v) h9).bind fun p11 => (ko Pg d p11.1 p11.2 T.ke 1 h9).bind fun q10 => (AV.asSl q10.1).bind fun l12 => K l12 q10) (ReadP h0 (beN (bs.drop j))) := fun {x} hxD hn {K} H => by
    refine Runs.new fun h9 b9 g9 => ?_
    refine Runs.step (kye (n := 1) b9 (by rw [kh1]; rfl)) ?_
    have dl : d.len = u := by
     have := M.cells.len
     simpa [l] using this
    obtain ⟨s', h10, e10, l10, M10, -⟩ := (M.grow' g9).append (P := Pg) (n := 1) (cs := [.int .u64 (x : Int)]) (by decide) rfl (k7o (by rw [dl]; omega))
    refine Runs.step e10 ?_
    refine Runs.step (asSl_v _) ?_
    exact H s' _ (by rw [List.map_append]; exact M10)
   have next : ∀ {x : Nat} {h' : AH} {s' : Sl}, x < D → num 256 (bs.reverse.take (min (2 * (u + 1)) (bs.length - j))) = num 256 (bs.reverse.take (2 * u)) + D ^ u * x → Mine h0 h' s' T.ke 1 ((ds ++ [x]).map u64) →
     Runs (go (.pt F.kb4 Td.ker [(0, s.v), (4, .int .i64 (j : Int)), (5, s'.v), (6, .int .i64 ((bs.length : Int) - 1 - ((2 * (u + 1) : Nat) : Int)))]) h') (ReadP h0 (beN (bs.drop j))) := fun {x h' s'} hxD hn M' =>
    ih (u + 1) (by omega) (by omega) M' (by simp [l]) (fun y hy => by
     rcases List.mem_append.1 hy with h | h
     ·exact hx y h
     ·rw [List.mem_singleton.1 h]; exact hxD) (by
     rw [kbs, e, l, hn]
     simp [num])
   have DD : D = 65536 := rfl
   refine Runs.cond (fun k2 => ?_) (fun k2 => ?_)
   ·rw [decide_eq_true_eq] at k2
    have hp2 : bs.length - 2 - 2 * u < bs.length := by omega
    obtain ⟨r2, f1, f2, f3⟩ := kg3 (n0.grow M.grow) hp2
    have hi2 : ((bs.length - 1 - 2 * u : Nat) : Int) - 1 = ((bs.length - 2 - 2 * u : Nat) : Int) := by omega
    rw [hi2]
    refine Runs.step f1 (Runs.step f2 ?_)
    have hget2 : bs.reverse[2 * u + 1]'(by omega) = bs[bs.length - 2 - 2 * u] := by
     rw [List.getElem_reverse]
     congr 1
     omega
    have hv : IntKind.wrap .u64 (IntKind.wrap .u64 ((bs[bs.length - 1 - 2 * u] : Nat) : Int) + IntKind.wrap .u64 (256 * IntKind.wrap .u64 ((bs[bs.length - 2 - 2 * u] : Nat) : Int))) = ((bs[bs.length - 1 - 2 * u] + 256 * bs[bs.length - 2 - 2 * u] : Nat) : Int) := by
     rw [wb e3, wb f3]
     generalize bs[bs.length - 1 - 2 * u] = b1 at *
     generalize bs[bs.length - 2 - 2 * u] = b2 at *
     have a1 : IntKind.wrap .u64 (256 * (b2 : Int)) = ((256 * b2 : Nat) : Int) := by
      rw [show (256 * (b2 : Int)) = ((256 * b2 : Nat) : Int) from by omega, wrapU]
      omega
     rw [a1, show ((b1 : Int) + ((256 * b2 : Nat) : Int)) = ((b1 + 256 * b2 : Nat) : Int) from by omega, wrapU]
     omega
    rw [hv]
    have hn : num 256 (bs.reverse.take (min (2 * (u + 1)) (bs.length - j))) = num 256 (bs.reverse.take (2 * u)) + D ^ u * (bs[bs.length - 1 - 2 * u] + 256 * bs[bs.length - 2 - 2 * u]) := by
     rw [show min (2 * (u + 1)) (bs.length - j) = 2 * u + 1 + 1 from by omega, kbx 256 (by omega), hget2, hT, Nat.pow_succ, pow_D, Nat.mul_add, Nat.add_assoc, Nat.mul_assoc]
    exact push (by rw [DD]; omega) hn fun s' q M' => next (by rw [DD]; omega) hn M'
   ·rw [decide_eq_false_iff_not] at k2
    rw [wb e3]
    have hn : num 256 (bs.reverse.take (min (2 * (u + 1)) (bs.length - j))) = num 256 (bs.reverse.take (2 * u)) + D ^ u * bs[bs.length - 1 - 2 * u] := by
     rw [show min (2 * (u + 1)) (bs.length - j) = 2 * u + 1 from by omega, hT]
    exact push (by rw [DD]; omega) hn fun s' q M' => next (by rw [DD]; omega) hn M'
theorem kbcs {h : AH} {S : Fp} {s : Sl} {bs : List Nat} (n : Sq Ef.byte h S s bs) (hl : bs.length ≤ 512) : Runs (go (.fn F.kb4 [s.v]) h) (ReadP h (beN bs)) := by
 have start : ∀ j, j ≤ bs.length → (∀ t (ht : t < bs.length), t < j → bs[t] = 0) → Runs (go (.pt F.kb4 Td.ker [(0, s.v), (4, .int .i64 (j : Int)), (5, (⟨none, 0, .is 0⟩ : Sl).v), (6, .int .i64 (IntKind.wrap .i64 ((s.len : Int) - 1)))]) h) (ReadP h (beN bs)) := fun j hj h0 => by
  have hw : IntKind.wrap .i64 ((s.len : Int) - 1) = (bs.length : Int) - 1 - ((2 * 0 : Nat) : Int) := by rw [n.len, IntKind.wrap_i64]; omega
  rw [hw, ← kpk h0 hj]
  exact k9l n hl hj bs.length 0 (by omega) (by omega) (ds := []) (Mine.nil h T.ke 1) rfl (fun x hx => by cases hx) (by simp [num])
 have loop : ∀ (k i : Nat), i + k = bs.length → (∀ t (ht : t < bs.length), t < i → bs[t] = 0) → Runs (go (.pt F.kb4 Td.kn0 [(0, s.v), (4, .int .i64 (i : Int))]) h) (ReadP h (beN bs)) := by
  intro k
  induction k with
  | zero =>
   intro i hi h0
   rw [kuo]
   refine Runs.ifF (by rw [decide_eq_false_iff_not, n.len]; omega) ?_
   refine Runs.ifF (by rw [decide_eq_false_iff_not, n.len, IntKind.wrap_i64]; omega) ?_
   exact start i (by omega) h0
  | succ k ih =>
   intro i hi h0
   have hlt : i < bs.length := by omega
   obtain ⟨r, e1, e2, e3⟩ := kg3 n hlt
   rw [kuo]
   refine Runs.ifT (by rw [decide_eq_true_eq, n.len]; omega) ?_
   refine Runs.step e1 (Runs.step e2 ?_)
   refine Runs.cond (fun kz => ?_) (fun kz => ?_)
   ·rw [decide_eq_true_eq] at kz
    rw [kq (by omega)]
    refine ih (i + 1) (by omega) fun t ht h' => ?_
    rcases Nat.lt_or_ge t i with h2 | h2
    ·exact h0 t ht h2
    ·have : t = i := by omega
     subst this
     omega
   ·refine Runs.ifF (by rw [decide_eq_false_iff_not, n.len, IntKind.wrap_i64]; omega) ?_
    exact start i (by omega) h0
 rw [kbb9]
 exact loop bs.length 0 (by omega) fun t ht h' => by omega
end Go.Ab

/- squeezed -/
set_option linter.unusedVariables false
set_option linter.unusedSimpArgs false
set_option maxRecDepth 10000
namespace Go.Ab
open Go.Proofs Go.Num
theorem kqt {n : Nat} (h : n ≤ 1000000) : growOk Pg n T.kbu 1 = true := by
 unfold growOk
 rw [kbb2, k2t]
 have h1 : n * 1 ≤ kw := by simp only [kw]; omega
 have h2 : n ≤ kw := by simp only [kw]; omega
 simp [h1, h2]
def Fp.but (S : Fp) (i : Nat) : Fp := fun j => S j ∧ j ≠ i
def Fp.rng (a b : Nat) : Fp := fun j => a ≤ j ∧ j < b
theorem Dis.but {S : Fp} {i : Nat} : Dis (Fp.but S i) (fun j => j = i) := fun _ a b => a.2 b
theorem GF.byte {e : TypeId} {h : AH} {S : Fp} {s : Sl} : ∀ {i : Option Nat} {xs : List Nat}, GF Ef.byte e h S s i xs → GF Ef.byte e h Fp.no s i xs
 | .none, _, v => v
 | .some k, _, ⟨l, a, r, ln, rows, e', b, c, r2⟩ => ⟨l, Fp.not_no, r, ln, rows, e', b, c, r2.imp fun _ _ x => x⟩
theorem Sq.byte {h : AH} {S T : Fp} {s : Sl} {xs : List Nat} (n : Sq Ef.byte h S s xs) (f : ∀ j o, s.ref = some (.new j o) → T j) : Sq Ef.byte h T s xs := by
 obtain ⟨⟨rows, c, a⟩, l, sh, at'⟩ := n
 exact ⟨⟨rows, c, a.imp fun _ _ x => x⟩, l, sh, .inr f⟩
theorem kuq {h : AH} {S : Fp} {s : Sl} {bs : List Nat} (n : Sq Ef.byte h S s bs) (hl : bs.length ≤ 1000000) : ∃ (s' : Sl) (i : Option Nat) (h' : AH), go (.fn F.kmq [s.v]) h = some (s'.v, h') ∧ GF Ef.byte T.kbu h' Fp.no s' i bs ∧ Grow h h' ∧ LeO h.blks.size i := by
 have := Runs.clone (P := Pg) (elem := T.kbu) n kor (kqt hl)
 obtain ⟨_, h', e, s', i, rfl, v, g, l⟩ := this
 exact ⟨s', i, h', (kbbf s h).trans e, v.byte, g, l⟩
def TapeA (h : AH) (S : Fp) (i : Nat) (bs : List Nat) : Prop := (∀ j, S j → j < h.blks.size) ∧ S i ∧ bs.length ≤ 65536 ∧ ∃ s : Sl, h.has i [s.v] T.ku6 ∧ Sq Ef.byte h (Fp.but S i) s bs
def TapeB (h : AH) (S : Fp) (i : Nat) (bs : List Nat) : Prop := (∀ j, S j → j < h.blks.size) ∧ S i ∧ ∃ (s : Sl) (all : List Nat) (u : Nat), all.length ≤ 65536 ∧ u ≤ all.length ∧ bs = all.drop u ∧ h.has i [s.v, .int .i64 (u : Int)] T.kwt ∧ Sq Ef.byte h (Fp.but S i) s all
theorem TapeA.md {h h' : AH} {S U : Fp} {i : Nat} {bs : List Nat} (t : TapeA h S i bs) (m : Md U h h') (d : Dis S U) : TapeA h' S i bs := by
 obtain ⟨z, a, l, s, b, n⟩ := t
 exact ⟨fun j k => Nat.lt_of_lt_of_le (z j k) m.size, a, l, s, m.has b (fun k => d i a k), n.md m (d.mono (fun j x => x.1) fun j x => x)⟩
theorem TapeB.md {h h' : AH} {S U : Fp} {i : Nat} {bs : List Nat} (t : TapeB h S i bs) (m : Md U h h') (d : Dis S U) : TapeB h' S i bs := by
 obtain ⟨z, a, s, all, u, l, hu, e, b, n⟩ := t
 exact ⟨fun j k => Nat.lt_of_lt_of_le (z j k) m.size, a, s, all, u, l, hu, e, m.has b (fun k => d i a k), n.md m (d.mono (fun j x => x.1) fun j x => x)⟩
theorem TapeA.grow {h h' : AH} {S : Fp} {i : Nat} {bs : List Nat} (t : TapeA h S i bs) (g : Grow h h') : TapeA h' S i bs := t.md (g.md Fp.no) Dis.no
theorem TapeB.grow {h h' : AH} {S : Fp} {i : Nat} {bs : List Nat} (t : TapeB h S i bs) (g : Grow h h') : TapeB h' S i bs := t.md (g.md Fp.no) Dis.no
theorem TapeA.lt {h : AH} {S : Fp} {i : Nat} {bs : List Nat} (t : TapeA h S i bs) : i < h.blks.size := by
 obtain ⟨z, a, l, s, b, n⟩ := t
 exact b.lt
theorem TapeB.lt {h : AH} {S : Fp} {i : Nat} {bs : List Nat} (t : TapeB h S i bs) : i < h.blks.size := by
 obtain ⟨z, a, s, all, u, l, hu, e, b, n⟩ := t
 exact b.lt
theorem kba3 {h : AH} {S : Fp} {s : Sl} {bs : List Nat} (n : Sq Ef.byte h S s bs) : Runs (go (.fn F.kq3 [s.v]) h) fun v h' => Grow h h' ∧
  (65536 < bs.length ∧ v = .tup [.ptr none, .int .i64 1] ∨ bs.length ≤ 65536 ∧ ∃ i, v = .tup [.ptr (some (.new i 0)), .int .i64 0] ∧ TapeA h' (Fp.rng h.blks.size h'.blks.size) i bs) := by
 rw [k5h, n.len]
 refine Runs.cond (fun k => ?_) (fun k => ?_)
 ·rw [decide_eq_true_eq] at k
  exact Runs.ret ⟨Grow.refl h, .inl ⟨by omega, rfl⟩⟩
 ·rw [decide_eq_false_iff_not] at k
  obtain ⟨s', i, h1, e, v, g, l⟩ := kuq n (by omega)
  refine Runs.step e (Runs.step (seen (asSl_v _)) ?_)
  refine Runs.new fun h2 b2 g2 => Runs.ret ⟨g.trans g2, .inr ⟨by omega, h1.blks.size, rfl, fun j k => k.2, ⟨g.size, b2.lt⟩, by omega, s', b2, ?_⟩⟩
  refine ((v.sq).grow g2).byte fun j o hj => ?_
  have own := v.own (h0 := h) l
  obtain ⟨i', o', e1, e2⟩ := own _ hj
  cases e1
  have hi := (v.lt : LtO h1.blks.size i)
  have hji : i = some j := by
   cases i with
   | none => rw [v.2.1] at hj; cases hj
   | some k =>
    have := v.2.2.1
    rw [hj] at this
    cases this
    rfl
  subst hji
  have hj1 : j < h1.blks.size := hi
  have := g2.size
  dsimp only at this ⊢
  exact ⟨⟨e2, by omega⟩, by omega⟩
theorem kv9 {h : AH} {S : Fp} {s : Sl} {bs : List Nat} (n : Sq Ef.byte h S s bs) : Runs (go (.fn F.kpt [s.v]) h) fun v h' => Grow h h' ∧
  (65536 < bs.length ∧ v = .tup [.ptr none, .int .i64 1] ∨ bs.length ≤ 65536 ∧ ∃ i, v = .tup [.ptr (some (.new i 0)), .int .i64 0] ∧ TapeB h' (Fp.rng h.blks.size h'.blks.size) i bs) := by
 rw [k6e, n.len]
 refine Runs.cond (fun k => ?_) (fun k => ?_)
 ·rw [decide_eq_true_eq] at k
  exact Runs.ret ⟨Grow.refl h, .inl ⟨by omega, rfl⟩⟩
 ·rw [decide_eq_false_iff_not] at k
  refine Runs.new fun h1 b1 g1 => ?_
  obtain ⟨p, s', i, h2, e1, e2, v, g2, l⟩ := kpi (P := Pg) (n.bound.grow g1) kor (kqt (by omega)) b1 fun j x => x.2
  refine Runs.step e1 (Runs.step e2 (Runs.step (asSl_v _) ?_))
  refine Runs.new fun h3 b3 g3 => Runs.ret ⟨(g1.trans g2).trans g3, .inr ⟨by omega, h2.blks.size, rfl, fun j k => k.2, ⟨(g1.trans g2).size, b3.lt⟩, s', bs, 0, by omega, Nat.zero_le _, rfl, b3, ?_⟩⟩
  have hi : i < h2.blks.size := v.lt
  refine ((v.sq).grow g3).byte fun j o hj => ?_
  have := v.2.2.1
  rw [hj] at this
  cases this
  have k3 := g3.size
  have k1 := g1.size
  have k2 := g2.size
  dsimp only at k1 k2 k3 ⊢
  exact ⟨⟨l, by omega⟩, by omega⟩
def TakeP (tape : AH → Fp → Nat → List Nat → Prop) (h : AH) (S : Fp) (i : Nat) (bs : List Nat) (k : Nat) (v : AV) (h' : AH) : Prop :=
 (bs.length < k ∧ v = .tup [(⟨none, 0, .is 0⟩ : Sl).v, .int .i64 7] ∧ h' = h) ∨
 (k ≤ bs.length ∧ ∃ (s' : Sl) (o : Option Nat), v = .tup [s'.v, .int .i64 0] ∧ GF Ef.byte T.kbu h' Fp.no s' o (bs.take k) ∧ LeO h.blks.size o ∧ tape h' S i (bs.drop k) ∧ Md (fun j => j = i) h h')
theorem kwa {h : AH} {S : Fp} {i : Nat} {bs : List Nat} (t : TapeA h S i bs) {k : Nat} (hk : k ≤ 65536) : Runs (go (.fn F.kc1 [.ptr (some (.new i 0)), .int .i64 (k : Int)]) h) (TakeP TapeA h S i bs k) := by
 obtain ⟨hz, hS, hlen, s, b, n⟩ := t
 rw [k0a]
 refine Runs.ifF (by rw [decide_eq_false_iff_not]; omega) ?_
 refine Runs.ifF (by rw [decide_eq_false_iff_not]; omega) ?_
 refine Runs.step rfl ?_
 refine Runs.step (b.rd 0 rfl (asSl_v _)) ?_
 rw [n.len]
 refine Runs.cond (fun c => ?_) (fun c => ?_)
 ·rw [decide_eq_true_eq] at c
  exact Runs.ret (.inl ⟨by omega, rfl, rfl⟩)
 ·rw [decide_eq_false_iff_not] at c
  refine Runs.step rfl ?_
  refine Runs.step (b.rd 0 rfl (asSl_v _)) ?_
  obtain ⟨s1, e1, n1, -⟩ := n.cut (l := 0) (m := k) (by omega) (by omega)
  refine Runs.step e1 ?_
  rw [List.drop_zero, Nat.sub_zero] at n1
  obtain ⟨s2, o, h2, e2, v2, g2, l2⟩ := kuq n1 (by rw [List.length_take]; omega)
  refine Runs.step e2 (Runs.step (seen (asSl_v _)) ?_)
  refine Runs.step rfl ?_
  have b2 := g2.has b
  refine Runs.step (b2.rd 0 rfl (asSl_v _)) ?_
  obtain ⟨s3, e3, n3, -⟩ := n.cut (l := k) (m := bs.length) (by omega) (by omega)
  rw [n.len]
  refine Runs.step e3 ?_
  refine Runs.step rfl ?_
  refine Runs.putAt b2 (cs' := [s3.v]) (by simp) (by simp) fun h4 b4 u4 => Runs.ret (.inr ⟨by omega, s2, o, rfl, ?_, l2, ⟨fun j k => Nat.lt_of_lt_of_le (hz j k) (Nat.le_trans g2.size u4.size), hS, by rw [List.length_drop]; omega, s3, b4, ?_⟩, g2.thenM (u4.md rfl)⟩)
  ·refine GF.md (u4.md (T := fun j => j = i) rfl) Dis.no.symm v2 fun k' hk' he => ?_
   subst hk'
   have : h.blks.size ≤ k' := l2
   have := b.lt
   omega
  ·rw [show (bs.drop k).take (bs.length - k) = bs.drop k from List.take_of_length_le (by simp)] at n3
   exact (n3.grow g2).md (u4.md (T := fun j => j = i) rfl) Dis.but
theorem kx9 {h : AH} {S : Fp} {i : Nat} {bs : List Nat} (t : TapeB h S i bs) {k : Nat} (hk : k ≤ 65536) : Runs (go (.fn F.kqe [.ptr (some (.new i 0)), .int .i64 (k : Int)]) h) (TakeP TapeB h S i bs k) := by
 obtain ⟨hz, hS, s, all, u, hlen, hu, rfl, b, n⟩ := t
 rw [k3p]
 refine Runs.ifF (by rw [decide_eq_false_iff_not]; omega) ?_
 refine Runs.ifF (by rw [decide_eq_false_iff_not]; omega) ?_
 refine Runs.step rfl ?_
 refine Runs.step (b.rd 0 rfl (asSl_v _)) ?_
 refine Runs.step rfl ?_
 refine Runs.step (b.rd 1 rfl (kb _ _)) ?_
 have hw : IntKind.wrap .i64 ((s.len : Int) - (u : Int)) = ((all.drop u).length : Int) := by rw [n.len, IntKind.wrap_i64, List.length_drop]; omega
 rw [hw]
 have hd : (all.drop u).length = all.length - u := by simp
 refine Runs.cond (fun c => ?_) (fun c => ?_)
 ·rw [decide_eq_true_eq] at c
  exact Runs.ret (.inl ⟨by omega, rfl, rfl⟩)
 ·rw [decide_eq_false_iff_not] at c
  refine Runs.step rfl (Runs.step (b.rd 0 rfl (asSl_v _)) ?_)
  refine Runs.step rfl (Runs.step (b.rd 1 rfl (kb _ _)) ?_)
  refine Runs.step rfl (Runs.step (b.rd 1 rfl (kb _ _)) ?_)
  have hw2 : IntKind.wrap .i64 ((u : Int) + (k : Int)) = ((u + k : Nat) : Int) := by rw [show ((u : Int) + (k : Int)) = ((u + k : Nat) : Int) from rfl, kn (by omega)]
  rw [hw2]
  obtain ⟨s1, e1, n1, -⟩ := n.cut (l := u) (m := u + k) (by omega) (by omega)
  refine Runs.step e1 ?_
  rw [Nat.add_sub_cancel_left] at n1
  refine Runs.new fun h1 b1 g1 => ?_
  refine Runs.when (g1.same b 1 1) (Runs.when (g1.same b 1 1) (Runs.when (g1.same b 0 1) ?_))
  obtain ⟨p, s2, o, h2, e2, e3, v2, g2, l2⟩ := kpi (P := Pg) (n1.bound.grow g1) kor (kqt (by rw [List.length_take]; omega)) b1 fun j x => x.2
  refine Runs.step e2 (Runs.step e3 (Runs.step (asSl_v _) ?_))
  have b2 := (g1.trans g2).has b
  refine Runs.step rfl (Runs.step (b2.rd 1 rfl (kb _ _)) ?_)
  refine Runs.step rfl ?_
  rw [hw2]
  refine Runs.putAt b2 (cs' := [s.v, .int .i64 ((u + k : Nat) : Int)]) (by simp) (by simp) fun h4 b4 u4 => Runs.ret (.inr ⟨by omega, s2, some o, rfl, ?_, l2, ⟨fun j k => Nat.lt_of_lt_of_le (hz j k) (Nat.le_trans (g1.trans g2).size u4.size), hS, s, all, u + k, hlen, by omega, by rw [List.drop_drop], b4, ?_⟩, (g1.trans g2).thenM (u4.md rfl)⟩)
  ·refine GF.md (u4.md (T := fun j => j = i) rfl) Dis.no.symm v2.byte fun k' hk' he => ?_
   cases hk'
   have := b.lt
   omega
  ·exact (n.grow (g1.trans g2)).md (u4.md (T := fun j => j = i) rfl) Dis.but
end Go.Ab
