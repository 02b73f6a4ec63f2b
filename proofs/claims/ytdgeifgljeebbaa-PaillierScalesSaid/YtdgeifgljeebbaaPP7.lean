/- Layer 2: powers, their walk: printed by wip/tools/walk.py. -/
import Derived.Test.YtdgeifgljeebbaaPS39

set_option linter.unusedVariables false
set_option linter.unusedSimpArgs false
set_option maxRecDepth 10000
namespace Go.Ab
open Go.Proofs Go.Num

inductive mont_Ring_Exp_St
  | fn (x1c0 : List Nat) (z1c1 : Int) (x1c2 : List Nat) (x1c3 : List Nat) (x2 : List Nat) (x3 : List Nat)
  | p7 (x1c0 : List Nat) (z1c1 : Int) (x1c2 : List Nat) (x1c3 : List Nat) (x2 : List Nat) (x4 : List (List Nat)) (x5 : List Nat) (a6 : Int)
  | p12 (x1 : List Nat) (x2c0 : List Nat) (z2c1 : Int) (x2c2 : List Nat) (x2c3 : List Nat) (x3 : List (List Nat)) (x4 : List Nat) (a5 : Int)
  | p16 (x1 : List Nat) (x2c0 : List Nat) (z2c1 : Int) (x2c2 : List Nat) (x2c3 : List Nat) (x3 : List (List Nat)) (x4 : List Nat) (a5 : Int) (a6 : Int) (a7 : Int)

abbrev mont_Ring_Exp_Res := List Nat × Int

noncomputable def mont_Ring_Exp_fn' (x1c0 : List Nat) (z1c1 : Int) (x1c2 : List Nat) (x1c3 : List Nat) (x2 : List Nat) (x3 : List Nat) : Option (mont_Ring_Exp_St ⊕ mont_Ring_Exp_Res) :=
  cond (!((belowF x2 x1c0))) (some (.inr ([], 1))) (cond (!(rt x3)) (some (.inr ([], 1))) (cond (decide ((List.length x3 : Int) > 8)) (some (.inr ([], 1))) ((runP mont_Ring_product_step (.fn x1c0 z1c1 x1c2 x1c3 x2 x1c3)).bind fun p17 => some (.inl (.p7 x1c0 z1c1 x1c2 x1c3 x3 [x1c2] p17 0)))))

noncomputable def mont_Ring_Exp_p7' (x1c0 : List Nat) (z1c1 : Int) (x1c2 : List Nat) (x1c3 : List Nat) (x2 : List Nat) (x4 : List (List Nat)) (x5 : List Nat) (a6 : Int) : Option (mont_Ring_Exp_St ⊕ mont_Ring_Exp_Res) :=
  cond (decide (a6 < 15)) ((atX x4 (IntKind.wrap .i64 ((List.length x4 : Int) - 1))).bind fun y8 => (runP mont_Ring_product_step (.fn x1c0 z1c1 x1c2 x1c3 y8 x5)).bind fun p9 => (need (growOk Pg (List.length x4 + 1) T.api_Nat 1 = true)).bind fun c11 => some (.inl (.p7 x1c0 z1c1 x1c2 x1c3 x2 (x4 ++ [p9]) x5 (IntKind.wrap .i64 (a6 + 1))))) (some (.inl (.p12 x2 x1c0 z1c1 x1c2 x1c3 x4 x1c2 (IntKind.wrap .i64 (Int.tdiv (IntKind.wrap .i64 ((IntKind.wrap .i64 ((((bitsN x2 : Nat) : Int)) + 4)) - 1)) 4)))))

noncomputable def mont_Ring_Exp_p12' (x1 : List Nat) (x2c0 : List Nat) (z2c1 : Int) (x2c2 : List Nat) (x2c3 : List Nat) (x3 : List (List Nat)) (x4 : List Nat) (a5 : Int) : Option (mont_Ring_Exp_St ⊕ mont_Ring_Exp_Res) :=
  cond (decide (a5 > 0)) (some (.inl (.p16 x1 x2c0 z2c1 x2c2 x2c3 x3 x4 a5 0 0))) ((u64P 1).bind fun w8 => (runP mont_Ring_product_step (.fn x2c0 z2c1 x2c2 x2c3 x4 [w8])).bind fun p9 => some (.inr (p9, 0)))

noncomputable def mont_Ring_Exp_p16' (x1 : List Nat) (x2c0 : List Nat) (z2c1 : Int) (x2c2 : List Nat) (x2c3 : List Nat) (x3 : List (List Nat)) (x4 : List Nat) (a5 : Int) (a6 : Int) (a7 : Int) : Option (mont_Ring_Exp_St ⊕ mont_Ring_Exp_Res) :=
  cond (decide (a7 < 4)) ((runP mont_Ring_product_step (.fn x2c0 z2c1 x2c2 x2c3 x4 x4)).bind fun p9 => (need (((IntKind.wrap .i64 ((IntKind.wrap .i64 ((IntKind.wrap .i64 (a5 * 4)) - 1)) - a7)) : Int) ≤ 9223372036854775807)).bind fun c10_0 => cond (((bitN x1 (IntKind.wrap .i64 ((IntKind.wrap .i64 ((IntKind.wrap .i64 (a5 * 4)) - 1)) - a7))))) (cond (decide ((IntKind.wrap .i64 (3 - a7)) < 0)) (none) (some (.inl (.p16 x1 x2c0 z2c1 x2c2 x2c3 x3 p9 a5 (ior .i64 a6 (ishl .i64 1 (IntKind.wrap .i64 (3 - a7)))) (IntKind.wrap .i64 (a7 + 1)))))) (some (.inl (.p16 x1 x2c0 z2c1 x2c2 x2c3 x3 p9 a5 a6 (IntKind.wrap .i64 (a7 + 1)))))) ((atX x3 a6).bind fun y9 => (runP mont_Ring_product_step (.fn x2c0 z2c1 x2c2 x2c3 x4 y9)).bind fun p10 => some (.inl (.p12 x1 x2c0 z2c1 x2c2 x2c3 x3 p10 (IntKind.wrap .i64 (a5 - 1)))))

noncomputable def mont_Ring_Exp_step : mont_Ring_Exp_St → Option (mont_Ring_Exp_St ⊕ mont_Ring_Exp_Res)
  | .fn x1c0 z1c1 x1c2 x1c3 x2 x3 => mont_Ring_Exp_fn' x1c0 z1c1 x1c2 x1c3 x2 x3
  | .p7 x1c0 z1c1 x1c2 x1c3 x2 x4 x5 a6 => mont_Ring_Exp_p7' x1c0 z1c1 x1c2 x1c3 x2 x4 x5 a6
  | .p12 x1 x2c0 z2c1 x2c2 x2c3 x3 x4 a5 => mont_Ring_Exp_p12' x1 x2c0 z2c1 x2c2 x2c3 x3 x4 a5
  | .p16 x1 x2c0 z2c1 x2c2 x2c3 x3 x4 a5 a6 a7 => mont_Ring_Exp_p16' x1 x2c0 z2c1 x2c2 x2c3 x3 x4 a5 a6 a7

@[reducible] def mont_Ring_Exp_post (h0 : AH) (r : mont_Ring_Exp_Res) (v : AV) (h' : AH) : Prop := ∃ s1 : Sl, v = .tup [s1.v, .int .i64 r.2] ∧ Nats h' s1 r.1 ∧ Grow h0 h' ∧ Own h0 s1

def mont_Ring_Exp_At (r : mont_Ring_Exp_Res) : mont_Ring_Exp_St → Prop
  | .fn x1c0 z1c1 x1c2 x1c3 x2 x3 => ∀ {h : AH} {s1c0 : Sl} {s1c2 : Sl} {s1c3 : Sl} {a2 : Sl} {a3 : Sl} {i1 : Nat}, h.has i1 [s1c0.v, .int .u64 z1c1, s1c2.v, s1c3.v] T.mont_Ring → Nats h s1c0 x1c0 → Nats h s1c2 x1c2 → Nats h s1c3 x1c3 → Nats h a2 x2 → Nats h a3 x3 → Runs (go (.fn F.mont_Ring_Exp [.ptr (some (.new i1 0)), a2.v, a3.v]) h) (mont_Ring_Exp_post h r)
  | .p7 x1c0 z1c1 x1c2 x1c3 x2 x4 x5 a6 => ∀ {h0 h : AH} {s1c0 : Sl} {s1c2 : Sl} {s1c3 : Sl} {a2 : Sl} {a4 : Sl} {a5 : Sl} {i4 : Option Nat} {i1 : Nat}, Grow h0 h → h0.has i1 [s1c0.v, .int .u64 z1c1, s1c2.v, s1c3.v] T.mont_Ring → Nats h0 s1c0 x1c0 → Nats h0 s1c2 x1c2 → Nats h0 s1c3 x1c3 → Nats h0 a2 x2 → GO El.nats T.api_Nat h a4 i4 x4 → Nats h a5 x5 → LeO h0.blks.size i4 → AvO a5 x5 i4 → Runs (go (.pt F.mont_Ring_Exp Td.mont_Ring_Exp_7 [(0, .ptr (some (.new i1 0))), (2, a2.v), (8, .func (.func F.mont_Ring_product) [.ptr (some (.new i1 0))] []), (9, a4.v), (10, a5.v), (44, .int .i64 a6)]) h) (mont_Ring_Exp_post h0 r)
  | .p12 x1 x2c0 z2c1 x2c2 x2c3 x3 x4 a5 => ∀ {h0 h : AH} {a1 : Sl} {s2c0 : Sl} {s2c2 : Sl} {s2c3 : Sl} {a3 : Sl} {a4 : Sl} {i2 : Nat}, Grow h0 h → Nats h0 a1 x1 → h0.has i2 [s2c0.v, .int .u64 z2c1, s2c2.v, s2c3.v] T.mont_Ring → Nats h0 s2c0 x2c0 → Nats h0 s2c2 x2c2 → Nats h0 s2c3 x2c3 → Seq El.nats h a3 x3 → Nats h a4 x4 → Runs (go (.pt F.mont_Ring_Exp Td.mont_Ring_Exp_12 [(2, a1.v), (8, .func (.func F.mont_Ring_product) [.ptr (some (.new i2 0))] []), (9, a3.v), (11, a4.v), (12, .int .i64 a5)]) h) (mont_Ring_Exp_post h0 r)
  | .p16 x1 x2c0 z2c1 x2c2 x2c3 x3 x4 a5 a6 a7 => ∀ {h0 h : AH} {a1 : Sl} {s2c0 : Sl} {s2c2 : Sl} {s2c3 : Sl} {a3 : Sl} {a4 : Sl} {i2 : Nat}, Grow h0 h → Nats h0 a1 x1 → h0.has i2 [s2c0.v, .int .u64 z2c1, s2c2.v, s2c3.v] T.mont_Ring → Nats h0 s2c0 x2c0 → Nats h0 s2c2 x2c2 → Nats h0 s2c3 x2c3 → Seq El.nats h a3 x3 → Nats h a4 x4 → Runs (go (.pt F.mont_Ring_Exp Td.mont_Ring_Exp_16 [(2, a1.v), (8, .func (.func F.mont_Ring_product) [.ptr (some (.new i2 0))] []), (9, a3.v), (11, a4.v), (12, .int .i64 a5), (13, .int .i64 a6), (72, .int .i64 a7)]) h) (mont_Ring_Exp_post h0 r)

theorem mont_Ring_Exp_fn_walk {r : mont_Ring_Exp_Res} {o : mont_Ring_Exp_St ⊕ mont_Ring_Exp_Res} {x1c0 : List Nat} {z1c1 : Int} {x1c2 : List Nat} {x1c3 : List Nat} {x2 : List Nat} {x3 : List Nat} (e : mont_Ring_Exp_fn' x1c0 z1c1 x1c2 x1c3 x2 x3 = some o) (good : GoodS (mont_Ring_Exp_At r) r o) : mont_Ring_Exp_At r (.fn x1c0 z1c1 x1c2 x1c3 x2 x3) := by
  intro h s1c0 s1c2 s1c3 a2 a3 i1 b1 n1c0 n1c2 n1c3 n2 n3
  rw [u_mont_Ring_Exp]
  unfold mont_Ring_Exp_fn' at e
  rw [n3.len]
  refine Runs.new fun H4 b4 g4 => ?_
  obtain ⟨_, H5, e5, rfl, g5⟩ := mont_Ring_below_one (g4.has b1) (n1c0.grow g4) (n1c2.grow g4) (n1c3.grow g4) b4 (n2.grow g4)
  refine Runs.step e5 ?_
  refine Runs.step (seen rfl) ?_
  refine Runs.cond (fun k6 => ?_) (fun k6 => ?_)
  · replace e := (condT k6).symm.trans e
    cases e
    cases good
    exact Runs.ret ⟨(⟨none, 0, .is 0⟩ : Sl), rfl, (Nats.nil _), (g4.trans g5), (Own.nil _)⟩
  · replace e := (condF k6).symm.trans e
    refine Runs.step (nat_Right_spec (n3.grow (g4.trans g5))) ?_
    refine Runs.step (seen rfl) ?_
    refine Runs.cond (fun k8 => ?_) (fun k8 => ?_)
    · replace e := (condT k8).symm.trans e
      cases e
      cases good
      exact Runs.ret ⟨(⟨none, 0, .is 0⟩ : Sl), rfl, (Nats.nil _), (g4.trans g5), (Own.nil _)⟩
    · replace e := (condF k8).symm.trans e
      refine Runs.cond (fun k9 => ?_) (fun k9 => ?_)
      · replace e := (condT k9).symm.trans e
        cases e
        cases good
        exact Runs.ret ⟨(⟨none, 0, .is 0⟩ : Sl), rfl, (Nats.nil _), (g4.trans g5), (Own.nil _)⟩
      · replace e := (condF k9).symm.trans e
        refine Runs.step rfl ?_
        refine Runs.step (AH.has.rd ((g4.trans g5).has b1) 2 rfl (asSl_v _)) ?_
        refine Runs.new fun H10 b10 g10 => ?_
        refine Runs.step rfl ?_
        have G11 := ((g4.trans g5).trans g10)
        have b1_12 := G11.has b1
        refine Runs.step (AH.has.rd b1_12 3 rfl (asSl_v _)) ?_
        have n1c0_13 := n1c0.grow G11
        have n1c2_14 := n1c2.grow G11
        have n1c3_15 := n1c3.grow G11
        have n2_16 := n2.grow G11
        obtain ⟨p17, q17, e⟩ := Option.bind_eq_some_iff.1 e
        obtain ⟨_, H17, e17, s17, rfl, n17, g17, o17⟩ := mont_Ring_product_opt b1_12 n1c0_13 n1c2_14 n1c3_15 n2_16 n1c3_15 q17
        refine Runs.step e17 ?_
        refine Runs.step (seen (asSl_v _)) ?_
        cases e
        have G18 := (G11.trans g17)
        exact good G18 b1 n1c0 n1c2 n1c3 n3 (GO.one (g17.has b10) ⟨_, rfl, (n1c2_14.grow g17)⟩ (AvE.nats (i := some (H5.blks.size)) (Av.of_base n1c2 (Nat.le_trans ((g4.trans g5)).size (Nat.le_refl _))))) n17 (Nat.le_trans ((g4.trans g5)).size (Nat.le_refl _)) (Av.of_own o17 (b10).lt)

theorem mont_Ring_Exp_p7_walk {r : mont_Ring_Exp_Res} {o : mont_Ring_Exp_St ⊕ mont_Ring_Exp_Res} {x1c0 : List Nat} {z1c1 : Int} {x1c2 : List Nat} {x1c3 : List Nat} {x2 : List Nat} {x4 : List (List Nat)} {x5 : List Nat} {a6 : Int} (e : mont_Ring_Exp_p7' x1c0 z1c1 x1c2 x1c3 x2 x4 x5 a6 = some o) (good : GoodS (mont_Ring_Exp_At r) r o) : mont_Ring_Exp_At r (.p7 x1c0 z1c1 x1c2 x1c3 x2 x4 x5 a6) := by
  intro h0 h s1c0 s1c2 s1c3 a2 a4 a5 i4 i1 g0 b1 n1c0 n1c2 n1c3 n2 v4 n5 hi4 av5_4
  rw [p_mont_Ring_Exp_7__mont_Ring_product]
  unfold mont_Ring_Exp_p7' at e
  rw [(v4).seq.len]
  refine Runs.cond (fun k7 => ?_) (fun k7 => ?_)
  · replace e := (condT k7).symm.trans e
    obtain ⟨y8, q8, e⟩ := Option.bind_eq_some_iff.1 e
    obtain ⟨r8, cs8, j8, E8, l8⟩ := ((v4).seq).at q8
    obtain ⟨s8, rfl, n8⟩ := E8
    refine Runs.step j8 ?_
    refine Runs.step (l8.rd0 (Grow.refl _) rfl (asSl_v _)) ?_
    obtain ⟨p9, q9, e⟩ := Option.bind_eq_some_iff.1 e
    obtain ⟨_, H9, e9, s9, rfl, n9, g9, o9⟩ := mont_Ring_product_opt (g0.has b1) (n1c0.grow g0) (n1c2.grow g0) (n1c3.grow g0) n8 n5 q9
    refine Runs.step e9 ?_
    refine Runs.step (seen (asSl_v _)) ?_
    refine Runs.new fun H10 b10 g10 => ?_
    refine Runs.step (appendArgs_lit b10 (by rw [cells_api_Nat]; rfl)) ?_
    obtain ⟨c11, q11, e⟩ := Option.bind_eq_some_iff.1 e
    obtain ⟨s11, H11, e11, v11, u11⟩ := GO.push (E := El.nats) (v4.grow (g9.trans g10)) ⟨_, rfl, (n9.grow g10)⟩ (AvE.nats (AvO.of_own o9 (v4).lt)) c11.down
    refine Runs.step e11 ?_
    have n5_11 := (n5.grow (g9.trans g10)).updo av5_4 u11
    have n9_11 := (n9.grow g10).updo (AvO.of_own o9 (v4).lt) u11
    have b10_11 := AH.has.updo b10 (NeO.of_lt ((v4.grow g9)).lt (Nat.le_refl _)) u11
    refine Runs.step (asSl_v _) ?_
    have G12 := ((g0.trans g9).trans g10)
    cases e
    have G13 := (G12.updo hi4 u11)
    exact good G13 b1 n1c0 n1c2 n1c3 n2 v11 n5_11 (LeO.trans (G12).size (Nat.le_refl _)) (AvO.of_base n5 (LeO.trans ((g9.trans g10)).size (Nat.le_refl _)))
  · replace e := (condF k7).symm.trans e
    refine Runs.step rfl ?_
    refine Runs.step (AH.has.rd (g0.has b1) 2 rfl (asSl_v _)) ?_
    obtain ⟨_, H8, e8, rfl, g8⟩ := nat_Bits_is (n2.grow g0)
    refine Runs.step e8 ?_
    refine Runs.step (seen (avInt_int _ _)) ?_
    cases e
    exact good (g0.trans g8) n2 b1 n1c0 n1c2 n1c3 (((v4.grow g8)).seq) (n1c2.grow (g0.trans g8))

theorem mont_Ring_Exp_p12_walk {r : mont_Ring_Exp_Res} {o : mont_Ring_Exp_St ⊕ mont_Ring_Exp_Res} {x1 : List Nat} {x2c0 : List Nat} {z2c1 : Int} {x2c2 : List Nat} {x2c3 : List Nat} {x3 : List (List Nat)} {x4 : List Nat} {a5 : Int} (e : mont_Ring_Exp_p12' x1 x2c0 z2c1 x2c2 x2c3 x3 x4 a5 = some o) (good : GoodS (mont_Ring_Exp_At r) r o) : mont_Ring_Exp_At r (.p12 x1 x2c0 z2c1 x2c2 x2c3 x3 x4 a5) := by
  intro h0 h a1 s2c0 s2c2 s2c3 a3 a4 i2 g0 n1 b2 n2c0 n2c2 n2c3 n3 n4
  rw [p_mont_Ring_Exp_12__mont_Ring_product]
  unfold mont_Ring_Exp_p12' at e
  refine Runs.cond (fun k6 => ?_) (fun k6 => ?_)
  · replace e := (condT k6).symm.trans e
    cases e
    exact good g0 n1 b2 n2c0 n2c2 n2c3 n3 n4
  · replace e := (condF k6).symm.trans e
    refine Runs.new fun H7 b7 g7 => ?_
    obtain ⟨w8, z8, e⟩ := Option.bind_eq_some_iff.1 e
    obtain ⟨p9, q9, e⟩ := Option.bind_eq_some_iff.1 e
    obtain ⟨_, H9, e9, s9, rfl, n9, g9, o9⟩ := mont_Ring_product_opt ((g0.trans g7).has b2) (n2c0.grow (g0.trans g7)) (n2c2.grow (g0.trans g7)) (n2c3.grow (g0.trans g7)) (n4.grow g7) (Nats.of_has1 b7 z8) q9
    refine Runs.step e9 ?_
    refine Runs.step (seen (asSl_v _)) ?_
    cases e
    cases good
    have G10 := ((g0.trans g7).trans g9)
    exact Runs.ret ⟨s9, rfl, n9, G10, (o9.of_le (g0.trans g7))⟩

theorem mont_Ring_Exp_p16_walk {r : mont_Ring_Exp_Res} {o : mont_Ring_Exp_St ⊕ mont_Ring_Exp_Res} {x1 : List Nat} {x2c0 : List Nat} {z2c1 : Int} {x2c2 : List Nat} {x2c3 : List Nat} {x3 : List (List Nat)} {x4 : List Nat} {a5 : Int} {a6 : Int} {a7 : Int} (e : mont_Ring_Exp_p16' x1 x2c0 z2c1 x2c2 x2c3 x3 x4 a5 a6 a7 = some o) (good : GoodS (mont_Ring_Exp_At r) r o) : mont_Ring_Exp_At r (.p16 x1 x2c0 z2c1 x2c2 x2c3 x3 x4 a5 a6 a7) := by
  intro h0 h a1 s2c0 s2c2 s2c3 a3 a4 i2 g0 n1 b2 n2c0 n2c2 n2c3 n3 n4
  rw [p_mont_Ring_Exp_16__mont_Ring_product]
  unfold mont_Ring_Exp_p16' at e
  rw [n3.len]
  refine Runs.cond (fun k8 => ?_) (fun k8 => ?_)
  · replace e := (condT k8).symm.trans e
    obtain ⟨p9, q9, e⟩ := Option.bind_eq_some_iff.1 e
    obtain ⟨_, H9, e9, s9, rfl, n9, g9, o9⟩ := mont_Ring_product_opt (g0.has b2) (n2c0.grow g0) (n2c2.grow g0) (n2c3.grow g0) n4 n4 q9
    refine Runs.step e9 ?_
    refine Runs.step (seen (asSl_v _)) ?_
    obtain ⟨c10_0, q10_0, e⟩ := Option.bind_eq_some_iff.1 e
    obtain ⟨_, H10, e10, rfl, g10⟩ := nat_Bit_need (n1.grow (g0.trans g9))  c10_0.down
    refine Runs.step e10 ?_
    refine Runs.step (seen rfl) ?_
    refine Runs.cond (fun k11 => ?_) (fun k11 => ?_)
    · replace e := (condT k11).symm.trans e
      refine Runs.cond (fun k12 => ?_) (fun k12 => ?_)
      · replace e := (condT k12).symm.trans e
        cases e
      · replace e := (condF k12).symm.trans e
        cases e
        have G13 := ((g0.trans g9).trans g10)
        exact good G13 n1 b2 n2c0 n2c2 n2c3 (n3.grow (g9.trans g10)) (n9.grow g10)
    · replace e := (condF k11).symm.trans e
      cases e
      have G12 := ((g0.trans g9).trans g10)
      exact good G12 n1 b2 n2c0 n2c2 n2c3 (n3.grow (g9.trans g10)) (n9.grow g10)
  · replace e := (condF k8).symm.trans e
    obtain ⟨y9, q9, e⟩ := Option.bind_eq_some_iff.1 e
    obtain ⟨r9, cs9, j9, E9, l9⟩ := (n3).at q9
    obtain ⟨s9, rfl, n9⟩ := E9
    refine Runs.step j9 ?_
    refine Runs.step (l9.rd0 (Grow.refl _) rfl (asSl_v _)) ?_
    obtain ⟨p10, q10, e⟩ := Option.bind_eq_some_iff.1 e
    obtain ⟨_, H10, e10, s10, rfl, n10, g10, o10⟩ := mont_Ring_product_opt (g0.has b2) (n2c0.grow g0) (n2c2.grow g0) (n2c3.grow g0) n4 n9 q10
    refine Runs.step e10 ?_
    refine Runs.step (seen (asSl_v _)) ?_
    cases e
    exact good (g0.trans g10) n1 b2 n2c0 n2c2 n2c3 (n3.grow g10) n10

theorem mont_Ring_Exp_run {s : mont_Ring_Exp_St} {r : mont_Ring_Exp_Res} (it : Iter mont_Ring_Exp_step s r) : mont_Ring_Exp_At r s := Iter.ind (fun s o e good => by
  cases s with
  | fn x1c0 z1c1 x1c2 x1c3 x2 x3 => exact @mont_Ring_Exp_fn_walk _ _ x1c0 z1c1 x1c2 x1c3 x2 x3 e good
  | p7 x1c0 z1c1 x1c2 x1c3 x2 x4 x5 a6 => exact @mont_Ring_Exp_p7_walk _ _ x1c0 z1c1 x1c2 x1c3 x2 x4 x5 a6 e good
  | p12 x1 x2c0 z2c1 x2c2 x2c3 x3 x4 a5 => exact @mont_Ring_Exp_p12_walk _ _ x1 x2c0 z2c1 x2c2 x2c3 x3 x4 a5 e good
  | p16 x1 x2c0 z2c1 x2c2 x2c3 x3 x4 a5 a6 a7 => exact @mont_Ring_Exp_p16_walk _ _ x1 x2c0 z2c1 x2c2 x2c3 x3 x4 a5 a6 a7 e good
  ) it

theorem mont_Ring_Exp_opt {h : AH} {s1c0 : Sl} {s1c2 : Sl} {s1c3 : Sl} {a2 : Sl} {a3 : Sl} {i1 : Nat} {x1c0 : List Nat} {z1c1 : Int} {x1c2 : List Nat} {x1c3 : List Nat} {x2 : List Nat} {x3 : List Nat} (b1 : h.has i1 [s1c0.v, .int .u64 z1c1, s1c2.v, s1c3.v] T.mont_Ring) (n1c0 : Nats h s1c0 x1c0) (n1c2 : Nats h s1c2 x1c2) (n1c3 : Nats h s1c3 x1c3) (n2 : Nats h a2 x2) (n3 : Nats h a3 x3) {r : mont_Ring_Exp_Res} (q : runP mont_Ring_Exp_step (.fn x1c0 z1c1 x1c2 x1c3 x2 x3) = some r) : Runs (go (.fn F.mont_Ring_Exp [.ptr (some (.new i1 0)), a2.v, a3.v]) h) (mont_Ring_Exp_post h r) := mont_Ring_Exp_run (runP_iter q) b1 n1c0 n1c2 n1c3 n2 n3

end Go.Ab

/- Layer 2: what the ring's powers answer. -/
set_option linter.unusedVariables false
set_option linter.unusedSimpArgs false
set_option maxRecDepth 10000
namespace Go.Ab
open Go.Proofs Go.Num

theorem growOk_Nat {n : Nat} (h : n ≤ 1000000) : growOk Pg n T.api_Nat 1 = true := by
  unfold growOk
  rw [zero_api_Nat, bytes_api_Nat]
  have h1 : n * 24 ≤ mostBytes := by simp only [mostBytes]; omega
  have h2 : n ≤ mostBytes := by simp only [mostBytes]; omega
  simp [h1, h2]

theorem digit_one : ∀ c : _root_.Fin 4, ∀ m : _root_.Fin (2 ^ c.val), ior .i64 ((m.val * 2 ^ (4 - c.val) : Nat) : Int) (ishl .i64 1 (IntKind.wrap .i64 (3 - (c.val : Int)))) = (((2 * m.val + 1) * 2 ^ (3 - c.val) : Nat) : Int) := by decide +kernel

theorem div_bit (E j : Nat) : E / 2 ^ j = 2 * (E / 2 ^ (j + 1)) + (E.testBit j).toNat := by
  rw [Nat.testBit_eq_decide_div_mod_eq, Nat.pow_succ, ← Nat.div_div_eq_div_mul]
  generalize E / 2 ^ j = z
  have := Nat.mod_two_eq_zero_or_one z
  rcases this with h | h <;> rw [h] <;> simp <;> omega

/-- A ring that may be: its modulus, and what it keeps. -/
structure RingOk (N k v : Nat) : Prop where
  hk : k ≤ 60
  lt : N < B ^ k
  one : 1 < N
  odd : N % 2 = 1
  hv : v < B
  inv : (N * v + 1) % B = 0
  len : (digs B N).length = k

def form (N k u : Nat) : List Nat := digs B (u * 2 ^ (64 * k) % N)
def powersL (N k A : Nat) (j : Nat) : List (List Nat) := (List.range (j + 1)).map fun i => form N k (A ^ i)

section
variable {N k v : Nat} {ones nexts : List Nat}

theorem RingOk.prod (r : RingOk N k v) {X Y : Nat} (hX : X < N) (hY : Y < N) : runP mont_Ring_product_step (.fn (digs B N) (v : Int) ones nexts (digs B X) (digs B Y)) = some (digs B (redc N (64 * k) (X * Y))) := by
  have := mont_Ring_product_iter (ns := digs B N) (xs := digs B X) (ys := digs B Y) (ones := ones) (nexts := nexts) r.hk r.len (digs_lt B2 N) (digs_trim B2 N) (digs_lt B2 X) (digs_lt B2 Y) r.hv
    (by rw [num_digs B2]; exact r.inv) (by rw [num_digs B2]; exact r.odd) ((digs_len B2 X k).2 (Nat.lt_trans hX r.lt)) (by rw [num_digs B2, num_digs B2]; exact hY)
  simpa only [num_digs B2] using this

theorem RingOk.forms (r : RingOk N k v) (x y : Nat) : runP mont_Ring_product_step (.fn (digs B N) (v : Int) ones nexts (form N k x) (form N k y)) = some (form N k (x * y)) := by
  have hN : 0 < N := by have := r.one; omega
  unfold form
  rw [r.prod (Nat.mod_lt _ hN) (Nat.mod_lt _ hN), redc_form r.odd]

theorem RingOk.into (r : RingOk N k v) {a : Nat} (ha : a < N) : runP mont_Ring_product_step (.fn (digs B N) (v : Int) ones nexts (digs B a) (digs B (2 ^ (64 * k) * 2 ^ (64 * k) % N))) = some (form N k a) := by
  have hN : 0 < N := by have := r.one; omega
  unfold form
  rw [r.prod ha (Nat.mod_lt _ hN), redc_in r.odd]

theorem RingOk.out (r : RingOk N k v) (x : Nat) : runP mont_Ring_product_step (.fn (digs B N) (v : Int) ones nexts (form N k x) [1]) = some (digs B (x % N)) := by
  have hN : 0 < N := by have := r.one; omega
  have h1 : ([1] : List Nat) = digs B 1 := by rw [digs_pos B2 (by decide), show 1 / B = 0 from rfl, digs_zero]; rfl
  unfold form
  rw [h1, r.prod (Nat.mod_lt _ hN) r.one, redc_out r.odd]

theorem powersL_succ (A j : Nat) : powersL N k A (j + 1) = powersL N k A j ++ [form N k (A ^ (j + 1))] := by
  unfold powersL
  rw [List.range_succ, List.map_append]
  rfl

theorem powersL_at {A j i : Nat} (h : i ≤ j) : atX (powersL N k A j) (i : Int) = some (form N k (A ^ i)) := by
  unfold powersL
  rw [atX_nat (by rw [List.length_map, List.length_range]; omega), List.getElem_map, List.getElem_range]

theorem exp_p16 (r : RingOk N k v) {es : List Nat} (le : ∀ x ∈ es, x < B) (re : rt es = true) {A t : Nat} (ht : t ≤ 100000) (K : Iter mont_Ring_Exp_step (.p12 es (digs B N) (v : Int) ones nexts (powersL N k A 15) (form N k (A ^ (num B es / 2 ^ (4 * t)))) (t : Int)) (digs B (A ^ num B es % N), 0)) :
    ∀ (d c m q : Nat), c + d = 4 → num B es / 2 ^ (4 * (t + 1) - c) = q * 2 ^ c + m → m < 2 ^ c →
      Iter mont_Ring_Exp_step (.p16 es (digs B N) (v : Int) ones nexts (powersL N k A 15) (form N k (A ^ (q * 2 ^ c))) ((t + 1 : Nat) : Int) ((m * 2 ^ (4 - c) : Nat) : Int) (c : Int)) (digs B (A ^ num B es % N), 0)
  | 0, c, m, q, hc, hq, hm => by
    have hc : c = 4 := by omega
    subst hc
    refine .next ?_ K
    show mont_Ring_Exp_p16' _ _ _ _ _ _ _ _ _ _ = _
    unfold mont_Ring_Exp_p16'
    have h16 : (2 : Nat) ^ 4 = 16 := rfl
    rw [h16] at hm
    rw [condF (by decide), show m * 2 ^ (4 - 4) = m from by simp, powersL_at (by omega), Option.bind_some, r.forms, Option.bind_some, show (((t + 1 : Nat) : Int) - 1) = (t : Int) from by omega, wrap_nat (by omega), ← Nat.pow_add, ← hq, show 4 * (t + 1) - 4 = 4 * t from by omega]
  | d + 1, c, m, q, hc, hq, hm => by
    have hb := div_bit (num B es) (4 * (t + 1) - (c + 1))
    rw [show 4 * (t + 1) - (c + 1) + 1 = 4 * (t + 1) - c from by omega, hq] at hb
    have hd := digit_one ⟨c, by omega⟩ ⟨m, hm⟩
    dsimp only at hd
    have e1 : q * 2 ^ (c + 1) = q * 2 ^ c + q * 2 ^ c := by rw [Nat.pow_succ, ← Nat.mul_assoc]; omega
    have e2 : m * 2 ^ (4 - c) = 2 * m * 2 ^ (4 - (c + 1)) := by rw [show 4 - c = 4 - (c + 1) + 1 from by omega, Nat.pow_succ, Nat.mul_comm (2 ^ (4 - (c + 1))) 2, ← Nat.mul_assoc, Nat.mul_comm m 2]
    have hi : (IntKind.wrap .i64 ((IntKind.wrap .i64 ((IntKind.wrap .i64 (((t + 1 : Nat) : Int) * 4)) - 1)) - (c : Int))) = ((4 * (t + 1) - (c + 1) : Nat) : Int) := by
      rw [show ((t + 1 : Nat) : Int) * 4 = ((4 * (t + 1) : Nat) : Int) from by omega, wrap_nat (by omega), show ((4 * (t + 1) : Nat) : Int) - 1 = ((4 * (t + 1) - 1 : Nat) : Int) from by omega, wrap_nat (by omega), show ((4 * (t + 1) - 1 : Nat) : Int) - (c : Int) = ((4 * (t + 1) - (c + 1) : Nat) : Int) from by omega, wrap_nat (by omega)]
    have hm2 : 2 ^ (c + 1) = 2 * 2 ^ c := by rw [Nat.pow_succ]; omega
    have hneed : ((4 * (t + 1) - (c + 1) : Nat) : Int) ≤ 9223372036854775807 := by omega
    have step : mont_Ring_Exp_p16' es (digs B N) (v : Int) ones nexts (powersL N k A 15) (form N k (A ^ (q * 2 ^ c))) ((t + 1 : Nat) : Int) ((m * 2 ^ (4 - c) : Nat) : Int) (c : Int) =
        some (.inl (.p16 es (digs B N) (v : Int) ones nexts (powersL N k A 15) (form N k (A ^ (q * 2 ^ (c + 1)))) ((t + 1 : Nat) : Int) (((2 * m + ((num B es).testBit (4 * (t + 1) - (c + 1))).toNat) * 2 ^ (4 - (c + 1)) : Nat) : Int) ((c + 1 : Nat) : Int))) := by
      unfold mont_Ring_Exp_p16'
      rw [condT (by rw [decide_eq_true_eq]; omega), r.forms, Option.bind_some, hi, need_of hneed, Option.bind_some, bitN_nat re, wrap_succ (by omega), ← Nat.pow_add, ← e1]
      cases hbit : (num B es).testBit (4 * (t + 1) - (c + 1))
      · rw [cond_false, e2]
        rfl
      · rw [cond_true, condF (by rw [decide_eq_false_iff_not, show (3 : Int) - (c : Int) = ((3 - c : Nat) : Int) from by omega, wrap_nat (by omega)]; omega), hd, show 4 - (c + 1) = 3 - c from by omega]
        rfl
    refine .next step (exp_p16 r le re ht K d (c + 1) _ q (by omega) ?_ ?_)
    · rw [hb, e1]
      omega
    · cases (num B es).testBit (4 * (t + 1) - (c + 1))
      · show 2 * m + 0 < _
        omega
      · show 2 * m + 1 < _
        omega

theorem exp_p12 (r : RingOk N k v) {es : List Nat} (le : ∀ x ∈ es, x < B) (re : rt es = true) {A : Nat} : ∀ t : Nat, t ≤ 100000 →
    Iter mont_Ring_Exp_step (.p12 es (digs B N) (v : Int) ones nexts (powersL N k A 15) (form N k (A ^ (num B es / 2 ^ (4 * t)))) (t : Int)) (digs B (A ^ num B es % N), 0)
  | 0, _ => by
    refine .done ?_
    show mont_Ring_Exp_p12' _ _ _ _ _ _ _ _ = _
    unfold mont_Ring_Exp_p12'
    rw [condF (by decide), show u64P 1 = some 1 from rfl, Option.bind_some, r.out, Option.bind_some, Nat.mul_zero, Nat.pow_zero, Nat.div_one]
  | t + 1, ht => by
    have K := exp_p12 r le re (A := A) t (by omega)
    have := exp_p16 r le re (by omega) K 4 0 0 (num B es / 2 ^ (4 * (t + 1))) (by omega) (by simp) (by simp)
    rw [Nat.pow_zero, Nat.mul_one, Nat.zero_mul] at this
    refine .next ?_ this
    show mont_Ring_Exp_p12' _ _ _ _ _ _ _ _ = _
    unfold mont_Ring_Exp_p12'
    rw [condT (by rw [decide_eq_true_eq]; omega)]
    rfl

theorem exp_p7 (r : RingOk N k v) (h1 : ones = form N k 1) {es : List Nat} (le : ∀ x ∈ es, x < B) (re : rt es = true) {A : Nat} : ∀ (d j : Nat), j + d = 15 →
    Iter mont_Ring_Exp_step (.p7 (digs B N) (v : Int) ones nexts es (powersL N k A j) (form N k A) (j : Int)) (digs B (A ^ num B es % N), 0)
  | 0, j, hj => by
    have hj : j = 15 := by omega
    subst hj
    have h64 := (rt_iff.1 re).1
    have hlt := num_lt B1 le
    rw [B_pow2] at hlt
    have hb : bitsN es ≤ 64 * 64 := by
      unfold bitsN
      rw [if_pos re]
      exact Nat.le_trans (bl_le hlt) (Nat.mul_le_mul_left _ h64)
    have hE : num B es < 2 ^ bitsN es := by
      unfold bitsN
      rw [if_pos re]
      exact (bl_Bl _).1
    have := exp_p12 r le re (A := A) (ones := ones) (nexts := nexts) ((bitsN es + 3) / 4) (by omega)
    have hz : num B es / 2 ^ (4 * ((bitsN es + 3) / 4)) = 0 := by
      refine Nat.div_eq_of_lt (Nat.lt_of_lt_of_le hE (Nat.pow_le_pow_right (by decide) (by omega)))
    rw [hz, Nat.pow_zero, ← h1] at this
    refine .next ?_ this
    show mont_Ring_Exp_p7' _ _ _ _ _ _ _ _ = _
    unfold mont_Ring_Exp_p7'
    rw [condF (by decide), show ((bitsN es : Nat) : Int) + 4 = ((bitsN es + 4 : Nat) : Int) from by omega, wrap_nat (by omega), show ((bitsN es + 4 : Nat) : Int) - 1 = ((bitsN es + 3 : Nat) : Int) from by omega, wrap_nat (by omega), show Int.tdiv ((bitsN es + 3 : Nat) : Int) 4 = (((bitsN es + 3) / 4 : Nat) : Int) from rfl, wrap_nat (by omega)]
  | d + 1, j, hj => by
    have hl : (powersL N k A j).length = j + 1 := by unfold powersL; simp
    refine .next ?_ (exp_p7 r h1 le re d (j + 1) (by omega))
    show mont_Ring_Exp_p7' _ _ _ _ _ _ _ _ = _
    unfold mont_Ring_Exp_p7'
    have hg : growOk Pg (j + 1 + 1) T.api_Nat 1 = true := growOk_Nat (by omega)
    rw [condT (by rw [decide_eq_true_eq]; omega), hl, show ((j + 1 : Nat) : Int) - 1 = (j : Int) from by omega, wrap_nat (by omega), powersL_at (Nat.le_refl _), Option.bind_some, r.forms, Option.bind_some, need_of hg, Option.bind_some, wrap_succ (by omega), powersL_succ, Nat.pow_succ]

theorem mont_Ring_Exp_iter (r : RingOk N k v) {A : Nat} (hA : A < N) {es : List Nat} (le : ∀ x ∈ es, x < B) (re : rt es = true) (h8 : es.length ≤ 8) :
    runP mont_Ring_Exp_step (.fn (digs B N) (v : Int) (form N k 1) (digs B (2 ^ (64 * k) * 2 ^ (64 * k) % N)) (digs B A) es) = some (digs B (A ^ num B es % N), 0) := by
  have := exp_p7 r rfl (nexts := digs B (2 ^ (64 * k) * 2 ^ (64 * k) % N)) le re (A := A) 15 0 (by omega)
  refine runP_of (.next ?_ this)
  show mont_Ring_Exp_fn' _ _ _ _ _ _ = _
  have h60 : N < B ^ 64 := Nat.lt_of_lt_of_le r.lt (Nat.pow_le_pow_right (by decide) (by have := r.hk; omega))
  have hb : belowF (digs B A) (digs B N) = true := by
    unfold belowF
    rw [rt_digs (Nat.lt_trans hA h60), cmpN_rt2 (rt_digs (Nat.lt_trans hA h60)) (rt_digs h60), num_digs B2, num_digs B2]
    unfold cmp
    rw [if_pos hA]
    rfl
  unfold mont_Ring_Exp_fn'
  rw [hb, re, show (!true) = false from rfl, cond_false, cond_false, condF (by rw [decide_eq_false_iff_not]; omega), r.into hA, Option.bind_some]
  simp [powersL, form]
end

end Go.Ab

/- Layer 2: rests of R, their walk: printed by wip/tools/walk.py. -/
set_option linter.unusedVariables false
set_option linter.unusedSimpArgs false
set_option maxRecDepth 10000
namespace Go.Ab
open Go.Proofs Go.Num

inductive mont_Ring_rest_St
  | fn (x1c0 : List Nat) (z1c1 : Int) (x1c2 : List Nat) (x1c3 : List Nat) (a2 : Int)
  | no

abbrev mont_Ring_rest_Res := List Nat

noncomputable def mont_Ring_rest_fn' (x1c0 : List Nat) (z1c1 : Int) (x1c2 : List Nat) (x1c3 : List Nat) (a2 : Int) : Option (mont_Ring_rest_St ⊕ mont_Ring_rest_Res) :=
  (mkI (IntKind.wrap .i64 ((IntKind.wrap .i64 (a2 * (List.length x1c0 : Int))) + 1)) (IntKind.wrap .i64 ((IntKind.wrap .i64 (a2 * (List.length x1c0 : Int))) + 1))).bind fun m3 => (inI (List.length (List.replicate m3 0)) (IntKind.wrap .i64 (a2 * (List.length x1c0 : Int)))).bind fun j4 => (u64P 1).bind fun w5 => some (.inr ((divN (List.set (List.replicate m3 0) j4 w5) x1c0).2.1))

noncomputable def mont_Ring_rest_step : mont_Ring_rest_St → Option (mont_Ring_rest_St ⊕ mont_Ring_rest_Res)
  | .fn x1c0 z1c1 x1c2 x1c3 a2 => mont_Ring_rest_fn' x1c0 z1c1 x1c2 x1c3 a2
  | .no => none

@[reducible] def mont_Ring_rest_post (h0 : AH) (r : mont_Ring_rest_Res) (v : AV) (h' : AH) : Prop := ∃ s1 : Sl, v = s1.v ∧ Nats h' s1 r ∧ Grow h0 h' ∧ Own h0 s1

def mont_Ring_rest_At (r : mont_Ring_rest_Res) : mont_Ring_rest_St → Prop
  | .fn x1c0 z1c1 x1c2 x1c3 a2 => ∀ {h : AH} {s1c0 : Sl} {s1c2 : Sl} {s1c3 : Sl} {i1 : Nat}, h.has i1 [s1c0.v, .int .u64 z1c1, s1c2.v, s1c3.v] T.mont_Ring → Nats h s1c0 x1c0 → Nats h s1c2 x1c2 → Nats h s1c3 x1c3 → Runs (go (.fn F.mont_Ring_rest [.ptr (some (.new i1 0)), .int .i64 a2]) h) (mont_Ring_rest_post h r)
  | .no => True

theorem mont_Ring_rest_fn_walk {r : mont_Ring_rest_Res} {o : mont_Ring_rest_St ⊕ mont_Ring_rest_Res} {x1c0 : List Nat} {z1c1 : Int} {x1c2 : List Nat} {x1c3 : List Nat} {a2 : Int} (e : mont_Ring_rest_fn' x1c0 z1c1 x1c2 x1c3 a2 = some o) (good : GoodS (mont_Ring_rest_At r) r o) : mont_Ring_rest_At r (.fn x1c0 z1c1 x1c2 x1c3 a2) := by
  intro h s1c0 s1c2 s1c3 i1 b1 n1c0 n1c2 n1c3
  rw [u_mont_Ring_rest]
  unfold mont_Ring_rest_fn' at e
  refine Runs.step rfl ?_
  refine Runs.step (AH.has.rd b1 0 rfl (asSl_v _)) ?_
  rw [n1c0.len]
  obtain ⟨m3, q3, e⟩ := Option.bind_eq_some_iff.1 e
  refine Runs.mk q3 bytes_uint64 fun s3 H3 v3 g3 => ?_
  rw [v3.nats.len]
  refine Runs.step rfl ?_
  refine Runs.step (AH.has.rd (g3.has b1) 0 rfl (asSl_v _)) ?_
  rw [(n1c0.grow g3).len]
  obtain ⟨j4, q4, e⟩ := Option.bind_eq_some_iff.1 e
  refine Runs.step (v3.idx rfl q4) ?_
  obtain ⟨w5, z5, e⟩ := Option.bind_eq_some_iff.1 e
  refine Runs.vput v3 rfl q4 z5 fun H5 v5 u5 => ?_
  refine Runs.step rfl ?_
  refine Runs.step (AH.has.rd ((g3.updr (Nat.le_refl _) u5).has b1) 0 rfl (asSl_v _)) ?_
  obtain ⟨s6, s6b, H6, e6, n6, n6b, g6, o6, o6b⟩ := nat_Div_spec v5.nats (n1c0.grow (g3.updr (Nat.le_refl _) u5))
  refine Runs.step e6 ?_
  refine Runs.step rfl ?_
  refine Runs.step (seen (asSl_v _)) ?_
  refine Runs.step (seen (asSl_v _)) ?_
  refine Runs.step (seen (avInt_int _ _)) ?_
  cases e
  cases good
  have G7 := ((g3.updr (Nat.le_refl _) u5).trans g6)
  exact Runs.ret ⟨s6b, rfl, n6b, G7, (o6b.of_le (g3.updr (Nat.le_refl _) u5))⟩

theorem mont_Ring_rest_run {s : mont_Ring_rest_St} {r : mont_Ring_rest_Res} (it : Iter mont_Ring_rest_step s r) : mont_Ring_rest_At r s := Iter.ind (fun s o e good => by
  cases s with
  | fn x1c0 z1c1 x1c2 x1c3 a2 => exact @mont_Ring_rest_fn_walk _ _ x1c0 z1c1 x1c2 x1c3 a2 e good
  | no => exact True.intro
  ) it

theorem mont_Ring_rest_opt {h : AH} {s1c0 : Sl} {s1c2 : Sl} {s1c3 : Sl} {i1 : Nat} {x1c0 : List Nat} {z1c1 : Int} {x1c2 : List Nat} {x1c3 : List Nat} {a2 : Int} (b1 : h.has i1 [s1c0.v, .int .u64 z1c1, s1c2.v, s1c3.v] T.mont_Ring) (n1c0 : Nats h s1c0 x1c0) (n1c2 : Nats h s1c2 x1c2) (n1c3 : Nats h s1c3 x1c3) {r : mont_Ring_rest_Res} (q : runP mont_Ring_rest_step (.fn x1c0 z1c1 x1c2 x1c3 a2) = some r) : Runs (go (.fn F.mont_Ring_rest [.ptr (some (.new i1 0)), .int .i64 a2]) h) (mont_Ring_rest_post h r) := mont_Ring_rest_run (runP_iter q) b1 n1c0 n1c2 n1c3

end Go.Ab

/- Layer 2: a ring is made. -/
set_option linter.unusedVariables false
set_option linter.unusedSimpArgs false
set_option maxRecDepth 10000
namespace Go.Ab
open Go.Proofs Go.Num

theorem num_rep1 (n : Nat) : num B (List.replicate n 0 ++ [1]) = B ^ n := by
  have h : num B (List.replicate n 0) = 0 := by have := num_noughts B [] n; simpa [num] using this
  rw [num_append, h, List.length_replicate]
  simp [num]

theorem rest_iter {ns c2 c3 : List Nat} (z : Int) {p k : Nat} (hk : ns.length = k) (hp : p ≤ 2) (h8 : k ≤ 8) (h0 : k ≠ 0) (r : rt ns = true) : runP mont_Ring_rest_step (.fn ns z c2 c3 (p : Int)) = some (digs B (B ^ (p * k) % num B ns)) := by
  have hpk : p * k ≤ 2 * 8 := Nat.mul_le_mul hp h8
  refine runP_of (.done ?_)
  show mont_Ring_rest_fn' ns z c2 c3 (p : Int) = _
  unfold mont_Ring_rest_fn'
  have e : IntKind.wrap .i64 ((p : Int) * (k : Int)) = ((p * k : Nat) : Int) := by rw [← Int.natCast_mul, wrap_nat (by omega)]
  rw [hk, e, wrap_succ (by omega), mkI_nat (by omega), Option.bind_some, List.length_replicate, inI_nat (by omega), Option.bind_some, show u64P 1 = some 1 from rfl, Option.bind_some]
  have hs : (List.replicate (p * k + 1) 0).set (p * k) 1 = List.replicate (p * k) 0 ++ [1] := by
    rw [List.replicate_succ']
    have := set_mid (List.replicate (p * k) 0) 0 1 [] (n := p * k) (by simp)
    rw [this, List.append_nil]
  have rx : rt (List.replicate (p * k) 0 ++ [1]) = true := rt_iff.2 ⟨by simp; omega, fun h => by simp⟩
  rw [hs, divN_rest rx r (fun e => h0 (by rw [← hk, e]; rfl)), num_rep1]

theorem wrap_newton (n x : Int) : IntKind.wrap .u64 (x * IntKind.wrap .u64 (2 - IntKind.wrap .u64 (n * x))) = (x * (2 - n * x)) % 18446744073709551616 := by
  rw [wrapU, wrapU, wrapU]
  have : (2 - n * x % 18446744073709551616) % 18446744073709551616 = (2 - n * x) % 18446744073709551616 := by
    generalize n * x = t
    omega
  rw [this, newton.Int.mul_emod_aux]

theorem newton_round {n x i : Nat} (hi : i < 6) (h : (n * x) % 2 ^ (2 ^ i) = 1 % 2 ^ (2 ^ i)) : ∃ y : Nat, y < 18446744073709551616 ∧ (((x : Int) * (2 - (n : Int) * (x : Int))) % 18446744073709551616) = (y : Int) ∧ (n * y) % 2 ^ (2 ^ (i + 1)) = 1 % 2 ^ (2 ^ (i + 1)) := by
  have h1 := Int.emod_nonneg ((x : Int) * (2 - (n : Int) * (x : Int))) (show (18446744073709551616 : Int) ≠ 0 by decide)
  have h2 := Int.emod_lt_of_pos ((x : Int) * (2 - (n : Int) * (x : Int))) (show (0 : Int) < 18446744073709551616 by decide)
  refine ⟨(((x : Int) * (2 - (n : Int) * (x : Int))) % 18446744073709551616).toNat, by omega, by omega, ?_⟩
  have hw : (2 : Nat) ^ (2 ^ (i + 1)) = 2 ^ (2 ^ i) * 2 ^ (2 ^ i) := by rw [← Nat.pow_add, Nat.pow_succ, Nat.mul_two]
  have hd : (2 : Nat) ^ (2 ^ (i + 1)) ∣ 18446744073709551616 := Nat.pow_dvd_pow 2 (show 2 ^ (i + 1) ≤ 2 ^ 6 from Nat.pow_le_pow_right (by decide) (by omega))
  generalize (2 : Nat) ^ (2 ^ (i + 1)) = w at hw hd ⊢
  have hd' : (w : Int) ∣ 18446744073709551616 := Int.natCast_dvd_natCast.2 hd
  have := newton hw h (((x : Int) * (2 - (n : Int) * (x : Int))) % 18446744073709551616) (Int.emod_emod_of_dvd _ hd')
  have e : ((((x : Int) * (2 - (n : Int) * (x : Int))) % 18446744073709551616).toNat : Int) = ((x : Int) * (2 - (n : Int) * (x : Int))) % 18446744073709551616 := by omega
  rw [← e] at this
  generalize (((x : Int) * (2 - (n : Int) * (x : Int))) % 18446744073709551616).toNat = y at this ⊢
  rw [← Int.natCast_mul] at this
  exact Int.ofNat.inj this

theorem minus_ok {n x : Nat} (h : (n * x) % 2 ^ (2 ^ 6) = 1 % 2 ^ (2 ^ 6)) : ∃ v : Nat, v < 18446744073709551616 ∧ IntKind.wrap .u64 (0 - (x : Int)) = (v : Int) ∧ (n * v + 1) % 18446744073709551616 = 0 := by
  rw [wrapU]
  refine ⟨((0 - (x : Int)) % 18446744073709551616).toNat, by omega, by omega, ?_⟩
  have e : ((((0 - (x : Int)) % 18446744073709551616).toNat : Nat) : Int) = (0 - (x : Int)) % 18446744073709551616 := by omega
  have h' : (n * x) % 18446744073709551616 = 1 := h
  have k : ((n : Int) * ((0 - (x : Int)) % 18446744073709551616) + 1) % 18446744073709551616 = 0 := by
    rw [Int.add_emod, newton.Int.mul_emod_aux, ← Int.add_emod, Int.zero_sub, Int.mul_neg, ← Int.natCast_mul]
    omega
  rw [← e] at k
  generalize ((0 - (x : Int)) % 18446744073709551616).toNat = y at k ⊢
  rw [← Int.natCast_mul] at k
  omega

/-- What New makes of a modulus. -/
def NewP (h : AH) (ns : List Nat) (w : AV) (h' : AH) : Prop :=
  ∃ (j v : Nat) (s0 s2 s3 : Sl), w = .tup [.ptr (some (.new j 0)), .int .i64 0] ∧ v < B ∧ (num B ns * v + 1) % B = 0 ∧ h'.has j [s0.v, .int .u64 (v : Int), s2.v, s3.v] T.mont_Ring ∧ Nats h' s0 ns ∧ Nats h' s2 (digs B (B ^ (1 * ns.length) % num B ns)) ∧ Nats h' s3 (digs B (B ^ (2 * ns.length) % num B ns)) ∧ Grow h h'

theorem mont_New_loop {h0 h : AH} {s : Sl} {ns : List Nat} (n : Nats h s ns) (hn : 0 < ns.length) (h8 : ns.length ≤ 8) (r : rt ns = true) (g : Grow h0 h) : ∀ (d i x : Nat), i + d = 6 → x < 18446744073709551616 → (ns[0] * x) % 2 ^ (2 ^ i) = 1 % 2 ^ (2 ^ i) →
    Runs (go (.pt F.mont_New Td.mont_New_5 [(0, s.v), (4, .int .u64 (x : Int)), (40, .int .i64 (i : Int))]) h) (NewP h0 ns)
  | 0, i, x, hi, hx, e => by
    have hi : i = 6 := by omega
    subst hi
    obtain ⟨v, v1, v2, v3⟩ := minus_ok e
    rw [p_mont_New_5]
    refine Runs.ifF (by decide) ?_
    obtain ⟨s1, h1, e1, n1, g1, o1⟩ := clone_spec n (by omega)
    refine Runs.step e1 ?_
    refine Runs.step (seen (asSl_v _)) ?_
    rw [v2]
    refine Runs.new fun h2 b2 g2 => ?_
    obtain ⟨_, h3, e3, s3, rfl, n3, g3, o3⟩ := mont_Ring_rest_opt b2 (n1.grow g2) (Nats.nil _) (Nats.nil _) (rest_iter (v : Int) rfl (show 1 ≤ 2 by decide) h8 (by omega) r)
    refine Runs.step e3 ?_
    refine Runs.step (seen (asSl_v _)) ?_
    refine Runs.putAt (o := 2) (cs' := [s1.v, .int .u64 (v : Int), s3.v, (⟨none, 0, .is 0⟩ : Sl).v]) (vs := [s3.v]) (g3.has b2) (by simp) rfl fun h4 b4 u4 => ?_
    have n3' := n3.upda (Av.of_own o3 b2.lt) u4
    have gg : Grow h1 h4 := (g2.trans g3).updr (Nat.le_refl _) u4
    obtain ⟨_, h5, e5, s5, rfl, n5, g5, o5⟩ := mont_Ring_rest_opt (a2 := ((2 : Nat) : Int)) b4 (n1.grow gg) n3' (Nats.nil _) (rest_iter (v : Int) rfl (show 2 ≤ 2 by decide) h8 (by omega) r)
    refine Runs.step e5 ?_
    refine Runs.step (seen (asSl_v _)) ?_
    refine Runs.putAt (o := 3) (cs' := [s1.v, .int .u64 (v : Int), s3.v, s5.v]) (vs := [s5.v]) (g5.has b4) (by simp) rfl fun h6 b6 u6 => ?_
    have gg6 : Grow h1 h6 := (gg.trans g5).updr (Nat.le_refl _) u6
    refine Runs.ret ⟨_, v, s1, s3, s5, rfl, v1, ?_, b6, n1.grow gg6, (n3'.grow g5).upda (Av.of_own o3 b2.lt) u6, n5.upda (Av.of_own o5 b4.lt) u6, (g.trans g1).trans gg6⟩
    rw [num_headD B ns, Nat.add_mul, Nat.mul_assoc, Nat.add_right_comm, Nat.add_mul_mod_self_left]
    have : ns.headD 0 = ns[0] := by
      cases ns with
      | nil => simp at hn
      | cons y ys => rfl
    rw [this]
    exact v3
  | d + 1, i, x, hi, hx, e => by
    rw [p_mont_New_5]
    refine Runs.ifT (by rw [decide_eq_true_eq]; omega) ?_
    obtain ⟨q, e1, e2⟩ := n.at (i := 0) hn
    rw [n.len] at e1 ⊢
    refine Runs.step e1 ?_
    refine Runs.step (rdc e2 (avInt_int _ _)) ?_
    obtain ⟨y, y1, y2, y3⟩ := newton_round (by omega) e
    rw [wrap_newton, y2, wrap_succ (by omega)]
    exact mont_New_loop n hn h8 r g d (i + 1) y (by omega) y1 y3

theorem mont_New_ok {h : AH} {s : Sl} {ns : List Nat} (n : Nats h s ns) (r : rt ns = true) (hn : ns.length ≠ 0) (h8 : ns.length ≤ 8) (ho : num B ns % 2 = 1) (h1 : 1 < num B ns) : Runs (go (.fn F.mont_New [s.v]) h) (NewP h ns) := by
  have hp : 0 < ns.length := by omega
  have hd : ns.headD 0 = ns[0] := by
    cases ns with
    | nil => simp at hp
    | cons y ys => rfl
  have hb : ns[0] < 18446744073709551616 := n.lt _ (List.getElem_mem _)
  have hodd : ns[0] % 2 = 1 := by
    rw [num_headD B ns, hd] at ho
    have : (ns[0] + 18446744073709551616 * num B ns.tail) % 2 = 1 := ho
    omega
  have hs : (ns[0] * ns[0]) % 2 ^ (2 ^ 0) = 1 % 2 ^ (2 ^ 0) := by
    show (ns[0] * ns[0]) % 2 = 1
    rw [Nat.mul_mod, hodd]
  have rd : ∀ {K : Ref → Option (AV × AH)} {Q : AV → AH → Prop}, (∀ q, h.cell q = some (.int .u64 ((ns[0] : Nat) : Int)) → Runs (K q) Q) → Runs ((idx s.ref ns.length 0 1).bind K) Q := by
    intro K Q H
    obtain ⟨q, e1, e2⟩ := n.at (i := 0) hp
    rw [n.len] at e1
    exact Runs.step e1 (H q e2)
  rw [u_mont_New]
  refine Runs.step (nat_Right_spec n) ?_
  refine Runs.step (seen rfl) ?_
  rw [show s.len = ns.length from n.len]
  refine Runs.ifF (by rw [r]; rfl) ?_
  refine Runs.ifF (by rw [decide_eq_false_iff_not]; omega) ?_
  refine Runs.ifF (by rw [decide_eq_false_iff_not]; omega) ?_
  refine rd fun q hq => ?_
  refine Runs.step (rdc hq (avInt_int _ _)) ?_
  refine Runs.ifF (by rw [iand_one hb, decide_eq_false_iff_not]; omega) ?_
  have lp : Runs (go (.pt F.mont_New Td.mont_New_5 [(0, s.v), (4, .int .u64 ((ns[0] : Nat) : Int)), (40, .int .i64 0)]) h) (NewP h ns) := mont_New_loop n hp h8 r (Grow.refl h) 6 0 ns[0] rfl hb hs
  refine Runs.cond (fun k => ?_) (fun k => ?_)
  · refine rd fun q hq => ?_
    refine Runs.step (rdc hq (avInt_int _ _)) ?_
    refine Runs.ifF ?_ ?_
    · rw [decide_eq_false_iff_not]
      intro e
      have hl : ns.length = 1 := by rw [decide_eq_true_eq] at k; omega
      obtain ⟨y, hy⟩ := List.length_eq_one_iff.1 hl
      subst hy
      simp [num] at h1 e
      omega
    · refine rd fun q hq => ?_
      refine Runs.step (rdc hq (avInt_int _ _)) ?_
      exact lp
  · refine rd fun q hq => ?_
    refine Runs.step (rdc hq (avInt_int _ _)) ?_
    exact lp

end Go.Ab

/- Layer 6: what is asked first, its walk: printed by wip/tools/walk.py. -/
set_option linter.unusedVariables false
set_option linter.unusedSimpArgs false
set_option maxRecDepth 10000
namespace Go.Ab
open Go.Proofs Go.Num

def paillier_square' (x1 : List Nat) : List Nat :=
  (mulN x1 x1).1

theorem paillier_square_spec {h : AH} {a1 : Sl} {x1 : List Nat} (n1 : Nats h a1 x1)  : Runs (go (.fn F.paillier_square [a1.v]) h) fun v h' => ∃ s1 : Sl, v = s1.v ∧ Nats h' s1 (paillier_square' x1) ∧ Grow h h' ∧ Own h s1 := by
  rw [u_paillier_square]
  obtain ⟨s2, H2, e2, n2, g2, o2⟩ := nat_Mul_spec n1 n1
  refine Runs.step e2 ?_
  refine Runs.step rfl ?_
  refine Runs.step (seen (asSl_v _)) ?_
  refine Runs.step (seen (avInt_int _ _)) ?_
  have z : paillier_square' x1 = (mulN x1 x1).1 := by unfold paillier_square'; exact rfl
  rw [z]
  exact Runs.ret ⟨s2, rfl, n2, g2, (o2.of_le (Grow.refl _))⟩

def paillier_May' (x1 : List Nat) : Bool :=
  cond ((rt x1)) (cond (((bitN x1 0))) (cond (decide ((((bitsN x1 : Nat) : Int)) ≥ 15)) (decide ((((bitsN x1 : Nat) : Int)) ≤ 80)) (false)) (false)) (false)

theorem paillier_May_spec {h : AH} {a1 : Sl} {x1 : List Nat} (n1 : Nats h a1 x1)  : Runs (go (.fn F.paillier_May [a1.v]) h) fun v h' => v = .bool (paillier_May' x1) ∧ Grow h h' := by
  rw [u_paillier_May]
  obtain ⟨_, H2, e2, rfl, g2⟩ := nat_Bits_is n1
  refine Runs.step e2 ?_
  refine Runs.step (seen (avInt_int _ _)) ?_
  refine Runs.step (nat_Right_spec (n1.grow g2)) ?_
  refine Runs.step (seen rfl) ?_
  refine Runs.cond (fun k4 => ?_) (fun k4 => ?_)
  · obtain ⟨_, H5, e5, rfl, g5⟩ := nat_Bit_need (n1.grow g2) (i := 0) (by decide)
    refine Runs.step e5 ?_
    refine Runs.step (seen rfl) ?_
    refine Runs.cond (fun k6 => ?_) (fun k6 => ?_)
    · refine Runs.cond (fun k7 => ?_) (fun k7 => ?_)
      · have z : paillier_May' x1 = decide ((((bitsN x1 : Nat) : Int)) ≤ 80) := by unfold paillier_May'; exact (condT k4).trans ((condT k6).trans ((condT k7).trans rfl))
        rw [z]
        exact Runs.ret ⟨rfl, (g2.trans g5)⟩
      · have z : paillier_May' x1 = false := by unfold paillier_May'; exact (condT k4).trans ((condT k6).trans ((condF k7).trans rfl))
        rw [z]
        exact Runs.ret ⟨rfl, (g2.trans g5)⟩
    · have z : paillier_May' x1 = false := by unfold paillier_May'; exact (condT k4).trans ((condF k6).trans rfl)
      rw [z]
      exact Runs.ret ⟨rfl, (g2.trans g5)⟩
  · have z : paillier_May' x1 = false := by unfold paillier_May'; exact (condF k4).trans rfl
    rw [z]
    exact Runs.ret ⟨rfl, g2⟩

def paillier_isPlain' (x1 : List Nat) (x2 : List Nat) : Bool :=
  cond ((rt x2)) (decide ((cmpN x2 x1) < 0)) (false)

theorem paillier_isPlain_spec {h : AH} {a1 : Sl} {x1 : List Nat} {a2 : Sl} {x2 : List Nat} (n1 : Nats h a1 x1) (n2 : Nats h a2 x2)  : Runs (go (.fn F.paillier_isPlain [a1.v, a2.v]) h) fun v h' => v = .bool (paillier_isPlain' x1 x2) ∧ Grow h h' := by
  rw [u_paillier_isPlain]
  refine Runs.step (nat_Right_spec n2) ?_
  refine Runs.step (seen rfl) ?_
  refine Runs.cond (fun k4 => ?_) (fun k4 => ?_)
  · obtain ⟨H5, e5, g5⟩ := nat_Cmp_spec n2 n1
    refine Runs.step e5 ?_
    refine Runs.step (seen (avInt_int _ _)) ?_
    have z : paillier_isPlain' x1 x2 = decide ((cmpN x2 x1) < 0) := by unfold paillier_isPlain'; exact (condT k4).trans rfl
    rw [z]
    exact Runs.ret ⟨rfl, g5⟩
  · have z : paillier_isPlain' x1 x2 = false := by unfold paillier_isPlain'; exact (condF k4).trans rfl
    rw [z]
    exact Runs.ret ⟨rfl, (Grow.refl _)⟩

def paillier_alone' (x1 : List Nat) (x2 : List Nat) (x3 : List Nat) : Bool :=
  cond (!(rt x1)) (false) (cond (decide ((List.length x1 : Int) = 0)) (false) (cond (decide ((cmpN x1 x3) ≥ 0)) (false) (decide ((cmpN ((gcdN x1 x2).1) [1]) = 0))))

theorem paillier_alone_spec {h : AH} {a1 : Sl} {x1 : List Nat} {a2 : Sl} {x2 : List Nat} {a3 : Sl} {x3 : List Nat} (n1 : Nats h a1 x1) (n2 : Nats h a2 x2) (n3 : Nats h a3 x3)  : Runs (go (.fn F.paillier_alone [a1.v, a2.v, a3.v]) h) fun v h' => v = .bool (paillier_alone' x1 x2 x3) ∧ Grow h h' := by
  rw [u_paillier_alone]
  rw [n1.len]
  refine Runs.step (nat_Right_spec n1) ?_
  refine Runs.step (seen rfl) ?_
  refine Runs.cond (fun k5 => ?_) (fun k5 => ?_)
  · have z : paillier_alone' x1 x2 x3 = false := by unfold paillier_alone'; exact (condT k5).trans rfl
    rw [z]
    exact Runs.ret ⟨rfl, (Grow.refl _)⟩
  · refine Runs.cond (fun k6 => ?_) (fun k6 => ?_)
    · have z : paillier_alone' x1 x2 x3 = false := by unfold paillier_alone'; exact (condF k5).trans ((condT k6).trans rfl)
      rw [z]
      exact Runs.ret ⟨rfl, (Grow.refl _)⟩
    · obtain ⟨H7, e7, g7⟩ := nat_Cmp_spec n1 n3
      refine Runs.step e7 ?_
      refine Runs.step (seen (avInt_int _ _)) ?_
      refine Runs.cond (fun k8 => ?_) (fun k8 => ?_)
      · have z : paillier_alone' x1 x2 x3 = false := by unfold paillier_alone'; exact (condF k5).trans ((condF k6).trans ((condT k8).trans rfl))
        rw [z]
        exact Runs.ret ⟨rfl, g7⟩
      · obtain ⟨_, H9, e9, s9, rfl, n9, g9, o9⟩ := modint_Gcd_spec (n1.grow g7) (n2.grow g7)
        refine Runs.step e9 ?_
        refine Runs.step rfl ?_
        refine Runs.step (seen (asSl_v _)) ?_
        refine Runs.step (seen (avInt_int _ _)) ?_
        refine Runs.new fun H10 b10 g10 => ?_
        obtain ⟨H11, e11, g11⟩ := nat_Cmp_spec (n9.grow g10) (Nats.of_has (xs := [1]) b10 (by decide) (by decide))
        refine Runs.step e11 ?_
        refine Runs.step (seen (avInt_int _ _)) ?_
        have z : paillier_alone' x1 x2 x3 = decide ((cmpN ((gcdN x1 x2).1) [1]) = 0) := by unfold paillier_alone'; exact (condF k5).trans ((condF k6).trans ((condF k8).trans rfl))
        rw [z]
        have G12 := (((g7.trans g9).trans g10).trans g11)
        exact Runs.ret ⟨rfl, G12⟩

def paillier_Valid' (x1 : List Nat) (x2 : List Nat) : Bool :=
  cond (((paillier_May' x1))) (((paillier_alone' x2 x1 (paillier_square' x1)))) (false)

theorem paillier_Valid_spec {h : AH} {a1 : Sl} {x1 : List Nat} {a2 : Sl} {x2 : List Nat} (n1 : Nats h a1 x1) (n2 : Nats h a2 x2)  : Runs (go (.fn F.paillier_Valid [a1.v, a2.v]) h) fun v h' => v = .bool (paillier_Valid' x1 x2) ∧ Grow h h' := by
  rw [u_paillier_Valid]
  obtain ⟨_, H3, e3, rfl, g3⟩ := paillier_May_spec n1
  refine Runs.step e3 ?_
  refine Runs.step (seen rfl) ?_
  refine Runs.cond (fun k4 => ?_) (fun k4 => ?_)
  · obtain ⟨_, H5, e5, s5, rfl, n5, g5, o5⟩ := paillier_square_spec (n1.grow g3)
    refine Runs.step e5 ?_
    refine Runs.step (seen (asSl_v _)) ?_
    obtain ⟨_, H6, e6, rfl, g6⟩ := paillier_alone_spec (n2.grow (g3.trans g5)) (n1.grow (g3.trans g5)) n5
    refine Runs.step e6 ?_
    refine Runs.step (seen rfl) ?_
    have z : paillier_Valid' x1 x2 = ((paillier_alone' x2 x1 (paillier_square' x1))) := by unfold paillier_Valid'; exact (condT k4).trans rfl
    rw [z]
    have G7 := ((g3.trans g5).trans g6)
    exact Runs.ret ⟨rfl, G7⟩
  · have z : paillier_Valid' x1 x2 = false := by unfold paillier_Valid'; exact (condF k4).trans rfl
    rw [z]
    exact Runs.ret ⟨rfl, g3⟩

def paillier_times' (x1 : List Nat) (x2 : List Nat) (x3 : List Nat) : List Nat :=
  (divN ((mulN x2 x3).1) (paillier_square' x1)).2.1

theorem paillier_times_spec {h : AH} {a1 : Sl} {x1 : List Nat} {a2 : Sl} {x2 : List Nat} {a3 : Sl} {x3 : List Nat} (n1 : Nats h a1 x1) (n2 : Nats h a2 x2) (n3 : Nats h a3 x3)  : Runs (go (.fn F.paillier_times [a1.v, a2.v, a3.v]) h) fun v h' => ∃ s1 : Sl, v = s1.v ∧ Nats h' s1 (paillier_times' x1 x2 x3) ∧ Grow h h' ∧ Own h s1 := by
  rw [u_paillier_times]
  obtain ⟨s4, H4, e4, n4, g4, o4⟩ := nat_Mul_spec n2 n3
  refine Runs.step e4 ?_
  refine Runs.step rfl ?_
  refine Runs.step (seen (asSl_v _)) ?_
  refine Runs.step (seen (avInt_int _ _)) ?_
  obtain ⟨_, H5, e5, s5, rfl, n5, g5, o5⟩ := paillier_square_spec (n1.grow g4)
  refine Runs.step e5 ?_
  refine Runs.step (seen (asSl_v _)) ?_
  obtain ⟨s6, s6b, H6, e6, n6, n6b, g6, o6, o6b⟩ := nat_Div_spec (n4.grow g5) n5
  refine Runs.step e6 ?_
  refine Runs.step rfl ?_
  refine Runs.step (seen (asSl_v _)) ?_
  refine Runs.step (seen (asSl_v _)) ?_
  refine Runs.step (seen (avInt_int _ _)) ?_
  have z : paillier_times' x1 x2 x3 = (divN ((mulN x2 x3).1) (paillier_square' x1)).2.1 := by unfold paillier_times'; exact rfl
  rw [z]
  have G7 := ((g4.trans g5).trans g6)
  exact Runs.ret ⟨s6b, rfl, n6b, G7, (o6b.of_le (g4.trans g5))⟩

def paillier_shown' (x1 : List Nat) (x2 : List Nat) : List Nat :=
  (addN ((mulN x2 x1).1) [1]).1

theorem paillier_shown_spec {h : AH} {a1 : Sl} {x1 : List Nat} {a2 : Sl} {x2 : List Nat} (n1 : Nats h a1 x1) (n2 : Nats h a2 x2)  : Runs (go (.fn F.paillier_shown [a1.v, a2.v]) h) fun v h' => ∃ s1 : Sl, v = s1.v ∧ Nats h' s1 (paillier_shown' x1 x2) ∧ Grow h h' ∧ Own h s1 := by
  rw [u_paillier_shown]
  obtain ⟨s3, H3, e3, n3, g3, o3⟩ := nat_Mul_spec n2 n1
  refine Runs.step e3 ?_
  refine Runs.step rfl ?_
  refine Runs.step (seen (asSl_v _)) ?_
  refine Runs.step (seen (avInt_int _ _)) ?_
  refine Runs.new fun H4 b4 g4 => ?_
  obtain ⟨s5, H5, e5, n5, g5, o5⟩ := nat_Add_spec (n3.grow g4) (Nats.of_has (xs := [1]) b4 (by decide) (by decide))
  refine Runs.step e5 ?_
  refine Runs.step rfl ?_
  refine Runs.step (seen (asSl_v _)) ?_
  refine Runs.step (seen (avInt_int _ _)) ?_
  have z : paillier_shown' x1 x2 = (addN ((mulN x2 x1).1) [1]).1 := by unfold paillier_shown'; exact rfl
  rw [z]
  have G6 := ((g3.trans g4).trans g5)
  exact Runs.ret ⟨s5, rfl, n5, G6, (o5.of_le (g3.trans g4))⟩

def ref06_Square' (x1 : List Nat) : List Nat :=
  (mulN x1 x1).1

theorem ref06_Square_spec {h : AH} {a1 : Sl} {x1 : List Nat} (n1 : Nats h a1 x1)  : Runs (go (.fn F.ref06_Square [a1.v]) h) fun v h' => ∃ s1 : Sl, v = s1.v ∧ Nats h' s1 (ref06_Square' x1) ∧ Grow h h' ∧ Own h s1 := by
  rw [u_ref06_Square]
  obtain ⟨s2, H2, e2, n2, g2, o2⟩ := ref01_Mul_spec n1 n1
  refine Runs.step e2 ?_
  refine Runs.step rfl ?_
  refine Runs.step (seen (asSl_v _)) ?_
  refine Runs.step (seen (avInt_int _ _)) ?_
  have z : ref06_Square' x1 = (mulN x1 x1).1 := by unfold ref06_Square'; exact rfl
  rw [z]
  exact Runs.ret ⟨s2, rfl, n2, g2, (o2.of_le (Grow.refl _))⟩

def ref06_plain' (x1 : List Nat) (x2 : List Nat) : Bool :=
  cond ((rt x2)) (decide ((cmpN x2 x1) < 0)) (false)

theorem ref06_plain_spec {h : AH} {a1 : Sl} {x1 : List Nat} {a2 : Sl} {x2 : List Nat} (n1 : Nats h a1 x1) (n2 : Nats h a2 x2)  : Runs (go (.fn F.ref06_plain [a1.v, a2.v]) h) fun v h' => v = .bool (ref06_plain' x1 x2) ∧ Grow h h' := by
  rw [u_ref06_plain]
  refine Runs.step (ref01_Right_spec n2) ?_
  refine Runs.step (seen rfl) ?_
  refine Runs.cond (fun k4 => ?_) (fun k4 => ?_)
  · obtain ⟨H5, e5, g5⟩ := ref01_Cmp_spec n2 n1
    refine Runs.step e5 ?_
    refine Runs.step (seen (avInt_int _ _)) ?_
    have z : ref06_plain' x1 x2 = decide ((cmpN x2 x1) < 0) := by unfold ref06_plain'; exact (condT k4).trans rfl
    rw [z]
    exact Runs.ret ⟨rfl, g5⟩
  · have z : ref06_plain' x1 x2 = false := by unfold ref06_plain'; exact (condF k4).trans rfl
    rw [z]
    exact Runs.ret ⟨rfl, (Grow.refl _)⟩

def ref06_unit' (x1 : List Nat) (x2 : List Nat) (x3 : List Nat) : Bool :=
  cond (!(rt x1)) (false) (cond (decide ((List.length x1 : Int) = 0)) (false) (cond (decide ((cmpN x1 x3) ≥ 0)) (false) (decide ((cmpN ((gcdN x1 x2).1) [1]) = 0))))

theorem ref06_unit_spec {h : AH} {a1 : Sl} {x1 : List Nat} {a2 : Sl} {x2 : List Nat} {a3 : Sl} {x3 : List Nat} (n1 : Nats h a1 x1) (n2 : Nats h a2 x2) (n3 : Nats h a3 x3)  : Runs (go (.fn F.ref06_unit [a1.v, a2.v, a3.v]) h) fun v h' => v = .bool (ref06_unit' x1 x2 x3) ∧ Grow h h' := by
  rw [u_ref06_unit]
  rw [n1.len]
  refine Runs.step (ref01_Right_spec n1) ?_
  refine Runs.step (seen rfl) ?_
  refine Runs.cond (fun k5 => ?_) (fun k5 => ?_)
  · have z : ref06_unit' x1 x2 x3 = false := by unfold ref06_unit'; exact (condT k5).trans rfl
    rw [z]
    exact Runs.ret ⟨rfl, (Grow.refl _)⟩
  · refine Runs.cond (fun k6 => ?_) (fun k6 => ?_)
    · have z : ref06_unit' x1 x2 x3 = false := by unfold ref06_unit'; exact (condF k5).trans ((condT k6).trans rfl)
      rw [z]
      exact Runs.ret ⟨rfl, (Grow.refl _)⟩
    · obtain ⟨H7, e7, g7⟩ := ref01_Cmp_spec n1 n3
      refine Runs.step e7 ?_
      refine Runs.step (seen (avInt_int _ _)) ?_
      refine Runs.cond (fun k8 => ?_) (fun k8 => ?_)
      · have z : ref06_unit' x1 x2 x3 = false := by unfold ref06_unit'; exact (condF k5).trans ((condF k6).trans ((condT k8).trans rfl))
        rw [z]
        exact Runs.ret ⟨rfl, g7⟩
      · obtain ⟨_, H9, e9, s9, rfl, n9, g9, o9⟩ := ref03_Gcd_spec (n1.grow g7) (n2.grow g7)
        refine Runs.step e9 ?_
        refine Runs.step rfl ?_
        refine Runs.step (seen (asSl_v _)) ?_
        refine Runs.step (seen (avInt_int _ _)) ?_
        obtain ⟨s10, H10, e10, n10, g10, o10⟩ := ref01_Of_one
        refine Runs.step e10 ?_
        refine Runs.step (seen (asSl_v _)) ?_
        obtain ⟨H11, e11, g11⟩ := ref01_Cmp_spec (n9.grow g10) n10
        refine Runs.step e11 ?_
        refine Runs.step (seen (avInt_int _ _)) ?_
        have z : ref06_unit' x1 x2 x3 = decide ((cmpN ((gcdN x1 x2).1) [1]) = 0) := by unfold ref06_unit'; exact (condF k5).trans ((condF k6).trans ((condF k8).trans rfl))
        rw [z]
        have G12 := (((g7.trans g9).trans g10).trans g11)
        exact Runs.ret ⟨rfl, G12⟩

def ref06_shown' (x1 : List Nat) (x2 : List Nat) : List Nat :=
  (addN ((mulN x2 x1).1) [1]).1

theorem ref06_shown_spec {h : AH} {a1 : Sl} {x1 : List Nat} {a2 : Sl} {x2 : List Nat} (n1 : Nats h a1 x1) (n2 : Nats h a2 x2)  : Runs (go (.fn F.ref06_shown [a1.v, a2.v]) h) fun v h' => ∃ s1 : Sl, v = s1.v ∧ Nats h' s1 (ref06_shown' x1 x2) ∧ Grow h h' ∧ Own h s1 := by
  rw [u_ref06_shown]
  obtain ⟨s3, H3, e3, n3, g3, o3⟩ := ref01_Mul_spec n2 n1
  refine Runs.step e3 ?_
  refine Runs.step rfl ?_
  refine Runs.step (seen (asSl_v _)) ?_
  refine Runs.step (seen (avInt_int _ _)) ?_
  obtain ⟨s4, H4, e4, n4, g4, o4⟩ := ref01_Of_one
  refine Runs.step e4 ?_
  refine Runs.step (seen (asSl_v _)) ?_
  obtain ⟨s5, H5, e5, n5, g5, o5⟩ := ref01_Add_spec (n3.grow g4) n4
  refine Runs.step e5 ?_
  refine Runs.step rfl ?_
  refine Runs.step (seen (asSl_v _)) ?_
  refine Runs.step (seen (avInt_int _ _)) ?_
  have z : ref06_shown' x1 x2 = (addN ((mulN x2 x1).1) [1]).1 := by unfold ref06_shown'; exact rfl
  rw [z]
  have G6 := ((g3.trans g4).trans g5)
  exact Runs.ret ⟨s5, rfl, n5, G6, (o5.of_le (g3.trans g4))⟩

def ref02_Times' (x1 : List Nat) (x2 : List Nat) (x3 : List Nat) : List Nat :=
  (divN ((mulN x1 x2).1) x3).2.1

theorem ref02_Times_spec {h : AH} {a1 : Sl} {x1 : List Nat} {a2 : Sl} {x2 : List Nat} {a3 : Sl} {x3 : List Nat} (n1 : Nats h a1 x1) (n2 : Nats h a2 x2) (n3 : Nats h a3 x3)  : Runs (go (.fn F.ref02_Times [a1.v, a2.v, a3.v]) h) fun v h' => ∃ s1 : Sl, v = s1.v ∧ Nats h' s1 (ref02_Times' x1 x2 x3) ∧ Grow h h' ∧ Own h s1 := by
  rw [u_ref02_Times]
  obtain ⟨s4, H4, e4, n4, g4, o4⟩ := ref01_Mul_spec n1 n2
  refine Runs.step e4 ?_
  refine Runs.step rfl ?_
  refine Runs.step (seen (asSl_v _)) ?_
  refine Runs.step (seen (avInt_int _ _)) ?_
  obtain ⟨s5, H5, e5, n5, g5, o5⟩ := ref01_Rest_spec n4 (n3.grow g4)
  refine Runs.step e5 ?_
  refine Runs.step (seen (asSl_v _)) ?_
  have z : ref02_Times' x1 x2 x3 = (divN ((mulN x1 x2).1) x3).2.1 := by unfold ref02_Times'; exact rfl
  rw [z]
  exact Runs.ret ⟨s5, rfl, n5, (g4.trans g5), (o5.of_le g4)⟩

theorem ref06_Square_eq : ref06_Square' = paillier_square' := rfl

theorem ref06_Square_is {h : AH} {a1 : Sl} {x1 : List Nat} (n1 : Nats h a1 x1)  : Runs (go (.fn F.ref06_Square [a1.v]) h) fun v h' => ∃ s1 : Sl, v = s1.v ∧ Nats h' s1 (paillier_square' x1) ∧ Grow h h' ∧ Own h s1 := by
  rw [← ref06_Square_eq]
  exact ref06_Square_spec n1

theorem ref06_plain_eq : ref06_plain' = paillier_isPlain' := rfl

theorem ref06_plain_is {h : AH} {a1 : Sl} {x1 : List Nat} {a2 : Sl} {x2 : List Nat} (n1 : Nats h a1 x1) (n2 : Nats h a2 x2)  : Runs (go (.fn F.ref06_plain [a1.v, a2.v]) h) fun v h' => v = .bool (paillier_isPlain' x1 x2) ∧ Grow h h' := by
  rw [← ref06_plain_eq]
  exact ref06_plain_spec n1 n2

theorem ref06_unit_eq : ref06_unit' = paillier_alone' := rfl

theorem ref06_unit_is {h : AH} {a1 : Sl} {x1 : List Nat} {a2 : Sl} {x2 : List Nat} {a3 : Sl} {x3 : List Nat} (n1 : Nats h a1 x1) (n2 : Nats h a2 x2) (n3 : Nats h a3 x3)  : Runs (go (.fn F.ref06_unit [a1.v, a2.v, a3.v]) h) fun v h' => v = .bool (paillier_alone' x1 x2 x3) ∧ Grow h h' := by
  rw [← ref06_unit_eq]
  exact ref06_unit_spec n1 n2 n3

theorem ref06_shown_eq : ref06_shown' = paillier_shown' := rfl

theorem ref06_shown_is {h : AH} {a1 : Sl} {x1 : List Nat} {a2 : Sl} {x2 : List Nat} (n1 : Nats h a1 x1) (n2 : Nats h a2 x2)  : Runs (go (.fn F.ref06_shown [a1.v, a2.v]) h) fun v h' => ∃ s1 : Sl, v = s1.v ∧ Nats h' s1 (paillier_shown' x1 x2) ∧ Grow h h' ∧ Own h s1 := by
  rw [← ref06_shown_eq]
  exact ref06_shown_spec n1 n2

inductive ref06_May_St
  | fn (x1 : List Nat)
  | no

abbrev ref06_May_Res := Bool

noncomputable def ref06_May_fn' (x1 : List Nat) : Option (ref06_May_St ⊕ ref06_May_Res) :=
  cond ((rt x1)) (cond (decide ((List.length x1 : Int) > 0)) ((atI x1 0).bind fun y6 => cond (decide ((Int.tmod ((y6 : Int)) 2) = 1)) (cond (decide ((((bitsN x1 : Nat) : Int)) ≥ 15)) (some (.inr (decide ((((bitsN x1 : Nat) : Int)) ≤ 80)))) (some (.inr false))) (some (.inr false))) (some (.inr false))) (some (.inr false))

noncomputable def ref06_May_step : ref06_May_St → Option (ref06_May_St ⊕ ref06_May_Res)
  | .fn x1 => ref06_May_fn' x1
  | .no => none

@[reducible] def ref06_May_post (h0 : AH) (r : ref06_May_Res) (v : AV) (h' : AH) : Prop := v = .bool r ∧ Grow h0 h'

def ref06_May_At (r : ref06_May_Res) : ref06_May_St → Prop
  | .fn x1 => ∀ {h : AH} {a1 : Sl}, Nats h a1 x1 → Runs (go (.fn F.ref06_May [a1.v]) h) (ref06_May_post h r)
  | .no => True

theorem ref06_May_fn_walk {r : ref06_May_Res} {o : ref06_May_St ⊕ ref06_May_Res} {x1 : List Nat} (e : ref06_May_fn' x1 = some o) (good : GoodS (ref06_May_At r) r o) : ref06_May_At r (.fn x1) := by
  intro h a1 n1
  rw [u_ref06_May]
  unfold ref06_May_fn' at e
  rw [n1.len]
  refine Runs.step (ref01_Right_spec n1) ?_
  refine Runs.step (seen rfl) ?_
  obtain ⟨_, H3, e3, rfl, g3⟩ := ref01_Bits_is n1
  refine Runs.step e3 ?_
  refine Runs.step (seen (avInt_int _ _)) ?_
  refine Runs.cond (fun k4 => ?_) (fun k4 => ?_)
  · replace e := (condT k4).symm.trans e
    refine Runs.cond (fun k5 => ?_) (fun k5 => ?_)
    · replace e := (condT k5).symm.trans e
      obtain ⟨y6, q6, e⟩ := Option.bind_eq_some_iff.1 e
      obtain ⟨r6, j6, l6⟩ := (n1.grow g3).atI q6
      refine Runs.step j6 ?_
      refine Runs.step (rdc l6 (avInt_int _ _)) ?_
      refine Runs.cond (fun k7 => ?_) (fun k7 => ?_)
      · replace e := (condT k7).symm.trans e
        refine Runs.cond (fun k8 => ?_) (fun k8 => ?_)
        · replace e := (condT k8).symm.trans e
          cases e
          cases good
          exact Runs.ret ⟨rfl, g3⟩
        · replace e := (condF k8).symm.trans e
          cases e
          cases good
          exact Runs.ret ⟨rfl, g3⟩
      · replace e := (condF k7).symm.trans e
        cases e
        cases good
        exact Runs.ret ⟨rfl, g3⟩
    · replace e := (condF k5).symm.trans e
      cases e
      cases good
      exact Runs.ret ⟨rfl, g3⟩
  · replace e := (condF k4).symm.trans e
    cases e
    cases good
    exact Runs.ret ⟨rfl, g3⟩

theorem ref06_May_run {s : ref06_May_St} {r : ref06_May_Res} (it : Iter ref06_May_step s r) : ref06_May_At r s := Iter.ind (fun s o e good => by
  cases s with
  | fn x1 => exact @ref06_May_fn_walk _ _ x1 e good
  | no => exact True.intro
  ) it

theorem ref06_May_opt {h : AH} {a1 : Sl} {x1 : List Nat} (n1 : Nats h a1 x1) {r : ref06_May_Res} (q : runP ref06_May_step (.fn x1) = some r) : Runs (go (.fn F.ref06_May [a1.v]) h) (ref06_May_post h r) := ref06_May_run (runP_iter q) n1

theorem bit0 {xs : List Nat} (l : ∀ x ∈ xs, x < B) (h : 0 < xs.length) (r : rt xs = true) : bitN xs 0 = decide (xs[0] % 2 = 1) := by
  have := bit_limb l (q := 0) (r := 0) h (by decide)
  rw [Nat.pow_zero, Nat.div_one] at this
  rw [show (0 : Int) = ((0 : Nat) : Int) from rfl, bitN_nat r]
  exact this

theorem ref06_May_iter {xs : List Nat} (l : ∀ x ∈ xs, x < B) : Iter ref06_May_step (.fn xs) (paillier_May' xs) := by
  refine .done ?_
  show ref06_May_fn' _ = _
  unfold ref06_May_fn' paillier_May'
  cases hr : rt xs with
  | false => rfl
  | true =>
    rw [cond_true, cond_true]
    by_cases hl : 0 < xs.length
    · rw [condT (by rw [decide_eq_true_eq]; omega), show (0 : Int) = ((0 : Nat) : Int) from rfl, atI_nat hl, Option.bind_some, tmod2, show ((0 : Nat) : Int) = 0 from rfl, bit0 l hl hr]
      have : decide (((xs[0] % 2 : Nat) : Int) = 1) = decide (xs[0] % 2 = 1) := by rw [decide_eq_decide]; omega
      rw [this]
      cases decide (xs[0] % 2 = 1)
      · rfl
      · rw [cond_true, cond_true]
        cases decide (((bitsN xs : Nat) : Int) ≥ 15) <;> rfl
    · have : xs = [] := List.length_eq_zero_iff.1 (by omega)
      subst this
      rfl

theorem ref06_May_is {h : AH} {s : Sl} {xs : List Nat} (n : Nats h s xs) : Runs (go (.fn F.ref06_May [s.v]) h) fun v h' => v = .bool (paillier_May' xs) ∧ Grow h h' := ref06_May_opt n (runP_of (ref06_May_iter n.lt))

def ref06_Valid' (x1 : List Nat) (x2 : List Nat) : Bool :=
  cond (((paillier_May' x1))) (((paillier_alone' x2 x1 (paillier_square' x1)))) (false)

theorem ref06_Valid_spec {h : AH} {a1 : Sl} {x1 : List Nat} {a2 : Sl} {x2 : List Nat} (n1 : Nats h a1 x1) (n2 : Nats h a2 x2)  : Runs (go (.fn F.ref06_Valid [a1.v, a2.v]) h) fun v h' => v = .bool (ref06_Valid' x1 x2) ∧ Grow h h' := by
  rw [u_ref06_Valid]
  obtain ⟨_, H3, e3, rfl, g3⟩ := ref06_May_is n1
  refine Runs.step e3 ?_
  refine Runs.step (seen rfl) ?_
  refine Runs.cond (fun k4 => ?_) (fun k4 => ?_)
  · obtain ⟨_, H5, e5, s5, rfl, n5, g5, o5⟩ := ref06_Square_is (n1.grow g3)
    refine Runs.step e5 ?_
    refine Runs.step (seen (asSl_v _)) ?_
    obtain ⟨_, H6, e6, rfl, g6⟩ := ref06_unit_is (n2.grow (g3.trans g5)) (n1.grow (g3.trans g5)) n5
    refine Runs.step e6 ?_
    refine Runs.step (seen rfl) ?_
    have z : ref06_Valid' x1 x2 = ((paillier_alone' x2 x1 (paillier_square' x1))) := by unfold ref06_Valid'; exact (condT k4).trans rfl
    rw [z]
    have G7 := ((g3.trans g5).trans g6)
    exact Runs.ret ⟨rfl, G7⟩
  · have z : ref06_Valid' x1 x2 = false := by unfold ref06_Valid'; exact (condF k4).trans rfl
    rw [z]
    exact Runs.ret ⟨rfl, g3⟩

theorem ref06_Valid_eq : ref06_Valid' = paillier_Valid' := rfl

theorem ref06_Valid_is {h : AH} {a1 : Sl} {x1 : List Nat} {a2 : Sl} {x2 : List Nat} (n1 : Nats h a1 x1) (n2 : Nats h a2 x2)  : Runs (go (.fn F.ref06_Valid [a1.v, a2.v]) h) fun v h' => v = .bool (paillier_Valid' x1 x2) ∧ Grow h h' := by
  rw [← ref06_Valid_eq]
  exact ref06_Valid_spec n1 n2

end Go.Ab

/- Layer 2: the document's power, its walk: printed by wip/tools/walk.py. -/
set_option linter.unusedVariables false
set_option linter.unusedSimpArgs false
set_option maxRecDepth 10000
namespace Go.Ab
open Go.Proofs Go.Num

inductive ref02_Power_St
  | fn (x1 : List Nat) (x2 : List Nat) (x3 : List Nat)
  | p3 (x1 : List Nat) (x2 : List Nat) (x3 : List Nat) (x4 : List Nat) (a5 : Int)

abbrev ref02_Power_Res := List Nat

noncomputable def ref02_Power_fn' (x1 : List Nat) (x2 : List Nat) (x3 : List Nat) : Option (ref02_Power_St ⊕ ref02_Power_Res) :=
  some (.inl (.p3 x1 x2 x3 [1] (IntKind.wrap .i64 ((((bitsN x2 : Nat) : Int)) - 1))))

noncomputable def ref02_Power_p3' (x1 : List Nat) (x2 : List Nat) (x3 : List Nat) (x4 : List Nat) (a5 : Int) : Option (ref02_Power_St ⊕ ref02_Power_Res) :=
  cond (decide (a5 ≥ 0)) ((need ((a5 : Int) ≤ 9223372036854775807)).bind fun c8_0 => cond (((bitN x2 a5))) (some (.inl (.p3 x1 x2 x3 (ref02_Times' (ref02_Times' x4 x4 x3) x1 x3) (IntKind.wrap .i64 (a5 - 1))))) (some (.inl (.p3 x1 x2 x3 (ref02_Times' x4 x4 x3) (IntKind.wrap .i64 (a5 - 1)))))) (some (.inr x4))

noncomputable def ref02_Power_step : ref02_Power_St → Option (ref02_Power_St ⊕ ref02_Power_Res)
  | .fn x1 x2 x3 => ref02_Power_fn' x1 x2 x3
  | .p3 x1 x2 x3 x4 a5 => ref02_Power_p3' x1 x2 x3 x4 a5

@[reducible] def ref02_Power_post (h0 : AH) (r : ref02_Power_Res) (v : AV) (h' : AH) : Prop := ∃ s1 : Sl, v = s1.v ∧ Nats h' s1 r ∧ Grow h0 h' ∧ Own h0 s1

def ref02_Power_At (r : ref02_Power_Res) : ref02_Power_St → Prop
  | .fn x1 x2 x3 => ∀ {h : AH} {a1 : Sl} {a2 : Sl} {a3 : Sl}, Nats h a1 x1 → Nats h a2 x2 → Nats h a3 x3 → Runs (go (.fn F.ref02_Power [a1.v, a2.v, a3.v]) h) (ref02_Power_post h r)
  | .p3 x1 x2 x3 x4 a5 => ∀ {h0 h : AH} {a1 : Sl} {a2 : Sl} {a3 : Sl} {a4 : Sl}, Grow h0 h → Nats h a1 x1 → Nats h a2 x2 → Nats h a3 x3 → Nats h a4 x4 → Own h0 a4 → Runs (go (.pt F.ref02_Power Td.ref02_Power_3 [(0, a1.v), (1, a2.v), (2, a3.v), (7, a4.v), (8, .int .i64 a5)]) h) (ref02_Power_post h0 r)

theorem ref02_Power_fn_walk {r : ref02_Power_Res} {o : ref02_Power_St ⊕ ref02_Power_Res} {x1 : List Nat} {x2 : List Nat} {x3 : List Nat} (e : ref02_Power_fn' x1 x2 x3 = some o) (good : GoodS (ref02_Power_At r) r o) : ref02_Power_At r (.fn x1 x2 x3) := by
  intro h a1 a2 a3 n1 n2 n3
  rw [u_ref02_Power]
  unfold ref02_Power_fn' at e
  obtain ⟨s4, H4, e4, n4, g4, o4⟩ := ref01_Of_one
  refine Runs.step e4 ?_
  refine Runs.step (seen (asSl_v _)) ?_
  obtain ⟨_, H5, e5, rfl, g5⟩ := ref01_Bits_is (n2.grow g4)
  refine Runs.step e5 ?_
  refine Runs.step (seen (avInt_int _ _)) ?_
  cases e
  exact good (g4.trans g5) (n1.grow (g4.trans g5)) (n2.grow (g4.trans g5)) (n3.grow (g4.trans g5)) (n4.grow g5) (o4.of_le (Grow.refl _))

theorem ref02_Power_p3_walk {r : ref02_Power_Res} {o : ref02_Power_St ⊕ ref02_Power_Res} {x1 : List Nat} {x2 : List Nat} {x3 : List Nat} {x4 : List Nat} {a5 : Int} (e : ref02_Power_p3' x1 x2 x3 x4 a5 = some o) (good : GoodS (ref02_Power_At r) r o) : ref02_Power_At r (.p3 x1 x2 x3 x4 a5) := by
  intro h0 h a1 a2 a3 a4 g0 n1 n2 n3 n4 ow4
  rw [p_ref02_Power_3]
  unfold ref02_Power_p3' at e
  refine Runs.cond (fun k6 => ?_) (fun k6 => ?_)
  · replace e := (condT k6).symm.trans e
    obtain ⟨_, H7, e7, s7, rfl, n7, g7, o7⟩ := ref02_Times_spec n4 n4 n3
    refine Runs.step e7 ?_
    refine Runs.step (seen (asSl_v _)) ?_
    obtain ⟨c8_0, q8_0, e⟩ := Option.bind_eq_some_iff.1 e
    obtain ⟨_, H8, e8, rfl, g8⟩ := ref01_Bit_need (n2.grow g7)  c8_0.down
    refine Runs.step e8 ?_
    refine Runs.step (seen rfl) ?_
    refine Runs.cond (fun k9 => ?_) (fun k9 => ?_)
    · replace e := (condT k9).symm.trans e
      obtain ⟨_, H10, e10, s10, rfl, n10, g10, o10⟩ := ref02_Times_spec (n7.grow g8) (n1.grow (g7.trans g8)) (n3.grow (g7.trans g8))
      refine Runs.step e10 ?_
      refine Runs.step (seen (asSl_v _)) ?_
      have G11 := ((g7.trans g8).trans g10)
      have n1_12 := n1.grow G11
      have n2_13 := n2.grow G11
      have n3_14 := n3.grow G11
      have G15 := ((g0.trans g7).trans g8)
      cases e
      have G16 := (G15.trans g10)
      exact good G16 n1_12 n2_13 n3_14 n10 (o10.of_le G15)
    · replace e := (condF k9).symm.trans e
      cases e
      have G10 := ((g0.trans g7).trans g8)
      exact good G10 (n1.grow (g7.trans g8)) (n2.grow (g7.trans g8)) (n3.grow (g7.trans g8)) (n7.grow g8) (o7.of_le g0)
  · replace e := (condF k6).symm.trans e
    cases e
    cases good
    exact Runs.ret ⟨a4, rfl, n4, g0, (ow4.of_le (Grow.refl _))⟩

theorem ref02_Power_run {s : ref02_Power_St} {r : ref02_Power_Res} (it : Iter ref02_Power_step s r) : ref02_Power_At r s := Iter.ind (fun s o e good => by
  cases s with
  | fn x1 x2 x3 => exact @ref02_Power_fn_walk _ _ x1 x2 x3 e good
  | p3 x1 x2 x3 x4 a5 => exact @ref02_Power_p3_walk _ _ x1 x2 x3 x4 a5 e good
  ) it

theorem ref02_Power_opt {h : AH} {a1 : Sl} {a2 : Sl} {a3 : Sl} {x1 : List Nat} {x2 : List Nat} {x3 : List Nat} (n1 : Nats h a1 x1) (n2 : Nats h a2 x2) (n3 : Nats h a3 x3) {r : ref02_Power_Res} (q : runP ref02_Power_step (.fn x1 x2 x3) = some r) : Runs (go (.fn F.ref02_Power [a1.v, a2.v, a3.v]) h) (ref02_Power_post h r) := ref02_Power_run (runP_iter q) n1 n2 n3

end Go.Ab

/- Layers 2 and 6: powers, what they are. -/
set_option linter.unusedVariables false
set_option linter.unusedSimpArgs false
set_option maxRecDepth 10000
namespace Go.Ab
open Go.Proofs Go.Num

def powOk (xs es ns : List Nat) : Prop := rt xs = true ∧ rt es = true ∧ rt ns = true ∧ ns.length ≤ 30 ∧ 1 < num B ns ∧ num B xs < num B ns
def powN (xs es ns : List Nat) : List Nat := digs B (num B xs ^ num B es % num B ns)

theorem mulN_digs {a b : Nat} (ha : a < B ^ 30) (hb : b < B ^ 30) : mulN (digs B a) (digs B b) = (digs B (a * b), 0) := by
  have h60 : a * b < B ^ 64 := by
    calc a * b < B ^ 30 * B ^ 30 := Nat.mul_lt_mul_of_lt_of_lt ha hb
      _ = B ^ 60 := by rw [← Nat.pow_add]
      _ ≤ B ^ 64 := Nat.pow_le_pow_right (by decide) (by decide)
  have up : ∀ {c : Nat}, c < B ^ 30 → c < B ^ 64 := fun h => Nat.lt_of_lt_of_le h (Nat.pow_le_pow_right (by decide) (by decide))
  unfold mulN
  rw [if_pos ⟨rt_digs (up ha), rt_digs (up hb)⟩, num_digs B2, num_digs B2]
  unfold told
  rw [if_pos h60]

theorem lt30 {ns : List Nat} (l : ∀ x ∈ ns, x < B) (h : ns.length ≤ 30) : num B ns < B ^ 30 := Nat.lt_of_lt_of_le (num_lt B1 l) (Nat.pow_le_pow_right (by decide) h)

theorem digs_of_rt {xs : List Nat} (l : ∀ x ∈ xs, x < B) (r : rt xs = true) : digs B (num B xs) = xs := digs_num B2 l (rt_iff.1 r).2

theorem times_digs {ns : List Nat} (l : ∀ x ∈ ns, x < B) (r : rt ns = true) (h : ns.length ≤ 30) (h1 : 0 < num B ns) {a b : Nat} (ha : a < num B ns) (hb : b < num B ns) : ref02_Times' (digs B a) (digs B b) ns = digs B (a * b % num B ns) := by
  have hn := lt30 l h
  have h60 : a * b < B ^ 64 := by
    calc a * b < B ^ 30 * B ^ 30 := Nat.mul_lt_mul_of_lt_of_lt (Nat.lt_trans ha hn) (Nat.lt_trans hb hn)
      _ = B ^ 60 := by rw [← Nat.pow_add]
      _ ≤ B ^ 64 := Nat.pow_le_pow_right (by decide) (by decide)
  unfold ref02_Times'
  rw [mulN_digs (Nat.lt_trans ha hn) (Nat.lt_trans hb hn), divN_rest (rt_digs h60) r (fun e => by rw [e] at h1; simp [num] at h1), num_digs B2]

theorem ref02_Power_loop {xs es ns : List Nat} (lx : ∀ x ∈ xs, x < B) (le : ∀ x ∈ es, x < B) (ln : ∀ x ∈ ns, x < B) (c : powOk xs es ns) : ∀ j : Nat, j ≤ 100000 →
    Iter ref02_Power_step (.p3 xs es ns (digs B (num B xs ^ (num B es / 2 ^ j) % num B ns)) ((j : Int) - 1)) (powN xs es ns)
  | 0, _ => by
    refine .done ?_
    show ref02_Power_p3' _ _ _ _ _ = _
    unfold ref02_Power_p3' powN
    rw [condF (by decide), Nat.pow_zero, Nat.div_one]
  | j + 1, hj => by
    obtain ⟨c1, c2, c3, c4, c5, c6⟩ := c
    have K := ref02_Power_loop lx le ln ⟨c1, c2, c3, c4, c5, c6⟩ j (by omega)
    have h0 : 0 < num B ns := by omega
    have hb := div_bit (num B es) j
    refine .next ?_ K
    show ref02_Power_p3' _ _ _ _ _ = _
    unfold ref02_Power_p3'
    have hneed : ((j : Nat) : Int) ≤ 9223372036854775807 := by omega
    rw [show ((j + 1 : Nat) : Int) - 1 = (j : Int) from by omega, condT (by rw [decide_eq_true_eq]; omega), need_of hneed, Option.bind_some, bitN_nat c2, hb]
    have sq : ref02_Times' (digs B (num B xs ^ (num B es / 2 ^ (j + 1)) % num B ns)) (digs B (num B xs ^ (num B es / 2 ^ (j + 1)) % num B ns)) ns = digs B (num B xs ^ (2 * (num B es / 2 ^ (j + 1))) % num B ns) := by
      rw [times_digs ln c3 c4 h0 (Nat.mod_lt _ h0) (Nat.mod_lt _ h0), ← Nat.mul_mod, ← Nat.pow_add, Nat.two_mul]
    have hw : IntKind.wrap .i64 ((j : Int) - 1) = (j : Int) - 1 := wrap64 (by omega) (by omega)
    rw [sq, hw]
    cases (num B es).testBit j
    · rfl
    · have ml : ref02_Times' (digs B (num B xs ^ (2 * (num B es / 2 ^ (j + 1))) % num B ns)) xs ns = digs B (num B xs ^ (2 * (num B es / 2 ^ (j + 1)) + 1) % num B ns) := by
        have := times_digs ln c3 c4 h0 (Nat.mod_lt (num B xs ^ (2 * (num B es / 2 ^ (j + 1)))) h0) c6
        rw [digs_of_rt lx c1] at this
        rw [this, Nat.mod_mul_mod, ← Nat.pow_succ]
      rw [ml]
      rfl

theorem ref02_Power_need {h : AH} {s t u : Sl} {xs es ns : List Nat} (nx : Nats h s xs) (ne : Nats h t es) (nn : Nats h u ns) (c : powOk xs es ns) : Runs (go (.fn F.ref02_Power [s.v, t.v, u.v]) h) (ref02_Power_post h (powN xs es ns)) := by
  refine ref02_Power_opt nx ne nn (runP_of (.next ?_ (ref02_Power_loop nx.lt ne.lt nn.lt c (bitsN es) ?_)))
  · show ref02_Power_fn' _ _ _ = _
    have hE : num B es < 2 ^ bitsN es := by
      unfold bitsN
      rw [if_pos c.2.1]
      exact (bl_Bl _).1
    have hw : IntKind.wrap .i64 (((bitsN es : Nat) : Int) - 1) = ((bitsN es : Nat) : Int) - 1 := by
      have hlt := num_lt B1 ne.lt
      have h64 := (rt_iff.1 c.2.1).1
      have hb : bitsN es ≤ 64 * es.length := by
        unfold bitsN
        rw [if_pos c.2.1]
        rw [B_pow2] at hlt
        exact bl_le hlt
      exact wrap64 (by omega) (by omega)
    have h1 : ([1] : List Nat) = digs B 1 := by rw [digs_pos B2 (by decide), show 1 / B = 0 from rfl, digs_zero]; rfl
    unfold ref02_Power_fn'
    rw [hw, Nat.div_eq_of_lt hE, Nat.pow_zero, Nat.mod_eq_of_lt c.2.2.2.2.1, h1]
  · have hlt := num_lt B1 ne.lt
    have h64 := (rt_iff.1 c.2.1).1
    unfold bitsN
    rw [if_pos c.2.1]
    rw [B_pow2] at hlt
    have := bl_le hlt
    omega

theorem may_facts {ns : List Nat} (l : ∀ x ∈ ns, x < B) (h : paillier_May' ns = true) : rt ns = true ∧ num B ns % 2 = 1 ∧ 16384 ≤ num B ns ∧ num B ns < 2 ^ 80 := by
  unfold paillier_May' at h
  simp only [Bool.cond_eq_true_distrib, Bool.cond_false_right, Bool.and_eq_true, decide_eq_true_eq] at h
  obtain ⟨h1, h2, h3, h4⟩ := h
  have hb : bitsN ns = bl (num B ns) := by unfold bitsN; rw [if_pos h1]
  rw [hb] at h3 h4
  obtain ⟨b1, b2⟩ := bl_Bl (num B ns)
  refine ⟨h1, ?_, ?_, ?_⟩
  · rw [show (0 : Int) = ((0 : Nat) : Int) from rfl, bitN_nat h1, Nat.testBit_zero, decide_eq_true_eq] at h2
    exact h2
  · rcases b2 with b2 | b2
    · omega
    · exact Nat.le_trans (Nat.pow_le_pow_right (n := 2) (i := 14) (by decide) (by omega)) b2
  · exact Nat.lt_of_lt_of_le b1 (Nat.pow_le_pow_right (by decide) (by omega))

theorem square_may {ns : List Nat} (l : ∀ x ∈ ns, x < B) (h : paillier_May' ns = true) : paillier_square' ns = digs B (num B ns * num B ns) ∧ num B ns * num B ns < B ^ 3 ∧ 1 < num B ns * num B ns ∧ num B ns * num B ns % 2 = 1 := by
  obtain ⟨h1, h2, h3, h4⟩ := may_facts l h
  have h30 : num B ns < B ^ 30 := Nat.lt_trans h4 (by decide)
  refine ⟨?_, ?_, ?_, ?_⟩
  · unfold paillier_square'
    have := mulN_digs h30 h30
    rw [digs_of_rt l h1] at this
    rw [this]
  · calc num B ns * num B ns < 2 ^ 80 * 2 ^ 80 := Nat.mul_lt_mul_of_lt_of_lt h4 h4
      _ < B ^ 3 := by decide
  · calc 1 < 16384 * 16384 := by decide
      _ ≤ num B ns * num B ns := Nat.mul_le_mul h3 h3
  · rw [Nat.mul_mod, h2]

def powerOk (ns xs es : List Nat) : Prop := paillier_May' ns = true ∧ rt xs = true ∧ num B xs < num B ns * num B ns ∧ rt es = true ∧ es.length ≤ 8

theorem paillier_power_need {h : AH} {s t u : Sl} {ns xs es : List Nat} (nn : Nats h s ns) (nx : Nats h t xs) (ne : Nats h u es) (c : powerOk ns xs es) :
    Runs (go (.fn F.paillier_power [s.v, t.v, u.v]) h) fun v h' => ∃ s1 : Sl, v = s1.v ∧ Nats h' s1 (powN xs es (paillier_square' ns)) ∧ Grow h h' ∧ Own h s1 := by
  obtain ⟨c1, c2, c3, c4, c5⟩ := c
  obtain ⟨q1, q2, q3, q4⟩ := square_may nn.lt c1
  have hN0 : num B ns * num B ns ≠ 0 := by omega
  rw [u_paillier_power]
  obtain ⟨_, h1, e1, s1, rfl, n1, g1, o1⟩ := paillier_square_spec nn
  refine Runs.step e1 ?_
  refine Runs.step (seen (asSl_v _)) ?_
  rw [q1] at n1 ⊢
  have hl3 : (digs B (num B ns * num B ns)).length ≤ 3 := (digs_len B2 _ 3).2 q2
  have hn : num B (digs B (num B ns * num B ns)) = num B ns * num B ns := num_digs B2 _
  obtain ⟨_, h2, e2, j, v, s0, s2, s3, rfl, v1, v2, b, m0, m2, m3, g2⟩ := mont_New_ok n1 (rt_digs (Nat.lt_of_lt_of_le q2 (Nat.pow_le_pow_right (by decide) (by decide)))) (fun e => hN0 (by rw [List.length_eq_zero_iff] at e; exact (digs_nil B2).1 e)) (by omega) (by rw [hn]; exact q4) (by rw [hn]; exact q3)
  refine Runs.step e2 ?_
  refine Runs.step rfl ?_
  refine Runs.step (seen rfl) ?_
  refine Runs.step (seen (avInt_int _ _)) ?_
  rw [hn] at v2 m2 m3
  have ring : RingOk (num B ns * num B ns) (digs B (num B ns * num B ns)).length v := ⟨by omega, by have := num_lt B1 (digs_lt B2 (num B ns * num B ns)); rwa [hn] at this, q3, q4, v1, v2, rfl⟩
  have f1 : digs B (B ^ (1 * (digs B (num B ns * num B ns)).length) % (num B ns * num B ns)) = form (num B ns * num B ns) (digs B (num B ns * num B ns)).length 1 := by
    unfold form
    rw [Nat.one_mul, Nat.one_mul, B_pow2]
  have f2 : B ^ (2 * (digs B (num B ns * num B ns)).length) = 2 ^ (64 * (digs B (num B ns * num B ns)).length) * 2 ^ (64 * (digs B (num B ns * num B ns)).length) := by
    rw [Nat.two_mul, Nat.pow_add, B_pow2]
  rw [f1] at m2
  rw [f2] at m3
  have it := mont_Ring_Exp_iter ring c3 ne.lt c4 c5
  rw [digs_of_rt nx.lt c2] at it
  obtain ⟨_, h3, e3, s4, rfl, n4, g4, o4⟩ := mont_Ring_Exp_opt b m0 m2 m3 (nx.grow (g1.trans g2)) (ne.grow (g1.trans g2)) it
  refine Runs.step e3 ?_
  refine Runs.step rfl ?_
  refine Runs.step (seen (asSl_v _)) ?_
  refine Runs.step (seen (avInt_int _ _)) ?_
  refine Runs.ret ⟨s4, rfl, ?_, (g1.trans g2).trans g4, o4.of_le (g1.trans g2)⟩
  unfold powN
  rw [hn]
  exact n4

end Go.Ab

/- Layer 6: faults, their walk: printed by wip/tools/walk.py. -/
set_option linter.unusedVariables false
set_option linter.unusedSimpArgs false
set_option maxRecDepth 10000
namespace Go.Ab
open Go.Proofs Go.Num

inductive paillier_fault_St
  | fn (x1 : List Nat) (x2 : List (List Nat))
  | p4 (x1 : List Nat) (x2 : List (List Nat)) (a3 : Int) (a4 : Int)

abbrev paillier_fault_Res := Int

noncomputable def paillier_fault_fn' (x1 : List Nat) (x2 : List (List Nat)) : Option (paillier_fault_St ⊕ paillier_fault_Res) :=
  cond (!((paillier_May' x1))) (some (.inr 1)) (some (.inl (.p4 x1 x2 (List.length x2 : Int) 0)))

noncomputable def paillier_fault_p4' (x1 : List Nat) (x2 : List (List Nat)) (a3 : Int) (a4 : Int) : Option (paillier_fault_St ⊕ paillier_fault_Res) :=
  cond (decide (a4 < a3)) ((atX x2 a4).bind fun y6 => cond (!((paillier_Valid' x1 y6))) (some (.inr 11)) (some (.inl (.p4 x1 x2 a3 (IntKind.wrap .i64 (a4 + 1)))))) (some (.inr 0))

noncomputable def paillier_fault_step : paillier_fault_St → Option (paillier_fault_St ⊕ paillier_fault_Res)
  | .fn x1 x2 => paillier_fault_fn' x1 x2
  | .p4 x1 x2 a3 a4 => paillier_fault_p4' x1 x2 a3 a4

@[reducible] def paillier_fault_post (h0 : AH) (r : paillier_fault_Res) (v : AV) (h' : AH) : Prop := v = .int .i64 r ∧ Grow h0 h'

def paillier_fault_At (r : paillier_fault_Res) : paillier_fault_St → Prop
  | .fn x1 x2 => ∀ {h : AH} {a1 : Sl} {a2 : Sl}, Nats h a1 x1 → Seq El.nats h a2 x2 → Runs (go (.fn F.paillier_fault [a1.v, a2.v]) h) (paillier_fault_post h r)
  | .p4 x1 x2 a3 a4 => ∀ {h0 h : AH} {a1 : Sl} {a2 : Sl}, Grow h0 h → Nats h a1 x1 → Seq El.nats h a2 x2 → Runs (go (.pt F.paillier_fault Td.paillier_fault_4 [(0, a1.v), (10, a2.v), (11, .int .i64 a3), (12, .int .i64 a4)]) h) (paillier_fault_post h0 r)

theorem paillier_fault_fn_walk {r : paillier_fault_Res} {o : paillier_fault_St ⊕ paillier_fault_Res} {x1 : List Nat} {x2 : List (List Nat)} (e : paillier_fault_fn' x1 x2 = some o) (good : GoodS (paillier_fault_At r) r o) : paillier_fault_At r (.fn x1 x2) := by
  intro h a1 a2 n1 n2
  rw [u_paillier_fault]
  unfold paillier_fault_fn' at e
  rw [n2.len]
  obtain ⟨_, H3, e3, rfl, g3⟩ := paillier_May_spec n1
  refine Runs.step e3 ?_
  refine Runs.step (seen rfl) ?_
  refine Runs.cond (fun k4 => ?_) (fun k4 => ?_)
  · replace e := (condT k4).symm.trans e
    cases e
    cases good
    exact Runs.ret ⟨rfl, g3⟩
  · replace e := (condF k4).symm.trans e
    cases e
    exact good g3 (n1.grow g3) (n2.grow g3)

theorem paillier_fault_p4_walk {r : paillier_fault_Res} {o : paillier_fault_St ⊕ paillier_fault_Res} {x1 : List Nat} {x2 : List (List Nat)} {a3 : Int} {a4 : Int} (e : paillier_fault_p4' x1 x2 a3 a4 = some o) (good : GoodS (paillier_fault_At r) r o) : paillier_fault_At r (.p4 x1 x2 a3 a4) := by
  intro h0 h a1 a2 g0 n1 n2
  rw [p_paillier_fault_4]
  unfold paillier_fault_p4' at e
  rw [n2.len]
  refine Runs.cond (fun k5 => ?_) (fun k5 => ?_)
  · replace e := (condT k5).symm.trans e
    obtain ⟨y6, q6, e⟩ := Option.bind_eq_some_iff.1 e
    obtain ⟨r6, cs6, j6, E6, l6⟩ := (n2).at q6
    obtain ⟨s6, rfl, n6⟩ := E6
    refine Runs.step j6 ?_
    refine Runs.step (l6.rd0 (Grow.refl _) rfl (asSl_v _)) ?_
    obtain ⟨_, H7, e7, rfl, g7⟩ := paillier_Valid_spec n1 n6
    refine Runs.step e7 ?_
    refine Runs.step (seen rfl) ?_
    refine Runs.cond (fun k8 => ?_) (fun k8 => ?_)
    · replace e := (condT k8).symm.trans e
      cases e
      cases good
      exact Runs.ret ⟨rfl, (g0.trans g7)⟩
    · replace e := (condF k8).symm.trans e
      cases e
      exact good (g0.trans g7) (n1.grow g7) (n2.grow g7)
  · replace e := (condF k5).symm.trans e
    cases e
    cases good
    exact Runs.ret ⟨rfl, g0⟩

theorem paillier_fault_run {s : paillier_fault_St} {r : paillier_fault_Res} (it : Iter paillier_fault_step s r) : paillier_fault_At r s := Iter.ind (fun s o e good => by
  cases s with
  | fn x1 x2 => exact @paillier_fault_fn_walk _ _ x1 x2 e good
  | p4 x1 x2 a3 a4 => exact @paillier_fault_p4_walk _ _ x1 x2 a3 a4 e good
  ) it

theorem paillier_fault_opt {h : AH} {a1 : Sl} {a2 : Sl} {x1 : List Nat} {x2 : List (List Nat)} (n1 : Nats h a1 x1) (n2 : Seq El.nats h a2 x2) {r : paillier_fault_Res} (q : runP paillier_fault_step (.fn x1 x2) = some r) : Runs (go (.fn F.paillier_fault [a1.v, a2.v]) h) (paillier_fault_post h r) := paillier_fault_run (runP_iter q) n1 n2

inductive law06_few_St
  | fn (x1 : List (List Nat))
  | p2 (x1 : List (List Nat)) (a2 : Int)

abbrev law06_few_Res := Bool

noncomputable def law06_few_fn' (x1 : List (List Nat)) : Option (law06_few_St ⊕ law06_few_Res) :=
  some (.inl (.p2 x1 0))

noncomputable def law06_few_p2' (x1 : List (List Nat)) (a2 : Int) : Option (law06_few_St ⊕ law06_few_Res) :=
  cond (decide (a2 < (List.length x1 : Int))) ((atX x1 a2).bind fun y4 => cond (decide ((List.length y4 : Int) > 20)) (some (.inr false)) (some (.inl (.p2 x1 (IntKind.wrap .i64 (a2 + 1)))))) (some (.inr true))

noncomputable def law06_few_step : law06_few_St → Option (law06_few_St ⊕ law06_few_Res)
  | .fn x1 => law06_few_fn' x1
  | .p2 x1 a2 => law06_few_p2' x1 a2

@[reducible] def law06_few_post (h0 : AH) (r : law06_few_Res) (v : AV) (h' : AH) : Prop := v = .bool r ∧ Grow h0 h'

def law06_few_At (r : law06_few_Res) : law06_few_St → Prop
  | .fn x1 => ∀ {h : AH} {a1 : Sl}, Seq El.nats h a1 x1 → Runs (go (.fn F.law06_few [a1.v]) h) (law06_few_post h r)
  | .p2 x1 a2 => ∀ {h0 h : AH} {a1 : Sl}, Grow h0 h → Seq El.nats h a1 x1 → Runs (go (.pt F.law06_few Td.law06_few_2 [(0, a1.v), (3, .int .i64 a2)]) h) (law06_few_post h0 r)

theorem law06_few_fn_walk {r : law06_few_Res} {o : law06_few_St ⊕ law06_few_Res} {x1 : List (List Nat)} (e : law06_few_fn' x1 = some o) (good : GoodS (law06_few_At r) r o) : law06_few_At r (.fn x1) := by
  intro h a1 n1
  rw [u_law06_few]
  unfold law06_few_fn' at e
  cases e
  exact good (Grow.refl _) n1

theorem law06_few_p2_walk {r : law06_few_Res} {o : law06_few_St ⊕ law06_few_Res} {x1 : List (List Nat)} {a2 : Int} (e : law06_few_p2' x1 a2 = some o) (good : GoodS (law06_few_At r) r o) : law06_few_At r (.p2 x1 a2) := by
  intro h0 h a1 g0 n1
  rw [p_law06_few_2]
  unfold law06_few_p2' at e
  rw [n1.len]
  refine Runs.cond (fun k3 => ?_) (fun k3 => ?_)
  · replace e := (condT k3).symm.trans e
    obtain ⟨y4, q4, e⟩ := Option.bind_eq_some_iff.1 e
    obtain ⟨r4, cs4, j4, E4, l4⟩ := (n1).at q4
    obtain ⟨s4, rfl, n4⟩ := E4
    refine Runs.step j4 ?_
    refine Runs.step (l4.rd0 (Grow.refl _) rfl (asSl_v _)) ?_
    rw [n4.len]
    refine Runs.cond (fun k5 => ?_) (fun k5 => ?_)
    · replace e := (condT k5).symm.trans e
      cases e
      cases good
      exact Runs.ret ⟨rfl, g0⟩
    · replace e := (condF k5).symm.trans e
      cases e
      exact good g0 n1
  · replace e := (condF k3).symm.trans e
    cases e
    cases good
    exact Runs.ret ⟨rfl, g0⟩

theorem law06_few_run {s : law06_few_St} {r : law06_few_Res} (it : Iter law06_few_step s r) : law06_few_At r s := Iter.ind (fun s o e good => by
  cases s with
  | fn x1 => exact @law06_few_fn_walk _ _ x1 e good
  | p2 x1 a2 => exact @law06_few_p2_walk _ _ x1 a2 e good
  ) it

theorem law06_few_opt {h : AH} {a1 : Sl} {x1 : List (List Nat)} (n1 : Seq El.nats h a1 x1) {r : law06_few_Res} (q : runP law06_few_step (.fn x1) = some r) : Runs (go (.fn F.law06_few [a1.v]) h) (law06_few_post h r) := law06_few_run (runP_iter q) n1

end Go.Ab

/- Layer 6: faults; few. -/
set_option linter.unusedVariables false
set_option linter.unusedSimpArgs false
set_option maxRecDepth 10000
namespace Go.Ab
open Go.Proofs Go.Num

def faultF (ns : List Nat) (cs : List (List Nat)) : Int := cond (!paillier_May' ns) 1 (cond (cs.all fun c => paillier_Valid' ns c) 0 11)
def few06 (l : List (List Nat)) : Bool := l.all fun x => decide (x.length ≤ 20)

theorem fault_loop {ns : List Nat} {cs : List (List Nat)} (hl : cs.length ≤ 1000000) : ∀ (d i : Nat), i + d = cs.length → Iter paillier_fault_step (.p4 ns cs (cs.length : Int) (i : Int)) (cond ((cs.drop i).all fun c => paillier_Valid' ns c) 0 11)
  | 0, i, hi => by
    refine .done ?_
    show paillier_fault_p4' _ _ _ _ = _
    unfold paillier_fault_p4'
    rw [condF (by rw [decide_eq_false_iff_not]; omega), List.drop_eq_nil_of_le (by omega)]
    rfl
  | d + 1, i, hi => by
    have hi' : i < cs.length := by omega
    have K := fault_loop (ns := ns) hl d (i + 1) (by omega)
    rw [List.drop_eq_getElem_cons hi', List.all_cons]
    have step : paillier_fault_p4' ns cs (cs.length : Int) (i : Int) = cond (!(paillier_Valid' ns cs[i])) (some (.inr 11)) (some (.inl (.p4 ns cs (cs.length : Int) ((i + 1 : Nat) : Int)))) := by
      unfold paillier_fault_p4'
      rw [condT (by rw [decide_eq_true_eq]; omega), atX_nat hi', Option.bind_some, wrap_succ (by omega)]
    cases hv : paillier_Valid' ns cs[i]
    · refine .done ?_
      show paillier_fault_p4' _ _ _ _ = _
      rw [step, hv]
      rfl
    · refine .next ?_ K
      show paillier_fault_p4' _ _ _ _ = _
      rw [step, hv]
      rfl

theorem fault_iter {ns : List Nat} {cs : List (List Nat)} (hl : cs.length ≤ 1000000) : Iter paillier_fault_step (.fn ns cs) (faultF ns cs) := by
  have K := fault_loop (ns := ns) hl cs.length 0 (by omega)
  unfold faultF
  cases hm : paillier_May' ns
  · refine .done ?_
    show paillier_fault_fn' _ _ = _
    unfold paillier_fault_fn'
    rw [hm]
    rfl
  · refine .next ?_ K
    show paillier_fault_fn' _ _ = _
    unfold paillier_fault_fn'
    rw [hm]
    rfl

theorem few_loop {l : List (List Nat)} (hl : l.length ≤ 1000000) : ∀ (d i : Nat), i + d = l.length → Iter law06_few_step (.p2 l (i : Int)) ((l.drop i).all fun x => decide (x.length ≤ 20))
  | 0, i, hi => by
    refine .done ?_
    show law06_few_p2' _ _ = _
    unfold law06_few_p2'
    rw [condF (by rw [decide_eq_false_iff_not]; omega), List.drop_eq_nil_of_le (by omega)]
    rfl
  | d + 1, i, hi => by
    have hi' : i < l.length := by omega
    have K := few_loop hl d (i + 1) (by omega)
    rw [List.drop_eq_getElem_cons hi', List.all_cons]
    have step : law06_few_p2' l (i : Int) = cond (decide (((l[i]).length : Int) > 20)) (some (.inr false)) (some (.inl (.p2 l ((i + 1 : Nat) : Int)))) := by
      unfold law06_few_p2'
      rw [condT (by rw [decide_eq_true_eq]; omega), atX_nat hi', Option.bind_some, wrap_succ (by omega)]
    by_cases h20 : (l[i]).length ≤ 20
    · rw [show decide ((l[i]).length ≤ 20) = true from by rw [decide_eq_true_eq]; exact h20, Bool.true_and]
      refine .next ?_ K
      show law06_few_p2' _ _ = _
      rw [step, condF (by rw [decide_eq_false_iff_not]; omega)]
    · rw [show decide ((l[i]).length ≤ 20) = false from by rw [decide_eq_false_iff_not]; exact h20, Bool.false_and]
      refine .done ?_
      show law06_few_p2' _ _ = _
      rw [step, condT (by rw [decide_eq_true_eq]; omega)]

theorem few_iter {l : List (List Nat)} (hl : l.length ≤ 1000000) : Iter law06_few_step (.fn l) (few06 l) := by
  refine .next rfl ?_
  have := few_loop hl l.length 0 (by omega)
  exact this

theorem paillier_fault_is {h : AH} {s t : Sl} {ns : List Nat} {cs : List (List Nat)} (n : Nats h s ns) (m : Seq El.nats h t cs) (hl : cs.length ≤ 1000000) : Runs (go (.fn F.paillier_fault [s.v, t.v]) h) (paillier_fault_post h (faultF ns cs)) := paillier_fault_opt n m (runP_of (fault_iter hl))
theorem law06_few_is {h : AH} {t : Sl} {l : List (List Nat)} (m : Seq El.nats h t l) (hl : l.length ≤ 1000000) : Runs (go (.fn F.law06_few [t.v]) h) (law06_few_post h (few06 l)) := law06_few_opt m (runP_of (few_iter hl))

end Go.Ab

/- Layer 6: what a key does, its walk: printed by wip/tools/walk.py. -/
set_option linter.unusedVariables false
set_option linter.unusedSimpArgs false
set_option maxRecDepth 10000
namespace Go.Ab
open Go.Proofs Go.Num

inductive ref06_hidden_St
  | fn (x1 : List Nat) (x2 : List Nat)
  | no

abbrev ref06_hidden_Res := List Nat

noncomputable def ref06_hidden_fn' (x1 : List Nat) (x2 : List Nat) : Option (ref06_hidden_St ⊕ ref06_hidden_Res) :=
  (need (powOk x2 x1 (paillier_square' x1))).bind fun c4_0 => some (.inr (powN x2 x1 (paillier_square' x1)))

noncomputable def ref06_hidden_step : ref06_hidden_St → Option (ref06_hidden_St ⊕ ref06_hidden_Res)
  | .fn x1 x2 => ref06_hidden_fn' x1 x2
  | .no => none

@[reducible] def ref06_hidden_post (h0 : AH) (r : ref06_hidden_Res) (v : AV) (h' : AH) : Prop := ∃ s1 : Sl, v = s1.v ∧ Nats h' s1 r ∧ Grow h0 h' ∧ Own h0 s1

def ref06_hidden_At (r : ref06_hidden_Res) : ref06_hidden_St → Prop
  | .fn x1 x2 => ∀ {h : AH} {a1 : Sl} {a2 : Sl}, Nats h a1 x1 → Nats h a2 x2 → Runs (go (.fn F.ref06_hidden [a1.v, a2.v]) h) (ref06_hidden_post h r)
  | .no => True

theorem ref06_hidden_fn_walk {r : ref06_hidden_Res} {o : ref06_hidden_St ⊕ ref06_hidden_Res} {x1 : List Nat} {x2 : List Nat} (e : ref06_hidden_fn' x1 x2 = some o) (good : GoodS (ref06_hidden_At r) r o) : ref06_hidden_At r (.fn x1 x2) := by
  intro h a1 a2 n1 n2
  rw [u_ref06_hidden]
  unfold ref06_hidden_fn' at e
  obtain ⟨_, H3, e3, s3, rfl, n3, g3, o3⟩ := ref06_Square_is n1
  refine Runs.step e3 ?_
  refine Runs.step (seen (asSl_v _)) ?_
  obtain ⟨c4_0, q4_0, e⟩ := Option.bind_eq_some_iff.1 e
  obtain ⟨_, H4, e4, s4, rfl, n4, g4, o4⟩ := ref02_Power_need (n2.grow g3) (n1.grow g3) n3  c4_0.down
  refine Runs.step e4 ?_
  refine Runs.step (seen (asSl_v _)) ?_
  cases e
  cases good
  exact Runs.ret ⟨s4, rfl, n4, (g3.trans g4), (o4.of_le g3)⟩

theorem ref06_hidden_run {s : ref06_hidden_St} {r : ref06_hidden_Res} (it : Iter ref06_hidden_step s r) : ref06_hidden_At r s := Iter.ind (fun s o e good => by
  cases s with
  | fn x1 x2 => exact @ref06_hidden_fn_walk _ _ x1 x2 e good
  | no => exact True.intro
  ) it

theorem ref06_hidden_opt {h : AH} {a1 : Sl} {a2 : Sl} {x1 : List Nat} {x2 : List Nat} (n1 : Nats h a1 x1) (n2 : Nats h a2 x2) {r : ref06_hidden_Res} (q : runP ref06_hidden_step (.fn x1 x2) = some r) : Runs (go (.fn F.ref06_hidden [a1.v, a2.v]) h) (ref06_hidden_post h r) := ref06_hidden_run (runP_iter q) n1 n2

inductive paillier_Encrypt_St
  | fn (x1 : List Nat) (x2 : List Nat) (x3 : List Nat)
  | no

abbrev paillier_Encrypt_Res := List Nat × Int

noncomputable def paillier_Encrypt_fn' (x1 : List Nat) (x2 : List Nat) (x3 : List Nat) : Option (paillier_Encrypt_St ⊕ paillier_Encrypt_Res) :=
  cond (!((paillier_May' x1))) (some (.inr ([], 1))) (cond (!((paillier_isPlain' x1 x2))) (some (.inr ([], 10))) (cond (!((paillier_alone' x3 x1 x1))) (some (.inr ([], 1))) ((need (powerOk x1 x3 x1)).bind fun c16_0 => some (.inr ((paillier_times' x1 (paillier_shown' x1 x2) (powN x3 x1 (paillier_square' x1))), 0)))))

noncomputable def paillier_Encrypt_step : paillier_Encrypt_St → Option (paillier_Encrypt_St ⊕ paillier_Encrypt_Res)
  | .fn x1 x2 x3 => paillier_Encrypt_fn' x1 x2 x3
  | .no => none

@[reducible] def paillier_Encrypt_post (h0 : AH) (r : paillier_Encrypt_Res) (v : AV) (h' : AH) : Prop := ∃ s1 : Sl, v = .tup [s1.v, .int .i64 r.2] ∧ Nats h' s1 r.1 ∧ Grow h0 h' ∧ Own h0 s1

def paillier_Encrypt_At (r : paillier_Encrypt_Res) : paillier_Encrypt_St → Prop
  | .fn x1 x2 x3 => ∀ {h : AH} {a1 : Sl} {a2 : Sl} {a3 : Sl}, Nats h a1 x1 → Nats h a2 x2 → Nats h a3 x3 → Runs (go (.fn F.paillier_Encrypt [a1.v, a2.v, a3.v]) h) (paillier_Encrypt_post h r)
  | .no => True

theorem paillier_Encrypt_fn_walk {r : paillier_Encrypt_Res} {o : paillier_Encrypt_St ⊕ paillier_Encrypt_Res} {x1 : List Nat} {x2 : List Nat} {x3 : List Nat} (e : paillier_Encrypt_fn' x1 x2 x3 = some o) (good : GoodS (paillier_Encrypt_At r) r o) : paillier_Encrypt_At r (.fn x1 x2 x3) := by
  intro h a1 a2 a3 n1 n2 n3
  rw [u_paillier_Encrypt]
  unfold paillier_Encrypt_fn' at e
  obtain ⟨_, H4, e4, rfl, g4⟩ := paillier_May_spec n1
  refine Runs.step e4 ?_
  refine Runs.step (seen rfl) ?_
  refine Runs.cond (fun k5 => ?_) (fun k5 => ?_)
  · replace e := (condT k5).symm.trans e
    cases e
    cases good
    exact Runs.ret ⟨(⟨none, 0, .is 0⟩ : Sl), rfl, (Nats.nil _), g4, (Own.nil _)⟩
  · replace e := (condF k5).symm.trans e
    obtain ⟨_, H6, e6, rfl, g6⟩ := paillier_isPlain_spec (n1.grow g4) (n2.grow g4)
    refine Runs.step e6 ?_
    refine Runs.step (seen rfl) ?_
    refine Runs.cond (fun k7 => ?_) (fun k7 => ?_)
    · replace e := (condT k7).symm.trans e
      cases e
      cases good
      exact Runs.ret ⟨(⟨none, 0, .is 0⟩ : Sl), rfl, (Nats.nil _), (g4.trans g6), (Own.nil _)⟩
    · replace e := (condF k7).symm.trans e
      obtain ⟨_, H8, e8, rfl, g8⟩ := paillier_alone_spec (n3.grow (g4.trans g6)) (n1.grow (g4.trans g6)) (n1.grow (g4.trans g6))
      refine Runs.step e8 ?_
      refine Runs.step (seen rfl) ?_
      refine Runs.cond (fun k9 => ?_) (fun k9 => ?_)
      · replace e := (condT k9).symm.trans e
        cases e
        cases good
        have G10 := ((g4.trans g6).trans g8)
        exact Runs.ret ⟨(⟨none, 0, .is 0⟩ : Sl), rfl, (Nats.nil _), G10, (Own.nil _)⟩
      · replace e := (condF k9).symm.trans e
        have G10 := ((g4.trans g6).trans g8)
        have n1_11 := n1.grow G10
        have n2_12 := n2.grow G10
        obtain ⟨_, H13, e13, s13, rfl, n13, g13, o13⟩ := paillier_shown_spec n1_11 n2_12
        refine Runs.step e13 ?_
        refine Runs.step (seen (asSl_v _)) ?_
        have G14 := (G10.trans g13)
        have n3_15 := n3.grow G14
        obtain ⟨c16_0, q16_0, e⟩ := Option.bind_eq_some_iff.1 e
        obtain ⟨_, H16, e16, s16, rfl, n16, g16, o16⟩ := paillier_power_need (n1_11.grow g13) n3_15 (n1_11.grow g13)  c16_0.down
        refine Runs.step e16 ?_
        refine Runs.step (seen (asSl_v _)) ?_
        obtain ⟨_, H17, e17, s17, rfl, n17, g17, o17⟩ := paillier_times_spec (n1_11.grow (g13.trans g16)) (n13.grow g16) n16
        refine Runs.step e17 ?_
        refine Runs.step (seen (asSl_v _)) ?_
        cases e
        cases good
        have G18 := (G14.trans g16)
        have G19 := (G18.trans g17)
        exact Runs.ret ⟨s17, rfl, n17, G19, (o17.of_le G18)⟩

theorem paillier_Encrypt_run {s : paillier_Encrypt_St} {r : paillier_Encrypt_Res} (it : Iter paillier_Encrypt_step s r) : paillier_Encrypt_At r s := Iter.ind (fun s o e good => by
  cases s with
  | fn x1 x2 x3 => exact @paillier_Encrypt_fn_walk _ _ x1 x2 x3 e good
  | no => exact True.intro
  ) it

theorem paillier_Encrypt_opt {h : AH} {a1 : Sl} {a2 : Sl} {a3 : Sl} {x1 : List Nat} {x2 : List Nat} {x3 : List Nat} (n1 : Nats h a1 x1) (n2 : Nats h a2 x2) (n3 : Nats h a3 x3) {r : paillier_Encrypt_Res} (q : runP paillier_Encrypt_step (.fn x1 x2 x3) = some r) : Runs (go (.fn F.paillier_Encrypt [a1.v, a2.v, a3.v]) h) (paillier_Encrypt_post h r) := paillier_Encrypt_run (runP_iter q) n1 n2 n3

inductive ref06_Encrypt_St
  | fn (x1 : List Nat) (x2 : List Nat) (x3 : List Nat)
  | no

abbrev ref06_Encrypt_Res := List Nat × Int

noncomputable def ref06_Encrypt_fn' (x1 : List Nat) (x2 : List Nat) (x3 : List Nat) : Option (ref06_Encrypt_St ⊕ ref06_Encrypt_Res) :=
  cond (!((paillier_May' x1))) (some (.inr ([], 1))) (cond (!((paillier_isPlain' x1 x2))) (some (.inr ([], 10))) (cond (!((paillier_alone' x3 x1 x1))) (some (.inr ([], 1))) ((runP ref06_hidden_step (.fn x1 x3)).bind fun p16 => some (.inr ((ref02_Times' (paillier_shown' x1 x2) p16 (paillier_square' x1)), 0)))))

noncomputable def ref06_Encrypt_step : ref06_Encrypt_St → Option (ref06_Encrypt_St ⊕ ref06_Encrypt_Res)
  | .fn x1 x2 x3 => ref06_Encrypt_fn' x1 x2 x3
  | .no => none

@[reducible] def ref06_Encrypt_post (h0 : AH) (r : ref06_Encrypt_Res) (v : AV) (h' : AH) : Prop := ∃ s1 : Sl, v = .tup [s1.v, .int .i64 r.2] ∧ Nats h' s1 r.1 ∧ Grow h0 h' ∧ Own h0 s1

def ref06_Encrypt_At (r : ref06_Encrypt_Res) : ref06_Encrypt_St → Prop
  | .fn x1 x2 x3 => ∀ {h : AH} {a1 : Sl} {a2 : Sl} {a3 : Sl}, Nats h a1 x1 → Nats h a2 x2 → Nats h a3 x3 → Runs (go (.fn F.ref06_Encrypt [a1.v, a2.v, a3.v]) h) (ref06_Encrypt_post h r)
  | .no => True

theorem ref06_Encrypt_fn_walk {r : ref06_Encrypt_Res} {o : ref06_Encrypt_St ⊕ ref06_Encrypt_Res} {x1 : List Nat} {x2 : List Nat} {x3 : List Nat} (e : ref06_Encrypt_fn' x1 x2 x3 = some o) (good : GoodS (ref06_Encrypt_At r) r o) : ref06_Encrypt_At r (.fn x1 x2 x3) := by
  intro h a1 a2 a3 n1 n2 n3
  rw [u_ref06_Encrypt]
  unfold ref06_Encrypt_fn' at e
  obtain ⟨_, H4, e4, rfl, g4⟩ := ref06_May_is n1
  refine Runs.step e4 ?_
  refine Runs.step (seen rfl) ?_
  refine Runs.cond (fun k5 => ?_) (fun k5 => ?_)
  · replace e := (condT k5).symm.trans e
    cases e
    cases good
    exact Runs.ret ⟨(⟨none, 0, .is 0⟩ : Sl), rfl, (Nats.nil _), g4, (Own.nil _)⟩
  · replace e := (condF k5).symm.trans e
    obtain ⟨_, H6, e6, rfl, g6⟩ := ref06_plain_is (n1.grow g4) (n2.grow g4)
    refine Runs.step e6 ?_
    refine Runs.step (seen rfl) ?_
    refine Runs.cond (fun k7 => ?_) (fun k7 => ?_)
    · replace e := (condT k7).symm.trans e
      cases e
      cases good
      exact Runs.ret ⟨(⟨none, 0, .is 0⟩ : Sl), rfl, (Nats.nil _), (g4.trans g6), (Own.nil _)⟩
    · replace e := (condF k7).symm.trans e
      obtain ⟨_, H8, e8, rfl, g8⟩ := ref06_unit_is (n3.grow (g4.trans g6)) (n1.grow (g4.trans g6)) (n1.grow (g4.trans g6))
      refine Runs.step e8 ?_
      refine Runs.step (seen rfl) ?_
      refine Runs.cond (fun k9 => ?_) (fun k9 => ?_)
      · replace e := (condT k9).symm.trans e
        cases e
        cases good
        have G10 := ((g4.trans g6).trans g8)
        exact Runs.ret ⟨(⟨none, 0, .is 0⟩ : Sl), rfl, (Nats.nil _), G10, (Own.nil _)⟩
      · replace e := (condF k9).symm.trans e
        have G10 := ((g4.trans g6).trans g8)
        have n1_11 := n1.grow G10
        have n2_12 := n2.grow G10
        obtain ⟨_, H13, e13, s13, rfl, n13, g13, o13⟩ := ref06_shown_is n1_11 n2_12
        refine Runs.step e13 ?_
        refine Runs.step (seen (asSl_v _)) ?_
        have G14 := (G10.trans g13)
        have n3_15 := n3.grow G14
        obtain ⟨p16, q16, e⟩ := Option.bind_eq_some_iff.1 e
        obtain ⟨_, H16, e16, s16, rfl, n16, g16, o16⟩ := ref06_hidden_opt (n1_11.grow g13) n3_15 q16
        refine Runs.step e16 ?_
        refine Runs.step (seen (asSl_v _)) ?_
        obtain ⟨_, H17, e17, s17, rfl, n17, g17, o17⟩ := ref06_Square_is (n1_11.grow (g13.trans g16))
        refine Runs.step e17 ?_
        refine Runs.step (seen (asSl_v _)) ?_
        obtain ⟨_, H18, e18, s18, rfl, n18, g18, o18⟩ := ref02_Times_spec (n13.grow (g16.trans g17)) (n16.grow g17) n17
        refine Runs.step e18 ?_
        refine Runs.step (seen (asSl_v _)) ?_
        cases e
        cases good
        have G19 := ((G14.trans g16).trans g17)
        have G20 := (G19.trans g18)
        exact Runs.ret ⟨s18, rfl, n18, G20, (o18.of_le G19)⟩

theorem ref06_Encrypt_run {s : ref06_Encrypt_St} {r : ref06_Encrypt_Res} (it : Iter ref06_Encrypt_step s r) : ref06_Encrypt_At r s := Iter.ind (fun s o e good => by
  cases s with
  | fn x1 x2 x3 => exact @ref06_Encrypt_fn_walk _ _ x1 x2 x3 e good
  | no => exact True.intro
  ) it

theorem ref06_Encrypt_opt {h : AH} {a1 : Sl} {a2 : Sl} {a3 : Sl} {x1 : List Nat} {x2 : List Nat} {x3 : List Nat} (n1 : Nats h a1 x1) (n2 : Nats h a2 x2) (n3 : Nats h a3 x3) {r : ref06_Encrypt_Res} (q : runP ref06_Encrypt_step (.fn x1 x2 x3) = some r) : Runs (go (.fn F.ref06_Encrypt [a1.v, a2.v, a3.v]) h) (ref06_Encrypt_post h r) := ref06_Encrypt_run (runP_iter q) n1 n2 n3

inductive paillier_Add_St
  | fn (x1 : List Nat) (x2 : List Nat) (x3 : List Nat)
  | no

abbrev paillier_Add_Res := List Nat × Int

noncomputable def paillier_Add_fn' (x1 : List Nat) (x2 : List Nat) (x3 : List Nat) : Option (paillier_Add_St ⊕ paillier_Add_Res) :=
  cond (!decide (((faultF x1 [x2, x3])) = 0)) (some (.inr ([], ((faultF x1 [x2, x3]))))) (some (.inr ((paillier_times' x1 x2 x3), 0)))

noncomputable def paillier_Add_step : paillier_Add_St → Option (paillier_Add_St ⊕ paillier_Add_Res)
  | .fn x1 x2 x3 => paillier_Add_fn' x1 x2 x3
  | .no => none

@[reducible] def paillier_Add_post (h0 : AH) (r : paillier_Add_Res) (v : AV) (h' : AH) : Prop := ∃ s1 : Sl, v = .tup [s1.v, .int .i64 r.2] ∧ Nats h' s1 r.1 ∧ Grow h0 h' ∧ Own h0 s1

def paillier_Add_At (r : paillier_Add_Res) : paillier_Add_St → Prop
  | .fn x1 x2 x3 => ∀ {h : AH} {a1 : Sl} {a2 : Sl} {a3 : Sl}, Nats h a1 x1 → Nats h a2 x2 → Nats h a3 x3 → Runs (go (.fn F.paillier_Add [a1.v, a2.v, a3.v]) h) (paillier_Add_post h r)
  | .no => True

theorem paillier_Add_fn_walk {r : paillier_Add_Res} {o : paillier_Add_St ⊕ paillier_Add_Res} {x1 : List Nat} {x2 : List Nat} {x3 : List Nat} (e : paillier_Add_fn' x1 x2 x3 = some o) (good : GoodS (paillier_Add_At r) r o) : paillier_Add_At r (.fn x1 x2 x3) := by
  intro h a1 a2 a3 n1 n2 n3
  rw [u_paillier_Add]
  unfold paillier_Add_fn' at e
  refine Runs.new fun H4 b4 g4 => ?_
  obtain ⟨_, H5, e5, rfl, g5⟩ := paillier_fault_is (n1.grow g4) (Seq.lit (E := El.nats) (rows := [[(a2).v], [(a3).v]]) (n := 2) b4 (.cons ⟨_, rfl, (n2.grow g4)⟩ (.cons ⟨_, rfl, (n3.grow g4)⟩ .nil)) rfl) (by simp)
  refine Runs.step e5 ?_
  refine Runs.step (seen (avInt_int _ _)) ?_
  refine Runs.cond (fun k6 => ?_) (fun k6 => ?_)
  · replace e := (condT k6).symm.trans e
    cases e
    cases good
    exact Runs.ret ⟨(⟨none, 0, .is 0⟩ : Sl), rfl, (Nats.nil _), (g4.trans g5), (Own.nil _)⟩
  · replace e := (condF k6).symm.trans e
    obtain ⟨_, H7, e7, s7, rfl, n7, g7, o7⟩ := paillier_times_spec (n1.grow (g4.trans g5)) (n2.grow (g4.trans g5)) (n3.grow (g4.trans g5))
    refine Runs.step e7 ?_
    refine Runs.step (seen (asSl_v _)) ?_
    cases e
    cases good
    have G8 := ((g4.trans g5).trans g7)
    exact Runs.ret ⟨s7, rfl, n7, G8, (o7.of_le (g4.trans g5))⟩

theorem paillier_Add_run {s : paillier_Add_St} {r : paillier_Add_Res} (it : Iter paillier_Add_step s r) : paillier_Add_At r s := Iter.ind (fun s o e good => by
  cases s with
  | fn x1 x2 x3 => exact @paillier_Add_fn_walk _ _ x1 x2 x3 e good
  | no => exact True.intro
  ) it

theorem paillier_Add_opt {h : AH} {a1 : Sl} {a2 : Sl} {a3 : Sl} {x1 : List Nat} {x2 : List Nat} {x3 : List Nat} (n1 : Nats h a1 x1) (n2 : Nats h a2 x2) (n3 : Nats h a3 x3) {r : paillier_Add_Res} (q : runP paillier_Add_step (.fn x1 x2 x3) = some r) : Runs (go (.fn F.paillier_Add [a1.v, a2.v, a3.v]) h) (paillier_Add_post h r) := paillier_Add_run (runP_iter q) n1 n2 n3

inductive ref06_Add_St
  | fn (x1 : List Nat) (x2 : List Nat) (x3 : List Nat)
  | no

abbrev ref06_Add_Res := List Nat × Int

noncomputable def ref06_Add_fn' (x1 : List Nat) (x2 : List Nat) (x3 : List Nat) : Option (ref06_Add_St ⊕ ref06_Add_Res) :=
  cond (!((paillier_May' x1))) (some (.inr ([], 1))) (cond (!((paillier_Valid' x1 x2))) (some (.inr ([], 11))) (cond (!((paillier_Valid' x1 x3))) (some (.inr ([], 11))) (some (.inr ((ref02_Times' x2 x3 (paillier_square' x1)), 0)))))

noncomputable def ref06_Add_step : ref06_Add_St → Option (ref06_Add_St ⊕ ref06_Add_Res)
  | .fn x1 x2 x3 => ref06_Add_fn' x1 x2 x3
  | .no => none

@[reducible] def ref06_Add_post (h0 : AH) (r : ref06_Add_Res) (v : AV) (h' : AH) : Prop := ∃ s1 : Sl, v = .tup [s1.v, .int .i64 r.2] ∧ Nats h' s1 r.1 ∧ Grow h0 h' ∧ Own h0 s1

def ref06_Add_At (r : ref06_Add_Res) : ref06_Add_St → Prop
  | .fn x1 x2 x3 => ∀ {h : AH} {a1 : Sl} {a2 : Sl} {a3 : Sl}, Nats h a1 x1 → Nats h a2 x2 → Nats h a3 x3 → Runs (go (.fn F.ref06_Add [a1.v, a2.v, a3.v]) h) (ref06_Add_post h r)
  | .no => True

theorem ref06_Add_fn_walk {r : ref06_Add_Res} {o : ref06_Add_St ⊕ ref06_Add_Res} {x1 : List Nat} {x2 : List Nat} {x3 : List Nat} (e : ref06_Add_fn' x1 x2 x3 = some o) (good : GoodS (ref06_Add_At r) r o) : ref06_Add_At r (.fn x1 x2 x3) := by
  intro h a1 a2 a3 n1 n2 n3
  rw [u_ref06_Add]
  unfold ref06_Add_fn' at e
  obtain ⟨_, H4, e4, rfl, g4⟩ := ref06_May_is n1
  refine Runs.step e4 ?_
  refine Runs.step (seen rfl) ?_
  refine Runs.cond (fun k5 => ?_) (fun k5 => ?_)
  · replace e := (condT k5).symm.trans e
    cases e
    cases good
    exact Runs.ret ⟨(⟨none, 0, .is 0⟩ : Sl), rfl, (Nats.nil _), g4, (Own.nil _)⟩
  · replace e := (condF k5).symm.trans e
    obtain ⟨_, H6, e6, rfl, g6⟩ := ref06_Valid_is (n1.grow g4) (n2.grow g4)
    refine Runs.step e6 ?_
    refine Runs.step (seen rfl) ?_
    obtain ⟨_, H7, e7, rfl, g7⟩ := ref06_Valid_is (n1.grow (g4.trans g6)) (n3.grow (g4.trans g6))
    refine Runs.step e7 ?_
    refine Runs.step (seen rfl) ?_
    refine Runs.cond (fun k8 => ?_) (fun k8 => ?_)
    · replace e := (condT k8).symm.trans e
      cases e
      cases good
      have G9 := ((g4.trans g6).trans g7)
      exact Runs.ret ⟨(⟨none, 0, .is 0⟩ : Sl), rfl, (Nats.nil _), G9, (Own.nil _)⟩
    · replace e := (condF k8).symm.trans e
      refine Runs.cond (fun k9 => ?_) (fun k9 => ?_)
      · replace e := (condT k9).symm.trans e
        cases e
        cases good
        have G10 := ((g4.trans g6).trans g7)
        exact Runs.ret ⟨(⟨none, 0, .is 0⟩ : Sl), rfl, (Nats.nil _), G10, (Own.nil _)⟩
      · replace e := (condF k9).symm.trans e
        have G10 := ((g4.trans g6).trans g7)
        have n1_11 := n1.grow G10
        obtain ⟨_, H12, e12, s12, rfl, n12, g12, o12⟩ := ref06_Square_is n1_11
        refine Runs.step e12 ?_
        refine Runs.step (seen (asSl_v _)) ?_
        have G13 := (G10.trans g12)
        have n2_14 := n2.grow G13
        have n3_15 := n3.grow G13
        obtain ⟨_, H16, e16, s16, rfl, n16, g16, o16⟩ := ref02_Times_spec n2_14 n3_15 n12
        refine Runs.step e16 ?_
        refine Runs.step (seen (asSl_v _)) ?_
        cases e
        cases good
        have G17 := (G13.trans g16)
        exact Runs.ret ⟨s16, rfl, n16, G17, (o16.of_le G13)⟩

theorem ref06_Add_run {s : ref06_Add_St} {r : ref06_Add_Res} (it : Iter ref06_Add_step s r) : ref06_Add_At r s := Iter.ind (fun s o e good => by
  cases s with
  | fn x1 x2 x3 => exact @ref06_Add_fn_walk _ _ x1 x2 x3 e good
  | no => exact True.intro
  ) it

theorem ref06_Add_opt {h : AH} {a1 : Sl} {a2 : Sl} {a3 : Sl} {x1 : List Nat} {x2 : List Nat} {x3 : List Nat} (n1 : Nats h a1 x1) (n2 : Nats h a2 x2) (n3 : Nats h a3 x3) {r : ref06_Add_Res} (q : runP ref06_Add_step (.fn x1 x2 x3) = some r) : Runs (go (.fn F.ref06_Add [a1.v, a2.v, a3.v]) h) (ref06_Add_post h r) := ref06_Add_run (runP_iter q) n1 n2 n3

inductive paillier_Plain_St
  | fn (x1 : List Nat) (x2 : List Nat) (x3 : List Nat)
  | no

abbrev paillier_Plain_Res := List Nat × Int

noncomputable def paillier_Plain_fn' (x1 : List Nat) (x2 : List Nat) (x3 : List Nat) : Option (paillier_Plain_St ⊕ paillier_Plain_Res) :=
  cond (!decide (((faultF x1 [x2])) = 0)) (some (.inr ([], ((faultF x1 [x2]))))) (cond (!((paillier_isPlain' x1 x3))) (some (.inr ([], 10))) (some (.inr ((paillier_times' x1 x2 (paillier_shown' x1 x3)), 0))))

noncomputable def paillier_Plain_step : paillier_Plain_St → Option (paillier_Plain_St ⊕ paillier_Plain_Res)
  | .fn x1 x2 x3 => paillier_Plain_fn' x1 x2 x3
  | .no => none

@[reducible] def paillier_Plain_post (h0 : AH) (r : paillier_Plain_Res) (v : AV) (h' : AH) : Prop := ∃ s1 : Sl, v = .tup [s1.v, .int .i64 r.2] ∧ Nats h' s1 r.1 ∧ Grow h0 h' ∧ Own h0 s1

def paillier_Plain_At (r : paillier_Plain_Res) : paillier_Plain_St → Prop
  | .fn x1 x2 x3 => ∀ {h : AH} {a1 : Sl} {a2 : Sl} {a3 : Sl}, Nats h a1 x1 → Nats h a2 x2 → Nats h a3 x3 → Runs (go (.fn F.paillier_Plain [a1.v, a2.v, a3.v]) h) (paillier_Plain_post h r)
  | .no => True

theorem paillier_Plain_fn_walk {r : paillier_Plain_Res} {o : paillier_Plain_St ⊕ paillier_Plain_Res} {x1 : List Nat} {x2 : List Nat} {x3 : List Nat} (e : paillier_Plain_fn' x1 x2 x3 = some o) (good : GoodS (paillier_Plain_At r) r o) : paillier_Plain_At r (.fn x1 x2 x3) := by
  intro h a1 a2 a3 n1 n2 n3
  rw [u_paillier_Plain]
  unfold paillier_Plain_fn' at e
  refine Runs.new fun H4 b4 g4 => ?_
  obtain ⟨_, H5, e5, rfl, g5⟩ := paillier_fault_is (n1.grow g4) (Seq.lit (E := El.nats) (rows := [[(a2).v]]) (n := 1) b4 (.cons ⟨_, rfl, (n2.grow g4)⟩ .nil) rfl) (by simp)
  refine Runs.step e5 ?_
  refine Runs.step (seen (avInt_int _ _)) ?_
  refine Runs.cond (fun k6 => ?_) (fun k6 => ?_)
  · replace e := (condT k6).symm.trans e
    cases e
    cases good
    exact Runs.ret ⟨(⟨none, 0, .is 0⟩ : Sl), rfl, (Nats.nil _), (g4.trans g5), (Own.nil _)⟩
  · replace e := (condF k6).symm.trans e
    obtain ⟨_, H7, e7, rfl, g7⟩ := paillier_isPlain_spec (n1.grow (g4.trans g5)) (n3.grow (g4.trans g5))
    refine Runs.step e7 ?_
    refine Runs.step (seen rfl) ?_
    refine Runs.cond (fun k8 => ?_) (fun k8 => ?_)
    · replace e := (condT k8).symm.trans e
      cases e
      cases good
      have G9 := ((g4.trans g5).trans g7)
      exact Runs.ret ⟨(⟨none, 0, .is 0⟩ : Sl), rfl, (Nats.nil _), G9, (Own.nil _)⟩
    · replace e := (condF k8).symm.trans e
      have G9 := ((g4.trans g5).trans g7)
      have n1_10 := n1.grow G9
      have n3_11 := n3.grow G9
      obtain ⟨_, H12, e12, s12, rfl, n12, g12, o12⟩ := paillier_shown_spec n1_10 n3_11
      refine Runs.step e12 ?_
      refine Runs.step (seen (asSl_v _)) ?_
      have G13 := (G9.trans g12)
      have n2_14 := n2.grow G13
      obtain ⟨_, H15, e15, s15, rfl, n15, g15, o15⟩ := paillier_times_spec (n1_10.grow g12) n2_14 n12
      refine Runs.step e15 ?_
      refine Runs.step (seen (asSl_v _)) ?_
      cases e
      cases good
      have G16 := (G13.trans g15)
      exact Runs.ret ⟨s15, rfl, n15, G16, (o15.of_le G13)⟩

theorem paillier_Plain_run {s : paillier_Plain_St} {r : paillier_Plain_Res} (it : Iter paillier_Plain_step s r) : paillier_Plain_At r s := Iter.ind (fun s o e good => by
  cases s with
  | fn x1 x2 x3 => exact @paillier_Plain_fn_walk _ _ x1 x2 x3 e good
  | no => exact True.intro
  ) it

theorem paillier_Plain_opt {h : AH} {a1 : Sl} {a2 : Sl} {a3 : Sl} {x1 : List Nat} {x2 : List Nat} {x3 : List Nat} (n1 : Nats h a1 x1) (n2 : Nats h a2 x2) (n3 : Nats h a3 x3) {r : paillier_Plain_Res} (q : runP paillier_Plain_step (.fn x1 x2 x3) = some r) : Runs (go (.fn F.paillier_Plain [a1.v, a2.v, a3.v]) h) (paillier_Plain_post h r) := paillier_Plain_run (runP_iter q) n1 n2 n3

inductive ref06_Plain_St
  | fn (x1 : List Nat) (x2 : List Nat) (x3 : List Nat)
  | no

abbrev ref06_Plain_Res := List Nat × Int

noncomputable def ref06_Plain_fn' (x1 : List Nat) (x2 : List Nat) (x3 : List Nat) : Option (ref06_Plain_St ⊕ ref06_Plain_Res) :=
  cond (!((paillier_May' x1))) (some (.inr ([], 1))) (cond (!((paillier_Valid' x1 x2))) (some (.inr ([], 11))) (cond (!((paillier_isPlain' x1 x3))) (some (.inr ([], 10))) (some (.inr ((ref02_Times' x2 (paillier_shown' x1 x3) (paillier_square' x1)), 0)))))

noncomputable def ref06_Plain_step : ref06_Plain_St → Option (ref06_Plain_St ⊕ ref06_Plain_Res)
  | .fn x1 x2 x3 => ref06_Plain_fn' x1 x2 x3
  | .no => none

@[reducible] def ref06_Plain_post (h0 : AH) (r : ref06_Plain_Res) (v : AV) (h' : AH) : Prop := ∃ s1 : Sl, v = .tup [s1.v, .int .i64 r.2] ∧ Nats h' s1 r.1 ∧ Grow h0 h' ∧ Own h0 s1

def ref06_Plain_At (r : ref06_Plain_Res) : ref06_Plain_St → Prop
  | .fn x1 x2 x3 => ∀ {h : AH} {a1 : Sl} {a2 : Sl} {a3 : Sl}, Nats h a1 x1 → Nats h a2 x2 → Nats h a3 x3 → Runs (go (.fn F.ref06_Plain [a1.v, a2.v, a3.v]) h) (ref06_Plain_post h r)
  | .no => True

theorem ref06_Plain_fn_walk {r : ref06_Plain_Res} {o : ref06_Plain_St ⊕ ref06_Plain_Res} {x1 : List Nat} {x2 : List Nat} {x3 : List Nat} (e : ref06_Plain_fn' x1 x2 x3 = some o) (good : GoodS (ref06_Plain_At r) r o) : ref06_Plain_At r (.fn x1 x2 x3) := by
  intro h a1 a2 a3 n1 n2 n3
  rw [u_ref06_Plain]
  unfold ref06_Plain_fn' at e
  obtain ⟨_, H4, e4, rfl, g4⟩ := ref06_May_is n1
  refine Runs.step e4 ?_
  refine Runs.step (seen rfl) ?_
  refine Runs.cond (fun k5 => ?_) (fun k5 => ?_)
  · replace e := (condT k5).symm.trans e
    cases e
    cases good
    exact Runs.ret ⟨(⟨none, 0, .is 0⟩ : Sl), rfl, (Nats.nil _), g4, (Own.nil _)⟩
  · replace e := (condF k5).symm.trans e
    obtain ⟨_, H6, e6, rfl, g6⟩ := ref06_Valid_is (n1.grow g4) (n2.grow g4)
    refine Runs.step e6 ?_
    refine Runs.step (seen rfl) ?_
    refine Runs.cond (fun k7 => ?_) (fun k7 => ?_)
    · replace e := (condT k7).symm.trans e
      cases e
      cases good
      exact Runs.ret ⟨(⟨none, 0, .is 0⟩ : Sl), rfl, (Nats.nil _), (g4.trans g6), (Own.nil _)⟩
    · replace e := (condF k7).symm.trans e
      obtain ⟨_, H8, e8, rfl, g8⟩ := ref06_plain_is (n1.grow (g4.trans g6)) (n3.grow (g4.trans g6))
      refine Runs.step e8 ?_
      refine Runs.step (seen rfl) ?_
      refine Runs.cond (fun k9 => ?_) (fun k9 => ?_)
      · replace e := (condT k9).symm.trans e
        cases e
        cases good
        have G10 := ((g4.trans g6).trans g8)
        exact Runs.ret ⟨(⟨none, 0, .is 0⟩ : Sl), rfl, (Nats.nil _), G10, (Own.nil _)⟩
      · replace e := (condF k9).symm.trans e
        have G10 := ((g4.trans g6).trans g8)
        have n1_11 := n1.grow G10
        have n3_12 := n3.grow G10
        obtain ⟨_, H13, e13, s13, rfl, n13, g13, o13⟩ := ref06_shown_is n1_11 n3_12
        refine Runs.step e13 ?_
        refine Runs.step (seen (asSl_v _)) ?_
        obtain ⟨_, H14, e14, s14, rfl, n14, g14, o14⟩ := ref06_Square_is (n1_11.grow g13)
        refine Runs.step e14 ?_
        refine Runs.step (seen (asSl_v _)) ?_
        have G15 := ((G10.trans g13).trans g14)
        have n2_16 := n2.grow G15
        obtain ⟨_, H17, e17, s17, rfl, n17, g17, o17⟩ := ref02_Times_spec n2_16 (n13.grow g14) n14
        refine Runs.step e17 ?_
        refine Runs.step (seen (asSl_v _)) ?_
        cases e
        cases good
        have G18 := (G15.trans g17)
        exact Runs.ret ⟨s17, rfl, n17, G18, (o17.of_le G15)⟩

theorem ref06_Plain_run {s : ref06_Plain_St} {r : ref06_Plain_Res} (it : Iter ref06_Plain_step s r) : ref06_Plain_At r s := Iter.ind (fun s o e good => by
  cases s with
  | fn x1 x2 x3 => exact @ref06_Plain_fn_walk _ _ x1 x2 x3 e good
  | no => exact True.intro
  ) it

theorem ref06_Plain_opt {h : AH} {a1 : Sl} {a2 : Sl} {a3 : Sl} {x1 : List Nat} {x2 : List Nat} {x3 : List Nat} (n1 : Nats h a1 x1) (n2 : Nats h a2 x2) (n3 : Nats h a3 x3) {r : ref06_Plain_Res} (q : runP ref06_Plain_step (.fn x1 x2 x3) = some r) : Runs (go (.fn F.ref06_Plain [a1.v, a2.v, a3.v]) h) (ref06_Plain_post h r) := ref06_Plain_run (runP_iter q) n1 n2 n3

inductive paillier_Scale_St
  | fn (x1 : List Nat) (x2 : List Nat) (x3 : List Nat)
  | no

abbrev paillier_Scale_Res := List Nat × Int

noncomputable def paillier_Scale_fn' (x1 : List Nat) (x2 : List Nat) (x3 : List Nat) : Option (paillier_Scale_St ⊕ paillier_Scale_Res) :=
  cond (!decide (((faultF x1 [x2])) = 0)) (some (.inr ([], ((faultF x1 [x2]))))) (cond (!((paillier_isPlain' x1 x3))) (some (.inr ([], 10))) ((need (powerOk x1 x2 x3)).bind fun c13_0 => some (.inr ((powN x2 x3 (paillier_square' x1)), 0))))

noncomputable def paillier_Scale_step : paillier_Scale_St → Option (paillier_Scale_St ⊕ paillier_Scale_Res)
  | .fn x1 x2 x3 => paillier_Scale_fn' x1 x2 x3
  | .no => none

@[reducible] def paillier_Scale_post (h0 : AH) (r : paillier_Scale_Res) (v : AV) (h' : AH) : Prop := ∃ s1 : Sl, v = .tup [s1.v, .int .i64 r.2] ∧ Nats h' s1 r.1 ∧ Grow h0 h' ∧ Own h0 s1

def paillier_Scale_At (r : paillier_Scale_Res) : paillier_Scale_St → Prop
  | .fn x1 x2 x3 => ∀ {h : AH} {a1 : Sl} {a2 : Sl} {a3 : Sl}, Nats h a1 x1 → Nats h a2 x2 → Nats h a3 x3 → Runs (go (.fn F.paillier_Scale [a1.v, a2.v, a3.v]) h) (paillier_Scale_post h r)
  | .no => True

theorem paillier_Scale_fn_walk {r : paillier_Scale_Res} {o : paillier_Scale_St ⊕ paillier_Scale_Res} {x1 : List Nat} {x2 : List Nat} {x3 : List Nat} (e : paillier_Scale_fn' x1 x2 x3 = some o) (good : GoodS (paillier_Scale_At r) r o) : paillier_Scale_At r (.fn x1 x2 x3) := by
  intro h a1 a2 a3 n1 n2 n3
  rw [u_paillier_Scale]
  unfold paillier_Scale_fn' at e
  refine Runs.new fun H4 b4 g4 => ?_
  obtain ⟨_, H5, e5, rfl, g5⟩ := paillier_fault_is (n1.grow g4) (Seq.lit (E := El.nats) (rows := [[(a2).v]]) (n := 1) b4 (.cons ⟨_, rfl, (n2.grow g4)⟩ .nil) rfl) (by simp)
  refine Runs.step e5 ?_
  refine Runs.step (seen (avInt_int _ _)) ?_
  refine Runs.cond (fun k6 => ?_) (fun k6 => ?_)
  · replace e := (condT k6).symm.trans e
    cases e
    cases good
    exact Runs.ret ⟨(⟨none, 0, .is 0⟩ : Sl), rfl, (Nats.nil _), (g4.trans g5), (Own.nil _)⟩
  · replace e := (condF k6).symm.trans e
    obtain ⟨_, H7, e7, rfl, g7⟩ := paillier_isPlain_spec (n1.grow (g4.trans g5)) (n3.grow (g4.trans g5))
    refine Runs.step e7 ?_
    refine Runs.step (seen rfl) ?_
    refine Runs.cond (fun k8 => ?_) (fun k8 => ?_)
    · replace e := (condT k8).symm.trans e
      cases e
      cases good
      have G9 := ((g4.trans g5).trans g7)
      exact Runs.ret ⟨(⟨none, 0, .is 0⟩ : Sl), rfl, (Nats.nil _), G9, (Own.nil _)⟩
    · replace e := (condF k8).symm.trans e
      have G9 := ((g4.trans g5).trans g7)
      have n1_10 := n1.grow G9
      have n2_11 := n2.grow G9
      have n3_12 := n3.grow G9
      obtain ⟨c13_0, q13_0, e⟩ := Option.bind_eq_some_iff.1 e
      obtain ⟨_, H13, e13, s13, rfl, n13, g13, o13⟩ := paillier_power_need n1_10 n2_11 n3_12  c13_0.down
      refine Runs.step e13 ?_
      refine Runs.step (seen (asSl_v _)) ?_
      cases e
      cases good
      have G14 := (G9.trans g13)
      exact Runs.ret ⟨s13, rfl, n13, G14, (o13.of_le G9)⟩

theorem paillier_Scale_run {s : paillier_Scale_St} {r : paillier_Scale_Res} (it : Iter paillier_Scale_step s r) : paillier_Scale_At r s := Iter.ind (fun s o e good => by
  cases s with
  | fn x1 x2 x3 => exact @paillier_Scale_fn_walk _ _ x1 x2 x3 e good
  | no => exact True.intro
  ) it

theorem paillier_Scale_opt {h : AH} {a1 : Sl} {a2 : Sl} {a3 : Sl} {x1 : List Nat} {x2 : List Nat} {x3 : List Nat} (n1 : Nats h a1 x1) (n2 : Nats h a2 x2) (n3 : Nats h a3 x3) {r : paillier_Scale_Res} (q : runP paillier_Scale_step (.fn x1 x2 x3) = some r) : Runs (go (.fn F.paillier_Scale [a1.v, a2.v, a3.v]) h) (paillier_Scale_post h r) := paillier_Scale_run (runP_iter q) n1 n2 n3

inductive ref06_Scale_St
  | fn (x1 : List Nat) (x2 : List Nat) (x3 : List Nat)
  | no

abbrev ref06_Scale_Res := List Nat × Int

noncomputable def ref06_Scale_fn' (x1 : List Nat) (x2 : List Nat) (x3 : List Nat) : Option (ref06_Scale_St ⊕ ref06_Scale_Res) :=
  cond (!((paillier_May' x1))) (some (.inr ([], 1))) (cond (!((paillier_Valid' x1 x2))) (some (.inr ([], 11))) (cond (!((paillier_isPlain' x1 x3))) (some (.inr ([], 10))) ((need (powOk x2 x3 (paillier_square' x1))).bind fun c16_0 => some (.inr ((powN x2 x3 (paillier_square' x1)), 0)))))

noncomputable def ref06_Scale_step : ref06_Scale_St → Option (ref06_Scale_St ⊕ ref06_Scale_Res)
  | .fn x1 x2 x3 => ref06_Scale_fn' x1 x2 x3
  | .no => none

@[reducible] def ref06_Scale_post (h0 : AH) (r : ref06_Scale_Res) (v : AV) (h' : AH) : Prop := ∃ s1 : Sl, v = .tup [s1.v, .int .i64 r.2] ∧ Nats h' s1 r.1 ∧ Grow h0 h' ∧ Own h0 s1

def ref06_Scale_At (r : ref06_Scale_Res) : ref06_Scale_St → Prop
  | .fn x1 x2 x3 => ∀ {h : AH} {a1 : Sl} {a2 : Sl} {a3 : Sl}, Nats h a1 x1 → Nats h a2 x2 → Nats h a3 x3 → Runs (go (.fn F.ref06_Scale [a1.v, a2.v, a3.v]) h) (ref06_Scale_post h r)
  | .no => True

theorem ref06_Scale_fn_walk {r : ref06_Scale_Res} {o : ref06_Scale_St ⊕ ref06_Scale_Res} {x1 : List Nat} {x2 : List Nat} {x3 : List Nat} (e : ref06_Scale_fn' x1 x2 x3 = some o) (good : GoodS (ref06_Scale_At r) r o) : ref06_Scale_At r (.fn x1 x2 x3) := by
  intro h a1 a2 a3 n1 n2 n3
  rw [u_ref06_Scale]
  unfold ref06_Scale_fn' at e
  obtain ⟨_, H4, e4, rfl, g4⟩ := ref06_May_is n1
  refine Runs.step e4 ?_
  refine Runs.step (seen rfl) ?_
  refine Runs.cond (fun k5 => ?_) (fun k5 => ?_)
  · replace e := (condT k5).symm.trans e
    cases e
    cases good
    exact Runs.ret ⟨(⟨none, 0, .is 0⟩ : Sl), rfl, (Nats.nil _), g4, (Own.nil _)⟩
  · replace e := (condF k5).symm.trans e
    obtain ⟨_, H6, e6, rfl, g6⟩ := ref06_Valid_is (n1.grow g4) (n2.grow g4)
    refine Runs.step e6 ?_
    refine Runs.step (seen rfl) ?_
    refine Runs.cond (fun k7 => ?_) (fun k7 => ?_)
    · replace e := (condT k7).symm.trans e
      cases e
      cases good
      exact Runs.ret ⟨(⟨none, 0, .is 0⟩ : Sl), rfl, (Nats.nil _), (g4.trans g6), (Own.nil _)⟩
    · replace e := (condF k7).symm.trans e
      obtain ⟨_, H8, e8, rfl, g8⟩ := ref06_plain_is (n1.grow (g4.trans g6)) (n3.grow (g4.trans g6))
      refine Runs.step e8 ?_
      refine Runs.step (seen rfl) ?_
      refine Runs.cond (fun k9 => ?_) (fun k9 => ?_)
      · replace e := (condT k9).symm.trans e
        cases e
        cases good
        have G10 := ((g4.trans g6).trans g8)
        exact Runs.ret ⟨(⟨none, 0, .is 0⟩ : Sl), rfl, (Nats.nil _), G10, (Own.nil _)⟩
      · replace e := (condF k9).symm.trans e
        have G10 := ((g4.trans g6).trans g8)
        have n1_11 := n1.grow G10
        obtain ⟨_, H12, e12, s12, rfl, n12, g12, o12⟩ := ref06_Square_is n1_11
        refine Runs.step e12 ?_
        refine Runs.step (seen (asSl_v _)) ?_
        have G13 := (G10.trans g12)
        have n2_14 := n2.grow G13
        have n3_15 := n3.grow G13
        obtain ⟨c16_0, q16_0, e⟩ := Option.bind_eq_some_iff.1 e
        obtain ⟨_, H16, e16, s16, rfl, n16, g16, o16⟩ := ref02_Power_need n2_14 n3_15 n12  c16_0.down
        refine Runs.step e16 ?_
        refine Runs.step (seen (asSl_v _)) ?_
        cases e
        cases good
        have G17 := (G13.trans g16)
        exact Runs.ret ⟨s16, rfl, n16, G17, (o16.of_le G13)⟩

theorem ref06_Scale_run {s : ref06_Scale_St} {r : ref06_Scale_Res} (it : Iter ref06_Scale_step s r) : ref06_Scale_At r s := Iter.ind (fun s o e good => by
  cases s with
  | fn x1 x2 x3 => exact @ref06_Scale_fn_walk _ _ x1 x2 x3 e good
  | no => exact True.intro
  ) it

theorem ref06_Scale_opt {h : AH} {a1 : Sl} {a2 : Sl} {a3 : Sl} {x1 : List Nat} {x2 : List Nat} {x3 : List Nat} (n1 : Nats h a1 x1) (n2 : Nats h a2 x2) (n3 : Nats h a3 x3) {r : ref06_Scale_Res} (q : runP ref06_Scale_step (.fn x1 x2 x3) = some r) : Runs (go (.fn F.ref06_Scale [a1.v, a2.v, a3.v]) h) (ref06_Scale_post h r) := ref06_Scale_run (runP_iter q) n1 n2 n3

inductive paillier_Again_St
  | fn (x1 : List Nat) (x2 : List Nat) (x3 : List Nat)
  | no

abbrev paillier_Again_Res := List Nat × Int

noncomputable def paillier_Again_fn' (x1 : List Nat) (x2 : List Nat) (x3 : List Nat) : Option (paillier_Again_St ⊕ paillier_Again_Res) :=
  cond (!decide (((faultF x1 [x2])) = 0)) (some (.inr ([], ((faultF x1 [x2]))))) (cond (!((paillier_alone' x3 x1 x1))) (some (.inr ([], 1))) ((need (powerOk x1 x3 x1)).bind fun c12_0 => some (.inr ((paillier_times' x1 x2 (powN x3 x1 (paillier_square' x1))), 0))))

noncomputable def paillier_Again_step : paillier_Again_St → Option (paillier_Again_St ⊕ paillier_Again_Res)
  | .fn x1 x2 x3 => paillier_Again_fn' x1 x2 x3
  | .no => none

@[reducible] def paillier_Again_post (h0 : AH) (r : paillier_Again_Res) (v : AV) (h' : AH) : Prop := ∃ s1 : Sl, v = .tup [s1.v, .int .i64 r.2] ∧ Nats h' s1 r.1 ∧ Grow h0 h' ∧ Own h0 s1

def paillier_Again_At (r : paillier_Again_Res) : paillier_Again_St → Prop
  | .fn x1 x2 x3 => ∀ {h : AH} {a1 : Sl} {a2 : Sl} {a3 : Sl}, Nats h a1 x1 → Nats h a2 x2 → Nats h a3 x3 → Runs (go (.fn F.paillier_Again [a1.v, a2.v, a3.v]) h) (paillier_Again_post h r)
  | .no => True

theorem paillier_Again_fn_walk {r : paillier_Again_Res} {o : paillier_Again_St ⊕ paillier_Again_Res} {x1 : List Nat} {x2 : List Nat} {x3 : List Nat} (e : paillier_Again_fn' x1 x2 x3 = some o) (good : GoodS (paillier_Again_At r) r o) : paillier_Again_At r (.fn x1 x2 x3) := by
  intro h a1 a2 a3 n1 n2 n3
  rw [u_paillier_Again]
  unfold paillier_Again_fn' at e
  refine Runs.new fun H4 b4 g4 => ?_
  obtain ⟨_, H5, e5, rfl, g5⟩ := paillier_fault_is (n1.grow g4) (Seq.lit (E := El.nats) (rows := [[(a2).v]]) (n := 1) b4 (.cons ⟨_, rfl, (n2.grow g4)⟩ .nil) rfl) (by simp)
  refine Runs.step e5 ?_
  refine Runs.step (seen (avInt_int _ _)) ?_
  refine Runs.cond (fun k6 => ?_) (fun k6 => ?_)
  · replace e := (condT k6).symm.trans e
    cases e
    cases good
    exact Runs.ret ⟨(⟨none, 0, .is 0⟩ : Sl), rfl, (Nats.nil _), (g4.trans g5), (Own.nil _)⟩
  · replace e := (condF k6).symm.trans e
    obtain ⟨_, H7, e7, rfl, g7⟩ := paillier_alone_spec (n3.grow (g4.trans g5)) (n1.grow (g4.trans g5)) (n1.grow (g4.trans g5))
    refine Runs.step e7 ?_
    refine Runs.step (seen rfl) ?_
    refine Runs.cond (fun k8 => ?_) (fun k8 => ?_)
    · replace e := (condT k8).symm.trans e
      cases e
      cases good
      have G9 := ((g4.trans g5).trans g7)
      exact Runs.ret ⟨(⟨none, 0, .is 0⟩ : Sl), rfl, (Nats.nil _), G9, (Own.nil _)⟩
    · replace e := (condF k8).symm.trans e
      have G9 := ((g4.trans g5).trans g7)
      have n1_10 := n1.grow G9
      have n3_11 := n3.grow G9
      obtain ⟨c12_0, q12_0, e⟩ := Option.bind_eq_some_iff.1 e
      obtain ⟨_, H12, e12, s12, rfl, n12, g12, o12⟩ := paillier_power_need n1_10 n3_11 n1_10  c12_0.down
      refine Runs.step e12 ?_
      refine Runs.step (seen (asSl_v _)) ?_
      have G13 := (G9.trans g12)
      have n2_14 := n2.grow G13
      obtain ⟨_, H15, e15, s15, rfl, n15, g15, o15⟩ := paillier_times_spec (n1_10.grow g12) n2_14 n12
      refine Runs.step e15 ?_
      refine Runs.step (seen (asSl_v _)) ?_
      cases e
      cases good
      have G16 := (G13.trans g15)
      exact Runs.ret ⟨s15, rfl, n15, G16, (o15.of_le G13)⟩

theorem paillier_Again_run {s : paillier_Again_St} {r : paillier_Again_Res} (it : Iter paillier_Again_step s r) : paillier_Again_At r s := Iter.ind (fun s o e good => by
  cases s with
  | fn x1 x2 x3 => exact @paillier_Again_fn_walk _ _ x1 x2 x3 e good
  | no => exact True.intro
  ) it

theorem paillier_Again_opt {h : AH} {a1 : Sl} {a2 : Sl} {a3 : Sl} {x1 : List Nat} {x2 : List Nat} {x3 : List Nat} (n1 : Nats h a1 x1) (n2 : Nats h a2 x2) (n3 : Nats h a3 x3) {r : paillier_Again_Res} (q : runP paillier_Again_step (.fn x1 x2 x3) = some r) : Runs (go (.fn F.paillier_Again [a1.v, a2.v, a3.v]) h) (paillier_Again_post h r) := paillier_Again_run (runP_iter q) n1 n2 n3

inductive ref06_Again_St
  | fn (x1 : List Nat) (x2 : List Nat) (x3 : List Nat)
  | no

abbrev ref06_Again_Res := List Nat × Int

noncomputable def ref06_Again_fn' (x1 : List Nat) (x2 : List Nat) (x3 : List Nat) : Option (ref06_Again_St ⊕ ref06_Again_Res) :=
  cond (!((paillier_May' x1))) (some (.inr ([], 1))) (cond (!((paillier_Valid' x1 x2))) (some (.inr ([], 11))) (cond (!((paillier_alone' x3 x1 x1))) (some (.inr ([], 1))) ((runP ref06_hidden_step (.fn x1 x3)).bind fun p13 => some (.inr ((ref02_Times' x2 p13 (paillier_square' x1)), 0)))))

noncomputable def ref06_Again_step : ref06_Again_St → Option (ref06_Again_St ⊕ ref06_Again_Res)
  | .fn x1 x2 x3 => ref06_Again_fn' x1 x2 x3
  | .no => none

@[reducible] def ref06_Again_post (h0 : AH) (r : ref06_Again_Res) (v : AV) (h' : AH) : Prop := ∃ s1 : Sl, v = .tup [s1.v, .int .i64 r.2] ∧ Nats h' s1 r.1 ∧ Grow h0 h' ∧ Own h0 s1

def ref06_Again_At (r : ref06_Again_Res) : ref06_Again_St → Prop
  | .fn x1 x2 x3 => ∀ {h : AH} {a1 : Sl} {a2 : Sl} {a3 : Sl}, Nats h a1 x1 → Nats h a2 x2 → Nats h a3 x3 → Runs (go (.fn F.ref06_Again [a1.v, a2.v, a3.v]) h) (ref06_Again_post h r)
  | .no => True

theorem ref06_Again_fn_walk {r : ref06_Again_Res} {o : ref06_Again_St ⊕ ref06_Again_Res} {x1 : List Nat} {x2 : List Nat} {x3 : List Nat} (e : ref06_Again_fn' x1 x2 x3 = some o) (good : GoodS (ref06_Again_At r) r o) : ref06_Again_At r (.fn x1 x2 x3) := by
  intro h a1 a2 a3 n1 n2 n3
  rw [u_ref06_Again]
  unfold ref06_Again_fn' at e
  obtain ⟨_, H4, e4, rfl, g4⟩ := ref06_May_is n1
  refine Runs.step e4 ?_
  refine Runs.step (seen rfl) ?_
  refine Runs.cond (fun k5 => ?_) (fun k5 => ?_)
  · replace e := (condT k5).symm.trans e
    cases e
    cases good
    exact Runs.ret ⟨(⟨none, 0, .is 0⟩ : Sl), rfl, (Nats.nil _), g4, (Own.nil _)⟩
  · replace e := (condF k5).symm.trans e
    obtain ⟨_, H6, e6, rfl, g6⟩ := ref06_Valid_is (n1.grow g4) (n2.grow g4)
    refine Runs.step e6 ?_
    refine Runs.step (seen rfl) ?_
    refine Runs.cond (fun k7 => ?_) (fun k7 => ?_)
    · replace e := (condT k7).symm.trans e
      cases e
      cases good
      exact Runs.ret ⟨(⟨none, 0, .is 0⟩ : Sl), rfl, (Nats.nil _), (g4.trans g6), (Own.nil _)⟩
    · replace e := (condF k7).symm.trans e
      obtain ⟨_, H8, e8, rfl, g8⟩ := ref06_unit_is (n3.grow (g4.trans g6)) (n1.grow (g4.trans g6)) (n1.grow (g4.trans g6))
      refine Runs.step e8 ?_
      refine Runs.step (seen rfl) ?_
      refine Runs.cond (fun k9 => ?_) (fun k9 => ?_)
      · replace e := (condT k9).symm.trans e
        cases e
        cases good
        have G10 := ((g4.trans g6).trans g8)
        exact Runs.ret ⟨(⟨none, 0, .is 0⟩ : Sl), rfl, (Nats.nil _), G10, (Own.nil _)⟩
      · replace e := (condF k9).symm.trans e
        have G10 := ((g4.trans g6).trans g8)
        have n1_11 := n1.grow G10
        have n3_12 := n3.grow G10
        obtain ⟨p13, q13, e⟩ := Option.bind_eq_some_iff.1 e
        obtain ⟨_, H13, e13, s13, rfl, n13, g13, o13⟩ := ref06_hidden_opt n1_11 n3_12 q13
        refine Runs.step e13 ?_
        refine Runs.step (seen (asSl_v _)) ?_
        obtain ⟨_, H14, e14, s14, rfl, n14, g14, o14⟩ := ref06_Square_is (n1_11.grow g13)
        refine Runs.step e14 ?_
        refine Runs.step (seen (asSl_v _)) ?_
        have G15 := ((G10.trans g13).trans g14)
        have n2_16 := n2.grow G15
        obtain ⟨_, H17, e17, s17, rfl, n17, g17, o17⟩ := ref02_Times_spec n2_16 (n13.grow g14) n14
        refine Runs.step e17 ?_
        refine Runs.step (seen (asSl_v _)) ?_
        cases e
        cases good
        have G18 := (G15.trans g17)
        exact Runs.ret ⟨s17, rfl, n17, G18, (o17.of_le G15)⟩

theorem ref06_Again_run {s : ref06_Again_St} {r : ref06_Again_Res} (it : Iter ref06_Again_step s r) : ref06_Again_At r s := Iter.ind (fun s o e good => by
  cases s with
  | fn x1 x2 x3 => exact @ref06_Again_fn_walk _ _ x1 x2 x3 e good
  | no => exact True.intro
  ) it

theorem ref06_Again_opt {h : AH} {a1 : Sl} {a2 : Sl} {a3 : Sl} {x1 : List Nat} {x2 : List Nat} {x3 : List Nat} (n1 : Nats h a1 x1) (n2 : Nats h a2 x2) (n3 : Nats h a3 x3) {r : ref06_Again_Res} (q : runP ref06_Again_step (.fn x1 x2 x3) = some r) : Runs (go (.fn F.ref06_Again [a1.v, a2.v, a3.v]) h) (ref06_Again_post h r) := ref06_Again_run (runP_iter q) n1 n2 n3

inductive law06_awake_St
  | fn 
  | no

abbrev law06_awake_Res := Bool

noncomputable def law06_awake_fn'  : Option (law06_awake_St ⊕ law06_awake_Res) :=
  (u64P 17947).bind fun w4 => (u64P 5).bind fun w5 => (u64P 1).bind fun w6 => (runP paillier_Encrypt_step (.fn [w4] [w5] [w6])).bind fun p7 => cond (decide ((p7.2) = 0)) (cond (decide ((List.length p7.1 : Int) = 1)) ((atI p7.1 0).bind fun y10 => some (.inr (decide (((y10 : Int)) = 89736)))) (some (.inr false))) (some (.inr false))

noncomputable def law06_awake_step : law06_awake_St → Option (law06_awake_St ⊕ law06_awake_Res)
  | .fn  => law06_awake_fn' 
  | .no => none

@[reducible] def law06_awake_post (h0 : AH) (r : law06_awake_Res) (v : AV) (h' : AH) : Prop := v = .bool r ∧ Grow h0 h'

def law06_awake_At (r : law06_awake_Res) : law06_awake_St → Prop
  | .fn  => ∀ {h : AH}, Runs (go (.fn F.law06_awake []) h) (law06_awake_post h r)
  | .no => True

theorem law06_awake_fn_walk {r : law06_awake_Res} {o : law06_awake_St ⊕ law06_awake_Res}  (e : law06_awake_fn'  = some o) (good : GoodS (law06_awake_At r) r o) : law06_awake_At r (.fn ) := by
  intro h
  rw [u_law06_awake]
  unfold law06_awake_fn' at e
  refine Runs.new fun H1 b1 g1 => ?_
  refine Runs.new fun H2 b2 g2 => ?_
  refine Runs.new fun H3 b3 g3 => ?_
  obtain ⟨w4, z4, e⟩ := Option.bind_eq_some_iff.1 e
  obtain ⟨w5, z5, e⟩ := Option.bind_eq_some_iff.1 e
  obtain ⟨w6, z6, e⟩ := Option.bind_eq_some_iff.1 e
  obtain ⟨p7, q7, e⟩ := Option.bind_eq_some_iff.1 e
  obtain ⟨_, H7, e7, s7, rfl, n7, g7, o7⟩ := paillier_Encrypt_opt (Nats.of_has1 ((g2.trans g3).has b1) z4) (Nats.of_has1 (g3.has b2) z5) (Nats.of_has1 b3 z6) q7
  refine Runs.step e7 ?_
  refine Runs.step rfl ?_
  refine Runs.step (seen (asSl_v _)) ?_
  rw [n7.len]
  refine Runs.step (seen (avInt_int _ _)) ?_
  refine Runs.cond (fun k8 => ?_) (fun k8 => ?_)
  · replace e := (condT k8).symm.trans e
    refine Runs.cond (fun k9 => ?_) (fun k9 => ?_)
    · replace e := (condT k9).symm.trans e
      obtain ⟨y10, q10, e⟩ := Option.bind_eq_some_iff.1 e
      obtain ⟨r10, j10, l10⟩ := n7.atI q10
      refine Runs.step j10 ?_
      refine Runs.step (rdc l10 (avInt_int _ _)) ?_
      cases e
      cases good
      have G11 := (((g1.trans g2).trans g3).trans g7)
      exact Runs.ret ⟨rfl, G11⟩
    · replace e := (condF k9).symm.trans e
      cases e
      cases good
      have G10 := (((g1.trans g2).trans g3).trans g7)
      exact Runs.ret ⟨rfl, G10⟩
  · replace e := (condF k8).symm.trans e
    cases e
    cases good
    have G9 := (((g1.trans g2).trans g3).trans g7)
    exact Runs.ret ⟨rfl, G9⟩

theorem law06_awake_run {s : law06_awake_St} {r : law06_awake_Res} (it : Iter law06_awake_step s r) : law06_awake_At r s := Iter.ind (fun s o e good => by
  cases s with
  | fn  => exact @law06_awake_fn_walk _ _  e good
  | no => exact True.intro
  ) it

end Go.Ab

/- Layer 6: what a key does, what it answers; the document's is the same. -/
set_option linter.unusedVariables false
set_option linter.unusedSimpArgs false
set_option maxRecDepth 10000
namespace Go.Ab
open Go.Proofs Go.Num

theorem times_eq (ns xs ys : List Nat) : paillier_times' ns xs ys = ref02_Times' xs ys (paillier_square' ns) := rfl

theorem cmpN_lt {xs ys : List Nat} (hx : rt xs = true) (hy : rt ys = true) (h : cmpN xs ys < 0) : num B xs < num B ys := by
  rw [cmpN_rt2 hx hy] at h
  unfold cmp at h
  split at h
  · assumption
  · split at h <;> simp at h

theorem alone_facts {cs ns bs : List Nat} (h : paillier_alone' cs ns bs = true) (hb : rt bs = true) : rt cs = true ∧ num B cs < num B bs := by
  unfold paillier_alone' at h
  cases hr : rt cs with
  | false => rw [hr] at h; cases h
  | true =>
    rw [hr] at h
    refine ⟨rfl, cmpN_lt hr hb ?_⟩
    simp only [Bool.not_true, cond_false] at h
    by_cases h0 : decide ((cs.length : Int) = 0) = true
    · rw [h0] at h; cases h
    · rw [Bool.not_eq_true] at h0
      rw [h0, cond_false] at h
      by_cases h1 : decide (cmpN cs bs ≥ 0) = true
      · rw [h1] at h; cases h
      · rw [decide_eq_true_eq] at h1
        omega

theorem plain_facts {ns ms : List Nat} (h : paillier_isPlain' ns ms = true) (hn : rt ns = true) : rt ms = true ∧ num B ms < num B ns := by
  unfold paillier_isPlain' at h
  cases hr : rt ms with
  | false => rw [hr] at h; cases h
  | true =>
    rw [hr, cond_true, decide_eq_true_eq] at h
    exact ⟨rfl, cmpN_lt hr hn h⟩

section
variable {ns xs es : List Nat} (ln : ∀ x ∈ ns, x < B) (le : ∀ x ∈ es, x < B)
include ln le

theorem pow_oks (m : paillier_May' ns = true) (hx : rt xs = true) (h1 : num B xs < num B ns * num B ns) (he : rt es = true) (h2 : num B es ≤ num B ns) : powerOk ns xs es ∧ powOk xs es (paillier_square' ns) := by
  obtain ⟨m1, m2, m3, m4⟩ := may_facts ln m
  obtain ⟨q1, q2, q3, q4⟩ := square_may ln m
  have h8 : es.length ≤ 8 := by
    have := (digs_len B2 (num B es) 8).2 (Nat.lt_of_le_of_lt h2 (Nat.lt_trans m4 (by decide)))
    rwa [digs_of_rt le he] at this
  have h3 : (paillier_square' ns).length ≤ 3 := by rw [q1]; exact (digs_len B2 _ 3).2 q2
  have hn : num B (paillier_square' ns) = num B ns * num B ns := by rw [q1, num_digs B2]
  refine ⟨⟨m, hx, h1, he, h8⟩, hx, he, ?_, by omega, by rw [hn]; exact q3, by rw [hn]; exact h1⟩
  rw [q1]
  exact rt_digs (Nat.lt_of_lt_of_le q2 (Nat.pow_le_pow_right (by decide) (by decide)))
end

section
variable {ns xs ys : List Nat} (ln : ∀ x ∈ ns, x < B) (lx : ∀ x ∈ xs, x < B) (ly : ∀ x ∈ ys, x < B)

theorem hide_oks (ln : ∀ x ∈ ns, x < B) (lx : ∀ x ∈ xs, x < B) (m : paillier_May' ns = true) (a : paillier_alone' xs ns ns = true) : powerOk ns xs ns ∧ powOk xs ns (paillier_square' ns) := by
  obtain ⟨m1, m2, m3, m4⟩ := may_facts ln m
  obtain ⟨a1, a2⟩ := alone_facts a m1
  refine pow_oks ln ln m a1 (Nat.lt_of_lt_of_le a2 ?_) m1 (Nat.le_refl _)
  have := Nat.mul_le_mul_left (num B ns) (show 1 ≤ num B ns by omega)
  omega

theorem scale_oks (ln : ∀ x ∈ ns, x < B) (lx : ∀ x ∈ xs, x < B) (ly : ∀ x ∈ ys, x < B) (v : paillier_Valid' ns xs = true) (p : paillier_isPlain' ns ys = true) : powerOk ns xs ys ∧ powOk xs ys (paillier_square' ns) := by
  unfold paillier_Valid' at v
  cases m : paillier_May' ns with
  | false => rw [m] at v; cases v
  | true =>
    rw [m, cond_true] at v
    obtain ⟨m1, m2, m3, m4⟩ := may_facts ln m
    obtain ⟨q1, q2, q3, q4⟩ := square_may ln m
    have rs : rt (paillier_square' ns) = true := by rw [q1]; exact rt_digs (Nat.lt_of_lt_of_le q2 (Nat.pow_le_pow_right (by decide) (by decide)))
    obtain ⟨a1, a2⟩ := alone_facts v rs
    obtain ⟨p1, p2⟩ := plain_facts p m1
    rw [q1, num_digs B2] at a2
    exact pow_oks ln ly m a1 a2 p1 (Nat.le_of_lt p2)

def encF (ns ms rs : List Nat) : List Nat × Int :=
  cond (!paillier_May' ns) ([], 1) (cond (!paillier_isPlain' ns ms) ([], 10) (cond (!paillier_alone' rs ns ns) ([], 1) (ref02_Times' (paillier_shown' ns ms) (powN rs ns (paillier_square' ns)) (paillier_square' ns), 0)))
def addF (ns xs ys : List Nat) : List Nat × Int :=
  cond (!paillier_May' ns) ([], 1) (cond (!paillier_Valid' ns xs) ([], 11) (cond (!paillier_Valid' ns ys) ([], 11) (ref02_Times' xs ys (paillier_square' ns), 0)))
def plainF (ns xs ms : List Nat) : List Nat × Int :=
  cond (!paillier_May' ns) ([], 1) (cond (!paillier_Valid' ns xs) ([], 11) (cond (!paillier_isPlain' ns ms) ([], 10) (ref02_Times' xs (paillier_shown' ns ms) (paillier_square' ns), 0)))
def scaleF (ns xs ks : List Nat) : List Nat × Int :=
  cond (!paillier_May' ns) ([], 1) (cond (!paillier_Valid' ns xs) ([], 11) (cond (!paillier_isPlain' ns ks) ([], 10) (powN xs ks (paillier_square' ns), 0)))
def againF (ns xs rs : List Nat) : List Nat × Int :=
  cond (!paillier_May' ns) ([], 1) (cond (!paillier_Valid' ns xs) ([], 11) (cond (!paillier_alone' rs ns ns) ([], 1) (ref02_Times' xs (powN rs ns (paillier_square' ns)) (paillier_square' ns), 0)))

theorem fault1 (ns xs : List Nat) : faultF ns [xs] = cond (!paillier_May' ns) 1 (cond (!paillier_Valid' ns xs) 11 0) := by
  unfold faultF
  cases paillier_May' ns
  · rfl
  · simp only [List.all_cons, List.all_nil, Bool.and_true]
    cases paillier_Valid' ns xs <;> rfl
theorem fault2 (ns xs ys : List Nat) : faultF ns [xs, ys] = cond (!paillier_May' ns) 1 (cond (!paillier_Valid' ns xs) 11 (cond (!paillier_Valid' ns ys) 11 0)) := by
  unfold faultF
  cases paillier_May' ns
  · rfl
  · simp only [List.all_cons, List.all_nil, Bool.and_true]
    cases paillier_Valid' ns xs <;> cases paillier_Valid' ns ys <;> rfl

include ln lx

theorem hidden_run (m : paillier_May' ns = true) (a : paillier_alone' xs ns ns = true) : runP ref06_hidden_step (.fn ns xs) = some (powN xs ns (paillier_square' ns)) := by
  refine runP_of (.done ?_)
  show ref06_hidden_fn' _ _ = _
  unfold ref06_hidden_fn'
  rw [need_of (hide_oks ln lx m a).2]
  rfl

theorem enc_iter (ms : List Nat) : Iter paillier_Encrypt_step (.fn ns ms xs) (encF ns ms xs) ∧ Iter ref06_Encrypt_step (.fn ns ms xs) (encF ns ms xs) := by
  refine ⟨.done ?_, .done ?_⟩
  · show paillier_Encrypt_fn' _ _ _ = _
    unfold paillier_Encrypt_fn' encF
    cases m : paillier_May' ns
    · rfl
    cases p : paillier_isPlain' ns ms
    · rfl
    cases a : paillier_alone' xs ns ns
    · rfl
    rw [need_of (hide_oks ln lx m a).1]
    rfl
  · show ref06_Encrypt_fn' _ _ _ = _
    unfold ref06_Encrypt_fn' encF
    cases m : paillier_May' ns
    · rfl
    cases p : paillier_isPlain' ns ms
    · rfl
    cases a : paillier_alone' xs ns ns
    · rfl
    rw [hidden_run ln lx m a]
    rfl

omit ln lx in
theorem add_iter : Iter paillier_Add_step (.fn ns xs ys) (addF ns xs ys) ∧ Iter ref06_Add_step (.fn ns xs ys) (addF ns xs ys) := by
  refine ⟨.done ?_, .done ?_⟩
  · show paillier_Add_fn' _ _ _ = _
    unfold paillier_Add_fn' addF
    rw [fault2, times_eq]
    cases paillier_May' ns
    · rfl
    cases paillier_Valid' ns xs
    · rfl
    cases paillier_Valid' ns ys <;> rfl
  · show ref06_Add_fn' _ _ _ = _
    unfold ref06_Add_fn' addF
    cases paillier_May' ns
    · rfl
    cases paillier_Valid' ns xs
    · rfl
    cases paillier_Valid' ns ys <;> rfl

omit ln lx in
theorem plain_iter : Iter paillier_Plain_step (.fn ns xs ys) (plainF ns xs ys) ∧ Iter ref06_Plain_step (.fn ns xs ys) (plainF ns xs ys) := by
  refine ⟨.done ?_, .done ?_⟩
  · show paillier_Plain_fn' _ _ _ = _
    unfold paillier_Plain_fn' plainF
    rw [fault1, times_eq]
    cases paillier_May' ns
    · rfl
    cases paillier_Valid' ns xs
    · rfl
    cases paillier_isPlain' ns ys <;> rfl
  · show ref06_Plain_fn' _ _ _ = _
    unfold ref06_Plain_fn' plainF
    cases paillier_May' ns
    · rfl
    cases paillier_Valid' ns xs
    · rfl
    cases paillier_isPlain' ns ys <;> rfl

theorem scale_iter (ly : ∀ x ∈ ys, x < B) : Iter paillier_Scale_step (.fn ns xs ys) (scaleF ns xs ys) ∧ Iter ref06_Scale_step (.fn ns xs ys) (scaleF ns xs ys) := by
  refine ⟨.done ?_, .done ?_⟩
  · show paillier_Scale_fn' _ _ _ = _
    unfold paillier_Scale_fn' scaleF
    rw [fault1]
    cases m : paillier_May' ns
    · rfl
    cases v : paillier_Valid' ns xs
    · rfl
    cases p : paillier_isPlain' ns ys
    · rfl
    rw [need_of (scale_oks ln lx ly v p).1]
    rfl
  · show ref06_Scale_fn' _ _ _ = _
    unfold ref06_Scale_fn' scaleF
    cases m : paillier_May' ns
    · rfl
    cases v : paillier_Valid' ns xs
    · rfl
    cases p : paillier_isPlain' ns ys
    · rfl
    rw [need_of (scale_oks ln lx ly v p).2]
    rfl

omit lx in
theorem again_iter (ly : ∀ x ∈ ys, x < B) : Iter paillier_Again_step (.fn ns xs ys) (againF ns xs ys) ∧ Iter ref06_Again_step (.fn ns xs ys) (againF ns xs ys) := by
  refine ⟨.done ?_, .done ?_⟩
  · show paillier_Again_fn' _ _ _ = _
    unfold paillier_Again_fn' againF
    rw [fault1]
    cases m : paillier_May' ns
    · rfl
    cases v : paillier_Valid' ns xs
    · rfl
    cases a : paillier_alone' ys ns ns
    · rfl
    rw [need_of (hide_oks ln ly m a).1]
    rfl
  · show ref06_Again_fn' _ _ _ = _
    unfold ref06_Again_fn' againF
    cases m : paillier_May' ns
    · rfl
    cases v : paillier_Valid' ns xs
    · rfl
    cases a : paillier_alone' ys ns ns
    · rfl
    rw [hidden_run ln ly m a]
    rfl
end

section
variable {h : AH} {s t u : Sl} {ns xs ys : List Nat} (n : Nats h s ns) (m : Nats h t xs) (k : Nats h u ys)
include n m k
theorem paillier_Encrypt_is : Runs (go (.fn F.paillier_Encrypt [s.v, t.v, u.v]) h) (paillier_Encrypt_post h (encF ns xs ys)) := paillier_Encrypt_opt n m k (runP_of (enc_iter n.lt k.lt xs).1)
theorem ref06_Encrypt_is : Runs (go (.fn F.ref06_Encrypt [s.v, t.v, u.v]) h) (ref06_Encrypt_post h (encF ns xs ys)) := ref06_Encrypt_opt n m k (runP_of (enc_iter n.lt k.lt xs).2)
theorem paillier_Add_is : Runs (go (.fn F.paillier_Add [s.v, t.v, u.v]) h) (paillier_Add_post h (addF ns xs ys)) := paillier_Add_opt n m k (runP_of add_iter.1)
theorem ref06_Add_is : Runs (go (.fn F.ref06_Add [s.v, t.v, u.v]) h) (ref06_Add_post h (addF ns xs ys)) := ref06_Add_opt n m k (runP_of add_iter.2)
theorem paillier_Plain_is : Runs (go (.fn F.paillier_Plain [s.v, t.v, u.v]) h) (paillier_Plain_post h (plainF ns xs ys)) := paillier_Plain_opt n m k (runP_of plain_iter.1)
theorem ref06_Plain_is : Runs (go (.fn F.ref06_Plain [s.v, t.v, u.v]) h) (ref06_Plain_post h (plainF ns xs ys)) := ref06_Plain_opt n m k (runP_of plain_iter.2)
theorem paillier_Scale_is : Runs (go (.fn F.paillier_Scale [s.v, t.v, u.v]) h) (paillier_Scale_post h (scaleF ns xs ys)) := paillier_Scale_opt n m k (runP_of (scale_iter n.lt m.lt k.lt).1)
theorem ref06_Scale_is : Runs (go (.fn F.ref06_Scale [s.v, t.v, u.v]) h) (ref06_Scale_post h (scaleF ns xs ys)) := ref06_Scale_opt n m k (runP_of (scale_iter n.lt m.lt k.lt).2)
theorem paillier_Again_is : Runs (go (.fn F.paillier_Again [s.v, t.v, u.v]) h) (paillier_Again_post h (againF ns xs ys)) := paillier_Again_opt n m k (runP_of (again_iter n.lt k.lt).1)
theorem ref06_Again_is : Runs (go (.fn F.ref06_Again [s.v, t.v, u.v]) h) (ref06_Again_post h (againF ns xs ys)) := ref06_Again_opt n m k (runP_of (again_iter n.lt k.lt).2)
end

end Go.Ab

/- Layer 6: 5, hidden behind 1. -/
set_option linter.unusedVariables false
set_option linter.unusedSimpArgs false
set_option maxRecDepth 10000
namespace Go.Ab
open Go.Proofs Go.Num

theorem enc_5 : encF [17947] [5] [1] = ([89736], 0) := by decide +kernel

theorem awake06 {h : AH} : ∃ h', go (.fn F.law06_awake []) h = some (.bool true, h') ∧ Grow h h' := by
  have it : Iter law06_awake_step .fn true := .done (by
    show law06_awake_fn' = _
    unfold law06_awake_fn'
    rw [show u64P 17947 = some 17947 from rfl, Option.bind_some, show u64P 5 = some 5 from rfl, Option.bind_some, show u64P 1 = some 1 from rfl, Option.bind_some, runP_of (enc_iter (by decide) (by decide) [5]).1, Option.bind_some, enc_5]
    rfl)
  obtain ⟨_, h', e, rfl, g⟩ := law06_awake_run it (h := h)
  exact ⟨h', e, g⟩

end Go.Ab
