/- squeezed -/
import Derived.Test.YtpmbjekomcldmaaGreatPS23
import Derived.Test.YtpmbjekomcldmaaGreatPS2
import Derived.Test.YtpmbjekomcldmaaGreatPAbsQ

set_option linter.unusedVariables false
set_option linter.unusedSimpArgs false
set_option maxRecDepth 10000
namespace Go.Ab
open Go.Proofs Go.Num
inductive kii
 | fn (x1 : List Nat) (x2 : List Nat)
 | no
abbrev kg5 := List Nat × List Nat × Int
noncomputable def kj1 (x1 : List Nat) (x2 : List Nat) : Option (kii ⊕ kg5) :=
 cond (!((rt x1 && rt x2))) (some (.inr ([], [], 1))) (cond (decide ((List.length x2 : Int) = 0)) (some (.inr ([], [], 3))) ((need (Trim x1)).bind fun c7_0 => (need (Trim x2)).bind fun c7_1 => cond (decide ((cmp (num B x1) (num B x2)) < 0)) ((need (List.length x1 ≤ 8796093022208)).bind fun c9_0 => some (.inr ([], x1, 0))) (cond (decide ((List.length x2 : Int) = 1)) ((atI x2 0).bind fun y10 => (need (0 < ((y10 : Int)) ∧ ((y10 : Int)) < 18446744073709551616 ∧ List.length x1 ≤ 8796093022208)).bind fun c11_0 => (u64P (((num B x1 % Int.toNat ((y10 : Int)) : Nat) : Int))).bind fun p12 => some (.inr (digs B (num B x1 / Int.toNat ((y10 : Int))), digs B p12, 0))) ((need (Trim x2)).bind fun c10_0 => (need (2 ≤ List.length x2)).bind fun c10_1 => (need (List.length x1 ≤ 64)).bind fun c10_2 => (need (List.length x2 ≤ List.length x1)).bind fun c10_3 => some (.inr (digs B (num B x1 / num B x2), digs B (num B x1 % num B x2), 0))))))
noncomputable def kx8 : kii → Option (kii ⊕ kg5)
 | .fn x1 x2 => kj1 x1 x2
 | .no => none
@[reducible] def k7w (h0 : AH) (r : kg5) (v : AV) (h' : AH) : Prop := ∃ s1 : Sl, ∃ s2 : Sl, v = .tup [s1.v, s2.v, .int .i64 r.2.2] ∧ Nats h' s1 r.1 ∧ Nats h' s2 r.2.1 ∧ Grow h0 h' ∧ Own h0 s1 ∧ Own h0 s2
def krd (r : kg5) : kii → Prop
 | .fn x1 x2 => ∀ {h : AH} {a1 : Sl} {a2 : Sl}, Nats h a1 x1 → Nats h a2 x2 → Runs (go (.fn F.kc0 [a1.v, a2.v]) h) (k7w h r)
 | .no => True
theorem k0e {r : kg5} {o : kii ⊕ kg5} {x1 : List Nat} {x2 : List Nat} (e : kj1 x1 x2 = some o) (good : GoodS (krd r) r o) : krd r (.fn x1 x2) := by
 intro h a1 a2 n1 n2
 rw [k9i]
 unfold kj1 at e
 rw [n2.len]
 refine Runs.new fun H3 b3 g3 => ?_
 refine Runs.step (kbfc b3 (n1.grow g3) (n2.grow g3)) ?_
 refine Runs.step (seen rfl) ?_
 refine Runs.cond (fun k5 => ?_) (fun k5 => ?_)
 ·replace e := (condT k5).symm.trans e
  cases e
  cases good
  exact Runs.ret ⟨(⟨none, 0, .is 0⟩ : Sl), (⟨none, 0, .is 0⟩ : Sl), rfl, (Nats.nil _), (Nats.nil _), g3, (Own.nil _), (Own.nil _)⟩
 ·replace e := (condF k5).symm.trans e
  refine Runs.cond (fun k6 => ?_) (fun k6 => ?_)
  ·replace e := (condT k6).symm.trans e
   cases e
   cases good
   exact Runs.ret ⟨(⟨none, 0, .is 0⟩ : Sl), (⟨none, 0, .is 0⟩ : Sl), rfl, (Nats.nil _), (Nats.nil _), g3, (Own.nil _), (Own.nil _)⟩
  ·replace e := (condF k6).symm.trans e
   obtain ⟨c7_0, q7_0, e⟩ := Option.bind_eq_some_iff.1 e
   obtain ⟨c7_1, q7_1, e⟩ := Option.bind_eq_some_iff.1 e
   refine Runs.step (kmf (n1.grow g3) (n2.grow g3)  c7_0.down c7_1.down) ?_
   refine Runs.step (seen (kb _ _)) ?_
   refine Runs.cond (fun k8 => ?_) (fun k8 => ?_)
   ·replace e := (condT k8).symm.trans e
    obtain ⟨c9_0, q9_0, e⟩ := Option.bind_eq_some_iff.1 e
    obtain ⟨s9, H9, e9, n9, g9, o9⟩ := khz (n1.grow g3)  c9_0.down
    refine Runs.step e9 ?_
    refine Runs.step (seen (asSl_v _)) ?_
    cases e
    cases good
    exact Runs.ret ⟨(⟨none, 0, .is 0⟩ : Sl), s9, rfl, (Nats.nil _), n9, (g3.trans g9), (Own.nil _), (o9.of_le g3)⟩
   ·replace e := (condF k8).symm.trans e
    refine Runs.cond (fun k9 => ?_) (fun k9 => ?_)
    ·replace e := (condT k9).symm.trans e
     obtain ⟨y10, q10, e⟩ := Option.bind_eq_some_iff.1 e
     obtain ⟨r10, j10, l10⟩ := (n2.grow g3).atI q10
     refine Runs.step j10 ?_
     refine Runs.step (rdc l10 (kb _ _)) ?_
     obtain ⟨c11_0, q11_0, e⟩ := Option.bind_eq_some_iff.1 e
     obtain ⟨s11, H11, e11, n11, g11, o11⟩ := k89 (n1.grow g3) ((y10 : Int))  c11_0.down
     refine Runs.step e11 ?_
     refine Runs.step rfl ?_
     refine Runs.step (seen (asSl_v _)) ?_
     refine Runs.step (seen (kb _ _)) ?_
     obtain ⟨p12, q12, e⟩ := Option.bind_eq_some_iff.1 e
     obtain ⟨s12, H12, e12, n12, g12, o12⟩ := kqh q12
     refine Runs.step e12 ?_
     refine Runs.step (seen (asSl_v _)) ?_
     cases e
     cases good
     exact Runs.ret ⟨s11, s12, rfl, (n11.grow g12), n12, ((g3.trans g11).trans g12), (o11.of_le g3), (o12.of_le (g3.trans g11))⟩
    ·replace e := (condF k9).symm.trans e
     obtain ⟨c10_0, q10_0, e⟩ := Option.bind_eq_some_iff.1 e
     obtain ⟨c10_1, q10_1, e⟩ := Option.bind_eq_some_iff.1 e
     obtain ⟨c10_2, q10_2, e⟩ := Option.bind_eq_some_iff.1 e
     obtain ⟨c10_3, q10_3, e⟩ := Option.bind_eq_some_iff.1 e
     obtain ⟨s10, s10b, H10, e10, n10, n10b, g10, o10, o10b⟩ := k1t (n1.grow g3) (n2.grow g3)  c10_0.down c10_1.down c10_2.down c10_3.down
     refine Runs.step e10 ?_
     refine Runs.step rfl ?_
     refine Runs.step (seen (asSl_v _)) ?_
     refine Runs.step (seen (asSl_v _)) ?_
     cases e
     cases good
     exact Runs.ret ⟨s10, s10b, rfl, n10, n10b, (g3.trans g10), (o10.of_le g3), (o10b.of_le g3)⟩
theorem k4a {s : kii} {r : kg5} (it : Iter kx8 s r) : krd r s := Iter.ind (fun s o e good => by
 cases s with
 | fn x1 x2 => exact @k0e _ _ x1 x2 e good
 | no => exact True.intro
 ) it
inductive kdj
 | fn (x1 : List Nat) (x2 : List Nat)
 | p4 (x1 : List Nat) (x2 : List Nat) (x3 : List Nat) (x4 : List Nat) (a5 : Int)
 | p9 (x1 : List Nat) (x2 : List Nat) (x3 : List Nat) (x4 : List Nat) (a5 : Int) (a6 : Int) (a7 : Int)
abbrev kcc := List Nat × List Nat
noncomputable def kl5 (x1 : List Nat) (x2 : List Nat) : Option (kdj ⊕ kcc) :=
 (mkI (List.length x1 : Int) (List.length x1 : Int)).bind fun m3 => some (.inl (.p4 x1 x2 (List.replicate m3 0) [] (IntKind.wrap .i64 ((List.length x1 : Int) - 1))))
noncomputable def kg1 (x1 : List Nat) (x2 : List Nat) (x3 : List Nat) (x4 : List Nat) (a5 : Int) : Option (kdj ⊕ kcc) :=
 cond (decide (a5 ≥ 0)) ((atI x1 a5).bind fun y7 => (u64P ((y7 : Int))).bind fun w10 => (need (List.length x4 ≤ 1073741824)).bind fun c9 => (need (∀ x ∈ (w10 :: x4), x < D)).bind fun c11_0 => some (.inl (.p9 x1 x2 x3 (digs D (num D (w10 :: x4))) a5 0 65535))) ((need (∀ x ∈ x3, x < D)).bind fun c7_0 => some (.inr (digs D (num D x3), x4)))
noncomputable def khv (x1 : List Nat) (x2 : List Nat) (x3 : List Nat) (x4 : List Nat) (a5 : Int) (a6 : Int) (a7 : Int) : Option (kdj ⊕ kcc) :=
 cond (decide (a6 < a7)) ((u64P (IntKind.wrap .u64 (Int.tdiv (IntKind.wrap .u64 ((IntKind.wrap .u64 (a6 + a7)) + 1)) 2))).bind fun w10 => (need (∀ x ∈ x2, x < D)).bind fun c11_0 => (need (∀ x ∈ [w10], x < D)).bind fun c11_1 => (need (List.length x2 + List.length [w10] ≤ 8796093022208)).bind fun c11_2 => (need (∀ x ∈ (digs D (num D x2 * num D [w10])), x < D)).bind fun c12_0 => (need (∀ x ∈ x4, x < D)).bind fun c12_1 => (need (Trim (digs D (num D x2 * num D [w10])))).bind fun c12_2 => (need (Trim x4)).bind fun c12_3 => cond (decide ((cmp (num D (digs D (num D x2 * num D [w10]))) (num D x4)) ≤ 0)) (some (.inl (.p9 x1 x2 x3 x4 a5 (IntKind.wrap .u64 (Int.tdiv (IntKind.wrap .u64 ((IntKind.wrap .u64 (a6 + a7)) + 1)) 2)) a7))) (some (.inl (.p9 x1 x2 x3 x4 a5 a6 (IntKind.wrap .u64 ((IntKind.wrap .u64 (Int.tdiv (IntKind.wrap .u64 ((IntKind.wrap .u64 (a6 + a7)) + 1)) 2)) - 1)))))) ((inI (List.length x3) a5).bind fun j9 => (u64P a6).bind fun w10 => (u64P a6).bind fun w12 => (need (∀ x ∈ x2, x < D)).bind fun c13_0 => (need (∀ x ∈ [w12], x < D)).bind fun c13_1 => (need (List.length x2 + List.length [w12] ≤ 8796093022208)).bind fun c13_2 => (need (∀ x ∈ x4, x < D)).bind fun c14_0 => (need (∀ x ∈ (digs D (num D x2 * num D [w12])), x < D)).bind fun c14_1 => (need (List.length x4 ≤ 1073741824)).bind fun c14_2 => (need (List.length (digs D (num D x2 * num D [w12])) ≤ List.length x4)).bind fun c14_3 => (need (num D (digs D (num D x2 * num D [w12])) ≤ num D x4)).bind fun c14_4 => some (.inl (.p4 x1 x2 (List.set x3 j9 w10) (digs D (num D x4 - num D (digs D (num D x2 * num D [w12])))) (IntKind.wrap .i64 (a5 - 1)))))
noncomputable def kic : kdj → Option (kdj ⊕ kcc)
 | .fn x1 x2 => kl5 x1 x2
 | .p4 x1 x2 x3 x4 a5 => kg1 x1 x2 x3 x4 a5
 | .p9 x1 x2 x3 x4 a5 a6 a7 => khv x1 x2 x3 x4 a5 a6 a7
@[reducible] def kpl (h0 : AH) (r : kcc) (v : AV) (h' : AH) : Prop := ∃ s1 : Sl, ∃ s2 : Sl, v = .tup [s1.v, s2.v] ∧ Nats h' s1 r.1 ∧ Nats h' s2 r.2 ∧ Grow h0 h' ∧ Own h0 s1 ∧ Own h0 s2
def kgm (r : kcc) : kdj → Prop
 | .fn x1 x2 => ∀ {h : AH} {a1 : Sl} {a2 : Sl}, Nats h a1 x1 → Nats h a2 x2 → Runs (go (.fn F.kcr [a1.v, a2.v]) h) (kpl h r)
 | .p4 x1 x2 x3 x4 a5 => ∀ {h0 h : AH} {a1 : Sl} {a2 : Sl} {a3 : Sl} {a4 : Sl} {i3 : Nat}, Grow h0 h → Nats h a1 x1 → Nats h a2 x2 → Vec h a3 i3 x3 → Nats h a4 x4 → h0.blks.size ≤ i3 → Av a1 i3 x1 → Av a2 i3 x2 → Av a4 i3 x4 → Own h0 a4 → Runs (go (.pt F.kcr Td.kpj [(0, a1.v), (1, a2.v), (6, a3.v), (7, a4.v), (8, .int .i64 a5)]) h) (kpl h0 r)
 | .p9 x1 x2 x3 x4 a5 a6 a7 => ∀ {h0 h : AH} {a1 : Sl} {a2 : Sl} {a3 : Sl} {a4 : Sl} {i3 : Nat}, Grow h0 h → Nats h a1 x1 → Nats h a2 x2 → Vec h a3 i3 x3 → Nats h a4 x4 → h0.blks.size ≤ i3 → Av a1 i3 x1 → Av a2 i3 x2 → Av a4 i3 x4 → Own h0 a4 → Runs (go (.pt F.kcr Td.kjt [(0, a1.v), (1, a2.v), (6, a3.v), (7, a4.v), (8, .int .i64 a5), (9, .int .u64 a6), (10, .int .u64 a7)]) h) (kpl h0 r)
theorem k0j {r : kcc} {o : kdj ⊕ kcc} {x1 : List Nat} {x2 : List Nat} (e : kl5 x1 x2 = some o) (good : GoodS (kgm r) r o) : kgm r (.fn x1 x2) := by
 intro h a1 a2 n1 n2
 rw [k5h]
 unfold kl5 at e
 rw [n1.len]
 obtain ⟨m3, q3, e⟩ := Option.bind_eq_some_iff.1 e
 refine Runs.mk q3 kc2 fun s3 H3 v3 g3 => ?_
 cases e
 exact good g3 (n1.grow g3) (n2.grow g3) v3 (Nats.nil _) (Nat.le_refl _) (Av.of_base n1 (Nat.le_refl _)) (Av.of_base n2 (Nat.le_refl _)) (Av.nil _ _) (Own.nil _)
theorem k52 {r : kcc} {o : kdj ⊕ kcc} {x1 : List Nat} {x2 : List Nat} {x3 : List Nat} {x4 : List Nat} {a5 : Int} (e : kg1 x1 x2 x3 x4 a5 = some o) (good : GoodS (kgm r) r o) : kgm r (.p4 x1 x2 x3 x4 a5) := by
 intro h0 h a1 a2 a3 a4 i3 g0 n1 n2 v3 n4 hi3 av1_3 av2_3 av4_3 ow4
 rw [kbbr]
 unfold kg1 at e
 rw [n1.len]
 refine Runs.cond (fun k6 => ?_) (fun k6 => ?_)
 ·replace e := (condT k6).symm.trans e
  obtain ⟨y7, q7, e⟩ := Option.bind_eq_some_iff.1 e
  obtain ⟨r7, j7, l7⟩ := n1.atI q7
  refine Runs.step j7 ?_
  refine Runs.step (rdc l7 (kb _ _)) ?_
  refine Runs.new fun H8 b8 g8 => ?_
  refine Runs.step (k0i (n4.grow g8)) ?_
  obtain ⟨w10, z10, e⟩ := Option.bind_eq_some_iff.1 e
  obtain ⟨c9, q9, e⟩ := Option.bind_eq_some_iff.1 e
  obtain ⟨s9, H9, e9, n9, g9, o9⟩ := k5e b8 z10 (n4.grow g8) g8 (Nat.le_refl _) c9.down
  refine Runs.step e9 ?_
  refine Runs.step (asSl_v _) ?_
  obtain ⟨c11_0, q11_0, e⟩ := Option.bind_eq_some_iff.1 e
  obtain ⟨s11, e11, n11, o11⟩ := kji n9  c11_0.down
  refine Runs.step e11 ?_
  refine Runs.step (seen (asSl_v _)) ?_
  cases e
  exact good ((g0.trans g8).trans g9) (n1.grow (g8.trans g9)) (n2.grow (g8.trans g9)) (v3.grow (g8.trans g9)) n11 hi3 av1_3 av2_3 (Av.of_own (o11 _ o9) (v3).inn) ((o11 _ o9).of_le g0)
 ·replace e := (condF k6).symm.trans e
  obtain ⟨c7_0, q7_0, e⟩ := Option.bind_eq_some_iff.1 e
  obtain ⟨s7, e7, n7, o7⟩ := kji v3.nats  c7_0.down
  refine Runs.step e7 ?_
  refine Runs.step (seen (asSl_v _)) ?_
  cases e
  cases good
  exact Runs.ret ⟨s7, a4, rfl, n7, n4, g0, ((o7 _ (v3.own hi3)).of_le (Grow.refl _)), (ow4.of_le (Grow.refl _))⟩
theorem k9w {r : kcc} {o : kdj ⊕ kcc} {x1 : List Nat} {x2 : List Nat} {x3 : List Nat} {x4 : List Nat} {a5 : Int} {a6 : Int} {a7 : Int} (e : khv x1 x2 x3 x4 a5 a6 a7 = some o) (good : GoodS (kgm r) r o) : kgm r (.p9 x1 x2 x3 x4 a5 a6 a7) := by
 intro h0 h a1 a2 a3 a4 i3 g0 n1 n2 v3 n4 hi3 av1_3 av2_3 av4_3 ow4
 rw [k88]
 unfold khv at e
 rw [v3.nats.len]
 refine Runs.cond (fun k8 => ?_) (fun k8 => ?_)
 ·replace e := (condT k8).symm.trans e
  refine Runs.new fun H9 b9 g9 => ?_
  obtain ⟨w10, z10, e⟩ := Option.bind_eq_some_iff.1 e
  obtain ⟨c11_0, q11_0, e⟩ := Option.bind_eq_some_iff.1 e
  obtain ⟨c11_1, q11_1, e⟩ := Option.bind_eq_some_iff.1 e
  obtain ⟨c11_2, q11_2, e⟩ := Option.bind_eq_some_iff.1 e
  obtain ⟨s11, H11, e11, n11, g11, o11⟩ := ks5 (n2.grow g9) (Nats.of_has1 b9 z10)  c11_0.down c11_1.down c11_2.down
  refine Runs.step e11 ?_
  refine Runs.step (seen (asSl_v _)) ?_
  obtain ⟨c12_0, q12_0, e⟩ := Option.bind_eq_some_iff.1 e
  obtain ⟨c12_1, q12_1, e⟩ := Option.bind_eq_some_iff.1 e
  obtain ⟨c12_2, q12_2, e⟩ := Option.bind_eq_some_iff.1 e
  obtain ⟨c12_3, q12_3, e⟩ := Option.bind_eq_some_iff.1 e
  refine Runs.step (kbbf n11 (n4.grow (g9.trans g11))  c12_0.down c12_1.down c12_2.down c12_3.down) ?_
  refine Runs.step (seen (kb _ _)) ?_
  refine Runs.cond (fun k13 => ?_) (fun k13 => ?_)
  ·replace e := (condT k13).symm.trans e
   cases e
   exact good ((g0.trans g9).trans g11) (n1.grow (g9.trans g11)) (n2.grow (g9.trans g11)) (v3.grow (g9.trans g11)) (n4.grow (g9.trans g11)) hi3 av1_3 av2_3 av4_3 (ow4.of_le (Grow.refl _))
  ·replace e := (condF k13).symm.trans e
   cases e
   exact good ((g0.trans g9).trans g11) (n1.grow (g9.trans g11)) (n2.grow (g9.trans g11)) (v3.grow (g9.trans g11)) (n4.grow (g9.trans g11)) hi3 av1_3 av2_3 av4_3 (ow4.of_le (Grow.refl _))
 ·replace e := (condF k8).symm.trans e
  obtain ⟨j9, q9, e⟩ := Option.bind_eq_some_iff.1 e
  refine Runs.step (v3.idx rfl q9) ?_
  obtain ⟨w10, z10, e⟩ := Option.bind_eq_some_iff.1 e
  refine Runs.vput v3 rfl q9 z10 fun H10 v10 u10 => ?_
  have n1_10 := n1.upda av1_3 u10
  have n2_10 := n2.upda av2_3 u10
  have n4_10 := n4.upda av4_3 u10
  refine Runs.new fun H11 b11 g11 => ?_
  obtain ⟨w12, z12, e⟩ := Option.bind_eq_some_iff.1 e
  obtain ⟨c13_0, q13_0, e⟩ := Option.bind_eq_some_iff.1 e
  obtain ⟨c13_1, q13_1, e⟩ := Option.bind_eq_some_iff.1 e
  obtain ⟨c13_2, q13_2, e⟩ := Option.bind_eq_some_iff.1 e
  obtain ⟨s13, H13, e13, n13, g13, o13⟩ := ks5 (n2_10.grow g11) (Nats.of_has1 b11 z12)  c13_0.down c13_1.down c13_2.down
  refine Runs.step e13 ?_
  refine Runs.step (seen (asSl_v _)) ?_
  obtain ⟨c14_0, q14_0, e⟩ := Option.bind_eq_some_iff.1 e
  obtain ⟨c14_1, q14_1, e⟩ := Option.bind_eq_some_iff.1 e
  obtain ⟨c14_2, q14_2, e⟩ := Option.bind_eq_some_iff.1 e
  obtain ⟨c14_3, q14_3, e⟩ := Option.bind_eq_some_iff.1 e
  obtain ⟨c14_4, q14_4, e⟩ := Option.bind_eq_some_iff.1 e
  obtain ⟨s14, H14, e14, n14, g14, o14⟩ := k2c (n4_10.grow (g11.trans g13)) n13  c14_0.down c14_1.down c14_2.down c14_3.down c14_4.down
  refine Runs.step e14 ?_
  refine Runs.step (seen (asSl_v _)) ?_
  cases e
  exact good ((((g0.updr hi3 u10).trans g11).trans g13).trans g14) (n1_10.grow ((g11.trans g13).trans g14)) (n2_10.grow ((g11.trans g13).trans g14)) (v10.grow ((g11.trans g13).trans g14)) n14 hi3 av1_3 av2_3 (Av.of_own o14 ((v10.grow (g11.trans g13))).inn) (o14.of_le (((g0.updr hi3 u10).trans g11).trans g13))
theorem kbdt {s : kdj} {r : kcc} (it : Iter kic s r) : kgm r s := Iter.ind (fun s o e good => by
 cases s with
 | fn x1 x2 => exact @k0j _ _ x1 x2 e good
 | p4 x1 x2 x3 x4 a5 => exact @k52 _ _ x1 x2 x3 x4 a5 e good
 | p9 x1 x2 x3 x4 a5 a6 a7 => exact @k9w _ _ x1 x2 x3 x4 a5 a6 a7 e good
 ) it
end Go.Ab

/- squeezed -/
set_option linter.unusedVariables false
set_option linter.unusedSimpArgs false
set_option maxRecDepth 10000
namespace Go.Ab
open Go.Proofs Go.Num
def divN (xs ys : List Nat) : List Nat × List Nat × Int :=
 if rt xs = true ∧ rt ys = true then (if ys = [] then ([], [], 3) else (digs B (num B xs / num B ys), digs B (num B xs % num B ys), 0)) else ([], [], 1)
theorem kts {b : Nat} (hb : 1 ≤ b) {xs : List Nat} (t : Trim xs) (h : xs ≠ []) : 0 < num b xs := by
 rcases Nat.eq_zero_or_pos (num b xs) with e | e
 ·exact absurd (kmm hb t e) h
 ·exact e
theorem cmp_lt {a b : Nat} : cmp a b < 0 ↔ a < b := by
 unfold cmp
 by_cases h : a < b
 ·rw [if_pos h]; omega
 ·rw [if_neg h]
  by_cases h2 : a = b
  ·rw [if_pos h2]; omega
  ·rw [if_neg h2]; omega
theorem cmp_le {a b : Nat} : cmp a b ≤ 0 ↔ a ≤ b := by
 unfold cmp
 by_cases h : a < b
 ·rw [if_pos h]; omega
 ·rw [if_neg h]
  by_cases h2 : a = b
  ·rw [if_pos h2]; omega
  ·rw [if_neg h2]; omega
theorem kbae {xs ys : List Nat} (lx : ∀ x ∈ xs, x < B) (ly : ∀ x ∈ ys, x < B) : Iter kx8 (.fn xs ys) (divN xs ys) := by
 refine .done ?_
 show kj1 _ _ = _
 unfold kj1 divN
 cases hx : rt xs with
 | false => simp
 | true =>
  cases hy : rt ys with
  | false => simp
  | true =>
   obtain ⟨lx64, tx⟩ := rt_iff.1 hx
   obtain ⟨ly64, ty⟩ := rt_iff.1 hy
   simp only [Bool.and_self, Bool.not_true, cond_false, and_self, if_true]
   by_cases h0 : ys = []
   ·subst h0
    rfl
   ·have hl : ys.length ≠ 0 := by simpa using h0
    have hp := kts B1 ty h0
    rw [if_neg h0, condF (by rw [decide_eq_false_iff_not]; omega), ki tx, Option.bind_some, ki ty, Option.bind_some]
    by_cases hc : num B xs < num B ys
    ·rw [condT (by rw [decide_eq_true_eq, cmp_lt]; exact hc), ki (by omega), Option.bind_some, Nat.div_eq_of_lt hc, Nat.mod_eq_of_lt hc, kbq, kdo B2 lx tx]
    ·rw [condF (by rw [decide_eq_false_iff_not, cmp_lt]; exact hc)]
     by_cases h1 : ys.length = 1
     ·obtain ⟨y, rfl⟩ := List.length_eq_one_iff.1 h1
      have hy : y < 18446744073709551616 := ly y (by simp)
      have e : num B [y] = y := by simp [num]
      rw [e] at hp ⊢
      have hm := Nat.mod_lt (num B xs) hp
      have a0 := kbm (xs := [y]) (i := 0) (by simp)
      rw [show ((0 : Nat) : Int) = 0 from rfl] at a0
      rw [condT (by rw [decide_eq_true_eq]; omega), a0, Option.bind_some]
      rw [List.getElem_cons_zero, ki ⟨by omega, by omega, by omega⟩, Option.bind_some, Int.toNat_natCast, kbc (by omega), Option.bind_some]
     ·have hle := kvj lx ly ty (Nat.le_of_not_lt hc)
      rw [condF (by rw [decide_eq_false_iff_not]; omega), Option.bind_some, ki (by omega), Option.bind_some, ki lx64, Option.bind_some, ki hle, Option.bind_some]
theorem ke7 {h : AH} {s t : Sl} {xs ys : List Nat} (n : Nats h s xs) (m : Nats h t ys) : ∃ (a b : Sl) (h' : AH), go (.fn F.kc0 [s.v, t.v]) h = some (.tup [a.v, b.v, .int .i64 (divN xs ys).2.2], h') ∧ Nats h' a (divN xs ys).1 ∧ Nats h' b (divN xs ys).2.1 ∧ Grow h h' ∧ Own h a ∧ Own h b := by
 obtain ⟨_, h', e, a, b, rfl, k⟩ := k4a (kbae n.lt m.lt) n m
 exact ⟨a, b, h', e, k⟩
theorem kqi {a c : Nat} (h : a ≤ c) : (digs D a).length ≤ (digs D c).length := by
 rw [kx D2]
 exact Nat.lt_of_le_of_lt h ((kx D2 c _).1 (Nat.le_refl _))
theorem k9k {xs ys q : List Nat} {R j : Nat} {res : kcc} (ly : ∀ y ∈ ys, y < D) (hl : ys.length ≤ 536870912) (hy : 0 < num D ys) (hR : (digs D R).length ≤ 1073741824) (hj : j < q.length)
  (K : Iter kic (.p4 xs ys (q.set j (R / num D ys)) (digs D (R % num D ys)) (IntKind.wrap .i64 ((j : Int) - 1))) res) :
  ∀ (n low high : Nat), high - low = n → low ≤ R / num D ys → R / num D ys ≤ high → high < 65536 → Iter kic (.p9 xs ys q (digs D R) j low high) res := by
 intro n
 induction n using Nat.strongRecOn with
 | ind n ih =>
  intro low high hn h1 h2 h3
  have tR := kcq D2 R
  have lR := kz D2 R
  by_cases hc : low < high
  ·have hm : IntKind.wrap .u64 (Int.tdiv (IntKind.wrap .u64 ((IntKind.wrap .u64 ((low : Int) + (high : Int))) + 1)) 2) = (((low + high + 1) / 2 : Nat) : Int) := by
    rw [← Int.natCast_add, kb7 (by omega), show (((low + high : Nat) : Int) + 1) = ((low + high + 1 : Nat) : Int) from by omega, kb7 (by omega)]
    rw [show Int.tdiv ((low + high + 1 : Nat) : Int) 2 = (((low + high + 1) / 2 : Nat) : Int) from rfl, kb7 (by omega)]
   obtain ⟨mid, hmid⟩ : ∃ mid, mid = (low + high + 1) / 2 := ⟨_, rfl⟩
   have e1 : num D [mid] = mid := by simp [num]
   have lm : ∀ x ∈ [mid], x < D := by
    intro x hx
    rw [List.mem_singleton.1 hx]
    exact show mid < 65536 by omega
   have unf : ∀ o, cond (decide (num D ys * mid ≤ R)) (some (Sum.inl (β := kcc) (kdj.p9 xs ys q (digs D R) j mid high))) (some (.inl (.p9 xs ys q (digs D R) j low (IntKind.wrap .u64 ((mid : Int) - 1))))) = o → kic (.p9 xs ys q (digs D R) j low high) = o := by
    intro o ho
    show khv _ _ _ _ _ _ _ = _
    unfold khv
    rw [condT (by rw [decide_eq_true_eq]; omega), hm, ← hmid, kbc (by omega), Option.bind_some, ki ly, Option.bind_some, ki lm, Option.bind_some, ki (by simp; omega), Option.bind_some, ki (kz D2 _), Option.bind_some, ki lR, Option.bind_some, ki (kcq D2 _), Option.bind_some, ki tR, Option.bind_some, kf D2, kf D2, e1]
    rw [← ho]
    congr 1
    rw [decide_eq_decide]
    exact cmp_le
   by_cases hle : num D ys * mid ≤ R
   ·have hq : mid ≤ R / num D ys := by rw [Nat.le_div_iff_mul_le hy, Nat.mul_comm]; exact hle
    refine .next (unf _ ?_) (ih (high - mid) (by omega) mid high rfl hq h2 h3)
    rw [condT (by rw [decide_eq_true_eq]; exact hle)]
   ·have hq : R / num D ys < mid := by rw [Nat.div_lt_iff_lt_mul hy, Nat.mul_comm]; omega
    refine .next (unf _ ?_) (ih (mid - 1 - low) (by omega) low (mid - 1) rfl h1 (by omega) (by omega))
    rw [condF (by rw [decide_eq_false_iff_not]; exact hle), show IntKind.wrap .u64 ((mid : Int) - 1) = ((mid - 1 : Nat) : Int) from by rw [wrapU]; omega]
  ·have hq : R / num D ys = low := by omega
   rw [hq] at K
   have e1 : num D [low] = low := by simp [num]
   have lm : ∀ x ∈ [low], x < D := by
    intro x hx
    rw [List.mem_singleton.1 hx]
    exact show low < 65536 by omega
   have hml : num D ys * low ≤ R := by rw [← hq]; exact Nat.mul_div_le R _
   have hmod : R - num D ys * low = R % num D ys := by
    have := Nat.div_add_mod R (num D ys)
    rw [hq] at this
    omega
   refine .next ?_ K
   show khv _ _ _ _ _ _ _ = _
   unfold khv
   rw [condF (by rw [decide_eq_false_iff_not]; omega), kbh hj, Option.bind_some, kbc (by omega), Option.bind_some, Option.bind_some, ki ly, Option.bind_some, ki lm, Option.bind_some, ki (by simp; omega), Option.bind_some, ki lR, Option.bind_some, ki (kz D2 _), Option.bind_some, ki hR, Option.bind_some, e1, kf D2, kf D2, ki (kqi hml), Option.bind_some, ki hml, Option.bind_some, hmod]
theorem ku6 {xs ys : List Nat} (lx : ∀ x ∈ xs, x < D) (ly : ∀ y ∈ ys, y < D) (hl : ys.length ≤ 536870912) (hxl : xs.length ≤ 536870912) (hy : 0 < num D ys) :
  ∀ (i : Nat) (q : List Nat) (r : Nat), i ≤ xs.length → q.length = xs.length → (∀ x ∈ q, x < D) → r < num D ys → num D (xs.drop i) = num D ys * num D (q.drop i) + r →
   Iter kic (.p4 xs ys q (digs D r) ((i : Int) - 1)) (digs D (num D xs / num D ys), digs D (num D xs % num D ys))
 | 0, q, r, hi, lq, tq, hr, e => by
  rw [List.drop_zero, List.drop_zero] at e
  refine .done ?_
  show kg1 _ _ _ _ _ = _
  unfold kg1
  rw [condF (by rw [decide_eq_false_iff_not]; omega), ki tq, Option.bind_some, e, Nat.mul_add_div hy, Nat.div_eq_of_lt hr, Nat.add_zero, Nat.mul_add_mod, Nat.mod_eq_of_lt hr]
 | j + 1, q, r, hi, lq, tq, hr, e => by
  have hj : j < xs.length := by omega
  have hjq : j < q.length := by omega
  have hx : xs[j] < 65536 := lx _ (List.getElem_mem _)
  have hR : (xs[j] + D * r) / num D ys < D := by
   rw [Nat.div_lt_iff_lt_mul hy]
   have : D * (r + 1) ≤ D * num D ys := Nat.mul_le_mul_left _ hr
   rw [Nat.mul_add, Nat.mul_one] at this
   have h2 : xs[j] < D := hx
   omega
  have lr : (digs D r).length ≤ ys.length := by
   rw [kx D2]
   exact Nat.lt_trans hr (num_lt (by decide) ly)
  have lR : (digs D (xs[j] + D * r)).length ≤ 1073741824 := by
   have : (digs D (xs[j] + D * r)).length ≤ ys.length + 1 := by
    rw [kx D2, Nat.pow_succ]
    have h1 : D * (r + 1) ≤ D * D ^ ys.length := Nat.mul_le_mul_left _ (Nat.lt_trans hr (num_lt (by decide) ly))
    rw [Nat.mul_add, Nat.mul_one, Nat.mul_comm D (D ^ ys.length)] at h1
    have h2 : xs[j] < D := hx
    omega
   omega
  have lcons : ∀ x ∈ xs[j] :: digs D r, x < D := by
   intro x hx'
   rcases List.mem_cons.1 hx' with rfl | h
   ·exact hx
   ·exact kz D2 r x h
  have hmod := Nat.mod_lt (xs[j] + D * r) hy
  have IH := ku6 lx ly hl hxl hy j (q.set j ((xs[j] + D * r) / num D ys)) ((xs[j] + D * r) % num D ys) (by omega) (by simpa using lq) (set_lt tq hR) hmod (by
   rw [kq0 hjq, List.drop_eq_getElem_cons hj]
   simp only [num]
   have dm := Nat.div_add_mod (xs[j] + D * r) (num D ys)
   rw [e, Nat.mul_add D, Nat.mul_add (num D ys), Nat.mul_left_comm D]
   omega)
  refine .next (s' := .p9 xs ys q (digs D (xs[j] + D * r)) (j : Int) ((0 : Nat) : Int) ((65535 : Nat) : Int)) ?_ (k9k ly hl hy lR hjq (by rw [wrap64 (by omega) (by omega)]; exact IH) _ 0 65535 rfl (Nat.zero_le _) (by have : (xs[j] + D * r) / num D ys < 65536 := hR; omega) (by omega))
  show kg1 _ _ _ _ _ = _
  unfold kg1
  rw [condT (by rw [decide_eq_true_eq]; omega), show ((j + 1 : Nat) : Int) - 1 = (j : Int) from by omega, kbm hj, Option.bind_some, kbc (by omega), Option.bind_some, ki (by omega), Option.bind_some, ki lcons, Option.bind_some]
  simp only [num, kf D2]
  rfl
theorem kbd6 {xs ys : List Nat} (lx : ∀ x ∈ xs, x < D) (ly : ∀ y ∈ ys, y < D) (hl : ys.length ≤ 536870912) (hxl : xs.length ≤ 536870912) (hy : 0 < num D ys) : Iter kic (.fn xs ys) (digs D (num D xs / num D ys), digs D (num D xs % num D ys)) := by
 have key := ku6 lx ly hl hxl hy xs.length (List.replicate xs.length 0) 0 (Nat.le_refl _) (by simp) (fun x hx => by rw [List.eq_of_mem_replicate hx]; decide) hy (by simp [num])
 rw [kbq] at key
 refine .next ?_ key
 show kl5 _ _ = _
 unfold kl5
 rw [kd2 (by omega), Option.bind_some, wrap64 (by omega) (by omega)]
theorem kbbz {h : AH} {s t : Sl} {xs ys : List Nat} (n : Nats h s xs) (m : Nats h t ys) (lx : ∀ x ∈ xs, x < D) (ly : ∀ y ∈ ys, y < D) (hxl : xs.length ≤ 536870912) (hl : ys.length ≤ 536870912) (hy : 0 < num D ys) :
  ∃ (a b : Sl) (h' : AH), go (.fn F.kcr [s.v, t.v]) h = some (.tup [a.v, b.v], h') ∧ Nats h' a (digs D (num D xs / num D ys)) ∧ Nats h' b (digs D (num D xs % num D ys)) ∧ Grow h h' ∧ Own h a ∧ Own h b := by
 obtain ⟨_, h', e, a, b, rfl, k⟩ := kbdt (kbd6 lx ly hl hxl hy) n m
 exact ⟨a, b, h', e, k⟩
end Go.Ab

/- squeezed -/
set_option linter.unusedVariables false
set_option linter.unusedSimpArgs false
set_option maxRecDepth 10000
namespace Go.Ab
open Go.Proofs Go.Num
inductive kib
 | fn (x1 : List Nat) (x2 : List Nat)
 | no
abbrev khe := List Nat × List Nat × Int
noncomputable def kj5 (x1 : List Nat) (x2 : List Nat) : Option (kib ⊕ khe) :=
 cond (!(rt x1)) (some (.inr ([], [], 1))) (cond (!(rt x2)) (some (.inr ([], [], 1))) (cond (decide ((List.length x2 : Int) = 0)) (some (.inr ([], [], 3))) ((need (List.length x1 ≤ 1073741824)).bind fun c8_0 => (need (List.length x2 ≤ 1073741824)).bind fun c9_0 => (need (∀ x ∈ (digs D (num B x1)), x < D)).bind fun c10_0 => (need (∀ x ∈ (digs D (num B x2)), x < D)).bind fun c10_1 => (need (List.length (digs D (num B x1)) ≤ 536870912)).bind fun c10_2 => (need (List.length (digs D (num B x2)) ≤ 536870912)).bind fun c10_3 => (need (0 < num D (digs D (num B x2)))).bind fun c10_4 => (need (∀ x ∈ (digs D (num D (digs D (num B x1)) / num D (digs D (num B x2)))), x < D)).bind fun c11_0 => (need (Trim (digs D (num D (digs D (num B x1)) / num D (digs D (num B x2)))))).bind fun c11_1 => (need (List.length (digs D (num D (digs D (num B x1)) / num D (digs D (num B x2)))) ≤ 536870912)).bind fun c11_2 => (need (∀ x ∈ (digs D (num D (digs D (num B x1)) % num D (digs D (num B x2)))), x < D)).bind fun c12_0 => (need (Trim (digs D (num D (digs D (num B x1)) % num D (digs D (num B x2)))))).bind fun c12_1 => (need (List.length (digs D (num D (digs D (num B x1)) % num D (digs D (num B x2)))) ≤ 536870912)).bind fun c12_2 => some (.inr (digs B (num D (digs D (num D (digs D (num B x1)) / num D (digs D (num B x2))))), digs B (num D (digs D (num D (digs D (num B x1)) % num D (digs D (num B x2))))), 0)))))
noncomputable def kzj : kib → Option (kib ⊕ khe)
 | .fn x1 x2 => kj5 x1 x2
 | .no => none
@[reducible] def kbcn (h0 : AH) (r : khe) (v : AV) (h' : AH) : Prop := ∃ s1 : Sl, ∃ s2 : Sl, v = .tup [s1.v, s2.v, .int .i64 r.2.2] ∧ Nats h' s1 r.1 ∧ Nats h' s2 r.2.1 ∧ Grow h0 h' ∧ Own h0 s1 ∧ Own h0 s2
def ksx (r : khe) : kib → Prop
 | .fn x1 x2 => ∀ {h : AH} {a1 : Sl} {a2 : Sl}, Nats h a1 x1 → Nats h a2 x2 → Runs (go (.fn F.kmq [a1.v, a2.v]) h) (kbcn h r)
 | .no => True
theorem k1k {r : khe} {o : kib ⊕ khe} {x1 : List Nat} {x2 : List Nat} (e : kj5 x1 x2 = some o) (good : GoodS (ksx r) r o) : ksx r (.fn x1 x2) := by
 intro h a1 a2 n1 n2
 rw [k09]
 unfold kj5 at e
 rw [n2.len]
 refine Runs.step (kjg n1) ?_
 refine Runs.step (seen rfl) ?_
 refine Runs.step (kjg n2) ?_
 refine Runs.step (seen rfl) ?_
 refine Runs.cond (fun k5 => ?_) (fun k5 => ?_)
 ·replace e := (condT k5).symm.trans e
  cases e
  cases good
  exact Runs.ret ⟨(⟨none, 0, .is 0⟩ : Sl), (⟨none, 0, .is 0⟩ : Sl), rfl, (Nats.nil _), (Nats.nil _), (Grow.refl _), (Own.nil _), (Own.nil _)⟩
 ·replace e := (condF k5).symm.trans e
  refine Runs.cond (fun k6 => ?_) (fun k6 => ?_)
  ·replace e := (condT k6).symm.trans e
   cases e
   cases good
   exact Runs.ret ⟨(⟨none, 0, .is 0⟩ : Sl), (⟨none, 0, .is 0⟩ : Sl), rfl, (Nats.nil _), (Nats.nil _), (Grow.refl _), (Own.nil _), (Own.nil _)⟩
  ·replace e := (condF k6).symm.trans e
   refine Runs.cond (fun k7 => ?_) (fun k7 => ?_)
   ·replace e := (condT k7).symm.trans e
    cases e
    cases good
    exact Runs.ret ⟨(⟨none, 0, .is 0⟩ : Sl), (⟨none, 0, .is 0⟩ : Sl), rfl, (Nats.nil _), (Nats.nil _), (Grow.refl _), (Own.nil _), (Own.nil _)⟩
   ·replace e := (condF k7).symm.trans e
    obtain ⟨c8_0, q8_0, e⟩ := Option.bind_eq_some_iff.1 e
    obtain ⟨s8, H8, e8, n8, g8, o8⟩ := kjl n1  c8_0.down
    refine Runs.step e8 ?_
    refine Runs.step (seen (asSl_v _)) ?_
    obtain ⟨c9_0, q9_0, e⟩ := Option.bind_eq_some_iff.1 e
    obtain ⟨s9, H9, e9, n9, g9, o9⟩ := kjl (n2.grow g8)  c9_0.down
    refine Runs.step e9 ?_
    refine Runs.step (seen (asSl_v _)) ?_
    obtain ⟨c10_0, q10_0, e⟩ := Option.bind_eq_some_iff.1 e
    obtain ⟨c10_1, q10_1, e⟩ := Option.bind_eq_some_iff.1 e
    obtain ⟨c10_2, q10_2, e⟩ := Option.bind_eq_some_iff.1 e
    obtain ⟨c10_3, q10_3, e⟩ := Option.bind_eq_some_iff.1 e
    obtain ⟨c10_4, q10_4, e⟩ := Option.bind_eq_some_iff.1 e
    obtain ⟨s10, s10b, H10, e10, n10, n10b, g10, o10, o10b⟩ := kbbz (n8.grow g9) n9  c10_0.down c10_1.down c10_2.down c10_3.down c10_4.down
    refine Runs.step e10 ?_
    refine Runs.step rfl ?_
    refine Runs.step (seen (asSl_v _)) ?_
    refine Runs.step (seen (asSl_v _)) ?_
    obtain ⟨c11_0, q11_0, e⟩ := Option.bind_eq_some_iff.1 e
    obtain ⟨c11_1, q11_1, e⟩ := Option.bind_eq_some_iff.1 e
    obtain ⟨c11_2, q11_2, e⟩ := Option.bind_eq_some_iff.1 e
    obtain ⟨s11, H11, e11, n11, g11, o11⟩ := kq6 n10  c11_0.down c11_1.down c11_2.down
    refine Runs.step e11 ?_
    refine Runs.step rfl ?_
    refine Runs.step (seen (asSl_v _)) ?_
    refine Runs.step (seen rfl) ?_
    obtain ⟨c12_0, q12_0, e⟩ := Option.bind_eq_some_iff.1 e
    obtain ⟨c12_1, q12_1, e⟩ := Option.bind_eq_some_iff.1 e
    obtain ⟨c12_2, q12_2, e⟩ := Option.bind_eq_some_iff.1 e
    obtain ⟨s12, H12, e12, n12, g12, o12⟩ := kq6 (n10b.grow g11)  c12_0.down c12_1.down c12_2.down
    refine Runs.step e12 ?_
    refine Runs.step rfl ?_
    refine Runs.step (seen (asSl_v _)) ?_
    refine Runs.step (seen rfl) ?_
    cases e
    cases good
    exact Runs.ret ⟨s11, s12, rfl, (n11.grow g12), n12, ((((g8.trans g9).trans g10).trans g11).trans g12), (o11.of_le ((g8.trans g9).trans g10)), (o12.of_le (((g8.trans g9).trans g10).trans g11))⟩
theorem k4i {s : kib} {r : khe} (it : Iter kzj s r) : ksx r s := Iter.ind (fun s o e good => by
 cases s with
 | fn x1 x2 => exact @k1k _ _ x1 x2 e good
 | no => exact True.intro
 ) it
end Go.Ab

/- squeezed -/
set_option linter.unusedVariables false
set_option linter.unusedSimpArgs false
set_option maxRecDepth 10000
namespace Go.Ab
open Go.Proofs Go.Num
theorem k1r {xs ys : List Nat} (lx : ∀ x ∈ xs, x < B) (ly : ∀ x ∈ ys, x < B) : Iter kzj (.fn xs ys) (divN xs ys) := by
 refine .done ?_
 show kj5 _ _ = _
 unfold kj5 divN
 cases hx : rt xs with
 | false => simp
 | true =>
  cases hy : rt ys with
  | false => simp
  | true =>
   obtain ⟨lx64, tx⟩ := rt_iff.1 hx
   obtain ⟨ly64, ty⟩ := rt_iff.1 hy
   simp only [Bool.not_true, cond_false, and_self, if_true]
   by_cases h0 : ys = []
   ·subst h0
    rfl
   ·have hl : ys.length ≠ 0 := by simpa using h0
    have hp := kts B1 ty h0
    have k1 := kix lx lx64
    have k2 := kix ly ly64
    have k3 := kqi (Nat.div_le_self (num B xs) (num B ys))
    have k4 := kqi (Nat.mod_le (num B xs) (num B ys))
    rw [if_neg h0, condF (by rw [decide_eq_false_iff_not]; omega), ki (by omega), Option.bind_some, ki (by omega), Option.bind_some, ki (kz D2 _), Option.bind_some, ki (kz D2 _), Option.bind_some, ki (by omega), Option.bind_some, ki (by omega), Option.bind_some]
    rw [ki (by rw [kf D2]; exact hp), Option.bind_some, ki (kz D2 _), Option.bind_some, ki (kcq D2 _), Option.bind_some, ki (by simp only [kf D2]; omega), Option.bind_some, ki (kz D2 _), Option.bind_some, ki (kcq D2 _), Option.bind_some, ki (by simp only [kf D2]; omega), Option.bind_some]
    simp only [kf D2]
theorem k04 {h : AH} {s t : Sl} {xs ys : List Nat} (n : Nats h s xs) (m : Nats h t ys) : ∃ (a b : Sl) (h' : AH), go (.fn F.kmq [s.v, t.v]) h = some (.tup [a.v, b.v, .int .i64 (divN xs ys).2.2], h') ∧ Nats h' a (divN xs ys).1 ∧ Nats h' b (divN xs ys).2.1 ∧ Grow h h' ∧ Own h a ∧ Own h b := by
 obtain ⟨_, h', e, a, b, rfl, k⟩ := k4i (k1r n.lt m.lt) n m
 exact ⟨a, b, h', e, k⟩
theorem kj0 {h : AH} {s t : Sl} {xs ys : List Nat} (n : Nats h s xs) (m : Nats h t ys) : ∃ (b : Sl) (h' : AH), go (.fn F.kht [s.v, t.v]) h = some (b.v, h') ∧ Nats h' b (divN xs ys).2.1 ∧ Grow h h' ∧ Own h b := by
 obtain ⟨a, b, h', e, na, nb, g, oa, ob⟩ := k04 n m
 refine ⟨b, h', ?_, nb, g, ob⟩
 rw [k6y, e]
 simp only [Option.bind_some, k0n, asSl_v, kb]
end Go.Ab

/- squeezed -/
set_option linter.unusedVariables false
set_option linter.unusedSimpArgs false
set_option maxRecDepth 10000
namespace Go.Ab
open Go.Proofs Go.Num
inductive kft
 | fn (x1 : List Nat) (x2 : List Nat)
 | p4 (x1 : List Nat) (x2 : List Nat)
abbrev kd4 := List Nat × Int
noncomputable def keq (x1 : List Nat) (x2 : List Nat) : Option (kft ⊕ kd4) :=
 cond (!(rt x1)) (some (.inr ([], 1))) (cond (!(rt x2)) (some (.inr ([], 1))) ((need (List.length x1 ≤ 8796093022208)).bind fun c7_0 => (need (List.length x2 ≤ 8796093022208)).bind fun c8_0 => some (.inl (.p4 x1 x2))))
noncomputable def khd (x1 : List Nat) (x2 : List Nat) : Option (kft ⊕ kd4) :=
 cond (decide ((List.length x2 : Int) > 0)) (some (.inl (.p4 x2 ((divN x1 x2).2.1)))) (some (.inr (x1, 0)))
noncomputable def kry : kft → Option (kft ⊕ kd4)
 | .fn x1 x2 => keq x1 x2
 | .p4 x1 x2 => khd x1 x2
@[reducible] def kpm (h0 : AH) (r : kd4) (v : AV) (h' : AH) : Prop := ∃ s1 : Sl, v = .tup [s1.v, .int .i64 r.2] ∧ Nats h' s1 r.1 ∧ Grow h0 h' ∧ Own h0 s1
def klx (r : kd4) : kft → Prop
 | .fn x1 x2 => ∀ {h : AH} {a1 : Sl} {a2 : Sl}, Nats h a1 x1 → Nats h a2 x2 → Runs (go (.fn F.kfb [a1.v, a2.v]) h) (kpm h r)
 | .p4 x1 x2 => ∀ {h0 h : AH} {a1 : Sl} {a2 : Sl}, Grow h0 h → Nats h a1 x1 → Nats h a2 x2 → Own h0 a1 → Own h0 a2 → Runs (go (.pt F.kfb Td.kma [(0, a1.v), (1, a2.v)]) h) (kpm h0 r)
theorem kbd7 {r : kd4} {o : kft ⊕ kd4} {x1 : List Nat} {x2 : List Nat} (e : keq x1 x2 = some o) (good : GoodS (klx r) r o) : klx r (.fn x1 x2) := by
 intro h a1 a2 n1 n2
 rw [k2l]
 unfold keq at e
 refine Runs.step (kb9 n1) ?_
 refine Runs.step (seen rfl) ?_
 refine Runs.cond (fun k4 => ?_) (fun k4 => ?_)
 ·replace e := (condT k4).symm.trans e
  cases e
  cases good
  exact Runs.ret ⟨(⟨none, 0, .is 0⟩ : Sl), rfl, (Nats.nil _), (Grow.refl _), (Own.nil _)⟩
 ·replace e := (condF k4).symm.trans e
  refine Runs.step (kb9 n2) ?_
  refine Runs.step (seen rfl) ?_
  refine Runs.cond (fun k6 => ?_) (fun k6 => ?_)
  ·replace e := (condT k6).symm.trans e
   cases e
   cases good
   exact Runs.ret ⟨(⟨none, 0, .is 0⟩ : Sl), rfl, (Nats.nil _), (Grow.refl _), (Own.nil _)⟩
  ·replace e := (condF k6).symm.trans e
   obtain ⟨c7_0, q7_0, e⟩ := Option.bind_eq_some_iff.1 e
   obtain ⟨s7, H7, e7, n7, g7, o7⟩ := khz n1  c7_0.down
   refine Runs.step e7 ?_
   refine Runs.step (seen (asSl_v _)) ?_
   obtain ⟨c8_0, q8_0, e⟩ := Option.bind_eq_some_iff.1 e
   obtain ⟨s8, H8, e8, n8, g8, o8⟩ := khz (n2.grow g7)  c8_0.down
   refine Runs.step e8 ?_
   refine Runs.step (seen (asSl_v _)) ?_
   cases e
   exact good (g7.trans g8) (n7.grow g8) n8 (o7.of_le (Grow.refl _)) (o8.of_le g7)
theorem k5i {r : kd4} {o : kft ⊕ kd4} {x1 : List Nat} {x2 : List Nat} (e : khd x1 x2 = some o) (good : GoodS (klx r) r o) : klx r (.p4 x1 x2) := by
 intro h0 h a1 a2 g0 n1 n2 ow1 ow2
 rw [kbcu]
 unfold khd at e
 rw [n2.len]
 refine Runs.cond (fun k3 => ?_) (fun k3 => ?_)
 ·replace e := (condT k3).symm.trans e
  obtain ⟨s4, s4b, H4, e4, n4, n4b, g4, o4, o4b⟩ := ke7 n1 n2
  refine Runs.step e4 ?_
  refine Runs.step rfl ?_
  refine Runs.step (seen (asSl_v _)) ?_
  refine Runs.step (seen (asSl_v _)) ?_
  refine Runs.step (seen (kb _ _)) ?_
  cases e
  exact good (g0.trans g4) (n2.grow g4) n4b (ow2.of_le (Grow.refl _)) (o4b.of_le g0)
 ·replace e := (condF k3).symm.trans e
  cases e
  cases good
  exact Runs.ret ⟨a1, rfl, n1, g0, (ow1.of_le (Grow.refl _))⟩
theorem kzz {s : kft} {r : kd4} (it : Iter kry s r) : klx r s := Iter.ind (fun s o e good => by
 cases s with
 | fn x1 x2 => exact @kbd7 _ _ x1 x2 e good
 | p4 x1 x2 => exact @k5i _ _ x1 x2 e good
 ) it
inductive kie
 | fn (a1 : Bool) (x2 : List Nat) (a3 : Bool) (x4 : List Nat)
 | no
abbrev khk := Bool × List Nat × Bool × List Nat × Int
noncomputable def kjy (a1 : Bool) (x2 : List Nat) (a3 : Bool) (x4 : List Nat) : Option (kie ⊕ khk) :=
 cond (!((rtI a1 x2 && rtI a3 x4))) (some (.inr (false, [], false, [], 1))) (cond (decide ((List.length x4 : Int) = 0)) (some (.inr (false, [], false, [], 3))) (cond (a3) (some (.inr (false, [], false, [], 1))) (cond (a1) (cond (decide ((List.length ((divN x2 x4).2.1) : Int) > 0)) ((u64P 1).bind fun p17 => cond (!decide (((addN ((divN x2 x4).1) (digs B p17)).2) = 0)) (some (.inr (false, [], false, [], ((addN ((divN x2 x4).1) (digs B p17)).2)))) (some (.inr ((((fromI a1 ((addN ((divN x2 x4).1) (digs B p17)).1)).1)), (fromI a1 ((addN ((divN x2 x4).1) (digs B p17)).1)).2, (((fromI false ((subN x4 ((divN x2 x4).2.1)).1)).1)), (fromI false ((subN x4 ((divN x2 x4).2.1)).1)).2, 0)))) (some (.inr ((((fromI a1 ((divN x2 x4).1)).1)), (fromI a1 ((divN x2 x4).1)).2, (((fromI false ((divN x2 x4).2.1)).1)), (fromI false ((divN x2 x4).2.1)).2, 0)))) (some (.inr ((((fromI a1 ((divN x2 x4).1)).1)), (fromI a1 ((divN x2 x4).1)).2, (((fromI false ((divN x2 x4).2.1)).1)), (fromI false ((divN x2 x4).2.1)).2, 0))))))
noncomputable def kum : kie → Option (kie ⊕ khk)
 | .fn a1 x2 a3 x4 => kjy a1 x2 a3 x4
 | .no => none
@[reducible] def kud (h0 : AH) (r : khk) (v : AV) (h' : AH) : Prop := ∃ s1 : Sl, ∃ s2 : Sl, v = .tup [.agg [.bool r.1, s1.v], .agg [.bool r.2.2.1, s2.v], .int .i64 r.2.2.2.2] ∧ Nats h' s1 r.2.1 ∧ Nats h' s2 r.2.2.2.1 ∧ Grow h0 h' ∧ Own h0 s1 ∧ Own h0 s2
def kqe (r : khk) : kie → Prop
 | .fn a1 x2 a3 x4 => ∀ {h : AH} {a2 : Sl} {a4 : Sl}, Nats h a2 x2 → Nats h a4 x4 → Runs (go (.fn F.klg [.agg [.bool a1, a2.v], .agg [.bool a3, a4.v]]) h) (kud h r)
 | .no => True
theorem kbey {r : khk} {o : kie ⊕ khk} {a1 : Bool} {x2 : List Nat} {a3 : Bool} {x4 : List Nat} (e : kjy a1 x2 a3 x4 = some o) (good : GoodS (kqe r) r o) : kqe r (.fn a1 x2 a3 x4) := by
 intro h a2 a4 n2 n4
 rw [kbca]
 unfold kjy at e
 refine Runs.new fun H5 b5 g5 => ?_
 refine Runs.new fun H6 b6 g6 => ?_
 refine Runs.new fun H7 b7 g7 => ?_
 refine Runs.new fun H8 b8 g8 => ?_
 refine Runs.step (AH.has.rd (((g6.trans g7).trans g8).has b5) 0 rfl rfl) ?_
 refine Runs.step (AH.has.rd (((g6.trans g7).trans g8).has b5) 1 rfl (asSl_v _)) ?_
 refine Runs.step (AH.has.rd ((g7.trans g8).has b6) 0 rfl rfl) ?_
 refine Runs.step (AH.has.rd ((g7.trans g8).has b6) 1 rfl (asSl_v _)) ?_
 refine Runs.new fun H9 b9 g9 => ?_
 obtain ⟨H10, e10, g10⟩ := km2 b9 (n2.grow ((((g5.trans g6).trans g7).trans g8).trans g9)) (n4.grow ((((g5.trans g6).trans g7).trans g8).trans g9))
 refine Runs.step e10 ?_
 refine Runs.step (seen rfl) ?_
 refine Runs.cond (fun k11 => ?_) (fun k11 => ?_)
 ·replace e := (condT k11).symm.trans e
  refine Runs.puts (((g8.trans g9).trans g10).has b7) rfl fun H12 b12 u12 => ?_
  have b8_12 := AH.has.updr ((g9.trans g10).has b8) (Nat.ne_of_gt (Nat.lt_of_lt_of_le (b7).lt (Nat.le_refl _))) u12
  have b9_12 := AH.has.updr (g10.has b9) (Nat.ne_of_gt (Nat.lt_of_lt_of_le (g8.has b7).lt (Nat.le_refl _))) u12
  refine Runs.puts b8_12 rfl fun H13 b13 u13 => ?_
  have b12_13 := AH.has.updr b12 (Nat.ne_of_lt (Nat.lt_of_lt_of_le (b7).lt (Nat.le_refl _))) u13
  have b9_13 := AH.has.updr b9_12 (Nat.ne_of_gt (Nat.lt_of_lt_of_le (b8).lt (Nat.le_refl _))) u13
  refine Runs.step (AH.has.rd b12_13 0 rfl rfl) ?_
  refine Runs.step (AH.has.rd b12_13 1 rfl (asSl_v _)) ?_
  refine Runs.step (AH.has.rd b13 0 rfl rfl) ?_
  refine Runs.step (AH.has.rd b13 1 rfl (asSl_v _)) ?_
  cases e
  cases good
  exact Runs.ret ⟨(⟨none, 0, .is 0⟩ : Sl), (⟨none, 0, .is 0⟩ : Sl), rfl, (Nats.nil _), (Nats.nil _), (((((((g5.trans g6).trans g7).trans g8).trans g9).trans g10).updr (Nat.le_trans ((g5.trans g6)).size (Nat.le_refl _)) u12).updr (Nat.le_trans (((g5.trans g6).trans g7)).size (Nat.le_refl _)) u13), (Own.nil _), (Own.nil _)⟩
 ·replace e := (condF k11).symm.trans e
  refine Runs.step (AH.has.rd ((((g7.trans g8).trans g9).trans g10).has b6) 1 rfl (asSl_v _)) ?_
  rw [(n4.grow (((((g5.trans g6).trans g7).trans g8).trans g9).trans g10)).len]
  refine Runs.cond (fun k12 => ?_) (fun k12 => ?_)
  ·replace e := (condT k12).symm.trans e
   refine Runs.puts (((g8.trans g9).trans g10).has b7) rfl fun H13 b13 u13 => ?_
   have b8_13 := AH.has.updr ((g9.trans g10).has b8) (Nat.ne_of_gt (Nat.lt_of_lt_of_le (b7).lt (Nat.le_refl _))) u13
   have b9_13 := AH.has.updr (g10.has b9) (Nat.ne_of_gt (Nat.lt_of_lt_of_le (g8.has b7).lt (Nat.le_refl _))) u13
   refine Runs.puts b8_13 rfl fun H14 b14 u14 => ?_
   have b13_14 := AH.has.updr b13 (Nat.ne_of_lt (Nat.lt_of_lt_of_le (b7).lt (Nat.le_refl _))) u14
   have b9_14 := AH.has.updr b9_13 (Nat.ne_of_gt (Nat.lt_of_lt_of_le (b8).lt (Nat.le_refl _))) u14
   refine Runs.step (AH.has.rd b13_14 0 rfl rfl) ?_
   refine Runs.step (AH.has.rd b13_14 1 rfl (asSl_v _)) ?_
   refine Runs.step (AH.has.rd b14 0 rfl rfl) ?_
   refine Runs.step (AH.has.rd b14 1 rfl (asSl_v _)) ?_
   cases e
   cases good
   exact Runs.ret ⟨(⟨none, 0, .is 0⟩ : Sl), (⟨none, 0, .is 0⟩ : Sl), rfl, (Nats.nil _), (Nats.nil _), (((((((g5.trans g6).trans g7).trans g8).trans g9).trans g10).updr (Nat.le_trans ((g5.trans g6)).size (Nat.le_refl _)) u13).updr (Nat.le_trans (((g5.trans g6).trans g7)).size (Nat.le_refl _)) u14), (Own.nil _), (Own.nil _)⟩
  ·replace e := (condF k12).symm.trans e
   refine Runs.step (AH.has.rd ((((g7.trans g8).trans g9).trans g10).has b6) 0 rfl rfl) ?_
   refine Runs.cond (fun k13 => ?_) (fun k13 => ?_)
   ·replace e := (condT k13).symm.trans e
    refine Runs.puts (((g8.trans g9).trans g10).has b7) rfl fun H14 b14 u14 => ?_
    have b8_14 := AH.has.updr ((g9.trans g10).has b8) (Nat.ne_of_gt (Nat.lt_of_lt_of_le (b7).lt (Nat.le_refl _))) u14
    have b9_14 := AH.has.updr (g10.has b9) (Nat.ne_of_gt (Nat.lt_of_lt_of_le (g8.has b7).lt (Nat.le_refl _))) u14
    refine Runs.puts b8_14 rfl fun H15 b15 u15 => ?_
    have b14_15 := AH.has.updr b14 (Nat.ne_of_lt (Nat.lt_of_lt_of_le (b7).lt (Nat.le_refl _))) u15
    have b9_15 := AH.has.updr b9_14 (Nat.ne_of_gt (Nat.lt_of_lt_of_le (b8).lt (Nat.le_refl _))) u15
    refine Runs.step (AH.has.rd b14_15 0 rfl rfl) ?_
    refine Runs.step (AH.has.rd b14_15 1 rfl (asSl_v _)) ?_
    refine Runs.step (AH.has.rd b15 0 rfl rfl) ?_
    refine Runs.step (AH.has.rd b15 1 rfl (asSl_v _)) ?_
    cases e
    cases good
    exact Runs.ret ⟨(⟨none, 0, .is 0⟩ : Sl), (⟨none, 0, .is 0⟩ : Sl), rfl, (Nats.nil _), (Nats.nil _), (((((((g5.trans g6).trans g7).trans g8).trans g9).trans g10).updr (Nat.le_trans ((g5.trans g6)).size (Nat.le_refl _)) u14).updr (Nat.le_trans (((g5.trans g6).trans g7)).size (Nat.le_refl _)) u15), (Own.nil _), (Own.nil _)⟩
   ·replace e := (condF k13).symm.trans e
    refine Runs.step (AH.has.rd (((((g6.trans g7).trans g8).trans g9).trans g10).has b5) 1 rfl (asSl_v _)) ?_
    refine Runs.step (AH.has.rd ((((g7.trans g8).trans g9).trans g10).has b6) 1 rfl (asSl_v _)) ?_
    obtain ⟨s14, s14b, H14, e14, n14, n14b, g14, o14, o14b⟩ := ke7 (n2.grow (((((g5.trans g6).trans g7).trans g8).trans g9).trans g10)) (n4.grow (((((g5.trans g6).trans g7).trans g8).trans g9).trans g10))
    refine Runs.step e14 ?_
    refine Runs.step rfl ?_
    refine Runs.step (seen (asSl_v _)) ?_
    refine Runs.step (seen (asSl_v _)) ?_
    rw [n14b.len]
    refine Runs.step (seen (kb _ _)) ?_
    refine Runs.step (AH.has.rd ((((((g6.trans g7).trans g8).trans g9).trans g10).trans g14).has b5) 0 rfl rfl) ?_
    refine Runs.cond (fun k15 => ?_) (fun k15 => ?_)
    ·replace e := (condT k15).symm.trans e
     refine Runs.cond (fun k16 => ?_) (fun k16 => ?_)
     ·replace e := (condT k16).symm.trans e
      obtain ⟨p17, q17, e⟩ := Option.bind_eq_some_iff.1 e
      obtain ⟨s17, H17, e17, n17, g17, o17⟩ := kqh q17
      refine Runs.step e17 ?_
      refine Runs.step (seen (asSl_v _)) ?_
      obtain ⟨s18, H18, e18, n18, g18, o18⟩ := kmd (n14.grow g17) n17
      refine Runs.step e18 ?_
      refine Runs.step rfl ?_
      refine Runs.step (seen (asSl_v _)) ?_
      refine Runs.step (seen (kb _ _)) ?_
      refine Runs.cond (fun k19 => ?_) (fun k19 => ?_)
      ·replace e := (condT k19).symm.trans e
       refine Runs.puts ((((((g8.trans g9).trans g10).trans g14).trans g17).trans g18).has b7) rfl fun H20 b20 u20 => ?_
       have n14_20 := (n14.grow (g17.trans g18)).upda (Av.of_own o14 (((g8.trans g9).trans g10).has b7).lt) u20
       have n14b_20 := (n14b.grow (g17.trans g18)).upda (Av.of_own o14b (((g8.trans g9).trans g10).has b7).lt) u20
       have n17_20 := (n17.grow g18).upda (Av.of_own o17 ((((g8.trans g9).trans g10).trans g14).has b7).lt) u20
       have n18_20 := n18.upda (Av.of_own o18 (((((g8.trans g9).trans g10).trans g14).trans g17).has b7).lt) u20
       have b8_20 := AH.has.updr (((((g9.trans g10).trans g14).trans g17).trans g18).has b8) (Nat.ne_of_gt (Nat.lt_of_lt_of_le (b7).lt (Nat.le_refl _))) u20
       have b9_20 := AH.has.updr ((((g10.trans g14).trans g17).trans g18).has b9) (Nat.ne_of_gt (Nat.lt_of_lt_of_le (g8.has b7).lt (Nat.le_refl _))) u20
       refine Runs.puts b8_20 rfl fun H21 b21 u21 => ?_
       have n14_21 := n14_20.upda (Av.of_own o14 ((g9.trans g10).has b8).lt) u21
       have n14b_21 := n14b_20.upda (Av.of_own o14b ((g9.trans g10).has b8).lt) u21
       have n17_21 := n17_20.upda (Av.of_own o17 (((g9.trans g10).trans g14).has b8).lt) u21
       have n18_21 := n18_20.upda (Av.of_own o18 ((((g9.trans g10).trans g14).trans g17).has b8).lt) u21
       have b20_21 := AH.has.updr b20 (Nat.ne_of_lt (Nat.lt_of_lt_of_le (b7).lt (Nat.le_refl _))) u21
       have b9_21 := AH.has.updr b9_20 (Nat.ne_of_gt (Nat.lt_of_lt_of_le (b8).lt (Nat.le_refl _))) u21
       refine Runs.step (AH.has.rd b20_21 0 rfl rfl) ?_
       refine Runs.step (AH.has.rd b20_21 1 rfl (asSl_v _)) ?_
       refine Runs.step (AH.has.rd b21 0 rfl rfl) ?_
       refine Runs.step (AH.has.rd b21 1 rfl (asSl_v _)) ?_
       cases e
       cases good
       exact Runs.ret ⟨(⟨none, 0, .is 0⟩ : Sl), (⟨none, 0, .is 0⟩ : Sl), rfl, (Nats.nil _), (Nats.nil _), ((((((((((g5.trans g6).trans g7).trans g8).trans g9).trans g10).trans g14).trans g17).trans g18).updr (Nat.le_trans ((g5.trans g6)).size (Nat.le_refl _)) u20).updr (Nat.le_trans (((g5.trans g6).trans g7)).size (Nat.le_refl _)) u21), (Own.nil _), (Own.nil _)⟩
      ·replace e := (condF k19).symm.trans e
       refine Runs.step (AH.has.rd (((((((g7.trans g8).trans g9).trans g10).trans g14).trans g17).trans g18).has b6) 1 rfl (asSl_v _)) ?_
       obtain ⟨s20, H20, e20, n20, g20, o20⟩ := klz (n4.grow ((((((((g5.trans g6).trans g7).trans g8).trans g9).trans g10).trans g14).trans g17).trans g18)) (n14b.grow (g17.trans g18))
       refine Runs.step e20 ?_
       refine Runs.step rfl ?_
       refine Runs.step (seen (asSl_v _)) ?_
       refine Runs.step (seen (kb _ _)) ?_
       refine Runs.step (AH.has.rd (((((((((g6.trans g7).trans g8).trans g9).trans g10).trans g14).trans g17).trans g18).trans g20).has b5) 0 rfl rfl) ?_
       obtain ⟨s21, H21, e21, n21, g21, o21⟩ := kb0 (n18.grow g20) a1
       refine Runs.step e21 ?_
       refine Runs.step rfl ?_
       refine Runs.ifT rfl ?_
       refine Runs.step (seenAt rfl rfl) ?_
       refine Runs.step (seenAt rfl (asSl_v _)) ?_
       obtain ⟨s22, H22, e22, n22, g22, o22⟩ := kb0 (n20.grow g21) false
       refine Runs.step e22 ?_
       refine Runs.step rfl ?_
       refine Runs.ifT rfl ?_
       refine Runs.step (seenAt rfl rfl) ?_
       refine Runs.step (seenAt rfl (asSl_v _)) ?_
       refine Runs.puts (((((((((g8.trans g9).trans g10).trans g14).trans g17).trans g18).trans g20).trans g21).trans g22).has b7) rfl fun H23 b23 u23 => ?_
       have n14_23 := (n14.grow ((((g17.trans g18).trans g20).trans g21).trans g22)).upda (Av.of_own o14 (((g8.trans g9).trans g10).has b7).lt) u23
       have n14b_23 := (n14b.grow ((((g17.trans g18).trans g20).trans g21).trans g22)).upda (Av.of_own o14b (((g8.trans g9).trans g10).has b7).lt) u23
       have n17_23 := (n17.grow (((g18.trans g20).trans g21).trans g22)).upda (Av.of_own o17 ((((g8.trans g9).trans g10).trans g14).has b7).lt) u23
       have n18_23 := (n18.grow ((g20.trans g21).trans g22)).upda (Av.of_own o18 (((((g8.trans g9).trans g10).trans g14).trans g17).has b7).lt) u23
       have n20_23 := (n20.grow (g21.trans g22)).upda (Av.of_own o20 ((((((g8.trans g9).trans g10).trans g14).trans g17).trans g18).has b7).lt) u23
       have n21_23 := (n21.grow g22).upda (Av.of_own o21 (((((((g8.trans g9).trans g10).trans g14).trans g17).trans g18).trans g20).has b7).lt) u23
       have n22_23 := n22.upda (Av.of_own o22 ((((((((g8.trans g9).trans g10).trans g14).trans g17).trans g18).trans g20).trans g21).has b7).lt) u23
       have b8_23 := AH.has.updr ((((((((g9.trans g10).trans g14).trans g17).trans g18).trans g20).trans g21).trans g22).has b8) (Nat.ne_of_gt (Nat.lt_of_lt_of_le (b7).lt (Nat.le_refl _))) u23
       have b9_23 := AH.has.updr (((((((g10.trans g14).trans g17).trans g18).trans g20).trans g21).trans g22).has b9) (Nat.ne_of_gt (Nat.lt_of_lt_of_le (g8.has b7).lt (Nat.le_refl _))) u23
       refine Runs.puts b8_23 rfl fun H24 b24 u24 => ?_
       have n14_24 := n14_23.upda (Av.of_own o14 ((g9.trans g10).has b8).lt) u24
       have n14b_24 := n14b_23.upda (Av.of_own o14b ((g9.trans g10).has b8).lt) u24
       have n17_24 := n17_23.upda (Av.of_own o17 (((g9.trans g10).trans g14).has b8).lt) u24
       have n18_24 := n18_23.upda (Av.of_own o18 ((((g9.trans g10).trans g14).trans g17).has b8).lt) u24
       have n20_24 := n20_23.upda (Av.of_own o20 (((((g9.trans g10).trans g14).trans g17).trans g18).has b8).lt) u24
       have n21_24 := n21_23.upda (Av.of_own o21 ((((((g9.trans g10).trans g14).trans g17).trans g18).trans g20).has b8).lt) u24
       have n22_24 := n22_23.upda (Av.of_own o22 (((((((g9.trans g10).trans g14).trans g17).trans g18).trans g20).trans g21).has b8).lt) u24
       have b23_24 := AH.has.updr b23 (Nat.ne_of_lt (Nat.lt_of_lt_of_le (b7).lt (Nat.le_refl _))) u24
       have b9_24 := AH.has.updr b9_23 (Nat.ne_of_gt (Nat.lt_of_lt_of_le (b8).lt (Nat.le_refl _))) u24
       refine Runs.step (AH.has.rd b23_24 0 rfl rfl) ?_
       refine Runs.step (AH.has.rd b23_24 1 rfl (asSl_v _)) ?_
       refine Runs.step (AH.has.rd b24 0 rfl rfl) ?_
       refine Runs.step (AH.has.rd b24 1 rfl (asSl_v _)) ?_
       cases e
       cases good
       exact Runs.ret ⟨s21, s22, rfl, n21_24, n22_24, (((((((((((((g5.trans g6).trans g7).trans g8).trans g9).trans g10).trans g14).trans g17).trans g18).trans g20).trans g21).trans g22).updr (Nat.le_trans ((g5.trans g6)).size (Nat.le_refl _)) u23).updr (Nat.le_trans (((g5.trans g6).trans g7)).size (Nat.le_refl _)) u24), (o21.of_le (((((((((g5.trans g6).trans g7).trans g8).trans g9).trans g10).trans g14).trans g17).trans g18).trans g20)), (o22.of_le ((((((((((g5.trans g6).trans g7).trans g8).trans g9).trans g10).trans g14).trans g17).trans g18).trans g20).trans g21))⟩
     ·replace e := (condF k16).symm.trans e
      refine Runs.step (AH.has.rd ((((((g6.trans g7).trans g8).trans g9).trans g10).trans g14).has b5) 0 rfl rfl) ?_
      obtain ⟨s17, H17, e17, n17, g17, o17⟩ := kb0 n14 a1
      refine Runs.step e17 ?_
      refine Runs.step rfl ?_
      refine Runs.ifT rfl ?_
      refine Runs.step (seenAt rfl rfl) ?_
      refine Runs.step (seenAt rfl (asSl_v _)) ?_
      obtain ⟨s18, H18, e18, n18, g18, o18⟩ := kb0 (n14b.grow g17) false
      refine Runs.step e18 ?_
      refine Runs.step rfl ?_
      refine Runs.ifT rfl ?_
      refine Runs.step (seenAt rfl rfl) ?_
      refine Runs.step (seenAt rfl (asSl_v _)) ?_
      refine Runs.puts ((((((g8.trans g9).trans g10).trans g14).trans g17).trans g18).has b7) rfl fun H19 b19 u19 => ?_
      have n14_19 := (n14.grow (g17.trans g18)).upda (Av.of_own o14 (((g8.trans g9).trans g10).has b7).lt) u19
      have n14b_19 := (n14b.grow (g17.trans g18)).upda (Av.of_own o14b (((g8.trans g9).trans g10).has b7).lt) u19
      have n17_19 := (n17.grow g18).upda (Av.of_own o17 ((((g8.trans g9).trans g10).trans g14).has b7).lt) u19
      have n18_19 := n18.upda (Av.of_own o18 (((((g8.trans g9).trans g10).trans g14).trans g17).has b7).lt) u19
      have b8_19 := AH.has.updr (((((g9.trans g10).trans g14).trans g17).trans g18).has b8) (Nat.ne_of_gt (Nat.lt_of_lt_of_le (b7).lt (Nat.le_refl _))) u19
      have b9_19 := AH.has.updr ((((g10.trans g14).trans g17).trans g18).has b9) (Nat.ne_of_gt (Nat.lt_of_lt_of_le (g8.has b7).lt (Nat.le_refl _))) u19
      refine Runs.puts b8_19 rfl fun H20 b20 u20 => ?_
      have n14_20 := n14_19.upda (Av.of_own o14 ((g9.trans g10).has b8).lt) u20
      have n14b_20 := n14b_19.upda (Av.of_own o14b ((g9.trans g10).has b8).lt) u20
      have n17_20 := n17_19.upda (Av.of_own o17 (((g9.trans g10).trans g14).has b8).lt) u20
      have n18_20 := n18_19.upda (Av.of_own o18 ((((g9.trans g10).trans g14).trans g17).has b8).lt) u20
      have b19_20 := AH.has.updr b19 (Nat.ne_of_lt (Nat.lt_of_lt_of_le (b7).lt (Nat.le_refl _))) u20
      have b9_20 := AH.has.updr b9_19 (Nat.ne_of_gt (Nat.lt_of_lt_of_le (b8).lt (Nat.le_refl _))) u20
      refine Runs.step (AH.has.rd b19_20 0 rfl rfl) ?_
      refine Runs.step (AH.has.rd b19_20 1 rfl (asSl_v _)) ?_
      refine Runs.step (AH.has.rd b20 0 rfl rfl) ?_
      refine Runs.step (AH.has.rd b20 1 rfl (asSl_v _)) ?_
      cases e
      cases good
      exact Runs.ret ⟨s17, s18, rfl, n17_20, n18_20, ((((((((((g5.trans g6).trans g7).trans g8).trans g9).trans g10).trans g14).trans g17).trans g18).updr (Nat.le_trans ((g5.trans g6)).size (Nat.le_refl _)) u19).updr (Nat.le_trans (((g5.trans g6).trans g7)).size (Nat.le_refl _)) u20), (o17.of_le ((((((g5.trans g6).trans g7).trans g8).trans g9).trans g10).trans g14)), (o18.of_le (((((((g5.trans g6).trans g7).trans g8).trans g9).trans g10).trans g14).trans g17))⟩
    ·replace e := (condF k15).symm.trans e
     refine Runs.step (AH.has.rd ((((((g6.trans g7).trans g8).trans g9).trans g10).trans g14).has b5) 0 rfl rfl) ?_
     obtain ⟨s16, H16, e16, n16, g16, o16⟩ := kb0 n14 a1
     refine Runs.step e16 ?_
     refine Runs.step rfl ?_
     refine Runs.ifT rfl ?_
     refine Runs.step (seenAt rfl rfl) ?_
     refine Runs.step (seenAt rfl (asSl_v _)) ?_
     obtain ⟨s17, H17, e17, n17, g17, o17⟩ := kb0 (n14b.grow g16) false
     refine Runs.step e17 ?_
     refine Runs.step rfl ?_
     refine Runs.ifT rfl ?_
     refine Runs.step (seenAt rfl rfl) ?_
     refine Runs.step (seenAt rfl (asSl_v _)) ?_
     refine Runs.puts ((((((g8.trans g9).trans g10).trans g14).trans g16).trans g17).has b7) rfl fun H18 b18 u18 => ?_
     have n14_18 := (n14.grow (g16.trans g17)).upda (Av.of_own o14 (((g8.trans g9).trans g10).has b7).lt) u18
     have n14b_18 := (n14b.grow (g16.trans g17)).upda (Av.of_own o14b (((g8.trans g9).trans g10).has b7).lt) u18
     have n16_18 := (n16.grow g17).upda (Av.of_own o16 ((((g8.trans g9).trans g10).trans g14).has b7).lt) u18
     have n17_18 := n17.upda (Av.of_own o17 (((((g8.trans g9).trans g10).trans g14).trans g16).has b7).lt) u18
     have b8_18 := AH.has.updr (((((g9.trans g10).trans g14).trans g16).trans g17).has b8) (Nat.ne_of_gt (Nat.lt_of_lt_of_le (b7).lt (Nat.le_refl _))) u18
     have b9_18 := AH.has.updr ((((g10.trans g14).trans g16).trans g17).has b9) (Nat.ne_of_gt (Nat.lt_of_lt_of_le (g8.has b7).lt (Nat.le_refl _))) u18
     refine Runs.puts b8_18 rfl fun H19 b19 u19 => ?_
     have n14_19 := n14_18.upda (Av.of_own o14 ((g9.trans g10).has b8).lt) u19
     have n14b_19 := n14b_18.upda (Av.of_own o14b ((g9.trans g10).has b8).lt) u19
     have n16_19 := n16_18.upda (Av.of_own o16 (((g9.trans g10).trans g14).has b8).lt) u19
     have n17_19 := n17_18.upda (Av.of_own o17 ((((g9.trans g10).trans g14).trans g16).has b8).lt) u19
     have b18_19 := AH.has.updr b18 (Nat.ne_of_lt (Nat.lt_of_lt_of_le (b7).lt (Nat.le_refl _))) u19
     have b9_19 := AH.has.updr b9_18 (Nat.ne_of_gt (Nat.lt_of_lt_of_le (b8).lt (Nat.le_refl _))) u19
     refine Runs.step (AH.has.rd b18_19 0 rfl rfl) ?_
     refine Runs.step (AH.has.rd b18_19 1 rfl (asSl_v _)) ?_
     refine Runs.step (AH.has.rd b19 0 rfl rfl) ?_
     refine Runs.step (AH.has.rd b19 1 rfl (asSl_v _)) ?_
     cases e
     cases good
     exact Runs.ret ⟨s16, s17, rfl, n16_19, n17_19, ((((((((((g5.trans g6).trans g7).trans g8).trans g9).trans g10).trans g14).trans g16).trans g17).updr (Nat.le_trans ((g5.trans g6)).size (Nat.le_refl _)) u18).updr (Nat.le_trans (((g5.trans g6).trans g7)).size (Nat.le_refl _)) u19), (o16.of_le ((((((g5.trans g6).trans g7).trans g8).trans g9).trans g10).trans g14)), (o17.of_le (((((((g5.trans g6).trans g7).trans g8).trans g9).trans g10).trans g14).trans g16))⟩
theorem kbbi {s : kie} {r : khk} (it : Iter kum s r) : kqe r s := Iter.ind (fun s o e good => by
 cases s with
 | fn a1 x2 a3 x4 => exact @kbey _ _ a1 x2 a3 x4 e good
 | no => exact True.intro
 ) it
end Go.Ab

/- squeezed -/
set_option linter.unusedVariables false
set_option linter.unusedSimpArgs false
set_option maxRecDepth 10000
namespace Go.Ab
open Go.Proofs Go.Num
def gcdN (xs ys : List Nat) : List Nat × Int := if rt xs = true ∧ rt ys = true then (digs B (Nat.gcd (num B xs) (num B ys)), 0) else ([], 1)
theorem ksl {xs ys : List Nat} (hx : rt xs = true) (hy : rt ys = true) (h0 : ys ≠ []) : (divN xs ys).2.1 = digs B (num B xs % num B ys) := by
 simp [divN, hx, hy, h0]
theorem kn {n : Nat} (h : n < B ^ 64) : rt (digs B n) = true := rt_iff.2 ⟨(kx B2 n 64).2 h, kcq B2 n⟩
theorem km7 {xs : List Nat} (hl : ∀ x ∈ xs, x < B) (h : rt xs = true) : num B xs < B ^ 64 := by
 have h1 := num_lt B1 hl
 have h2 : B ^ xs.length ≤ B ^ 64 := Nat.pow_le_pow_right B1 (rt_iff.1 h).1
 omega
theorem kbdg : ∀ (b a : Nat), a < B ^ 64 → b < B ^ 64 → Iter kry (.p4 (digs B a) (digs B b)) (digs B (Nat.gcd a b), 0) := by
 intro b
 induction b using Nat.strongRecOn with
 | ind b ih =>
  intro a ha hb
  by_cases h0 : b = 0
  ·subst h0
   refine .done ?_
   show khd _ _ = _
   unfold khd
   rw [kbq, Nat.gcd_zero_right]
   rfl
  ·have hm := Nat.mod_lt a (show 0 < b by omega)
   have hne : digs B b ≠ [] := fun h => h0 ((kd6 B2).1 h)
   have hl : (digs B b).length ≠ 0 := by simpa using hne
   refine .next (s' := .p4 (digs B b) (digs B (a % b))) ?_ (by
    have := ih (a % b) hm b hb (by omega)
    rwa [Nat.gcd_comm b, ← Nat.gcd_rec, Nat.gcd_comm b] at this)
   show khd _ _ = _
   unfold khd
   rw [condT (by rw [decide_eq_true_eq]; omega), ksl (kn ha) (kn hb) hne, kf B2, kf B2]
theorem kbbm {xs ys : List Nat} (lx : ∀ x ∈ xs, x < B) (ly : ∀ x ∈ ys, x < B) : Iter kry (.fn xs ys) (gcdN xs ys) := by
 unfold gcdN
 cases hx : rt xs with
 | false =>
  refine .done ?_
  show keq _ _ = _
  unfold keq
  simp [hx]
 | true =>
  cases hy : rt ys with
  | false =>
   refine .done ?_
   show keq _ _ = _
   unfold keq
   simp [hx, hy]
  | true =>
   obtain ⟨lx64, tx⟩ := rt_iff.1 hx
   obtain ⟨ly64, ty⟩ := rt_iff.1 hy
   have key := kbdg (num B ys) (num B xs) (km7 lx hx) (km7 ly hy)
   rw [kdo B2 lx tx, kdo B2 ly ty] at key
   simp only [and_self, if_true]
   refine .next ?_ key
   show keq _ _ = _
   unfold keq
   rw [hx, hy, ki (by omega), Option.bind_some, ki (by omega), Option.bind_some]
   rfl
theorem kxg {h : AH} {s t : Sl} {xs ys : List Nat} (n : Nats h s xs) (m : Nats h t ys) : Runs (go (.fn F.kfb [s.v, t.v]) h) (kpm h (gcdN xs ys)) := kzz (kbbm n.lt m.lt) n m
def floorI (p : Bool) (xs : List Nat) (q : Bool) (ys : List Nat) : Bool × List Nat × Bool × List Nat × Int :=
 cond (!(rtI p xs && rtI q ys)) (false, [], false, [], 1)
  (cond (decide (ys = [])) (false, [], false, [], 3)
   (cond q (false, [], false, [], 1)
    (cond (p && !decide ((divN xs ys).2.1 = []))
     (cond (decide ((addN (divN xs ys).1 [1]).2 = 0)) ((fromI true (addN (divN xs ys).1 [1]).1).1, (fromI true (addN (divN xs ys).1 [1]).1).2, (fromI false (subN ys (divN xs ys).2.1).1).1, (fromI false (subN ys (divN xs ys).2.1).1).2, 0) (false, [], false, [], (addN (divN xs ys).1 [1]).2))
     ((fromI p (divN xs ys).1).1, (fromI p (divN xs ys).1).2, (fromI false (divN xs ys).2.1).1, (fromI false (divN xs ys).2.1).2, 0))))
theorem klh : digs B 1 = [1] := by decide +kernel
theorem khp : u64P 1 = some 1 := kbc (n := 1) (by decide)
theorem k47 {xs : List Nat} : decide ((List.length xs : Int) = 0) = decide (xs = []) := by
 rw [decide_eq_decide]
 cases xs
 ·simp
 ·simp
  omega
theorem kbas {xs : List Nat} : decide ((List.length xs : Int) > 0) = !decide (xs = []) := by
 cases xs
 ·rfl
 ·simp
theorem kbd0 (p : Bool) (xs : List Nat) (q : Bool) (ys : List Nat) : Iter kum (.fn p xs q ys) (floorI p xs q ys) := by
 refine .done ?_
 show kjy _ _ _ _ = _
 unfold kjy floorI
 rw [k47, kbas, khp]
 cases rtI p xs && rtI q ys
 ·rfl
 ·cases decide (ys = [])
  ·cases q
   ·cases p
    ·rfl
    ·cases decide ((divN xs ys).2.1 = [])
     ·simp only [Bool.not_true, Bool.not_false, cond_true, cond_false, Bool.and_self, Option.bind_some, klh]
      cases decide ((addN (divN xs ys).1 [1]).2 = 0)
      ·rfl
      ·rfl
     ·rfl
   ·rfl
  ·rfl
theorem kxa {h : AH} {s t : Sl} {xs ys : List Nat} (n : Nats h s xs) (m : Nats h t ys) (p q : Bool) : Runs (go (.fn F.klg [.agg [.bool p, s.v], .agg [.bool q, t.v]]) h) (kud h (floorI p xs q ys)) := kbbi (kbd0 p xs q ys) n m
end Go.Ab

/- squeezed -/
set_option linter.unusedVariables false
set_option linter.unusedSimpArgs false
set_option maxRecDepth 10000
namespace Go.Ab
open Go.Proofs Go.Num
def intD (z : Int) : Bool × List Nat := (decide (z < 0), digs B z.natAbs)
theorem k2k : intD 0 = (false, []) := by simp [intD, kbq]
theorem krf (p : Bool) : fromI p [] = (false, []) := by simp [fromI]
theorem kco {n : Nat} (h : n < B ^ 64) (neg : Bool) : fromI neg (digs B n) = intD (if neg = true then -(n : Int) else (n : Int)) := by
 by_cases h0 : n = 0
 ·subst h0
  rw [kbq, krf]
  cases neg <;> simp [intD, kbq]
 ·have hne : digs B n ≠ [] := fun e => h0 ((kd6 B2).1 e)
  unfold fromI intD
  rw [if_pos ⟨kn h, hne⟩]
  cases neg
  ·have e : ((n : Int)).natAbs = n := by omega
   have e2 : decide ((n : Int) < 0) = false := by rw [decide_eq_false_iff_not]; omega
   simp only [Bool.false_eq_true, if_false, e, e2]
  ·have e : (-(n : Int)).natAbs = n := by omega
   have e2 : decide (-(n : Int) < 0) = true := by rw [decide_eq_true_eq]; omega
   simp only [if_true, e, e2]
theorem kds {z : Int} (h : z.natAbs < B ^ 64) : rtI (intD z).1 (intD z).2 = true := by
 unfold rtI intD
 dsimp only
 rw [kn h, Bool.true_and]
 by_cases hz : z < 0
 ·have hne : digs B z.natAbs ≠ [] := fun e => by
   have := (kd6 B2).1 e
   omega
  rw [decide_eq_true hz]
  simp [hne]
 ·rw [decide_eq_false hz]
  simp
theorem kip {n : Nat} (h : n < B ^ 64) : told n = (digs B n, 0) := by
 unfold told
 rw [if_pos h]
theorem kvo {n : Nat} (h : ¬ n < B ^ 64) : told n = ([], 4) := by
 unfold told
 rw [if_neg h]
theorem ku8 {u v : Int} (hu : u.natAbs < B ^ 64) (hv : v.natAbs < B ^ 64) : kba (intD u).1 (intD u).2 (intD v).1 (intD v).2 = if (u * v).natAbs < B ^ 64 then ((intD (u * v)).1, (intD (u * v)).2, 0) else (false, [], 4) := by
 unfold kba
 rw [kds hu, kds hv]
 have e : mulN (intD u).2 (intD v).2 = told (u.natAbs * v.natAbs) := by
  unfold mulN intD
  dsimp only
  rw [if_pos ⟨kn hu, kn hv⟩, kf B2, kf B2]
 rw [e, Int.natAbs_mul]
 simp only [Bool.and_self, Bool.not_true, cond_false]
 by_cases h : u.natAbs * v.natAbs < B ^ 64
 ·rw [if_pos h, kip h]
  dsimp only
  rw [kco h]
  have key : (if (!((intD u).1 == (intD v).1)) = true then -((u.natAbs * v.natAbs : Nat) : Int) else ((u.natAbs * v.natAbs : Nat) : Int)) = u * v := by
   unfold intD
   dsimp only
   rw [Int.natCast_mul]
   by_cases h1 : u < 0
   ·by_cases h2 : v < 0
    ·have e1 : ((u.natAbs : Nat) : Int) = -u := by omega
     have e2 : ((v.natAbs : Nat) : Int) = -v := by omega
     simp [h1, h2, e1, e2, Int.neg_mul, Int.mul_neg]
    ·have e1 : ((u.natAbs : Nat) : Int) = -u := by omega
     have e2 : ((v.natAbs : Nat) : Int) = v := by omega
     simp [h1, h2, e1, e2, Int.neg_mul, Int.mul_neg]
   ·by_cases h2 : v < 0
    ·have e1 : ((u.natAbs : Nat) : Int) = u := by omega
     have e2 : ((v.natAbs : Nat) : Int) = -v := by omega
     simp [h1, h2, e1, e2, Int.neg_mul, Int.mul_neg]
    ·have e1 : ((u.natAbs : Nat) : Int) = u := by omega
     have e2 : ((v.natAbs : Nat) : Int) = v := by omega
     simp [h1, h2, e1, e2, Int.neg_mul, Int.mul_neg]
  rw [key]
 ·rw [if_neg h, kvo h]
  dsimp only
  rw [krf]
theorem kbao {u v : Int} (hu : u.natAbs < B ^ 64) (hv : v.natAbs < B ^ 64) : kbt (intD u).1 (intD u).2 (intD v).1 (intD v).2 = if (u + v).natAbs < B ^ 64 then ((intD (u + v)).1, (intD (u + v)).2, 0) else (false, [], 4) := by
 unfold kbt
 rw [kds hu, kds hv]
 simp only [Bool.and_self, Bool.not_true, cond_false]
 have ea : addN (intD u).2 (intD v).2 = told (u.natAbs + v.natAbs) := by
  unfold addN intD
  dsimp only
  rw [if_pos ⟨kn hu, kn hv⟩, kf B2, kf B2]
 have es : ∀ {a b : Int}, a.natAbs < B ^ 64 → b.natAbs < B ^ 64 → b.natAbs ≤ a.natAbs → subN (intD a).2 (intD b).2 = (digs B (a.natAbs - b.natAbs), 0) := by
  intro a b ha hb hle
  unfold subN intD
  dsimp only
  rw [if_pos ⟨kn ha, kn hb⟩, kf B2, kf B2, if_neg (by omega)]
 have ec : cmpN (intD u).2 (intD v).2 = cmp u.natAbs v.natAbs := by
  unfold cmpN intD
  dsimp only
  rw [if_pos ⟨kn hu, kn hv⟩, kf B2, kf B2]
 rw [ea, ec]
 have s1 : (intD u).1 = decide (u < 0) := rfl
 have s2 : (intD v).1 = decide (v < 0) := rfl
 rw [s1, s2]
 by_cases hs : (u < 0 ↔ v < 0)
 ·have hb : (decide (u < 0) == decide (v < 0)) = true := by simp [hs]
  rw [hb, cond_true]
  by_cases h : u.natAbs + v.natAbs < B ^ 64
  ·rw [if_pos (by omega), kip h]
   dsimp only
   rw [kco h]
   have : (if decide (u < 0) = true then -((u.natAbs + v.natAbs : Nat) : Int) else ((u.natAbs + v.natAbs : Nat) : Int)) = u + v := by
    by_cases h1 : u < 0
    ·simp only [h1, decide_true, if_true]; omega
    ·simp only [h1, decide_false, Bool.false_eq_true, if_false]; omega
   rw [this]
  ·rw [if_neg (by omega), kvo h]
   dsimp only
   rw [krf]
 ·have hb : (decide (u < 0) == decide (v < 0)) = false := by
   by_cases h1 : u < 0 <;> by_cases h2 : v < 0 <;> simp_all
  rw [hb, cond_false, if_pos (by omega)]
  by_cases hc : u.natAbs < v.natAbs
  ·rw [condT (by rw [decide_eq_true_eq, cmp_lt]; exact hc), es hv hu (by omega)]
   dsimp only
   rw [kco (by omega)]
   have : (if decide (v < 0) = true then -((v.natAbs - u.natAbs : Nat) : Int) else ((v.natAbs - u.natAbs : Nat) : Int)) = u + v := by
    by_cases h1 : v < 0
    ·simp only [h1, decide_true, if_true]; omega
    ·simp only [h1, decide_false, Bool.false_eq_true, if_false]; omega
   rw [this]
  ·rw [condF (by rw [decide_eq_false_iff_not, cmp_lt]; exact hc), es hu hv (by omega)]
   dsimp only
   rw [kco (by omega)]
   have : (if decide (u < 0) = true then -((u.natAbs - v.natAbs : Nat) : Int) else ((u.natAbs - v.natAbs : Nat) : Int)) = u + v := by
    by_cases h1 : u < 0
    ·simp only [h1, decide_true, if_true]; omega
    ·simp only [h1, decide_false, Bool.false_eq_true, if_false]; omega
   rw [this]
theorem k5d {v : Int} (hv : v.natAbs < B ^ 64) : negI (intD v).1 (intD v).2 = intD (-v) := by
 unfold negI
 rw [if_pos (kds hv)]
 show fromI (!decide (v < 0)) (digs B v.natAbs) = _
 rw [kco hv]
 by_cases h1 : v < 0
 ·have e : ((v.natAbs : Nat) : Int) = -v := by omega
  simp [h1, e]
 ·have e : ((v.natAbs : Nat) : Int) = v := by omega
  simp [h1, e]
theorem kyx {u v : Int} (hu : u.natAbs < B ^ 64) (hv : v.natAbs < B ^ 64) : ky (intD u).1 (intD u).2 (intD v).1 (intD v).2 = if (u - v).natAbs < B ^ 64 then ((intD (u - v)).1, (intD (u - v)).2, 0) else (false, [], 4) := by
 have e : ky (intD u).1 (intD u).2 (intD v).1 (intD v).2 = kbt (intD u).1 (intD u).2 (intD (-v)).1 (intD (-v)).2 := by
  unfold ky
  rw [kds hu, kds hv, k5d hv]
  rfl
 rw [e, kbao hu (by omega)]
 rfl
theorem knr (n : Nat) : intD (n : Int) = (false, digs B n) := by
 unfold intD
 have : decide ((n : Int) < 0) = false := by rw [decide_eq_false_iff_not]; omega
 rw [this]
 rfl
theorem kxs {u v : Int} (hu : u.natAbs < B ^ 64) (hv : v.natAbs < B ^ 64) (h0 : 0 < v) : floorI (intD u).1 (intD u).2 (intD v).1 (intD v).2 = ((intD (u / v)).1, (intD (u / v)).2, (intD (u % v)).1, (intD (u % v)).2, 0) := by
 obtain ⟨y, rfl⟩ : ∃ y : Nat, v = (y : Int) := ⟨v.toNat, by omega⟩
 have hy : y < B ^ 64 := by simpa using hv
 have hy0 : 0 < y := by omega
 have hne : (intD (y : Int)).2 ≠ [] := fun e => by
  have : y = 0 := by simpa [intD] using (kd6 B2).1 e
  omega
 unfold floorI
 rw [kds hu, kds hv]
 have sy : (intD (y : Int)).1 = false := by rw [knr]
 have dv : divN (intD u).2 (intD (y : Int)).2 = (digs B (u.natAbs / y), digs B (u.natAbs % y), 0) := by
  unfold divN
  rw [if_pos ⟨rtI_rt (kds hu), rtI_rt (kds hv)⟩, if_neg hne]
  simp only [intD, kf B2, Int.natAbs_natCast]
 have hQ : u.natAbs / y < B ^ 64 := Nat.lt_of_le_of_lt (Nat.div_le_self _ _) hu
 have hR : u.natAbs % y < B ^ 64 := Nat.lt_trans (Nat.mod_lt _ hy0) hy
 have dm := Nat.div_add_mod u.natAbs y
 have hm := Nat.mod_lt u.natAbs hy0
 rw [dv, sy]
 simp only [Bool.and_self, Bool.not_true, cond_false, hne, decide_false]
 have s1 : (intD u).1 = decide (u < 0) := rfl
 rw [s1]
 have hr0 : (digs B (u.natAbs % y) = []) ↔ u.natAbs % y = 0 := kd6 B2
 by_cases hc : u < 0 ∧ u.natAbs % y ≠ 0
 ·have b1 : (decide (u < 0) && !decide (digs B (u.natAbs % y) = [])) = true := by
   rw [Bool.and_eq_true, decide_eq_true_eq, Bool.not_eq_true', decide_eq_false_iff_not, hr0]
   exact hc
  rw [b1, cond_true]
  have h1 : [1] = digs B 1 := klh.symm
  have hq1 : u.natAbs / y + 1 < B ^ 64 := by
   have hy2 : 2 ≤ y := by
    rcases Nat.lt_or_ge y 2 with h | h
    ·have : y = 1 := by omega
     subst this
     rw [Nat.mod_one] at hc
     exact absurd rfl hc.2
    ·exact h
   have : u.natAbs / y ≤ u.natAbs / 2 := Nat.div_le_div_left hy2 (by omega)
   have hb : 2 < B ^ 64 := by decide +kernel
   omega
  have au : addN (digs B (u.natAbs / y)) [1] = (digs B (u.natAbs / y + 1), 0) := by
   unfold addN
   rw [h1, if_pos ⟨kn hQ, kn (by decide +kernel)⟩, kf B2, kf B2, kip hq1]
  have su : subN (intD (y : Int)).2 (digs B (u.natAbs % y)) = (digs B (y - u.natAbs % y), 0) := by
   rw [knr]
   unfold subN
   rw [if_pos ⟨kn hy, kn hR⟩, kf B2, kf B2, if_neg (by omega)]
  rw [au, su]
  dsimp only
  rw [kco hq1, kco (by omega)]
  have e1 : u / (y : Int) = -((u.natAbs / y + 1 : Nat) : Int) := by
   have hu' : u = -((y * (u.natAbs / y) + u.natAbs % y : Nat) : Int) := by rw [dm]; omega
   generalize u.natAbs / y = q at *
   generalize u.natAbs % y = r at *
   rw [hu']
   rw [Int.ediv_eq_iff_of_pos (by omega)]
   constructor
   ·rw [Int.natCast_add, Int.natCast_add, Int.natCast_mul, Int.neg_mul, Int.add_mul, Int.mul_comm (q : Int)]
    omega
   ·rw [Int.natCast_add, Int.natCast_add, Int.natCast_mul, Int.neg_mul, Int.add_mul, Int.mul_comm (q : Int)]
    omega
  have e2 : u % (y : Int) = ((y - u.natAbs % y : Nat) : Int) := by
   have := Int.mul_ediv_add_emod u (y : Int)
   rw [e1] at this
   have dm' : ((y : Int) * ((u.natAbs / y : Nat) : Int)) + ((u.natAbs % y : Nat) : Int) = ((u.natAbs : Nat) : Int) := by
    rw [← Int.natCast_mul, ← Int.natCast_add, dm]
   rw [Int.natCast_add, Int.mul_neg, Int.mul_add] at this
   omega
  rw [e1, e2]
  rfl
 ·have b1 : (decide (u < 0) && !decide (digs B (u.natAbs % y) = [])) = false := by
   rw [← Bool.not_eq_true, Bool.and_eq_true, decide_eq_true_eq, Bool.not_eq_true', decide_eq_false_iff_not, hr0]
   exact hc
  rw [b1, cond_false, kco hQ, kco hR]
  have dm' : ((y : Int) * ((u.natAbs / y : Nat) : Int)) + ((u.natAbs % y : Nat) : Int) = ((u.natAbs : Nat) : Int) := by
   rw [← Int.natCast_mul, ← Int.natCast_add, dm]
  by_cases hneg : u < 0
  ·have hr : u.natAbs % y = 0 := by
    rcases Nat.eq_zero_or_pos (u.natAbs % y) with h | h
    ·exact h
    ·exact absurd ⟨hneg, by omega⟩ hc
   rw [hr] at dm' ⊢
   have hu' : u = (y : Int) * -((u.natAbs / y : Nat) : Int) := by
    rw [Int.mul_neg]
    omega
   have e1 : u / (y : Int) = -((u.natAbs / y : Nat) : Int) := by
    conv => lhs; rw [hu']
    exact Int.mul_ediv_cancel_left _ (by omega)
   have e2 : u % (y : Int) = 0 := by
    conv => lhs; rw [hu']
    exact Int.mul_emod_right _ _
   rw [e1, e2, if_pos (by simpa using hneg)]
   rfl
  ·have hu' : u = ((u.natAbs : Nat) : Int) := by omega
   have e1 : u / (y : Int) = ((u.natAbs / y : Nat) : Int) := by
    conv => lhs; rw [hu']
    rfl
   have e2 : u % (y : Int) = ((u.natAbs % y : Nat) : Int) := by
    conv => lhs; rw [hu']
    rfl
   rw [e1, e2, if_neg (by simpa using hneg)]
   rfl
end Go.Ab

/- squeezed -/
set_option linter.unusedVariables false
set_option linter.unusedSimpArgs false
set_option maxRecDepth 10000
namespace Go.Ab
open Go.Proofs Go.Num
theorem kot : 18446744073709551616 * 18446744073709551616 ≤ B ^ 64 := by
 have : B ^ 64 = B * B * B ^ 62 := by
  rw [show 64 = 2 + 62 from rfl, Nat.pow_add, Nat.pow_two]
 rw [this]
 have h : 1 ≤ B ^ 62 := Nat.pow_pos B1
 have := Nat.mul_le_mul_left (B * B) h
 rw [Nat.mul_one] at this
 exact this
theorem kbeq {n : Int} (h : n.natAbs < 18446744073709551616) : ofI n = intD n := by
 have hb : n.natAbs < B ^ 64 := by have := kot; omega
 unfold ofI
 rw [kco hb]
 by_cases h1 : n < 0
 ·rw [decide_eq_true h1]
  have e : ((n.natAbs : Nat) : Int) = -n := by omega
  simp [e]
 ·rw [decide_eq_false h1]
  have e : ((n.natAbs : Nat) : Int) = n := by omega
  simp [e]
theorem k9x (n : Int) {h : AH} (c : -9223372036854775808 ≤ n ∧ n ≤ 9223372036854775807) : ∃ (s' : Sl) (h' : AH), go (.fn F.kpi [.int .i64 n]) h = some (.agg [.bool (ofI n).1, s'.v], h') ∧ Nats h' s' (ofI n).2 ∧ Grow h h' ∧ Own h s' := kbdw c.1 c.2
end Go.Ab

/- squeezed -/
set_option linter.unusedVariables false
set_option linter.unusedSimpArgs false
set_option maxRecDepth 10000
namespace Go.Ab
open Go.Proofs Go.Num
end Go.Ab

/- squeezed -/
set_option linter.unusedVariables false
set_option linter.unusedSimpArgs false
set_option maxRecDepth 10000
namespace Go.Ab
open Go.Proofs Go.Num
end Go.Ab

/- squeezed -/
set_option linter.unusedVariables false
set_option linter.unusedSimpArgs false
set_option maxRecDepth 10000
namespace Go.Ab
open Go.Proofs Go.Num
end Go.Ab

/- squeezed -/
set_option linter.unusedVariables false
set_option linter.unusedSimpArgs false
set_option maxRecDepth 10000
namespace Go.Ab
open Go.Proofs Go.Num
end Go.Ab

/- squeezed -/
set_option linter.unusedVariables false
set_option linter.unusedSimpArgs false
set_option maxRecDepth 10000
namespace Go.Ab
open Go.Proofs Go.Num
end Go.Ab

/- squeezed -/
set_option linter.unusedVariables false
set_option linter.unusedSimpArgs false
set_option maxRecDepth 10000
namespace Go.Ab
open Go.Proofs Go.Num
end Go.Ab

/- squeezed -/
set_option linter.unusedVariables false
namespace Go.Ab
end Go.Ab

/- squeezed -/
set_option linter.unusedVariables false
set_option linter.unusedSimpArgs false
set_option maxRecDepth 10000
namespace Go.Ab
open Go.Proofs Go.Num
inductive kf5
 | fn (x1 : List Nat) (x2 : List Nat)
 | p7 (x1 : List Nat) (x2c0 : List Nat) (x3c0 : List Nat) (p4c0 : Bool) (x4c1 : List Nat) (p7c0 : Bool) (x7c1 : List Nat)
abbrev kef := List Nat × Int
noncomputable def kd0 (x1 : List Nat) (x2 : List Nat) : Option (kf5 ⊕ kef) :=
 cond (!(rt x1)) (some (.inr ([], 1))) (cond (!(rt x2)) (some (.inr ([], 1))) ((u64P 1).bind fun w8 => cond (decide ((cmpN x2 [w8]) ≤ 0)) (some (.inr ([], 1))) ((need (-9223372036854775808 ≤ (1 : Int) ∧ (1 : Int) ≤ 9223372036854775807)).bind fun c16_0 => some (.inl (.p7 x2 ((divN x1 x2).2.1) x2 false [] ((ofI 1).1) ((ofI 1).2))))))
noncomputable def ke2 (x1 : List Nat) (x2c0 : List Nat) (x3c0 : List Nat) (p4c0 : Bool) (x4c1 : List Nat) (p7c0 : Bool) (x7c1 : List Nat) : Option (kf5 ⊕ kef) :=
 cond (decide ((List.length x2c0 : Int) > 0)) (some (.inl (.p7 x1 ((divN x3c0 x2c0).2.1) x2c0 p7c0 x7c1 (((ky p4c0 x4c1 (((kba ((fromI false ((divN x3c0 x2c0).1)).1) ((fromI false ((divN x3c0 x2c0).1)).2) p7c0 x7c1).1)) ((kba ((fromI false ((divN x3c0 x2c0).1)).1) ((fromI false ((divN x3c0 x2c0).1)).2) p7c0 x7c1).2.1)).1)) ((ky p4c0 x4c1 (((kba ((fromI false ((divN x3c0 x2c0).1)).1) ((fromI false ((divN x3c0 x2c0).1)).2) p7c0 x7c1).1)) ((kba ((fromI false ((divN x3c0 x2c0).1)).1) ((fromI false ((divN x3c0 x2c0).1)).2) p7c0 x7c1).2.1)).2.1)))) ((u64P 1).bind fun w11 => cond (!decide ((cmpN x3c0 [w11]) = 0)) (some (.inr ([], 6))) (some (.inr ((floorI p4c0 x4c1 ((fromI false x1).1) ((fromI false x1).2)).2.2.2.1, ((floorI p4c0 x4c1 ((fromI false x1).1) ((fromI false x1).2)).2.2.2.2)))))
noncomputable def kn5 : kf5 → Option (kf5 ⊕ kef)
 | .fn x1 x2 => kd0 x1 x2
 | .p7 x1 x2c0 x3c0 p4c0 x4c1 p7c0 x7c1 => ke2 x1 x2c0 x3c0 p4c0 x4c1 p7c0 x7c1
@[reducible] def kq4 (h0 : AH) (r : kef) (v : AV) (h' : AH) : Prop := ∃ s1 : Sl, v = .tup [s1.v, .int .i64 r.2] ∧ Nats h' s1 r.1 ∧ Grow h0 h' ∧ Own h0 s1
def kkj (r : kef) : kf5 → Prop
 | .fn x1 x2 => ∀ {h : AH} {a1 : Sl} {a2 : Sl}, Nats h a1 x1 → Nats h a2 x2 → Runs (go (.fn F.ke5 [a1.v, a2.v]) h) (kq4 h r)
 | .p7 x1 x2c0 x3c0 p4c0 x4c1 p7c0 x7c1 => ∀ {h0 h : AH} {a1 : Sl} {s2c0 : Sl} {s3c0 : Sl} {s4c1 : Sl} {s7c1 : Sl} {i2 : Nat} {i3 : Nat} {i4 : Nat} {i7 : Nat}, Grow h0 h → Nats h a1 x1 → h.has i2 [s2c0.v] T.ku → Nats h s2c0 x2c0 → h.has i3 [s3c0.v] T.ku → Nats h s3c0 x3c0 → h.has i4 [.bool p4c0, s4c1.v] T.kj → Nats h s4c1 x4c1 → h.has i7 [.bool p7c0, s7c1.v] T.kj → Nats h s7c1 x7c1 → h0.blks.size ≤ i2 → h0.blks.size ≤ i3 → h0.blks.size ≤ i4 → h0.blks.size ≤ i7 → Av a1 i2 x1 → Av a1 i3 x1 → Av a1 i4 x1 → Av a1 i7 x1 → Av s2c0 i2 x2c0 → Av s2c0 i3 x2c0 → Av s2c0 i4 x2c0 → Av s2c0 i7 x2c0 → Av s3c0 i2 x3c0 → Av s3c0 i3 x3c0 → Av s3c0 i4 x3c0 → Av s3c0 i7 x3c0 → Av s4c1 i2 x4c1 → Av s4c1 i3 x4c1 → Av s4c1 i4 x4c1 → Av s4c1 i7 x4c1 → Av s7c1 i2 x7c1 → Av s7c1 i3 x7c1 → Av s7c1 i4 x7c1 → Av s7c1 i7 x7c1 → i2 ≠ i3 → i2 ≠ i4 → i3 ≠ i4 → i2 ≠ i7 → i3 ≠ i7 → i4 ≠ i7 → Runs (go (.pt F.ke5 Td.knh [(1, a1.v), (7, .ptr (some (.new i2 0))), (9, .ptr (some (.new i3 0))), (10, .ptr (some (.new i4 0))), (12, .func (.func F.kjh) [] [.ptr (some (.new i3 0)), .ptr (some (.new i2 0)), .ptr (some (.new i7 0)), .ptr (some (.new i4 0))])]) h) (kq4 h0 r)
theorem k3m {r : kef} {o : kf5 ⊕ kef} {x1 : List Nat} {x2 : List Nat} (e : kd0 x1 x2 = some o) (good : GoodS (kkj r) r o) : kkj r (.fn x1 x2) := by
 intro h a1 a2 n1 n2
 rw [kbb9]
 unfold kd0 at e
 refine Runs.step (kb9 n1) ?_
 refine Runs.step (seen rfl) ?_
 refine Runs.cond (fun k4 => ?_) (fun k4 => ?_)
 ·replace e := (condT k4).symm.trans e
  cases e
  cases good
  exact Runs.ret ⟨(⟨none, 0, .is 0⟩ : Sl), rfl, (Nats.nil _), (Grow.refl _), (Own.nil _)⟩
 ·replace e := (condF k4).symm.trans e
  refine Runs.step (kb9 n2) ?_
  refine Runs.step (seen rfl) ?_
  refine Runs.cond (fun k6 => ?_) (fun k6 => ?_)
  ·replace e := (condT k6).symm.trans e
   cases e
   cases good
   exact Runs.ret ⟨(⟨none, 0, .is 0⟩ : Sl), rfl, (Nats.nil _), (Grow.refl _), (Own.nil _)⟩
  ·replace e := (condF k6).symm.trans e
   refine Runs.new fun H7 b7 g7 => ?_
   obtain ⟨w8, z8, e⟩ := Option.bind_eq_some_iff.1 e
   obtain ⟨H9, e9, g9⟩ := kdd (n2.grow g7) (Nats.of_has1 b7 z8)
   refine Runs.step e9 ?_
   refine Runs.step (seen (kb _ _)) ?_
   refine Runs.cond (fun k10 => ?_) (fun k10 => ?_)
   ·replace e := (condT k10).symm.trans e
    cases e
    cases good
    exact Runs.ret ⟨(⟨none, 0, .is 0⟩ : Sl), rfl, (Nats.nil _), (g7.trans g9), (Own.nil _)⟩
   ·replace e := (condF k10).symm.trans e
    obtain ⟨s11, s11b, H11, e11, n11, n11b, g11, o11, o11b⟩ := ke7 (n1.grow (g7.trans g9)) (n2.grow (g7.trans g9))
    refine Runs.step e11 ?_
    refine Runs.step rfl ?_
    refine Runs.step (seen (asSl_v _)) ?_
    refine Runs.step (seen (asSl_v _)) ?_
    refine Runs.step (seen (kb _ _)) ?_
    refine Runs.new fun H12 b12 g12 => ?_
    refine Runs.puts b12 rfl fun H13 b13 u13 => ?_
    refine Runs.new fun H14 b14 g14 => ?_
    refine Runs.puts b14 rfl fun H15 b15 u15 => ?_
    obtain ⟨c16_0, q16_0, e⟩ := Option.bind_eq_some_iff.1 e
    obtain ⟨s16, H16, e16, n16, g16, o16⟩ := k9x 1  c16_0.down
    refine Runs.step e16 ?_
    refine Runs.step rfl ?_
    refine Runs.ifT rfl ?_
    refine Runs.step (seenAt rfl rfl) ?_
    refine Runs.step (seenAt rfl (asSl_v _)) ?_
    refine Runs.new fun H17 b17 g17 => ?_
    refine Runs.new fun H18 b18 g18 => ?_
    refine Runs.puts (g18.has b17) rfl fun H19 b19 u19 => ?_
    have b18_19 := AH.has.updr b18 (Nat.ne_of_gt (Nat.lt_of_lt_of_le (b17).lt (Nat.le_refl _))) u19
    refine Runs.puts b18_19 rfl fun H20 b20 u20 => ?_
    have b19_20 := AH.has.updr b19 (Nat.ne_of_lt (Nat.lt_of_lt_of_le (b17).lt (Nat.le_refl _))) u20
    cases e
    exact good (((((((((((g7.trans g9).trans g11).trans g12).updr (Nat.le_trans (((g7.trans g9).trans g11)).size (Nat.le_refl _)) u13).trans g14).updr (Nat.le_trans (((((g7.trans g9).trans g11).trans g12).updr (Nat.le_trans (((g7.trans g9).trans g11)).size (Nat.le_refl _)) u13)).size (Nat.le_refl _)) u15).trans g16).trans g17).trans g18).updr (Nat.le_trans ((((((((g7.trans g9).trans g11).trans g12).updr (Nat.le_trans (((g7.trans g9).trans g11)).size (Nat.le_refl _)) u13).trans g14).updr (Nat.le_trans (((((g7.trans g9).trans g11).trans g12).updr (Nat.le_trans (((g7.trans g9).trans g11)).size (Nat.le_refl _)) u13)).size (Nat.le_refl _)) u15).trans g16)).size (Nat.le_refl _)) u19).updr (Nat.le_trans (((((((((g7.trans g9).trans g11).trans g12).updr (Nat.le_trans (((g7.trans g9).trans g11)).size (Nat.le_refl _)) u13).trans g14).updr (Nat.le_trans (((((g7.trans g9).trans g11).trans g12).updr (Nat.le_trans (((g7.trans g9).trans g11)).size (Nat.le_refl _)) u13)).size (Nat.le_refl _)) u15).trans g16).trans g17)).size (Nat.le_refl _)) u20) (n2.grow (((((((((((g7.trans g9).trans g11).trans g12).updr (Nat.le_trans (((g7.trans g9).trans g11)).size (Nat.le_refl _)) u13).trans g14).updr (Nat.le_trans (((((g7.trans g9).trans g11).trans g12).updr (Nat.le_trans (((g7.trans g9).trans g11)).size (Nat.le_refl _)) u13)).size (Nat.le_refl _)) u15).trans g16).trans g17).trans g18).updr (Nat.le_trans ((((((((g7.trans g9).trans g11).trans g12).updr (Nat.le_trans (((g7.trans g9).trans g11)).size (Nat.le_refl _)) u13).trans g14).updr (Nat.le_trans (((((g7.trans g9).trans g11).trans g12).updr (Nat.le_trans (((g7.trans g9).trans g11)).size (Nat.le_refl _)) u13)).size (Nat.le_refl _)) u15).trans g16)).size (Nat.le_refl _)) u19).updr (Nat.le_trans (((((((((g7.trans g9).trans g11).trans g12).updr (Nat.le_trans (((g7.trans g9).trans g11)).size (Nat.le_refl _)) u13).trans g14).updr (Nat.le_trans (((((g7.trans g9).trans g11).trans g12).updr (Nat.le_trans (((g7.trans g9).trans g11)).size (Nat.le_refl _)) u13)).size (Nat.le_refl _)) u15).trans g16).trans g17)).size (Nat.le_refl _)) u20)) (((((((g14.updr (Nat.le_refl _) u15).trans g16).trans g17).trans g18).updr (Nat.le_trans (((g14.updr (Nat.le_refl _) u15).trans g16)).size (Nat.le_refl _)) u19).updr (Nat.le_trans ((((g14.updr (Nat.le_refl _) u15).trans g16).trans g17)).size (Nat.le_refl _)) u20).has b13) (n11b.grow ((((((((g12.updr (Nat.le_refl _) u13).trans g14).updr (Nat.le_trans ((g12.updr (Nat.le_refl _) u13)).size (Nat.le_refl _)) u15).trans g16).trans g17).trans g18).updr (Nat.le_trans (((((g12.updr (Nat.le_refl _) u13).trans g14).updr (Nat.le_trans ((g12.updr (Nat.le_refl _) u13)).size (Nat.le_refl _)) u15).trans g16)).size (Nat.le_refl _)) u19).updr (Nat.le_trans ((((((g12.updr (Nat.le_refl _) u13).trans g14).updr (Nat.le_trans ((g12.updr (Nat.le_refl _) u13)).size (Nat.le_refl _)) u15).trans g16).trans g17)).size (Nat.le_refl _)) u20)) (((((g16.trans g17).trans g18).updr (Nat.le_trans (g16).size (Nat.le_refl _)) u19).updr (Nat.le_trans ((g16.trans g17)).size (Nat.le_refl _)) u20).has b15) (n2.grow (((((((((((g7.trans g9).trans g11).trans g12).updr (Nat.le_trans (((g7.trans g9).trans g11)).size (Nat.le_refl _)) u13).trans g14).updr (Nat.le_trans (((((g7.trans g9).trans g11).trans g12).updr (Nat.le_trans (((g7.trans g9).trans g11)).size (Nat.le_refl _)) u13)).size (Nat.le_refl _)) u15).trans g16).trans g17).trans g18).updr (Nat.le_trans ((((((((g7.trans g9).trans g11).trans g12).updr (Nat.le_trans (((g7.trans g9).trans g11)).size (Nat.le_refl _)) u13).trans g14).updr (Nat.le_trans (((((g7.trans g9).trans g11).trans g12).updr (Nat.le_trans (((g7.trans g9).trans g11)).size (Nat.le_refl _)) u13)).size (Nat.le_refl _)) u15).trans g16)).size (Nat.le_refl _)) u19).updr (Nat.le_trans (((((((((g7.trans g9).trans g11).trans g12).updr (Nat.le_trans (((g7.trans g9).trans g11)).size (Nat.le_refl _)) u13).trans g14).updr (Nat.le_trans (((((g7.trans g9).trans g11).trans g12).updr (Nat.le_trans (((g7.trans g9).trans g11)).size (Nat.le_refl _)) u13)).size (Nat.le_refl _)) u15).trans g16).trans g17)).size (Nat.le_refl _)) u20)) b19_20 (Nats.nil _) b20 (n16.grow (((g17.trans g18).updr (Nat.le_refl _) u19).updr (Nat.le_trans (g17).size (Nat.le_refl _)) u20)) (Nat.le_trans (((g7.trans g9).trans g11)).size (Nat.le_refl _)) (Nat.le_trans (((((g7.trans g9).trans g11).trans g12).updr (Nat.le_trans (((g7.trans g9).trans g11)).size (Nat.le_refl _)) u13)).size (Nat.le_refl _)) (Nat.le_trans ((((((((g7.trans g9).trans g11).trans g12).updr (Nat.le_trans (((g7.trans g9).trans g11)).size (Nat.le_refl _)) u13).trans g14).updr (Nat.le_trans (((((g7.trans g9).trans g11).trans g12).updr (Nat.le_trans (((g7.trans g9).trans g11)).size (Nat.le_refl _)) u13)).size (Nat.le_refl _)) u15).trans g16)).size (Nat.le_refl _)) (Nat.le_trans (((((((((g7.trans g9).trans g11).trans g12).updr (Nat.le_trans (((g7.trans g9).trans g11)).size (Nat.le_refl _)) u13).trans g14).updr (Nat.le_trans (((((g7.trans g9).trans g11).trans g12).updr (Nat.le_trans (((g7.trans g9).trans g11)).size (Nat.le_refl _)) u13)).size (Nat.le_refl _)) u15).trans g16).trans g17)).size (Nat.le_refl _)) (Av.of_base n2 (Nat.le_trans (((g7.trans g9).trans g11)).size (Nat.le_refl _))) (Av.of_base n2 (Nat.le_trans (((((g7.trans g9).trans g11).trans g12).updr (Nat.le_trans (((g7.trans g9).trans g11)).size (Nat.le_refl _)) u13)).size (Nat.le_refl _))) (Av.of_base n2 (Nat.le_trans ((((((((g7.trans g9).trans g11).trans g12).updr (Nat.le_trans (((g7.trans g9).trans g11)).size (Nat.le_refl _)) u13).trans g14).updr (Nat.le_trans (((((g7.trans g9).trans g11).trans g12).updr (Nat.le_trans (((g7.trans g9).trans g11)).size (Nat.le_refl _)) u13)).size (Nat.le_refl _)) u15).trans g16)).size (Nat.le_refl _))) (Av.of_base n2 (Nat.le_trans (((((((((g7.trans g9).trans g11).trans g12).updr (Nat.le_trans (((g7.trans g9).trans g11)).size (Nat.le_refl _)) u13).trans g14).updr (Nat.le_trans (((((g7.trans g9).trans g11).trans g12).updr (Nat.le_trans (((g7.trans g9).trans g11)).size (Nat.le_refl _)) u13)).size (Nat.le_refl _)) u15).trans g16).trans g17)).size (Nat.le_refl _))) (Av.of_base n11b (Nat.le_refl _)) (Av.of_base n11b (Nat.le_trans ((g12.updr (Nat.le_refl _) u13)).size (Nat.le_refl _))) (Av.of_base n11b (Nat.le_trans (((((g12.updr (Nat.le_refl _) u13).trans g14).updr (Nat.le_trans ((g12.updr (Nat.le_refl _) u13)).size (Nat.le_refl _)) u15).trans g16)).size (Nat.le_refl _))) (Av.of_base n11b (Nat.le_trans ((((((g12.updr (Nat.le_refl _) u13).trans g14).updr (Nat.le_trans ((g12.updr (Nat.le_refl _) u13)).size (Nat.le_refl _)) u15).trans g16).trans g17)).size (Nat.le_refl _))) (Av.of_base n2 (Nat.le_trans (((g7.trans g9).trans g11)).size (Nat.le_refl _))) (Av.of_base n2 (Nat.le_trans (((((g7.trans g9).trans g11).trans g12).updr (Nat.le_trans (((g7.trans g9).trans g11)).size (Nat.le_refl _)) u13)).size (Nat.le_refl _))) (Av.of_base n2 (Nat.le_trans ((((((((g7.trans g9).trans g11).trans g12).updr (Nat.le_trans (((g7.trans g9).trans g11)).size (Nat.le_refl _)) u13).trans g14).updr (Nat.le_trans (((((g7.trans g9).trans g11).trans g12).updr (Nat.le_trans (((g7.trans g9).trans g11)).size (Nat.le_refl _)) u13)).size (Nat.le_refl _)) u15).trans g16)).size (Nat.le_refl _))) (Av.of_base n2 (Nat.le_trans (((((((((g7.trans g9).trans g11).trans g12).updr (Nat.le_trans (((g7.trans g9).trans g11)).size (Nat.le_refl _)) u13).trans g14).updr (Nat.le_trans (((((g7.trans g9).trans g11).trans g12).updr (Nat.le_trans (((g7.trans g9).trans g11)).size (Nat.le_refl _)) u13)).size (Nat.le_refl _)) u15).trans g16).trans g17)).size (Nat.le_refl _))) (Av.nil _ _) (Av.nil _ _) (Av.nil _ _) (Av.nil _ _) (Av.of_own o16 ((g14.updr (Nat.le_refl _) u15).has b13).lt) (Av.of_own o16 (b15).lt) (Av.of_base n16 (Nat.le_refl _)) (Av.of_base n16 (Nat.le_trans (g17).size (Nat.le_refl _))) (Nat.ne_of_lt (Nat.lt_of_lt_of_le (b13).lt (Nat.le_refl _))) (Nat.ne_of_lt (Nat.lt_of_lt_of_le (((g14.updr (Nat.le_refl _) u15).trans g16).has b13).lt (Nat.le_refl _))) (Nat.ne_of_lt (Nat.lt_of_lt_of_le (g16.has b15).lt (Nat.le_refl _))) (Nat.ne_of_lt (Nat.lt_of_lt_of_le ((((g14.updr (Nat.le_refl _) u15).trans g16).trans g17).has b13).lt (Nat.le_refl _))) (Nat.ne_of_lt (Nat.lt_of_lt_of_le ((g16.trans g17).has b15).lt (Nat.le_refl _))) (Nat.ne_of_lt (Nat.lt_of_lt_of_le (b17).lt (Nat.le_refl _)))
theorem k99 {r : kef} {o : kf5 ⊕ kef} {x1 : List Nat} {x2c0 : List Nat} {x3c0 : List Nat} {p4c0 : Bool} {x4c1 : List Nat} {p7c0 : Bool} {x7c1 : List Nat} (e : ke2 x1 x2c0 x3c0 p4c0 x4c1 p7c0 x7c1 = some o) (good : GoodS (kkj r) r o) : kkj r (.p7 x1 x2c0 x3c0 p4c0 x4c1 p7c0 x7c1) := by
 intro h0 h a1 s2c0 s3c0 s4c1 s7c1 i2 i3 i4 i7 g0 n1 b2 n2c0 b3 n3c0 b4 n4c1 b7 n7c1 hi2 hi3 hi4 hi7 av1_2 av1_3 av1_4 av1_7 av2c0_2 av2c0_3 av2c0_4 av2c0_7 av3c0_2 av3c0_3 av3c0_4 av3c0_7 av4c1_2 av4c1_3 av4c1_4 av4c1_7 av7c1_2 av7c1_3 av7c1_4 av7c1_7 ne2_3 ne2_4 ne3_4 ne2_7 ne3_7 ne4_7
 rw [k8u]
 unfold ke2 at e
 refine Runs.step (AH.has.rd0 b2 rfl (asSl_v _)) ?_
 rw [n2c0.len]
 refine Runs.cond (fun k9 => ?_) (fun k9 => ?_)
 ·replace e := (condT k9).symm.trans e
  rw [k7j]
  refine Runs.stepB (AH.has.rd0 b3 rfl (asSl_v _)) ?_
  refine Runs.stepB (AH.has.rd0 b2 rfl (asSl_v _)) ?_
  obtain ⟨s10, s10b, H10, e10, n10, n10b, g10, o10, o10b⟩ := ke7 n3c0 n2c0
  refine Runs.stepB e10 ?_
  refine Runs.stepB rfl ?_
  refine Runs.stepB (seen (asSl_v _)) ?_
  refine Runs.stepB (seen (asSl_v _)) ?_
  refine Runs.stepB (seen (kb _ _)) ?_
  refine Runs.newB fun H11 b11 g11 => ?_
  refine Runs.stepB (AH.has.rd ((g10.trans g11).has b7) 0 rfl rfl) ?_
  refine Runs.stepB (AH.has.rd ((g10.trans g11).has b7) 1 rfl (asSl_v _)) ?_
  obtain ⟨s12, H12, e12, n12, g12, o12⟩ := kb0 (n10.grow g11) false
  refine Runs.stepB e12 ?_
  refine Runs.stepB rfl ?_
  refine Runs.ifTB rfl ?_
  refine Runs.stepB (seenAt rfl rfl) ?_
  refine Runs.stepB (seenAt rfl (asSl_v _)) ?_
  refine Runs.whenB (g12.same ((g10.trans g11).has b7) 0 2) ?_
  refine Runs.whenB (g12.same b11 0 0) ?_
  obtain ⟨_, H13, e13, s13, rfl, n13, g13, o13⟩ := kxv n12 (n7c1.grow ((g10.trans g11).trans g12)) ((fromI false ((divN x3c0 x2c0).1)).1) p7c0
  refine Runs.stepB e13 ?_
  refine Runs.stepB rfl ?_
  refine Runs.stepB rfl ?_
  refine Runs.ifTB rfl ?_
  refine Runs.stepB (seenAt rfl rfl) ?_
  refine Runs.stepB (seenAt rfl (asSl_v _)) ?_
  refine Runs.stepB (seen (kb _ _)) ?_
  refine Runs.whenB (g13.same (g12.has b11) 0 0) ?_
  refine Runs.putsB ((g12.trans g13).has b11) rfl fun H14 b14 u14 => ?_
  have n12_14 := (n12.grow g13).upda (Av.of_own o12 (b11).lt) u14
  have n13_14 := n13.upda (Av.of_own o13 (g12.has b11).lt) u14
  refine Runs.stepB (AH.has.rd (((((g10.trans g11).trans g12).trans g13).updr (Nat.le_trans (g10).size (Nat.le_refl _)) u14).has b4) 0 rfl rfl) ?_
  refine Runs.stepB (AH.has.rd (((((g10.trans g11).trans g12).trans g13).updr (Nat.le_trans (g10).size (Nat.le_refl _)) u14).has b4) 1 rfl (asSl_v _)) ?_
  refine Runs.stepB (AH.has.rd b14 0 rfl rfl) ?_
  refine Runs.stepB (AH.has.rd b14 1 rfl (asSl_v _)) ?_
  obtain ⟨_, H15, e15, s15, rfl, n15, g15, o15⟩ := kza (n4c1.grow ((((g10.trans g11).trans g12).trans g13).updr (Nat.le_trans (g10).size (Nat.le_refl _)) u14)) n13_14 p4c0 (((kba ((fromI false ((divN x3c0 x2c0).1)).1) ((fromI false ((divN x3c0 x2c0).1)).2) p7c0 x7c1).1))
  refine Runs.stepB e15 ?_
  refine Runs.stepB rfl ?_
  refine Runs.stepB rfl ?_
  refine Runs.ifTB rfl ?_
  refine Runs.stepB (seenAt rfl rfl) ?_
  refine Runs.stepB (seenAt rfl (asSl_v _)) ?_
  refine Runs.stepB (seen (kb _ _)) ?_
  refine Runs.newB fun H16 b16 g16 => ?_
  refine Runs.putsB b16 rfl fun H17 b17 u17 => ?_
  refine Runs.stepB (AH.has.rd0 ((((((((g10.trans g11).trans g12).trans g13).updr (Nat.le_trans (g10).size (Nat.le_refl _)) u14).trans g15).trans g16).updr (Nat.le_trans ((((((g10.trans g11).trans g12).trans g13).updr (Nat.le_trans (g10).size (Nat.le_refl _)) u14).trans g15)).size (Nat.le_refl _)) u17).has b2) rfl (asSl_v _)) ?_
  refine Runs.stepB (AH.has.rd ((((((((g10.trans g11).trans g12).trans g13).updr (Nat.le_trans (g10).size (Nat.le_refl _)) u14).trans g15).trans g16).updr (Nat.le_trans ((((((g10.trans g11).trans g12).trans g13).updr (Nat.le_trans (g10).size (Nat.le_refl _)) u14).trans g15)).size (Nat.le_refl _)) u17).has b7) 0 rfl rfl) ?_
  refine Runs.stepB (AH.has.rd ((((((((g10.trans g11).trans g12).trans g13).updr (Nat.le_trans (g10).size (Nat.le_refl _)) u14).trans g15).trans g16).updr (Nat.le_trans ((((((g10.trans g11).trans g12).trans g13).updr (Nat.le_trans (g10).size (Nat.le_refl _)) u14).trans g15)).size (Nat.le_refl _)) u17).has b7) 1 rfl (asSl_v _)) ?_
  refine Runs.stepB (AH.has.rd b17 0 rfl rfl) ?_
  refine Runs.stepB (AH.has.rd b17 1 rfl (asSl_v _)) ?_
  refine Runs.putsB ((((((((g10.trans g11).trans g12).trans g13).updr (Nat.le_trans (g10).size (Nat.le_refl _)) u14).trans g15).trans g16).updr (Nat.le_trans ((((((g10.trans g11).trans g12).trans g13).updr (Nat.le_trans (g10).size (Nat.le_refl _)) u14).trans g15)).size (Nat.le_refl _)) u17).has b3) rfl fun H18 b18 u18 => ?_
  have n1_18 := (n1.grow (((((((g10.trans g11).trans g12).trans g13).updr (Nat.le_trans (g10).size (Nat.le_refl _)) u14).trans g15).trans g16).updr (Nat.le_trans ((((((g10.trans g11).trans g12).trans g13).updr (Nat.le_trans (g10).size (Nat.le_refl _)) u14).trans g15)).size (Nat.le_refl _)) u17)).upda av1_3 u18
  have n2c0_18 := (n2c0.grow (((((((g10.trans g11).trans g12).trans g13).updr (Nat.le_trans (g10).size (Nat.le_refl _)) u14).trans g15).trans g16).updr (Nat.le_trans ((((((g10.trans g11).trans g12).trans g13).updr (Nat.le_trans (g10).size (Nat.le_refl _)) u14).trans g15)).size (Nat.le_refl _)) u17)).upda av2c0_3 u18
  have n3c0_18 := (n3c0.grow (((((((g10.trans g11).trans g12).trans g13).updr (Nat.le_trans (g10).size (Nat.le_refl _)) u14).trans g15).trans g16).updr (Nat.le_trans ((((((g10.trans g11).trans g12).trans g13).updr (Nat.le_trans (g10).size (Nat.le_refl _)) u14).trans g15)).size (Nat.le_refl _)) u17)).upda av3c0_3 u18
  have n4c1_18 := (n4c1.grow (((((((g10.trans g11).trans g12).trans g13).updr (Nat.le_trans (g10).size (Nat.le_refl _)) u14).trans g15).trans g16).updr (Nat.le_trans ((((((g10.trans g11).trans g12).trans g13).updr (Nat.le_trans (g10).size (Nat.le_refl _)) u14).trans g15)).size (Nat.le_refl _)) u17)).upda av4c1_3 u18
  have n7c1_18 := (n7c1.grow (((((((g10.trans g11).trans g12).trans g13).updr (Nat.le_trans (g10).size (Nat.le_refl _)) u14).trans g15).trans g16).updr (Nat.le_trans ((((((g10.trans g11).trans g12).trans g13).updr (Nat.le_trans (g10).size (Nat.le_refl _)) u14).trans g15)).size (Nat.le_refl _)) u17)).upda av7c1_3 u18
  have n10_18 := (n10.grow ((((((g11.trans g12).trans g13).updr (Nat.le_refl _) u14).trans g15).trans g16).updr (Nat.le_trans (((((g11.trans g12).trans g13).updr (Nat.le_refl _) u14).trans g15)).size (Nat.le_refl _)) u17)).upda (Av.of_own o10 (b3).lt) u18
  have n10b_18 := (n10b.grow ((((((g11.trans g12).trans g13).updr (Nat.le_refl _) u14).trans g15).trans g16).updr (Nat.le_trans (((((g11.trans g12).trans g13).updr (Nat.le_refl _) u14).trans g15)).size (Nat.le_refl _)) u17)).upda (Av.of_own o10b (b3).lt) u18
  have n12_18 := (n12_14.grow ((g15.trans g16).updr (Nat.le_trans (g15).size (Nat.le_refl _)) u17)).upda (Av.of_own o12 ((g10.trans g11).has b3).lt) u18
  have n13_18 := (n13_14.grow ((g15.trans g16).updr (Nat.le_trans (g15).size (Nat.le_refl _)) u17)).upda (Av.of_own o13 (((g10.trans g11).trans g12).has b3).lt) u18
  have n15_18 := (n15.grow (g16.updr (Nat.le_refl _) u17)).upda (Av.of_own o15 (((((g10.trans g11).trans g12).trans g13).updr (Nat.le_trans (g10).size (Nat.le_refl _)) u14).has b3).lt) u18
  have b2_18 := AH.has.updr ((((((((g10.trans g11).trans g12).trans g13).updr (Nat.le_trans (g10).size (Nat.le_refl _)) u14).trans g15).trans g16).updr (Nat.le_trans ((((((g10.trans g11).trans g12).trans g13).updr (Nat.le_trans (g10).size (Nat.le_refl _)) u14).trans g15)).size (Nat.le_refl _)) u17).has b2) ne2_3 u18
  have b4_18 := AH.has.updr ((((((((g10.trans g11).trans g12).trans g13).updr (Nat.le_trans (g10).size (Nat.le_refl _)) u14).trans g15).trans g16).updr (Nat.le_trans ((((((g10.trans g11).trans g12).trans g13).updr (Nat.le_trans (g10).size (Nat.le_refl _)) u14).trans g15)).size (Nat.le_refl _)) u17).has b4) (Ne.symm ne3_4) u18
  have b7_18 := AH.has.updr ((((((((g10.trans g11).trans g12).trans g13).updr (Nat.le_trans (g10).size (Nat.le_refl _)) u14).trans g15).trans g16).updr (Nat.le_trans ((((((g10.trans g11).trans g12).trans g13).updr (Nat.le_trans (g10).size (Nat.le_refl _)) u14).trans g15)).size (Nat.le_refl _)) u17).has b7) (Ne.symm ne3_7) u18
  have b14_18 := AH.has.updr (((g15.trans g16).updr (Nat.le_trans (g15).size (Nat.le_refl _)) u17).has b14) (Nat.ne_of_gt (Nat.lt_of_lt_of_le (g10.has b3).lt (Nat.le_refl _))) u18
  have b17_18 := AH.has.updr b17 (Nat.ne_of_gt (Nat.lt_of_lt_of_le ((((((g10.trans g11).trans g12).trans g13).updr (Nat.le_trans (g10).size (Nat.le_refl _)) u14).trans g15).has b3).lt (Nat.le_refl _))) u18
  refine Runs.whenB (kl1 b17 b17_18 0 2) ?_
  refine Runs.whenB (kl1 ((((((((g10.trans g11).trans g12).trans g13).updr (Nat.le_trans (g10).size (Nat.le_refl _)) u14).trans g15).trans g16).updr (Nat.le_trans ((((((g10.trans g11).trans g12).trans g13).updr (Nat.le_trans (g10).size (Nat.le_refl _)) u14).trans g15)).size (Nat.le_refl _)) u17).has b7) b7_18 0 2) ?_
  refine Runs.putsB b2_18 rfl fun H19 b19 u19 => ?_
  have n1_19 := n1_18.upda av1_2 u19
  have n2c0_19 := n2c0_18.upda av2c0_2 u19
  have n3c0_19 := n3c0_18.upda av3c0_2 u19
  have n4c1_19 := n4c1_18.upda av4c1_2 u19
  have n7c1_19 := n7c1_18.upda av7c1_2 u19
  have n10_19 := n10_18.upda (Av.of_own o10 (b2).lt) u19
  have n10b_19 := n10b_18.upda (Av.of_own o10b (b2).lt) u19
  have n12_19 := n12_18.upda (Av.of_own o12 ((g10.trans g11).has b2).lt) u19
  have n13_19 := n13_18.upda (Av.of_own o13 (((g10.trans g11).trans g12).has b2).lt) u19
  have n15_19 := n15_18.upda (Av.of_own o15 (((((g10.trans g11).trans g12).trans g13).updr (Nat.le_trans (g10).size (Nat.le_refl _)) u14).has b2).lt) u19
  have b18_19 := AH.has.updr b18 (Ne.symm ne2_3) u19
  have b4_19 := AH.has.updr b4_18 (Ne.symm ne2_4) u19
  have b7_19 := AH.has.updr b7_18 (Ne.symm ne2_7) u19
  have b14_19 := AH.has.updr b14_18 (Nat.ne_of_gt (Nat.lt_of_lt_of_le (g10.has b2).lt (Nat.le_refl _))) u19
  have b17_19 := AH.has.updr b17_18 (Nat.ne_of_gt (Nat.lt_of_lt_of_le ((((((g10.trans g11).trans g12).trans g13).updr (Nat.le_trans (g10).size (Nat.le_refl _)) u14).trans g15).has b2).lt (Nat.le_refl _))) u19
  refine Runs.whenB (kl1 b17_18 b17_19 0 2) ?_
  refine Runs.whenB (kl1 b7_18 b7_19 0 2) ?_
  refine Runs.putsB b4_19 rfl fun H20 b20 u20 => ?_
  have n1_20 := n1_19.upda av1_4 u20
  have n2c0_20 := n2c0_19.upda av2c0_4 u20
  have n3c0_20 := n3c0_19.upda av3c0_4 u20
  have n4c1_20 := n4c1_19.upda av4c1_4 u20
  have n7c1_20 := n7c1_19.upda av7c1_4 u20
  have n10_20 := n10_19.upda (Av.of_own o10 (b4).lt) u20
  have n10b_20 := n10b_19.upda (Av.of_own o10b (b4).lt) u20
  have n12_20 := n12_19.upda (Av.of_own o12 ((g10.trans g11).has b4).lt) u20
  have n13_20 := n13_19.upda (Av.of_own o13 (((g10.trans g11).trans g12).has b4).lt) u20
  have n15_20 := n15_19.upda (Av.of_own o15 (((((g10.trans g11).trans g12).trans g13).updr (Nat.le_trans (g10).size (Nat.le_refl _)) u14).has b4).lt) u20
  have b19_20 := AH.has.updr b19 ne2_4 u20
  have b18_20 := AH.has.updr b18_19 ne3_4 u20
  have b7_20 := AH.has.updr b7_19 (Ne.symm ne4_7) u20
  have b14_20 := AH.has.updr b14_19 (Nat.ne_of_gt (Nat.lt_of_lt_of_le (g10.has b4).lt (Nat.le_refl _))) u20
  have b17_20 := AH.has.updr b17_19 (Nat.ne_of_gt (Nat.lt_of_lt_of_le ((((((g10.trans g11).trans g12).trans g13).updr (Nat.le_trans (g10).size (Nat.le_refl _)) u14).trans g15).has b4).lt (Nat.le_refl _))) u20
  refine Runs.whenB (kl1 b17_19 b17_20 0 2) ?_
  refine Runs.putsB b7_20 rfl fun H21 b21 u21 => ?_
  have n1_21 := n1_20.upda av1_7 u21
  have n2c0_21 := n2c0_20.upda av2c0_7 u21
  have n3c0_21 := n3c0_20.upda av3c0_7 u21
  have n4c1_21 := n4c1_20.upda av4c1_7 u21
  have n7c1_21 := n7c1_20.upda av7c1_7 u21
  have n10_21 := n10_20.upda (Av.of_own o10 (b7).lt) u21
  have n10b_21 := n10b_20.upda (Av.of_own o10b (b7).lt) u21
  have n12_21 := n12_20.upda (Av.of_own o12 ((g10.trans g11).has b7).lt) u21
  have n13_21 := n13_20.upda (Av.of_own o13 (((g10.trans g11).trans g12).has b7).lt) u21
  have n15_21 := n15_20.upda (Av.of_own o15 (((((g10.trans g11).trans g12).trans g13).updr (Nat.le_trans (g10).size (Nat.le_refl _)) u14).has b7).lt) u21
  have b19_21 := AH.has.updr b19_20 ne2_7 u21
  have b18_21 := AH.has.updr b18_20 ne3_7 u21
  have b20_21 := AH.has.updr b20 ne4_7 u21
  have b14_21 := AH.has.updr b14_20 (Nat.ne_of_gt (Nat.lt_of_lt_of_le (g10.has b7).lt (Nat.le_refl _))) u21
  have b17_21 := AH.has.updr b17_20 (Nat.ne_of_gt (Nat.lt_of_lt_of_le ((((((g10.trans g11).trans g12).trans g13).updr (Nat.le_trans (g10).size (Nat.le_refl _)) u14).trans g15).has b7).lt (Nat.le_refl _))) u21
  refine Runs.retB ?_
  refine Runs.step rfl ?_
  cases e
  exact good ((((((((((((g0.trans g10).trans g11).trans g12).trans g13).updr (Nat.le_trans ((g0.trans g10)).size (Nat.le_refl _)) u14).trans g15).trans g16).updr (Nat.le_trans (((((((g0.trans g10).trans g11).trans g12).trans g13).updr (Nat.le_trans ((g0.trans g10)).size (Nat.le_refl _)) u14).trans g15)).size (Nat.le_refl _)) u17).updr hi3 u18).updr hi2 u19).updr hi4 u20).updr hi7 u21) n1_21 b19_21 n10b_21 b18_21 n2c0_21 b20_21 n7c1_21 b21 n15_21 hi2 hi3 hi4 hi7 av1_2 av1_3 av1_4 av1_7 (Av.of_own o10b (b2).lt) (Av.of_own o10b (b3).lt) (Av.of_own o10b (b4).lt) (Av.of_own o10b (b7).lt) av2c0_2 av2c0_3 av2c0_4 av2c0_7 av7c1_2 av7c1_3 av7c1_4 av7c1_7 (Av.of_own o15 (((((g10.trans g11).trans g12).trans g13).updr (Nat.le_trans (g10).size (Nat.le_refl _)) u14).has b2).lt) (Av.of_own o15 (((((g10.trans g11).trans g12).trans g13).updr (Nat.le_trans (g10).size (Nat.le_refl _)) u14).has b3).lt) (Av.of_own o15 (((((g10.trans g11).trans g12).trans g13).updr (Nat.le_trans (g10).size (Nat.le_refl _)) u14).has b4).lt) (Av.of_own o15 (((((g10.trans g11).trans g12).trans g13).updr (Nat.le_trans (g10).size (Nat.le_refl _)) u14).has b7).lt) ne2_3 ne2_4 ne3_4 ne2_7 ne3_7 ne4_7
 ·replace e := (condF k9).symm.trans e
  refine Runs.step (AH.has.rd0 b3 rfl (asSl_v _)) ?_
  refine Runs.new fun H10 b10 g10 => ?_
  obtain ⟨w11, z11, e⟩ := Option.bind_eq_some_iff.1 e
  obtain ⟨H12, e12, g12⟩ := kdd (n3c0.grow g10) (Nats.of_has1 b10 z11)
  refine Runs.step e12 ?_
  refine Runs.step (seen (kb _ _)) ?_
  refine Runs.cond (fun k13 => ?_) (fun k13 => ?_)
  ·replace e := (condT k13).symm.trans e
   cases e
   cases good
   exact Runs.ret ⟨(⟨none, 0, .is 0⟩ : Sl), rfl, (Nats.nil _), ((g0.trans g10).trans g12), (Own.nil _)⟩
  ·replace e := (condF k13).symm.trans e
   refine Runs.new fun H14 b14 g14 => ?_
   refine Runs.new fun H15 b15 g15 => ?_
   refine Runs.step (AH.has.rd ((((g10.trans g12).trans g14).trans g15).has b4) 0 rfl rfl) ?_
   refine Runs.step (AH.has.rd ((((g10.trans g12).trans g14).trans g15).has b4) 1 rfl (asSl_v _)) ?_
   obtain ⟨s16, H16, e16, n16, g16, o16⟩ := kb0 (n1.grow (((g10.trans g12).trans g14).trans g15)) false
   refine Runs.step e16 ?_
   refine Runs.step rfl ?_
   refine Runs.ifT rfl ?_
   refine Runs.step (seenAt rfl rfl) ?_
   refine Runs.step (seenAt rfl (asSl_v _)) ?_
   refine Runs.when (g16.same ((((g10.trans g12).trans g14).trans g15).has b4) 0 2) ?_
   refine Runs.when (g16.same b15 0 0) ?_
   refine Runs.when (g16.same (g15.has b14) 0 0) ?_
   obtain ⟨_, H17, e17, s17, s17b, rfl, n17, n17b, g17, o17, o17b⟩ := kxa (n4c1.grow ((((g10.trans g12).trans g14).trans g15).trans g16)) n16 p4c0 ((fromI false x1).1)
   refine Runs.step e17 ?_
   refine Runs.step rfl ?_
   refine Runs.step rfl ?_
   refine Runs.ifT rfl ?_
   refine Runs.step (seenAt rfl rfl) ?_
   refine Runs.step (seenAt rfl (asSl_v _)) ?_
   refine Runs.step rfl ?_
   refine Runs.ifT rfl ?_
   refine Runs.step (seenAt rfl rfl) ?_
   refine Runs.step (seenAt rfl (asSl_v _)) ?_
   refine Runs.step (seen (kb _ _)) ?_
   refine Runs.when (g17.same (g16.has b15) 0 0) ?_
   refine Runs.when (g17.same ((g15.trans g16).has b14) 0 0) ?_
   refine Runs.puts (((g15.trans g16).trans g17).has b14) rfl fun H18 b18 u18 => ?_
   have n16_18 := (n16.grow g17).upda (Av.of_own o16 (g15.has b14).lt) u18
   have n17_18 := n17.upda (Av.of_own o17 ((g15.trans g16).has b14).lt) u18
   have n17b_18 := n17b.upda (Av.of_own o17b ((g15.trans g16).has b14).lt) u18
   have b15_18 := AH.has.updr ((g16.trans g17).has b15) (Nat.ne_of_gt (Nat.lt_of_lt_of_le (b14).lt (Nat.le_refl _))) u18
   refine Runs.puts b15_18 rfl fun H19 b19 u19 => ?_
   have n16_19 := n16_18.upda (Av.of_own o16 (b15).lt) u19
   have n17_19 := n17_18.upda (Av.of_own o17 (g16.has b15).lt) u19
   have n17b_19 := n17b_18.upda (Av.of_own o17b (g16.has b15).lt) u19
   have b18_19 := AH.has.updr b18 (Nat.ne_of_lt (Nat.lt_of_lt_of_le (b14).lt (Nat.le_refl _))) u19
   refine Runs.step (AH.has.rd b19 1 rfl (asSl_v _)) ?_
   cases e
   cases good
   exact Runs.ret ⟨s17b, rfl, n17b_19, ((((((((g0.trans g10).trans g12).trans g14).trans g15).trans g16).trans g17).updr (Nat.le_trans (((g0.trans g10).trans g12)).size (Nat.le_refl _)) u18).updr (Nat.le_trans ((((g0.trans g10).trans g12).trans g14)).size (Nat.le_refl _)) u19), (o17b.of_le (((((g0.trans g10).trans g12).trans g14).trans g15).trans g16))⟩
theorem kz4 {s : kf5} {r : kef} (it : Iter kn5 s r) : kkj r s := Iter.ind (fun s o e good => by
 cases s with
 | fn x1 x2 => exact @k3m _ _ x1 x2 e good
 | p7 x1 x2c0 x3c0 p4c0 x4c1 p7c0 x7c1 => exact @k99 _ _ x1 x2c0 x3c0 p4c0 x4c1 p7c0 x7c1 e good
 ) it
inductive koq
 | fn (x1 : List Nat) (x2 : List Nat)
 | p9 (x1 : List Nat) (x2 : List Nat) (x3 : List Nat) (p4c0 : Bool) (x4c1 : List Nat) (p5c0 : Bool) (x5c1 : List Nat)
abbrev kqj := List Nat × Int
noncomputable def kes (x1 : List Nat) (x2 : List Nat) : Option (koq ⊕ kqj) :=
 cond (!(rt x1)) (some (.inr ([], 1))) (cond (!(rt x2)) (some (.inr ([], 1))) ((u64P 2).bind fun p7 => cond (decide ((cmpN x2 (digs B p7)) < 0)) (some (.inr ([], 1))) ((need (List.length x2 ≤ 1073741824)).bind fun c11 => (need (-9223372036854775808 ≤ (1 : Int) ∧ (1 : Int) ≤ 9223372036854775807)).bind fun c15_0 => some (.inl (.p9 x2 x2 ((divN x1 x2).2.1) false [] ((ofI 1).1) ((ofI 1).2))))))
noncomputable def khh (x1 : List Nat) (x2 : List Nat) (x3 : List Nat) (p4c0 : Bool) (x4c1 : List Nat) (p5c0 : Bool) (x5c1 : List Nat) : Option (koq ⊕ kqj) :=
 cond (decide ((List.length x3 : Int) > 0)) (some (.inl (.p9 x1 x3 ((divN x2 x3).2.1) p5c0 x5c1 (((ky p4c0 x4c1 (((kba ((fromI false ((divN x2 x3).1)).1) ((fromI false ((divN x2 x3).1)).2) p5c0 x5c1).1)) ((kba ((fromI false ((divN x2 x3).1)).1) ((fromI false ((divN x2 x3).1)).2) p5c0 x5c1).2.1)).1)) ((ky p4c0 x4c1 (((kba ((fromI false ((divN x2 x3).1)).1) ((fromI false ((divN x2 x3).1)).2) p5c0 x5c1).1)) ((kba ((fromI false ((divN x2 x3).1)).1) ((fromI false ((divN x2 x3).1)).2) p5c0 x5c1).2.1)).2.1)))) ((u64P 1).bind fun p7 => cond (!decide ((cmpN x2 (digs B p7)) = 0)) (some (.inr ([], 6))) (some (.inr ((floorI p4c0 x4c1 ((fromI false x1).1) ((fromI false x1).2)).2.2.2.1, 0))))
noncomputable def ksb : koq → Option (koq ⊕ kqj)
 | .fn x1 x2 => kes x1 x2
 | .p9 x1 x2 x3 p4c0 x4c1 p5c0 x5c1 => khh x1 x2 x3 p4c0 x4c1 p5c0 x5c1
end Go.Ab

/- squeezed -/
set_option linter.unusedVariables false
set_option linter.unusedSimpArgs false
set_option maxRecDepth 10000
namespace Go.Ab
open Go.Proofs Go.Num
theorem kox {a b : Nat} (ha : a < B ^ 64) (hb : b < B ^ 64) : cmpN (digs B a) (digs B b) = cmp a b := by
 unfold cmpN
 rw [if_pos ⟨kn ha, kn hb⟩, kf B2, kf B2]
theorem cmp_eq {a b : Nat} : cmp a b = 0 ↔ a = b := by
 unfold cmp
 by_cases h : a < b
 ·rw [if_pos h]; omega
 ·rw [if_neg h]
  by_cases h2 : a = b
  ·rw [if_pos h2]; omega
  ·rw [if_neg h2]; omega
structure Eu (n A X Y : Nat) (e : Int) (u v : Nat) : Prop where
 sign : e = 1 ∨ e = -1
 sum : u * Y + v * X = n
 ub : u ≤ n
 one : (n : Int) ∣ e * u * A - X
 two : (n : Int) ∣ -(e * v) * A - Y
theorem Eu.vb {n A X Y : Nat} {e : Int} {u v : Nat} (E : Eu n A X Y e u v) (hX : 0 < X) : v ≤ n := by
 have h1 : v * 1 ≤ v * X := Nat.mul_le_mul_left _ hX
 have := E.sum
 omega
theorem Eu.next {n A X Y : Nat} {e : Int} {u v : Nat} (E : Eu n A X Y e u v) (hY : 0 < Y) (hX : 0 < X) : Eu n A Y (X % Y) (-e) v (u + X / Y * v) := by
 have dm := Nat.div_add_mod X Y
 refine ⟨?_, ?_, E.vb hX, ?_, ?_⟩
 ·rcases E.sign with h | h <;> subst h <;> simp
 ·have h := E.sum
  have h1 : v * X = v * (Y * (X / Y)) + v * (X % Y) := by rw [← Nat.mul_add, dm]
  have h2 : v * (Y * (X / Y)) = X / Y * v * Y := by rw [Nat.mul_comm Y, ← Nat.mul_assoc, Nat.mul_comm v]
  rw [Nat.add_mul]
  omega
 ·have := E.two
  rwa [Int.neg_mul e (v : Int)]
 ·have h1 := E.one
  have h2 := Int.dvd_mul_of_dvd_right (b := ((X / Y : Nat) : Int)) E.two
  have h3 := Int.dvd_sub h1 h2
  have e1 : e * (u : Int) * (A : Int) - (X : Int) - ((X / Y : Nat) : Int) * (-(e * (v : Int)) * (A : Int) - (Y : Int)) = -(-e * ((u + X / Y * v : Nat) : Int)) * (A : Int) - ((X % Y : Nat) : Int) := by
   have hX : (X : Int) = (Y : Int) * ((X / Y : Nat) : Int) + ((X % Y : Nat) : Int) := by rw [← Int.natCast_mul, ← Int.natCast_add, dm]
   generalize X / Y = q at *
   generalize X % Y = r at *
   rw [hX, Int.natCast_add, Int.natCast_mul]
   simp only [Int.neg_mul, Int.mul_add, Int.add_mul, Int.mul_sub, Int.mul_neg, Int.neg_neg]
   have a1 : e * ((q : Int) * (v : Int)) * (A : Int) = (q : Int) * (e * (v : Int) * (A : Int)) := by
    rw [← Int.mul_assoc, Int.mul_comm e (q : Int), Int.mul_assoc (q : Int), Int.mul_assoc (q : Int)]
   have a2 : (Y : Int) * (q : Int) = (q : Int) * (Y : Int) := Int.mul_comm _ _
   rw [a1, a2]
   omega
  rwa [e1] at h3
def InvAns (n A X Y : Nat) (r : List Nat × Int) : Prop := (Nat.gcd X Y ≠ 1 → r = ([], 6)) ∧ (Nat.gcd X Y = 1 → ∃ w : Nat, w < n ∧ r = (digs B w, 0) ∧ w * A % n = 1)
theorem k5b {n A : Nat} (hn : n < B ^ 64) (hn2 : 2 ≤ n) : ∀ (Y X : Nat) (e : Int) (u v : Nat), X < B ^ 64 → Y < B ^ 64 → 0 < X → Eu n A X Y e u v →
  ∃ r, Iter kn5 (.p7 (digs B n) (digs B Y) (digs B X) (intD (e * u)).1 (intD (e * u)).2 (intD (-(e * v))).1 (intD (-(e * v))).2) r ∧
   Iter ksb (.p9 (digs B n) (digs B X) (digs B Y) (intD (e * u)).1 (intD (e * u)).2 (intD (-(e * v))).1 (intD (-(e * v))).2) r ∧ InvAns n A X Y r := by
 intro Y
 induction Y using Nat.strongRecOn with
 | ind Y ih =>
  intro X e u v hX hY hX0 E
  have he : e.natAbs = 1 := by rcases E.sign with h | h <;> subst h <;> rfl
  have hu : (e * (u : Int)).natAbs = u := by rw [Int.natAbs_mul, he, Nat.one_mul, Int.natAbs_natCast]
  have hv : (-(e * (v : Int))).natAbs = v := by rw [Int.natAbs_neg, Int.natAbs_mul, he, Nat.one_mul, Int.natAbs_natCast]
  have hvn : v ≤ n := E.vb hX0
  have hun : u ≤ n := E.ub
  have fn : fromI false (digs B n) = intD (n : Int) := by rw [kco hn]; rfl
  have hni : ((n : Int)).natAbs < B ^ 64 := by simpa using hn
  by_cases h0 : Y = 0
  ·subst h0
   have hg : Nat.gcd X 0 = X := Nat.gcd_zero_right X
   have h64 := kot
   have c1 : cmpN (digs B X) [1] = cmp X 1 := by rw [← klh]; exact kox hX (by omega)
   have c2 : cmpN (digs B X) (digs B 1) = cmp X 1 := kox hX (by omega)
   by_cases h1 : X = 1
   ·subst h1
    have hfl := kxs (u := e * (u : Int)) (v := (n : Int)) (by omega) hni (by omega)
    have hw0 := Int.emod_nonneg (e * (u : Int)) (show (n : Int) ≠ 0 by omega)
    have hw1 := Int.emod_lt_of_pos (e * (u : Int)) (show 0 < (n : Int) by omega)
    obtain ⟨w, hw⟩ : ∃ w : Nat, e * (u : Int) % (n : Int) = (w : Int) := ⟨_, (Int.toNat_of_nonneg hw0).symm⟩
    have hdw : (intD (e * (u : Int) % (n : Int))).2 = digs B w := by rw [hw, knr]
    refine ⟨(digs B w, 0), .done ?_, .done ?_, fun h => absurd hg h, fun _ => ⟨w, by omega, rfl, ?_⟩⟩
    ·show ke2 _ _ _ _ _ _ _ = _
     unfold ke2
     rw [kbq, condF (by rfl), khp, Option.bind_some, c1, condF (by rfl), fn, hfl]
     dsimp only
     rw [hdw]
    ·show khh _ _ _ _ _ _ _ = _
     unfold khh
     rw [kbq, condF (by rfl), khp, Option.bind_some, c2, condF (by rfl), fn, hfl]
     dsimp only
     rw [hdw]
    ·have hd := E.one
     have h2 : (e * (u : Int) * (A : Int)) % (n : Int) = 1 := by
      have h3 := Int.emod_eq_emod_iff_emod_sub_eq_zero.2 (Int.emod_eq_zero_of_dvd hd)
      rw [h3]
      exact Int.emod_eq_of_lt (by omega) (by omega)
     have h4 : (w : Int) % (n : Int) = (e * (u : Int)) % (n : Int) := by rw [← hw, Int.emod_emod_of_dvd _ (Int.dvd_refl _)]
     have h5 : ((w * A % n : Nat) : Int) = 1 := by
      rw [Int.natCast_emod, Int.natCast_mul, Int.mul_emod, h4, ← Int.mul_emod]
      exact h2
     omega
   ·refine ⟨([], 6), .done ?_, .done ?_, fun _ => rfl, fun h => absurd (hg.symm.trans h) h1⟩
    ·show ke2 _ _ _ _ _ _ _ = _
     unfold ke2
     rw [kbq, condF (by rfl), khp, Option.bind_some, c1, condT (by rw [Bool.not_eq_true', decide_eq_false_iff_not, cmp_eq]; exact h1)]
    ·show khh _ _ _ _ _ _ _ = _
     unfold khh
     rw [kbq, condF (by rfl), khp, Option.bind_some, c2, condT (by rw [Bool.not_eq_true', decide_eq_false_iff_not, cmp_eq]; exact h1)]
  ·have hY0 : 0 < Y := by omega
   have E' := E.next hY0 hX0
   have hv' := E'.vb hY0
   have hm := Nat.mod_lt X hY0
   have hne : digs B Y ≠ [] := fun h => h0 ((kd6 B2).1 h)
   have hlen : (digs B Y).length ≠ 0 := by simpa using hne
   obtain ⟨r, it1, it2, ans⟩ := ih (X % Y) hm Y (-e) v (u + X / Y * v) hY (by omega) hY0 E'
   have dv : divN (digs B X) (digs B Y) = (digs B (X / Y), digs B (X % Y), 0) := by
    unfold divN
    rw [if_pos ⟨kn hX, kn hY⟩, if_neg hne, kf B2, kf B2]
   have hq : X / Y < B ^ 64 := Nat.lt_of_le_of_lt (Nat.div_le_self _ _) hX
   have fq : fromI false (digs B (X / Y)) = intD ((X / Y : Nat) : Int) := by rw [kco hq]; rfl
   have hqi : (((X / Y : Nat) : Int)).natAbs < B ^ 64 := by rw [Int.natAbs_natCast]; exact hq
   have hp : (((X / Y : Nat) : Int) * -(e * (v : Int))).natAbs = X / Y * v := by rw [Int.natAbs_mul, hv, Int.natAbs_natCast]
   have mul := ku8 hqi (show (-(e * (v : Int))).natAbs < B ^ 64 by omega)
   rw [if_pos (by rw [hp]; omega)] at mul
   have es : e * (u : Int) - ((X / Y : Nat) : Int) * -(e * (v : Int)) = -(-e * ((u + X / Y * v : Nat) : Int)) := by
    generalize X / Y = q
    rw [Int.natCast_add, Int.natCast_mul, Int.neg_mul, Int.neg_neg, Int.mul_add, Int.mul_neg, Int.mul_left_comm e]
    omega
   have hn' : (-(-e * ((u + X / Y * v : Nat) : Int))).natAbs = u + X / Y * v := by
    rw [Int.natAbs_neg, Int.natAbs_mul, Int.natAbs_neg, he, Nat.one_mul, Int.natAbs_natCast]
   have sub := kyx (u := e * (u : Int)) (v := ((X / Y : Nat) : Int) * -(e * (v : Int))) (by omega) (by rw [hp]; omega)
   rw [es, if_pos (by rw [hn']; omega)] at sub
   have et : -(e * (v : Int)) = -e * (v : Int) := by rw [Int.neg_mul]
   refine ⟨r, .next ?_ it1, .next ?_ it2, ?_⟩
   ·show ke2 _ _ _ _ _ _ _ = _
    unfold ke2
    rw [condT (by rw [decide_eq_true_eq]; omega), dv]
    dsimp only
    rw [fq, mul]
    dsimp only
    rw [sub, ← et]
   ·show khh _ _ _ _ _ _ _ = _
    unfold khh
    rw [condT (by rw [decide_eq_true_eq]; omega), dv]
    dsimp only
    rw [fq, mul]
    dsimp only
    rw [sub, ← et]
   ·have hg : Nat.gcd X Y = Nat.gcd Y (X % Y) := by rw [Nat.gcd_comm X Y, Nat.gcd_rec, Nat.gcd_comm]
    unfold InvAns
    rw [hg]
    exact ans
end Go.Ab

/- squeezed -/
set_option linter.unusedVariables false
set_option linter.unusedSimpArgs false
set_option maxRecDepth 10000
namespace Go.Ab
open Go.Proofs Go.Num
def kzg (xs ys : List Nat) (r : List Nat × Int) : Prop :=
 (rt xs = true ∧ rt ys = true ∧ 2 ≤ num B ys → InvAns (num B ys) (num B xs) (num B ys) (num B xs % num B ys) r) ∧ (¬ (rt xs = true ∧ rt ys = true ∧ 2 ≤ num B ys) → r = ([], 1))
theorem k4p {ys : List Nat} (ly : ∀ y ∈ ys, y < B) (t : Trim ys) : ys = digs B (num B ys) := (kdo B2 ly t).symm
theorem kx7 {xs ys : List Nat} (lx : ∀ x ∈ xs, x < B) (ly : ∀ y ∈ ys, y < B) : ∃ r, Iter kn5 (.fn xs ys) r ∧ Iter ksb (.fn xs ys) r ∧ kzg xs ys r := by
 cases hx : rt xs with
 | false =>
  refine ⟨([], 1), .done ?_, .done ?_, fun h => absurd h.1 (by simp [hx]), fun _ => rfl⟩
  ·show kd0 _ _ = _
   unfold kd0
   rw [hx]
   rfl
  ·show kes _ _ = _
   unfold kes
   rw [hx]
   rfl
 | true =>
  cases hy : rt ys with
  | false =>
   refine ⟨([], 1), .done ?_, .done ?_, fun h => absurd h.2.1 (by simp [hy]), fun _ => rfl⟩
   ·show kd0 _ _ = _
    unfold kd0
    rw [hx, hy]
    rfl
   ·show kes _ _ = _
    unfold kes
    rw [hx, hy]
    rfl
  | true =>
   obtain ⟨ly64, ty⟩ := rt_iff.1 hy
   obtain ⟨n, hn⟩ : ∃ n, n = num B ys := ⟨_, rfl⟩
   have hys : ys = digs B n := by rw [hn]; exact k4p ly ty
   have hn64 : n < B ^ 64 := by rw [hn]; exact km7 ly hy
   have h64 := kot
   have c1 : cmpN ys [1] = cmp n 1 := by rw [hys, ← klh]; exact kox hn64 (by omega)
   have c2 : cmpN ys (digs B 2) = cmp n 2 := by rw [hys]; exact kox hn64 (by omega)
   have p2 : u64P 2 = some 2 := kbc (n := 2) (by decide)
   by_cases h2 : 2 ≤ n
   ·have hne : ys ≠ [] := by
     rintro rfl
     simp [num] at hn
     omega
    have hm := Nat.mod_lt (num B xs) (show 0 < n by omega)
    have E0 : Eu n (num B xs) n (num B xs % n) (-1) 0 1 := by
     refine ⟨.inr rfl, by omega, by omega, ?_, ?_⟩
     ·rw [Int.natCast_zero, Int.mul_zero, Int.zero_mul, Int.zero_sub]
      exact Int.dvd_neg.2 (Int.dvd_refl _)
     ·rw [Int.natCast_one, Int.mul_one, Int.neg_neg, Int.one_mul]
      have := Nat.div_add_mod (num B xs) n
      refine ⟨((num B xs / n : Nat) : Int), ?_⟩
      rw [← Int.natCast_mul]
      omega
    obtain ⟨r, it1, it2, ans⟩ := k5b hn64 h2 (num B xs % n) n (-1) 0 1 hn64 (by omega) (by omega) E0
    have dv : (divN xs ys).2.1 = digs B (num B xs % n) := by rw [ksl hx hy hne, hn]
    have e0 : intD (-1 * ((0 : Nat) : Int)) = (false, []) := k2k
    have e1 : intD (-(-1 * ((1 : Nat) : Int))) = ofI 1 := by rw [kbeq (by decide)]; rfl
    rw [e0, e1] at it1 it2
    refine ⟨r, .next ?_ it1, .next ?_ it2, fun _ => by rw [← hn]; exact ans, fun h => absurd ⟨hx, hy, hn ▸ h2⟩ h⟩
    ·show kd0 _ _ = _
     unfold kd0
     rw [hx, hy, condF (by rfl), condF (by rfl), khp, Option.bind_some, c1, condF (by rw [decide_eq_false_iff_not, cmp_le]; omega), ki (by decide), Option.bind_some, dv, ← hys]
    ·show kes _ _ = _
     unfold kes
     rw [hx, hy, condF (by rfl), condF (by rfl), p2, Option.bind_some, c2, condF (by rw [decide_eq_false_iff_not, cmp_lt]; omega), ki (by omega), Option.bind_some, ki (by decide), Option.bind_some, dv, ← hys]
   ·refine ⟨([], 1), .done ?_, .done ?_, fun h => absurd (hn ▸ h.2.2) h2, fun _ => rfl⟩
    ·show kd0 _ _ = _
     unfold kd0
     rw [hx, hy, condF (by rfl), condF (by rfl), khp, Option.bind_some, c1, condT (by rw [decide_eq_true_eq, cmp_le]; omega)]
    ·show kes _ _ = _
     unfold kes
     rw [hx, hy, condF (by rfl), condF (by rfl), p2, Option.bind_some, c2, condT (by rw [decide_eq_true_eq, cmp_lt]; omega)]
noncomputable def invN (xs ys : List Nat) : List Nat × Int := by
 classical
 exact if h : (∀ x ∈ xs, x < B) ∧ (∀ y ∈ ys, y < B) then (kx7 h.1 h.2).choose else ([], 0)
theorem ktd {xs ys : List Nat} (lx : ∀ x ∈ xs, x < B) (ly : ∀ y ∈ ys, y < B) : Iter kn5 (.fn xs ys) (invN xs ys) ∧ Iter ksb (.fn xs ys) (invN xs ys) ∧ kzg xs ys (invN xs ys) := by
 unfold invN
 rw [dif_pos ⟨lx, ly⟩]
 exact (kx7 lx ly).choose_spec
theorem kvm {h : AH} {s t : Sl} {xs ys : List Nat} (n : Nats h s xs) (m : Nats h t ys) : Runs (go (.fn F.ke5 [s.v, t.v]) h) (kq4 h (invN xs ys)) := kz4 (ktd n.lt m.lt).1 n m
end Go.Ab

/- squeezed -/
set_option linter.unusedVariables false
set_option linter.unusedSimpArgs false
set_option maxRecDepth 10000
namespace Go.Ab
open Go.Proofs Go.Num
def Lists (h : AH) (s : Sl) (xss : List (List Nat)) : Prop := ∃ rows : List (Sl × List Nat), Rows h s rows ∧ rows.map (·.2) = xss
theorem Lists.grow {h h' : AH} {s : Sl} {xss : List (List Nat)} (n : Lists h s xss) (g : Grow h h') : Lists h' s xss := by
 obtain ⟨rows, r, e⟩ := n
 exact ⟨rows, r.grow g, e⟩
theorem Lists.len {h : AH} {s : Sl} {xss : List (List Nat)} (n : Lists h s xss) : s.len = xss.length := by
 obtain ⟨rows, r, rfl⟩ := n
 rw [r.len, List.length_map]
def atL (xss : List (List Nat)) (i : Int) : Option (List Nat) := if 0 ≤ i then xss[i.toNat]? else none
theorem Lists.atL {h : AH} {s : Sl} {xss : List (List Nat)} (n : Lists h s xss) {i : Int} {x : List Nat} (q : Go.Ab.atL xss i = some x) : ∃ (r : Ref) (t : Sl), idx s.ref xss.length i 1 = some r ∧ h.cell r = some t.v ∧ Nats h t x := by
 have hl := n.len
 obtain ⟨rows, r, rfl⟩ := n
 unfold Go.Ab.atL at q
 split at q
 ·rename_i h0
  rw [List.getElem?_map, Option.map_eq_some_iff] at q
  obtain ⟨p, e1, rfl⟩ := q
  obtain ⟨hi, rfl⟩ := List.getElem?_eq_some_iff.1 e1
  obtain ⟨r', e2, e3⟩ := r.at hi
  rw [hl, show ((i.toNat : Nat) : Int) = i from by omega] at e2
  exact ⟨r', _, e2, e3, r.each _ (List.getElem_mem _)⟩
 ·cases q
theorem Lists.four {h : AH} {i : Nat} {e : TypeId} {a b c d : Sl} {xa xb xc xd : List Nat} (x : h.has i [a.v, b.v, c.v, d.v] e) (na : Nats h a xa) (nb : Nats h b xb) (nc : Nats h c xc) (nd : Nats h d xd) : Lists h ⟨some (.new i 0), 4, .is 4⟩ [xa, xb, xc, xd] := by
 refine ⟨[(a, xa), (b, xb), (c, xc), (d, xd)], ⟨Cells.of_has x rfl, fun p hp => ?_, by simp⟩, rfl⟩
 simp at hp
 rcases hp with rfl | rfl | rfl | rfl
 ·exact na
 ·exact nb
 ·exact nc
 ·exact nd
end Go.Ab
