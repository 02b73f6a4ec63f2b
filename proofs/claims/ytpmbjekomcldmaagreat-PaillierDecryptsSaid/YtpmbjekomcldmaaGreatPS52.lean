/- squeezed -/
import Derived.Test.YtpmbjekomcldmaaGreatPS36
import Derived.Test.YtpmbjekomcldmaaGreatPAbsQ

set_option linter.unusedVariables false
set_option linter.unusedSimpArgs false
set_option maxRecDepth 10000
namespace Go.Ab
open Go.Proofs Go.Num
inductive kge
 | fn (x1 : List Nat) (x2 : List Nat)
 | p7 (x1 : List Nat) (x2c0 : List Nat) (x3c0 : List Nat) (p4c0 : Bool) (x4c1 : List Nat) (p7c0 : Bool) (x7c1 : List Nat)
abbrev keh := List Nat × Int
noncomputable def kd7 (x1 : List Nat) (x2 : List Nat) : Option (kge ⊕ keh) :=
 cond (!(rt x1)) (some (.inr ([], 1))) (cond (!(rt x2)) (some (.inr ([], 1))) ((u64P 1).bind fun w8 => cond (decide ((cmpN x2 [w8]) ≤ 0)) (some (.inr ([], 1))) ((need (-9223372036854775808 ≤ (1 : Int) ∧ (1 : Int) ≤ 9223372036854775807)).bind fun c16_0 => some (.inl (.p7 x2 ((divN x1 x2).2.1) x2 false [] ((ofI 1).1) ((ofI 1).2))))))
noncomputable def kfh (x1 : List Nat) (x2c0 : List Nat) (x3c0 : List Nat) (p4c0 : Bool) (x4c1 : List Nat) (p7c0 : Bool) (x7c1 : List Nat) : Option (kge ⊕ keh) :=
 cond (decide ((List.length x2c0 : Int) > 0)) (some (.inl (.p7 x1 ((divN x3c0 x2c0).2.1) x2c0 p7c0 x7c1 (((kr p4c0 x4c1 (((kv ((fromI false ((divN x3c0 x2c0).1)).1) ((fromI false ((divN x3c0 x2c0).1)).2) p7c0 x7c1).1)) ((kv ((fromI false ((divN x3c0 x2c0).1)).1) ((fromI false ((divN x3c0 x2c0).1)).2) p7c0 x7c1).2.1)).1)) ((kr p4c0 x4c1 (((kv ((fromI false ((divN x3c0 x2c0).1)).1) ((fromI false ((divN x3c0 x2c0).1)).2) p7c0 x7c1).1)) ((kv ((fromI false ((divN x3c0 x2c0).1)).1) ((fromI false ((divN x3c0 x2c0).1)).2) p7c0 x7c1).2.1)).2.1)))) ((u64P 1).bind fun w11 => cond (!decide ((cmpN x3c0 [w11]) = 0)) (some (.inr ([], 6))) (some (.inr ((floorI p4c0 x4c1 ((fromI false x1).1) ((fromI false x1).2)).2.2.2.1, ((floorI p4c0 x4c1 ((fromI false x1).1) ((fromI false x1).2)).2.2.2.2)))))
noncomputable def kns : kge → Option (kge ⊕ keh)
 | .fn x1 x2 => kd7 x1 x2
 | .p7 x1 x2c0 x3c0 p4c0 x4c1 p7c0 x7c1 => kfh x1 x2c0 x3c0 p4c0 x4c1 p7c0 x7c1
@[reducible] def ksc (h0 : AH) (r : keh) (v : AV) (h' : AH) : Prop := ∃ s1 : Sl, v = .tup [s1.v, .int .i64 r.2] ∧ Nats h' s1 r.1 ∧ Grow h0 h' ∧ Own h0 s1
def kmp (r : keh) : kge → Prop
 | .fn x1 x2 => ∀ {h : AH} {a1 : Sl} {a2 : Sl}, Nats h a1 x1 → Nats h a2 x2 → Runs (go (.fn F.kfl [a1.v, a2.v]) h) (ksc h r)
 | .p7 x1 x2c0 x3c0 p4c0 x4c1 p7c0 x7c1 => ∀ {h0 h : AH} {a1 : Sl} {s2c0 : Sl} {s3c0 : Sl} {s4c1 : Sl} {s7c1 : Sl} {i2 : Nat} {i3 : Nat} {i4 : Nat} {i7 : Nat}, Grow h0 h → Nats h a1 x1 → h.has i2 [s2c0.v] T.kq → Nats h s2c0 x2c0 → h.has i3 [s3c0.v] T.kq → Nats h s3c0 x3c0 → h.has i4 [.bool p4c0, s4c1.v] T.kg → Nats h s4c1 x4c1 → h.has i7 [.bool p7c0, s7c1.v] T.kg → Nats h s7c1 x7c1 → h0.blks.size ≤ i2 → h0.blks.size ≤ i3 → h0.blks.size ≤ i4 → h0.blks.size ≤ i7 → Av a1 i2 x1 → Av a1 i3 x1 → Av a1 i4 x1 → Av a1 i7 x1 → Av s2c0 i2 x2c0 → Av s2c0 i3 x2c0 → Av s2c0 i4 x2c0 → Av s2c0 i7 x2c0 → Av s3c0 i2 x3c0 → Av s3c0 i3 x3c0 → Av s3c0 i4 x3c0 → Av s3c0 i7 x3c0 → Av s4c1 i2 x4c1 → Av s4c1 i3 x4c1 → Av s4c1 i4 x4c1 → Av s4c1 i7 x4c1 → Av s7c1 i2 x7c1 → Av s7c1 i3 x7c1 → Av s7c1 i4 x7c1 → Av s7c1 i7 x7c1 → i2 ≠ i3 → i2 ≠ i4 → i3 ≠ i4 → i2 ≠ i7 → i3 ≠ i7 → i4 ≠ i7 → Runs (go (.pt F.kfl Td.kqr [(1, a1.v), (7, .ptr (some (.new i2 0))), (9, .ptr (some (.new i3 0))), (10, .ptr (some (.new i4 0))), (12, .func (.func F.kj2) [] [.ptr (some (.new i3 0)), .ptr (some (.new i2 0)), .ptr (some (.new i7 0)), .ptr (some (.new i4 0))])]) h) (ksc h0 r)
theorem kbdh {r : keh} {o : kge ⊕ keh} {x1 : List Nat} {x2 : List Nat} (e : kd7 x1 x2 = some o) (good : GoodS (kmp r) r o) : kmp r (.fn x1 x2) := by
 intro h a1 a2 n1 n2
 rw [kbif]
 unfold kd7 at e
 refine Runs.step (kcd n1) ?_
 refine Runs.step (seen rfl) ?_
 refine Runs.cond (fun k4 => ?_) (fun k4 => ?_)
 ·replace e := (condT k4).symm.trans e
  cases e
  cases good
  exact Runs.ret ⟨(⟨none, 0, .is 0⟩ : Sl), rfl, (Nats.nil _), (Grow.refl _), (Own.nil _)⟩
 ·replace e := (condF k4).symm.trans e
  refine Runs.step (kcd n2) ?_
  refine Runs.step (seen rfl) ?_
  refine Runs.cond (fun k6 => ?_) (fun k6 => ?_)
  ·replace e := (condT k6).symm.trans e
   cases e
   cases good
   exact Runs.ret ⟨(⟨none, 0, .is 0⟩ : Sl), rfl, (Nats.nil _), (Grow.refl _), (Own.nil _)⟩
  ·replace e := (condF k6).symm.trans e
   refine Runs.new fun H7 b7 g7 => ?_
   obtain ⟨w8, z8, e⟩ := Option.bind_eq_some_iff.1 e
   obtain ⟨H9, e9, g9⟩ := kc8 (n2.grow g7) (Nats.of_has1 b7 z8)
   refine Runs.step e9 ?_
   refine Runs.step (seen (kb _ _)) ?_
   refine Runs.cond (fun k10 => ?_) (fun k10 => ?_)
   ·replace e := (condT k10).symm.trans e
    cases e
    cases good
    exact Runs.ret ⟨(⟨none, 0, .is 0⟩ : Sl), rfl, (Nats.nil _), (g7.trans g9), (Own.nil _)⟩
   ·replace e := (condF k10).symm.trans e
    obtain ⟨s11, s11b, H11, e11, n11, n11b, g11, o11, o11b⟩ := kfm (n1.grow (g7.trans g9)) (n2.grow (g7.trans g9))
    refine Runs.step e11 ?_
    refine Runs.step rfl ?_
    refine Runs.step (seen (asSl_v _)) ?_
    refine Runs.step (seen (asSl_v _)) ?_
    refine Runs.step (seen (kb _ _)) ?_
    refine Runs.new fun H12 b12 g12 => ?_
    refine Runs.puts b12 rfl fun H13 b13 u13 => ?_
    refine Runs.new fun H14 b14 g14 => ?_
    refine Runs.puts b14 rfl fun H15 b15 u15 => ?_
    obtain ⟨c16_0, q16_0, e⟩ := Option.bind_eq_some_iff.1 e
    obtain ⟨s16, H16, e16, n16, g16, o16⟩ := k8s 1  c16_0.down
    refine Runs.step e16 ?_
    refine Runs.step rfl ?_
    refine Runs.ifT rfl ?_
    refine Runs.step (seenAt rfl rfl) ?_
    refine Runs.step (seenAt rfl (asSl_v _)) ?_
    refine Runs.new fun H17 b17 g17 => ?_
    refine Runs.new fun H18 b18 g18 => ?_
    refine Runs.puts (g18.has b17) rfl fun H19 b19 u19 => ?_
    have b18_19 := AH.has.updr b18 (Nat.ne_of_gt (Nat.lt_of_lt_of_le (b17).lt (Nat.le_refl _))) u19
    refine Runs.puts b18_19 rfl fun H20 b20 u20 => ?_
    have b19_20 := AH.has.updr b19 (Nat.ne_of_lt (Nat.lt_of_lt_of_le (b17).lt (Nat.le_refl _))) u20
    cases e
    exact good (((((((((((g7.trans g9).trans g11).trans g12).updr (Nat.le_trans (((g7.trans g9).trans g11)).size (Nat.le_refl _)) u13).trans g14).updr (Nat.le_trans (((((g7.trans g9).trans g11).trans g12).updr (Nat.le_trans (((g7.trans g9).trans g11)).size (Nat.le_refl _)) u13)).size (Nat.le_refl _)) u15).trans g16).trans g17).trans g18).updr (Nat.le_trans ((((((((g7.trans g9).trans g11).trans g12).updr (Nat.le_trans (((g7.trans g9).trans g11)).size (Nat.le_refl _)) u13).trans g14).updr (Nat.le_trans (((((g7.trans g9).trans g11).trans g12).updr (Nat.le_trans (((g7.trans g9).trans g11)).size (Nat.le_refl _)) u13)).size (Nat.le_refl _)) u15).trans g16)).size (Nat.le_refl _)) u19).updr (Nat.le_trans (((((((((g7.trans g9).trans g11).trans g12).updr (Nat.le_trans (((g7.trans g9).trans g11)).size (Nat.le_refl _)) u13).trans g14).updr (Nat.le_trans (((((g7.trans g9).trans g11).trans g12).updr (Nat.le_trans (((g7.trans g9).trans g11)).size (Nat.le_refl _)) u13)).size (Nat.le_refl _)) u15).trans g16).trans g17)).size (Nat.le_refl _)) u20) (n2.grow (((((((((((g7.trans g9).trans g11).trans g12).updr (Nat.le_trans (((g7.trans g9).trans g11)).size (Nat.le_refl _)) u13).trans g14).updr (Nat.le_trans (((((g7.trans g9).trans g11).trans g12).updr (Nat.le_trans (((g7.trans g9).trans g11)).size (Nat.le_refl _)) u13)).size (Nat.le_refl _)) u15).trans g16).trans g17).trans g18).updr (Nat.le_trans ((((((((g7.trans g9).trans g11).trans g12).updr (Nat.le_trans (((g7.trans g9).trans g11)).size (Nat.le_refl _)) u13).trans g14).updr (Nat.le_trans (((((g7.trans g9).trans g11).trans g12).updr (Nat.le_trans (((g7.trans g9).trans g11)).size (Nat.le_refl _)) u13)).size (Nat.le_refl _)) u15).trans g16)).size (Nat.le_refl _)) u19).updr (Nat.le_trans (((((((((g7.trans g9).trans g11).trans g12).updr (Nat.le_trans (((g7.trans g9).trans g11)).size (Nat.le_refl _)) u13).trans g14).updr (Nat.le_trans (((((g7.trans g9).trans g11).trans g12).updr (Nat.le_trans (((g7.trans g9).trans g11)).size (Nat.le_refl _)) u13)).size (Nat.le_refl _)) u15).trans g16).trans g17)).size (Nat.le_refl _)) u20)) (((((((g14.updr (Nat.le_refl _) u15).trans g16).trans g17).trans g18).updr (Nat.le_trans (((g14.updr (Nat.le_refl _) u15).trans g16)).size (Nat.le_refl _)) u19).updr (Nat.le_trans ((((g14.updr (Nat.le_refl _) u15).trans g16).trans g17)).size (Nat.le_refl _)) u20).has b13) (n11b.grow ((((((((g12.updr (Nat.le_refl _) u13).trans g14).updr (Nat.le_trans ((g12.updr (Nat.le_refl _) u13)).size (Nat.le_refl _)) u15).trans g16).trans g17).trans g18).updr (Nat.le_trans (((((g12.updr (Nat.le_refl _) u13).trans g14).updr (Nat.le_trans ((g12.updr (Nat.le_refl _) u13)).size (Nat.le_refl _)) u15).trans g16)).size (Nat.le_refl _)) u19).updr (Nat.le_trans ((((((g12.updr (Nat.le_refl _) u13).trans g14).updr (Nat.le_trans ((g12.updr (Nat.le_refl _) u13)).size (Nat.le_refl _)) u15).trans g16).trans g17)).size (Nat.le_refl _)) u20)) (((((g16.trans g17).trans g18).updr (Nat.le_trans (g16).size (Nat.le_refl _)) u19).updr (Nat.le_trans ((g16.trans g17)).size (Nat.le_refl _)) u20).has b15) (n2.grow (((((((((((g7.trans g9).trans g11).trans g12).updr (Nat.le_trans (((g7.trans g9).trans g11)).size (Nat.le_refl _)) u13).trans g14).updr (Nat.le_trans (((((g7.trans g9).trans g11).trans g12).updr (Nat.le_trans (((g7.trans g9).trans g11)).size (Nat.le_refl _)) u13)).size (Nat.le_refl _)) u15).trans g16).trans g17).trans g18).updr (Nat.le_trans ((((((((g7.trans g9).trans g11).trans g12).updr (Nat.le_trans (((g7.trans g9).trans g11)).size (Nat.le_refl _)) u13).trans g14).updr (Nat.le_trans (((((g7.trans g9).trans g11).trans g12).updr (Nat.le_trans (((g7.trans g9).trans g11)).size (Nat.le_refl _)) u13)).size (Nat.le_refl _)) u15).trans g16)).size (Nat.le_refl _)) u19).updr (Nat.le_trans (((((((((g7.trans g9).trans g11).trans g12).updr (Nat.le_trans (((g7.trans g9).trans g11)).size (Nat.le_refl _)) u13).trans g14).updr (Nat.le_trans (((((g7.trans g9).trans g11).trans g12).updr (Nat.le_trans (((g7.trans g9).trans g11)).size (Nat.le_refl _)) u13)).size (Nat.le_refl _)) u15).trans g16).trans g17)).size (Nat.le_refl _)) u20)) b19_20 (Nats.nil _) b20 (n16.grow (((g17.trans g18).updr (Nat.le_refl _) u19).updr (Nat.le_trans (g17).size (Nat.le_refl _)) u20)) (Nat.le_trans (((g7.trans g9).trans g11)).size (Nat.le_refl _)) (Nat.le_trans (((((g7.trans g9).trans g11).trans g12).updr (Nat.le_trans (((g7.trans g9).trans g11)).size (Nat.le_refl _)) u13)).size (Nat.le_refl _)) (Nat.le_trans ((((((((g7.trans g9).trans g11).trans g12).updr (Nat.le_trans (((g7.trans g9).trans g11)).size (Nat.le_refl _)) u13).trans g14).updr (Nat.le_trans (((((g7.trans g9).trans g11).trans g12).updr (Nat.le_trans (((g7.trans g9).trans g11)).size (Nat.le_refl _)) u13)).size (Nat.le_refl _)) u15).trans g16)).size (Nat.le_refl _)) (Nat.le_trans (((((((((g7.trans g9).trans g11).trans g12).updr (Nat.le_trans (((g7.trans g9).trans g11)).size (Nat.le_refl _)) u13).trans g14).updr (Nat.le_trans (((((g7.trans g9).trans g11).trans g12).updr (Nat.le_trans (((g7.trans g9).trans g11)).size (Nat.le_refl _)) u13)).size (Nat.le_refl _)) u15).trans g16).trans g17)).size (Nat.le_refl _)) (Av.of_base n2 (Nat.le_trans (((g7.trans g9).trans g11)).size (Nat.le_refl _))) (Av.of_base n2 (Nat.le_trans (((((g7.trans g9).trans g11).trans g12).updr (Nat.le_trans (((g7.trans g9).trans g11)).size (Nat.le_refl _)) u13)).size (Nat.le_refl _))) (Av.of_base n2 (Nat.le_trans ((((((((g7.trans g9).trans g11).trans g12).updr (Nat.le_trans (((g7.trans g9).trans g11)).size (Nat.le_refl _)) u13).trans g14).updr (Nat.le_trans (((((g7.trans g9).trans g11).trans g12).updr (Nat.le_trans (((g7.trans g9).trans g11)).size (Nat.le_refl _)) u13)).size (Nat.le_refl _)) u15).trans g16)).size (Nat.le_refl _))) (Av.of_base n2 (Nat.le_trans (((((((((g7.trans g9).trans g11).trans g12).updr (Nat.le_trans (((g7.trans g9).trans g11)).size (Nat.le_refl _)) u13).trans g14).updr (Nat.le_trans (((((g7.trans g9).trans g11).trans g12).updr (Nat.le_trans (((g7.trans g9).trans g11)).size (Nat.le_refl _)) u13)).size (Nat.le_refl _)) u15).trans g16).trans g17)).size (Nat.le_refl _))) (Av.of_base n11b (Nat.le_refl _)) (Av.of_base n11b (Nat.le_trans ((g12.updr (Nat.le_refl _) u13)).size (Nat.le_refl _))) (Av.of_base n11b (Nat.le_trans (((((g12.updr (Nat.le_refl _) u13).trans g14).updr (Nat.le_trans ((g12.updr (Nat.le_refl _) u13)).size (Nat.le_refl _)) u15).trans g16)).size (Nat.le_refl _))) (Av.of_base n11b (Nat.le_trans ((((((g12.updr (Nat.le_refl _) u13).trans g14).updr (Nat.le_trans ((g12.updr (Nat.le_refl _) u13)).size (Nat.le_refl _)) u15).trans g16).trans g17)).size (Nat.le_refl _))) (Av.of_base n2 (Nat.le_trans (((g7.trans g9).trans g11)).size (Nat.le_refl _))) (Av.of_base n2 (Nat.le_trans (((((g7.trans g9).trans g11).trans g12).updr (Nat.le_trans (((g7.trans g9).trans g11)).size (Nat.le_refl _)) u13)).size (Nat.le_refl _))) (Av.of_base n2 (Nat.le_trans ((((((((g7.trans g9).trans g11).trans g12).updr (Nat.le_trans (((g7.trans g9).trans g11)).size (Nat.le_refl _)) u13).trans g14).updr (Nat.le_trans (((((g7.trans g9).trans g11).trans g12).updr (Nat.le_trans (((g7.trans g9).trans g11)).size (Nat.le_refl _)) u13)).size (Nat.le_refl _)) u15).trans g16)).size (Nat.le_refl _))) (Av.of_base n2 (Nat.le_trans (((((((((g7.trans g9).trans g11).trans g12).updr (Nat.le_trans (((g7.trans g9).trans g11)).size (Nat.le_refl _)) u13).trans g14).updr (Nat.le_trans (((((g7.trans g9).trans g11).trans g12).updr (Nat.le_trans (((g7.trans g9).trans g11)).size (Nat.le_refl _)) u13)).size (Nat.le_refl _)) u15).trans g16).trans g17)).size (Nat.le_refl _))) (Av.nil _ _) (Av.nil _ _) (Av.nil _ _) (Av.nil _ _) (Av.of_own o16 ((g14.updr (Nat.le_refl _) u15).has b13).lt) (Av.of_own o16 (b15).lt) (Av.of_base n16 (Nat.le_refl _)) (Av.of_base n16 (Nat.le_trans (g17).size (Nat.le_refl _))) (Nat.ne_of_lt (Nat.lt_of_lt_of_le (b13).lt (Nat.le_refl _))) (Nat.ne_of_lt (Nat.lt_of_lt_of_le (((g14.updr (Nat.le_refl _) u15).trans g16).has b13).lt (Nat.le_refl _))) (Nat.ne_of_lt (Nat.lt_of_lt_of_le (g16.has b15).lt (Nat.le_refl _))) (Nat.ne_of_lt (Nat.lt_of_lt_of_le ((((g14.updr (Nat.le_refl _) u15).trans g16).trans g17).has b13).lt (Nat.le_refl _))) (Nat.ne_of_lt (Nat.lt_of_lt_of_le ((g16.trans g17).has b15).lt (Nat.le_refl _))) (Nat.ne_of_lt (Nat.lt_of_lt_of_le (b17).lt (Nat.le_refl _)))
theorem kbc7 {r : keh} {o : kge ⊕ keh} {x1 : List Nat} {x2c0 : List Nat} {x3c0 : List Nat} {p4c0 : Bool} {x4c1 : List Nat} {p7c0 : Bool} {x7c1 : List Nat} (e : kfh x1 x2c0 x3c0 p4c0 x4c1 p7c0 x7c1 = some o) (good : GoodS (kmp r) r o) : kmp r (.p7 x1 x2c0 x3c0 p4c0 x4c1 p7c0 x7c1) := by
 intro h0 h a1 s2c0 s3c0 s4c1 s7c1 i2 i3 i4 i7 g0 n1 b2 n2c0 b3 n3c0 b4 n4c1 b7 n7c1 hi2 hi3 hi4 hi7 av1_2 av1_3 av1_4 av1_7 av2c0_2 av2c0_3 av2c0_4 av2c0_7 av3c0_2 av3c0_3 av3c0_4 av3c0_7 av4c1_2 av4c1_3 av4c1_4 av4c1_7 av7c1_2 av7c1_3 av7c1_4 av7c1_7 ne2_3 ne2_4 ne3_4 ne2_7 ne3_7 ne4_7
 rw [k94]
 unfold kfh at e
 refine Runs.step (AH.has.rd0 b2 rfl (asSl_v _)) ?_
 rw [n2c0.len]
 refine Runs.cond (fun k9 => ?_) (fun k9 => ?_)
 ·replace e := (condT k9).symm.trans e
  rw [kbdp]
  refine Runs.stepB (AH.has.rd0 b3 rfl (asSl_v _)) ?_
  refine Runs.stepB (AH.has.rd0 b2 rfl (asSl_v _)) ?_
  obtain ⟨s10, s10b, H10, e10, n10, n10b, g10, o10, o10b⟩ := kfm n3c0 n2c0
  refine Runs.stepB e10 ?_
  refine Runs.stepB rfl ?_
  refine Runs.stepB (seen (asSl_v _)) ?_
  refine Runs.stepB (seen (asSl_v _)) ?_
  refine Runs.stepB (seen (kb _ _)) ?_
  refine Runs.newB fun H11 b11 g11 => ?_
  refine Runs.stepB (AH.has.rd ((g10.trans g11).has b7) 0 rfl rfl) ?_
  refine Runs.stepB (AH.has.rd ((g10.trans g11).has b7) 1 rfl (asSl_v _)) ?_
  obtain ⟨s12, H12, e12, n12, g12, o12⟩ := kb0 (n10.grow g11) false
  refine Runs.stepB e12 ?_
  refine Runs.stepB rfl ?_
  refine Runs.ifTB rfl ?_
  refine Runs.stepB (seenAt rfl rfl) ?_
  refine Runs.stepB (seenAt rfl (asSl_v _)) ?_
  refine Runs.whenB (g12.same ((g10.trans g11).has b7) 0 2) ?_
  refine Runs.whenB (g12.same b11 0 0) ?_
  obtain ⟨_, H13, e13, s13, rfl, n13, g13, o13⟩ := kwq n12 (n7c1.grow ((g10.trans g11).trans g12)) ((fromI false ((divN x3c0 x2c0).1)).1) p7c0
  refine Runs.stepB e13 ?_
  refine Runs.stepB rfl ?_
  refine Runs.stepB rfl ?_
  refine Runs.ifTB rfl ?_
  refine Runs.stepB (seenAt rfl rfl) ?_
  refine Runs.stepB (seenAt rfl (asSl_v _)) ?_
  refine Runs.stepB (seen (kb _ _)) ?_
  refine Runs.whenB (g13.same (g12.has b11) 0 0) ?_
  refine Runs.putsB ((g12.trans g13).has b11) rfl fun H14 b14 u14 => ?_
  have n12_14 := (n12.grow g13).upda (Av.of_own o12 (b11).lt) u14
  have n13_14 := n13.upda (Av.of_own o13 (g12.has b11).lt) u14
  refine Runs.stepB (AH.has.rd (((((g10.trans g11).trans g12).trans g13).updr (Nat.le_trans (g10).size (Nat.le_refl _)) u14).has b4) 0 rfl rfl) ?_
  refine Runs.stepB (AH.has.rd (((((g10.trans g11).trans g12).trans g13).updr (Nat.le_trans (g10).size (Nat.le_refl _)) u14).has b4) 1 rfl (asSl_v _)) ?_
  refine Runs.stepB (AH.has.rd b14 0 rfl rfl) ?_
  refine Runs.stepB (AH.has.rd b14 1 rfl (asSl_v _)) ?_
  obtain ⟨_, H15, e15, s15, rfl, n15, g15, o15⟩ := k1s (n4c1.grow ((((g10.trans g11).trans g12).trans g13).updr (Nat.le_trans (g10).size (Nat.le_refl _)) u14)) n13_14 p4c0 (((kv ((fromI false ((divN x3c0 x2c0).1)).1) ((fromI false ((divN x3c0 x2c0).1)).2) p7c0 x7c1).1))
  refine Runs.stepB e15 ?_
  refine Runs.stepB rfl ?_
  refine Runs.stepB rfl ?_
  refine Runs.ifTB rfl ?_
  refine Runs.stepB (seenAt rfl rfl) ?_
  refine Runs.stepB (seenAt rfl (asSl_v _)) ?_
  refine Runs.stepB (seen (kb _ _)) ?_
  refine Runs.newB fun H16 b16 g16 => ?_
  refine Runs.putsB b16 rfl fun H17 b17 u17 => ?_
  refine Runs.stepB (AH.has.rd0 ((((((((g10.trans g11).trans g12).trans g13).updr (Nat.le_trans (g10).size (Nat.le_refl _)) u14).trans g15).trans g16).updr (Nat.le_trans ((((((g10.trans g11).trans g12).trans g13).updr (Nat.le_trans (g10).size (Nat.le_refl _)) u14).trans g15)).size (Nat.le_refl _)) u17).has b2) rfl (asSl_v _)) ?_
  refine Runs.stepB (AH.has.rd ((((((((g10.trans g11).trans g12).trans g13).updr (Nat.le_trans (g10).size (Nat.le_refl _)) u14).trans g15).trans g16).updr (Nat.le_trans ((((((g10.trans g11).trans g12).trans g13).updr (Nat.le_trans (g10).size (Nat.le_refl _)) u14).trans g15)).size (Nat.le_refl _)) u17).has b7) 0 rfl rfl) ?_
  refine Runs.stepB (AH.has.rd ((((((((g10.trans g11).trans g12).trans g13).updr (Nat.le_trans (g10).size (Nat.le_refl _)) u14).trans g15).trans g16).updr (Nat.le_trans ((((((g10.trans g11).trans g12).trans g13).updr (Nat.le_trans (g10).size (Nat.le_refl _)) u14).trans g15)).size (Nat.le_refl _)) u17).has b7) 1 rfl (asSl_v _)) ?_
  refine Runs.stepB (AH.has.rd b17 0 rfl rfl) ?_
  refine Runs.stepB (AH.has.rd b17 1 rfl (asSl_v _)) ?_
  refine Runs.putsB ((((((((g10.trans g11).trans g12).trans g13).updr (Nat.le_trans (g10).size (Nat.le_refl _)) u14).trans g15).trans g16).updr (Nat.le_trans ((((((g10.trans g11).trans g12).trans g13).updr (Nat.le_trans (g10).size (Nat.le_refl _)) u14).trans g15)).size (Nat.le_refl _)) u17).has b3) rfl fun H18 b18 u18 => ?_
  have n1_18 := (n1.grow (((((((g10.trans g11).trans g12).trans g13).updr (Nat.le_trans (g10).size (Nat.le_refl _)) u14).trans g15).trans g16).updr (Nat.le_trans ((((((g10.trans g11).trans g12).trans g13).updr (Nat.le_trans (g10).size (Nat.le_refl _)) u14).trans g15)).size (Nat.le_refl _)) u17)).upda av1_3 u18
  have n2c0_18 := (n2c0.grow (((((((g10.trans g11).trans g12).trans g13).updr (Nat.le_trans (g10).size (Nat.le_refl _)) u14).trans g15).trans g16).updr (Nat.le_trans ((((((g10.trans g11).trans g12).trans g13).updr (Nat.le_trans (g10).size (Nat.le_refl _)) u14).trans g15)).size (Nat.le_refl _)) u17)).upda av2c0_3 u18
  have n3c0_18 := (n3c0.grow (((((((g10.trans g11).trans g12).trans g13).updr (Nat.le_trans (g10).size (Nat.le_refl _)) u14).trans g15).trans g16).updr (Nat.le_trans ((((((g10.trans g11).trans g12).trans g13).updr (Nat.le_trans (g10).size (Nat.le_refl _)) u14).trans g15)).size (Nat.le_refl _)) u17)).upda av3c0_3 u18
  have n4c1_18 := (n4c1.grow (((((((g10.trans g11).trans g12).trans g13).updr (Nat.le_trans (g10).size (Nat.le_refl _)) u14).trans g15).trans g16).updr (Nat.le_trans ((((((g10.trans g11).trans g12).trans g13).updr (Nat.le_trans (g10).size (Nat.le_refl _)) u14).trans g15)).size (Nat.le_refl _)) u17)).upda av4c1_3 u18
  have n7c1_18 := (n7c1.grow (((((((g10.trans g11).trans g12).trans g13).updr (Nat.le_trans (g10).size (Nat.le_refl _)) u14).trans g15).trans g16).updr (Nat.le_trans ((((((g10.trans g11).trans g12).trans g13).updr (Nat.le_trans (g10).size (Nat.le_refl _)) u14).trans g15)).size (Nat.le_refl _)) u17)).upda av7c1_3 u18
  have n10_18 := (n10.grow ((((((g11.trans g12).trans g13).updr (Nat.le_refl _) u14).trans g15).trans g16).updr (Nat.le_trans (((((g11.trans g12).trans g13).updr (Nat.le_refl _) u14).trans g15)).size (Nat.le_refl _)) u17)).upda (Av.of_own o10 (b3).lt) u18
  have n10b_18 := (n10b.grow ((((((g11.trans g12).trans g13).updr (Nat.le_refl _) u14).trans g15).trans g16).updr (Nat.le_trans (((((g11.trans g12).trans g13).updr (Nat.le_refl _) u14).trans g15)).size (Nat.le_refl _)) u17)).upda (Av.of_own o10b (b3).lt) u18
  have n12_18 := (n12_14.grow ((g15.trans g16).updr (Nat.le_trans (g15).size (Nat.le_refl _)) u17)).upda (Av.of_own o12 ((g10.trans g11).has b3).lt) u18
  have n13_18 := (n13_14.grow ((g15.trans g16).updr (Nat.le_trans (g15).size (Nat.le_refl _)) u17)).upda (Av.of_own o13 (((g10.trans g11).trans g12).has b3).lt) u18
  have n15_18 := (n15.grow (g16.updr (Nat.le_refl _) u17)).upda (Av.of_own o15 (((((g10.trans g11).trans g12).trans g13).updr (Nat.le_trans (g10).size (Nat.le_refl _)) u14).has b3).lt) u18
  have b2_18 := AH.has.updr ((((((((g10.trans g11).trans g12).trans g13).updr (Nat.le_trans (g10).size (Nat.le_refl _)) u14).trans g15).trans g16).updr (Nat.le_trans ((((((g10.trans g11).trans g12).trans g13).updr (Nat.le_trans (g10).size (Nat.le_refl _)) u14).trans g15)).size (Nat.le_refl _)) u17).has b2) ne2_3 u18
  have b4_18 := AH.has.updr ((((((((g10.trans g11).trans g12).trans g13).updr (Nat.le_trans (g10).size (Nat.le_refl _)) u14).trans g15).trans g16).updr (Nat.le_trans ((((((g10.trans g11).trans g12).trans g13).updr (Nat.le_trans (g10).size (Nat.le_refl _)) u14).trans g15)).size (Nat.le_refl _)) u17).has b4) (Ne.symm ne3_4) u18
  have b7_18 := AH.has.updr ((((((((g10.trans g11).trans g12).trans g13).updr (Nat.le_trans (g10).size (Nat.le_refl _)) u14).trans g15).trans g16).updr (Nat.le_trans ((((((g10.trans g11).trans g12).trans g13).updr (Nat.le_trans (g10).size (Nat.le_refl _)) u14).trans g15)).size (Nat.le_refl _)) u17).has b7) (Ne.symm ne3_7) u18
  have b14_18 := AH.has.updr (((g15.trans g16).updr (Nat.le_trans (g15).size (Nat.le_refl _)) u17).has b14) (Nat.ne_of_gt (Nat.lt_of_lt_of_le (g10.has b3).lt (Nat.le_refl _))) u18
  have b17_18 := AH.has.updr b17 (Nat.ne_of_gt (Nat.lt_of_lt_of_le ((((((g10.trans g11).trans g12).trans g13).updr (Nat.le_trans (g10).size (Nat.le_refl _)) u14).trans g15).has b3).lt (Nat.le_refl _))) u18
  refine Runs.whenB (km9 b17 b17_18 0 2) ?_
  refine Runs.whenB (km9 ((((((((g10.trans g11).trans g12).trans g13).updr (Nat.le_trans (g10).size (Nat.le_refl _)) u14).trans g15).trans g16).updr (Nat.le_trans ((((((g10.trans g11).trans g12).trans g13).updr (Nat.le_trans (g10).size (Nat.le_refl _)) u14).trans g15)).size (Nat.le_refl _)) u17).has b7) b7_18 0 2) ?_
  refine Runs.putsB b2_18 rfl fun H19 b19 u19 => ?_
  have n1_19 := n1_18.upda av1_2 u19
  have n2c0_19 := n2c0_18.upda av2c0_2 u19
  have n3c0_19 := n3c0_18.upda av3c0_2 u19
  have n4c1_19 := n4c1_18.upda av4c1_2 u19
  have n7c1_19 := n7c1_18.upda av7c1_2 u19
  have n10_19 := n10_18.upda (Av.of_own o10 (b2).lt) u19
  have n10b_19 := n10b_18.upda (Av.of_own o10b (b2).lt) u19
  have n12_19 := n12_18.upda (Av.of_own o12 ((g10.trans g11).has b2).lt) u19
  have n13_19 := n13_18.upda (Av.of_own o13 (((g10.trans g11).trans g12).has b2).lt) u19
  have n15_19 := n15_18.upda (Av.of_own o15 (((((g10.trans g11).trans g12).trans g13).updr (Nat.le_trans (g10).size (Nat.le_refl _)) u14).has b2).lt) u19
  have b18_19 := AH.has.updr b18 (Ne.symm ne2_3) u19
  have b4_19 := AH.has.updr b4_18 (Ne.symm ne2_4) u19
  have b7_19 := AH.has.updr b7_18 (Ne.symm ne2_7) u19
  have b14_19 := AH.has.updr b14_18 (Nat.ne_of_gt (Nat.lt_of_lt_of_le (g10.has b2).lt (Nat.le_refl _))) u19
  have b17_19 := AH.has.updr b17_18 (Nat.ne_of_gt (Nat.lt_of_lt_of_le ((((((g10.trans g11).trans g12).trans g13).updr (Nat.le_trans (g10).size (Nat.le_refl _)) u14).trans g15).has b2).lt (Nat.le_refl _))) u19
  refine Runs.whenB (km9 b17_18 b17_19 0 2) ?_
  refine Runs.whenB (km9 b7_18 b7_19 0 2) ?_
  refine Runs.putsB b4_19 rfl fun H20 b20 u20 => ?_
  have n1_20 := n1_19.upda av1_4 u20
  have n2c0_20 := n2c0_19.upda av2c0_4 u20
  have n3c0_20 := n3c0_19.upda av3c0_4 u20
  have n4c1_20 := n4c1_19.upda av4c1_4 u20
  have n7c1_20 := n7c1_19.upda av7c1_4 u20
  have n10_20 := n10_19.upda (Av.of_own o10 (b4).lt) u20
  have n10b_20 := n10b_19.upda (Av.of_own o10b (b4).lt) u20
  have n12_20 := n12_19.upda (Av.of_own o12 ((g10.trans g11).has b4).lt) u20
  have n13_20 := n13_19.upda (Av.of_own o13 (((g10.trans g11).trans g12).has b4).lt) u20
  have n15_20 := n15_19.upda (Av.of_own o15 (((((g10.trans g11).trans g12).trans g13).updr (Nat.le_trans (g10).size (Nat.le_refl _)) u14).has b4).lt) u20
  have b19_20 := AH.has.updr b19 ne2_4 u20
  have b18_20 := AH.has.updr b18_19 ne3_4 u20
  have b7_20 := AH.has.updr b7_19 (Ne.symm ne4_7) u20
  have b14_20 := AH.has.updr b14_19 (Nat.ne_of_gt (Nat.lt_of_lt_of_le (g10.has b4).lt (Nat.le_refl _))) u20
  have b17_20 := AH.has.updr b17_19 (Nat.ne_of_gt (Nat.lt_of_lt_of_le ((((((g10.trans g11).trans g12).trans g13).updr (Nat.le_trans (g10).size (Nat.le_refl _)) u14).trans g15).has b4).lt (Nat.le_refl _))) u20
  refine Runs.whenB (km9 b17_19 b17_20 0 2) ?_
  refine Runs.putsB b7_20 rfl fun H21 b21 u21 => ?_
  have n1_21 := n1_20.upda av1_7 u21
  have n2c0_21 := n2c0_20.upda av2c0_7 u21
  have n3c0_21 := n3c0_20.upda av3c0_7 u21
  have n4c1_21 := n4c1_20.upda av4c1_7 u21
  have n7c1_21 := n7c1_20.upda av7c1_7 u21
  have n10_21 := n10_20.upda (Av.of_own o10 (b7).lt) u21
  have n10b_21 := n10b_20.upda (Av.of_own o10b (b7).lt) u21
  have n12_21 := n12_20.upda (Av.of_own o12 ((g10.trans g11).has b7).lt) u21
  have n13_21 := n13_20.upda (Av.of_own o13 (((g10.trans g11).trans g12).has b7).lt) u21
  have n15_21 := n15_20.upda (Av.of_own o15 (((((g10.trans g11).trans g12).trans g13).updr (Nat.le_trans (g10).size (Nat.le_refl _)) u14).has b7).lt) u21
  have b19_21 := AH.has.updr b19_20 ne2_7 u21
  have b18_21 := AH.has.updr b18_20 ne3_7 u21
  have b20_21 := AH.has.updr b20 ne4_7 u21
  have b14_21 := AH.has.updr b14_20 (Nat.ne_of_gt (Nat.lt_of_lt_of_le (g10.has b7).lt (Nat.le_refl _))) u21
  have b17_21 := AH.has.updr b17_20 (Nat.ne_of_gt (Nat.lt_of_lt_of_le ((((((g10.trans g11).trans g12).trans g13).updr (Nat.le_trans (g10).size (Nat.le_refl _)) u14).trans g15).has b7).lt (Nat.le_refl _))) u21
  refine Runs.retB ?_
  refine Runs.step rfl ?_
  cases e
  exact good ((((((((((((g0.trans g10).trans g11).trans g12).trans g13).updr (Nat.le_trans ((g0.trans g10)).size (Nat.le_refl _)) u14).trans g15).trans g16).updr (Nat.le_trans (((((((g0.trans g10).trans g11).trans g12).trans g13).updr (Nat.le_trans ((g0.trans g10)).size (Nat.le_refl _)) u14).trans g15)).size (Nat.le_refl _)) u17).updr hi3 u18).updr hi2 u19).updr hi4 u20).updr hi7 u21) n1_21 b19_21 n10b_21 b18_21 n2c0_21 b20_21 n7c1_21 b21 n15_21 hi2 hi3 hi4 hi7 av1_2 av1_3 av1_4 av1_7 (Av.of_own o10b (b2).lt) (Av.of_own o10b (b3).lt) (Av.of_own o10b (b4).lt) (Av.of_own o10b (b7).lt) av2c0_2 av2c0_3 av2c0_4 av2c0_7 av7c1_2 av7c1_3 av7c1_4 av7c1_7 (Av.of_own o15 (((((g10.trans g11).trans g12).trans g13).updr (Nat.le_trans (g10).size (Nat.le_refl _)) u14).has b2).lt) (Av.of_own o15 (((((g10.trans g11).trans g12).trans g13).updr (Nat.le_trans (g10).size (Nat.le_refl _)) u14).has b3).lt) (Av.of_own o15 (((((g10.trans g11).trans g12).trans g13).updr (Nat.le_trans (g10).size (Nat.le_refl _)) u14).has b4).lt) (Av.of_own o15 (((((g10.trans g11).trans g12).trans g13).updr (Nat.le_trans (g10).size (Nat.le_refl _)) u14).has b7).lt) ne2_3 ne2_4 ne3_4 ne2_7 ne3_7 ne4_7
 ·replace e := (condF k9).symm.trans e
  refine Runs.step (AH.has.rd0 b3 rfl (asSl_v _)) ?_
  refine Runs.new fun H10 b10 g10 => ?_
  obtain ⟨w11, z11, e⟩ := Option.bind_eq_some_iff.1 e
  obtain ⟨H12, e12, g12⟩ := kc8 (n3c0.grow g10) (Nats.of_has1 b10 z11)
  refine Runs.step e12 ?_
  refine Runs.step (seen (kb _ _)) ?_
  refine Runs.cond (fun k13 => ?_) (fun k13 => ?_)
  ·replace e := (condT k13).symm.trans e
   cases e
   cases good
   exact Runs.ret ⟨(⟨none, 0, .is 0⟩ : Sl), rfl, (Nats.nil _), ((g0.trans g10).trans g12), (Own.nil _)⟩
  ·replace e := (condF k13).symm.trans e
   refine Runs.new fun H14 b14 g14 => ?_
   refine Runs.new fun H15 b15 g15 => ?_
   refine Runs.step (AH.has.rd ((((g10.trans g12).trans g14).trans g15).has b4) 0 rfl rfl) ?_
   refine Runs.step (AH.has.rd ((((g10.trans g12).trans g14).trans g15).has b4) 1 rfl (asSl_v _)) ?_
   obtain ⟨s16, H16, e16, n16, g16, o16⟩ := kb0 (n1.grow (((g10.trans g12).trans g14).trans g15)) false
   refine Runs.step e16 ?_
   refine Runs.step rfl ?_
   refine Runs.ifT rfl ?_
   refine Runs.step (seenAt rfl rfl) ?_
   refine Runs.step (seenAt rfl (asSl_v _)) ?_
   refine Runs.when (g16.same ((((g10.trans g12).trans g14).trans g15).has b4) 0 2) ?_
   refine Runs.when (g16.same b15 0 0) ?_
   refine Runs.when (g16.same (g15.has b14) 0 0) ?_
   obtain ⟨_, H17, e17, s17, s17b, rfl, n17, n17b, g17, o17, o17b⟩ := kxz (n4c1.grow ((((g10.trans g12).trans g14).trans g15).trans g16)) n16 p4c0 ((fromI false x1).1)
   refine Runs.step e17 ?_
   refine Runs.step rfl ?_
   refine Runs.step rfl ?_
   refine Runs.ifT rfl ?_
   refine Runs.step (seenAt rfl rfl) ?_
   refine Runs.step (seenAt rfl (asSl_v _)) ?_
   refine Runs.step rfl ?_
   refine Runs.ifT rfl ?_
   refine Runs.step (seenAt rfl rfl) ?_
   refine Runs.step (seenAt rfl (asSl_v _)) ?_
   refine Runs.step (seen (kb _ _)) ?_
   refine Runs.when (g17.same (g16.has b15) 0 0) ?_
   refine Runs.when (g17.same ((g15.trans g16).has b14) 0 0) ?_
   refine Runs.puts (((g15.trans g16).trans g17).has b14) rfl fun H18 b18 u18 => ?_
   have n16_18 := (n16.grow g17).upda (Av.of_own o16 (g15.has b14).lt) u18
   have n17_18 := n17.upda (Av.of_own o17 ((g15.trans g16).has b14).lt) u18
   have n17b_18 := n17b.upda (Av.of_own o17b ((g15.trans g16).has b14).lt) u18
   have b15_18 := AH.has.updr ((g16.trans g17).has b15) (Nat.ne_of_gt (Nat.lt_of_lt_of_le (b14).lt (Nat.le_refl _))) u18
   refine Runs.puts b15_18 rfl fun H19 b19 u19 => ?_
   have n16_19 := n16_18.upda (Av.of_own o16 (b15).lt) u19
   have n17_19 := n17_18.upda (Av.of_own o17 (g16.has b15).lt) u19
   have n17b_19 := n17b_18.upda (Av.of_own o17b (g16.has b15).lt) u19
   have b18_19 := AH.has.updr b18 (Nat.ne_of_lt (Nat.lt_of_lt_of_le (b14).lt (Nat.le_refl _))) u19
   refine Runs.step (AH.has.rd b19 1 rfl (asSl_v _)) ?_
   cases e
   cases good
   exact Runs.ret ⟨s17b, rfl, n17b_19, ((((((((g0.trans g10).trans g12).trans g14).trans g15).trans g16).trans g17).updr (Nat.le_trans (((g0.trans g10).trans g12)).size (Nat.le_refl _)) u18).updr (Nat.le_trans ((((g0.trans g10).trans g12).trans g14)).size (Nat.le_refl _)) u19), (o17b.of_le (((((g0.trans g10).trans g12).trans g14).trans g15).trans g16))⟩
theorem kbcs {s : kge} {r : keh} (it : Iter kns s r) : kmp r s := Iter.ind (fun s o e good => by
 cases s with
 | fn x1 x2 => exact @kbdh _ _ x1 x2 e good
 | p7 x1 x2c0 x3c0 p4c0 x4c1 p7c0 x7c1 => exact @kbc7 _ _ x1 x2c0 x3c0 p4c0 x4c1 p7c0 x7c1 e good
 ) it
inductive kf6
 | fn (x1 : List Nat) (x2 : List Nat)
 | p9 (x1 : List Nat) (x2 : List Nat) (x3 : List Nat) (p4c0 : Bool) (x4c1 : List Nat) (p5c0 : Bool) (x5c1 : List Nat)
abbrev kej := List Nat × Int
noncomputable def kd3 (x1 : List Nat) (x2 : List Nat) : Option (kf6 ⊕ kej) :=
 cond (!(rt x1)) (some (.inr ([], 1))) (cond (!(rt x2)) (some (.inr ([], 1))) ((u64P 2).bind fun p7 => cond (decide ((cmpN x2 (digs B p7)) < 0)) (some (.inr ([], 1))) ((need (List.length x2 ≤ 1073741824)).bind fun c11 => (need (-9223372036854775808 ≤ (1 : Int) ∧ (1 : Int) ≤ 9223372036854775807)).bind fun c15_0 => some (.inl (.p9 x2 x2 ((divN x1 x2).2.1) false [] ((ofI 1).1) ((ofI 1).2))))))
noncomputable def kfo (x1 : List Nat) (x2 : List Nat) (x3 : List Nat) (p4c0 : Bool) (x4c1 : List Nat) (p5c0 : Bool) (x5c1 : List Nat) : Option (kf6 ⊕ kej) :=
 cond (decide ((List.length x3 : Int) > 0)) (some (.inl (.p9 x1 x3 ((divN x2 x3).2.1) p5c0 x5c1 (((kr p4c0 x4c1 (((kv ((fromI false ((divN x2 x3).1)).1) ((fromI false ((divN x2 x3).1)).2) p5c0 x5c1).1)) ((kv ((fromI false ((divN x2 x3).1)).1) ((fromI false ((divN x2 x3).1)).2) p5c0 x5c1).2.1)).1)) ((kr p4c0 x4c1 (((kv ((fromI false ((divN x2 x3).1)).1) ((fromI false ((divN x2 x3).1)).2) p5c0 x5c1).1)) ((kv ((fromI false ((divN x2 x3).1)).1) ((fromI false ((divN x2 x3).1)).2) p5c0 x5c1).2.1)).2.1)))) ((u64P 1).bind fun p7 => cond (!decide ((cmpN x2 (digs B p7)) = 0)) (some (.inr ([], 6))) (some (.inr ((floorI p4c0 x4c1 ((fromI false x1).1) ((fromI false x1).2)).2.2.2.1, 0))))
noncomputable def kod : kf6 → Option (kf6 ⊕ kej)
 | .fn x1 x2 => kd3 x1 x2
 | .p9 x1 x2 x3 p4c0 x4c1 p5c0 x5c1 => kfo x1 x2 x3 p4c0 x4c1 p5c0 x5c1
@[reducible] def ksb (h0 : AH) (r : kej) (v : AV) (h' : AH) : Prop := ∃ s1 : Sl, v = .tup [s1.v, .int .i64 r.2] ∧ Nats h' s1 r.1 ∧ Grow h0 h' ∧ Own h0 s1
def km7 (r : kej) : kf6 → Prop
 | .fn x1 x2 => ∀ {h : AH} {a1 : Sl} {a2 : Sl}, Nats h a1 x1 → Nats h a2 x2 → Runs (go (.fn F.kg5 [a1.v, a2.v]) h) (ksb h r)
 | .p9 x1 x2 x3 p4c0 x4c1 p5c0 x5c1 => ∀ {h0 h : AH} {a1 : Sl} {a2 : Sl} {a3 : Sl} {s4c1 : Sl} {s5c1 : Sl} {i4 : Nat} {i5 : Nat}, Grow h0 h → Nats h a1 x1 → Nats h a2 x2 → Nats h a3 x3 → h.has i4 [.bool p4c0, s4c1.v] T.kg → Nats h s4c1 x4c1 → h.has i5 [.bool p5c0, s5c1.v] T.kg → Nats h s5c1 x5c1 → h0.blks.size ≤ i4 → h0.blks.size ≤ i5 → Av a1 i4 x1 → Av a1 i5 x1 → Av a2 i4 x2 → Av a2 i5 x2 → Av a3 i4 x3 → Av a3 i5 x3 → Av s4c1 i4 x4c1 → Av s4c1 i5 x4c1 → Av s5c1 i4 x5c1 → Av s5c1 i5 x5c1 → i4 ≠ i5 → Runs (go (.pt F.kg5 Td.kqi [(1, a1.v), (8, a2.v), (9, a3.v), (10, .ptr (some (.new i4 0))), (11, .ptr (some (.new i5 0)))]) h) (ksb h0 r)
theorem k3p {r : kej} {o : kf6 ⊕ kej} {x1 : List Nat} {x2 : List Nat} (e : kd3 x1 x2 = some o) (good : GoodS (km7 r) r o) : km7 r (.fn x1 x2) := by
 intro h a1 a2 n1 n2
 rw [kbdm]
 unfold kd3 at e
 refine Runs.step (kbr n1) ?_
 refine Runs.step (seen rfl) ?_
 refine Runs.step (kbr n2) ?_
 refine Runs.step (seen rfl) ?_
 refine Runs.cond (fun k5 => ?_) (fun k5 => ?_)
 ·replace e := (condT k5).symm.trans e
  cases e
  cases good
  exact Runs.ret ⟨(⟨none, 0, .is 0⟩ : Sl), rfl, (Nats.nil _), (Grow.refl _), (Own.nil _)⟩
 ·replace e := (condF k5).symm.trans e
  refine Runs.cond (fun k6 => ?_) (fun k6 => ?_)
  ·replace e := (condT k6).symm.trans e
   cases e
   cases good
   exact Runs.ret ⟨(⟨none, 0, .is 0⟩ : Sl), rfl, (Nats.nil _), (Grow.refl _), (Own.nil _)⟩
  ·replace e := (condF k6).symm.trans e
   obtain ⟨p7, q7, e⟩ := Option.bind_eq_some_iff.1 e
   obtain ⟨s7, H7, e7, n7, g7, o7⟩ := kcv q7
   refine Runs.step e7 ?_
   refine Runs.step (seen (asSl_v _)) ?_
   obtain ⟨H8, e8, g8⟩ := kk5 (n2.grow g7) n7
   refine Runs.step e8 ?_
   refine Runs.step (seen (kb _ _)) ?_
   refine Runs.cond (fun k9 => ?_) (fun k9 => ?_)
   ·replace e := (condT k9).symm.trans e
    cases e
    cases good
    exact Runs.ret ⟨(⟨none, 0, .is 0⟩ : Sl), rfl, (Nats.nil _), (g7.trans g8), (Own.nil _)⟩
   ·replace e := (condF k9).symm.trans e
    refine Runs.new fun H10 b10 g10 => ?_
    refine Runs.step (knu (n2.grow ((g7.trans g8).trans g10))) ?_
    obtain ⟨c11, q11, e⟩ := Option.bind_eq_some_iff.1 e
    obtain ⟨s11, H11, e11, n11, g11, o11⟩ := kua b10 (n2.grow ((g7.trans g8).trans g10)) g10 (Nat.le_refl _) c11.down
    refine Runs.step e11 ?_
    refine Runs.step (asSl_v _) ?_
    obtain ⟨s12, H12, e12, n12, g12, o12⟩ := krm (n1.grow (((g7.trans g8).trans g10).trans g11)) (n2.grow (((g7.trans g8).trans g10).trans g11))
    refine Runs.step e12 ?_
    refine Runs.step (seen (asSl_v _)) ?_
    refine Runs.new fun H13 b13 g13 => ?_
    refine Runs.puts b13 rfl fun H14 b14 u14 => ?_
    obtain ⟨c15_0, q15_0, e⟩ := Option.bind_eq_some_iff.1 e
    obtain ⟨s15, H15, e15, n15, g15, o15⟩ := kba2 1  c15_0.down
    refine Runs.step e15 ?_
    refine Runs.step rfl ?_
    refine Runs.ifT rfl ?_
    refine Runs.step (seenAt rfl rfl) ?_
    refine Runs.step (seenAt rfl (asSl_v _)) ?_
    refine Runs.new fun H16 b16 g16 => ?_
    refine Runs.puts b16 rfl fun H17 b17 u17 => ?_
    cases e
    exact good (((((((((g7.trans g8).trans g10).trans g11).trans g12).trans g13).updr (Nat.le_trans (((((g7.trans g8).trans g10).trans g11).trans g12)).size (Nat.le_refl _)) u14).trans g15).trans g16).updr (Nat.le_trans ((((((((g7.trans g8).trans g10).trans g11).trans g12).trans g13).updr (Nat.le_trans (((((g7.trans g8).trans g10).trans g11).trans g12)).size (Nat.le_refl _)) u14).trans g15)).size (Nat.le_refl _)) u17) (n2.grow (((((((((g7.trans g8).trans g10).trans g11).trans g12).trans g13).updr (Nat.le_trans (((((g7.trans g8).trans g10).trans g11).trans g12)).size (Nat.le_refl _)) u14).trans g15).trans g16).updr (Nat.le_trans ((((((((g7.trans g8).trans g10).trans g11).trans g12).trans g13).updr (Nat.le_trans (((((g7.trans g8).trans g10).trans g11).trans g12)).size (Nat.le_refl _)) u14).trans g15)).size (Nat.le_refl _)) u17)) (n11.grow (((((g12.trans g13).updr (Nat.le_trans (g12).size (Nat.le_refl _)) u14).trans g15).trans g16).updr (Nat.le_trans ((((g12.trans g13).updr (Nat.le_trans (g12).size (Nat.le_refl _)) u14).trans g15)).size (Nat.le_refl _)) u17)) (n12.grow ((((g13.updr (Nat.le_refl _) u14).trans g15).trans g16).updr (Nat.le_trans (((g13.updr (Nat.le_refl _) u14).trans g15)).size (Nat.le_refl _)) u17)) (((g15.trans g16).updr (Nat.le_trans (g15).size (Nat.le_refl _)) u17).has b14) (Nats.nil _) b17 (n15.grow (g16.updr (Nat.le_refl _) u17)) (Nat.le_trans (((((g7.trans g8).trans g10).trans g11).trans g12)).size (Nat.le_refl _)) (Nat.le_trans ((((((((g7.trans g8).trans g10).trans g11).trans g12).trans g13).updr (Nat.le_trans (((((g7.trans g8).trans g10).trans g11).trans g12)).size (Nat.le_refl _)) u14).trans g15)).size (Nat.le_refl _)) (Av.of_base n2 (Nat.le_trans (((((g7.trans g8).trans g10).trans g11).trans g12)).size (Nat.le_refl _))) (Av.of_base n2 (Nat.le_trans ((((((((g7.trans g8).trans g10).trans g11).trans g12).trans g13).updr (Nat.le_trans (((((g7.trans g8).trans g10).trans g11).trans g12)).size (Nat.le_refl _)) u14).trans g15)).size (Nat.le_refl _))) (Av.of_base n11 (Nat.le_trans (g12).size (Nat.le_refl _))) (Av.of_base n11 (Nat.le_trans ((((g12.trans g13).updr (Nat.le_trans (g12).size (Nat.le_refl _)) u14).trans g15)).size (Nat.le_refl _))) (Av.of_base n12 (Nat.le_refl _)) (Av.of_base n12 (Nat.le_trans (((g13.updr (Nat.le_refl _) u14).trans g15)).size (Nat.le_refl _))) (Av.nil _ _) (Av.nil _ _) (Av.of_own o15 (b14).lt) (Av.of_base n15 (Nat.le_refl _)) (Nat.ne_of_lt (Nat.lt_of_lt_of_le (g15.has b14).lt (Nat.le_refl _)))
theorem kbav {r : kej} {o : kf6 ⊕ kej} {x1 : List Nat} {x2 : List Nat} {x3 : List Nat} {p4c0 : Bool} {x4c1 : List Nat} {p5c0 : Bool} {x5c1 : List Nat} (e : kfo x1 x2 x3 p4c0 x4c1 p5c0 x5c1 = some o) (good : GoodS (km7 r) r o) : km7 r (.p9 x1 x2 x3 p4c0 x4c1 p5c0 x5c1) := by
 intro h0 h a1 a2 a3 s4c1 s5c1 i4 i5 g0 n1 n2 n3 b4 n4c1 b5 n5c1 hi4 hi5 av1_4 av1_5 av2_4 av2_5 av3_4 av3_5 av4c1_4 av4c1_5 av5c1_4 av5c1_5 ne4_5
 rw [k1v]
 unfold kfo at e
 rw [n3.len]
 refine Runs.cond (fun k6 => ?_) (fun k6 => ?_)
 ·replace e := (condT k6).symm.trans e
  obtain ⟨s7, s7b, H7, e7, n7, n7b, g7, o7, o7b⟩ := kpz n2 n3
  refine Runs.step e7 ?_
  refine Runs.step rfl ?_
  refine Runs.step (seen (asSl_v _)) ?_
  refine Runs.step (seen (asSl_v _)) ?_
  refine Runs.step (seen (kb _ _)) ?_
  refine Runs.new fun H8 b8 g8 => ?_
  refine Runs.step (AH.has.rd ((g7.trans g8).has b5) 0 rfl rfl) ?_
  refine Runs.step (AH.has.rd ((g7.trans g8).has b5) 1 rfl (asSl_v _)) ?_
  obtain ⟨s9, H9, e9, n9, g9, o9⟩ := kc1 (n7.grow g8) false
  refine Runs.step e9 ?_
  refine Runs.step rfl ?_
  refine Runs.ifT rfl ?_
  refine Runs.step (seenAt rfl rfl) ?_
  refine Runs.step (seenAt rfl (asSl_v _)) ?_
  refine Runs.when (g9.same ((g7.trans g8).has b5) 0 2) ?_
  refine Runs.when (g9.same b8 0 0) ?_
  obtain ⟨_, H10, e10, s10, rfl, n10, g10, o10⟩ := kbcz n9 (n5c1.grow ((g7.trans g8).trans g9)) ((fromI false ((divN x2 x3).1)).1) p5c0
  refine Runs.step e10 ?_
  refine Runs.step rfl ?_
  refine Runs.step rfl ?_
  refine Runs.ifT rfl ?_
  refine Runs.step (seenAt rfl rfl) ?_
  refine Runs.step (seenAt rfl (asSl_v _)) ?_
  refine Runs.step (seen (kb _ _)) ?_
  refine Runs.when (g10.same (g9.has b8) 0 0) ?_
  refine Runs.puts ((g9.trans g10).has b8) rfl fun H11 b11 u11 => ?_
  have n9_11 := (n9.grow g10).upda (Av.of_own o9 (b8).lt) u11
  have n10_11 := n10.upda (Av.of_own o10 (g9.has b8).lt) u11
  refine Runs.step (AH.has.rd (((((g7.trans g8).trans g9).trans g10).updr (Nat.le_trans (g7).size (Nat.le_refl _)) u11).has b4) 0 rfl rfl) ?_
  refine Runs.step (AH.has.rd (((((g7.trans g8).trans g9).trans g10).updr (Nat.le_trans (g7).size (Nat.le_refl _)) u11).has b4) 1 rfl (asSl_v _)) ?_
  refine Runs.step (AH.has.rd b11 0 rfl rfl) ?_
  refine Runs.step (AH.has.rd b11 1 rfl (asSl_v _)) ?_
  obtain ⟨_, H12, e12, s12, rfl, n12, g12, o12⟩ := k5x (n4c1.grow ((((g7.trans g8).trans g9).trans g10).updr (Nat.le_trans (g7).size (Nat.le_refl _)) u11)) n10_11 p4c0 (((kv ((fromI false ((divN x2 x3).1)).1) ((fromI false ((divN x2 x3).1)).2) p5c0 x5c1).1))
  refine Runs.step e12 ?_
  refine Runs.step rfl ?_
  refine Runs.step rfl ?_
  refine Runs.ifT rfl ?_
  refine Runs.step (seenAt rfl rfl) ?_
  refine Runs.step (seenAt rfl (asSl_v _)) ?_
  refine Runs.step (seen (kb _ _)) ?_
  refine Runs.new fun H13 b13 g13 => ?_
  refine Runs.puts b13 rfl fun H14 b14 u14 => ?_
  refine Runs.step (AH.has.rd ((((((((g7.trans g8).trans g9).trans g10).updr (Nat.le_trans (g7).size (Nat.le_refl _)) u11).trans g12).trans g13).updr (Nat.le_trans ((((((g7.trans g8).trans g9).trans g10).updr (Nat.le_trans (g7).size (Nat.le_refl _)) u11).trans g12)).size (Nat.le_refl _)) u14).has b5) 0 rfl rfl) ?_
  refine Runs.step (AH.has.rd ((((((((g7.trans g8).trans g9).trans g10).updr (Nat.le_trans (g7).size (Nat.le_refl _)) u11).trans g12).trans g13).updr (Nat.le_trans ((((((g7.trans g8).trans g9).trans g10).updr (Nat.le_trans (g7).size (Nat.le_refl _)) u11).trans g12)).size (Nat.le_refl _)) u14).has b5) 1 rfl (asSl_v _)) ?_
  refine Runs.puts ((((((((g7.trans g8).trans g9).trans g10).updr (Nat.le_trans (g7).size (Nat.le_refl _)) u11).trans g12).trans g13).updr (Nat.le_trans ((((((g7.trans g8).trans g9).trans g10).updr (Nat.le_trans (g7).size (Nat.le_refl _)) u11).trans g12)).size (Nat.le_refl _)) u14).has b4) rfl fun H15 b15 u15 => ?_
  have n1_15 := (n1.grow (((((((g7.trans g8).trans g9).trans g10).updr (Nat.le_trans (g7).size (Nat.le_refl _)) u11).trans g12).trans g13).updr (Nat.le_trans ((((((g7.trans g8).trans g9).trans g10).updr (Nat.le_trans (g7).size (Nat.le_refl _)) u11).trans g12)).size (Nat.le_refl _)) u14)).upda av1_4 u15
  have n2_15 := (n2.grow (((((((g7.trans g8).trans g9).trans g10).updr (Nat.le_trans (g7).size (Nat.le_refl _)) u11).trans g12).trans g13).updr (Nat.le_trans ((((((g7.trans g8).trans g9).trans g10).updr (Nat.le_trans (g7).size (Nat.le_refl _)) u11).trans g12)).size (Nat.le_refl _)) u14)).upda av2_4 u15
  have n3_15 := (n3.grow (((((((g7.trans g8).trans g9).trans g10).updr (Nat.le_trans (g7).size (Nat.le_refl _)) u11).trans g12).trans g13).updr (Nat.le_trans ((((((g7.trans g8).trans g9).trans g10).updr (Nat.le_trans (g7).size (Nat.le_refl _)) u11).trans g12)).size (Nat.le_refl _)) u14)).upda av3_4 u15
  have n4c1_15 := (n4c1.grow (((((((g7.trans g8).trans g9).trans g10).updr (Nat.le_trans (g7).size (Nat.le_refl _)) u11).trans g12).trans g13).updr (Nat.le_trans ((((((g7.trans g8).trans g9).trans g10).updr (Nat.le_trans (g7).size (Nat.le_refl _)) u11).trans g12)).size (Nat.le_refl _)) u14)).upda av4c1_4 u15
  have n5c1_15 := (n5c1.grow (((((((g7.trans g8).trans g9).trans g10).updr (Nat.le_trans (g7).size (Nat.le_refl _)) u11).trans g12).trans g13).updr (Nat.le_trans ((((((g7.trans g8).trans g9).trans g10).updr (Nat.le_trans (g7).size (Nat.le_refl _)) u11).trans g12)).size (Nat.le_refl _)) u14)).upda av5c1_4 u15
  have n7_15 := (n7.grow ((((((g8.trans g9).trans g10).updr (Nat.le_refl _) u11).trans g12).trans g13).updr (Nat.le_trans (((((g8.trans g9).trans g10).updr (Nat.le_refl _) u11).trans g12)).size (Nat.le_refl _)) u14)).upda (Av.of_own o7 (b4).lt) u15
  have n7b_15 := (n7b.grow ((((((g8.trans g9).trans g10).updr (Nat.le_refl _) u11).trans g12).trans g13).updr (Nat.le_trans (((((g8.trans g9).trans g10).updr (Nat.le_refl _) u11).trans g12)).size (Nat.le_refl _)) u14)).upda (Av.of_own o7b (b4).lt) u15
  have n9_15 := (n9_11.grow ((g12.trans g13).updr (Nat.le_trans (g12).size (Nat.le_refl _)) u14)).upda (Av.of_own o9 ((g7.trans g8).has b4).lt) u15
  have n10_15 := (n10_11.grow ((g12.trans g13).updr (Nat.le_trans (g12).size (Nat.le_refl _)) u14)).upda (Av.of_own o10 (((g7.trans g8).trans g9).has b4).lt) u15
  have n12_15 := (n12.grow (g13.updr (Nat.le_refl _) u14)).upda (Av.of_own o12 (((((g7.trans g8).trans g9).trans g10).updr (Nat.le_trans (g7).size (Nat.le_refl _)) u11).has b4).lt) u15
  have b5_15 := AH.has.updr ((((((((g7.trans g8).trans g9).trans g10).updr (Nat.le_trans (g7).size (Nat.le_refl _)) u11).trans g12).trans g13).updr (Nat.le_trans ((((((g7.trans g8).trans g9).trans g10).updr (Nat.le_trans (g7).size (Nat.le_refl _)) u11).trans g12)).size (Nat.le_refl _)) u14).has b5) (Ne.symm ne4_5) u15
  have b11_15 := AH.has.updr (((g12.trans g13).updr (Nat.le_trans (g12).size (Nat.le_refl _)) u14).has b11) (Nat.ne_of_gt (Nat.lt_of_lt_of_le (g7.has b4).lt (Nat.le_refl _))) u15
  have b14_15 := AH.has.updr b14 (Nat.ne_of_gt (Nat.lt_of_lt_of_le ((((((g7.trans g8).trans g9).trans g10).updr (Nat.le_trans (g7).size (Nat.le_refl _)) u11).trans g12).has b4).lt (Nat.le_refl _))) u15
  refine Runs.step (AH.has.rd b14_15 0 rfl rfl) ?_
  refine Runs.step (AH.has.rd b14_15 1 rfl (asSl_v _)) ?_
  refine Runs.puts b5_15 rfl fun H16 b16 u16 => ?_
  have n1_16 := n1_15.upda av1_5 u16
  have n2_16 := n2_15.upda av2_5 u16
  have n3_16 := n3_15.upda av3_5 u16
  have n4c1_16 := n4c1_15.upda av4c1_5 u16
  have n5c1_16 := n5c1_15.upda av5c1_5 u16
  have n7_16 := n7_15.upda (Av.of_own o7 (b5).lt) u16
  have n7b_16 := n7b_15.upda (Av.of_own o7b (b5).lt) u16
  have n9_16 := n9_15.upda (Av.of_own o9 ((g7.trans g8).has b5).lt) u16
  have n10_16 := n10_15.upda (Av.of_own o10 (((g7.trans g8).trans g9).has b5).lt) u16
  have n12_16 := n12_15.upda (Av.of_own o12 (((((g7.trans g8).trans g9).trans g10).updr (Nat.le_trans (g7).size (Nat.le_refl _)) u11).has b5).lt) u16
  have b15_16 := AH.has.updr b15 ne4_5 u16
  have b11_16 := AH.has.updr b11_15 (Nat.ne_of_gt (Nat.lt_of_lt_of_le (g7.has b5).lt (Nat.le_refl _))) u16
  have b14_16 := AH.has.updr b14_15 (Nat.ne_of_gt (Nat.lt_of_lt_of_le ((((((g7.trans g8).trans g9).trans g10).updr (Nat.le_trans (g7).size (Nat.le_refl _)) u11).trans g12).has b5).lt (Nat.le_refl _))) u16
  cases e
  exact good ((((((((((g0.trans g7).trans g8).trans g9).trans g10).updr (Nat.le_trans ((g0.trans g7)).size (Nat.le_refl _)) u11).trans g12).trans g13).updr (Nat.le_trans (((((((g0.trans g7).trans g8).trans g9).trans g10).updr (Nat.le_trans ((g0.trans g7)).size (Nat.le_refl _)) u11).trans g12)).size (Nat.le_refl _)) u14).updr hi4 u15).updr hi5 u16) n1_16 n3_16 n7b_16 b15_16 n5c1_16 b16 n12_16 hi4 hi5 av1_4 av1_5 av3_4 av3_5 (Av.of_own o7b (b4).lt) (Av.of_own o7b (b5).lt) av5c1_4 av5c1_5 (Av.of_own o12 (((((g7.trans g8).trans g9).trans g10).updr (Nat.le_trans (g7).size (Nat.le_refl _)) u11).has b4).lt) (Av.of_own o12 (((((g7.trans g8).trans g9).trans g10).updr (Nat.le_trans (g7).size (Nat.le_refl _)) u11).has b5).lt) ne4_5
 ·replace e := (condF k6).symm.trans e
  obtain ⟨p7, q7, e⟩ := Option.bind_eq_some_iff.1 e
  obtain ⟨s7, H7, e7, n7, g7, o7⟩ := kcv q7
  refine Runs.step e7 ?_
  refine Runs.step (seen (asSl_v _)) ?_
  obtain ⟨H8, e8, g8⟩ := kk5 (n2.grow g7) n7
  refine Runs.step e8 ?_
  refine Runs.step (seen (kb _ _)) ?_
  refine Runs.cond (fun k9 => ?_) (fun k9 => ?_)
  ·replace e := (condT k9).symm.trans e
   cases e
   cases good
   exact Runs.ret ⟨(⟨none, 0, .is 0⟩ : Sl), rfl, (Nats.nil _), ((g0.trans g7).trans g8), (Own.nil _)⟩
  ·replace e := (condF k9).symm.trans e
   refine Runs.new fun H10 b10 g10 => ?_
   refine Runs.new fun H11 b11 g11 => ?_
   refine Runs.step (AH.has.rd ((((g7.trans g8).trans g10).trans g11).has b4) 0 rfl rfl) ?_
   refine Runs.step (AH.has.rd ((((g7.trans g8).trans g10).trans g11).has b4) 1 rfl (asSl_v _)) ?_
   obtain ⟨s12, H12, e12, n12, g12, o12⟩ := kc1 (n1.grow (((g7.trans g8).trans g10).trans g11)) false
   refine Runs.step e12 ?_
   refine Runs.step rfl ?_
   refine Runs.ifT rfl ?_
   refine Runs.step (seenAt rfl rfl) ?_
   refine Runs.step (seenAt rfl (asSl_v _)) ?_
   refine Runs.when (g12.same ((((g7.trans g8).trans g10).trans g11).has b4) 0 2) ?_
   refine Runs.when (g12.same b11 0 0) ?_
   refine Runs.when (g12.same (g11.has b10) 0 0) ?_
   obtain ⟨_, H13, e13, s13, s13b, rfl, n13, n13b, g13, o13, o13b⟩ := kbem (n4c1.grow ((((g7.trans g8).trans g10).trans g11).trans g12)) n12 p4c0 ((fromI false x1).1)
   refine Runs.step e13 ?_
   refine Runs.step rfl ?_
   refine Runs.step rfl ?_
   refine Runs.ifT rfl ?_
   refine Runs.step (seenAt rfl rfl) ?_
   refine Runs.step (seenAt rfl (asSl_v _)) ?_
   refine Runs.step rfl ?_
   refine Runs.ifT rfl ?_
   refine Runs.step (seenAt rfl rfl) ?_
   refine Runs.step (seenAt rfl (asSl_v _)) ?_
   refine Runs.step (seen (kb _ _)) ?_
   refine Runs.when (g13.same (g12.has b11) 0 0) ?_
   refine Runs.when (g13.same ((g11.trans g12).has b10) 0 0) ?_
   refine Runs.puts (((g11.trans g12).trans g13).has b10) rfl fun H14 b14 u14 => ?_
   have n12_14 := (n12.grow g13).upda (Av.of_own o12 (g11.has b10).lt) u14
   have n13_14 := n13.upda (Av.of_own o13 ((g11.trans g12).has b10).lt) u14
   have n13b_14 := n13b.upda (Av.of_own o13b ((g11.trans g12).has b10).lt) u14
   have b11_14 := AH.has.updr ((g12.trans g13).has b11) (Nat.ne_of_gt (Nat.lt_of_lt_of_le (b10).lt (Nat.le_refl _))) u14
   refine Runs.puts b11_14 rfl fun H15 b15 u15 => ?_
   have n12_15 := n12_14.upda (Av.of_own o12 (b11).lt) u15
   have n13_15 := n13_14.upda (Av.of_own o13 (g12.has b11).lt) u15
   have n13b_15 := n13b_14.upda (Av.of_own o13b (g12.has b11).lt) u15
   have b14_15 := AH.has.updr b14 (Nat.ne_of_lt (Nat.lt_of_lt_of_le (b10).lt (Nat.le_refl _))) u15
   refine Runs.step (AH.has.rd b15 1 rfl (asSl_v _)) ?_
   cases e
   cases good
   exact Runs.ret ⟨s13b, rfl, n13b_15, ((((((((g0.trans g7).trans g8).trans g10).trans g11).trans g12).trans g13).updr (Nat.le_trans (((g0.trans g7).trans g8)).size (Nat.le_refl _)) u14).updr (Nat.le_trans ((((g0.trans g7).trans g8).trans g10)).size (Nat.le_refl _)) u15), (o13b.of_le (((((g0.trans g7).trans g8).trans g10).trans g11).trans g12))⟩
theorem kbh1 {s : kf6} {r : kej} (it : Iter kod s r) : km7 r s := Iter.ind (fun s o e good => by
 cases s with
 | fn x1 x2 => exact @k3p _ _ x1 x2 e good
 | p9 x1 x2 x3 p4c0 x4c1 p5c0 x5c1 => exact @kbav _ _ x1 x2 x3 p4c0 x4c1 p5c0 x5c1 e good
 ) it
end Go.Ab

/- squeezed -/
set_option linter.unusedVariables false
set_option linter.unusedSimpArgs false
set_option maxRecDepth 10000
namespace Go.Ab
open Go.Proofs Go.Num
theorem ko0 {a b : Nat} (ha : a < B ^ 64) (hb : b < B ^ 64) : cmpN (digs B a) (digs B b) = cmp a b := by
 unfold cmpN
 rw [if_pos ⟨kj ha, kj hb⟩, kf B2, kf B2]
theorem cmp_eq {a b : Nat} : cmp a b = 0 ↔ a = b := by
 unfold cmp
 by_cases h : a < b
 ·rw [if_pos h]; omega
 ·rw [if_neg h]
  by_cases h2 : a = b
  ·rw [if_pos h2]; omega
  ·rw [if_neg h2]; omega
structure Eu (n A X Y : Nat) (e : Int) (u v : Nat) : Prop where
 sign : e = 1 ∨ e = -1
 sum : u * Y + v * X = n
 ub : u ≤ n
 one : (n : Int) ∣ e * u * A - X
 two : (n : Int) ∣ -(e * v) * A - Y
theorem Eu.vb {n A X Y : Nat} {e : Int} {u v : Nat} (E : Eu n A X Y e u v) (hX : 0 < X) : v ≤ n := by
 have h1 : v * 1 ≤ v * X := Nat.mul_le_mul_left _ hX
 have := E.sum
 omega
theorem Eu.next {n A X Y : Nat} {e : Int} {u v : Nat} (E : Eu n A X Y e u v) (hY : 0 < Y) (hX : 0 < X) : Eu n A Y (X % Y) (-e) v (u + X / Y * v) := by
 have dm := Nat.div_add_mod X Y
 refine ⟨?_, ?_, E.vb hX, ?_, ?_⟩
 ·rcases E.sign with h | h <;> subst h <;> simp
 ·have h := E.sum
  have h1 : v * X = v * (Y * (X / Y)) + v * (X % Y) := by rw [← Nat.mul_add, dm]
  have h2 : v * (Y * (X / Y)) = X / Y * v * Y := by rw [Nat.mul_comm Y, ← Nat.mul_assoc, Nat.mul_comm v]
  rw [Nat.add_mul]
  omega
 ·have := E.two
  rwa [Int.neg_mul e (v : Int)]
 ·have h1 := E.one
  have h2 := Int.dvd_mul_of_dvd_right (b := ((X / Y : Nat) : Int)) E.two
  have h3 := Int.dvd_sub h1 h2
  have e1 : e * (u : Int) * (A : Int) - (X : Int) - ((X / Y : Nat) : Int) * (-(e * (v : Int)) * (A : Int) - (Y : Int)) = -(-e * ((u + X / Y * v : Nat) : Int)) * (A : Int) - ((X % Y : Nat) : Int) := by
   have hX : (X : Int) = (Y : Int) * ((X / Y : Nat) : Int) + ((X % Y : Nat) : Int) := by rw [← Int.natCast_mul, ← Int.natCast_add, dm]
   generalize X / Y = q at *
   generalize X % Y = r at *
   rw [hX, Int.natCast_add, Int.natCast_mul]
   simp only [Int.neg_mul, Int.mul_add, Int.add_mul, Int.mul_sub, Int.mul_neg, Int.neg_neg]
   have a1 : e * ((q : Int) * (v : Int)) * (A : Int) = (q : Int) * (e * (v : Int) * (A : Int)) := by
    rw [← Int.mul_assoc, Int.mul_comm e (q : Int), Int.mul_assoc (q : Int), Int.mul_assoc (q : Int)]
   have a2 : (Y : Int) * (q : Int) = (q : Int) * (Y : Int) := Int.mul_comm _ _
   rw [a1, a2]
   omega
  rwa [e1] at h3
def InvAns (n A X Y : Nat) (r : List Nat × Int) : Prop := (Nat.gcd X Y ≠ 1 → r = ([], 6)) ∧ (Nat.gcd X Y = 1 → ∃ w : Nat, w < n ∧ r = (digs B w, 0) ∧ w * A % n = 1)
theorem kbf1 {n A : Nat} (hn : n < B ^ 64) (hn2 : 2 ≤ n) : ∀ (Y X : Nat) (e : Int) (u v : Nat), X < B ^ 64 → Y < B ^ 64 → 0 < X → Eu n A X Y e u v →
  ∃ r, Iter kns (.p7 (digs B n) (digs B Y) (digs B X) (intD (e * u)).1 (intD (e * u)).2 (intD (-(e * v))).1 (intD (-(e * v))).2) r ∧
   Iter kod (.p9 (digs B n) (digs B X) (digs B Y) (intD (e * u)).1 (intD (e * u)).2 (intD (-(e * v))).1 (intD (-(e * v))).2) r ∧ InvAns n A X Y r := by
 intro Y
 induction Y using Nat.strongRecOn with
 | ind Y ih =>
  intro X e u v hX hY hX0 E
  have he : e.natAbs = 1 := by rcases E.sign with h | h <;> subst h <;> rfl
  have hu : (e * (u : Int)).natAbs = u := by rw [Int.natAbs_mul, he, Nat.one_mul, Int.natAbs_natCast]
  have hv : (-(e * (v : Int))).natAbs = v := by rw [Int.natAbs_neg, Int.natAbs_mul, he, Nat.one_mul, Int.natAbs_natCast]
  have hvn : v ≤ n := E.vb hX0
  have hun : u ≤ n := E.ub
  have fn : fromI false (digs B n) = intD (n : Int) := by rw [kct hn]; rfl
  have hni : ((n : Int)).natAbs < B ^ 64 := by simpa using hn
  by_cases h0 : Y = 0
  ·subst h0
   have hg : Nat.gcd X 0 = X := Nat.gcd_zero_right X
   have h64 := kq5
   have c1 : cmpN (digs B X) [1] = cmp X 1 := by rw [← kga]; exact ko0 hX (by omega)
   have c2 : cmpN (digs B X) (digs B 1) = cmp X 1 := ko0 hX (by omega)
   by_cases h1 : X = 1
   ·subst h1
    have hfl := kvm (u := e * (u : Int)) (v := (n : Int)) (by omega) hni (by omega)
    have hw0 := Int.emod_nonneg (e * (u : Int)) (show (n : Int) ≠ 0 by omega)
    have hw1 := Int.emod_lt_of_pos (e * (u : Int)) (show 0 < (n : Int) by omega)
    obtain ⟨w, hw⟩ : ∃ w : Nat, e * (u : Int) % (n : Int) = (w : Int) := ⟨_, (Int.toNat_of_nonneg hw0).symm⟩
    have hdw : (intD (e * (u : Int) % (n : Int))).2 = digs B w := by rw [hw, koz]
    refine ⟨(digs B w, 0), .done ?_, .done ?_, fun h => absurd hg h, fun _ => ⟨w, by omega, rfl, ?_⟩⟩
    ·show kfh _ _ _ _ _ _ _ = _
     unfold kfh
     rw [kbe, condF (by rfl), kgn, Option.bind_some, c1, condF (by rfl), fn, hfl]
     dsimp only
     rw [hdw]
    ·show kfo _ _ _ _ _ _ _ = _
     unfold kfo
     rw [kbe, condF (by rfl), kgn, Option.bind_some, c2, condF (by rfl), fn, hfl]
     dsimp only
     rw [hdw]
    ·have hd := E.one
     have h2 : (e * (u : Int) * (A : Int)) % (n : Int) = 1 := by
      have h3 := Int.emod_eq_emod_iff_emod_sub_eq_zero.2 (Int.emod_eq_zero_of_dvd hd)
      rw [h3]
      exact Int.emod_eq_of_lt (by omega) (by omega)
     have h4 : (w : Int) % (n : Int) = (e * (u : Int)) % (n : Int) := by rw [← hw, Int.emod_emod_of_dvd _ (Int.dvd_refl _)]
     have h5 : ((w * A % n : Nat) : Int) = 1 := by
      rw [Int.natCast_emod, Int.natCast_mul, Int.mul_emod, h4, ← Int.mul_emod]
      exact h2
     omega
   ·refine ⟨([], 6), .done ?_, .done ?_, fun _ => rfl, fun h => absurd (hg.symm.trans h) h1⟩
    ·show kfh _ _ _ _ _ _ _ = _
     unfold kfh
     rw [kbe, condF (by rfl), kgn, Option.bind_some, c1, condT (by rw [Bool.not_eq_true', decide_eq_false_iff_not, cmp_eq]; exact h1)]
    ·show kfo _ _ _ _ _ _ _ = _
     unfold kfo
     rw [kbe, condF (by rfl), kgn, Option.bind_some, c2, condT (by rw [Bool.not_eq_true', decide_eq_false_iff_not, cmp_eq]; exact h1)]
  ·have hY0 : 0 < Y := by omega
   have E' := E.next hY0 hX0
   have hv' := E'.vb hY0
   have hm := Nat.mod_lt X hY0
   have hne : digs B Y ≠ [] := fun h => h0 ((keu B2).1 h)
   have hlen : (digs B Y).length ≠ 0 := by simpa using hne
   obtain ⟨r, it1, it2, ans⟩ := ih (X % Y) hm Y (-e) v (u + X / Y * v) hY (by omega) hY0 E'
   have dv : divN (digs B X) (digs B Y) = (digs B (X / Y), digs B (X % Y), 0) := by
    unfold divN
    rw [if_pos ⟨kj hX, kj hY⟩, if_neg hne, kf B2, kf B2]
   have hq : X / Y < B ^ 64 := Nat.lt_of_le_of_lt (Nat.div_le_self _ _) hX
   have fq : fromI false (digs B (X / Y)) = intD ((X / Y : Nat) : Int) := by rw [kct hq]; rfl
   have hqi : (((X / Y : Nat) : Int)).natAbs < B ^ 64 := by rw [Int.natAbs_natCast]; exact hq
   have hp : (((X / Y : Nat) : Int) * -(e * (v : Int))).natAbs = X / Y * v := by rw [Int.natAbs_mul, hv, Int.natAbs_natCast]
   have mul := kv1 hqi (show (-(e * (v : Int))).natAbs < B ^ 64 by omega)
   rw [if_pos (by rw [hp]; omega)] at mul
   have es : e * (u : Int) - ((X / Y : Nat) : Int) * -(e * (v : Int)) = -(-e * ((u + X / Y * v : Nat) : Int)) := by
    generalize X / Y = q
    rw [Int.natCast_add, Int.natCast_mul, Int.neg_mul, Int.neg_neg, Int.mul_add, Int.mul_neg, Int.mul_left_comm e]
    omega
   have hn' : (-(-e * ((u + X / Y * v : Nat) : Int))).natAbs = u + X / Y * v := by
    rw [Int.natAbs_neg, Int.natAbs_mul, Int.natAbs_neg, he, Nat.one_mul, Int.natAbs_natCast]
   have sub := kwz (u := e * (u : Int)) (v := ((X / Y : Nat) : Int) * -(e * (v : Int))) (by omega) (by rw [hp]; omega)
   rw [es, if_pos (by rw [hn']; omega)] at sub
   have et : -(e * (v : Int)) = -e * (v : Int) := by rw [Int.neg_mul]
   refine ⟨r, .next ?_ it1, .next ?_ it2, ?_⟩
   ·show kfh _ _ _ _ _ _ _ = _
    unfold kfh
    rw [condT (by rw [decide_eq_true_eq]; omega), dv]
    dsimp only
    rw [fq, mul]
    dsimp only
    rw [sub, ← et]
   ·show kfo _ _ _ _ _ _ _ = _
    unfold kfo
    rw [condT (by rw [decide_eq_true_eq]; omega), dv]
    dsimp only
    rw [fq, mul]
    dsimp only
    rw [sub, ← et]
   ·have hg : Nat.gcd X Y = Nat.gcd Y (X % Y) := by rw [Nat.gcd_comm X Y, Nat.gcd_rec, Nat.gcd_comm]
    unfold InvAns
    rw [hg]
    exact ans
end Go.Ab

/- squeezed -/
set_option linter.unusedVariables false
set_option linter.unusedSimpArgs false
set_option maxRecDepth 10000
namespace Go.Ab
open Go.Proofs Go.Num
def kyr (xs ys : List Nat) (r : List Nat × Int) : Prop :=
 (rt xs = true ∧ rt ys = true ∧ 2 ≤ num B ys → InvAns (num B ys) (num B xs) (num B ys) (num B xs % num B ys) r) ∧ (¬ (rt xs = true ∧ rt ys = true ∧ 2 ≤ num B ys) → r = ([], 1))
theorem k8p {ys : List Nat} (ly : ∀ y ∈ ys, y < B) (t : Trim ys) : ys = digs B (num B ys) := (kcx B2 ly t).symm
theorem ky7 {xs ys : List Nat} (lx : ∀ x ∈ xs, x < B) (ly : ∀ y ∈ ys, y < B) : ∃ r, Iter kns (.fn xs ys) r ∧ Iter kod (.fn xs ys) r ∧ kyr xs ys r := by
 cases hx : rt xs with
 | false =>
  refine ⟨([], 1), .done ?_, .done ?_, fun h => absurd h.1 (by simp [hx]), fun _ => rfl⟩
  ·show kd7 _ _ = _
   unfold kd7
   rw [hx]
   rfl
  ·show kd3 _ _ = _
   unfold kd3
   rw [hx]
   rfl
 | true =>
  cases hy : rt ys with
  | false =>
   refine ⟨([], 1), .done ?_, .done ?_, fun h => absurd h.2.1 (by simp [hy]), fun _ => rfl⟩
   ·show kd7 _ _ = _
    unfold kd7
    rw [hx, hy]
    rfl
   ·show kd3 _ _ = _
    unfold kd3
    rw [hx, hy]
    rfl
  | true =>
   obtain ⟨ly64, ty⟩ := rt_iff.1 hy
   obtain ⟨n, hn⟩ : ∃ n, n = num B ys := ⟨_, rfl⟩
   have hys : ys = digs B n := by rw [hn]; exact k8p ly ty
   have hn64 : n < B ^ 64 := by rw [hn]; exact kjo ly hy
   have h64 := kq5
   have c1 : cmpN ys [1] = cmp n 1 := by rw [hys, ← kga]; exact ko0 hn64 (by omega)
   have c2 : cmpN ys (digs B 2) = cmp n 2 := by rw [hys]; exact ko0 hn64 (by omega)
   have p2 : u64P 2 = some 2 := kbb (n := 2) (by decide)
   by_cases h2 : 2 ≤ n
   ·have hne : ys ≠ [] := by
     rintro rfl
     simp [num] at hn
     omega
    have hm := Nat.mod_lt (num B xs) (show 0 < n by omega)
    have E0 : Eu n (num B xs) n (num B xs % n) (-1) 0 1 := by
     refine ⟨.inr rfl, by omega, by omega, ?_, ?_⟩
     ·rw [Int.natCast_zero, Int.mul_zero, Int.zero_mul, Int.zero_sub]
      exact Int.dvd_neg.2 (Int.dvd_refl _)
     ·rw [Int.natCast_one, Int.mul_one, Int.neg_neg, Int.one_mul]
      have := Nat.div_add_mod (num B xs) n
      refine ⟨((num B xs / n : Nat) : Int), ?_⟩
      rw [← Int.natCast_mul]
      omega
    obtain ⟨r, it1, it2, ans⟩ := kbf1 hn64 h2 (num B xs % n) n (-1) 0 1 hn64 (by omega) (by omega) E0
    have dv : (divN xs ys).2.1 = digs B (num B xs % n) := by rw [kkm hx hy hne, hn]
    have e0 : intD (-1 * ((0 : Nat) : Int)) = (false, []) := kbc3
    have e1 : intD (-(-1 * ((1 : Nat) : Int))) = ofI 1 := by rw [kbh9 (by decide)]; rfl
    rw [e0, e1] at it1 it2
    refine ⟨r, .next ?_ it1, .next ?_ it2, fun _ => by rw [← hn]; exact ans, fun h => absurd ⟨hx, hy, hn ▸ h2⟩ h⟩
    ·show kd7 _ _ = _
     unfold kd7
     rw [hx, hy, condF (by rfl), condF (by rfl), kgn, Option.bind_some, c1, condF (by rw [decide_eq_false_iff_not, cmp_le]; omega), ki (by decide), Option.bind_some, dv, ← hys]
    ·show kd3 _ _ = _
     unfold kd3
     rw [hx, hy, condF (by rfl), condF (by rfl), p2, Option.bind_some, c2, condF (by rw [decide_eq_false_iff_not, cmp_lt]; omega), ki (by omega), Option.bind_some, ki (by decide), Option.bind_some, dv, ← hys]
   ·refine ⟨([], 1), .done ?_, .done ?_, fun h => absurd (hn ▸ h.2.2) h2, fun _ => rfl⟩
    ·show kd7 _ _ = _
     unfold kd7
     rw [hx, hy, condF (by rfl), condF (by rfl), kgn, Option.bind_some, c1, condT (by rw [decide_eq_true_eq, cmp_le]; omega)]
    ·show kd3 _ _ = _
     unfold kd3
     rw [hx, hy, condF (by rfl), condF (by rfl), p2, Option.bind_some, c2, condT (by rw [decide_eq_true_eq, cmp_lt]; omega)]
noncomputable def invN (xs ys : List Nat) : List Nat × Int := by
 classical
 exact if h : (∀ x ∈ xs, x < B) ∧ (∀ y ∈ ys, y < B) then (ky7 h.1 h.2).choose else ([], 0)
theorem klf {xs ys : List Nat} (lx : ∀ x ∈ xs, x < B) (ly : ∀ y ∈ ys, y < B) : Iter kns (.fn xs ys) (invN xs ys) ∧ Iter kod (.fn xs ys) (invN xs ys) ∧ kyr xs ys (invN xs ys) := by
 unfold invN
 rw [dif_pos ⟨lx, ly⟩]
 exact (ky7 lx ly).choose_spec
theorem kya {h : AH} {s t : Sl} {xs ys : List Nat} (n : Nats h s xs) (m : Nats h t ys) : Runs (go (.fn F.kfl [s.v, t.v]) h) (ksc h (invN xs ys)) := kbcs (klf n.lt m.lt).1 n m
theorem kbgy {h : AH} {s t : Sl} {xs ys : List Nat} (n : Nats h s xs) (m : Nats h t ys) : Runs (go (.fn F.kg5 [s.v, t.v]) h) (ksb h (invN xs ys)) := kbh1 (klf n.lt m.lt).2.1 n m
end Go.Ab

/- squeezed -/
set_option linter.unusedVariables false
set_option linter.unusedSimpArgs false
set_option maxRecDepth 10000
namespace Go.Ab
open Go.Proofs Go.Num
def Lists (h : AH) (s : Sl) (xss : List (List Nat)) : Prop := ∃ rows : List (Sl × List Nat), Rows h s rows ∧ rows.map (·.2) = xss
theorem Lists.grow {h h' : AH} {s : Sl} {xss : List (List Nat)} (n : Lists h s xss) (g : Grow h h') : Lists h' s xss := by
 obtain ⟨rows, r, e⟩ := n
 exact ⟨rows, r.grow g, e⟩
theorem Lists.len {h : AH} {s : Sl} {xss : List (List Nat)} (n : Lists h s xss) : s.len = xss.length := by
 obtain ⟨rows, r, rfl⟩ := n
 rw [r.len, List.length_map]
def atL (xss : List (List Nat)) (i : Int) : Option (List Nat) := if 0 ≤ i then xss[i.toNat]? else none
theorem Lists.atL {h : AH} {s : Sl} {xss : List (List Nat)} (n : Lists h s xss) {i : Int} {x : List Nat} (q : Go.Ab.atL xss i = some x) : ∃ (r : Ref) (t : Sl), idx s.ref xss.length i 1 = some r ∧ h.cell r = some t.v ∧ Nats h t x := by
 have hl := n.len
 obtain ⟨rows, r, rfl⟩ := n
 unfold Go.Ab.atL at q
 split at q
 ·rename_i h0
  rw [List.getElem?_map, Option.map_eq_some_iff] at q
  obtain ⟨p, e1, rfl⟩ := q
  obtain ⟨hi, rfl⟩ := List.getElem?_eq_some_iff.1 e1
  obtain ⟨r', e2, e3⟩ := r.at hi
  rw [hl, show ((i.toNat : Nat) : Int) = i from by omega] at e2
  exact ⟨r', _, e2, e3, r.each _ (List.getElem_mem _)⟩
 ·cases q
theorem Lists.four {h : AH} {i : Nat} {e : TypeId} {a b c d : Sl} {xa xb xc xd : List Nat} (x : h.has i [a.v, b.v, c.v, d.v] e) (na : Nats h a xa) (nb : Nats h b xb) (nc : Nats h c xc) (nd : Nats h d xd) : Lists h ⟨some (.new i 0), 4, .is 4⟩ [xa, xb, xc, xd] := by
 refine ⟨[(a, xa), (b, xb), (c, xc), (d, xd)], ⟨Cells.of_has x rfl, fun p hp => ?_, by simp⟩, rfl⟩
 simp at hp
 rcases hp with rfl | rfl | rfl | rfl
 ·exact na
 ·exact nb
 ·exact nc
 ·exact nd
end Go.Ab

/- squeezed -/
set_option linter.unusedVariables false
set_option linter.unusedSimpArgs false
set_option maxRecDepth 10000
namespace Go.Ab
open Go.Proofs Go.Num
def kdy (x1 : List Nat) : Bool :=
 cond (!(rt x1)) (true) (decide ((List.length x1 : Int) > 8))
theorem kpt {h : AH} {a1 : Sl} {x1 : List Nat} (n1 : Nats h a1 x1)  : Runs (go (.fn F.kjk [a1.v]) h) fun v h' => v = .bool (kdy x1) ∧ Grow h h' := by
 rw [k9z]
 rw [n1.len]
 refine Runs.step (kcd n1) ?_
 refine Runs.step (seen rfl) ?_
 refine Runs.cond (fun k3 => ?_) (fun k3 => ?_)
 ·have z : kdy x1 = true := by unfold kdy; exact (condT k3).trans rfl
  rw [z]
  exact Runs.ret ⟨rfl, (Grow.refl _)⟩
 ·have z : kdy x1 = decide ((List.length x1 : Int) > 8) := by unfold kdy; exact (condF k3).trans rfl
  rw [z]
  exact Runs.ret ⟨rfl, (Grow.refl _)⟩
def khl (x1 : List Nat) : Bool :=
 decide ((cmpN x1 [1]) ≤ 0)
theorem kyq {h : AH} {a1 : Sl} {x1 : List Nat} (n1 : Nats h a1 x1)  : Runs (go (.fn F.knv [a1.v]) h) fun v h' => v = .bool (khl x1) ∧ Grow h h' := by
 rw [kbge]
 refine Runs.new fun H2 b2 g2 => ?_
 obtain ⟨H3, e3, g3⟩ := kc8 (n1.grow g2) (Nats.of_has (xs := [1]) b2 (by decide) (by decide))
 refine Runs.step e3 ?_
 refine Runs.step (seen (kb _ _)) ?_
 have z : khl x1 = decide ((cmpN x1 [1]) ≤ 0) := by unfold khl; exact rfl
 rw [z]
 exact Runs.ret ⟨rfl, (g2.trans g3)⟩
inductive kj5
 | fn (x1 : List Nat) (x2 : List Nat) (x3 : List Nat) (x4 : List Nat)
 | no
abbrev kik := List Nat × Int
noncomputable def kf2 (x1 : List Nat) (x2 : List Nat) (x3 : List Nat) (x4 : List Nat) : Option (kj5 ⊕ kik) :=
 cond (((kdy x1))) (some (.inr ([], 1))) (cond (((kdy x3))) (some (.inr ([], 1))) (cond (((kdy x2))) (some (.inr ([], 1))) (cond (((kdy x4))) (some (.inr ([], 1))) (cond (((khl x2))) (some (.inr ([], 1))) (cond (((khl x4))) (some (.inr ([], 1))) (cond (decide ((cmpN x1 x2) ≥ 0)) (some (.inr ([], 1))) (cond (decide ((cmpN x3 x4) ≥ 0)) (some (.inr ([], 1))) (cond (!decide (((invN x2 x4).2) = 0)) (some (.inr ([], ((invN x2 x4).2)))) (some (.inr ((addN ((mulN x2 ((floorI (((kv (((kr ((fromI false x3).1) ((fromI false x3).2) ((fromI false x1).1) ((fromI false x1).2)).1)) ((kr ((fromI false x3).1) ((fromI false x3).2) ((fromI false x1).1) ((fromI false x1).2)).2.1) ((fromI false ((invN x2 x4).1)).1) ((fromI false ((invN x2 x4).1)).2)).1)) ((kv (((kr ((fromI false x3).1) ((fromI false x3).2) ((fromI false x1).1) ((fromI false x1).2)).1)) ((kr ((fromI false x3).1) ((fromI false x3).2) ((fromI false x1).1) ((fromI false x1).2)).2.1) ((fromI false ((invN x2 x4).1)).1) ((fromI false ((invN x2 x4).1)).2)).2.1) ((fromI false x4).1) ((fromI false x4).2)).2.2.2.1)).1) x1).1, ((addN ((mulN x2 ((floorI (((kv (((kr ((fromI false x3).1) ((fromI false x3).2) ((fromI false x1).1) ((fromI false x1).2)).1)) ((kr ((fromI false x3).1) ((fromI false x3).2) ((fromI false x1).1) ((fromI false x1).2)).2.1) ((fromI false ((invN x2 x4).1)).1) ((fromI false ((invN x2 x4).1)).2)).1)) ((kv (((kr ((fromI false x3).1) ((fromI false x3).2) ((fromI false x1).1) ((fromI false x1).2)).1)) ((kr ((fromI false x3).1) ((fromI false x3).2) ((fromI false x1).1) ((fromI false x1).2)).2.1) ((fromI false ((invN x2 x4).1)).1) ((fromI false ((invN x2 x4).1)).2)).2.1) ((fromI false x4).1) ((fromI false x4).2)).2.2.2.1)).1) x1).2))))))))))))
noncomputable def kqf : kj5 → Option (kj5 ⊕ kik)
 | .fn x1 x2 x3 x4 => kf2 x1 x2 x3 x4
 | .no => none
@[reducible] def kzv (h0 : AH) (r : kik) (v : AV) (h' : AH) : Prop := ∃ s1 : Sl, v = .tup [s1.v, .int .i64 r.2] ∧ Nats h' s1 r.1 ∧ Grow h0 h' ∧ Own h0 s1
def kt8 (r : kik) : kj5 → Prop
 | .fn x1 x2 x3 x4 => ∀ {h : AH} {a1 : Sl} {a2 : Sl} {a3 : Sl} {a4 : Sl}, Nats h a1 x1 → Nats h a2 x2 → Nats h a3 x3 → Nats h a4 x4 → Runs (go (.fn F.kob [a1.v, a2.v, a3.v, a4.v]) h) (kzv h r)
 | .no => True
theorem kbch {r : kik} {o : kj5 ⊕ kik} {x1 : List Nat} {x2 : List Nat} {x3 : List Nat} {x4 : List Nat} (e : kf2 x1 x2 x3 x4 = some o) (good : GoodS (kt8 r) r o) : kt8 r (.fn x1 x2 x3 x4) := by
 intro h a1 a2 a3 a4 n1 n2 n3 n4
 rw [kbgl]
 unfold kf2 at e
 obtain ⟨_, H5, e5, rfl, g5⟩ := kpt n1
 refine Runs.step e5 ?_
 refine Runs.step (seen rfl) ?_
 refine Runs.cond (fun k6 => ?_) (fun k6 => ?_)
 ·replace e := (condT k6).symm.trans e
  cases e
  cases good
  exact Runs.ret ⟨(⟨none, 0, .is 0⟩ : Sl), rfl, (Nats.nil _), g5, (Own.nil _)⟩
 ·replace e := (condF k6).symm.trans e
  obtain ⟨_, H7, e7, rfl, g7⟩ := kpt (n3.grow g5)
  refine Runs.step e7 ?_
  refine Runs.step (seen rfl) ?_
  refine Runs.cond (fun k8 => ?_) (fun k8 => ?_)
  ·replace e := (condT k8).symm.trans e
   cases e
   cases good
   exact Runs.ret ⟨(⟨none, 0, .is 0⟩ : Sl), rfl, (Nats.nil _), (g5.trans g7), (Own.nil _)⟩
  ·replace e := (condF k8).symm.trans e
   obtain ⟨_, H9, e9, rfl, g9⟩ := kpt (n2.grow (g5.trans g7))
   refine Runs.step e9 ?_
   refine Runs.step (seen rfl) ?_
   refine Runs.cond (fun k10 => ?_) (fun k10 => ?_)
   ·replace e := (condT k10).symm.trans e
    cases e
    cases good
    exact Runs.ret ⟨(⟨none, 0, .is 0⟩ : Sl), rfl, (Nats.nil _), ((g5.trans g7).trans g9), (Own.nil _)⟩
   ·replace e := (condF k10).symm.trans e
    obtain ⟨_, H11, e11, rfl, g11⟩ := kpt (n4.grow ((g5.trans g7).trans g9))
    refine Runs.step e11 ?_
    refine Runs.step (seen rfl) ?_
    refine Runs.cond (fun k12 => ?_) (fun k12 => ?_)
    ·replace e := (condT k12).symm.trans e
     cases e
     cases good
     exact Runs.ret ⟨(⟨none, 0, .is 0⟩ : Sl), rfl, (Nats.nil _), (((g5.trans g7).trans g9).trans g11), (Own.nil _)⟩
    ·replace e := (condF k12).symm.trans e
     obtain ⟨_, H13, e13, rfl, g13⟩ := kyq (n2.grow (((g5.trans g7).trans g9).trans g11))
     refine Runs.step e13 ?_
     refine Runs.step (seen rfl) ?_
     refine Runs.cond (fun k14 => ?_) (fun k14 => ?_)
     ·replace e := (condT k14).symm.trans e
      cases e
      cases good
      exact Runs.ret ⟨(⟨none, 0, .is 0⟩ : Sl), rfl, (Nats.nil _), ((((g5.trans g7).trans g9).trans g11).trans g13), (Own.nil _)⟩
     ·replace e := (condF k14).symm.trans e
      obtain ⟨_, H15, e15, rfl, g15⟩ := kyq (n4.grow ((((g5.trans g7).trans g9).trans g11).trans g13))
      refine Runs.step e15 ?_
      refine Runs.step (seen rfl) ?_
      refine Runs.cond (fun k16 => ?_) (fun k16 => ?_)
      ·replace e := (condT k16).symm.trans e
       cases e
       cases good
       exact Runs.ret ⟨(⟨none, 0, .is 0⟩ : Sl), rfl, (Nats.nil _), (((((g5.trans g7).trans g9).trans g11).trans g13).trans g15), (Own.nil _)⟩
      ·replace e := (condF k16).symm.trans e
       obtain ⟨H17, e17, g17⟩ := kc8 (n1.grow (((((g5.trans g7).trans g9).trans g11).trans g13).trans g15)) (n2.grow (((((g5.trans g7).trans g9).trans g11).trans g13).trans g15))
       refine Runs.step e17 ?_
       refine Runs.step (seen (kb _ _)) ?_
       refine Runs.cond (fun k18 => ?_) (fun k18 => ?_)
       ·replace e := (condT k18).symm.trans e
        cases e
        cases good
        exact Runs.ret ⟨(⟨none, 0, .is 0⟩ : Sl), rfl, (Nats.nil _), ((((((g5.trans g7).trans g9).trans g11).trans g13).trans g15).trans g17), (Own.nil _)⟩
       ·replace e := (condF k18).symm.trans e
        obtain ⟨H19, e19, g19⟩ := kc8 (n3.grow ((((((g5.trans g7).trans g9).trans g11).trans g13).trans g15).trans g17)) (n4.grow ((((((g5.trans g7).trans g9).trans g11).trans g13).trans g15).trans g17))
        refine Runs.step e19 ?_
        refine Runs.step (seen (kb _ _)) ?_
        refine Runs.cond (fun k20 => ?_) (fun k20 => ?_)
        ·replace e := (condT k20).symm.trans e
         cases e
         cases good
         exact Runs.ret ⟨(⟨none, 0, .is 0⟩ : Sl), rfl, (Nats.nil _), (((((((g5.trans g7).trans g9).trans g11).trans g13).trans g15).trans g17).trans g19), (Own.nil _)⟩
        ·replace e := (condF k20).symm.trans e
         obtain ⟨_, H21, e21, s21, rfl, n21, g21, o21⟩ := kya (n2.grow (((((((g5.trans g7).trans g9).trans g11).trans g13).trans g15).trans g17).trans g19)) (n4.grow (((((((g5.trans g7).trans g9).trans g11).trans g13).trans g15).trans g17).trans g19))
         refine Runs.step e21 ?_
         refine Runs.step rfl ?_
         refine Runs.step (seen (asSl_v _)) ?_
         refine Runs.step (seen (kb _ _)) ?_
         refine Runs.cond (fun k22 => ?_) (fun k22 => ?_)
         ·replace e := (condT k22).symm.trans e
          cases e
          cases good
          exact Runs.ret ⟨(⟨none, 0, .is 0⟩ : Sl), rfl, (Nats.nil _), ((((((((g5.trans g7).trans g9).trans g11).trans g13).trans g15).trans g17).trans g19).trans g21), (Own.nil _)⟩
         ·replace e := (condF k22).symm.trans e
          obtain ⟨s23, H23, e23, n23, g23, o23⟩ := kb0 (n3.grow ((((((((g5.trans g7).trans g9).trans g11).trans g13).trans g15).trans g17).trans g19).trans g21)) false
          refine Runs.step e23 ?_
          refine Runs.step rfl ?_
          refine Runs.ifT rfl ?_
          refine Runs.step (seenAt rfl rfl) ?_
          refine Runs.step (seenAt rfl (asSl_v _)) ?_
          obtain ⟨s24, H24, e24, n24, g24, o24⟩ := kb0 (n1.grow (((((((((g5.trans g7).trans g9).trans g11).trans g13).trans g15).trans g17).trans g19).trans g21).trans g23)) false
          refine Runs.step e24 ?_
          refine Runs.step rfl ?_
          refine Runs.ifT rfl ?_
          refine Runs.step (seenAt rfl rfl) ?_
          refine Runs.step (seenAt rfl (asSl_v _)) ?_
          obtain ⟨_, H25, e25, s25, rfl, n25, g25, o25⟩ := k1s (n23.grow g24) n24 ((fromI false x3).1) ((fromI false x1).1)
          refine Runs.step e25 ?_
          refine Runs.step rfl ?_
          refine Runs.step rfl ?_
          refine Runs.ifT rfl ?_
          refine Runs.step (seenAt rfl rfl) ?_
          refine Runs.step (seenAt rfl (asSl_v _)) ?_
          refine Runs.step (seen (kb _ _)) ?_
          refine Runs.new fun H26 b26 g26 => ?_
          refine Runs.puts b26 rfl fun H27 b27 u27 => ?_
          refine Runs.new fun H28 b28 g28 => ?_
          refine Runs.step (AH.has.rd (g28.has b27) 0 rfl rfl) ?_
          refine Runs.step (AH.has.rd (g28.has b27) 1 rfl (asSl_v _)) ?_
          obtain ⟨s29, H29, e29, n29, g29, o29⟩ := kb0 (n21.grow (((((g23.trans g24).trans g25).trans g26).updr (Nat.le_trans (((g23.trans g24).trans g25)).size (Nat.le_refl _)) u27).trans g28)) false
          refine Runs.step e29 ?_
          refine Runs.step rfl ?_
          refine Runs.ifT rfl ?_
          refine Runs.step (seenAt rfl rfl) ?_
          refine Runs.step (seenAt rfl (asSl_v _)) ?_
          refine Runs.when (g29.same (g28.has b27) 0 2) ?_
          refine Runs.when (g29.same b28 0 0) ?_
          obtain ⟨_, H30, e30, s30, rfl, n30, g30, o30⟩ := kwq (n25.grow (((g26.updr (Nat.le_refl _) u27).trans g28).trans g29)) n29 (((kr ((fromI false x3).1) ((fromI false x3).2) ((fromI false x1).1) ((fromI false x1).2)).1)) ((fromI false ((invN x2 x4).1)).1)
          refine Runs.step e30 ?_
          refine Runs.step rfl ?_
          refine Runs.step rfl ?_
          refine Runs.ifT rfl ?_
          refine Runs.step (seenAt rfl rfl) ?_
          refine Runs.step (seenAt rfl (asSl_v _)) ?_
          refine Runs.step (seen (kb _ _)) ?_
          refine Runs.when (g30.same (g29.has b28) 0 0) ?_
          refine Runs.puts ((g29.trans g30).has b28) rfl fun H31 b31 u31 => ?_
          have n29_31 := (n29.grow g30).upda (Av.of_own o29 (b28).lt) u31
          have n30_31 := n30.upda (Av.of_own o30 (g29.has b28).lt) u31
          refine Runs.new fun H32 b32 g32 => ?_
          refine Runs.new fun H33 b33 g33 => ?_
          refine Runs.step (AH.has.rd ((g32.trans g33).has b31) 0 rfl rfl) ?_
          refine Runs.step (AH.has.rd ((g32.trans g33).has b31) 1 rfl (asSl_v _)) ?_
          obtain ⟨s34, H34, e34, n34, g34, o34⟩ := kb0 (n4.grow (((((((((((((((((((g5.trans g7).trans g9).trans g11).trans g13).trans g15).trans g17).trans g19).trans g21).trans g23).trans g24).trans g25).trans g26).updr (Nat.le_trans ((((((((((((g5.trans g7).trans g9).trans g11).trans g13).trans g15).trans g17).trans g19).trans g21).trans g23).trans g24).trans g25)).size (Nat.le_refl _)) u27).trans g28).trans g29).trans g30).updr (Nat.le_trans ((((((((((((((g5.trans g7).trans g9).trans g11).trans g13).trans g15).trans g17).trans g19).trans g21).trans g23).trans g24).trans g25).trans g26).updr (Nat.le_trans ((((((((((((g5.trans g7).trans g9).trans g11).trans g13).trans g15).trans g17).trans g19).trans g21).trans g23).trans g24).trans g25)).size (Nat.le_refl _)) u27)).size (Nat.le_refl _)) u31).trans g32).trans g33)) false
          refine Runs.step e34 ?_
          refine Runs.step rfl ?_
          refine Runs.ifT rfl ?_
          refine Runs.step (seenAt rfl rfl) ?_
          refine Runs.step (seenAt rfl (asSl_v _)) ?_
          refine Runs.when (g34.same ((g32.trans g33).has b31) 0 2) ?_
          refine Runs.when (g34.same b33 0 0) ?_
          refine Runs.when (g34.same (g33.has b32) 0 0) ?_
          obtain ⟨_, H35, e35, s35, s35b, rfl, n35, n35b, g35, o35, o35b⟩ := kxz (n30_31.grow ((g32.trans g33).trans g34)) n34 (((kv (((kr ((fromI false x3).1) ((fromI false x3).2) ((fromI false x1).1) ((fromI false x1).2)).1)) ((kr ((fromI false x3).1) ((fromI false x3).2) ((fromI false x1).1) ((fromI false x1).2)).2.1) ((fromI false ((invN x2 x4).1)).1) ((fromI false ((invN x2 x4).1)).2)).1)) ((fromI false x4).1)
          refine Runs.step e35 ?_
          refine Runs.step rfl ?_
          refine Runs.step rfl ?_
          refine Runs.ifT rfl ?_
          refine Runs.step (seenAt rfl rfl) ?_
          refine Runs.step (seenAt rfl (asSl_v _)) ?_
          refine Runs.step rfl ?_
          refine Runs.ifT rfl ?_
          refine Runs.step (seenAt rfl rfl) ?_
          refine Runs.step (seenAt rfl (asSl_v _)) ?_
          refine Runs.step (seen (kb _ _)) ?_
          refine Runs.when (g35.same (g34.has b33) 0 0) ?_
          refine Runs.when (g35.same ((g33.trans g34).has b32) 0 0) ?_
          refine Runs.puts (((g33.trans g34).trans g35).has b32) rfl fun H36 b36 u36 => ?_
          have n34_36 := (n34.grow g35).upda (Av.of_own o34 (g33.has b32).lt) u36
          have n35_36 := n35.upda (Av.of_own o35 ((g33.trans g34).has b32).lt) u36
          have n35b_36 := n35b.upda (Av.of_own o35b ((g33.trans g34).has b32).lt) u36
          have b33_36 := AH.has.updr ((g34.trans g35).has b33) (Nat.ne_of_gt (Nat.lt_of_lt_of_le (b32).lt (Nat.le_refl _))) u36
          refine Runs.puts b33_36 rfl fun H37 b37 u37 => ?_
          have n34_37 := n34_36.upda (Av.of_own o34 (b33).lt) u37
          have n35_37 := n35_36.upda (Av.of_own o35 (g34.has b33).lt) u37
          have n35b_37 := n35b_36.upda (Av.of_own o35b (g34.has b33).lt) u37
          have b36_37 := AH.has.updr b36 (Nat.ne_of_lt (Nat.lt_of_lt_of_le (b32).lt (Nat.le_refl _))) u37
          refine Runs.step (AH.has.rd b37 1 rfl (asSl_v _)) ?_
          obtain ⟨s38, H38, e38, n38, g38, o38⟩ := ke9 (n2.grow (((((((((((((((((((((((g5.trans g7).trans g9).trans g11).trans g13).trans g15).trans g17).trans g19).trans g21).trans g23).trans g24).trans g25).trans g26).updr (Nat.le_trans ((((((((((((g5.trans g7).trans g9).trans g11).trans g13).trans g15).trans g17).trans g19).trans g21).trans g23).trans g24).trans g25)).size (Nat.le_refl _)) u27).trans g28).trans g29).trans g30).updr (Nat.le_trans ((((((((((((((g5.trans g7).trans g9).trans g11).trans g13).trans g15).trans g17).trans g19).trans g21).trans g23).trans g24).trans g25).trans g26).updr (Nat.le_trans ((((((((((((g5.trans g7).trans g9).trans g11).trans g13).trans g15).trans g17).trans g19).trans g21).trans g23).trans g24).trans g25)).size (Nat.le_refl _)) u27)).size (Nat.le_refl _)) u31).trans g32).trans g33).trans g34).trans g35).updr (Nat.le_trans ((((((((((((((((((g5.trans g7).trans g9).trans g11).trans g13).trans g15).trans g17).trans g19).trans g21).trans g23).trans g24).trans g25).trans g26).updr (Nat.le_trans ((((((((((((g5.trans g7).trans g9).trans g11).trans g13).trans g15).trans g17).trans g19).trans g21).trans g23).trans g24).trans g25)).size (Nat.le_refl _)) u27).trans g28).trans g29).trans g30).updr (Nat.le_trans ((((((((((((((g5.trans g7).trans g9).trans g11).trans g13).trans g15).trans g17).trans g19).trans g21).trans g23).trans g24).trans g25).trans g26).updr (Nat.le_trans ((((((((((((g5.trans g7).trans g9).trans g11).trans g13).trans g15).trans g17).trans g19).trans g21).trans g23).trans g24).trans g25)).size (Nat.le_refl _)) u27)).size (Nat.le_refl _)) u31)).size (Nat.le_refl _)) u36).updr (Nat.le_trans (((((((((((((((((((g5.trans g7).trans g9).trans g11).trans g13).trans g15).trans g17).trans g19).trans g21).trans g23).trans g24).trans g25).trans g26).updr (Nat.le_trans ((((((((((((g5.trans g7).trans g9).trans g11).trans g13).trans g15).trans g17).trans g19).trans g21).trans g23).trans g24).trans g25)).size (Nat.le_refl _)) u27).trans g28).trans g29).trans g30).updr (Nat.le_trans ((((((((((((((g5.trans g7).trans g9).trans g11).trans g13).trans g15).trans g17).trans g19).trans g21).trans g23).trans g24).trans g25).trans g26).updr (Nat.le_trans ((((((((((((g5.trans g7).trans g9).trans g11).trans g13).trans g15).trans g17).trans g19).trans g21).trans g23).trans g24).trans g25)).size (Nat.le_refl _)) u27)).size (Nat.le_refl _)) u31).trans g32)).size (Nat.le_refl _)) u37)) n35b_37
          refine Runs.step e38 ?_
          refine Runs.step rfl ?_
          refine Runs.step (seen (asSl_v _)) ?_
          refine Runs.step (seen (kb _ _)) ?_
          obtain ⟨s39, H39, e39, n39, g39, o39⟩ := knp n38 (n1.grow ((((((((((((((((((((((((g5.trans g7).trans g9).trans g11).trans g13).trans g15).trans g17).trans g19).trans g21).trans g23).trans g24).trans g25).trans g26).updr (Nat.le_trans ((((((((((((g5.trans g7).trans g9).trans g11).trans g13).trans g15).trans g17).trans g19).trans g21).trans g23).trans g24).trans g25)).size (Nat.le_refl _)) u27).trans g28).trans g29).trans g30).updr (Nat.le_trans ((((((((((((((g5.trans g7).trans g9).trans g11).trans g13).trans g15).trans g17).trans g19).trans g21).trans g23).trans g24).trans g25).trans g26).updr (Nat.le_trans ((((((((((((g5.trans g7).trans g9).trans g11).trans g13).trans g15).trans g17).trans g19).trans g21).trans g23).trans g24).trans g25)).size (Nat.le_refl _)) u27)).size (Nat.le_refl _)) u31).trans g32).trans g33).trans g34).trans g35).updr (Nat.le_trans ((((((((((((((((((g5.trans g7).trans g9).trans g11).trans g13).trans g15).trans g17).trans g19).trans g21).trans g23).trans g24).trans g25).trans g26).updr (Nat.le_trans ((((((((((((g5.trans g7).trans g9).trans g11).trans g13).trans g15).trans g17).trans g19).trans g21).trans g23).trans g24).trans g25)).size (Nat.le_refl _)) u27).trans g28).trans g29).trans g30).updr (Nat.le_trans ((((((((((((((g5.trans g7).trans g9).trans g11).trans g13).trans g15).trans g17).trans g19).trans g21).trans g23).trans g24).trans g25).trans g26).updr (Nat.le_trans ((((((((((((g5.trans g7).trans g9).trans g11).trans g13).trans g15).trans g17).trans g19).trans g21).trans g23).trans g24).trans g25)).size (Nat.le_refl _)) u27)).size (Nat.le_refl _)) u31)).size (Nat.le_refl _)) u36).updr (Nat.le_trans (((((((((((((((((((g5.trans g7).trans g9).trans g11).trans g13).trans g15).trans g17).trans g19).trans g21).trans g23).trans g24).trans g25).trans g26).updr (Nat.le_trans ((((((((((((g5.trans g7).trans g9).trans g11).trans g13).trans g15).trans g17).trans g19).trans g21).trans g23).trans g24).trans g25)).size (Nat.le_refl _)) u27).trans g28).trans g29).trans g30).updr (Nat.le_trans ((((((((((((((g5.trans g7).trans g9).trans g11).trans g13).trans g15).trans g17).trans g19).trans g21).trans g23).trans g24).trans g25).trans g26).updr (Nat.le_trans ((((((((((((g5.trans g7).trans g9).trans g11).trans g13).trans g15).trans g17).trans g19).trans g21).trans g23).trans g24).trans g25)).size (Nat.le_refl _)) u27)).size (Nat.le_refl _)) u31).trans g32)).size (Nat.le_refl _)) u37).trans g38))
          refine Runs.step e39 ?_
          refine Runs.step rfl ?_
          refine Runs.step (seen (asSl_v _)) ?_
          refine Runs.step (seen (kb _ _)) ?_
          cases e
          cases good
          exact Runs.ret ⟨s39, rfl, n39, (((((((((((((((((((((((((g5.trans g7).trans g9).trans g11).trans g13).trans g15).trans g17).trans g19).trans g21).trans g23).trans g24).trans g25).trans g26).updr (Nat.le_trans ((((((((((((g5.trans g7).trans g9).trans g11).trans g13).trans g15).trans g17).trans g19).trans g21).trans g23).trans g24).trans g25)).size (Nat.le_refl _)) u27).trans g28).trans g29).trans g30).updr (Nat.le_trans ((((((((((((((g5.trans g7).trans g9).trans g11).trans g13).trans g15).trans g17).trans g19).trans g21).trans g23).trans g24).trans g25).trans g26).updr (Nat.le_trans ((((((((((((g5.trans g7).trans g9).trans g11).trans g13).trans g15).trans g17).trans g19).trans g21).trans g23).trans g24).trans g25)).size (Nat.le_refl _)) u27)).size (Nat.le_refl _)) u31).trans g32).trans g33).trans g34).trans g35).updr (Nat.le_trans ((((((((((((((((((g5.trans g7).trans g9).trans g11).trans g13).trans g15).trans g17).trans g19).trans g21).trans g23).trans g24).trans g25).trans g26).updr (Nat.le_trans ((((((((((((g5.trans g7).trans g9).trans g11).trans g13).trans g15).trans g17).trans g19).trans g21).trans g23).trans g24).trans g25)).size (Nat.le_refl _)) u27).trans g28).trans g29).trans g30).updr (Nat.le_trans ((((((((((((((g5.trans g7).trans g9).trans g11).trans g13).trans g15).trans g17).trans g19).trans g21).trans g23).trans g24).trans g25).trans g26).updr (Nat.le_trans ((((((((((((g5.trans g7).trans g9).trans g11).trans g13).trans g15).trans g17).trans g19).trans g21).trans g23).trans g24).trans g25)).size (Nat.le_refl _)) u27)).size (Nat.le_refl _)) u31)).size (Nat.le_refl _)) u36).updr (Nat.le_trans (((((((((((((((((((g5.trans g7).trans g9).trans g11).trans g13).trans g15).trans g17).trans g19).trans g21).trans g23).trans g24).trans g25).trans g26).updr (Nat.le_trans ((((((((((((g5.trans g7).trans g9).trans g11).trans g13).trans g15).trans g17).trans g19).trans g21).trans g23).trans g24).trans g25)).size (Nat.le_refl _)) u27).trans g28).trans g29).trans g30).updr (Nat.le_trans ((((((((((((((g5.trans g7).trans g9).trans g11).trans g13).trans g15).trans g17).trans g19).trans g21).trans g23).trans g24).trans g25).trans g26).updr (Nat.le_trans ((((((((((((g5.trans g7).trans g9).trans g11).trans g13).trans g15).trans g17).trans g19).trans g21).trans g23).trans g24).trans g25)).size (Nat.le_refl _)) u27)).size (Nat.le_refl _)) u31).trans g32)).size (Nat.le_refl _)) u37).trans g38).trans g39), (o39.of_le ((((((((((((((((((((((((g5.trans g7).trans g9).trans g11).trans g13).trans g15).trans g17).trans g19).trans g21).trans g23).trans g24).trans g25).trans g26).updr (Nat.le_trans ((((((((((((g5.trans g7).trans g9).trans g11).trans g13).trans g15).trans g17).trans g19).trans g21).trans g23).trans g24).trans g25)).size (Nat.le_refl _)) u27).trans g28).trans g29).trans g30).updr (Nat.le_trans ((((((((((((((g5.trans g7).trans g9).trans g11).trans g13).trans g15).trans g17).trans g19).trans g21).trans g23).trans g24).trans g25).trans g26).updr (Nat.le_trans ((((((((((((g5.trans g7).trans g9).trans g11).trans g13).trans g15).trans g17).trans g19).trans g21).trans g23).trans g24).trans g25)).size (Nat.le_refl _)) u27)).size (Nat.le_refl _)) u31).trans g32).trans g33).trans g34).trans g35).updr (Nat.le_trans ((((((((((((((((((g5.trans g7).trans g9).trans g11).trans g13).trans g15).trans g17).trans g19).trans g21).trans g23).trans g24).trans g25).trans g26).updr (Nat.le_trans ((((((((((((g5.trans g7).trans g9).trans g11).trans g13).trans g15).trans g17).trans g19).trans g21).trans g23).trans g24).trans g25)).size (Nat.le_refl _)) u27).trans g28).trans g29).trans g30).updr (Nat.le_trans ((((((((((((((g5.trans g7).trans g9).trans g11).trans g13).trans g15).trans g17).trans g19).trans g21).trans g23).trans g24).trans g25).trans g26).updr (Nat.le_trans ((((((((((((g5.trans g7).trans g9).trans g11).trans g13).trans g15).trans g17).trans g19).trans g21).trans g23).trans g24).trans g25)).size (Nat.le_refl _)) u27)).size (Nat.le_refl _)) u31)).size (Nat.le_refl _)) u36).updr (Nat.le_trans (((((((((((((((((((g5.trans g7).trans g9).trans g11).trans g13).trans g15).trans g17).trans g19).trans g21).trans g23).trans g24).trans g25).trans g26).updr (Nat.le_trans ((((((((((((g5.trans g7).trans g9).trans g11).trans g13).trans g15).trans g17).trans g19).trans g21).trans g23).trans g24).trans g25)).size (Nat.le_refl _)) u27).trans g28).trans g29).trans g30).updr (Nat.le_trans ((((((((((((((g5.trans g7).trans g9).trans g11).trans g13).trans g15).trans g17).trans g19).trans g21).trans g23).trans g24).trans g25).trans g26).updr (Nat.le_trans ((((((((((((g5.trans g7).trans g9).trans g11).trans g13).trans g15).trans g17).trans g19).trans g21).trans g23).trans g24).trans g25)).size (Nat.le_refl _)) u27)).size (Nat.le_refl _)) u31).trans g32)).size (Nat.le_refl _)) u37).trans g38))⟩
theorem k9b {s : kj5} {r : kik} (it : Iter kqf s r) : kt8 r s := Iter.ind (fun s o e good => by
 cases s with
 | fn x1 x2 x3 x4 => exact @kbch _ _ x1 x2 x3 x4 e good
 | no => exact True.intro
 ) it
inductive ko4
 | fn (x1 : List Nat) (x2 : List Nat) (x3 : List Nat) (x4 : List Nat)
 | p3 (x1 : List Nat) (x2 : List Nat) (x3 : List Nat) (x4 : List Nat) (x5 : List (List Nat)) (a6 : Int)
abbrev km8 := List Nat × Int
noncomputable def k4e (x1 : List Nat) (x2 : List Nat) (x3 : List Nat) (x4 : List Nat) : Option (ko4 ⊕ km8) :=
 some (.inl (.p3 x1 x2 x3 x4 [x1, x2, x3, x4] 0))
noncomputable def kib (x1 : List Nat) (x2 : List Nat) (x3 : List Nat) (x4 : List Nat) (x5 : List (List Nat)) (a6 : Int) : Option (ko4 ⊕ km8) :=
 cond (decide (a6 < 4)) ((atL x5 a6).bind fun y8 => cond (!(rt y8)) (some (.inr ([], 1))) ((atL x5 a6).bind fun y11 => cond (decide ((List.length y11 : Int) > 8)) (some (.inr ([], 1))) (some (.inl (.p3 x1 x2 x3 x4 x5 (IntKind.wrap .i64 (a6 + 1))))))) ((u64P 2).bind fun p8 => cond (decide ((cmpN x2 (digs B p8)) < 0)) (some (.inr ([], 1))) (cond (decide ((cmpN x4 (digs B p8)) < 0)) (some (.inr ([], 1))) (cond (decide ((cmpN x1 x2) ≥ 0)) (some (.inr ([], 1))) (cond (decide ((cmpN x3 x4) ≥ 0)) (some (.inr ([], 1))) (cond (!decide (((invN x2 x4).2) = 0)) (some (.inr ([], ((invN x2 x4).2)))) (some (.inr ((addN x1 ((mulN x2 ((floorI (((kv (((kr ((fromI false x3).1) ((fromI false x3).2) ((fromI false x1).1) ((fromI false x1).2)).1)) ((kr ((fromI false x3).1) ((fromI false x3).2) ((fromI false x1).1) ((fromI false x1).2)).2.1) ((fromI false ((invN x2 x4).1)).1) ((fromI false ((invN x2 x4).1)).2)).1)) ((kv (((kr ((fromI false x3).1) ((fromI false x3).2) ((fromI false x1).1) ((fromI false x1).2)).1)) ((kr ((fromI false x3).1) ((fromI false x3).2) ((fromI false x1).1) ((fromI false x1).2)).2.1) ((fromI false ((invN x2 x4).1)).1) ((fromI false ((invN x2 x4).1)).2)).2.1) ((fromI false x4).1) ((fromI false x4).2)).2.2.2.1)).1)).1, 0))))))))
noncomputable def kjj : ko4 → Option (ko4 ⊕ km8)
 | .fn x1 x2 x3 x4 => k4e x1 x2 x3 x4
 | .p3 x1 x2 x3 x4 x5 a6 => kib x1 x2 x3 x4 x5 a6
end Go.Ab

/- squeezed -/
set_option linter.unusedVariables false
set_option linter.unusedSimpArgs false
set_option maxRecDepth 10000
namespace Go.Ab
open Go.Proofs Go.Num
def CrtOk (x1 x2 x3 x4 : List Nat) : Prop :=
 (rt x1 = true ∧ x1.length ≤ 8) ∧ (rt x2 = true ∧ x2.length ≤ 8) ∧ (rt x3 = true ∧ x3.length ≤ 8) ∧ (rt x4 = true ∧ x4.length ≤ 8) ∧ 2 ≤ num B x2 ∧ 2 ≤ num B x4 ∧ num B x1 < num B x2 ∧ num B x3 < num B x4
def ky5 (x1 x2 x3 x4 : List Nat) (r : List Nat × Int) : Prop :=
 (r.2 ≠ 0 → r.1 = []) ∧
 (CrtOk x1 x2 x3 x4 → Nat.gcd (num B x4) (num B x2 % num B x4) = 1 → r.2 = 0) ∧
 (r.2 = 0 → ∃ X, r = (digs B X, 0) ∧ CrtOk x1 x2 x3 x4 ∧ X < num B x2 * num B x4 ∧ X % num B x2 = num B x1 ∧ X % num B x4 = num B x3)
theorem k9k {a b m n w k : Nat} (hm : w * m % n = 1) (hb : b < n) (hk : ((b : Int) - (a : Int)) * (w : Int) % (n : Int) = (k : Int)) : (a + m * k) % n = b := by
 have hn : (n : Int) ≠ 0 := by omega
 have e1 : ((w : Int) * (m : Int)) % (n : Int) = 1 := by
  rw [← Int.natCast_mul, ← Int.natCast_emod, hm]
  rfl
 have e2 : ((m : Int) * (k : Int)) % (n : Int) = ((b : Int) - (a : Int)) % (n : Int) := by
  rw [← hk, Int.mul_emod, Int.emod_emod_of_dvd _ (Int.dvd_refl _), ← Int.mul_emod]
  have : (m : Int) * (((b : Int) - (a : Int)) * (w : Int)) = ((b : Int) - (a : Int)) * ((w : Int) * (m : Int)) := by
   rw [Int.mul_left_comm, Int.mul_comm (m : Int)]
  rw [this, Int.mul_emod, e1, Int.mul_one, Int.emod_emod_of_dvd _ (Int.dvd_refl _)]
 have e3 : ((a : Int) + (m : Int) * (k : Int)) % (n : Int) = (b : Int) := by
  rw [Int.add_emod, e2, ← Int.add_emod, show (a : Int) + ((b : Int) - (a : Int)) = (b : Int) from by omega]
  exact Int.emod_eq_of_lt (by omega) (by omega)
 have e4 : (((a + m * k) % n : Nat) : Int) = (b : Int) := by
  rw [Int.natCast_emod, Int.natCast_add, Int.natCast_mul]
  exact e3
 omega
theorem pow8 {xs : List Nat} (h : ∀ x ∈ xs, x < B) (hl : xs.length ≤ 8) : num B xs < B ^ 8 := by
 have h1 := num_lt B1 h
 have h2 : B ^ xs.length ≤ B ^ 8 := Nat.pow_le_pow_right B1 hl
 omega
theorem B16 : B ^ 8 * B ^ 8 * 2 ≤ B ^ 64 := by
 rw [← Nat.pow_add]
 have h1 : B ^ 16 * B ≤ B ^ 64 := by
  rw [← Nat.pow_succ]
  exact Nat.pow_le_pow_right B1 (by decide)
 have h2 : B ^ 16 * 2 ≤ B ^ 16 * B := Nat.mul_le_mul_left _ B2
 exact Nat.le_trans h2 h1
theorem k9h {a b w n : Nat} (ha : a < B ^ 8) (hb : b < B ^ 8) (hw : w < B ^ 8) (hn : n < B ^ 8) (hn0 : 0 < n) : ∃ k : Nat, k < n ∧ ((b : Int) - (a : Int)) * (w : Int) % (n : Int) = (k : Int) ∧
  (floorI (((kv (((kr ((fromI false (digs B b)).1) ((fromI false (digs B b)).2) ((fromI false (digs B a)).1) ((fromI false (digs B a)).2)).1)) ((kr ((fromI false (digs B b)).1) ((fromI false (digs B b)).2) ((fromI false (digs B a)).1) ((fromI false (digs B a)).2)).2.1) ((fromI false (digs B w)).1) ((fromI false (digs B w)).2)).1)) ((kv (((kr ((fromI false (digs B b)).1) ((fromI false (digs B b)).2) ((fromI false (digs B a)).1) ((fromI false (digs B a)).2)).1)) ((kr ((fromI false (digs B b)).1) ((fromI false (digs B b)).2) ((fromI false (digs B a)).1) ((fromI false (digs B a)).2)).2.1) ((fromI false (digs B w)).1) ((fromI false (digs B w)).2)).2.1) ((fromI false (digs B n)).1) ((fromI false (digs B n)).2)).2.2.2.1 = digs B k := by
 have b16 := B16
 have p8 : 1 ≤ B ^ 8 := Nat.pow_pos B1
 have p16 : B ^ 8 * 1 ≤ B ^ 8 * B ^ 8 := Nat.mul_le_mul_left _ p8
 have f : ∀ {x : Nat}, x < B ^ 8 → fromI false (digs B x) = intD (x : Int) := fun {x} hx => by rw [kct (by omega)]; rfl
 have hd : ((b : Int) - (a : Int)).natAbs < B ^ 8 := by omega
 have hp : (((b : Int) - (a : Int)) * (w : Int)).natAbs < B ^ 64 := by
  rw [Int.natAbs_mul, Int.natAbs_natCast]
  have := Nat.mul_lt_mul_of_lt_of_lt hd hw
  omega
 have h0 := Int.emod_nonneg (((b : Int) - (a : Int)) * (w : Int)) (show (n : Int) ≠ 0 by omega)
 have h1 := Int.emod_lt_of_pos (((b : Int) - (a : Int)) * (w : Int)) (show 0 < (n : Int) by omega)
 obtain ⟨k, hk⟩ : ∃ k : Nat, ((b : Int) - (a : Int)) * (w : Int) % (n : Int) = (k : Int) := ⟨_, (Int.toNat_of_nonneg h0).symm⟩
 refine ⟨k, by omega, hk, ?_⟩
 rw [f hb, f ha, f hw, f hn, kwz (by rw [Int.natAbs_natCast]; omega) (by rw [Int.natAbs_natCast]; omega), if_pos (by omega)]
 dsimp only
 rw [kv1 (by omega) (by rw [Int.natAbs_natCast]; omega), if_pos hp]
 dsimp only
 rw [kvm hp (by rw [Int.natAbs_natCast]; omega) (by omega), hk]
 dsimp only
 rw [koz]
end Go.Ab

/- squeezed -/
set_option linter.unusedVariables false
set_option linter.unusedSimpArgs false
set_option maxRecDepth 10000
namespace Go.Ab
open Go.Proofs Go.Num
theorem crt_1 {x : List Nat} : kdy x = false ↔ rt x = true ∧ x.length ≤ 8 := by
 unfold kdy
 cases rt x with
 | false => simp
 | true =>
  simp only [Bool.not_true, cond_false, true_and, decide_eq_false_iff_not]
  omega
theorem kub {xs ys : List Nat} (hx : rt xs = true) (hy : rt ys = true) : cmpN xs ys = cmp (num B xs) (num B ys) := by
 unfold cmpN
 rw [if_pos ⟨hx, hy⟩]
theorem kbbf : num B (digs B 2) = 2 := kf B2 2
theorem crt_2 {x : List Nat} (h : rt x = true) : khl x = false ↔ 2 ≤ num B x := by
 unfold khl
 rw [kub h (by decide), decide_eq_false_iff_not, cmp_le, show num B [1] = 1 from by simp [num]]
 omega
theorem ki5 {xs ys : List Nat} (hx : rt xs = true) (hy : rt ys = true) : decide (cmpN xs ys ≥ 0) = false ↔ num B xs < num B ys := by
 rw [kub hx hy, decide_eq_false_iff_not, cmp_ge]
 omega
theorem krr : u64P 2 = some 2 := kbb (n := 2) (by decide)
theorem rt_two : rt (digs B 2) = true := kj (by have := kq5; omega)
theorem knz {xs : List Nat} (hx : rt xs = true) : decide (cmpN xs (digs B 2) < 0) = false ↔ 2 ≤ num B xs := by
 rw [kub hx rt_two, decide_eq_false_iff_not, cmp_lt, kbbf]
 omega
theorem k5f {x1 x2 x3 x4 : List Nat} (h : ¬ CrtOk x1 x2 x3 x4) : Iter kqf (.fn x1 x2 x3 x4) ([], 1) := by
 refine .done ?_
 show kf2 _ _ _ _ = _
 unfold kf2
 refine kb6 (fun _ => rfl) fun k1 => ?_
 refine kb6 (fun _ => rfl) fun k3 => ?_
 refine kb6 (fun _ => rfl) fun k2 => ?_
 refine kb6 (fun _ => rfl) fun k4 => ?_
 refine kb6 (fun _ => rfl) fun k5 => ?_
 refine kb6 (fun _ => rfl) fun k6 => ?_
 refine kb6 (fun _ => rfl) fun k7 => ?_
 refine kb6 (fun _ => rfl) fun k8 => ?_
 exfalso
 have g1 := crt_1.1 k1
 have g2 := crt_1.1 k2
 have g3 := crt_1.1 k3
 have g4 := crt_1.1 k4
 exact h ⟨g1, g2, g3, g4, (crt_2 g2.1).1 k5, (crt_2 g4.1).1 k6, (ki5 g1.1 g2.1).1 k7, (ki5 g3.1 g4.1).1 k8⟩
theorem kn7 {x1 x2 x3 x4 : List Nat} {L : List (List Nat)} {r : km8} (hL : L.length = 4) {i : Nat} (hi : i < 4) (bad : ¬ (rt (L[i]'(by omega)) = true ∧ (L[i]'(by omega)).length ≤ 8) → r = ([], 1))
  (K : (rt (L[i]'(by omega)) = true ∧ (L[i]'(by omega)).length ≤ 8) → Iter kjj (.p3 x1 x2 x3 x4 L ((i + 1 : Nat) : Int)) r) : Iter kjj (.p3 x1 x2 x3 x4 L (i : Int)) r := by
 have ha : atL L (i : Int) = some (L[i]'(by omega)) := by
  unfold atL
  rw [if_pos (by omega), Int.toNat_natCast, List.getElem?_eq_getElem]
 generalize L[i]'(by omega) = y at *
 have unf : ∀ o, cond (!(rt y)) (some (.inr ([], 1))) (cond (decide ((List.length y : Int) > 8)) (some (.inr ([], 1))) (some (.inl (.p3 x1 x2 x3 x4 L ((i + 1 : Nat) : Int))))) = o → kjj (.p3 x1 x2 x3 x4 L (i : Int)) = o := by
  intro o ho
  show kib _ _ _ _ _ _ = _
  unfold kib
  rw [condT (by rw [decide_eq_true_eq]; omega), ha, Option.bind_some, Option.bind_some, ks (by omega)]
  exact ho
 by_cases g : rt y = true ∧ y.length ≤ 8
 ·refine .next (unf _ ?_) (K g)
  rw [g.1, condF (by rfl), condF (by rw [decide_eq_false_iff_not]; omega)]
 ·refine .done (unf _ ?_)
  rw [bad g]
  cases hr : rt y with
  | false => rfl
  | true =>
   have : ¬ y.length ≤ 8 := fun h => g ⟨hr, h⟩
   rw [condF (by rfl), condT (by rw [decide_eq_true_eq]; omega)]
theorem kut {x1 x2 x3 x4 : List Nat} {r : km8} (bad : ¬ ((rt x1 = true ∧ x1.length ≤ 8) ∧ (rt x2 = true ∧ x2.length ≤ 8) ∧ (rt x3 = true ∧ x3.length ≤ 8) ∧ (rt x4 = true ∧ x4.length ≤ 8)) → r = ([], 1))
  (K : ((rt x1 = true ∧ x1.length ≤ 8) ∧ (rt x2 = true ∧ x2.length ≤ 8) ∧ (rt x3 = true ∧ x3.length ≤ 8) ∧ (rt x4 = true ∧ x4.length ≤ 8)) → kib x1 x2 x3 x4 [x1, x2, x3, x4] 4 = some (.inr r)) : Iter kjj (.fn x1 x2 x3 x4) r := by
 refine .next (s' := .p3 x1 x2 x3 x4 [x1, x2, x3, x4] ((0 : Nat) : Int)) rfl ?_
 refine kn7 rfl (by omega) (fun h => bad fun g => h g.1) fun g1 => ?_
 refine kn7 rfl (by omega) (fun h => bad fun g => h g.2.1) fun g2 => ?_
 refine kn7 rfl (by omega) (fun h => bad fun g => h g.2.2.1) fun g3 => ?_
 refine kn7 rfl (by omega) (fun h => bad fun g => h g.2.2.2) fun g4 => ?_
 exact .done (K ⟨g1, g2, g3, g4⟩)
theorem crt_fn {x1 x2 x3 x4 : List Nat} (l1 : ∀ x ∈ x1, x < B) (l2 : ∀ x ∈ x2, x < B) (l3 : ∀ x ∈ x3, x < B) (l4 : ∀ x ∈ x4, x < B) :
  ∃ r, Iter kqf (.fn x1 x2 x3 x4) r ∧ Iter kjj (.fn x1 x2 x3 x4) r ∧ ky5 x1 x2 x3 x4 r := by
 by_cases G : CrtOk x1 x2 x3 x4
 ·obtain ⟨g1, g2, g3, g4, hm, hn, ha, hb⟩ := id G
  have k1 := crt_1.2 g1
  have k2 := crt_1.2 g2
  have k3 := crt_1.2 g3
  have k4 := crt_1.2 g4
  have k5 := (crt_2 g2.1).2 hm
  have k6 := (crt_2 g4.1).2 hn
  have k7 := (ki5 g1.1 g2.1).2 ha
  have k8 := (ki5 g3.1 g4.1).2 hb
  have q5 := (knz g2.1).2 hm
  have q6 := (knz g4.1).2 hn
  have S := (klf l2 l4).2.2.1 ⟨g2.1, g4.1, hn⟩
  have four : decide ((4 : Int) < 4) = false := rfl
  by_cases hg : Nat.gcd (num B x4) (num B x2 % num B x4) = 1
  ·obtain ⟨w, hw, hr, hwm⟩ := S.2 hg
   have a8 := pow8 l1 g1.2
   have m8 := pow8 l2 g2.2
   have b8 := pow8 l3 g3.2
   have n8 := pow8 l4 g4.2
   obtain ⟨k, hk, hke, hfl⟩ := k9h (a := num B x1) (b := num B x3) (w := w) (n := num B x4) a8 b8 (by omega) n8 (by omega)
   rw [kcx B2 l1 (rt_iff.1 g1.1).2, kcx B2 l3 (rt_iff.1 g3.1).2, kcx B2 l4 (rt_iff.1 g4.1).2] at hfl
   have b16 := B16
   have p16 : B ^ 8 * 1 ≤ B ^ 8 * B ^ 8 := Nat.mul_le_mul_left _ (Nat.pow_pos B1)
   have hprod : num B x2 * num B x4 < B ^ 8 * B ^ 8 := Nat.mul_lt_mul_of_lt_of_lt m8 n8
   have hX : num B x1 + num B x2 * k < num B x2 * num B x4 := by
    have : num B x2 * (k + 1) ≤ num B x2 * num B x4 := Nat.mul_le_mul_left _ hk
    rw [Nat.mul_add, Nat.mul_one] at this
    omega
   have em : mulN x2 (digs B k) = (digs B (num B x2 * k), 0) := by
    unfold mulN
    rw [if_pos ⟨g2.1, kj (by omega)⟩, kf B2, ki3 (by omega)]
   have ad1 : addN (digs B (num B x2 * k)) x1 = (digs B (num B x1 + num B x2 * k), 0) := by
    unfold addN
    rw [if_pos ⟨kj (by omega), g1.1⟩, kf B2, Nat.add_comm, ki3 (by omega)]
   have ad2 : addN x1 (digs B (num B x2 * k)) = (digs B (num B x1 + num B x2 * k), 0) := by
    unfold addN
    rw [if_pos ⟨g1.1, kj (by omega)⟩, kf B2, ki3 (by omega)]
   refine ⟨(digs B (num B x1 + num B x2 * k), 0), .done ?_, kut (fun h => absurd ⟨g1, g2, g3, g4⟩ h) fun _ => ?_, fun h => absurd rfl h, fun _ _ => rfl, fun _ => ⟨_, rfl, G, hX, ?_, ?_⟩⟩
   ·show kf2 _ _ _ _ = _
    unfold kf2
    rw [k1, k2, k3, k4, k5, k6, k7, k8]
    simp only [cond_false]
    rw [hr]
    dsimp only
    rw [condF (by rfl), hfl, em]
    dsimp only
    rw [ad1]
   ·unfold kib
    rw [four, cond_false, krr, Option.bind_some, q5, q6, k7, k8]
    simp only [cond_false]
    rw [hr]
    dsimp only
    rw [condF (by rfl), hfl, em]
    dsimp only
    rw [ad2]
   ·rw [Nat.add_mul_mod_self_left, Nat.mod_eq_of_lt ha]
   ·exact k9k hwm hb hke
  ·have hr := S.1 hg
   refine ⟨([], 6), .done ?_, kut (fun h => absurd ⟨g1, g2, g3, g4⟩ h) fun _ => ?_, fun _ => rfl, fun _ h => absurd h hg, fun h => by cases h⟩
   ·show kf2 _ _ _ _ = _
    unfold kf2
    rw [k1, k2, k3, k4, k5, k6, k7, k8, hr]
    rfl
   ·unfold kib
    rw [four, cond_false, krr, Option.bind_some, q5, q6, k7, k8, hr]
    rfl
 ·refine ⟨([], 1), k5f G, kut (fun _ => rfl) fun g => ?_, fun _ => rfl, fun h => absurd h G, fun h => by cases h⟩
  obtain ⟨g1, g2, g3, g4⟩ := g
  unfold kib
  rw [show decide ((4 : Int) < 4) = false from rfl, cond_false, krr, Option.bind_some]
  refine kb6 (fun _ => rfl) fun k5 => ?_
  refine kb6 (fun _ => rfl) fun k6 => ?_
  refine kb6 (fun _ => rfl) fun k7 => ?_
  refine kb6 (fun _ => rfl) fun k8 => ?_
  exact absurd ⟨g1, g2, g3, g4, (knz g2.1).1 k5, (knz g4.1).1 k6, (ki5 g1.1 g2.1).1 k7, (ki5 g3.1 g4.1).1 k8⟩ G
noncomputable def crtN (x1 x2 x3 x4 : List Nat) : List Nat × Int := by
 classical
 exact if h : (∀ x ∈ x1, x < B) ∧ (∀ x ∈ x2, x < B) ∧ (∀ x ∈ x3, x < B) ∧ (∀ x ∈ x4, x < B) then (crt_fn h.1 h.2.1 h.2.2.1 h.2.2.2).choose else ([], 0)
theorem kxu {x1 x2 x3 x4 : List Nat} (l1 : ∀ x ∈ x1, x < B) (l2 : ∀ x ∈ x2, x < B) (l3 : ∀ x ∈ x3, x < B) (l4 : ∀ x ∈ x4, x < B) : Iter kqf (.fn x1 x2 x3 x4) (crtN x1 x2 x3 x4) ∧ Iter kjj (.fn x1 x2 x3 x4) (crtN x1 x2 x3 x4) ∧ ky5 x1 x2 x3 x4 (crtN x1 x2 x3 x4) := by
 unfold crtN
 rw [dif_pos ⟨l1, l2, l3, l4⟩]
 exact (crt_fn l1 l2 l3 l4).choose_spec
theorem kbaz {h : AH} {a b c d : Sl} {x1 x2 x3 x4 : List Nat} (n1 : Nats h a x1) (n2 : Nats h b x2) (n3 : Nats h c x3) (n4 : Nats h d x4) : Runs (go (.fn F.kob [a.v, b.v, c.v, d.v]) h) (kzv h (crtN x1 x2 x3 x4)) := k9b (kxu n1.lt n2.lt n3.lt n4.lt).1 n1 n2 n3 n4
end Go.Ab

/- squeezed -/
set_option linter.unusedVariables false
set_option linter.unusedSimpArgs false
namespace Go.Ab
variable {P : Program}
inductive All2 {α β : Type} (R : α → β → Prop) : List α → List β → Prop
 | nil : All2 R [] []
 | cons {a : α} {b : β} {ls : List α} {bs : List β} : R a b → All2 R ls bs → All2 R (a :: ls) (b :: bs)
section
variable {α β : Type} {R S : α → β → Prop}
theorem All2.imp (f : ∀ a b, R a b → S a b) {ls : List α} {bs : List β} (a : All2 R ls bs) : All2 S ls bs := by
 induction a with
 | nil => exact .nil
 | cons h _ ih => exact .cons (f _ _ h) ih
theorem All2.length {ls : List α} {bs : List β} (a : All2 R ls bs) : ls.length = bs.length := by
 induction a with
 | nil => rfl
 | cons h _ ih => simp [ih]
theorem All2.get {ls : List α} {bs : List β} (a : All2 R ls bs) : ∀ {i : Nat} {y : β}, bs[i]? = some y → ∃ x, ls[i]? = some x ∧ R x y := by
 induction a with
 | nil => intro i y h; simp at h
 | cons h _ ih =>
  intro i y hy
  cases i with
  | zero => cases hy; exact ⟨_, rfl, h⟩
  | succ i => exact ih hy
theorem All2.snoc {ls : List α} {bs : List β} (a : All2 R ls bs) {x : α} {y : β} (h : R x y) : All2 R (ls ++ [x]) (bs ++ [y]) := by
 induction a with
 | nil => exact .cons h .nil
 | cons h' _ ih => exact .cons h' ih
end
structure El (α : Type) where
 w : Nat
 pos : 0 < w
 has : AH → List AV → α → Prop
 av : Nat → List AV → α → Prop
 len : ∀ {h : AH} {cs : List AV} {a : α}, has h cs a → cs.length = w
 grow : ∀ {h h' : AH} {cs : List AV} {a : α}, Grow h h' → has h cs a → has h' cs a
 upd : ∀ {h h' : AH} {i : Nat} {cs : List AV} {a : α}, has h cs a → av i cs a → Upd h h' i → has h' cs a
 new : ∀ {h : AH} {i : Nat} {cs : List AV} {a : α}, has h cs a → h.blks.size ≤ i → av i cs a
def El.int (k : IntKind) : El Int where
 w := 1
 pos := by decide
 has _ cs n := cs = [.int k n]
 av _ _ _ := True
 len e := by rw [e]; rfl
 grow _ e := e
 upd e _ _ := e
 new _ _ := trivial
def El.bool : El Bool where
 w := 1
 pos := by decide
 has _ cs b := cs = [.bool b]
 av _ _ _ := True
 len e := by rw [e]; rfl
 grow _ e := e
 upd e _ _ := e
 new _ _ := trivial
theorem Sl.vs_inj {s t : Sl} (h : [Sl.v s] = [Sl.v t]) : s = t := by
 cases s; cases t
 simp only [Sl.v, List.cons.injEq, AV.slice.injEq, and_true] at h
 obtain ⟨rfl, rfl, rfl⟩ := h
 rfl
def El.nats : El (List Nat) where
 w := 1
 pos := by decide
 has h cs xs := ∃ s, cs = [Sl.v s] ∧ Nats h s xs
 av i cs xs := ∃ s, cs = [Sl.v s] ∧ Av s i xs
 len := fun ⟨s, e, _⟩ => by rw [e]; rfl
 grow g := fun ⟨s, e, n⟩ => ⟨s, e, n.grow g⟩
 upd := fun ⟨s, e, n⟩ ⟨t, e', a⟩ u => by
  rw [e] at e'
  cases Sl.vs_inj e'
  exact ⟨s, e, n.upda a u⟩
 new := fun ⟨s, e, n⟩ hi => ⟨s, e, Av.of_base n hi⟩
theorem ks4 {w : Nat} : ∀ {rows : List (List AV)}, (∀ r ∈ rows, r.length = w) → rows.flatten.length = rows.length * w
 | [], _ => by simp
 | r :: rows, h => by
  rw [List.flatten_cons, List.length_append, ks4 (fun q hq => h q (by simp [hq])), h r (by simp), List.length_cons, Nat.add_mul]
  omega
theorem k1p {w : Nat} : ∀ {rows : List (List AV)}, (∀ r ∈ rows, r.length = w) → ∀ {i : Nat} {r : List AV} {k : Nat} {v : AV}, rows[i]? = some r → r[k]? = some v → rows.flatten[i * w + k]? = some v
 | [], _, i, r, k, v, hi, _ => by simp at hi
 | q :: rows, h, 0, r, k, v, hi, hk => by
  cases hi
  rw [List.flatten_cons, List.getElem?_append_left (by have := (List.getElem?_eq_some_iff.1 hk).1; omega)]
  simpa using hk
 | q :: rows, h, i + 1, r, k, v, hi, hk => by
  have := k1p (fun q hq => h q (by simp [hq])) (show rows[i]? = some r from hi) hk
  rw [List.flatten_cons, List.getElem?_append_right (by rw [h q (by simp), Nat.add_mul]; omega), h q (by simp), show (i + 1) * w + k - w = i * w + k from by rw [Nat.add_mul]; omega]
  exact this
theorem All2.rows {α : Type} {E : El α} {h : AH} {rows : List (List AV)} {xs : List α} (a : All2 (E.has h) rows xs) : ∀ r ∈ rows, r.length = E.w := by
 induction a with
 | nil => simp
 | cons h' _ ih =>
  intro r hr
  rcases List.mem_cons.1 hr with rfl | hr
  ·exact E.len h'
  ·exact ih r hr
structure Seq {α : Type} (E : El α) (h : AH) (s : Sl) (xs : List α) : Prop where
 rows : ∃ rows, Cells h s E.w rows.flatten ∧ All2 (E.has h) rows xs
 len : s.len = xs.length
 short : xs.length ≤ 9223372036854775807
theorem Seq.grow {α : Type} {E : El α} {h h' : AH} {s : Sl} {xs : List α} (n : Seq E h s xs) (g : Grow h h') : Seq E h' s xs := by
 obtain ⟨⟨rows, c, a⟩, l, sh⟩ := n
 exact ⟨⟨rows, c.grow g, a.imp fun _ _ => E.grow g⟩, l, sh⟩
theorem Seq.nil {α : Type} (E : El α) (h : AH) : Seq E h ⟨none, 0, .is 0⟩ [] := ⟨⟨[], Cells.nil h _, .nil⟩, rfl, by simp⟩
def atX {α : Type} (xs : List α) (i : Int) : Option α := if 0 ≤ i then xs[i.toNat]? else none
theorem k3l {α : Type} {xs : List α} {i : Int} {y : α} (q : atX xs i = some y) : ∃ j : Nat, i = (j : Int) ∧ xs[j]? = some y := by
 unfold atX at q
 split at q
 ·exact ⟨i.toNat, by omega, q⟩
 ·cases q
theorem kvr {α : Type} {xs : List α} {i : Nat} (h : i < xs.length) : atX xs (i : Int) = some xs[i] := by
 unfold atX
 rw [if_pos (by omega), Int.toNat_natCast, List.getElem?_eq_getElem h]
structure Lies (h : AH) (r : Ref) (cs : List AV) : Prop where
 at' : ∀ k v, cs[k]? = some v → h.cell (r.add k) = some v
theorem Lies.rd {A : Type} {f : AV → Option A} {h h' : AH} {r : Ref} {cs : List AV} (l : Lies h r cs) (g : Grow h h') (k : Nat) {v : AV} {x : A} (hk : cs[k]? = some v) (hf : f v = some x) : (h'.cell (r.add k)).bind f = some x := by
 rw [g.cell_some (l.at' k v hk)]
 exact hf
theorem Lies.rd0 {A : Type} {f : AV → Option A} {h h' : AH} {r : Ref} {cs : List AV} (l : Lies h r cs) (g : Grow h h') {v : AV} {x : A} (hk : cs[0]? = some v) (hf : f v = some x) : (h'.cell r).bind f = some x := by
 have := l.rd g 0 hk hf
 rwa [Ref.add_zero] at this
theorem Seq.at {α : Type} {E : El α} {h : AH} {s : Sl} {xs : List α} (n : Seq E h s xs) {i : Int} {y : α} (q : atX xs i = some y) : ∃ (r : Ref) (cs : List AV), idx s.ref xs.length i E.w = some r ∧ E.has h cs y ∧ Lies h r cs := by
 obtain ⟨⟨rows, c, a⟩, l, sh⟩ := n
 obtain ⟨j, rfl, hj⟩ := k3l q
 obtain ⟨cs, e1, e2⟩ := a.get hj
 have hjl := (List.getElem?_eq_some_iff.1 hj).1
 have hr := a.rows
 have key : ∀ k v, cs[k]? = some v → ∃ r, s.ref = some r ∧ h.cell (r.add (j * E.w + k)) = some v := fun k v hk => c.get _ _ (k1p hr e1 hk)
 cases hs : s.ref with
 | none =>
  exfalso
  cases cs with
  | nil => have := E.len e2; have := E.pos; simp at *; omega
  | cons v vs =>
   obtain ⟨r, e, _⟩ := key 0 v rfl
   rw [hs] at e
   cases e
 | some r =>
  refine ⟨r.add (j * E.w), cs, ?_, e2, ⟨fun k v hk => ?_⟩⟩
  ·rw [kgi _ _ _ _ (by omega) (by omega)]
   simp
  ·obtain ⟨r', e, e'⟩ := key k v hk
   rw [hs] at e
   cases e
   rw [Ref.add_add]
   exact e'
structure GL {α : Type} (E : El α) (elem : TypeId) (h : AH) (s : Sl) (i : Nat) (xs : List α) : Prop where
 rows : ∃ rows, Cells h s E.w rows.flatten ∧ All2 (fun cs a => E.has h cs a ∧ E.av i cs a) rows xs
 len : s.len = xs.length
 own : s.cap = .is s.len ∨ (s.ref = some (.new i 0) ∧ s.cap = .opn E.w ∧ ∃ bs, h.has i bs elem)
 loc : ∀ r, s.ref = some r → ∃ o, r = .new i o
theorem GL.nil {α : Type} (E : El α) (elem : TypeId) (h : AH) (i : Nat) : GL E elem h ⟨none, 0, .is 0⟩ i [] :=
 ⟨⟨[], Cells.nil h _, .nil⟩, rfl, .inl rfl, fun r hr => by cases hr⟩
theorem GL.one {α : Type} {E : El α} {elem e : TypeId} {h : AH} {i : Nat} {cs : List AV} {x : α} (b : h.has i cs e) (c : E.has h cs x) (a : E.av i cs x) : GL E elem h ⟨some (.new i 0), 1, .is 1⟩ i [x] :=
 ⟨⟨[cs], Cells.of_has (by simpa using b) (by simp [E.len c]), .cons ⟨c, a⟩ .nil⟩, rfl, .inl rfl, fun r hr => by cases hr; exact ⟨_, rfl⟩⟩
theorem GL.grow {α : Type} {E : El α} {elem : TypeId} {h h' : AH} {s : Sl} {i : Nat} {xs : List α} (v : GL E elem h s i xs) (g : Grow h h') : GL E elem h' s i xs := by
 obtain ⟨⟨rows, c, a⟩, l, o, lo⟩ := v
 exact ⟨⟨rows, c.grow g, a.imp fun _ _ p => ⟨E.grow g p.1, p.2⟩⟩, l, o.imp id fun ⟨e1, e2, bs, b⟩ => ⟨e1, e2, bs, g.has b⟩, lo⟩
theorem GL.seq {α : Type} {E : El α} {elem : TypeId} {h : AH} {s : Sl} {i : Nat} {xs : List α} (v : GL E elem h s i xs) (hs : xs.length ≤ 9223372036854775807) : Seq E h s xs := by
 obtain ⟨⟨rows, c, a⟩, l, o, lo⟩ := v
 exact ⟨⟨rows, c, a.imp fun _ _ p => p.1⟩, l, hs⟩
theorem GL.own_of {α : Type} {E : El α} {elem : TypeId} {h h0 : AH} {s : Sl} {i : Nat} {xs : List α} (v : GL E elem h s i xs) (hi : h0.blks.size ≤ i) : Own h0 s := fun r hr => by
 obtain ⟨o, rfl⟩ := v.loc r hr
 exact ⟨i, o, rfl, hi⟩
theorem AH.kill_Upd (h : AH) (i : Nat) : Upd h (h.kill (some (.new i 0))) i :=
 ⟨rfl, by simp [AH.kill], fun j hj _ => by
  show (h.blks.setIfInBounds i .dead)[j]? = _
  rw [Array.getElem?_setIfInBounds_ne (fun x => hj x.symm)]⟩
theorem GL.push {α : Type} {E : El α} {elem : TypeId} {h : AH} {s : Sl} {i : Nat} {xs : List α} (v : GL E elem h s i xs) {cs : List AV} {x : α} (c : E.has h cs x) (a : E.av i cs x) (hg : growOk P (xs.length + 1) elem E.w = true) :
  ∃ s' h', ky P s cs 1 elem E.w h = some (s'.v, h') ∧ GL E elem h' s' h.blks.size (xs ++ [x]) ∧ Upd h h' i := by
 obtain ⟨⟨rows, cc, aa⟩, l, o, lo⟩ := v
 rw [← l] at hg
 have fl : (s.len + 1) * E.w = (rows.flatten ++ cs).length := by rw [Nat.add_mul, cc.len, List.length_append, E.len c, Nat.one_mul]
 have fr : rows.flatten ++ cs = (rows ++ [cs]).flatten := by simp
 rcases o with e | ⟨e1, e2, bs, b⟩
 ·rw [ki0 e (by omega) hg cc]
  refine ⟨_, _, rfl, ⟨⟨rows ++ [cs], ⟨rfl, by rw [← fr]; exact fl, fun j w hw => ⟨_, rfl, ?_⟩⟩, ?_⟩, by simp [l], .inr ⟨rfl, rfl, rows.flatten ++ cs, AH.has_push _ _ _⟩, fun r hr => by cases hr; exact ⟨_, rfl⟩⟩, (Grow.push _ _).toUpd i⟩
  ·rw [fr]
   simpa using hw
  ·refine All2.snoc (aa.imp fun _ _ p => ?_) ⟨E.grow (Grow.push _ _) c, E.new c (Nat.le_refl _)⟩
   exact ⟨E.grow (Grow.push _ _) p.1, E.new p.1 (Nat.le_refl _)⟩
 ·have hap : ky P s cs 1 elem E.w h = some (Sl.v ⟨some (.new h.blks.size 0), s.len + 1, .opn E.w⟩, (h.kill s.ref).push (.cells (rows.flatten ++ cs) elem)) := by
   unfold ky
   simp only [e2]
   rw [show Nat.beq 1 0 = false from rfl, show Nat.beq E.w E.w = true from Nat.beq_refl _]
   simp only [cond_false, hg, Bool.and_true, cond_true, e1, show h.blks[i]? = _ from b]
   have hgets := cc.gets
   rw [e1] at hgets
   simp only [hgets, Option.bind_some]
   rw [show Nat.beq elem elem = true from Nat.beq_refl _, cond_true]
   have : (AH.kill h (some (Ref.new i 0))).blks.size = h.blks.size := by simp [AH.kill]
   simp [AH.next, this, Sl.v]
   rfl
  rw [hap, e1]
  have sz : (h.kill (some (.new i 0))).blks.size = h.blks.size := by simp [AH.kill]
  have u : Upd h (h.kill (some (.new i 0))) i := AH.kill_Upd h i
  refine ⟨_, _, rfl, ⟨⟨rows ++ [cs], ⟨rfl, by rw [← fr]; exact fl, fun j w hw => ⟨_, rfl, ?_⟩⟩, ?_⟩, by simp [l], .inr ⟨rfl, rfl, rows.flatten ++ cs, ?_⟩, fun r hr => by cases hr; exact ⟨_, rfl⟩⟩, u.trans ((Grow.push _ _).toUpd i)⟩
  ·rw [fr, ← sz]
   simpa using hw
  ·refine All2.snoc (aa.imp fun _ _ p => ?_) ⟨E.grow (Grow.push _ _) (E.upd c a u), E.new c (Nat.le_refl _)⟩
   exact ⟨E.grow (Grow.push _ _) (E.upd p.1 p.2 u), E.new p.1 (Nat.le_refl _)⟩
  ·have := AH.has_push (h.kill (some (.new i 0))) (rows.flatten ++ cs) elem
   rw [sz] at this
   exact this
theorem k6i {h : AH} {i n : Nat} {cs : List AV} {e elem : TypeId} (b : h.has i cs e) (hl : n * P.cellsOf elem = cs.length) : kbw P elem (Sl.v ⟨some (.new i 0), n, .is n⟩) h = some (cs, n) :=
 kkl (Cells.of_has b hl)
section
variable {Q : AV → AH → Prop}
theorem Runs.putAt {h : AH} {i o : Nat} {cs cs' vs : List AV} {e : TypeId} {K : AH → Option (AV × AH)} (b : h.has i cs e) (hl : o + vs.length ≤ cs.length) (hc : cs.take o ++ vs ++ cs.drop (o + vs.length) = cs') (H : ∀ h', h'.has i cs' e → Upd h h' i → Runs (K h') Q) : Runs ((h.puts ((Ref.new i 0).add o) vs).bind K) Q := by
 subst hc
 rw [Ref.add_new, Nat.zero_add, b.puts hl]
 exact H _ (AH.has_upd b _ e) (AH.upd_Upd h i _ e)
end
end Go.Ab

/- squeezed -/
set_option linter.unusedVariables false
set_option linter.unusedSimpArgs false
namespace Go.Ab
def overW (xs ys : List Nat) : Option (List Nat) := if ys.length ≤ xs.length then some (ys ++ xs.drop ys.length) else none
theorem kyy {xs ys zs : List Nat} (q : overW xs ys = some zs) : zs.length = xs.length := by
 unfold overW at q
 split at q
 ·cases q
  simp
  omega
 ·cases q
theorem Vec.copyV {h : AH} {s t : Sl} {i : Nat} {xs ys zs : List Nat} (v : Vec h t i xs) (m : Nats h s ys) (q : overW xs ys = some zs) : ∃ h', copyH s t 1 h = some h' ∧ Vec h' t i zs ∧ Upd h h' i := by
 unfold overW at q
 split at q
 ·rename_i hl
  cases q
  have hf : (⟨some (.new i 0), ys.length, .is ys.length⟩ : Sl).fit 1 := Nat.le_refl _
  have w : Win ⟨some (.new i 0), ys.length, .is ys.length⟩ i 0 ys.length := ⟨rfl, rfl, hf⟩
  obtain ⟨h', e, v', u⟩ := v.copyW (zs := ys ++ xs.drop ys.length) w m (by unfold setW; rw [if_pos ⟨by omega, rfl⟩]; simp)
  refine ⟨h', ?_, v', u⟩
  rw [← e]
  unfold copyH
  rw [m.len, v.is, Nat.min_self, Nat.min_eq_left hl]
 ·cases q
end Go.Ab

/- squeezed -/
set_option linter.unusedVariables false
set_option linter.unusedSimpArgs false
namespace Go.Ab
variable {P : Program}
def UpdO (h h' : AH) : Option Nat → Prop
 | none => Grow h h'
 | some k => Upd h h' k
def AvO (s : Sl) (xs : List Nat) : Option Nat → Prop
 | none => True
 | some k => Av s k xs
def LeO (n : Nat) : Option Nat → Prop
 | none => True
 | some k => n ≤ k
def LtO (n : Nat) : Option Nat → Prop
 | none => True
 | some k => k < n
def NeO (j : Nat) : Option Nat → Prop
 | none => True
 | some k => j ≠ k
def NeOO : Option Nat → Option Nat → Prop
 | none, _ => True
 | some j, i => NeO j i
theorem LeO.trans {m n : Nat} (h : m ≤ n) : ∀ {i : Option Nat}, LeO n i → LeO m i
 | none, _ => trivial
 | some k, l => Nat.le_trans h l
theorem NeO.of_lt {j n : Nat} : ∀ {i : Option Nat}, LtO n i → n ≤ j → NeO j i
 | none, _, _ => trivial
 | some k, l, h => by
  have : k < n := l
  show j ≠ k
  omega
theorem NeO.of_le {j n : Nat} : ∀ {i : Option Nat}, LeO n i → j < n → NeO j i
 | none, _, _ => trivial
 | some k, l, h => by
  have : n ≤ k := l
  show j ≠ k
  omega
theorem NeOO.of_lt {n : Nat} : ∀ {j i : Option Nat}, LeO n j → LtO n i → NeOO j i
 | none, _, _, _ => trivial
 | some j, _, l, h => NeO.of_lt h l
theorem NeOO.of_le {n : Nat} : ∀ {j i : Option Nat}, LtO n j → LeO n i → NeOO j i
 | none, _, _, _ => trivial
 | some j, _, l, h => NeO.of_le h l
theorem AvO.of_base {h0 : AH} {s : Sl} {xs : List Nat} (n : Nats h0 s xs) : ∀ {i : Option Nat}, LeO h0.blks.size i → AvO s xs i
 | none, _ => trivial
 | some k, l => Av.of_base n l
theorem AvO.of_own {h1 : AH} {s : Sl} {xs : List Nat} (o : Own h1 s) : ∀ {i : Option Nat}, LtO h1.blks.size i → AvO s xs i
 | none, _ => trivial
 | some k, l => Av.of_own o l
theorem AvO.nil (i : Option Nat) (s : Sl) : AvO s [] i := by
 cases i
 ·trivial
 ·exact .inl rfl
theorem UpdO.trans {h1 h2 h3 : AH} : ∀ {i : Option Nat}, UpdO h1 h2 i → UpdO h2 h3 i → UpdO h1 h3 i
 | none, u, w => Grow.trans u w
 | some k, u, w => Upd.trans u w
theorem Grow.updo {h h1 h2 : AH} (g : Grow h h1) : ∀ {i : Option Nat}, LeO h.blks.size i → UpdO h1 h2 i → Grow h h2
 | none, _, u => g.trans u
 | some k, l, u => g.updr l u
theorem AH.has.updo {h1 h2 : AH} {j : Nat} {cs : List AV} {e : TypeId} (b : h1.has j cs e) : ∀ {i : Option Nat}, NeO j i → UpdO h1 h2 i → h2.has j cs e
 | none, _, u => u.has b
 | some k, l, u => AH.has.updr b l u
theorem Vec.updo {h1 h2 : AH} {s : Sl} {j : Nat} {xs : List Nat} (b : Vec h1 s j xs) : ∀ {i : Option Nat}, NeO j i → UpdO h1 h2 i → Vec h2 s j xs
 | none, _, u => b.grow u
 | some k, l, u => b.updr l u
theorem Nats.updo {h1 h2 : AH} {s : Sl} {xs : List Nat} (b : Nats h1 s xs) : ∀ {i : Option Nat}, AvO s xs i → UpdO h1 h2 i → Nats h2 s xs
 | none, _, u => b.grow u
 | some k, l, u => b.upda l u
def GO {α : Type} (E : El α) (elem : TypeId) (h : AH) (s : Sl) (i : Option Nat) (xs : List α) : Prop :=
 xs.length ≤ 9223372036854775807 ∧ match i with
 | none => s = ⟨none, 0, .is 0⟩ ∧ xs = []
 | some k => GL E elem h s k xs ∧ k < h.blks.size
def AvE {α : Type} (E : El α) (cs : List AV) (x : α) : Option Nat → Prop
 | none => True
 | some k => E.av k cs x
variable {α : Type} {E : El α} {elem : TypeId}
theorem GO.none (E : El α) (elem : TypeId) (h : AH) : GO E elem h ⟨none, 0, .is 0⟩ none [] := ⟨by simp, rfl, rfl⟩
theorem GO.one {h : AH} {i : Nat} {cs : List AV} {x : α} {e : TypeId} (b : h.has i cs e) (c : E.has h cs x) (a : E.av i cs x) : GO E elem h ⟨some (.new i 0), 1, .is 1⟩ (some i) [x] :=
 ⟨by simp, GL.one b c a, b.lt⟩
theorem GO.grow {h h' : AH} {s : Sl} : ∀ {i : Option Nat} {xs : List α}, GO E elem h s i xs → Grow h h' → GO E elem h' s i xs
 | .none, _, v, g => v
 | .some k, _, ⟨l, v, lt⟩, g => ⟨l, v.grow g, Nat.lt_of_lt_of_le lt g.size⟩
theorem GO.lt {h : AH} {s : Sl} : ∀ {i : Option Nat} {xs : List α}, GO E elem h s i xs → LtO h.blks.size i
 | .none, _, _ => trivial
 | .some k, _, v => v.2.2
theorem GO.seq {h : AH} {s : Sl} : ∀ {i : Option Nat} {xs : List α}, GO E elem h s i xs → Seq E h s xs
 | .none, xs, ⟨_, e1, e2⟩ => by
  subst e1; subst e2
  exact Seq.nil E h
 | .some k, _, v => v.2.1.seq v.1
theorem GO.len {h : AH} {s : Sl} {i : Option Nat} {xs : List α} (v : GO E elem h s i xs) : s.len = xs.length := v.seq.len
theorem GO.own {h h0 : AH} {s : Sl} : ∀ {i : Option Nat} {xs : List α}, GO E elem h s i xs → LeO h0.blks.size i → Own h0 s
 | .none, _, v, _ => fun r hr => by rw [v.2.1] at hr; cases hr
 | .some k, _, v, l => v.2.1.own_of l
theorem GL.lt {h : AH} {s : Sl} {i : Nat} {x : α} {xs : List α} (v : GL E elem h s i (xs ++ [x])) : i < h.blks.size := by
 obtain ⟨⟨rows, c, a⟩, l, o, lo⟩ := v
 have hr : rows.length = xs.length + 1 := by have := All2.length a; simpa using this
 have hf := ks4 (w := E.w) (rows := rows) (All2.rows (a.imp fun _ _ p => p.1))
 have hp := E.pos
 have h0 : 0 < rows.flatten.length := by
  rw [hf, hr]
  exact Nat.mul_pos (by omega) hp
 obtain ⟨r, e1, e2⟩ := c.get 0 _ (List.getElem?_eq_getElem h0)
 obtain ⟨k, rfl⟩ := lo r e1
 have := AH.cell_inn e2
 rw [Ref.add_new] at this
 exact this
theorem kbcc {n m : Nat} (h : growOk P n elem m = true) : n ≤ 9223372036854775807 := by
 unfold growOk at h
 rw [Bool.and_eq_true, decide_eq_true_eq] at h
 have := h.1.2
 simp only [kb2] at this
 omega
theorem GO.push {h : AH} {s : Sl} {i : Option Nat} {xs : List α} (v : GO E elem h s i xs) {cs : List AV} {x : α} (c : E.has h cs x) (a : AvE E cs x i) (hg : growOk P (xs.length + 1) elem E.w = true) :
  ∃ s' h', ky P s cs 1 elem E.w h = some (s'.v, h') ∧ GO E elem h' s' (some h.blks.size) (xs ++ [x]) ∧ UpdO h h' i := by
 have hl := kbcc hg
 cases i with
 | none =>
  obtain ⟨_, e1, e2⟩ := v
  subst e1; subst e2
  obtain ⟨s', h', e, v', u⟩ := (GL.nil E elem h h.blks.size).push c (E.new c (Nat.le_refl _)) hg
  exact ⟨s', h', e, ⟨by simp, v', v'.lt⟩, (Grow.refl h).updr (Nat.le_refl _) u⟩
 | some k =>
  obtain ⟨s', h', e, v', u⟩ := v.2.1.push c a hg
  exact ⟨s', h', e, ⟨by simpa using hl, v', v'.lt⟩, u⟩
theorem Seq.lit {h : AH} {i n : Nat} {rows : List (List AV)} {e : TypeId} {xs : List α} (b : h.has i rows.flatten e) (a : All2 (E.has h) rows xs) (hn : xs.length = n) (hs : n ≤ 9223372036854775807 := by decide) : Seq E h ⟨some (.new i 0), n, .is n⟩ xs := by
 refine ⟨⟨rows, Cells.of_has b ?_, a⟩, hn.symm, by omega⟩
 rw [ks4 a.rows, All2.length a, hn]
theorem AvE.nats {s : Sl} {xs : List Nat} : ∀ {i : Option Nat}, AvO s xs i → AvE El.nats [s.v] xs i
 | .none, _ => trivial
 | .some k, a => ⟨s, rfl, a⟩
theorem AvE.int {k : IntKind} {n : Int} {cs : List AV} : ∀ {i : Option Nat}, AvE (El.int k) cs n i
 | .none => trivial
 | .some _ => trivial
theorem AvE.bool {b : Bool} {cs : List AV} : ∀ {i : Option Nat}, AvE El.bool cs b i
 | .none => trivial
 | .some _ => trivial
end Go.Ab

/- squeezed -/
set_option linter.unusedVariables false
set_option linter.unusedSimpArgs false
namespace Go.Num
def half (n : Nat) : Nat := (n + 1) / 2
theorem kbd5 {n : Nat} (ho : n % 2 = 1) (e : Nat) : (2 ^ e * half n ^ e) % n = 1 % n := by
 rw [← Nat.mul_pow, show 2 * half n = n + 1 from by unfold half; omega, Nat.pow_mod, Nat.add_mod_left, ← Nat.pow_mod, Nat.one_pow]
def redc (n e z : Nat) : Nat := z * half n ^ e % n
theorem khr (n e z : Nat) : redc n e (z % n) = redc n e z := by
 unfold redc
 rw [Nat.mod_mul_mod]
theorem ko6 {n : Nat} (ho : n % 2 = 1) (e x : Nat) : redc n e (x * 2 ^ e) = x % n := by
 unfold redc
 rw [Nat.mul_assoc, Nat.mul_mod, kbd5 ho, ← Nat.mul_mod, Nat.mul_one]
theorem kz7 {n e r z : Nat} (ho : n % 2 = 1) (hr : r < n) (h : (r * 2 ^ e) % n = z % n) : r = redc n e z := by
 rw [← khr, ← h, khr, ko6 ho, Nat.mod_eq_of_lt hr]
theorem k63 {n e x y : Nat} (ho : n % 2 = 1) : redc n e (x * 2 ^ e % n * (y * 2 ^ e % n)) = x * y * 2 ^ e % n := by
 rw [← khr, ← Nat.mul_mod, khr, show x * 2 ^ e * (y * 2 ^ e) = x * y * 2 ^ e * 2 ^ e from by simp only [Nat.mul_assoc, Nat.mul_comm, Nat.mul_left_comm], ko6 ho]
theorem k2j {n e a : Nat} (ho : n % 2 = 1) : redc n e (a * (2 ^ e * 2 ^ e % n)) = a * 2 ^ e % n := by
 rw [← khr, Nat.mul_mod_mod, khr, ← Nat.mul_assoc, ko6 ho]
theorem kbek {n e x : Nat} (ho : n % 2 = 1) : redc n e (x * 2 ^ e % n * 1) = x % n := by
 rw [Nat.mul_one, khr, ko6 ho]
theorem kbis {b T Y x N v : Nat} (hb : 0 < b) (hv : (N * v + 1) % b = 0) : (T + Y * x + N * ((T + Y * x) % b * v % b)) % b = 0 := by
 generalize T + Y * x = U
 have e1 : (U + N * (U % b * v % b)) % b = (U + N * (U * v)) % b := by
  rw [Nat.add_mod, Nat.mul_mod_mod_aux N U v b, ← Nat.add_mod]
 rw [e1, show U + N * (U * v) = U * (N * v + 1) from by rw [Nat.mul_add, Nat.mul_one, Nat.add_comm]; simp only [Nat.mul_comm, Nat.mul_left_comm], Nat.mul_mod, hv, Nat.mul_zero, Nat.zero_mod]
where
 Nat.mul_mod_mod_aux (N U v b : Nat) : N * (U % b * v % b) % b = N * (U * v) % b := by
  rw [Nat.mul_mod_mod, ← Nat.mul_mod_mod, Nat.mod_mul_mod, Nat.mul_mod_mod]
theorem k98 {b T Y x N m : Nat} (hT : T < Y + N) (hx : x < b) (hm : m < b) : (T + Y * x + N * m) / b < Y + N := by
 have hb : 0 < b := by omega
 rw [Nat.div_lt_iff_lt_mul hb]
 have h1 : Y * x ≤ Y * (b - 1) := Nat.mul_le_mul_left _ (by omega)
 have h2 : N * m ≤ N * (b - 1) := Nat.mul_le_mul_left _ (by omega)
 obtain ⟨c, rfl⟩ : ∃ c, b = c + 1 := ⟨b - 1, by omega⟩
 rw [Nat.add_mul, Nat.mul_add Y, Nat.mul_add N, Nat.mul_one, Nat.mul_one]
 simp only [Nat.add_sub_cancel] at h1 h2
 omega
theorem kbgv {b p T Y x X N M m T' : Nat} (h : T * p = X * Y + N * M) (e : T + Y * x + N * m = T' * b) : T' * (p * b) = (X + p * x) * Y + N * (M + p * m) := by
 have : T' * (p * b) = (T' * b) * p := by simp only [Nat.mul_assoc, Nat.mul_comm, Nat.mul_left_comm]
 rw [this, ← e, Nat.add_mul, Nat.add_mul, h, Nat.add_mul, Nat.mul_add]
 simp only [Nat.mul_assoc, Nat.mul_comm, Nat.mul_left_comm]
 omega
theorem newton {n x p : Nat} {w : Nat} (hw : w = p * p) (h : (n * x) % p = 1 % p) : ∀ y : Int, (y % (w : Int)) = ((x : Int) * (2 - (n : Int) * x)) % (w : Int) → ((n : Int) * y) % (w : Int) = 1 % (w : Int) := by
 intro y hy
 have h1 : ((n : Int) * x) % (p : Int) = 1 % (p : Int) := by exact_mod_cast h
 have h2 : (p : Int) ∣ ((n : Int) * x - 1) := (Int.emod_emod_of_dvd_aux h1)
 obtain ⟨c, hc⟩ := h2
 have h3 : (n : Int) * x = 1 + p * c := by omega
 rw [← Int.mul_emod_aux (n : Int) y (w : Int), hy, Int.mul_emod_aux]
 have e : (n : Int) * ((x : Int) * (2 - (n : Int) * x)) = 1 + (w : Int) * (-(c * c)) := by
  rw [← Int.mul_assoc, h3, hw]
  push_cast
  have : (1 + (p : Int) * c) * (2 - (1 + p * c)) = 1 - (p * c) * (p * c) := by
   generalize (p : Int) * c = t
   rw [Int.mul_sub, Int.add_mul 1 t (1 + t), Int.mul_add, Int.mul_add]
   omega
  rw [this, Int.mul_neg, Int.sub_eq_add_neg]
  congr 2
  simp only [Int.mul_assoc, Int.mul_comm, Int.mul_left_comm]
 rw [e, Int.add_mul_emod_self_left]
where
 Int.emod_emod_of_dvd_aux {a p : Int} (h : a % p = 1 % p) : p ∣ a - 1 := Int.dvd_of_emod_eq_zero (by rw [Int.sub_emod, h, Int.sub_self, Int.zero_emod])
 Int.mul_emod_aux (a y w : Int) : a * (y % w) % w = a * y % w := by rw [Int.mul_emod, Int.emod_emod, ← Int.mul_emod]
end Go.Num

/- squeezed -/
set_option linter.unusedVariables false
set_option linter.unusedSimpArgs false
set_option maxRecDepth 10000
namespace Go.Ab
open Go.Proofs Go.Num
theorem kvq {h : AH} {s : Sl} {xs : List Nat} (n : Nats h s xs) : ∀ (k : Nat), k ≤ xs.length → (∀ i, k ≤ i → (hi : i < xs.length) → xs[i] = 0) →
  ∃ s', go (.pt F.kiw Td.kq7 [(0, s.v), (3, .int .i64 (k : Int))]) h = some (s'.v, h) ∧ Nats h s' (digs B (num B xs)) ∧ ∀ h0, Own h0 s → Own h0 s'
 | 0, hk, hz => by
  rw [kxe]
  obtain ⟨s', e1, e2, e3⟩ := n.cut (l := 0) (n := 0) (Nat.le_refl _) hk
  have := ki6 B2 n.lt hz hk (.inl rfl)
  simp at e1
  simp only [Int.natCast_zero, gt_iff_lt, Int.lt_irrefl, decide_false, cond_false, e1, Option.bind_some]
  refine ⟨s', rfl, ?_, e3⟩
  rw [← this]
  simpa using e2
 | k + 1, hk, hz => by
  rw [kxe]
  obtain ⟨r, e1, e2⟩ := n.at (i := k) (by omega)
  have hs := n.short
  rw [kmu (by omega)]
  rw [show (decide (((k + 1 : Nat) : Int) > 0)) = true from by rw [decide_eq_true_eq]; omega]
  simp only [cond_true, e1, e2, Option.bind_some, kb]
  by_cases hx : xs[k] = 0
  ·rw [hx, show (decide (((0 : Nat) : Int) = 0)) = true from rfl, cond_true]
   refine kvq n k (by omega) fun i hi hil => ?_
   rcases Nat.lt_or_ge k i with h1 | h1
   ·exact hz i (by omega) hil
   ·have : i = k := by omega
    subst this
    exact hx
  ·obtain ⟨s', e3, e4, e5⟩ := n.cut (l := 0) (n := k + 1) (by omega) hk
   have ht := ki6 B2 n.lt hz hk (.inr ⟨by omega, by simpa using hx⟩)
   rw [show (decide (((xs[k] : Nat) : Int) = 0)) = false from by rw [decide_eq_false_iff_not]; omega]
   simp only [cond_false]
   rw [show cutSl s 0 ((k + 1 : Nat) : Int) 1 = some s' from e3]
   refine ⟨s', rfl, ?_, e5⟩
   rw [← ht]
   simpa using e4
theorem kbe4 {h : AH} {s : Sl} {xs : List Nat} (n : Nats h s xs) : ∃ s', go (.fn F.kiw [s.v]) h = some (s'.v, h) ∧ Nats h s' (digs B (num B xs)) ∧ ∀ h0, Own h0 s → Own h0 s' := by
 rw [k9m, n.len]
 exact kvq n xs.length (Nat.le_refl _) fun i h1 h2 => by omega
end Go.Ab

/- squeezed -/
set_option linter.unusedVariables false
set_option linter.unusedSimpArgs false
set_option maxRecDepth 10000
namespace Go.Ab
open Go.Proofs Go.Num
inductive kgz
 | fn (x1 : List Nat) (x2 : List Nat) (a3 : Int)
 | p2 (x1 : List Nat) (x2 : List Nat) (a3 : Int) (a4 : Int) (a5 : Int) (a6 : Int)
abbrev kea := List Nat
noncomputable def ksa (x1 : List Nat) (x2 : List Nat) (a3 : Int) : Option (kgz ⊕ kea) :=
 some (.inl (.p2 x1 x2 a3 0 (List.length x1 : Int) 0))
noncomputable def kgo (x1 : List Nat) (x2 : List Nat) (a3 : Int) (a4 : Int) (a5 : Int) (a6 : Int) : Option (kgz ⊕ kea) :=
 cond (decide (a6 < a5)) (cond (decide (a6 < (List.length x2 : Int))) ((atI x2 a6).bind fun y9 => (add64P ((mul64 ((y9 : Int)) a3).2) a4 0).bind fun p11 => (inI (List.length x1) a6).bind fun j12 => (add64P (((List.getD x1 j12 0 : Nat) : Int)) (p11.1) 0).bind fun p13 => (inI (List.length x1) a6).bind fun j14 => (u64P (p13.1)).bind fun w15 => some (.inl (.p2 (List.set x1 j14 w15) x2 a3 (IntKind.wrap .u64 ((IntKind.wrap .u64 (((mul64 ((y9 : Int)) a3).1) + (p11.2))) + (p13.2))) a5 (IntKind.wrap .i64 (a6 + 1))))) ((add64P 0 a4 0).bind fun p9 => (inI (List.length x1) a6).bind fun j10 => (add64P (((List.getD x1 j10 0 : Nat) : Int)) (p9.1) 0).bind fun p11 => (inI (List.length x1) a6).bind fun j12 => (u64P (p11.1)).bind fun w13 => some (.inl (.p2 (List.set x1 j12 w13) x2 a3 (IntKind.wrap .u64 ((IntKind.wrap .u64 (0 + (p9.2))) + (p11.2))) a5 (IntKind.wrap .i64 (a6 + 1)))))) (some (.inr x1))
noncomputable def kdp : kgz → Option (kgz ⊕ kea)
 | .fn x1 x2 a3 => ksa x1 x2 a3
 | .p2 x1 x2 a3 a4 a5 a6 => kgo x1 x2 a3 a4 a5 a6
@[reducible] def kts (h0 : AH) (a : Sl) (i : Nat) (r : kea) (v : AV) (h' : AH) : Prop := v = .tup [] ∧ Vec h' a i r ∧ Upd h0 h' i
def kmk (r : kea) : kgz → Prop
 | .fn x1 x2 a3 => ∀ {h : AH} {a1 : Sl} {a2 : Sl} {i1 : Nat}, Vec h a1 i1 x1 → Nats h a2 x2 → Av a2 i1 x2 → Runs (go (.fn F.kc7 [a1.v, a2.v, .int .u64 a3]) h) (kts h a1 i1 r)
 | .p2 x1 x2 a3 a4 a5 a6 => ∀ {h0 h : AH} {a1 : Sl} {a2 : Sl} {i1 : Nat}, Upd h0 h i1 → Vec h a1 i1 x1 → Nats h a2 x2 → Av a2 i1 x2 → Runs (go (.pt F.kc7 Td.knc [(0, a1.v), (1, a2.v), (2, .int .u64 a3), (6, .int .u64 a4), (12, .int .i64 a5), (13, .int .i64 a6)]) h) (kts h0 a1 i1 r)
theorem k83 {r : kea} {o : kgz ⊕ kea} {x1 : List Nat} {x2 : List Nat} {a3 : Int} (e : ksa x1 x2 a3 = some o) (good : GoodS (kmk r) r o) : kmk r (.fn x1 x2 a3) := by
 intro h a1 a2 i1 v1 n2 av2_1
 rw [kbhu]
 unfold ksa at e
 rw [v1.nats.len]
 cases e
 exact good ((Grow.refl _).toUpd _) v1 n2 av2_1
theorem k2q {r : kea} {o : kgz ⊕ kea} {x1 : List Nat} {x2 : List Nat} {a3 : Int} {a4 : Int} {a5 : Int} {a6 : Int} (e : kgo x1 x2 a3 a4 a5 a6 = some o) (good : GoodS (kmk r) r o) : kmk r (.p2 x1 x2 a3 a4 a5 a6) := by
 intro h0 h a1 a2 i1 g0 v1 n2 av2_1
 rw [k5h]
 unfold kgo at e
 rw [v1.nats.len]
 rw [n2.len]
 refine Runs.cond (fun k7 => ?_) (fun k7 => ?_)
 ·replace e := (condT k7).symm.trans e
  refine Runs.cond (fun k8 => ?_) (fun k8 => ?_)
  ·replace e := (condT k8).symm.trans e
   obtain ⟨y9, q9, e⟩ := Option.bind_eq_some_iff.1 e
   obtain ⟨r9, j9, l9⟩ := n2.atI q9
   refine Runs.step j9 ?_
   refine Runs.step (rdc l9 (kb _ _)) ?_
   refine Runs.step (kr0 ((y9 : Int)) a3) ?_
   refine Runs.step rfl ?_
   refine Runs.step (seen (kb _ _)) ?_
   refine Runs.step (seen (kb _ _)) ?_
   obtain ⟨p11, q11, e⟩ := Option.bind_eq_some_iff.1 e
   refine Runs.step (kes q11) ?_
   refine Runs.step rfl ?_
   refine Runs.step (seen (kb _ _)) ?_
   refine Runs.step (seen (kb _ _)) ?_
   obtain ⟨j12, q12, e⟩ := Option.bind_eq_some_iff.1 e
   refine Runs.step (v1.idx rfl q12) ?_
   refine Runs.step (v1.rd rfl q12 (kb _ _)) ?_
   obtain ⟨p13, q13, e⟩ := Option.bind_eq_some_iff.1 e
   refine Runs.step (kes q13) ?_
   refine Runs.step rfl ?_
   refine Runs.step (seen (kb _ _)) ?_
   refine Runs.step (seen (kb _ _)) ?_
   obtain ⟨j14, q14, e⟩ := Option.bind_eq_some_iff.1 e
   refine Runs.step (v1.idx rfl q14) ?_
   obtain ⟨w15, z15, e⟩ := Option.bind_eq_some_iff.1 e
   refine Runs.vput v1 rfl q14 z15 fun H15 v15 u15 => ?_
   have n2_15 := n2.upda av2_1 u15
   cases e
   exact good (g0.trans u15) v15 n2_15 av2_1
  ·replace e := (condF k8).symm.trans e
   obtain ⟨p9, q9, e⟩ := Option.bind_eq_some_iff.1 e
   refine Runs.step (kes q9) ?_
   refine Runs.step rfl ?_
   refine Runs.step (seen (kb _ _)) ?_
   refine Runs.step (seen (kb _ _)) ?_
   obtain ⟨j10, q10, e⟩ := Option.bind_eq_some_iff.1 e
   refine Runs.step (v1.idx rfl q10) ?_
   refine Runs.step (v1.rd rfl q10 (kb _ _)) ?_
   obtain ⟨p11, q11, e⟩ := Option.bind_eq_some_iff.1 e
   refine Runs.step (kes q11) ?_
   refine Runs.step rfl ?_
   refine Runs.step (seen (kb _ _)) ?_
   refine Runs.step (seen (kb _ _)) ?_
   obtain ⟨j12, q12, e⟩ := Option.bind_eq_some_iff.1 e
   refine Runs.step (v1.idx rfl q12) ?_
   obtain ⟨w13, z13, e⟩ := Option.bind_eq_some_iff.1 e
   refine Runs.vput v1 rfl q12 z13 fun H13 v13 u13 => ?_
   have n2_13 := n2.upda av2_1 u13
   cases e
   exact good (g0.trans u13) v13 n2_13 av2_1
 ·replace e := (condF k7).symm.trans e
  cases e
  cases good
  exact Runs.ret ⟨rfl, v1, g0⟩
theorem k4c {s : kgz} {r : kea} (it : Iter kdp s r) : kmk r s := Iter.ind (fun s o e good => by
 cases s with
 | fn x1 x2 a3 => exact @k83 _ _ x1 x2 a3 e good
 | p2 x1 x2 a3 a4 a5 a6 => exact @k2q _ _ x1 x2 a3 a4 a5 a6 e good
 ) it
theorem kpc {h : AH} {a1 : Sl} {a2 : Sl} {i1 : Nat} {x1 : List Nat} {x2 : List Nat} {a3 : Int} (v1 : Vec h a1 i1 x1) (n2 : Nats h a2 x2) (av2_1 : Av a2 i1 x2) {r : kea} (q : runP kdp (.fn x1 x2 a3) = some r) : Runs (go (.fn F.kc7 [a1.v, a2.v, .int .u64 a3]) h) (kts h a1 i1 r) := k4c (kbn q) v1 n2 av2_1
end Go.Ab

/- squeezed -/
set_option linter.unusedVariables false
set_option linter.unusedSimpArgs false
set_option maxRecDepth 10000
namespace Go.Ab
open Go.Proofs Go.Num
def addMul : List Nat → List Nat → Nat → Nat → List Nat
 | [], _, _, _ => []
 | t :: ts, ys, a, c => (t + ys.headD 0 * a + c) % B :: addMul ts ys.tail a ((t + ys.headD 0 * a + c) / B)
theorem kld : ∀ (ts ys : List Nat) (a c : Nat), (addMul ts ys a c).length = ts.length
 | [], _, _, _ => rfl
 | t :: ts, ys, a, c => by rw [addMul, List.length_cons, List.length_cons, kld]
theorem kqv : ∀ (ts ys : List Nat) (a c : Nat), ∀ x ∈ addMul ts ys a c, x < B
 | [], _, _, _, x, h => by cases h
 | t :: ts, ys, a, c, x, h => by
  rw [addMul] at h
  rcases List.mem_cons.1 h with rfl | h
  ·exact Nat.mod_lt _ (by decide)
  ·exact kqv ts _ _ _ x h
theorem kn1 (b x : Nat) (xs : List Nat) : num b (x :: xs) = x + b * num b xs := rfl
theorem kmr (b : Nat) (ys : List Nat) : num b ys = ys.headD 0 + b * num b ys.tail := by
 cases ys with
 | nil => simp [num]
 | cons y ys => rfl
theorem kr9 : ∀ (ts ys : List Nat) (a c : Nat), num B (addMul ts ys a c) = (num B ts + num B ys * a + c) % B ^ ts.length
 | [], ys, a, c => by simp [addMul, num, Nat.mod_one]
 | t :: ts, ys, a, c => by
  rw [addMul, kn1, kr9 ts, kn1, kmr B ys, List.length_cons, Nat.pow_succ, Nat.mul_comm (B ^ ts.length) B, Nat.mod_mul]
  generalize ys.headD 0 = y
  generalize num B ys.tail = Y
  generalize num B ts = T
  have e : t + B * T + (y + B * Y) * a + c = (t + y * a + c) + B * (T + Y * a) := by
   rw [Nat.add_mul, Nat.mul_add, Nat.mul_assoc]
   omega
  rw [e, Nat.add_mul_mod_self_left, Nat.add_mul_div_left _ _ (show 0 < B from by decide)]
  congr 3
  omega
theorem k2x {t o c : Nat} (ho : o < 18446744073709551616) (hc : c < 18446744073709551616) (h : (o + t + c) / 18446744073709551616 < 18446744073709551616) :
  (o + (t % 18446744073709551616 + c + 0) % 18446744073709551616 + 0) % 18446744073709551616 = (o + t + c) % 18446744073709551616 ∧
  IntKind.wrap .u64 (IntKind.wrap .u64 (((t / 18446744073709551616 : Nat) : Int) + (((t % 18446744073709551616 + c + 0) / 18446744073709551616 : Nat) : Int)) + (((o + (t % 18446744073709551616 + c + 0) % 18446744073709551616 + 0) / 18446744073709551616 : Nat) : Int)) = (((o + t + c) / 18446744073709551616 : Nat) : Int) := by
 rw [wrapU, wrapU]
 omega
theorem kbbq {o c : Nat} (ho : o < 18446744073709551616) (hc : c < 18446744073709551616) :
  (o + (0 + c + 0) % 18446744073709551616 + 0) % 18446744073709551616 = (o + c) % 18446744073709551616 ∧
  IntKind.wrap .u64 (IntKind.wrap .u64 (0 + (((0 + c + 0) / 18446744073709551616 : Nat) : Int)) + (((o + (0 + c + 0) % 18446744073709551616 + 0) / 18446744073709551616 : Nat) : Int)) = (((o + c) / 18446744073709551616 : Nat) : Int) := by
 rw [wrapU, wrapU]
 omega
theorem kp9 {α : Type} (l : List α) (x y : α) (r : List α) {n : Nat} (h : n = l.length) : (l ++ x :: r).set n y = (l ++ [y]) ++ r := by
 subst h
 simp
theorem k0n {ys : List Nat} {a : Nat} (ha : a < B) (ly : ∀ y ∈ ys, y < B) : ∀ (ts l : List Nat) (c : Nat), (∀ t ∈ ts, t < B) → c < B → l.length + ts.length ≤ 8796093022208 →
  Iter kdp (.p2 (l ++ ts) ys (a : Int) (c : Int) ((l.length + ts.length : Nat) : Int) (l.length : Int)) (l ++ addMul ts (ys.drop l.length) a c)
 | [], l, c, _, _, _ => by
  refine .done ?_
  show kgo _ _ _ _ _ _ = _
  unfold kgo
  rw [condF (by rw [decide_eq_false_iff_not]; simp)]
  rfl
 | t :: ts, l, c, lt, hc, hn => by
  have ht := lt t (by simp)
  have hn' : l.length + ts.length + 1 ≤ 8796093022208 := by simpa [Nat.add_assoc] using hn
  have hj : l.length < (l ++ t :: ts).length := by simp
  have hg : List.getD (l ++ t :: ts) l.length 0 = t := by rw [kbk hj]; simp
  have rek := fun (c' : Nat) (hc' : c' < B) (x : Nat) => k0n ha ly ts (l ++ [x]) c' (fun t h => lt t (by simp [h])) hc' (by simp; omega)
  have key : ∀ (c' x : Nat), c' < B → kgo (l ++ t :: ts) ys (a : Int) (c : Int) ((l.length + (t :: ts).length : Nat) : Int) (l.length : Int) = some (.inl (.p2 ((l ++ [x]) ++ ts) ys (a : Int) (c' : Int) ((l.length + (t :: ts).length : Nat) : Int) ((l.length + 1 : Nat) : Int))) →
    x = (t + (ys.drop l.length).headD 0 * a + c) % B → c' = (t + (ys.drop l.length).headD 0 * a + c) / B → Iter kdp (.p2 (l ++ t :: ts) ys (a : Int) (c : Int) ((l.length + (t :: ts).length : Nat) : Int) (l.length : Int)) (l ++ addMul (t :: ts) (ys.drop l.length) a c) := fun c' x hc' h1 hx hcc => by
   refine .next h1 ?_
   have := rek c' hc' x
   have e1 : (l ++ [x]).length + ts.length = l.length + (t :: ts).length := by simp; omega
   have e2 : (l ++ [x]).length = l.length + 1 := by simp
   rw [e1, e2] at this
   rw [addMul, ← hx, ← hcc, List.tail_drop]
   simpa using this
  by_cases hi : l.length < ys.length
  ·have hy := ly ys[l.length] (List.getElem_mem _)
   have hd : (ys.drop l.length).headD 0 = ys[l.length] := by rw [List.drop_eq_getElem_cons hi]; rfl
   rw [hd] at key
   have hcl : (t + ys[l.length] * a + c) / B < B := by rw [Nat.add_comm t]; exact kr6 hy ha ht hc
   obtain ⟨c1, c2⟩ := k2x (t := ys[l.length] * a) ht hc hcl
   refine key _ _ hcl ?_ rfl rfl
   unfold kgo
   rw [condT (by rw [decide_eq_true_eq]; rw [List.length_cons]; omega), condT (by rw [decide_eq_true_eq]; omega), kbf hi, Option.bind_some, krc hy ha]
   dsimp only
   have a1 := kgg (ys[l.length] * a % B) c (c := 0) (by omega)
   have a2 := kgg t ((ys[l.length] * a % B + c + 0) % 18446744073709551616) (c := 0) (by omega)
   rw [show ((0 : Nat) : Int) = 0 from rfl] at a1 a2
   rw [a1, Option.bind_some, kbh hj, Option.bind_some, hg]
   dsimp only
   rw [a2, Option.bind_some, Option.bind_some]
   dsimp only
   rw [c1, c2, kbb (Nat.mod_lt _ (by decide)), Option.bind_some, ks (by omega), kp9 l t _ ts rfl]
  ·have hd : (ys.drop l.length).headD 0 = 0 := by rw [List.drop_eq_nil_of_le (by omega)]; rfl
   simp only [hd, Nat.zero_mul, Nat.add_zero] at key
   have hcl : (t + c) / B < B := by
    have : t < 18446744073709551616 := ht
    have : c < 18446744073709551616 := hc
    show (t + c) / 18446744073709551616 < 18446744073709551616
    omega
   obtain ⟨c1, c2⟩ := kbbq ht hc
   refine key _ _ hcl ?_ rfl rfl
   unfold kgo
   rw [condT (by rw [decide_eq_true_eq]; rw [List.length_cons]; omega), condF (by rw [decide_eq_false_iff_not]; omega)]
   have a1 := kgg 0 c (c := 0) (by omega)
   have a2 := kgg t ((0 + c + 0) % 18446744073709551616) (c := 0) (by omega)
   rw [show ((0 : Nat) : Int) = 0 from rfl] at a1 a2
   rw [a1, Option.bind_some, kbh hj, Option.bind_some, hg]
   dsimp only
   rw [a2, Option.bind_some, Option.bind_some]
   dsimp only
   rw [c1, c2, kbb (Nat.mod_lt _ (by decide)), Option.bind_some, ks (by omega), kp9 l t _ ts rfl]
theorem kxf {ts ys : List Nat} {a : Nat} (lt : ∀ t ∈ ts, t < B) (ly : ∀ y ∈ ys, y < B) (ha : a < B) (hn : ts.length ≤ 8796093022208) : runP kdp (.fn ts ys (a : Int)) = some (addMul ts ys a 0) := by
 refine kbg (.next rfl ?_)
 have := k0n ha ly ts [] 0 lt (by decide) (by simpa using hn)
 simpa using this
end Go.Ab
