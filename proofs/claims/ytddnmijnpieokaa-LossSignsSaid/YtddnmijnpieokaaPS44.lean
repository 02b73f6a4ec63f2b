/- Layer 3: laws of Gcd, Floor: printed by wip/tools/walk.py. -/
import Derived.Test.YtddnmijnpieokaaPS38a
import Derived.Test.YtddnmijnpieokaaPS1

set_option linter.unusedVariables false
set_option linter.unusedSimpArgs false
set_option maxRecDepth 10000
namespace Go.Ab
open Go.Proofs Go.Num

inductive law03_ModintGcds_St
  | fn (x1 : List Nat) (x2 : List Nat)
  | no

abbrev law03_ModintGcds_Res := Bool

noncomputable def law03_ModintGcds_fn' (x1 : List Nat) (x2 : List Nat) : Option (law03_ModintGcds_St ⊕ law03_ModintGcds_Res) :=
  cond (!((decide (List.length x1 ≤ 20) && decide (List.length x2 ≤ 20)))) (some (.inr true)) ((u64P 1).bind fun w10 => cond (true) (cond (decide (((gcdN x1 x2).2) = ((gcdN x1 x2).2))) (some (.inr (decide ((List.length ((gcdN [w10] []).1) : Int) = 1)))) (some (.inr false))) (some (.inr false)))

noncomputable def law03_ModintGcds_step : law03_ModintGcds_St → Option (law03_ModintGcds_St ⊕ law03_ModintGcds_Res)
  | .fn x1 x2 => law03_ModintGcds_fn' x1 x2
  | .no => none

@[reducible] def law03_ModintGcds_post (h0 : AH) (r : law03_ModintGcds_Res) (v : AV) (h' : AH) : Prop := v = .bool r ∧ Grow h0 h'

def law03_ModintGcds_At (r : law03_ModintGcds_Res) : law03_ModintGcds_St → Prop
  | .fn x1 x2 => ∀ {h : AH} {a1 : Sl} {a2 : Sl}, Nats h a1 x1 → Nats h a2 x2 → Runs (go (.fn F.law03_ModintGcds [a1.v, a2.v]) h) (law03_ModintGcds_post h r)
  | .no => True

theorem law03_ModintGcds_fn_walk {r : law03_ModintGcds_Res} {o : law03_ModintGcds_St ⊕ law03_ModintGcds_Res} {x1 : List Nat} {x2 : List Nat} (e : law03_ModintGcds_fn' x1 x2 = some o) (good : GoodS (law03_ModintGcds_At r) r o) : law03_ModintGcds_At r (.fn x1 x2) := by
  intro h a1 a2 n1 n2
  rw [u_law03_ModintGcds]
  unfold law03_ModintGcds_fn' at e
  refine Runs.new fun H3 b3 g3 => ?_
  refine Runs.step (short2_spec b3 (n1.grow g3) (n2.grow g3)) ?_
  refine Runs.step (seen rfl) ?_
  refine Runs.cond (fun k5 => ?_) (fun k5 => ?_)
  · replace e := (condT k5).symm.trans e
    cases e
    cases good
    exact Runs.ret ⟨rfl, g3⟩
  · replace e := (condF k5).symm.trans e
    obtain ⟨_, H6, e6, s6, rfl, n6, g6, o6⟩ := modint_Gcd_spec (n1.grow g3) (n2.grow g3)
    refine Runs.step e6 ?_
    refine Runs.step rfl ?_
    refine Runs.step (seen (asSl_v _)) ?_
    refine Runs.step (seen (avInt_int _ _)) ?_
    obtain ⟨_, H7, e7, s7, rfl, n7, g7, o7⟩ := ref03_Gcd_spec (n1.grow (g3.trans g6)) (n2.grow (g3.trans g6))
    refine Runs.step e7 ?_
    refine Runs.step rfl ?_
    refine Runs.step (seen (asSl_v _)) ?_
    refine Runs.step (seen (avInt_int _ _)) ?_
    refine Runs.step (ref01_Same_spec (n6.grow g7) n7) ?_
    refine Runs.step (seen rfl) ?_
    refine Runs.new fun H9 b9 g9 => ?_
    obtain ⟨w10, z10, e⟩ := Option.bind_eq_some_iff.1 e
    obtain ⟨_, H11, e11, s11, rfl, n11, g11, o11⟩ := modint_Gcd_spec (Nats.of_has1 b9 z10) (Nats.nil _)
    refine Runs.step e11 ?_
    refine Runs.step rfl ?_
    refine Runs.step (seen (asSl_v _)) ?_
    rw [n11.len]
    refine Runs.step (seen (avInt_int _ _)) ?_
    refine Runs.cond (fun k12 => ?_) (fun k12 => ?_)
    · replace e := (condT k12).symm.trans e
      refine Runs.cond (fun k13 => ?_) (fun k13 => ?_)
      · replace e := (condT k13).symm.trans e
        cases e
        cases good
        exact Runs.ret ⟨rfl, ((((g3.trans g6).trans g7).trans g9).trans g11)⟩
      · replace e := (condF k13).symm.trans e
        cases e
        cases good
        exact Runs.ret ⟨rfl, ((((g3.trans g6).trans g7).trans g9).trans g11)⟩
    · replace e := (condF k12).symm.trans e
      cases e
      cases good
      exact Runs.ret ⟨rfl, ((((g3.trans g6).trans g7).trans g9).trans g11)⟩

theorem law03_ModintGcds_run {s : law03_ModintGcds_St} {r : law03_ModintGcds_Res} (it : Iter law03_ModintGcds_step s r) : law03_ModintGcds_At r s := Iter.ind (fun s o e good => by
  cases s with
  | fn x1 x2 => exact @law03_ModintGcds_fn_walk _ _ x1 x2 e good
  | no => exact True.intro
  ) it

theorem law03_ModintGcds_opt {h : AH} {a1 : Sl} {a2 : Sl} {x1 : List Nat} {x2 : List Nat} (n1 : Nats h a1 x1) (n2 : Nats h a2 x2) {r : law03_ModintGcds_Res} (q : runP law03_ModintGcds_step (.fn x1 x2) = some r) : Runs (go (.fn F.law03_ModintGcds [a1.v, a2.v]) h) (law03_ModintGcds_post h r) := law03_ModintGcds_run (runP_iter q) n1 n2

inductive law03_ModintFloors_St
  | fn (a1 : Bool) (x2 : List Nat) (a3 : Bool) (x4 : List Nat)
  | no

abbrev law03_ModintFloors_Res := Bool

noncomputable def law03_ModintFloors_fn' (a1 : Bool) (x2 : List Nat) (a3 : Bool) (x4 : List Nat) : Option (law03_ModintFloors_St ⊕ law03_ModintFloors_Res) :=
  cond (!((decide (List.length x2 ≤ 70) && decide (List.length x4 ≤ 70)))) (some (.inr true)) ((u64P 1).bind fun w24 => (u64P 1).bind fun w25 => cond (true) (cond (true) (cond (decide (((floorI a1 x2 a3 x4).2.2.2.2) = ((floorI a1 x2 a3 x4).2.2.2.2))) (some (.inr (decide ((List.length ((floorI false [w24] false [w25]).2.1) : Int) = 1)))) (some (.inr false))) (some (.inr false))) (some (.inr false)))

noncomputable def law03_ModintFloors_step : law03_ModintFloors_St → Option (law03_ModintFloors_St ⊕ law03_ModintFloors_Res)
  | .fn a1 x2 a3 x4 => law03_ModintFloors_fn' a1 x2 a3 x4
  | .no => none

@[reducible] def law03_ModintFloors_post (h0 : AH) (r : law03_ModintFloors_Res) (v : AV) (h' : AH) : Prop := v = .bool r ∧ Grow h0 h'

def law03_ModintFloors_At (r : law03_ModintFloors_Res) : law03_ModintFloors_St → Prop
  | .fn a1 x2 a3 x4 => ∀ {h : AH} {a2 : Sl} {a4 : Sl}, Nats h a2 x2 → Nats h a4 x4 → Runs (go (.fn F.law03_ModintFloors [.agg [.bool a1, a2.v], .agg [.bool a3, a4.v]]) h) (law03_ModintFloors_post h r)
  | .no => True

theorem law03_ModintFloors_fn_walk {r : law03_ModintFloors_Res} {o : law03_ModintFloors_St ⊕ law03_ModintFloors_Res} {a1 : Bool} {x2 : List Nat} {a3 : Bool} {x4 : List Nat} (e : law03_ModintFloors_fn' a1 x2 a3 x4 = some o) (good : GoodS (law03_ModintFloors_At r) r o) : law03_ModintFloors_At r (.fn a1 x2 a3 x4) := by
  intro h a2 a4 n2 n4
  rw [u_law03_ModintFloors]
  unfold law03_ModintFloors_fn' at e
  refine Runs.new fun H5 b5 g5 => ?_
  refine Runs.new fun H6 b6 g6 => ?_
  refine Runs.step (AH.has.rd (g6.has b5) 1 rfl (asSl_v _)) ?_
  refine Runs.step (AH.has.rd b6 1 rfl (asSl_v _)) ?_
  refine Runs.new fun H7 b7 g7 => ?_
  refine Runs.step (few2_spec b7 (n2.grow ((g5.trans g6).trans g7)) (n4.grow ((g5.trans g6).trans g7))) ?_
  refine Runs.step (seen rfl) ?_
  refine Runs.cond (fun k9 => ?_) (fun k9 => ?_)
  · replace e := (condT k9).symm.trans e
    cases e
    cases good
    exact Runs.ret ⟨rfl, ((g5.trans g6).trans g7)⟩
  · replace e := (condF k9).symm.trans e
    refine Runs.step (AH.has.rd ((g6.trans g7).has b5) 0 rfl rfl) ?_
    refine Runs.step (AH.has.rd ((g6.trans g7).has b5) 1 rfl (asSl_v _)) ?_
    refine Runs.step (AH.has.rd (g7.has b6) 0 rfl rfl) ?_
    refine Runs.step (AH.has.rd (g7.has b6) 1 rfl (asSl_v _)) ?_
    obtain ⟨_, H10, e10, s10, s10b, rfl, n10, n10b, g10, o10, o10b⟩ := modint_Floor_spec (n2.grow ((g5.trans g6).trans g7)) (n4.grow ((g5.trans g6).trans g7)) a1 a3
    refine Runs.step e10 ?_
    refine Runs.step rfl ?_
    refine Runs.step rfl ?_
    refine Runs.ifT rfl ?_
    refine Runs.step (seenAt rfl rfl) ?_
    refine Runs.step (seenAt rfl (asSl_v _)) ?_
    refine Runs.step rfl ?_
    refine Runs.ifT rfl ?_
    refine Runs.step (seenAt rfl rfl) ?_
    refine Runs.step (seenAt rfl (asSl_v _)) ?_
    refine Runs.step (seen (avInt_int _ _)) ?_
    refine Runs.new fun H11 b11 g11 => ?_
    refine Runs.new fun H12 b12 g12 => ?_
    refine Runs.puts (g12.has b11) rfl fun H13 b13 u13 => ?_
    have b12_13 := AH.has.updr b12 (Nat.ne_of_gt (Nat.lt_of_lt_of_le (b11).lt (Nat.le_refl _))) u13
    refine Runs.puts b12_13 rfl fun H14 b14 u14 => ?_
    have b13_14 := AH.has.updr b13 (Nat.ne_of_lt (Nat.lt_of_lt_of_le (b11).lt (Nat.le_refl _))) u14
    refine Runs.step (AH.has.rd (((((((g6.trans g7).trans g10).trans g11).trans g12).updr (Nat.le_trans (((g6.trans g7).trans g10)).size (Nat.le_refl _)) u13).updr (Nat.le_trans ((((g6.trans g7).trans g10).trans g11)).size (Nat.le_refl _)) u14).has b5) 0 rfl rfl) ?_
    refine Runs.step (AH.has.rd (((((((g6.trans g7).trans g10).trans g11).trans g12).updr (Nat.le_trans (((g6.trans g7).trans g10)).size (Nat.le_refl _)) u13).updr (Nat.le_trans ((((g6.trans g7).trans g10).trans g11)).size (Nat.le_refl _)) u14).has b5) 1 rfl (asSl_v _)) ?_
    refine Runs.step (AH.has.rd ((((((g7.trans g10).trans g11).trans g12).updr (Nat.le_trans ((g7.trans g10)).size (Nat.le_refl _)) u13).updr (Nat.le_trans (((g7.trans g10).trans g11)).size (Nat.le_refl _)) u14).has b6) 0 rfl rfl) ?_
    refine Runs.step (AH.has.rd ((((((g7.trans g10).trans g11).trans g12).updr (Nat.le_trans ((g7.trans g10)).size (Nat.le_refl _)) u13).updr (Nat.le_trans (((g7.trans g10).trans g11)).size (Nat.le_refl _)) u14).has b6) 1 rfl (asSl_v _)) ?_
    obtain ⟨_, H15, e15, s15, s15b, rfl, n15, n15b, g15, o15, o15b⟩ := ref03_Floor_spec (n2.grow (((((((g5.trans g6).trans g7).trans g10).trans g11).trans g12).updr (Nat.le_trans ((((g5.trans g6).trans g7).trans g10)).size (Nat.le_refl _)) u13).updr (Nat.le_trans (((((g5.trans g6).trans g7).trans g10).trans g11)).size (Nat.le_refl _)) u14)) (n4.grow (((((((g5.trans g6).trans g7).trans g10).trans g11).trans g12).updr (Nat.le_trans ((((g5.trans g6).trans g7).trans g10)).size (Nat.le_refl _)) u13).updr (Nat.le_trans (((((g5.trans g6).trans g7).trans g10).trans g11)).size (Nat.le_refl _)) u14)) a1 a3
    refine Runs.step e15 ?_
    refine Runs.step rfl ?_
    refine Runs.step rfl ?_
    refine Runs.ifT rfl ?_
    refine Runs.step (seenAt rfl rfl) ?_
    refine Runs.step (seenAt rfl (asSl_v _)) ?_
    refine Runs.step rfl ?_
    refine Runs.ifT rfl ?_
    refine Runs.step (seenAt rfl rfl) ?_
    refine Runs.step (seenAt rfl (asSl_v _)) ?_
    refine Runs.step (seen (avInt_int _ _)) ?_
    refine Runs.new fun H16 b16 g16 => ?_
    refine Runs.new fun H17 b17 g17 => ?_
    refine Runs.puts (g17.has b16) rfl fun H18 b18 u18 => ?_
    have b17_18 := AH.has.updr b17 (Nat.ne_of_gt (Nat.lt_of_lt_of_le (b16).lt (Nat.le_refl _))) u18
    refine Runs.puts b17_18 rfl fun H19 b19 u19 => ?_
    have b18_19 := AH.has.updr b18 (Nat.ne_of_lt (Nat.lt_of_lt_of_le (b16).lt (Nat.le_refl _))) u19
    refine Runs.step (AH.has.rd (((((g15.trans g16).trans g17).updr (Nat.le_trans (g15).size (Nat.le_refl _)) u18).updr (Nat.le_trans ((g15.trans g16)).size (Nat.le_refl _)) u19).has b13_14) 0 rfl rfl) ?_
    refine Runs.step (AH.has.rd (((((g15.trans g16).trans g17).updr (Nat.le_trans (g15).size (Nat.le_refl _)) u18).updr (Nat.le_trans ((g15.trans g16)).size (Nat.le_refl _)) u19).has b13_14) 1 rfl (asSl_v _)) ?_
    refine Runs.step (AH.has.rd b18_19 0 rfl rfl) ?_
    refine Runs.step (AH.has.rd b18_19 1 rfl (asSl_v _)) ?_
    obtain ⟨H20, e20, g20⟩ := ref03_Same_spec (n10.grow ((((((((g11.trans g12).updr (Nat.le_refl _) u13).updr (Nat.le_trans (g11).size (Nat.le_refl _)) u14).trans g15).trans g16).trans g17).updr (Nat.le_trans (((((g11.trans g12).updr (Nat.le_refl _) u13).updr (Nat.le_trans (g11).size (Nat.le_refl _)) u14).trans g15)).size (Nat.le_refl _)) u18).updr (Nat.le_trans ((((((g11.trans g12).updr (Nat.le_refl _) u13).updr (Nat.le_trans (g11).size (Nat.le_refl _)) u14).trans g15).trans g16)).size (Nat.le_refl _)) u19)) (n15.grow (((g16.trans g17).updr (Nat.le_refl _) u18).updr (Nat.le_trans (g16).size (Nat.le_refl _)) u19)) (((floorI a1 x2 a3 x4).1))
    refine Runs.step e20 ?_
    refine Runs.step (seen rfl) ?_
    refine Runs.step (AH.has.rd ((((((g15.trans g16).trans g17).updr (Nat.le_trans (g15).size (Nat.le_refl _)) u18).updr (Nat.le_trans ((g15.trans g16)).size (Nat.le_refl _)) u19).trans g20).has b14) 0 rfl rfl) ?_
    refine Runs.step (AH.has.rd ((((((g15.trans g16).trans g17).updr (Nat.le_trans (g15).size (Nat.le_refl _)) u18).updr (Nat.le_trans ((g15.trans g16)).size (Nat.le_refl _)) u19).trans g20).has b14) 1 rfl (asSl_v _)) ?_
    refine Runs.step (AH.has.rd (g20.has b19) 0 rfl rfl) ?_
    refine Runs.step (AH.has.rd (g20.has b19) 1 rfl (asSl_v _)) ?_
    obtain ⟨H21, e21, g21⟩ := ref03_Same_spec (n10b.grow (((((((((g11.trans g12).updr (Nat.le_refl _) u13).updr (Nat.le_trans (g11).size (Nat.le_refl _)) u14).trans g15).trans g16).trans g17).updr (Nat.le_trans (((((g11.trans g12).updr (Nat.le_refl _) u13).updr (Nat.le_trans (g11).size (Nat.le_refl _)) u14).trans g15)).size (Nat.le_refl _)) u18).updr (Nat.le_trans ((((((g11.trans g12).updr (Nat.le_refl _) u13).updr (Nat.le_trans (g11).size (Nat.le_refl _)) u14).trans g15).trans g16)).size (Nat.le_refl _)) u19).trans g20)) (n15b.grow ((((g16.trans g17).updr (Nat.le_refl _) u18).updr (Nat.le_trans (g16).size (Nat.le_refl _)) u19).trans g20)) (((floorI a1 x2 a3 x4).2.2.1))
    refine Runs.step e21 ?_
    refine Runs.step (seen rfl) ?_
    refine Runs.new fun H22 b22 g22 => ?_
    refine Runs.new fun H23 b23 g23 => ?_
    obtain ⟨w24, z24, e⟩ := Option.bind_eq_some_iff.1 e
    obtain ⟨w25, z25, e⟩ := Option.bind_eq_some_iff.1 e
    obtain ⟨_, H26, e26, s26, s26b, rfl, n26, n26b, g26, o26, o26b⟩ := modint_Floor_spec (Nats.of_has1 (g23.has b22) z24) (Nats.of_has1 b23 z25) false false
    refine Runs.step e26 ?_
    refine Runs.step rfl ?_
    refine Runs.step rfl ?_
    refine Runs.ifT rfl ?_
    refine Runs.step (seenAt rfl rfl) ?_
    refine Runs.step (seenAt rfl (asSl_v _)) ?_
    refine Runs.step rfl ?_
    refine Runs.ifT rfl ?_
    refine Runs.step (seenAt rfl rfl) ?_
    refine Runs.step (seenAt rfl (asSl_v _)) ?_
    refine Runs.step (seen (avInt_int _ _)) ?_
    refine Runs.new fun H27 b27 g27 => ?_
    refine Runs.new fun H28 b28 g28 => ?_
    refine Runs.puts (g28.has b27) rfl fun H29 b29 u29 => ?_
    have b28_29 := AH.has.updr b28 (Nat.ne_of_gt (Nat.lt_of_lt_of_le (b27).lt (Nat.le_refl _))) u29
    refine Runs.puts b28_29 rfl fun H30 b30 u30 => ?_
    have b29_30 := AH.has.updr b29 (Nat.ne_of_lt (Nat.lt_of_lt_of_le (b27).lt (Nat.le_refl _))) u30
    refine Runs.cond (fun k31 => ?_) (fun k31 => ?_)
    · replace e := (condT k31).symm.trans e
      refine Runs.cond (fun k32 => ?_) (fun k32 => ?_)
      · replace e := (condT k32).symm.trans e
        refine Runs.cond (fun k33 => ?_) (fun k33 => ?_)
        · replace e := (condT k33).symm.trans e
          refine Runs.step (AH.has.rd b29_30 1 rfl (asSl_v _)) ?_
          rw [(n26.grow (((g27.trans g28).updr (Nat.le_refl _) u29).updr (Nat.le_trans (g27).size (Nat.le_refl _)) u30)).len]
          cases e
          cases good
          exact Runs.ret ⟨rfl, (((((((((((((((((((((g5.trans g6).trans g7).trans g10).trans g11).trans g12).updr (Nat.le_trans ((((g5.trans g6).trans g7).trans g10)).size (Nat.le_refl _)) u13).updr (Nat.le_trans (((((g5.trans g6).trans g7).trans g10).trans g11)).size (Nat.le_refl _)) u14).trans g15).trans g16).trans g17).updr (Nat.le_trans (((((((((g5.trans g6).trans g7).trans g10).trans g11).trans g12).updr (Nat.le_trans ((((g5.trans g6).trans g7).trans g10)).size (Nat.le_refl _)) u13).updr (Nat.le_trans (((((g5.trans g6).trans g7).trans g10).trans g11)).size (Nat.le_refl _)) u14).trans g15)).size (Nat.le_refl _)) u18).updr (Nat.le_trans ((((((((((g5.trans g6).trans g7).trans g10).trans g11).trans g12).updr (Nat.le_trans ((((g5.trans g6).trans g7).trans g10)).size (Nat.le_refl _)) u13).updr (Nat.le_trans (((((g5.trans g6).trans g7).trans g10).trans g11)).size (Nat.le_refl _)) u14).trans g15).trans g16)).size (Nat.le_refl _)) u19).trans g20).trans g21).trans g22).trans g23).trans g26).trans g27).trans g28).updr (Nat.le_trans ((((((((((((((((((g5.trans g6).trans g7).trans g10).trans g11).trans g12).updr (Nat.le_trans ((((g5.trans g6).trans g7).trans g10)).size (Nat.le_refl _)) u13).updr (Nat.le_trans (((((g5.trans g6).trans g7).trans g10).trans g11)).size (Nat.le_refl _)) u14).trans g15).trans g16).trans g17).updr (Nat.le_trans (((((((((g5.trans g6).trans g7).trans g10).trans g11).trans g12).updr (Nat.le_trans ((((g5.trans g6).trans g7).trans g10)).size (Nat.le_refl _)) u13).updr (Nat.le_trans (((((g5.trans g6).trans g7).trans g10).trans g11)).size (Nat.le_refl _)) u14).trans g15)).size (Nat.le_refl _)) u18).updr (Nat.le_trans ((((((((((g5.trans g6).trans g7).trans g10).trans g11).trans g12).updr (Nat.le_trans ((((g5.trans g6).trans g7).trans g10)).size (Nat.le_refl _)) u13).updr (Nat.le_trans (((((g5.trans g6).trans g7).trans g10).trans g11)).size (Nat.le_refl _)) u14).trans g15).trans g16)).size (Nat.le_refl _)) u19).trans g20).trans g21).trans g22).trans g23).trans g26)).size (Nat.le_refl _)) u29).updr (Nat.le_trans (((((((((((((((((((g5.trans g6).trans g7).trans g10).trans g11).trans g12).updr (Nat.le_trans ((((g5.trans g6).trans g7).trans g10)).size (Nat.le_refl _)) u13).updr (Nat.le_trans (((((g5.trans g6).trans g7).trans g10).trans g11)).size (Nat.le_refl _)) u14).trans g15).trans g16).trans g17).updr (Nat.le_trans (((((((((g5.trans g6).trans g7).trans g10).trans g11).trans g12).updr (Nat.le_trans ((((g5.trans g6).trans g7).trans g10)).size (Nat.le_refl _)) u13).updr (Nat.le_trans (((((g5.trans g6).trans g7).trans g10).trans g11)).size (Nat.le_refl _)) u14).trans g15)).size (Nat.le_refl _)) u18).updr (Nat.le_trans ((((((((((g5.trans g6).trans g7).trans g10).trans g11).trans g12).updr (Nat.le_trans ((((g5.trans g6).trans g7).trans g10)).size (Nat.le_refl _)) u13).updr (Nat.le_trans (((((g5.trans g6).trans g7).trans g10).trans g11)).size (Nat.le_refl _)) u14).trans g15).trans g16)).size (Nat.le_refl _)) u19).trans g20).trans g21).trans g22).trans g23).trans g26).trans g27)).size (Nat.le_refl _)) u30)⟩
        · replace e := (condF k33).symm.trans e
          cases e
          cases good
          exact Runs.ret ⟨rfl, (((((((((((((((((((((g5.trans g6).trans g7).trans g10).trans g11).trans g12).updr (Nat.le_trans ((((g5.trans g6).trans g7).trans g10)).size (Nat.le_refl _)) u13).updr (Nat.le_trans (((((g5.trans g6).trans g7).trans g10).trans g11)).size (Nat.le_refl _)) u14).trans g15).trans g16).trans g17).updr (Nat.le_trans (((((((((g5.trans g6).trans g7).trans g10).trans g11).trans g12).updr (Nat.le_trans ((((g5.trans g6).trans g7).trans g10)).size (Nat.le_refl _)) u13).updr (Nat.le_trans (((((g5.trans g6).trans g7).trans g10).trans g11)).size (Nat.le_refl _)) u14).trans g15)).size (Nat.le_refl _)) u18).updr (Nat.le_trans ((((((((((g5.trans g6).trans g7).trans g10).trans g11).trans g12).updr (Nat.le_trans ((((g5.trans g6).trans g7).trans g10)).size (Nat.le_refl _)) u13).updr (Nat.le_trans (((((g5.trans g6).trans g7).trans g10).trans g11)).size (Nat.le_refl _)) u14).trans g15).trans g16)).size (Nat.le_refl _)) u19).trans g20).trans g21).trans g22).trans g23).trans g26).trans g27).trans g28).updr (Nat.le_trans ((((((((((((((((((g5.trans g6).trans g7).trans g10).trans g11).trans g12).updr (Nat.le_trans ((((g5.trans g6).trans g7).trans g10)).size (Nat.le_refl _)) u13).updr (Nat.le_trans (((((g5.trans g6).trans g7).trans g10).trans g11)).size (Nat.le_refl _)) u14).trans g15).trans g16).trans g17).updr (Nat.le_trans (((((((((g5.trans g6).trans g7).trans g10).trans g11).trans g12).updr (Nat.le_trans ((((g5.trans g6).trans g7).trans g10)).size (Nat.le_refl _)) u13).updr (Nat.le_trans (((((g5.trans g6).trans g7).trans g10).trans g11)).size (Nat.le_refl _)) u14).trans g15)).size (Nat.le_refl _)) u18).updr (Nat.le_trans ((((((((((g5.trans g6).trans g7).trans g10).trans g11).trans g12).updr (Nat.le_trans ((((g5.trans g6).trans g7).trans g10)).size (Nat.le_refl _)) u13).updr (Nat.le_trans (((((g5.trans g6).trans g7).trans g10).trans g11)).size (Nat.le_refl _)) u14).trans g15).trans g16)).size (Nat.le_refl _)) u19).trans g20).trans g21).trans g22).trans g23).trans g26)).size (Nat.le_refl _)) u29).updr (Nat.le_trans (((((((((((((((((((g5.trans g6).trans g7).trans g10).trans g11).trans g12).updr (Nat.le_trans ((((g5.trans g6).trans g7).trans g10)).size (Nat.le_refl _)) u13).updr (Nat.le_trans (((((g5.trans g6).trans g7).trans g10).trans g11)).size (Nat.le_refl _)) u14).trans g15).trans g16).trans g17).updr (Nat.le_trans (((((((((g5.trans g6).trans g7).trans g10).trans g11).trans g12).updr (Nat.le_trans ((((g5.trans g6).trans g7).trans g10)).size (Nat.le_refl _)) u13).updr (Nat.le_trans (((((g5.trans g6).trans g7).trans g10).trans g11)).size (Nat.le_refl _)) u14).trans g15)).size (Nat.le_refl _)) u18).updr (Nat.le_trans ((((((((((g5.trans g6).trans g7).trans g10).trans g11).trans g12).updr (Nat.le_trans ((((g5.trans g6).trans g7).trans g10)).size (Nat.le_refl _)) u13).updr (Nat.le_trans (((((g5.trans g6).trans g7).trans g10).trans g11)).size (Nat.le_refl _)) u14).trans g15).trans g16)).size (Nat.le_refl _)) u19).trans g20).trans g21).trans g22).trans g23).trans g26).trans g27)).size (Nat.le_refl _)) u30)⟩
      · replace e := (condF k32).symm.trans e
        cases e
        cases good
        exact Runs.ret ⟨rfl, (((((((((((((((((((((g5.trans g6).trans g7).trans g10).trans g11).trans g12).updr (Nat.le_trans ((((g5.trans g6).trans g7).trans g10)).size (Nat.le_refl _)) u13).updr (Nat.le_trans (((((g5.trans g6).trans g7).trans g10).trans g11)).size (Nat.le_refl _)) u14).trans g15).trans g16).trans g17).updr (Nat.le_trans (((((((((g5.trans g6).trans g7).trans g10).trans g11).trans g12).updr (Nat.le_trans ((((g5.trans g6).trans g7).trans g10)).size (Nat.le_refl _)) u13).updr (Nat.le_trans (((((g5.trans g6).trans g7).trans g10).trans g11)).size (Nat.le_refl _)) u14).trans g15)).size (Nat.le_refl _)) u18).updr (Nat.le_trans ((((((((((g5.trans g6).trans g7).trans g10).trans g11).trans g12).updr (Nat.le_trans ((((g5.trans g6).trans g7).trans g10)).size (Nat.le_refl _)) u13).updr (Nat.le_trans (((((g5.trans g6).trans g7).trans g10).trans g11)).size (Nat.le_refl _)) u14).trans g15).trans g16)).size (Nat.le_refl _)) u19).trans g20).trans g21).trans g22).trans g23).trans g26).trans g27).trans g28).updr (Nat.le_trans ((((((((((((((((((g5.trans g6).trans g7).trans g10).trans g11).trans g12).updr (Nat.le_trans ((((g5.trans g6).trans g7).trans g10)).size (Nat.le_refl _)) u13).updr (Nat.le_trans (((((g5.trans g6).trans g7).trans g10).trans g11)).size (Nat.le_refl _)) u14).trans g15).trans g16).trans g17).updr (Nat.le_trans (((((((((g5.trans g6).trans g7).trans g10).trans g11).trans g12).updr (Nat.le_trans ((((g5.trans g6).trans g7).trans g10)).size (Nat.le_refl _)) u13).updr (Nat.le_trans (((((g5.trans g6).trans g7).trans g10).trans g11)).size (Nat.le_refl _)) u14).trans g15)).size (Nat.le_refl _)) u18).updr (Nat.le_trans ((((((((((g5.trans g6).trans g7).trans g10).trans g11).trans g12).updr (Nat.le_trans ((((g5.trans g6).trans g7).trans g10)).size (Nat.le_refl _)) u13).updr (Nat.le_trans (((((g5.trans g6).trans g7).trans g10).trans g11)).size (Nat.le_refl _)) u14).trans g15).trans g16)).size (Nat.le_refl _)) u19).trans g20).trans g21).trans g22).trans g23).trans g26)).size (Nat.le_refl _)) u29).updr (Nat.le_trans (((((((((((((((((((g5.trans g6).trans g7).trans g10).trans g11).trans g12).updr (Nat.le_trans ((((g5.trans g6).trans g7).trans g10)).size (Nat.le_refl _)) u13).updr (Nat.le_trans (((((g5.trans g6).trans g7).trans g10).trans g11)).size (Nat.le_refl _)) u14).trans g15).trans g16).trans g17).updr (Nat.le_trans (((((((((g5.trans g6).trans g7).trans g10).trans g11).trans g12).updr (Nat.le_trans ((((g5.trans g6).trans g7).trans g10)).size (Nat.le_refl _)) u13).updr (Nat.le_trans (((((g5.trans g6).trans g7).trans g10).trans g11)).size (Nat.le_refl _)) u14).trans g15)).size (Nat.le_refl _)) u18).updr (Nat.le_trans ((((((((((g5.trans g6).trans g7).trans g10).trans g11).trans g12).updr (Nat.le_trans ((((g5.trans g6).trans g7).trans g10)).size (Nat.le_refl _)) u13).updr (Nat.le_trans (((((g5.trans g6).trans g7).trans g10).trans g11)).size (Nat.le_refl _)) u14).trans g15).trans g16)).size (Nat.le_refl _)) u19).trans g20).trans g21).trans g22).trans g23).trans g26).trans g27)).size (Nat.le_refl _)) u30)⟩
    · replace e := (condF k31).symm.trans e
      cases e
      cases good
      exact Runs.ret ⟨rfl, (((((((((((((((((((((g5.trans g6).trans g7).trans g10).trans g11).trans g12).updr (Nat.le_trans ((((g5.trans g6).trans g7).trans g10)).size (Nat.le_refl _)) u13).updr (Nat.le_trans (((((g5.trans g6).trans g7).trans g10).trans g11)).size (Nat.le_refl _)) u14).trans g15).trans g16).trans g17).updr (Nat.le_trans (((((((((g5.trans g6).trans g7).trans g10).trans g11).trans g12).updr (Nat.le_trans ((((g5.trans g6).trans g7).trans g10)).size (Nat.le_refl _)) u13).updr (Nat.le_trans (((((g5.trans g6).trans g7).trans g10).trans g11)).size (Nat.le_refl _)) u14).trans g15)).size (Nat.le_refl _)) u18).updr (Nat.le_trans ((((((((((g5.trans g6).trans g7).trans g10).trans g11).trans g12).updr (Nat.le_trans ((((g5.trans g6).trans g7).trans g10)).size (Nat.le_refl _)) u13).updr (Nat.le_trans (((((g5.trans g6).trans g7).trans g10).trans g11)).size (Nat.le_refl _)) u14).trans g15).trans g16)).size (Nat.le_refl _)) u19).trans g20).trans g21).trans g22).trans g23).trans g26).trans g27).trans g28).updr (Nat.le_trans ((((((((((((((((((g5.trans g6).trans g7).trans g10).trans g11).trans g12).updr (Nat.le_trans ((((g5.trans g6).trans g7).trans g10)).size (Nat.le_refl _)) u13).updr (Nat.le_trans (((((g5.trans g6).trans g7).trans g10).trans g11)).size (Nat.le_refl _)) u14).trans g15).trans g16).trans g17).updr (Nat.le_trans (((((((((g5.trans g6).trans g7).trans g10).trans g11).trans g12).updr (Nat.le_trans ((((g5.trans g6).trans g7).trans g10)).size (Nat.le_refl _)) u13).updr (Nat.le_trans (((((g5.trans g6).trans g7).trans g10).trans g11)).size (Nat.le_refl _)) u14).trans g15)).size (Nat.le_refl _)) u18).updr (Nat.le_trans ((((((((((g5.trans g6).trans g7).trans g10).trans g11).trans g12).updr (Nat.le_trans ((((g5.trans g6).trans g7).trans g10)).size (Nat.le_refl _)) u13).updr (Nat.le_trans (((((g5.trans g6).trans g7).trans g10).trans g11)).size (Nat.le_refl _)) u14).trans g15).trans g16)).size (Nat.le_refl _)) u19).trans g20).trans g21).trans g22).trans g23).trans g26)).size (Nat.le_refl _)) u29).updr (Nat.le_trans (((((((((((((((((((g5.trans g6).trans g7).trans g10).trans g11).trans g12).updr (Nat.le_trans ((((g5.trans g6).trans g7).trans g10)).size (Nat.le_refl _)) u13).updr (Nat.le_trans (((((g5.trans g6).trans g7).trans g10).trans g11)).size (Nat.le_refl _)) u14).trans g15).trans g16).trans g17).updr (Nat.le_trans (((((((((g5.trans g6).trans g7).trans g10).trans g11).trans g12).updr (Nat.le_trans ((((g5.trans g6).trans g7).trans g10)).size (Nat.le_refl _)) u13).updr (Nat.le_trans (((((g5.trans g6).trans g7).trans g10).trans g11)).size (Nat.le_refl _)) u14).trans g15)).size (Nat.le_refl _)) u18).updr (Nat.le_trans ((((((((((g5.trans g6).trans g7).trans g10).trans g11).trans g12).updr (Nat.le_trans ((((g5.trans g6).trans g7).trans g10)).size (Nat.le_refl _)) u13).updr (Nat.le_trans (((((g5.trans g6).trans g7).trans g10).trans g11)).size (Nat.le_refl _)) u14).trans g15).trans g16)).size (Nat.le_refl _)) u19).trans g20).trans g21).trans g22).trans g23).trans g26).trans g27)).size (Nat.le_refl _)) u30)⟩

theorem law03_ModintFloors_run {s : law03_ModintFloors_St} {r : law03_ModintFloors_Res} (it : Iter law03_ModintFloors_step s r) : law03_ModintFloors_At r s := Iter.ind (fun s o e good => by
  cases s with
  | fn a1 x2 a3 x4 => exact @law03_ModintFloors_fn_walk _ _ a1 x2 a3 x4 e good
  | no => exact True.intro
  ) it

theorem law03_ModintFloors_opt {h : AH} {a2 : Sl} {a4 : Sl} {a1 : Bool} {x2 : List Nat} {a3 : Bool} {x4 : List Nat} (n2 : Nats h a2 x2) (n4 : Nats h a4 x4) {r : law03_ModintFloors_Res} (q : runP law03_ModintFloors_step (.fn a1 x2 a3 x4) = some r) : Runs (go (.fn F.law03_ModintFloors [.agg [.bool a1, a2.v], .agg [.bool a3, a4.v]]) h) (law03_ModintFloors_post h r) := law03_ModintFloors_run (runP_iter q) n2 n4

inductive law03_ModintBack_St
  | fn (a1 : Bool) (x2 : List Nat) (a3 : Bool) (x4 : List Nat)
  | no

abbrev law03_ModintBack_Res := Bool

noncomputable def law03_ModintBack_fn' (a1 : Bool) (x2 : List Nat) (a3 : Bool) (x4 : List Nat) : Option (law03_ModintBack_St ⊕ law03_ModintBack_Res) :=
  cond (!(rtI a1 x2)) (some (.inr true)) (cond (!(rtI a3 x4)) (some (.inr true)) (cond (a3) (some (.inr true)) (cond (decide ((List.length x4 : Int) = 0)) (some (.inr true)) (cond (!decide (((floorI a1 x2 a3 x4).2.2.2.2) = 0)) (cond (decide (((floorI a1 x2 a3 x4).2.2.2.2) = 4)) (some (.inr (decide ((List.length x2 : Int) = 64)))) (some (.inr false))) (cond (decide (((modint_Mul' (((floorI a1 x2 a3 x4).1)) ((floorI a1 x2 a3 x4).2.1) a3 x4).2.2) = 4)) (some (.inr (decide ((List.length x2 : Int) = 64)))) (cond (decide (((modint_Add' (((modint_Mul' (((floorI a1 x2 a3 x4).1)) ((floorI a1 x2 a3 x4).2.1) a3 x4).1)) ((modint_Mul' (((floorI a1 x2 a3 x4).1)) ((floorI a1 x2 a3 x4).2.1) a3 x4).2.1) (((floorI a1 x2 a3 x4).2.2.1)) ((floorI a1 x2 a3 x4).2.2.2.1)).2.2) = 4)) (some (.inr (decide ((List.length x2 : Int) = 64)))) ((need ((((modint_Add' (((modint_Mul' (((floorI a1 x2 a3 x4).1)) ((floorI a1 x2 a3 x4).2.1) a3 x4).1)) ((modint_Mul' (((floorI a1 x2 a3 x4).1)) ((floorI a1 x2 a3 x4).2.1) a3 x4).2.1) (((floorI a1 x2 a3 x4).2.2.1)) ((floorI a1 x2 a3 x4).2.2.2.1)).1)) = a1 ∧ ((modint_Add' (((modint_Mul' (((floorI a1 x2 a3 x4).1)) ((floorI a1 x2 a3 x4).2.1) a3 x4).1)) ((modint_Mul' (((floorI a1 x2 a3 x4).1)) ((floorI a1 x2 a3 x4).2.1) a3 x4).2.1) (((floorI a1 x2 a3 x4).2.2.1)) ((floorI a1 x2 a3 x4).2.2.2.1)).2.1) = x2)).bind fun c27_0 => cond (decide (((modint_Mul' (((floorI a1 x2 a3 x4).1)) ((floorI a1 x2 a3 x4).2.1) a3 x4).2.2) = 0)) (cond (decide (((modint_Add' (((modint_Mul' (((floorI a1 x2 a3 x4).1)) ((floorI a1 x2 a3 x4).2.1) a3 x4).1)) ((modint_Mul' (((floorI a1 x2 a3 x4).1)) ((floorI a1 x2 a3 x4).2.1) a3 x4).2.1) (((floorI a1 x2 a3 x4).2.2.1)) ((floorI a1 x2 a3 x4).2.2.2.1)).2.2) = 0)) (cond (true) (cond (!(((floorI a1 x2 a3 x4).2.2.1))) (some (.inr (decide ((cmpI (((floorI a1 x2 a3 x4).2.2.1)) ((floorI a1 x2 a3 x4).2.2.2.1) a3 x4) = (-1))))) (some (.inr false))) (some (.inr false))) (some (.inr false))) (some (.inr false)))))))))

noncomputable def law03_ModintBack_step : law03_ModintBack_St → Option (law03_ModintBack_St ⊕ law03_ModintBack_Res)
  | .fn a1 x2 a3 x4 => law03_ModintBack_fn' a1 x2 a3 x4
  | .no => none

@[reducible] def law03_ModintBack_post (h0 : AH) (r : law03_ModintBack_Res) (v : AV) (h' : AH) : Prop := v = .bool r ∧ Grow h0 h'

def law03_ModintBack_At (r : law03_ModintBack_Res) : law03_ModintBack_St → Prop
  | .fn a1 x2 a3 x4 => ∀ {h : AH} {a2 : Sl} {a4 : Sl}, Nats h a2 x2 → Nats h a4 x4 → Runs (go (.fn F.law03_ModintBack [.agg [.bool a1, a2.v], .agg [.bool a3, a4.v]]) h) (law03_ModintBack_post h r)
  | .no => True

theorem law03_ModintBack_fn_walk {r : law03_ModintBack_Res} {o : law03_ModintBack_St ⊕ law03_ModintBack_Res} {a1 : Bool} {x2 : List Nat} {a3 : Bool} {x4 : List Nat} (e : law03_ModintBack_fn' a1 x2 a3 x4 = some o) (good : GoodS (law03_ModintBack_At r) r o) : law03_ModintBack_At r (.fn a1 x2 a3 x4) := by
  intro h a2 a4 n2 n4
  rw [u_law03_ModintBack]
  unfold law03_ModintBack_fn' at e
  refine Runs.new fun H5 b5 g5 => ?_
  refine Runs.new fun H6 b6 g6 => ?_
  refine Runs.step (AH.has.rd (g6.has b5) 0 rfl rfl) ?_
  refine Runs.step (AH.has.rd (g6.has b5) 1 rfl (asSl_v _)) ?_
  obtain ⟨H7, e7, g7⟩ := ref03_Right_spec (n2.grow (g5.trans g6)) a1
  refine Runs.step e7 ?_
  refine Runs.step (seen rfl) ?_
  refine Runs.step (AH.has.rd (g7.has b6) 0 rfl rfl) ?_
  refine Runs.step (AH.has.rd (g7.has b6) 1 rfl (asSl_v _)) ?_
  obtain ⟨H8, e8, g8⟩ := ref03_Right_spec (n4.grow ((g5.trans g6).trans g7)) a3
  refine Runs.step e8 ?_
  refine Runs.step (seen rfl) ?_
  refine Runs.cond (fun k9 => ?_) (fun k9 => ?_)
  · replace e := (condT k9).symm.trans e
    cases e
    cases good
    exact Runs.ret ⟨rfl, (((g5.trans g6).trans g7).trans g8)⟩
  · replace e := (condF k9).symm.trans e
    refine Runs.cond (fun k10 => ?_) (fun k10 => ?_)
    · replace e := (condT k10).symm.trans e
      cases e
      cases good
      exact Runs.ret ⟨rfl, (((g5.trans g6).trans g7).trans g8)⟩
    · replace e := (condF k10).symm.trans e
      refine Runs.step (AH.has.rd ((g7.trans g8).has b6) 0 rfl rfl) ?_
      refine Runs.cond (fun k11 => ?_) (fun k11 => ?_)
      · replace e := (condT k11).symm.trans e
        cases e
        cases good
        exact Runs.ret ⟨rfl, (((g5.trans g6).trans g7).trans g8)⟩
      · replace e := (condF k11).symm.trans e
        refine Runs.step (AH.has.rd ((g7.trans g8).has b6) 1 rfl (asSl_v _)) ?_
        rw [(n4.grow (((g5.trans g6).trans g7).trans g8)).len]
        refine Runs.cond (fun k12 => ?_) (fun k12 => ?_)
        · replace e := (condT k12).symm.trans e
          cases e
          cases good
          exact Runs.ret ⟨rfl, (((g5.trans g6).trans g7).trans g8)⟩
        · replace e := (condF k12).symm.trans e
          refine Runs.step (AH.has.rd (((g6.trans g7).trans g8).has b5) 0 rfl rfl) ?_
          refine Runs.step (AH.has.rd (((g6.trans g7).trans g8).has b5) 1 rfl (asSl_v _)) ?_
          refine Runs.step (AH.has.rd ((g7.trans g8).has b6) 0 rfl rfl) ?_
          refine Runs.step (AH.has.rd ((g7.trans g8).has b6) 1 rfl (asSl_v _)) ?_
          obtain ⟨_, H13, e13, s13, s13b, rfl, n13, n13b, g13, o13, o13b⟩ := modint_Floor_spec (n2.grow (((g5.trans g6).trans g7).trans g8)) (n4.grow (((g5.trans g6).trans g7).trans g8)) a1 a3
          refine Runs.step e13 ?_
          refine Runs.step rfl ?_
          refine Runs.step rfl ?_
          refine Runs.ifT rfl ?_
          refine Runs.step (seenAt rfl rfl) ?_
          refine Runs.step (seenAt rfl (asSl_v _)) ?_
          refine Runs.step rfl ?_
          refine Runs.ifT rfl ?_
          refine Runs.step (seenAt rfl rfl) ?_
          refine Runs.step (seenAt rfl (asSl_v _)) ?_
          refine Runs.step (seen (avInt_int _ _)) ?_
          refine Runs.new fun H14 b14 g14 => ?_
          refine Runs.new fun H15 b15 g15 => ?_
          refine Runs.puts (g15.has b14) rfl fun H16 b16 u16 => ?_
          have b15_16 := AH.has.updr b15 (Nat.ne_of_gt (Nat.lt_of_lt_of_le (b14).lt (Nat.le_refl _))) u16
          refine Runs.puts b15_16 rfl fun H17 b17 u17 => ?_
          have b16_17 := AH.has.updr b16 (Nat.ne_of_lt (Nat.lt_of_lt_of_le (b14).lt (Nat.le_refl _))) u17
          refine Runs.cond (fun k18 => ?_) (fun k18 => ?_)
          · replace e := (condT k18).symm.trans e
            refine Runs.cond (fun k19 => ?_) (fun k19 => ?_)
            · replace e := (condT k19).symm.trans e
              refine Runs.step (AH.has.rd ((((((((g6.trans g7).trans g8).trans g13).trans g14).trans g15).updr (Nat.le_trans ((((g6.trans g7).trans g8).trans g13)).size (Nat.le_refl _)) u16).updr (Nat.le_trans (((((g6.trans g7).trans g8).trans g13).trans g14)).size (Nat.le_refl _)) u17).has b5) 1 rfl (asSl_v _)) ?_
              rw [(n2.grow ((((((((g5.trans g6).trans g7).trans g8).trans g13).trans g14).trans g15).updr (Nat.le_trans (((((g5.trans g6).trans g7).trans g8).trans g13)).size (Nat.le_refl _)) u16).updr (Nat.le_trans ((((((g5.trans g6).trans g7).trans g8).trans g13).trans g14)).size (Nat.le_refl _)) u17)).len]
              cases e
              cases good
              exact Runs.ret ⟨rfl, ((((((((g5.trans g6).trans g7).trans g8).trans g13).trans g14).trans g15).updr (Nat.le_trans (((((g5.trans g6).trans g7).trans g8).trans g13)).size (Nat.le_refl _)) u16).updr (Nat.le_trans ((((((g5.trans g6).trans g7).trans g8).trans g13).trans g14)).size (Nat.le_refl _)) u17)⟩
            · replace e := (condF k19).symm.trans e
              cases e
              cases good
              exact Runs.ret ⟨rfl, ((((((((g5.trans g6).trans g7).trans g8).trans g13).trans g14).trans g15).updr (Nat.le_trans (((((g5.trans g6).trans g7).trans g8).trans g13)).size (Nat.le_refl _)) u16).updr (Nat.le_trans ((((((g5.trans g6).trans g7).trans g8).trans g13).trans g14)).size (Nat.le_refl _)) u17)⟩
          · replace e := (condF k18).symm.trans e
            refine Runs.step (AH.has.rd b16_17 0 rfl rfl) ?_
            refine Runs.step (AH.has.rd b16_17 1 rfl (asSl_v _)) ?_
            refine Runs.step (AH.has.rd (((((((g7.trans g8).trans g13).trans g14).trans g15).updr (Nat.le_trans (((g7.trans g8).trans g13)).size (Nat.le_refl _)) u16).updr (Nat.le_trans ((((g7.trans g8).trans g13).trans g14)).size (Nat.le_refl _)) u17).has b6) 0 rfl rfl) ?_
            refine Runs.step (AH.has.rd (((((((g7.trans g8).trans g13).trans g14).trans g15).updr (Nat.le_trans (((g7.trans g8).trans g13)).size (Nat.le_refl _)) u16).updr (Nat.le_trans ((((g7.trans g8).trans g13).trans g14)).size (Nat.le_refl _)) u17).has b6) 1 rfl (asSl_v _)) ?_
            obtain ⟨_, H19, e19, s19, rfl, n19, g19, o19⟩ := modint_Mul_spec (n13.grow (((g14.trans g15).updr (Nat.le_refl _) u16).updr (Nat.le_trans (g14).size (Nat.le_refl _)) u17)) (n4.grow ((((((((g5.trans g6).trans g7).trans g8).trans g13).trans g14).trans g15).updr (Nat.le_trans (((((g5.trans g6).trans g7).trans g8).trans g13)).size (Nat.le_refl _)) u16).updr (Nat.le_trans ((((((g5.trans g6).trans g7).trans g8).trans g13).trans g14)).size (Nat.le_refl _)) u17)) (((floorI a1 x2 a3 x4).1)) a3
            refine Runs.step e19 ?_
            refine Runs.step rfl ?_
            refine Runs.step rfl ?_
            refine Runs.ifT rfl ?_
            refine Runs.step (seenAt rfl rfl) ?_
            refine Runs.step (seenAt rfl (asSl_v _)) ?_
            refine Runs.step (seen (avInt_int _ _)) ?_
            refine Runs.new fun H20 b20 g20 => ?_
            refine Runs.puts b20 rfl fun H21 b21 u21 => ?_
            refine Runs.step (AH.has.rd b21 0 rfl rfl) ?_
            refine Runs.step (AH.has.rd b21 1 rfl (asSl_v _)) ?_
            refine Runs.step (AH.has.rd (((g19.trans g20).updr (Nat.le_trans (g19).size (Nat.le_refl _)) u21).has b17) 0 rfl rfl) ?_
            refine Runs.step (AH.has.rd (((g19.trans g20).updr (Nat.le_trans (g19).size (Nat.le_refl _)) u21).has b17) 1 rfl (asSl_v _)) ?_
            obtain ⟨_, H22, e22, s22, rfl, n22, g22, o22⟩ := modint_Add_spec (n19.grow (g20.updr (Nat.le_refl _) u21)) (n13b.grow ((((((g14.trans g15).updr (Nat.le_refl _) u16).updr (Nat.le_trans (g14).size (Nat.le_refl _)) u17).trans g19).trans g20).updr (Nat.le_trans (((((g14.trans g15).updr (Nat.le_refl _) u16).updr (Nat.le_trans (g14).size (Nat.le_refl _)) u17).trans g19)).size (Nat.le_refl _)) u21)) (((modint_Mul' (((floorI a1 x2 a3 x4).1)) ((floorI a1 x2 a3 x4).2.1) a3 x4).1)) (((floorI a1 x2 a3 x4).2.2.1))
            refine Runs.step e22 ?_
            refine Runs.step rfl ?_
            refine Runs.step rfl ?_
            refine Runs.ifT rfl ?_
            refine Runs.step (seenAt rfl rfl) ?_
            refine Runs.step (seenAt rfl (asSl_v _)) ?_
            refine Runs.step (seen (avInt_int _ _)) ?_
            refine Runs.new fun H23 b23 g23 => ?_
            refine Runs.puts b23 rfl fun H24 b24 u24 => ?_
            refine Runs.cond (fun k25 => ?_) (fun k25 => ?_)
            · replace e := (condT k25).symm.trans e
              refine Runs.step (AH.has.rd ((((((((((((((g6.trans g7).trans g8).trans g13).trans g14).trans g15).updr (Nat.le_trans ((((g6.trans g7).trans g8).trans g13)).size (Nat.le_refl _)) u16).updr (Nat.le_trans (((((g6.trans g7).trans g8).trans g13).trans g14)).size (Nat.le_refl _)) u17).trans g19).trans g20).updr (Nat.le_trans (((((((((g6.trans g7).trans g8).trans g13).trans g14).trans g15).updr (Nat.le_trans ((((g6.trans g7).trans g8).trans g13)).size (Nat.le_refl _)) u16).updr (Nat.le_trans (((((g6.trans g7).trans g8).trans g13).trans g14)).size (Nat.le_refl _)) u17).trans g19)).size (Nat.le_refl _)) u21).trans g22).trans g23).updr (Nat.le_trans ((((((((((((g6.trans g7).trans g8).trans g13).trans g14).trans g15).updr (Nat.le_trans ((((g6.trans g7).trans g8).trans g13)).size (Nat.le_refl _)) u16).updr (Nat.le_trans (((((g6.trans g7).trans g8).trans g13).trans g14)).size (Nat.le_refl _)) u17).trans g19).trans g20).updr (Nat.le_trans (((((((((g6.trans g7).trans g8).trans g13).trans g14).trans g15).updr (Nat.le_trans ((((g6.trans g7).trans g8).trans g13)).size (Nat.le_refl _)) u16).updr (Nat.le_trans (((((g6.trans g7).trans g8).trans g13).trans g14)).size (Nat.le_refl _)) u17).trans g19)).size (Nat.le_refl _)) u21).trans g22)).size (Nat.le_refl _)) u24).has b5) 1 rfl (asSl_v _)) ?_
              rw [(n2.grow ((((((((((((((g5.trans g6).trans g7).trans g8).trans g13).trans g14).trans g15).updr (Nat.le_trans (((((g5.trans g6).trans g7).trans g8).trans g13)).size (Nat.le_refl _)) u16).updr (Nat.le_trans ((((((g5.trans g6).trans g7).trans g8).trans g13).trans g14)).size (Nat.le_refl _)) u17).trans g19).trans g20).updr (Nat.le_trans ((((((((((g5.trans g6).trans g7).trans g8).trans g13).trans g14).trans g15).updr (Nat.le_trans (((((g5.trans g6).trans g7).trans g8).trans g13)).size (Nat.le_refl _)) u16).updr (Nat.le_trans ((((((g5.trans g6).trans g7).trans g8).trans g13).trans g14)).size (Nat.le_refl _)) u17).trans g19)).size (Nat.le_refl _)) u21).trans g22).trans g23).updr (Nat.le_trans (((((((((((((g5.trans g6).trans g7).trans g8).trans g13).trans g14).trans g15).updr (Nat.le_trans (((((g5.trans g6).trans g7).trans g8).trans g13)).size (Nat.le_refl _)) u16).updr (Nat.le_trans ((((((g5.trans g6).trans g7).trans g8).trans g13).trans g14)).size (Nat.le_refl _)) u17).trans g19).trans g20).updr (Nat.le_trans ((((((((((g5.trans g6).trans g7).trans g8).trans g13).trans g14).trans g15).updr (Nat.le_trans (((((g5.trans g6).trans g7).trans g8).trans g13)).size (Nat.le_refl _)) u16).updr (Nat.le_trans ((((((g5.trans g6).trans g7).trans g8).trans g13).trans g14)).size (Nat.le_refl _)) u17).trans g19)).size (Nat.le_refl _)) u21).trans g22)).size (Nat.le_refl _)) u24)).len]
              cases e
              cases good
              exact Runs.ret ⟨rfl, ((((((((((((((g5.trans g6).trans g7).trans g8).trans g13).trans g14).trans g15).updr (Nat.le_trans (((((g5.trans g6).trans g7).trans g8).trans g13)).size (Nat.le_refl _)) u16).updr (Nat.le_trans ((((((g5.trans g6).trans g7).trans g8).trans g13).trans g14)).size (Nat.le_refl _)) u17).trans g19).trans g20).updr (Nat.le_trans ((((((((((g5.trans g6).trans g7).trans g8).trans g13).trans g14).trans g15).updr (Nat.le_trans (((((g5.trans g6).trans g7).trans g8).trans g13)).size (Nat.le_refl _)) u16).updr (Nat.le_trans ((((((g5.trans g6).trans g7).trans g8).trans g13).trans g14)).size (Nat.le_refl _)) u17).trans g19)).size (Nat.le_refl _)) u21).trans g22).trans g23).updr (Nat.le_trans (((((((((((((g5.trans g6).trans g7).trans g8).trans g13).trans g14).trans g15).updr (Nat.le_trans (((((g5.trans g6).trans g7).trans g8).trans g13)).size (Nat.le_refl _)) u16).updr (Nat.le_trans ((((((g5.trans g6).trans g7).trans g8).trans g13).trans g14)).size (Nat.le_refl _)) u17).trans g19).trans g20).updr (Nat.le_trans ((((((((((g5.trans g6).trans g7).trans g8).trans g13).trans g14).trans g15).updr (Nat.le_trans (((((g5.trans g6).trans g7).trans g8).trans g13)).size (Nat.le_refl _)) u16).updr (Nat.le_trans ((((((g5.trans g6).trans g7).trans g8).trans g13).trans g14)).size (Nat.le_refl _)) u17).trans g19)).size (Nat.le_refl _)) u21).trans g22)).size (Nat.le_refl _)) u24)⟩
            · replace e := (condF k25).symm.trans e
              refine Runs.cond (fun k26 => ?_) (fun k26 => ?_)
              · replace e := (condT k26).symm.trans e
                refine Runs.step (AH.has.rd ((((((((((((((g6.trans g7).trans g8).trans g13).trans g14).trans g15).updr (Nat.le_trans ((((g6.trans g7).trans g8).trans g13)).size (Nat.le_refl _)) u16).updr (Nat.le_trans (((((g6.trans g7).trans g8).trans g13).trans g14)).size (Nat.le_refl _)) u17).trans g19).trans g20).updr (Nat.le_trans (((((((((g6.trans g7).trans g8).trans g13).trans g14).trans g15).updr (Nat.le_trans ((((g6.trans g7).trans g8).trans g13)).size (Nat.le_refl _)) u16).updr (Nat.le_trans (((((g6.trans g7).trans g8).trans g13).trans g14)).size (Nat.le_refl _)) u17).trans g19)).size (Nat.le_refl _)) u21).trans g22).trans g23).updr (Nat.le_trans ((((((((((((g6.trans g7).trans g8).trans g13).trans g14).trans g15).updr (Nat.le_trans ((((g6.trans g7).trans g8).trans g13)).size (Nat.le_refl _)) u16).updr (Nat.le_trans (((((g6.trans g7).trans g8).trans g13).trans g14)).size (Nat.le_refl _)) u17).trans g19).trans g20).updr (Nat.le_trans (((((((((g6.trans g7).trans g8).trans g13).trans g14).trans g15).updr (Nat.le_trans ((((g6.trans g7).trans g8).trans g13)).size (Nat.le_refl _)) u16).updr (Nat.le_trans (((((g6.trans g7).trans g8).trans g13).trans g14)).size (Nat.le_refl _)) u17).trans g19)).size (Nat.le_refl _)) u21).trans g22)).size (Nat.le_refl _)) u24).has b5) 1 rfl (asSl_v _)) ?_
                rw [(n2.grow ((((((((((((((g5.trans g6).trans g7).trans g8).trans g13).trans g14).trans g15).updr (Nat.le_trans (((((g5.trans g6).trans g7).trans g8).trans g13)).size (Nat.le_refl _)) u16).updr (Nat.le_trans ((((((g5.trans g6).trans g7).trans g8).trans g13).trans g14)).size (Nat.le_refl _)) u17).trans g19).trans g20).updr (Nat.le_trans ((((((((((g5.trans g6).trans g7).trans g8).trans g13).trans g14).trans g15).updr (Nat.le_trans (((((g5.trans g6).trans g7).trans g8).trans g13)).size (Nat.le_refl _)) u16).updr (Nat.le_trans ((((((g5.trans g6).trans g7).trans g8).trans g13).trans g14)).size (Nat.le_refl _)) u17).trans g19)).size (Nat.le_refl _)) u21).trans g22).trans g23).updr (Nat.le_trans (((((((((((((g5.trans g6).trans g7).trans g8).trans g13).trans g14).trans g15).updr (Nat.le_trans (((((g5.trans g6).trans g7).trans g8).trans g13)).size (Nat.le_refl _)) u16).updr (Nat.le_trans ((((((g5.trans g6).trans g7).trans g8).trans g13).trans g14)).size (Nat.le_refl _)) u17).trans g19).trans g20).updr (Nat.le_trans ((((((((((g5.trans g6).trans g7).trans g8).trans g13).trans g14).trans g15).updr (Nat.le_trans (((((g5.trans g6).trans g7).trans g8).trans g13)).size (Nat.le_refl _)) u16).updr (Nat.le_trans ((((((g5.trans g6).trans g7).trans g8).trans g13).trans g14)).size (Nat.le_refl _)) u17).trans g19)).size (Nat.le_refl _)) u21).trans g22)).size (Nat.le_refl _)) u24)).len]
                cases e
                cases good
                exact Runs.ret ⟨rfl, ((((((((((((((g5.trans g6).trans g7).trans g8).trans g13).trans g14).trans g15).updr (Nat.le_trans (((((g5.trans g6).trans g7).trans g8).trans g13)).size (Nat.le_refl _)) u16).updr (Nat.le_trans ((((((g5.trans g6).trans g7).trans g8).trans g13).trans g14)).size (Nat.le_refl _)) u17).trans g19).trans g20).updr (Nat.le_trans ((((((((((g5.trans g6).trans g7).trans g8).trans g13).trans g14).trans g15).updr (Nat.le_trans (((((g5.trans g6).trans g7).trans g8).trans g13)).size (Nat.le_refl _)) u16).updr (Nat.le_trans ((((((g5.trans g6).trans g7).trans g8).trans g13).trans g14)).size (Nat.le_refl _)) u17).trans g19)).size (Nat.le_refl _)) u21).trans g22).trans g23).updr (Nat.le_trans (((((((((((((g5.trans g6).trans g7).trans g8).trans g13).trans g14).trans g15).updr (Nat.le_trans (((((g5.trans g6).trans g7).trans g8).trans g13)).size (Nat.le_refl _)) u16).updr (Nat.le_trans ((((((g5.trans g6).trans g7).trans g8).trans g13).trans g14)).size (Nat.le_refl _)) u17).trans g19).trans g20).updr (Nat.le_trans ((((((((((g5.trans g6).trans g7).trans g8).trans g13).trans g14).trans g15).updr (Nat.le_trans (((((g5.trans g6).trans g7).trans g8).trans g13)).size (Nat.le_refl _)) u16).updr (Nat.le_trans ((((((g5.trans g6).trans g7).trans g8).trans g13).trans g14)).size (Nat.le_refl _)) u17).trans g19)).size (Nat.le_refl _)) u21).trans g22)).size (Nat.le_refl _)) u24)⟩
              · replace e := (condF k26).symm.trans e
                refine Runs.step (AH.has.rd b24 0 rfl rfl) ?_
                refine Runs.step (AH.has.rd b24 1 rfl (asSl_v _)) ?_
                refine Runs.step (AH.has.rd ((((((((((((((g6.trans g7).trans g8).trans g13).trans g14).trans g15).updr (Nat.le_trans ((((g6.trans g7).trans g8).trans g13)).size (Nat.le_refl _)) u16).updr (Nat.le_trans (((((g6.trans g7).trans g8).trans g13).trans g14)).size (Nat.le_refl _)) u17).trans g19).trans g20).updr (Nat.le_trans (((((((((g6.trans g7).trans g8).trans g13).trans g14).trans g15).updr (Nat.le_trans ((((g6.trans g7).trans g8).trans g13)).size (Nat.le_refl _)) u16).updr (Nat.le_trans (((((g6.trans g7).trans g8).trans g13).trans g14)).size (Nat.le_refl _)) u17).trans g19)).size (Nat.le_refl _)) u21).trans g22).trans g23).updr (Nat.le_trans ((((((((((((g6.trans g7).trans g8).trans g13).trans g14).trans g15).updr (Nat.le_trans ((((g6.trans g7).trans g8).trans g13)).size (Nat.le_refl _)) u16).updr (Nat.le_trans (((((g6.trans g7).trans g8).trans g13).trans g14)).size (Nat.le_refl _)) u17).trans g19).trans g20).updr (Nat.le_trans (((((((((g6.trans g7).trans g8).trans g13).trans g14).trans g15).updr (Nat.le_trans ((((g6.trans g7).trans g8).trans g13)).size (Nat.le_refl _)) u16).updr (Nat.le_trans (((((g6.trans g7).trans g8).trans g13).trans g14)).size (Nat.le_refl _)) u17).trans g19)).size (Nat.le_refl _)) u21).trans g22)).size (Nat.le_refl _)) u24).has b5) 0 rfl rfl) ?_
                refine Runs.step (AH.has.rd ((((((((((((((g6.trans g7).trans g8).trans g13).trans g14).trans g15).updr (Nat.le_trans ((((g6.trans g7).trans g8).trans g13)).size (Nat.le_refl _)) u16).updr (Nat.le_trans (((((g6.trans g7).trans g8).trans g13).trans g14)).size (Nat.le_refl _)) u17).trans g19).trans g20).updr (Nat.le_trans (((((((((g6.trans g7).trans g8).trans g13).trans g14).trans g15).updr (Nat.le_trans ((((g6.trans g7).trans g8).trans g13)).size (Nat.le_refl _)) u16).updr (Nat.le_trans (((((g6.trans g7).trans g8).trans g13).trans g14)).size (Nat.le_refl _)) u17).trans g19)).size (Nat.le_refl _)) u21).trans g22).trans g23).updr (Nat.le_trans ((((((((((((g6.trans g7).trans g8).trans g13).trans g14).trans g15).updr (Nat.le_trans ((((g6.trans g7).trans g8).trans g13)).size (Nat.le_refl _)) u16).updr (Nat.le_trans (((((g6.trans g7).trans g8).trans g13).trans g14)).size (Nat.le_refl _)) u17).trans g19).trans g20).updr (Nat.le_trans (((((((((g6.trans g7).trans g8).trans g13).trans g14).trans g15).updr (Nat.le_trans ((((g6.trans g7).trans g8).trans g13)).size (Nat.le_refl _)) u16).updr (Nat.le_trans (((((g6.trans g7).trans g8).trans g13).trans g14)).size (Nat.le_refl _)) u17).trans g19)).size (Nat.le_refl _)) u21).trans g22)).size (Nat.le_refl _)) u24).has b5) 1 rfl (asSl_v _)) ?_
                obtain ⟨c27_0, q27_0, e⟩ := Option.bind_eq_some_iff.1 e
                obtain ⟨H27, e27, g27⟩ := ref03_Same_need (n22.grow (g23.updr (Nat.le_refl _) u24)) (n2.grow ((((((((((((((g5.trans g6).trans g7).trans g8).trans g13).trans g14).trans g15).updr (Nat.le_trans (((((g5.trans g6).trans g7).trans g8).trans g13)).size (Nat.le_refl _)) u16).updr (Nat.le_trans ((((((g5.trans g6).trans g7).trans g8).trans g13).trans g14)).size (Nat.le_refl _)) u17).trans g19).trans g20).updr (Nat.le_trans ((((((((((g5.trans g6).trans g7).trans g8).trans g13).trans g14).trans g15).updr (Nat.le_trans (((((g5.trans g6).trans g7).trans g8).trans g13)).size (Nat.le_refl _)) u16).updr (Nat.le_trans ((((((g5.trans g6).trans g7).trans g8).trans g13).trans g14)).size (Nat.le_refl _)) u17).trans g19)).size (Nat.le_refl _)) u21).trans g22).trans g23).updr (Nat.le_trans (((((((((((((g5.trans g6).trans g7).trans g8).trans g13).trans g14).trans g15).updr (Nat.le_trans (((((g5.trans g6).trans g7).trans g8).trans g13)).size (Nat.le_refl _)) u16).updr (Nat.le_trans ((((((g5.trans g6).trans g7).trans g8).trans g13).trans g14)).size (Nat.le_refl _)) u17).trans g19).trans g20).updr (Nat.le_trans ((((((((((g5.trans g6).trans g7).trans g8).trans g13).trans g14).trans g15).updr (Nat.le_trans (((((g5.trans g6).trans g7).trans g8).trans g13)).size (Nat.le_refl _)) u16).updr (Nat.le_trans ((((((g5.trans g6).trans g7).trans g8).trans g13).trans g14)).size (Nat.le_refl _)) u17).trans g19)).size (Nat.le_refl _)) u21).trans g22)).size (Nat.le_refl _)) u24)) (((modint_Add' (((modint_Mul' (((floorI a1 x2 a3 x4).1)) ((floorI a1 x2 a3 x4).2.1) a3 x4).1)) ((modint_Mul' (((floorI a1 x2 a3 x4).1)) ((floorI a1 x2 a3 x4).2.1) a3 x4).2.1) (((floorI a1 x2 a3 x4).2.2.1)) ((floorI a1 x2 a3 x4).2.2.2.1)).1)) a1  c27_0.down
                refine Runs.step e27 ?_
                refine Runs.step (seen rfl) ?_
                refine Runs.cond (fun k28 => ?_) (fun k28 => ?_)
                · replace e := (condT k28).symm.trans e
                  refine Runs.cond (fun k29 => ?_) (fun k29 => ?_)
                  · replace e := (condT k29).symm.trans e
                    refine Runs.cond (fun k30 => ?_) (fun k30 => ?_)
                    · replace e := (condT k30).symm.trans e
                      refine Runs.step (AH.has.rd (((((((g19.trans g20).updr (Nat.le_trans (g19).size (Nat.le_refl _)) u21).trans g22).trans g23).updr (Nat.le_trans ((((g19.trans g20).updr (Nat.le_trans (g19).size (Nat.le_refl _)) u21).trans g22)).size (Nat.le_refl _)) u24).trans g27).has b17) 0 rfl rfl) ?_
                      refine Runs.cond (fun k31 => ?_) (fun k31 => ?_)
                      · replace e := (condT k31).symm.trans e
                        refine Runs.step (AH.has.rd (((((((g19.trans g20).updr (Nat.le_trans (g19).size (Nat.le_refl _)) u21).trans g22).trans g23).updr (Nat.le_trans ((((g19.trans g20).updr (Nat.le_trans (g19).size (Nat.le_refl _)) u21).trans g22)).size (Nat.le_refl _)) u24).trans g27).has b17) 0 rfl rfl) ?_
                        refine Runs.step (AH.has.rd (((((((g19.trans g20).updr (Nat.le_trans (g19).size (Nat.le_refl _)) u21).trans g22).trans g23).updr (Nat.le_trans ((((g19.trans g20).updr (Nat.le_trans (g19).size (Nat.le_refl _)) u21).trans g22)).size (Nat.le_refl _)) u24).trans g27).has b17) 1 rfl (asSl_v _)) ?_
                        refine Runs.step (AH.has.rd ((((((((((((((g7.trans g8).trans g13).trans g14).trans g15).updr (Nat.le_trans (((g7.trans g8).trans g13)).size (Nat.le_refl _)) u16).updr (Nat.le_trans ((((g7.trans g8).trans g13).trans g14)).size (Nat.le_refl _)) u17).trans g19).trans g20).updr (Nat.le_trans ((((((((g7.trans g8).trans g13).trans g14).trans g15).updr (Nat.le_trans (((g7.trans g8).trans g13)).size (Nat.le_refl _)) u16).updr (Nat.le_trans ((((g7.trans g8).trans g13).trans g14)).size (Nat.le_refl _)) u17).trans g19)).size (Nat.le_refl _)) u21).trans g22).trans g23).updr (Nat.le_trans (((((((((((g7.trans g8).trans g13).trans g14).trans g15).updr (Nat.le_trans (((g7.trans g8).trans g13)).size (Nat.le_refl _)) u16).updr (Nat.le_trans ((((g7.trans g8).trans g13).trans g14)).size (Nat.le_refl _)) u17).trans g19).trans g20).updr (Nat.le_trans ((((((((g7.trans g8).trans g13).trans g14).trans g15).updr (Nat.le_trans (((g7.trans g8).trans g13)).size (Nat.le_refl _)) u16).updr (Nat.le_trans ((((g7.trans g8).trans g13).trans g14)).size (Nat.le_refl _)) u17).trans g19)).size (Nat.le_refl _)) u21).trans g22)).size (Nat.le_refl _)) u24).trans g27).has b6) 0 rfl rfl) ?_
                        refine Runs.step (AH.has.rd ((((((((((((((g7.trans g8).trans g13).trans g14).trans g15).updr (Nat.le_trans (((g7.trans g8).trans g13)).size (Nat.le_refl _)) u16).updr (Nat.le_trans ((((g7.trans g8).trans g13).trans g14)).size (Nat.le_refl _)) u17).trans g19).trans g20).updr (Nat.le_trans ((((((((g7.trans g8).trans g13).trans g14).trans g15).updr (Nat.le_trans (((g7.trans g8).trans g13)).size (Nat.le_refl _)) u16).updr (Nat.le_trans ((((g7.trans g8).trans g13).trans g14)).size (Nat.le_refl _)) u17).trans g19)).size (Nat.le_refl _)) u21).trans g22).trans g23).updr (Nat.le_trans (((((((((((g7.trans g8).trans g13).trans g14).trans g15).updr (Nat.le_trans (((g7.trans g8).trans g13)).size (Nat.le_refl _)) u16).updr (Nat.le_trans ((((g7.trans g8).trans g13).trans g14)).size (Nat.le_refl _)) u17).trans g19).trans g20).updr (Nat.le_trans ((((((((g7.trans g8).trans g13).trans g14).trans g15).updr (Nat.le_trans (((g7.trans g8).trans g13)).size (Nat.le_refl _)) u16).updr (Nat.le_trans ((((g7.trans g8).trans g13).trans g14)).size (Nat.le_refl _)) u17).trans g19)).size (Nat.le_refl _)) u21).trans g22)).size (Nat.le_refl _)) u24).trans g27).has b6) 1 rfl (asSl_v _)) ?_
                        obtain ⟨H32, e32, g32⟩ := modint_Cmp_spec (n13b.grow ((((((((((g14.trans g15).updr (Nat.le_refl _) u16).updr (Nat.le_trans (g14).size (Nat.le_refl _)) u17).trans g19).trans g20).updr (Nat.le_trans (((((g14.trans g15).updr (Nat.le_refl _) u16).updr (Nat.le_trans (g14).size (Nat.le_refl _)) u17).trans g19)).size (Nat.le_refl _)) u21).trans g22).trans g23).updr (Nat.le_trans ((((((((g14.trans g15).updr (Nat.le_refl _) u16).updr (Nat.le_trans (g14).size (Nat.le_refl _)) u17).trans g19).trans g20).updr (Nat.le_trans (((((g14.trans g15).updr (Nat.le_refl _) u16).updr (Nat.le_trans (g14).size (Nat.le_refl _)) u17).trans g19)).size (Nat.le_refl _)) u21).trans g22)).size (Nat.le_refl _)) u24).trans g27)) (n4.grow (((((((((((((((g5.trans g6).trans g7).trans g8).trans g13).trans g14).trans g15).updr (Nat.le_trans (((((g5.trans g6).trans g7).trans g8).trans g13)).size (Nat.le_refl _)) u16).updr (Nat.le_trans ((((((g5.trans g6).trans g7).trans g8).trans g13).trans g14)).size (Nat.le_refl _)) u17).trans g19).trans g20).updr (Nat.le_trans ((((((((((g5.trans g6).trans g7).trans g8).trans g13).trans g14).trans g15).updr (Nat.le_trans (((((g5.trans g6).trans g7).trans g8).trans g13)).size (Nat.le_refl _)) u16).updr (Nat.le_trans ((((((g5.trans g6).trans g7).trans g8).trans g13).trans g14)).size (Nat.le_refl _)) u17).trans g19)).size (Nat.le_refl _)) u21).trans g22).trans g23).updr (Nat.le_trans (((((((((((((g5.trans g6).trans g7).trans g8).trans g13).trans g14).trans g15).updr (Nat.le_trans (((((g5.trans g6).trans g7).trans g8).trans g13)).size (Nat.le_refl _)) u16).updr (Nat.le_trans ((((((g5.trans g6).trans g7).trans g8).trans g13).trans g14)).size (Nat.le_refl _)) u17).trans g19).trans g20).updr (Nat.le_trans ((((((((((g5.trans g6).trans g7).trans g8).trans g13).trans g14).trans g15).updr (Nat.le_trans (((((g5.trans g6).trans g7).trans g8).trans g13)).size (Nat.le_refl _)) u16).updr (Nat.le_trans ((((((g5.trans g6).trans g7).trans g8).trans g13).trans g14)).size (Nat.le_refl _)) u17).trans g19)).size (Nat.le_refl _)) u21).trans g22)).size (Nat.le_refl _)) u24).trans g27)) (((floorI a1 x2 a3 x4).2.2.1)) a3
                        refine Runs.step e32 ?_
                        refine Runs.step (seen (avInt_int _ _)) ?_
                        cases e
                        cases good
                        exact Runs.ret ⟨rfl, ((((((((((((((((g5.trans g6).trans g7).trans g8).trans g13).trans g14).trans g15).updr (Nat.le_trans (((((g5.trans g6).trans g7).trans g8).trans g13)).size (Nat.le_refl _)) u16).updr (Nat.le_trans ((((((g5.trans g6).trans g7).trans g8).trans g13).trans g14)).size (Nat.le_refl _)) u17).trans g19).trans g20).updr (Nat.le_trans ((((((((((g5.trans g6).trans g7).trans g8).trans g13).trans g14).trans g15).updr (Nat.le_trans (((((g5.trans g6).trans g7).trans g8).trans g13)).size (Nat.le_refl _)) u16).updr (Nat.le_trans ((((((g5.trans g6).trans g7).trans g8).trans g13).trans g14)).size (Nat.le_refl _)) u17).trans g19)).size (Nat.le_refl _)) u21).trans g22).trans g23).updr (Nat.le_trans (((((((((((((g5.trans g6).trans g7).trans g8).trans g13).trans g14).trans g15).updr (Nat.le_trans (((((g5.trans g6).trans g7).trans g8).trans g13)).size (Nat.le_refl _)) u16).updr (Nat.le_trans ((((((g5.trans g6).trans g7).trans g8).trans g13).trans g14)).size (Nat.le_refl _)) u17).trans g19).trans g20).updr (Nat.le_trans ((((((((((g5.trans g6).trans g7).trans g8).trans g13).trans g14).trans g15).updr (Nat.le_trans (((((g5.trans g6).trans g7).trans g8).trans g13)).size (Nat.le_refl _)) u16).updr (Nat.le_trans ((((((g5.trans g6).trans g7).trans g8).trans g13).trans g14)).size (Nat.le_refl _)) u17).trans g19)).size (Nat.le_refl _)) u21).trans g22)).size (Nat.le_refl _)) u24).trans g27).trans g32)⟩
                      · replace e := (condF k31).symm.trans e
                        cases e
                        cases good
                        exact Runs.ret ⟨rfl, (((((((((((((((g5.trans g6).trans g7).trans g8).trans g13).trans g14).trans g15).updr (Nat.le_trans (((((g5.trans g6).trans g7).trans g8).trans g13)).size (Nat.le_refl _)) u16).updr (Nat.le_trans ((((((g5.trans g6).trans g7).trans g8).trans g13).trans g14)).size (Nat.le_refl _)) u17).trans g19).trans g20).updr (Nat.le_trans ((((((((((g5.trans g6).trans g7).trans g8).trans g13).trans g14).trans g15).updr (Nat.le_trans (((((g5.trans g6).trans g7).trans g8).trans g13)).size (Nat.le_refl _)) u16).updr (Nat.le_trans ((((((g5.trans g6).trans g7).trans g8).trans g13).trans g14)).size (Nat.le_refl _)) u17).trans g19)).size (Nat.le_refl _)) u21).trans g22).trans g23).updr (Nat.le_trans (((((((((((((g5.trans g6).trans g7).trans g8).trans g13).trans g14).trans g15).updr (Nat.le_trans (((((g5.trans g6).trans g7).trans g8).trans g13)).size (Nat.le_refl _)) u16).updr (Nat.le_trans ((((((g5.trans g6).trans g7).trans g8).trans g13).trans g14)).size (Nat.le_refl _)) u17).trans g19).trans g20).updr (Nat.le_trans ((((((((((g5.trans g6).trans g7).trans g8).trans g13).trans g14).trans g15).updr (Nat.le_trans (((((g5.trans g6).trans g7).trans g8).trans g13)).size (Nat.le_refl _)) u16).updr (Nat.le_trans ((((((g5.trans g6).trans g7).trans g8).trans g13).trans g14)).size (Nat.le_refl _)) u17).trans g19)).size (Nat.le_refl _)) u21).trans g22)).size (Nat.le_refl _)) u24).trans g27)⟩
                    · replace e := (condF k30).symm.trans e
                      cases e
                      cases good
                      exact Runs.ret ⟨rfl, (((((((((((((((g5.trans g6).trans g7).trans g8).trans g13).trans g14).trans g15).updr (Nat.le_trans (((((g5.trans g6).trans g7).trans g8).trans g13)).size (Nat.le_refl _)) u16).updr (Nat.le_trans ((((((g5.trans g6).trans g7).trans g8).trans g13).trans g14)).size (Nat.le_refl _)) u17).trans g19).trans g20).updr (Nat.le_trans ((((((((((g5.trans g6).trans g7).trans g8).trans g13).trans g14).trans g15).updr (Nat.le_trans (((((g5.trans g6).trans g7).trans g8).trans g13)).size (Nat.le_refl _)) u16).updr (Nat.le_trans ((((((g5.trans g6).trans g7).trans g8).trans g13).trans g14)).size (Nat.le_refl _)) u17).trans g19)).size (Nat.le_refl _)) u21).trans g22).trans g23).updr (Nat.le_trans (((((((((((((g5.trans g6).trans g7).trans g8).trans g13).trans g14).trans g15).updr (Nat.le_trans (((((g5.trans g6).trans g7).trans g8).trans g13)).size (Nat.le_refl _)) u16).updr (Nat.le_trans ((((((g5.trans g6).trans g7).trans g8).trans g13).trans g14)).size (Nat.le_refl _)) u17).trans g19).trans g20).updr (Nat.le_trans ((((((((((g5.trans g6).trans g7).trans g8).trans g13).trans g14).trans g15).updr (Nat.le_trans (((((g5.trans g6).trans g7).trans g8).trans g13)).size (Nat.le_refl _)) u16).updr (Nat.le_trans ((((((g5.trans g6).trans g7).trans g8).trans g13).trans g14)).size (Nat.le_refl _)) u17).trans g19)).size (Nat.le_refl _)) u21).trans g22)).size (Nat.le_refl _)) u24).trans g27)⟩
                  · replace e := (condF k29).symm.trans e
                    cases e
                    cases good
                    exact Runs.ret ⟨rfl, (((((((((((((((g5.trans g6).trans g7).trans g8).trans g13).trans g14).trans g15).updr (Nat.le_trans (((((g5.trans g6).trans g7).trans g8).trans g13)).size (Nat.le_refl _)) u16).updr (Nat.le_trans ((((((g5.trans g6).trans g7).trans g8).trans g13).trans g14)).size (Nat.le_refl _)) u17).trans g19).trans g20).updr (Nat.le_trans ((((((((((g5.trans g6).trans g7).trans g8).trans g13).trans g14).trans g15).updr (Nat.le_trans (((((g5.trans g6).trans g7).trans g8).trans g13)).size (Nat.le_refl _)) u16).updr (Nat.le_trans ((((((g5.trans g6).trans g7).trans g8).trans g13).trans g14)).size (Nat.le_refl _)) u17).trans g19)).size (Nat.le_refl _)) u21).trans g22).trans g23).updr (Nat.le_trans (((((((((((((g5.trans g6).trans g7).trans g8).trans g13).trans g14).trans g15).updr (Nat.le_trans (((((g5.trans g6).trans g7).trans g8).trans g13)).size (Nat.le_refl _)) u16).updr (Nat.le_trans ((((((g5.trans g6).trans g7).trans g8).trans g13).trans g14)).size (Nat.le_refl _)) u17).trans g19).trans g20).updr (Nat.le_trans ((((((((((g5.trans g6).trans g7).trans g8).trans g13).trans g14).trans g15).updr (Nat.le_trans (((((g5.trans g6).trans g7).trans g8).trans g13)).size (Nat.le_refl _)) u16).updr (Nat.le_trans ((((((g5.trans g6).trans g7).trans g8).trans g13).trans g14)).size (Nat.le_refl _)) u17).trans g19)).size (Nat.le_refl _)) u21).trans g22)).size (Nat.le_refl _)) u24).trans g27)⟩
                · replace e := (condF k28).symm.trans e
                  cases e
                  cases good
                  exact Runs.ret ⟨rfl, (((((((((((((((g5.trans g6).trans g7).trans g8).trans g13).trans g14).trans g15).updr (Nat.le_trans (((((g5.trans g6).trans g7).trans g8).trans g13)).size (Nat.le_refl _)) u16).updr (Nat.le_trans ((((((g5.trans g6).trans g7).trans g8).trans g13).trans g14)).size (Nat.le_refl _)) u17).trans g19).trans g20).updr (Nat.le_trans ((((((((((g5.trans g6).trans g7).trans g8).trans g13).trans g14).trans g15).updr (Nat.le_trans (((((g5.trans g6).trans g7).trans g8).trans g13)).size (Nat.le_refl _)) u16).updr (Nat.le_trans ((((((g5.trans g6).trans g7).trans g8).trans g13).trans g14)).size (Nat.le_refl _)) u17).trans g19)).size (Nat.le_refl _)) u21).trans g22).trans g23).updr (Nat.le_trans (((((((((((((g5.trans g6).trans g7).trans g8).trans g13).trans g14).trans g15).updr (Nat.le_trans (((((g5.trans g6).trans g7).trans g8).trans g13)).size (Nat.le_refl _)) u16).updr (Nat.le_trans ((((((g5.trans g6).trans g7).trans g8).trans g13).trans g14)).size (Nat.le_refl _)) u17).trans g19).trans g20).updr (Nat.le_trans ((((((((((g5.trans g6).trans g7).trans g8).trans g13).trans g14).trans g15).updr (Nat.le_trans (((((g5.trans g6).trans g7).trans g8).trans g13)).size (Nat.le_refl _)) u16).updr (Nat.le_trans ((((((g5.trans g6).trans g7).trans g8).trans g13).trans g14)).size (Nat.le_refl _)) u17).trans g19)).size (Nat.le_refl _)) u21).trans g22)).size (Nat.le_refl _)) u24).trans g27)⟩

theorem law03_ModintBack_run {s : law03_ModintBack_St} {r : law03_ModintBack_Res} (it : Iter law03_ModintBack_step s r) : law03_ModintBack_At r s := Iter.ind (fun s o e good => by
  cases s with
  | fn a1 x2 a3 x4 => exact @law03_ModintBack_fn_walk _ _ a1 x2 a3 x4 e good
  | no => exact True.intro
  ) it

theorem law03_ModintBack_opt {h : AH} {a2 : Sl} {a4 : Sl} {a1 : Bool} {x2 : List Nat} {a3 : Bool} {x4 : List Nat} (n2 : Nats h a2 x2) (n4 : Nats h a4 x4) {r : law03_ModintBack_Res} (q : runP law03_ModintBack_step (.fn a1 x2 a3 x4) = some r) : Runs (go (.fn F.law03_ModintBack [.agg [.bool a1, a2.v], .agg [.bool a3, a4.v]]) h) (law03_ModintBack_post h r) := law03_ModintBack_run (runP_iter q) n2 n4

end Go.Ab

/- Layer 3: whole numbers as whole numbers. -/
set_option linter.unusedVariables false
set_option linter.unusedSimpArgs false
set_option maxRecDepth 10000
namespace Go.Ab
open Go.Proofs Go.Num

/-- A whole number's sign and limbs. -/
def intD (z : Int) : Bool × List Nat := (decide (z < 0), digs B z.natAbs)

theorem intD_zero : intD 0 = (false, []) := by simp [intD, digs_zero]

theorem fromI_nil (p : Bool) : fromI p [] = (false, []) := by simp [fromI]

theorem fromI_digs {n : Nat} (h : n < B ^ 64) (neg : Bool) : fromI neg (digs B n) = intD (if neg = true then -(n : Int) else (n : Int)) := by
  by_cases h0 : n = 0
  · subst h0
    rw [digs_zero, fromI_nil]
    cases neg <;> simp [intD, digs_zero]
  · have hne : digs B n ≠ [] := fun e => h0 ((digs_nil B2).1 e)
    unfold fromI intD
    rw [if_pos ⟨rt_digs h, hne⟩]
    cases neg
    · have e : ((n : Int)).natAbs = n := by omega
      have e2 : decide ((n : Int) < 0) = false := by rw [decide_eq_false_iff_not]; omega
      simp only [Bool.false_eq_true, if_false, e, e2]
    · have e : (-(n : Int)).natAbs = n := by omega
      have e2 : decide (-(n : Int) < 0) = true := by rw [decide_eq_true_eq]; omega
      simp only [if_true, e, e2]

theorem rtI_intD {z : Int} (h : z.natAbs < B ^ 64) : rtI (intD z).1 (intD z).2 = true := by
  unfold rtI intD
  dsimp only
  rw [rt_digs h, Bool.true_and]
  by_cases hz : z < 0
  · have hne : digs B z.natAbs ≠ [] := fun e => by
      have := (digs_nil B2).1 e
      omega
    rw [decide_eq_true hz]
    simp [hne]
  · rw [decide_eq_false hz]
    simp

theorem of_rtI {p : Bool} {xs : List Nat} (hl : ∀ x ∈ xs, x < B) (h : rtI p xs = true) : ∃ z : Int, p = (intD z).1 ∧ xs = (intD z).2 ∧ z.natAbs < B ^ 64 := by
  have hr := rtI_rt h
  have hn := num_lt64 hl hr
  have hd := digs_num B2 hl (rt_iff.1 hr).2
  unfold rtI at h
  rw [hr, Bool.true_and] at h
  cases p
  · refine ⟨(num B xs : Int), ?_, ?_, by omega⟩
    · show false = decide ((num B xs : Int) < 0)
      symm
      rw [decide_eq_false_iff_not]
      omega
    · show xs = digs B ((num B xs : Int)).natAbs
      rw [show ((num B xs : Int)).natAbs = num B xs from by omega, hd]
  · have hne : xs ≠ [] := by simpa using h
    have hp := num_pos B1 (rt_iff.1 hr).2 hne
    refine ⟨-(num B xs : Int), ?_, ?_, by omega⟩
    · show true = decide (-(num B xs : Int) < 0)
      symm
      rw [decide_eq_true_eq]
      omega
    · show xs = digs B (-(num B xs : Int)).natAbs
      rw [show (-(num B xs : Int)).natAbs = num B xs from by omega, hd]

theorem told_ok {n : Nat} (h : n < B ^ 64) : told n = (digs B n, 0) := by
  unfold told
  rw [if_pos h]
theorem told_long {n : Nat} (h : ¬ n < B ^ 64) : told n = ([], 4) := by
  unfold told
  rw [if_neg h]

theorem mul_intD {u v : Int} (hu : u.natAbs < B ^ 64) (hv : v.natAbs < B ^ 64) : modint_Mul' (intD u).1 (intD u).2 (intD v).1 (intD v).2 = if (u * v).natAbs < B ^ 64 then ((intD (u * v)).1, (intD (u * v)).2, 0) else (false, [], 4) := by
  unfold modint_Mul'
  rw [rtI_intD hu, rtI_intD hv]
  have e : mulN (intD u).2 (intD v).2 = told (u.natAbs * v.natAbs) := by
    unfold mulN intD
    dsimp only
    rw [if_pos ⟨rt_digs hu, rt_digs hv⟩, num_digs B2, num_digs B2]
  rw [e, Int.natAbs_mul]
  simp only [Bool.and_self, Bool.not_true, cond_false]
  by_cases h : u.natAbs * v.natAbs < B ^ 64
  · rw [if_pos h, told_ok h]
    dsimp only
    rw [fromI_digs h]
    have key : (if (!((intD u).1 == (intD v).1)) = true then -((u.natAbs * v.natAbs : Nat) : Int) else ((u.natAbs * v.natAbs : Nat) : Int)) = u * v := by
      unfold intD
      dsimp only
      rw [Int.natCast_mul]
      by_cases h1 : u < 0
      · by_cases h2 : v < 0
        · have e1 : ((u.natAbs : Nat) : Int) = -u := by omega
          have e2 : ((v.natAbs : Nat) : Int) = -v := by omega
          simp [h1, h2, e1, e2, Int.neg_mul, Int.mul_neg]
        · have e1 : ((u.natAbs : Nat) : Int) = -u := by omega
          have e2 : ((v.natAbs : Nat) : Int) = v := by omega
          simp [h1, h2, e1, e2, Int.neg_mul, Int.mul_neg]
      · by_cases h2 : v < 0
        · have e1 : ((u.natAbs : Nat) : Int) = u := by omega
          have e2 : ((v.natAbs : Nat) : Int) = -v := by omega
          simp [h1, h2, e1, e2, Int.neg_mul, Int.mul_neg]
        · have e1 : ((u.natAbs : Nat) : Int) = u := by omega
          have e2 : ((v.natAbs : Nat) : Int) = v := by omega
          simp [h1, h2, e1, e2, Int.neg_mul, Int.mul_neg]
    rw [key]
  · rw [if_neg h, told_long h]
    dsimp only
    rw [fromI_nil]

theorem add_intD {u v : Int} (hu : u.natAbs < B ^ 64) (hv : v.natAbs < B ^ 64) : modint_Add' (intD u).1 (intD u).2 (intD v).1 (intD v).2 = if (u + v).natAbs < B ^ 64 then ((intD (u + v)).1, (intD (u + v)).2, 0) else (false, [], 4) := by
  unfold modint_Add'
  rw [rtI_intD hu, rtI_intD hv]
  simp only [Bool.and_self, Bool.not_true, cond_false]
  have ea : addN (intD u).2 (intD v).2 = told (u.natAbs + v.natAbs) := by
    unfold addN intD
    dsimp only
    rw [if_pos ⟨rt_digs hu, rt_digs hv⟩, num_digs B2, num_digs B2]
  have es : ∀ {a b : Int}, a.natAbs < B ^ 64 → b.natAbs < B ^ 64 → b.natAbs ≤ a.natAbs → subN (intD a).2 (intD b).2 = (digs B (a.natAbs - b.natAbs), 0) := by
    intro a b ha hb hle
    unfold subN intD
    dsimp only
    rw [if_pos ⟨rt_digs ha, rt_digs hb⟩, num_digs B2, num_digs B2, if_neg (by omega)]
  have ec : cmpN (intD u).2 (intD v).2 = cmp u.natAbs v.natAbs := by
    unfold cmpN intD
    dsimp only
    rw [if_pos ⟨rt_digs hu, rt_digs hv⟩, num_digs B2, num_digs B2]
  rw [ea, ec]
  have s1 : (intD u).1 = decide (u < 0) := rfl
  have s2 : (intD v).1 = decide (v < 0) := rfl
  rw [s1, s2]
  by_cases hs : (u < 0 ↔ v < 0)
  · have hb : (decide (u < 0) == decide (v < 0)) = true := by simp [hs]
    rw [hb, cond_true]
    by_cases h : u.natAbs + v.natAbs < B ^ 64
    · rw [if_pos (by omega), told_ok h]
      dsimp only
      rw [fromI_digs h]
      have : (if decide (u < 0) = true then -((u.natAbs + v.natAbs : Nat) : Int) else ((u.natAbs + v.natAbs : Nat) : Int)) = u + v := by
        by_cases h1 : u < 0
        · simp only [h1, decide_true, if_true]; omega
        · simp only [h1, decide_false, Bool.false_eq_true, if_false]; omega
      rw [this]
    · rw [if_neg (by omega), told_long h]
      dsimp only
      rw [fromI_nil]
  · have hb : (decide (u < 0) == decide (v < 0)) = false := by
      by_cases h1 : u < 0 <;> by_cases h2 : v < 0 <;> simp_all
    rw [hb, cond_false, if_pos (by omega)]
    by_cases hc : u.natAbs < v.natAbs
    · rw [condT (by rw [decide_eq_true_eq, cmp_lt]; exact hc), es hv hu (by omega)]
      dsimp only
      rw [fromI_digs (by omega)]
      have : (if decide (v < 0) = true then -((v.natAbs - u.natAbs : Nat) : Int) else ((v.natAbs - u.natAbs : Nat) : Int)) = u + v := by
        by_cases h1 : v < 0
        · simp only [h1, decide_true, if_true]; omega
        · simp only [h1, decide_false, Bool.false_eq_true, if_false]; omega
      rw [this]
    · rw [condF (by rw [decide_eq_false_iff_not, cmp_lt]; exact hc), es hu hv (by omega)]
      dsimp only
      rw [fromI_digs (by omega)]
      have : (if decide (u < 0) = true then -((u.natAbs - v.natAbs : Nat) : Int) else ((u.natAbs - v.natAbs : Nat) : Int)) = u + v := by
        by_cases h1 : u < 0
        · simp only [h1, decide_true, if_true]; omega
        · simp only [h1, decide_false, Bool.false_eq_true, if_false]; omega
      rw [this]

theorem neg_intD {v : Int} (hv : v.natAbs < B ^ 64) : negI (intD v).1 (intD v).2 = intD (-v) := by
  unfold negI
  rw [if_pos (rtI_intD hv)]
  show fromI (!decide (v < 0)) (digs B v.natAbs) = _
  rw [fromI_digs hv]
  by_cases h1 : v < 0
  · have e : ((v.natAbs : Nat) : Int) = -v := by omega
    simp [h1, e]
  · have e : ((v.natAbs : Nat) : Int) = v := by omega
    simp [h1, e]

theorem sub_intD {u v : Int} (hu : u.natAbs < B ^ 64) (hv : v.natAbs < B ^ 64) : modint_Sub' (intD u).1 (intD u).2 (intD v).1 (intD v).2 = if (u - v).natAbs < B ^ 64 then ((intD (u - v)).1, (intD (u - v)).2, 0) else (false, [], 4) := by
  have e : modint_Sub' (intD u).1 (intD u).2 (intD v).1 (intD v).2 = modint_Add' (intD u).1 (intD u).2 (intD (-v)).1 (intD (-v)).2 := by
    unfold modint_Sub'
    rw [rtI_intD hu, rtI_intD hv, neg_intD hv]
    rfl
  rw [e, add_intD hu (by omega)]
  rfl

theorem cmp_intD {u v : Int} (hu : u.natAbs < B ^ 64) (hv : v.natAbs < B ^ 64) : cmpI (intD u).1 (intD u).2 (intD v).1 (intD v).2 = if u < v then -1 else if u = v then 0 else 1 := by
  unfold cmpI
  rw [if_pos ⟨rtI_intD hu, rtI_intD hv⟩]
  have ec : ∀ {a b : Int}, a.natAbs < B ^ 64 → b.natAbs < B ^ 64 → cmpN (intD a).2 (intD b).2 = cmp a.natAbs b.natAbs := by
    intro a b ha hb
    unfold cmpN intD
    dsimp only
    rw [if_pos ⟨rt_digs ha, rt_digs hb⟩, num_digs B2, num_digs B2]
  rw [ec hu hv, ec hv hu]
  have s1 : (intD u).1 = decide (u < 0) := rfl
  have s2 : (intD v).1 = decide (v < 0) := rfl
  rw [s1, s2]
  unfold cmp
  by_cases h1 : u < 0
  · by_cases h2 : v < 0
    · simp only [h1, h2, decide_true, if_true]
      by_cases h3 : u < v
      · rw [if_pos h3, if_pos (by omega)]
      · rw [if_neg h3, if_neg (by omega)]
        by_cases h4 : u = v
        · rw [if_pos h4, if_pos (by omega)]
        · rw [if_neg h4, if_neg (by omega)]
    · simp only [h1, h2, decide_true, decide_false, Bool.true_eq_false, if_false, if_true]
      rw [if_pos (by omega)]
  · by_cases h2 : v < 0
    · simp only [h1, h2, decide_true, decide_false, Bool.false_eq_true, if_false]
      rw [if_neg (by omega), if_neg (by omega)]
    · simp only [h1, h2, decide_false, Bool.false_eq_true, if_false, if_true]
      by_cases h3 : u < v
      · rw [if_pos h3, if_pos (by omega)]
      · rw [if_neg h3, if_neg (by omega)]
        by_cases h4 : u = v
        · rw [if_pos h4, if_pos (by omega)]
        · rw [if_neg h4, if_neg (by omega)]

theorem intD_of_nat (n : Nat) : intD (n : Int) = (false, digs B n) := by
  unfold intD
  have : decide ((n : Int) < 0) = false := by rw [decide_eq_false_iff_not]; omega
  rw [this]
  rfl

theorem floor_intD {u v : Int} (hu : u.natAbs < B ^ 64) (hv : v.natAbs < B ^ 64) (h0 : 0 < v) : floorI (intD u).1 (intD u).2 (intD v).1 (intD v).2 = ((intD (u / v)).1, (intD (u / v)).2, (intD (u % v)).1, (intD (u % v)).2, 0) := by
  obtain ⟨y, rfl⟩ : ∃ y : Nat, v = (y : Int) := ⟨v.toNat, by omega⟩
  have hy : y < B ^ 64 := by simpa using hv
  have hy0 : 0 < y := by omega
  have hne : (intD (y : Int)).2 ≠ [] := fun e => by
    have : y = 0 := by simpa [intD] using (digs_nil B2).1 e
    omega
  unfold floorI
  rw [rtI_intD hu, rtI_intD hv]
  have sy : (intD (y : Int)).1 = false := by rw [intD_of_nat]
  have dv : divN (intD u).2 (intD (y : Int)).2 = (digs B (u.natAbs / y), digs B (u.natAbs % y), 0) := by
    unfold divN
    rw [if_pos ⟨rtI_rt (rtI_intD hu), rtI_rt (rtI_intD hv)⟩, if_neg hne]
    simp only [intD, num_digs B2, Int.natAbs_natCast]
  have hQ : u.natAbs / y < B ^ 64 := Nat.lt_of_le_of_lt (Nat.div_le_self _ _) hu
  have hR : u.natAbs % y < B ^ 64 := Nat.lt_trans (Nat.mod_lt _ hy0) hy
  have dm := Nat.div_add_mod u.natAbs y
  have hm := Nat.mod_lt u.natAbs hy0
  rw [dv, sy]
  simp only [Bool.and_self, Bool.not_true, cond_false, hne, decide_false]
  have s1 : (intD u).1 = decide (u < 0) := rfl
  rw [s1]
  have hr0 : (digs B (u.natAbs % y) = []) ↔ u.natAbs % y = 0 := digs_nil B2
  by_cases hc : u < 0 ∧ u.natAbs % y ≠ 0
  · have b1 : (decide (u < 0) && !decide (digs B (u.natAbs % y) = [])) = true := by
      rw [Bool.and_eq_true, decide_eq_true_eq, Bool.not_eq_true', decide_eq_false_iff_not, hr0]
      exact hc
    rw [b1, cond_true]
    have h1 : [1] = digs B 1 := digs_one.symm
    have hq1 : u.natAbs / y + 1 < B ^ 64 := by
      have hy2 : 2 ≤ y := by
        rcases Nat.lt_or_ge y 2 with h | h
        · have : y = 1 := by omega
          subst this
          rw [Nat.mod_one] at hc
          exact absurd rfl hc.2
        · exact h
      have : u.natAbs / y ≤ u.natAbs / 2 := Nat.div_le_div_left hy2 (by omega)
      have hb : 2 < B ^ 64 := by decide +kernel
      omega
    have au : addN (digs B (u.natAbs / y)) [1] = (digs B (u.natAbs / y + 1), 0) := by
      unfold addN
      rw [h1, if_pos ⟨rt_digs hQ, rt_digs (by decide +kernel)⟩, num_digs B2, num_digs B2, told_ok hq1]
    have su : subN (intD (y : Int)).2 (digs B (u.natAbs % y)) = (digs B (y - u.natAbs % y), 0) := by
      rw [intD_of_nat]
      unfold subN
      rw [if_pos ⟨rt_digs hy, rt_digs hR⟩, num_digs B2, num_digs B2, if_neg (by omega)]
    rw [au, su]
    dsimp only
    rw [fromI_digs hq1, fromI_digs (by omega)]
    have e1 : u / (y : Int) = -((u.natAbs / y + 1 : Nat) : Int) := by
      have hu' : u = -((y * (u.natAbs / y) + u.natAbs % y : Nat) : Int) := by rw [dm]; omega
      generalize u.natAbs / y = q at *
      generalize u.natAbs % y = r at *
      rw [hu']
      rw [Int.ediv_eq_iff_of_pos (by omega)]
      constructor
      · rw [Int.natCast_add, Int.natCast_add, Int.natCast_mul, Int.neg_mul, Int.add_mul, Int.mul_comm (q : Int)]
        omega
      · rw [Int.natCast_add, Int.natCast_add, Int.natCast_mul, Int.neg_mul, Int.add_mul, Int.mul_comm (q : Int)]
        omega
    have e2 : u % (y : Int) = ((y - u.natAbs % y : Nat) : Int) := by
      have := Int.mul_ediv_add_emod u (y : Int)
      rw [e1] at this
      have dm' : ((y : Int) * ((u.natAbs / y : Nat) : Int)) + ((u.natAbs % y : Nat) : Int) = ((u.natAbs : Nat) : Int) := by
        rw [← Int.natCast_mul, ← Int.natCast_add, dm]
      rw [Int.natCast_add, Int.mul_neg, Int.mul_add] at this
      omega
    rw [e1, e2]
    rfl
  · have b1 : (decide (u < 0) && !decide (digs B (u.natAbs % y) = [])) = false := by
      rw [← Bool.not_eq_true, Bool.and_eq_true, decide_eq_true_eq, Bool.not_eq_true', decide_eq_false_iff_not, hr0]
      exact hc
    rw [b1, cond_false, fromI_digs hQ, fromI_digs hR]
    have dm' : ((y : Int) * ((u.natAbs / y : Nat) : Int)) + ((u.natAbs % y : Nat) : Int) = ((u.natAbs : Nat) : Int) := by
      rw [← Int.natCast_mul, ← Int.natCast_add, dm]
    by_cases hneg : u < 0
    · have hr : u.natAbs % y = 0 := by
        rcases Nat.eq_zero_or_pos (u.natAbs % y) with h | h
        · exact h
        · exact absurd ⟨hneg, by omega⟩ hc
      rw [hr] at dm' ⊢
      have hu' : u = (y : Int) * -((u.natAbs / y : Nat) : Int) := by
        rw [Int.mul_neg]
        omega
      have e1 : u / (y : Int) = -((u.natAbs / y : Nat) : Int) := by
        conv => lhs; rw [hu']
        exact Int.mul_ediv_cancel_left _ (by omega)
      have e2 : u % (y : Int) = 0 := by
        conv => lhs; rw [hu']
        exact Int.mul_emod_right _ _
      rw [e1, e2, if_pos (by simpa using hneg)]
      rfl
    · have hu' : u = ((u.natAbs : Nat) : Int) := by omega
      have e1 : u / (y : Int) = ((u.natAbs / y : Nat) : Int) := by
        conv => lhs; rw [hu']
        rfl
      have e2 : u % (y : Int) = ((u.natAbs % y : Nat) : Int) := by
        conv => lhs; rw [hu']
        rfl
      rw [e1, e2, if_neg (by simpa using hneg)]
      rfl

end Go.Ab

/- Layer 3: the law of the quotient and the rest. -/
set_option linter.unusedVariables false
set_option linter.unusedSimpArgs false
set_option maxRecDepth 10000
namespace Go.Ab
open Go.Proofs Go.Num

theorem floor_small {u v : Int} (hu : u.natAbs < B ^ 64) (h0 : 0 < v) : (u / v).natAbs < B ^ 64 ∧ (u / v).natAbs ≤ u.natAbs := by
  have h1 := Int.mul_ediv_add_emod u v
  have h2 := Int.emod_nonneg u (show v ≠ 0 by omega)
  have h3 := Int.emod_lt_of_pos u h0
  have key : (u / v).natAbs ≤ u.natAbs := by
    by_cases hn : u < 0
    · have hq : u / v < 0 := Int.ediv_neg_of_neg_of_pos hn h0
      have : u ≤ u / v := by
        have h4 : v * (u / v) ≤ 1 * (u / v) := Int.mul_le_mul_of_nonpos_right (by omega) (by omega)
        rcases Int.lt_or_le (u / v) u with h5 | h5
        · exfalso
          have h6 : u / v + 1 ≤ u := by omega
          have h7 : v * (u / v + 1) = v * (u / v) + v := by rw [Int.mul_add, Int.mul_one]
          have h8 : v * (u / v + 1) ≤ 1 * (u / v + 1) := Int.mul_le_mul_of_nonpos_right (by omega) (by omega)
          omega
        · exact h5
      omega
    · have hq : 0 ≤ u / v := Int.ediv_nonneg (by omega) (by omega)
      have h4 : 1 * (u / v) ≤ v * (u / v) := Int.mul_le_mul_of_nonneg_right (by omega) hq
      omega
  exact ⟨by omega, key⟩

theorem len64_of {n : Nat} (h : B ^ 63 ≤ n) (h2 : n < B ^ 64) : (digs B n).length = 64 := by
  have a := (digs_len B2 n 64).2 h2
  rcases Nat.lt_or_ge (digs B n).length 64 with b | b
  · have := (digs_len B2 n 63).1 (by omega)
    omega
  · omega

theorem ModintBack_iter {p : Bool} {xs : List Nat} {q : Bool} {ys : List Nat} (lx : ∀ x ∈ xs, x < B) (ly : ∀ x ∈ ys, x < B) : Iter law03_ModintBack_step (.fn p xs q ys) true := by
  refine .done ?_
  show law03_ModintBack_fn' _ _ _ _ = _
  unfold law03_ModintBack_fn'
  cases hx : rtI p xs with
  | false => rfl
  | true =>
    cases hy : rtI q ys with
    | false => rfl
    | true =>
      obtain ⟨u, rfl, rfl, hu⟩ := of_rtI lx hx
      obtain ⟨v, rfl, rfl, hv⟩ := of_rtI ly hy
      simp only [Bool.not_true, cond_false]
      refine cond_elim (fun _ => rfl) fun k1 => ?_
      refine cond_elim (fun _ => rfl) fun k2 => ?_
      have hv0 : 0 < v := by
        have h1 : ¬ v < 0 := by simpa [intD] using k1
        rw [len_zero, decide_eq_false_iff_not] at k2
        have h2 : v ≠ 0 := by
          rintro rfl
          rw [intD_zero] at k2
          exact k2 rfl
        omega
      have h1 := Int.mul_ediv_add_emod u v
      have h2 := Int.emod_nonneg u (show v ≠ 0 by omega)
      have h3 := Int.emod_lt_of_pos u hv0
      obtain ⟨s1, s2⟩ := floor_small hu hv0
      rw [floor_intD hu hv hv0]
      dsimp only
      rw [mul_intD s1 hv]
      rw [condF (by rfl)]
      by_cases hm : (u / v * v).natAbs < B ^ 64
      · rw [if_pos hm]
        dsimp only
        rw [add_intD hm (by omega)]
        have e : u / v * v + u % v = u := by rw [Int.mul_comm]; exact h1
        rw [e, if_pos hu]
        dsimp only
        rw [condF (by rfl), condF (by rfl), need_of ⟨rfl, rfl⟩, Option.bind_some, condT (by rfl), condT (by rfl), cond_true, cmp_intD (by omega) hv, if_pos h3]
        have : (intD (u % v)).1 = false := by
          show decide _ = false
          rw [decide_eq_false_iff_not]
          omega
        rw [this]
        rfl
      · rw [if_neg hm]
        dsimp only
        rw [condT (by rfl)]
        have hbig : B ^ 63 ≤ u.natAbs := by
          have e64 : B ^ 64 = B ^ 63 * B := Nat.pow_succ ..
          have hb : B ^ 63 * 2 ≤ B ^ 63 * B := Nat.mul_le_mul_left _ B2
          have hc : u / v * v = u - u % v := by rw [Int.mul_comm]; omega
          rw [hc] at hm
          rcases Nat.lt_or_ge u.natAbs v.natAbs with h | h
          · exfalso
            by_cases hn : u < 0
            · have : u % v = u + v := by
                have h5 : (u + v) % v = u % v := Int.add_emod_right u v
                rw [← h5]
                exact Int.emod_eq_of_lt (by omega) (by omega)
              omega
            · have : u % v = u := Int.emod_eq_of_lt (by omega) (by omega)
              omega
          · omega
        have hl : (intD u).2.length = 64 := len64_of hbig hu
        rw [hl]
        rfl

theorem ModintBack_law (h : AH) {x0 x1 : AV} (z0 : ArgV Pg h T.api_Int x0) (z1 : ArgV Pg h T.api_Int x1) : ∃ h', go (.fn F.law03_ModintBack [x0, x1]) h = some (.bool true, h') := by
  obtain ⟨p, s, xs, rfl, n⟩ := apiInt_of_arg z0
  obtain ⟨q, t, ys, rfl, m⟩ := apiInt_of_arg z1
  obtain ⟨_, h', e, rfl, _⟩ := law03_ModintBack_run (ModintBack_iter (p := p) (q := q) n.lt m.lt) n m
  exact ⟨h', e⟩

end Go.Ab

/- Layer 16: what Weight is made of. -/
set_option linter.unusedVariables false
set_option linter.unusedSimpArgs false
set_option maxRecDepth 10000
namespace Go.Ab
open Go.Proofs Go.Num

theorem within_i (n a b : Int) {h : AH} : go (.fn F.loss_within [.int .i64 n, .int .i64 a, .int .i64 b]) h = some (.bool (decide (a ≤ n ∧ n ≤ b)), h) := within_spec n a b h
theorem awake_i {h : AH} : ∃ h', go (.fn F.law16_awake []) h = some (.bool true, h') ∧ Grow h h' := awake_spec h
theorem loss_Right_i (a1 a2 a3 a4 a5 a6 a7 a8 : Int) {h : AH} : ∃ h', go (.fn F.loss_Right [.agg [.int .i64 a1, .int .i64 a2, .int .i64 a3, .int .i64 a4, .int .i64 a5, .int .i64 a6, .int .i64 a7, .int .i64 a8]]) h = some (.bool (Cfg.right ⟨a1, a2, a3, a4, a5, a6, a7, a8⟩), h') ∧ Grow h h' := loss_Right_spec ⟨a1, a2, a3, a4, a5, a6, a7, a8⟩ h
theorem ref16_Right_i (a1 a2 a3 a4 a5 a6 a7 a8 : Int) {h : AH} : ∃ h', go (.fn F.ref16_Right [.agg [.int .i64 a1, .int .i64 a2, .int .i64 a3, .int .i64 a4, .int .i64 a5, .int .i64 a6, .int .i64 a7, .int .i64 a8]]) h = some (.bool (Cfg.right ⟨a1, a2, a3, a4, a5, a6, a7, a8⟩), h') ∧ Grow h h' := ref16_Right_spec ⟨a1, a2, a3, a4, a5, a6, a7, a8⟩ h
theorem modint_Of_need (n : Int) {h : AH} (c : -9223372036854775808 ≤ n ∧ n ≤ 9223372036854775807) : ∃ (s' : Sl) (h' : AH), go (.fn F.modint_Of [.int .i64 n]) h = some (.agg [.bool (ofI n).1, s'.v], h') ∧ Nats h' s' (ofI n).2 ∧ Grow h h' ∧ Own h s' := modint_Of_spec c.1 c.2
theorem ref03_Of_need (n : Int) {h : AH} (c : -9223372036854775808 ≤ n ∧ n ≤ 9223372036854775807) : ∃ (s' : Sl) (h' : AH), go (.fn F.ref03_Of [.int .i64 n]) h = some (.agg [.bool (ofI n).1, s'.v], h') ∧ Nats h' s' (ofI n).2 ∧ Grow h h' ∧ Own h s' := ref03_Of_spec c.1 c.2

end Go.Ab

/- Layer 16: Weight: printed by wip/tools/walk.py. -/
set_option linter.unusedVariables false
set_option linter.unusedSimpArgs false
set_option maxRecDepth 10000
namespace Go.Ab
open Go.Proofs Go.Num

def ref16_RightSum' (a1 : Int) (a2 : Int) : Bool :=
  cond (decide (a1 ≥ (-1099511627776))) (cond (decide (a1 ≤ 1099511627776)) (cond (decide (a2 ≥ 0)) (decide (a2 ≤ 1048576)) (false)) (false)) (false)

theorem ref16_RightSum_spec {h : AH}   (a1 : Int) (a2 : Int) : Runs (go (.fn F.ref16_RightSum [.agg [.int .i64 a1, .int .i64 a2]]) h) fun v h' => v = .bool (ref16_RightSum' a1 a2) ∧ Grow h h' := by
  rw [u_ref16_RightSum]
  refine Runs.new fun H3 b3 g3 => ?_
  refine Runs.step (AH.has.rd b3 0 rfl (avInt_int _ _)) ?_
  refine Runs.cond (fun k4 => ?_) (fun k4 => ?_)
  · refine Runs.step (AH.has.rd b3 0 rfl (avInt_int _ _)) ?_
    refine Runs.cond (fun k5 => ?_) (fun k5 => ?_)
    · refine Runs.step (AH.has.rd b3 1 rfl (avInt_int _ _)) ?_
      refine Runs.cond (fun k6 => ?_) (fun k6 => ?_)
      · refine Runs.step (AH.has.rd b3 1 rfl (avInt_int _ _)) ?_
        have z : ref16_RightSum' a1 a2 = decide (a2 ≤ 1048576) := by unfold ref16_RightSum'; exact (condT k4).trans ((condT k5).trans ((condT k6).trans rfl))
        rw [z]
        exact Runs.ret ⟨rfl, g3⟩
      · have z : ref16_RightSum' a1 a2 = false := by unfold ref16_RightSum'; exact (condT k4).trans ((condT k5).trans ((condF k6).trans rfl))
        rw [z]
        exact Runs.ret ⟨rfl, g3⟩
    · have z : ref16_RightSum' a1 a2 = false := by unfold ref16_RightSum'; exact (condT k4).trans ((condF k5).trans rfl)
      rw [z]
      exact Runs.ret ⟨rfl, g3⟩
  · have z : ref16_RightSum' a1 a2 = false := by unfold ref16_RightSum'; exact (condF k4).trans rfl
    rw [z]
    exact Runs.ret ⟨rfl, g3⟩

inductive loss_Weight_1_St
  | fn (a1 : Int) (a2 : Int)
  | no

abbrev loss_Weight_1_Res := Bool × List Nat

noncomputable def loss_Weight_1_fn' (a1 : Int) (a2 : Int) : Option (loss_Weight_1_St ⊕ loss_Weight_1_Res) :=
  (need (-9223372036854775808 ≤ (a1 : Int) ∧ (a1 : Int) ≤ 9223372036854775807)).bind fun c4_0 => (need (-9223372036854775808 ≤ (a2 : Int) ∧ (a2 : Int) ≤ 9223372036854775807)).bind fun c5_0 => some (.inr (((((modint_Mul' ((ofI a1).1) ((ofI a1).2) ((ofI a2).1) ((ofI a2).2)).1))), (modint_Mul' ((ofI a1).1) ((ofI a1).2) ((ofI a2).1) ((ofI a2).2)).2.1))

noncomputable def loss_Weight_1_step : loss_Weight_1_St → Option (loss_Weight_1_St ⊕ loss_Weight_1_Res)
  | .fn a1 a2 => loss_Weight_1_fn' a1 a2
  | .no => none

@[reducible] def loss_Weight_1_post (h0 : AH) (r : loss_Weight_1_Res) (v : AV) (h' : AH) : Prop := ∃ s1 : Sl, v = .agg [.bool r.1, s1.v] ∧ Nats h' s1 r.2 ∧ Grow h0 h' ∧ Own h0 s1

def loss_Weight_1_At (r : loss_Weight_1_Res) : loss_Weight_1_St → Prop
  | .fn a1 a2 => ∀ {h : AH}, Runs (go (.fn F.loss_Weight_1 [.int .i64 a1, .int .i64 a2]) h) (loss_Weight_1_post h r)
  | .no => True

theorem loss_Weight_1_fn_walk {r : loss_Weight_1_Res} {o : loss_Weight_1_St ⊕ loss_Weight_1_Res} {a1 : Int} {a2 : Int} (e : loss_Weight_1_fn' a1 a2 = some o) (good : GoodS (loss_Weight_1_At r) r o) : loss_Weight_1_At r (.fn a1 a2) := by
  intro h
  rw [u_loss_Weight_1]
  unfold loss_Weight_1_fn' at e
  refine Runs.new fun H3 b3 g3 => ?_
  obtain ⟨c4_0, q4_0, e⟩ := Option.bind_eq_some_iff.1 e
  obtain ⟨s4, H4, e4, n4, g4, o4⟩ := modint_Of_need a1  c4_0.down
  refine Runs.step e4 ?_
  refine Runs.step rfl ?_
  refine Runs.ifT rfl ?_
  refine Runs.step (seenAt rfl rfl) ?_
  refine Runs.step (seenAt rfl (asSl_v _)) ?_
  obtain ⟨c5_0, q5_0, e⟩ := Option.bind_eq_some_iff.1 e
  obtain ⟨s5, H5, e5, n5, g5, o5⟩ := modint_Of_need a2  c5_0.down
  refine Runs.step e5 ?_
  refine Runs.step rfl ?_
  refine Runs.ifT rfl ?_
  refine Runs.step (seenAt rfl rfl) ?_
  refine Runs.step (seenAt rfl (asSl_v _)) ?_
  obtain ⟨_, H6, e6, s6, rfl, n6, g6, o6⟩ := modint_Mul_spec (n4.grow g5) n5 ((ofI a1).1) ((ofI a2).1)
  refine Runs.step e6 ?_
  refine Runs.step rfl ?_
  refine Runs.step rfl ?_
  refine Runs.ifT rfl ?_
  refine Runs.step (seenAt rfl rfl) ?_
  refine Runs.step (seenAt rfl (asSl_v _)) ?_
  refine Runs.step (seen (avInt_int _ _)) ?_
  refine Runs.new fun H7 b7 g7 => ?_
  refine Runs.puts b7 rfl fun H8 b8 u8 => ?_
  refine Runs.step (AH.has.rd b8 0 rfl rfl) ?_
  refine Runs.step (AH.has.rd b8 1 rfl (asSl_v _)) ?_
  refine Runs.puts (((((g4.trans g5).trans g6).trans g7).updr (Nat.le_trans (((g4.trans g5).trans g6)).size (Nat.le_refl _)) u8).has b3) rfl fun H9 b9 u9 => ?_
  have n4_9 := (n4.grow (((g5.trans g6).trans g7).updr (Nat.le_trans ((g5.trans g6)).size (Nat.le_refl _)) u8)).upda (Av.of_own o4 (b3).lt) u9
  have n5_9 := (n5.grow ((g6.trans g7).updr (Nat.le_trans (g6).size (Nat.le_refl _)) u8)).upda (Av.of_own o5 (g4.has b3).lt) u9
  have n6_9 := (n6.grow (g7.updr (Nat.le_refl _) u8)).upda (Av.of_own o6 ((g4.trans g5).has b3).lt) u9
  have b8_9 := AH.has.updr b8 (Nat.ne_of_gt (Nat.lt_of_lt_of_le (((g4.trans g5).trans g6).has b3).lt (Nat.le_refl _))) u9
  refine Runs.step (AH.has.rd b9 0 rfl rfl) ?_
  refine Runs.step (AH.has.rd b9 1 rfl (asSl_v _)) ?_
  cases e
  cases good
  exact Runs.ret ⟨s6, rfl, n6_9, ((((((g3.trans g4).trans g5).trans g6).trans g7).updr (Nat.le_trans ((((g3.trans g4).trans g5).trans g6)).size (Nat.le_refl _)) u8).updr (Nat.le_refl _) u9), (o6.of_le ((g3.trans g4).trans g5))⟩

theorem loss_Weight_1_run {s : loss_Weight_1_St} {r : loss_Weight_1_Res} (it : Iter loss_Weight_1_step s r) : loss_Weight_1_At r s := Iter.ind (fun s o e good => by
  cases s with
  | fn a1 a2 => exact @loss_Weight_1_fn_walk _ _ a1 a2 e good
  | no => exact True.intro
  ) it

theorem loss_Weight_1_opt {h : AH}  {a1 : Int} {a2 : Int}  {r : loss_Weight_1_Res} (q : runP loss_Weight_1_step (.fn a1 a2) = some r) : Runs (go (.fn F.loss_Weight_1 [.int .i64 a1, .int .i64 a2]) h) (loss_Weight_1_post h r) := loss_Weight_1_run (runP_iter q) 

inductive loss_Weight_St
  | fn (a1 : Int) (a2 : Int) (a3 : Int) (a4 : Int) (a5 : Int) (a6 : Int) (a7 : Int) (a8 : Int) (a9 : Int) (a10 : Int)
  | no

abbrev loss_Weight_Res := Int × Int

noncomputable def loss_Weight_fn' (a1 : Int) (a2 : Int) (a3 : Int) (a4 : Int) (a5 : Int) (a6 : Int) (a7 : Int) (a8 : Int) (a9 : Int) (a10 : Int) : Option (loss_Weight_St ⊕ loss_Weight_Res) :=
  cond (!((Cfg.right ⟨a1, a2, a3, a4, a5, a6, a7, a8⟩))) (some (.inr (0, 1))) (cond (!((decide ((-1099511627776) ≤ a9 ∧ a9 ≤ 1099511627776)))) (some (.inr (0, 1))) (cond (!((decide (0 ≤ a10 ∧ a10 ≤ 1048576)))) (some (.inr (0, 1))) ((runP loss_Weight_1_step (.fn (IntKind.wrap .i64 (0 - a9)) a5)).bind fun p21 => (runP loss_Weight_1_step (.fn (IntKind.wrap .i64 (a10 + a3)) a6)).bind fun p22 => some (.inr (((smallI (((floorI (p21.1) p21.2 (p22.1) p22.2).1)) ((floorI (p21.1) p21.2 (p22.1) p22.2).2.1)).1), ((floorI (p21.1) p21.2 (p22.1) p22.2).2.2.2.2))))))

noncomputable def loss_Weight_step : loss_Weight_St → Option (loss_Weight_St ⊕ loss_Weight_Res)
  | .fn a1 a2 a3 a4 a5 a6 a7 a8 a9 a10 => loss_Weight_fn' a1 a2 a3 a4 a5 a6 a7 a8 a9 a10
  | .no => none

@[reducible] def loss_Weight_post (h0 : AH) (r : loss_Weight_Res) (v : AV) (h' : AH) : Prop := v = .tup [.int .i64 r.1, .int .i64 r.2] ∧ Grow h0 h'

def loss_Weight_At (r : loss_Weight_Res) : loss_Weight_St → Prop
  | .fn a1 a2 a3 a4 a5 a6 a7 a8 a9 a10 => ∀ {h : AH}, Runs (go (.fn F.loss_Weight [.agg [.int .i64 a1, .int .i64 a2, .int .i64 a3, .int .i64 a4, .int .i64 a5, .int .i64 a6, .int .i64 a7, .int .i64 a8], .agg [.int .i64 a9, .int .i64 a10]]) h) (loss_Weight_post h r)
  | .no => True

theorem loss_Weight_fn_walk {r : loss_Weight_Res} {o : loss_Weight_St ⊕ loss_Weight_Res} {a1 : Int} {a2 : Int} {a3 : Int} {a4 : Int} {a5 : Int} {a6 : Int} {a7 : Int} {a8 : Int} {a9 : Int} {a10 : Int} (e : loss_Weight_fn' a1 a2 a3 a4 a5 a6 a7 a8 a9 a10 = some o) (good : GoodS (loss_Weight_At r) r o) : loss_Weight_At r (.fn a1 a2 a3 a4 a5 a6 a7 a8 a9 a10) := by
  intro h
  rw [u_loss_Weight]
  unfold loss_Weight_fn' at e
  refine Runs.new fun H11 b11 g11 => ?_
  refine Runs.new fun H12 b12 g12 => ?_
  refine Runs.step (AH.has.rd (g12.has b11) 0 rfl (avInt_int _ _)) ?_
  refine Runs.step (AH.has.rd (g12.has b11) 1 rfl (avInt_int _ _)) ?_
  refine Runs.step (AH.has.rd (g12.has b11) 2 rfl (avInt_int _ _)) ?_
  refine Runs.step (AH.has.rd (g12.has b11) 3 rfl (avInt_int _ _)) ?_
  refine Runs.step (AH.has.rd (g12.has b11) 4 rfl (avInt_int _ _)) ?_
  refine Runs.step (AH.has.rd (g12.has b11) 5 rfl (avInt_int _ _)) ?_
  refine Runs.step (AH.has.rd (g12.has b11) 6 rfl (avInt_int _ _)) ?_
  refine Runs.step (AH.has.rd (g12.has b11) 7 rfl (avInt_int _ _)) ?_
  obtain ⟨H13, e13, g13⟩ := loss_Right_i a1 a2 a3 a4 a5 a6 a7 a8
  refine Runs.step e13 ?_
  refine Runs.step (seen rfl) ?_
  refine Runs.cond (fun k14 => ?_) (fun k14 => ?_)
  · replace e := (condT k14).symm.trans e
    cases e
    cases good
    exact Runs.ret ⟨rfl, ((g11.trans g12).trans g13)⟩
  · replace e := (condF k14).symm.trans e
    refine Runs.step (AH.has.rd (g13.has b12) 0 rfl (avInt_int _ _)) ?_
    refine Runs.step (within_i a9 (-1099511627776) 1099511627776) ?_
    refine Runs.step (seen rfl) ?_
    refine Runs.cond (fun k16 => ?_) (fun k16 => ?_)
    · replace e := (condT k16).symm.trans e
      cases e
      cases good
      exact Runs.ret ⟨rfl, ((g11.trans g12).trans g13)⟩
    · replace e := (condF k16).symm.trans e
      refine Runs.step (AH.has.rd (g13.has b12) 1 rfl (avInt_int _ _)) ?_
      refine Runs.step (within_i a10 0 1048576) ?_
      refine Runs.step (seen rfl) ?_
      refine Runs.cond (fun k18 => ?_) (fun k18 => ?_)
      · replace e := (condT k18).symm.trans e
        cases e
        cases good
        exact Runs.ret ⟨rfl, ((g11.trans g12).trans g13)⟩
      · replace e := (condF k18).symm.trans e
        refine Runs.new fun H19 b19 g19 => ?_
        refine Runs.new fun H20 b20 g20 => ?_
        refine Runs.step (AH.has.rd (((g13.trans g19).trans g20).has b12) 0 rfl (avInt_int _ _)) ?_
        refine Runs.step (AH.has.rd ((((g12.trans g13).trans g19).trans g20).has b11) 4 rfl (avInt_int _ _)) ?_
        refine Runs.step (AH.has.rd (((g13.trans g19).trans g20).has b12) 1 rfl (avInt_int _ _)) ?_
        refine Runs.step (AH.has.rd ((((g12.trans g13).trans g19).trans g20).has b11) 2 rfl (avInt_int _ _)) ?_
        refine Runs.step (AH.has.rd ((((g12.trans g13).trans g19).trans g20).has b11) 5 rfl (avInt_int _ _)) ?_
        obtain ⟨p21, q21, e⟩ := Option.bind_eq_some_iff.1 e
        obtain ⟨_, H21, e21, s21, rfl, n21, g21, o21⟩ := loss_Weight_1_opt q21
        refine Runs.step e21 ?_
        refine Runs.step rfl ?_
        refine Runs.ifT rfl ?_
        refine Runs.step (seenAt rfl rfl) ?_
        refine Runs.step (seenAt rfl (asSl_v _)) ?_
        refine Runs.when (g21.same ((((g12.trans g13).trans g19).trans g20).has b11) 5 1) ?_
        refine Runs.when (g21.same ((((g12.trans g13).trans g19).trans g20).has b11) 2 1) ?_
        refine Runs.when (g21.same (((g13.trans g19).trans g20).has b12) 1 1) ?_
        refine Runs.when (g21.same b20 0 0) ?_
        refine Runs.when (g21.same (g20.has b19) 0 0) ?_
        obtain ⟨p22, q22, e⟩ := Option.bind_eq_some_iff.1 e
        obtain ⟨_, H22, e22, s22, rfl, n22, g22, o22⟩ := loss_Weight_1_opt q22
        refine Runs.step e22 ?_
        refine Runs.step rfl ?_
        refine Runs.ifT rfl ?_
        refine Runs.step (seenAt rfl rfl) ?_
        refine Runs.step (seenAt rfl (asSl_v _)) ?_
        refine Runs.when (g22.same (g21.has b20) 0 0) ?_
        refine Runs.when (g22.same ((g20.trans g21).has b19) 0 0) ?_
        obtain ⟨_, H23, e23, s23, s23b, rfl, n23, n23b, g23, o23, o23b⟩ := modint_Floor_spec (n21.grow g22) n22 (p21.1) (p22.1)
        refine Runs.step e23 ?_
        refine Runs.step rfl ?_
        refine Runs.step rfl ?_
        refine Runs.ifT rfl ?_
        refine Runs.step (seenAt rfl rfl) ?_
        refine Runs.step (seenAt rfl (asSl_v _)) ?_
        refine Runs.step rfl ?_
        refine Runs.ifT rfl ?_
        refine Runs.step (seenAt rfl rfl) ?_
        refine Runs.step (seenAt rfl (asSl_v _)) ?_
        refine Runs.step (seen (avInt_int _ _)) ?_
        refine Runs.when (g23.same ((g21.trans g22).has b20) 0 0) ?_
        refine Runs.when (g23.same (((g20.trans g21).trans g22).has b19) 0 0) ?_
        refine Runs.puts ((((g20.trans g21).trans g22).trans g23).has b19) rfl fun H24 b24 u24 => ?_
        have n21_24 := (n21.grow (g22.trans g23)).upda (Av.of_own o21 (g20.has b19).lt) u24
        have n22_24 := (n22.grow g23).upda (Av.of_own o22 ((g20.trans g21).has b19).lt) u24
        have n23_24 := n23.upda (Av.of_own o23 (((g20.trans g21).trans g22).has b19).lt) u24
        have n23b_24 := n23b.upda (Av.of_own o23b (((g20.trans g21).trans g22).has b19).lt) u24
        have b20_24 := AH.has.updr (((g21.trans g22).trans g23).has b20) (Nat.ne_of_gt (Nat.lt_of_lt_of_le (b19).lt (Nat.le_refl _))) u24
        refine Runs.puts b20_24 rfl fun H25 b25 u25 => ?_
        have n21_25 := n21_24.upda (Av.of_own o21 (b20).lt) u25
        have n22_25 := n22_24.upda (Av.of_own o22 (g21.has b20).lt) u25
        have n23_25 := n23_24.upda (Av.of_own o23 ((g21.trans g22).has b20).lt) u25
        have n23b_25 := n23b_24.upda (Av.of_own o23b ((g21.trans g22).has b20).lt) u25
        have b24_25 := AH.has.updr b24 (Nat.ne_of_lt (Nat.lt_of_lt_of_le (b19).lt (Nat.le_refl _))) u25
        refine Runs.step (AH.has.rd b24_25 0 rfl rfl) ?_
        refine Runs.step (AH.has.rd b24_25 1 rfl (asSl_v _)) ?_
        obtain ⟨H26, e26, g26⟩ := modint_Small_spec n23_25 (((floorI (p21.1) p21.2 (p22.1) p22.2).1))
        refine Runs.step e26 ?_
        refine Runs.step rfl ?_
        refine Runs.step (seen (avInt_int _ _)) ?_
        refine Runs.step (seen rfl) ?_
        cases e
        cases good
        exact Runs.ret ⟨rfl, ((((((((((g11.trans g12).trans g13).trans g19).trans g20).trans g21).trans g22).trans g23).updr (Nat.le_trans (((g11.trans g12).trans g13)).size (Nat.le_refl _)) u24).updr (Nat.le_trans ((((g11.trans g12).trans g13).trans g19)).size (Nat.le_refl _)) u25).trans g26)⟩

theorem loss_Weight_run {s : loss_Weight_St} {r : loss_Weight_Res} (it : Iter loss_Weight_step s r) : loss_Weight_At r s := Iter.ind (fun s o e good => by
  cases s with
  | fn a1 a2 a3 a4 a5 a6 a7 a8 a9 a10 => exact @loss_Weight_fn_walk _ _ a1 a2 a3 a4 a5 a6 a7 a8 a9 a10 e good
  | no => exact True.intro
  ) it

theorem loss_Weight_opt {h : AH}  {a1 : Int} {a2 : Int} {a3 : Int} {a4 : Int} {a5 : Int} {a6 : Int} {a7 : Int} {a8 : Int} {a9 : Int} {a10 : Int}  {r : loss_Weight_Res} (q : runP loss_Weight_step (.fn a1 a2 a3 a4 a5 a6 a7 a8 a9 a10) = some r) : Runs (go (.fn F.loss_Weight [.agg [.int .i64 a1, .int .i64 a2, .int .i64 a3, .int .i64 a4, .int .i64 a5, .int .i64 a6, .int .i64 a7, .int .i64 a8], .agg [.int .i64 a9, .int .i64 a10]]) h) (loss_Weight_post h r) := loss_Weight_run (runP_iter q) 

inductive ref16_Weight_St
  | fn (a1 : Int) (a2 : Int) (a3 : Int) (a4 : Int) (a5 : Int) (a6 : Int) (a7 : Int) (a8 : Int) (a9 : Int) (a10 : Int)
  | no

abbrev ref16_Weight_Res := Int × Int

noncomputable def ref16_Weight_fn' (a1 : Int) (a2 : Int) (a3 : Int) (a4 : Int) (a5 : Int) (a6 : Int) (a7 : Int) (a8 : Int) (a9 : Int) (a10 : Int) : Option (ref16_Weight_St ⊕ ref16_Weight_Res) :=
  cond (!((Cfg.right ⟨a1, a2, a3, a4, a5, a6, a7, a8⟩))) (some (.inr (0, 1))) (cond (!((ref16_RightSum' a9 a10))) (some (.inr (0, 1))) ((need (-9223372036854775808 ≤ ((IntKind.wrap .i64 (0 - a9)) : Int) ∧ ((IntKind.wrap .i64 (0 - a9)) : Int) ≤ 9223372036854775807)).bind fun c18_0 => (need (-9223372036854775808 ≤ (a5 : Int) ∧ (a5 : Int) ≤ 9223372036854775807)).bind fun c19_0 => (need (-9223372036854775808 ≤ ((IntKind.wrap .i64 (a10 + a3)) : Int) ∧ ((IntKind.wrap .i64 (a10 + a3)) : Int) ≤ 9223372036854775807)).bind fun c23_0 => (need (-9223372036854775808 ≤ (a6 : Int) ∧ (a6 : Int) ≤ 9223372036854775807)).bind fun c24_0 => some (.inr (((smallI (((floorI (((modint_Mul' ((ofI (IntKind.wrap .i64 (0 - a9))).1) ((ofI (IntKind.wrap .i64 (0 - a9))).2) ((ofI a5).1) ((ofI a5).2)).1)) ((modint_Mul' ((ofI (IntKind.wrap .i64 (0 - a9))).1) ((ofI (IntKind.wrap .i64 (0 - a9))).2) ((ofI a5).1) ((ofI a5).2)).2.1) (((modint_Mul' ((ofI (IntKind.wrap .i64 (a10 + a3))).1) ((ofI (IntKind.wrap .i64 (a10 + a3))).2) ((ofI a6).1) ((ofI a6).2)).1)) ((modint_Mul' ((ofI (IntKind.wrap .i64 (a10 + a3))).1) ((ofI (IntKind.wrap .i64 (a10 + a3))).2) ((ofI a6).1) ((ofI a6).2)).2.1)).1)) ((floorI (((modint_Mul' ((ofI (IntKind.wrap .i64 (0 - a9))).1) ((ofI (IntKind.wrap .i64 (0 - a9))).2) ((ofI a5).1) ((ofI a5).2)).1)) ((modint_Mul' ((ofI (IntKind.wrap .i64 (0 - a9))).1) ((ofI (IntKind.wrap .i64 (0 - a9))).2) ((ofI a5).1) ((ofI a5).2)).2.1) (((modint_Mul' ((ofI (IntKind.wrap .i64 (a10 + a3))).1) ((ofI (IntKind.wrap .i64 (a10 + a3))).2) ((ofI a6).1) ((ofI a6).2)).1)) ((modint_Mul' ((ofI (IntKind.wrap .i64 (a10 + a3))).1) ((ofI (IntKind.wrap .i64 (a10 + a3))).2) ((ofI a6).1) ((ofI a6).2)).2.1)).2.1)).1), 0))))

noncomputable def ref16_Weight_step : ref16_Weight_St → Option (ref16_Weight_St ⊕ ref16_Weight_Res)
  | .fn a1 a2 a3 a4 a5 a6 a7 a8 a9 a10 => ref16_Weight_fn' a1 a2 a3 a4 a5 a6 a7 a8 a9 a10
  | .no => none

@[reducible] def ref16_Weight_post (h0 : AH) (r : ref16_Weight_Res) (v : AV) (h' : AH) : Prop := v = .tup [.int .i64 r.1, .int .i64 r.2] ∧ Grow h0 h'

def ref16_Weight_At (r : ref16_Weight_Res) : ref16_Weight_St → Prop
  | .fn a1 a2 a3 a4 a5 a6 a7 a8 a9 a10 => ∀ {h : AH}, Runs (go (.fn F.ref16_Weight [.agg [.int .i64 a1, .int .i64 a2, .int .i64 a3, .int .i64 a4, .int .i64 a5, .int .i64 a6, .int .i64 a7, .int .i64 a8], .agg [.int .i64 a9, .int .i64 a10]]) h) (ref16_Weight_post h r)
  | .no => True

theorem ref16_Weight_fn_walk {r : ref16_Weight_Res} {o : ref16_Weight_St ⊕ ref16_Weight_Res} {a1 : Int} {a2 : Int} {a3 : Int} {a4 : Int} {a5 : Int} {a6 : Int} {a7 : Int} {a8 : Int} {a9 : Int} {a10 : Int} (e : ref16_Weight_fn' a1 a2 a3 a4 a5 a6 a7 a8 a9 a10 = some o) (good : GoodS (ref16_Weight_At r) r o) : ref16_Weight_At r (.fn a1 a2 a3 a4 a5 a6 a7 a8 a9 a10) := by
  intro h
  rw [u_ref16_Weight]
  unfold ref16_Weight_fn' at e
  refine Runs.new fun H11 b11 g11 => ?_
  refine Runs.new fun H12 b12 g12 => ?_
  refine Runs.step (AH.has.rd (g12.has b11) 0 rfl (avInt_int _ _)) ?_
  refine Runs.step (AH.has.rd (g12.has b11) 1 rfl (avInt_int _ _)) ?_
  refine Runs.step (AH.has.rd (g12.has b11) 2 rfl (avInt_int _ _)) ?_
  refine Runs.step (AH.has.rd (g12.has b11) 3 rfl (avInt_int _ _)) ?_
  refine Runs.step (AH.has.rd (g12.has b11) 4 rfl (avInt_int _ _)) ?_
  refine Runs.step (AH.has.rd (g12.has b11) 5 rfl (avInt_int _ _)) ?_
  refine Runs.step (AH.has.rd (g12.has b11) 6 rfl (avInt_int _ _)) ?_
  refine Runs.step (AH.has.rd (g12.has b11) 7 rfl (avInt_int _ _)) ?_
  obtain ⟨H13, e13, g13⟩ := ref16_Right_i a1 a2 a3 a4 a5 a6 a7 a8
  refine Runs.step e13 ?_
  refine Runs.step (seen rfl) ?_
  refine Runs.step (AH.has.rd (g13.has b12) 0 rfl (avInt_int _ _)) ?_
  refine Runs.step (AH.has.rd (g13.has b12) 1 rfl (avInt_int _ _)) ?_
  obtain ⟨_, H14, e14, rfl, g14⟩ := ref16_RightSum_spec a9 a10
  refine Runs.step e14 ?_
  refine Runs.step (seen rfl) ?_
  refine Runs.cond (fun k15 => ?_) (fun k15 => ?_)
  · replace e := (condT k15).symm.trans e
    cases e
    cases good
    exact Runs.ret ⟨rfl, (((g11.trans g12).trans g13).trans g14)⟩
  · replace e := (condF k15).symm.trans e
    refine Runs.cond (fun k16 => ?_) (fun k16 => ?_)
    · replace e := (condT k16).symm.trans e
      cases e
      cases good
      exact Runs.ret ⟨rfl, (((g11.trans g12).trans g13).trans g14)⟩
    · replace e := (condF k16).symm.trans e
      refine Runs.new fun H17 b17 g17 => ?_
      refine Runs.step (AH.has.rd (((g13.trans g14).trans g17).has b12) 0 rfl (avInt_int _ _)) ?_
      refine Runs.step (AH.has.rd ((((g12.trans g13).trans g14).trans g17).has b11) 4 rfl (avInt_int _ _)) ?_
      obtain ⟨c18_0, q18_0, e⟩ := Option.bind_eq_some_iff.1 e
      obtain ⟨s18, H18, e18, n18, g18, o18⟩ := ref03_Of_need (IntKind.wrap .i64 (0 - a9))  c18_0.down
      refine Runs.step e18 ?_
      refine Runs.step rfl ?_
      refine Runs.ifT rfl ?_
      refine Runs.step (seenAt rfl rfl) ?_
      refine Runs.step (seenAt rfl (asSl_v _)) ?_
      refine Runs.when (g18.same ((((g12.trans g13).trans g14).trans g17).has b11) 4 1) ?_
      refine Runs.when (g18.same b17 0 0) ?_
      obtain ⟨c19_0, q19_0, e⟩ := Option.bind_eq_some_iff.1 e
      obtain ⟨s19, H19, e19, n19, g19, o19⟩ := ref03_Of_need a5  c19_0.down
      refine Runs.step e19 ?_
      refine Runs.step rfl ?_
      refine Runs.ifT rfl ?_
      refine Runs.step (seenAt rfl rfl) ?_
      refine Runs.step (seenAt rfl (asSl_v _)) ?_
      refine Runs.when (g19.same (g18.has b17) 0 0) ?_
      obtain ⟨_, H20, e20, s20, rfl, n20, g20, o20⟩ := ref03_Mul_is (n18.grow g19) n19 ((ofI (IntKind.wrap .i64 (0 - a9))).1) ((ofI a5).1)
      refine Runs.step e20 ?_
      refine Runs.step rfl ?_
      refine Runs.step rfl ?_
      refine Runs.ifT rfl ?_
      refine Runs.step (seenAt rfl rfl) ?_
      refine Runs.step (seenAt rfl (asSl_v _)) ?_
      refine Runs.step (seen (avInt_int _ _)) ?_
      refine Runs.when (g20.same ((g18.trans g19).has b17) 0 0) ?_
      refine Runs.puts (((g18.trans g19).trans g20).has b17) rfl fun H21 b21 u21 => ?_
      have n18_21 := (n18.grow (g19.trans g20)).upda (Av.of_own o18 (b17).lt) u21
      have n19_21 := (n19.grow g20).upda (Av.of_own o19 (g18.has b17).lt) u21
      have n20_21 := n20.upda (Av.of_own o20 ((g18.trans g19).has b17).lt) u21
      refine Runs.new fun H22 b22 g22 => ?_
      refine Runs.step (AH.has.rd ((((((((g13.trans g14).trans g17).trans g18).trans g19).trans g20).updr (Nat.le_trans ((g13.trans g14)).size (Nat.le_refl _)) u21).trans g22).has b12) 1 rfl (avInt_int _ _)) ?_
      refine Runs.step (AH.has.rd (((((((((g12.trans g13).trans g14).trans g17).trans g18).trans g19).trans g20).updr (Nat.le_trans (((g12.trans g13).trans g14)).size (Nat.le_refl _)) u21).trans g22).has b11) 2 rfl (avInt_int _ _)) ?_
      refine Runs.step (AH.has.rd (((((((((g12.trans g13).trans g14).trans g17).trans g18).trans g19).trans g20).updr (Nat.le_trans (((g12.trans g13).trans g14)).size (Nat.le_refl _)) u21).trans g22).has b11) 5 rfl (avInt_int _ _)) ?_
      obtain ⟨c23_0, q23_0, e⟩ := Option.bind_eq_some_iff.1 e
      obtain ⟨s23, H23, e23, n23, g23, o23⟩ := ref03_Of_need (IntKind.wrap .i64 (a10 + a3))  c23_0.down
      refine Runs.step e23 ?_
      refine Runs.step rfl ?_
      refine Runs.ifT rfl ?_
      refine Runs.step (seenAt rfl rfl) ?_
      refine Runs.step (seenAt rfl (asSl_v _)) ?_
      refine Runs.when (g23.same (((((((((g12.trans g13).trans g14).trans g17).trans g18).trans g19).trans g20).updr (Nat.le_trans (((g12.trans g13).trans g14)).size (Nat.le_refl _)) u21).trans g22).has b11) 5 1) ?_
      refine Runs.when (g23.same b22 0 0) ?_
      obtain ⟨c24_0, q24_0, e⟩ := Option.bind_eq_some_iff.1 e
      obtain ⟨s24, H24, e24, n24, g24, o24⟩ := ref03_Of_need a6  c24_0.down
      refine Runs.step e24 ?_
      refine Runs.step rfl ?_
      refine Runs.ifT rfl ?_
      refine Runs.step (seenAt rfl rfl) ?_
      refine Runs.step (seenAt rfl (asSl_v _)) ?_
      refine Runs.when (g24.same (g23.has b22) 0 0) ?_
      obtain ⟨_, H25, e25, s25, rfl, n25, g25, o25⟩ := ref03_Mul_is (n23.grow g24) n24 ((ofI (IntKind.wrap .i64 (a10 + a3))).1) ((ofI a6).1)
      refine Runs.step e25 ?_
      refine Runs.step rfl ?_
      refine Runs.step rfl ?_
      refine Runs.ifT rfl ?_
      refine Runs.step (seenAt rfl rfl) ?_
      refine Runs.step (seenAt rfl (asSl_v _)) ?_
      refine Runs.step (seen (avInt_int _ _)) ?_
      refine Runs.when (g25.same ((g23.trans g24).has b22) 0 0) ?_
      refine Runs.puts (((g23.trans g24).trans g25).has b22) rfl fun H26 b26 u26 => ?_
      have n23_26 := (n23.grow (g24.trans g25)).upda (Av.of_own o23 (b22).lt) u26
      have n24_26 := (n24.grow g25).upda (Av.of_own o24 (g23.has b22).lt) u26
      have n25_26 := n25.upda (Av.of_own o25 ((g23.trans g24).has b22).lt) u26
      refine Runs.step (AH.has.rd (((((g22.trans g23).trans g24).trans g25).updr (Nat.le_refl _) u26).has b21) 0 rfl rfl) ?_
      refine Runs.step (AH.has.rd (((((g22.trans g23).trans g24).trans g25).updr (Nat.le_refl _) u26).has b21) 1 rfl (asSl_v _)) ?_
      refine Runs.step (AH.has.rd b26 0 rfl rfl) ?_
      refine Runs.step (AH.has.rd b26 1 rfl (asSl_v _)) ?_
      obtain ⟨_, H27, e27, s27, s27b, rfl, n27, n27b, g27, o27, o27b⟩ := ref03_Floor_spec (n20_21.grow ((((g22.trans g23).trans g24).trans g25).updr (Nat.le_refl _) u26)) n25_26 (((modint_Mul' ((ofI (IntKind.wrap .i64 (0 - a9))).1) ((ofI (IntKind.wrap .i64 (0 - a9))).2) ((ofI a5).1) ((ofI a5).2)).1)) (((modint_Mul' ((ofI (IntKind.wrap .i64 (a10 + a3))).1) ((ofI (IntKind.wrap .i64 (a10 + a3))).2) ((ofI a6).1) ((ofI a6).2)).1))
      refine Runs.step e27 ?_
      refine Runs.step rfl ?_
      refine Runs.step rfl ?_
      refine Runs.ifT rfl ?_
      refine Runs.step (seenAt rfl rfl) ?_
      refine Runs.step (seenAt rfl (asSl_v _)) ?_
      refine Runs.step rfl ?_
      refine Runs.ifT rfl ?_
      refine Runs.step (seenAt rfl rfl) ?_
      refine Runs.step (seenAt rfl (asSl_v _)) ?_
      refine Runs.step (seen (avInt_int _ _)) ?_
      refine Runs.new fun H28 b28 g28 => ?_
      refine Runs.new fun H29 b29 g29 => ?_
      refine Runs.puts (g29.has b28) rfl fun H30 b30 u30 => ?_
      have b29_30 := AH.has.updr b29 (Nat.ne_of_gt (Nat.lt_of_lt_of_le (b28).lt (Nat.le_refl _))) u30
      refine Runs.puts b29_30 rfl fun H31 b31 u31 => ?_
      have b30_31 := AH.has.updr b30 (Nat.ne_of_lt (Nat.lt_of_lt_of_le (b28).lt (Nat.le_refl _))) u31
      refine Runs.step (AH.has.rd b30_31 0 rfl rfl) ?_
      refine Runs.step (AH.has.rd b30_31 1 rfl (asSl_v _)) ?_
      obtain ⟨H32, e32, g32⟩ := ref03_Small_spec (n27.grow (((g28.trans g29).updr (Nat.le_refl _) u30).updr (Nat.le_trans (g28).size (Nat.le_refl _)) u31)) (((floorI (((modint_Mul' ((ofI (IntKind.wrap .i64 (0 - a9))).1) ((ofI (IntKind.wrap .i64 (0 - a9))).2) ((ofI a5).1) ((ofI a5).2)).1)) ((modint_Mul' ((ofI (IntKind.wrap .i64 (0 - a9))).1) ((ofI (IntKind.wrap .i64 (0 - a9))).2) ((ofI a5).1) ((ofI a5).2)).2.1) (((modint_Mul' ((ofI (IntKind.wrap .i64 (a10 + a3))).1) ((ofI (IntKind.wrap .i64 (a10 + a3))).2) ((ofI a6).1) ((ofI a6).2)).1)) ((modint_Mul' ((ofI (IntKind.wrap .i64 (a10 + a3))).1) ((ofI (IntKind.wrap .i64 (a10 + a3))).2) ((ofI a6).1) ((ofI a6).2)).2.1)).1))
      refine Runs.step e32 ?_
      refine Runs.step rfl ?_
      refine Runs.step (seen (avInt_int _ _)) ?_
      refine Runs.step (seen rfl) ?_
      cases e
      cases good
      exact Runs.ret ⟨rfl, (((((((((((((((((((g11.trans g12).trans g13).trans g14).trans g17).trans g18).trans g19).trans g20).updr (Nat.le_trans ((((g11.trans g12).trans g13).trans g14)).size (Nat.le_refl _)) u21).trans g22).trans g23).trans g24).trans g25).updr (Nat.le_trans (((((((((g11.trans g12).trans g13).trans g14).trans g17).trans g18).trans g19).trans g20).updr (Nat.le_trans ((((g11.trans g12).trans g13).trans g14)).size (Nat.le_refl _)) u21)).size (Nat.le_refl _)) u26).trans g27).trans g28).trans g29).updr (Nat.le_trans (((((((((((((((g11.trans g12).trans g13).trans g14).trans g17).trans g18).trans g19).trans g20).updr (Nat.le_trans ((((g11.trans g12).trans g13).trans g14)).size (Nat.le_refl _)) u21).trans g22).trans g23).trans g24).trans g25).updr (Nat.le_trans (((((((((g11.trans g12).trans g13).trans g14).trans g17).trans g18).trans g19).trans g20).updr (Nat.le_trans ((((g11.trans g12).trans g13).trans g14)).size (Nat.le_refl _)) u21)).size (Nat.le_refl _)) u26).trans g27)).size (Nat.le_refl _)) u30).updr (Nat.le_trans ((((((((((((((((g11.trans g12).trans g13).trans g14).trans g17).trans g18).trans g19).trans g20).updr (Nat.le_trans ((((g11.trans g12).trans g13).trans g14)).size (Nat.le_refl _)) u21).trans g22).trans g23).trans g24).trans g25).updr (Nat.le_trans (((((((((g11.trans g12).trans g13).trans g14).trans g17).trans g18).trans g19).trans g20).updr (Nat.le_trans ((((g11.trans g12).trans g13).trans g14)).size (Nat.le_refl _)) u21)).size (Nat.le_refl _)) u26).trans g27).trans g28)).size (Nat.le_refl _)) u31).trans g32)⟩

theorem ref16_Weight_run {s : ref16_Weight_St} {r : ref16_Weight_Res} (it : Iter ref16_Weight_step s r) : ref16_Weight_At r s := Iter.ind (fun s o e good => by
  cases s with
  | fn a1 a2 a3 a4 a5 a6 a7 a8 a9 a10 => exact @ref16_Weight_fn_walk _ _ a1 a2 a3 a4 a5 a6 a7 a8 a9 a10 e good
  | no => exact True.intro
  ) it

theorem ref16_Weight_opt {h : AH}  {a1 : Int} {a2 : Int} {a3 : Int} {a4 : Int} {a5 : Int} {a6 : Int} {a7 : Int} {a8 : Int} {a9 : Int} {a10 : Int}  {r : ref16_Weight_Res} (q : runP ref16_Weight_step (.fn a1 a2 a3 a4 a5 a6 a7 a8 a9 a10) = some r) : Runs (go (.fn F.ref16_Weight [.agg [.int .i64 a1, .int .i64 a2, .int .i64 a3, .int .i64 a4, .int .i64 a5, .int .i64 a6, .int .i64 a7, .int .i64 a8], .agg [.int .i64 a9, .int .i64 a10]]) h) (ref16_Weight_post h r) := ref16_Weight_run (runP_iter q) 

end Go.Ab

/- Layer 16: what Weight answers. -/
set_option linter.unusedVariables false
set_option linter.unusedSimpArgs false
set_option maxRecDepth 10000
namespace Go.Ab
open Go.Proofs Go.Num

theorem B64_big : 18446744073709551616 * 18446744073709551616 ≤ B ^ 64 := by
  have : B ^ 64 = B * B * B ^ 62 := by
    rw [show 64 = 2 + 62 from rfl, Nat.pow_add, Nat.pow_two]
  rw [this]
  have h : 1 ≤ B ^ 62 := Nat.pow_pos B1
  have := Nat.mul_le_mul_left (B * B) h
  rw [Nat.mul_one] at this
  exact this

theorem ofI_intD {n : Int} (h : n.natAbs < 18446744073709551616) : ofI n = intD n := by
  have hb : n.natAbs < B ^ 64 := by have := B64_big; omega
  unfold ofI
  rw [fromI_digs hb]
  by_cases h1 : n < 0
  · rw [decide_eq_true h1]
    have e : ((n.natAbs : Nat) : Int) = -n := by omega
    simp [e]
  · rw [decide_eq_false h1]
    have e : ((n.natAbs : Nat) : Int) = n := by omega
    simp [e]

theorem smallN_digs {m : Nat} (h : m < 18446744073709551616) : smallN (digs B m) = (m, true) := by
  have hb : m < B ^ 64 := by have := B64_big; omega
  unfold smallN
  have hl : (digs B m).length ≤ 1 := by
    rw [digs_len B2, Nat.pow_one]
    exact h
  rw [if_pos ⟨rt_digs hb, hl⟩]
  by_cases h0 : m = 0
  · subst h0
    rw [digs_zero]
    rfl
  · rw [digs_pos B2 h0, Nat.mod_eq_of_lt h]
    rfl

theorem smallI_intD {z : Int} (h1 : -9223372036854775808 ≤ z) (h2 : z ≤ 9223372036854775807) : smallI (intD z).1 (intD z).2 = (z, true) := by
  have hz : z.natAbs < 18446744073709551616 := by omega
  have hb : z.natAbs < B ^ 64 := by have := B64_big; omega
  unfold smallI
  have e : smallN (intD z).2 = (z.natAbs, true) := smallN_digs hz
  rw [e, rtI_intD hb]
  have s : (intD z).1 = decide (z < 0) := rfl
  rw [s]
  by_cases hn : z < 0
  · simp only [hn, decide_true, if_true, true_and]
    rw [if_pos (by omega)]
    congr 1
    omega
  · simp only [hn, decide_false, Bool.false_eq_true, if_false, true_and]
    rw [if_pos (by omega)]
    congr 1
    omega

theorem loss_Weight_1_iter {a b : Int} (ha : -9223372036854775808 ≤ a ∧ a ≤ 9223372036854775807) (hb : -9223372036854775808 ≤ b ∧ b ≤ 9223372036854775807) : Iter loss_Weight_1_step (.fn a b) (intD (a * b)) := by
  refine .done ?_
  show loss_Weight_1_fn' _ _ = _
  unfold loss_Weight_1_fn'
  have h64 := B64_big
  have hm : (a * b).natAbs < B ^ 64 := by
    rw [Int.natAbs_mul]
    have : a.natAbs * b.natAbs ≤ 9223372036854775808 * 9223372036854775808 := Nat.mul_le_mul (by omega) (by omega)
    omega
  rw [need_of ha, Option.bind_some, need_of hb, Option.bind_some, ofI_intD (by omega), ofI_intD (by omega), mul_intD (by omega) (by omega), if_pos hm]

/-- What a leaf weighs. -/
def weightF (a1 a2 a3 a4 a5 a6 a7 a8 a9 a10 : Int) : Int × Int :=
  cond (Cfg.right ⟨a1, a2, a3, a4, a5, a6, a7, a8⟩ && decide (-1099511627776 ≤ a9 ∧ a9 ≤ 1099511627776 ∧ 0 ≤ a10 ∧ a10 ≤ 1048576)) ((-a9 * a5) / ((a10 + a3) * a6), 0) (0, 1)

theorem Cfg.right_parts {c : Cfg} (h : c.right = true) : 1 ≤ c.lambda ∧ c.lambda ≤ 1048576 ∧ 1 ≤ c.den ∧ c.den ≤ 1048576 ∧ 1 ≤ c.num ∧ c.num ≤ c.den := by
  unfold Cfg.right at h
  rw [decide_eq_true_eq] at h
  omega

theorem weight_sizes {a3 a5 a6 a9 a10 : Int} (l1 : 1 ≤ a3) (l2 : a3 ≤ 1048576) (d1 : 1 ≤ a6) (d2 : a6 ≤ 1048576) (n1 : 1 ≤ a5) (n2 : a5 ≤ a6) (g1 : -1099511627776 ≤ a9) (g2 : a9 ≤ 1099511627776) (h1 : 0 ≤ a10) (h2 : a10 ≤ 1048576) :
    (-a9 * a5).natAbs ≤ 1152921504606846976 ∧ 0 < (a10 + a3) * a6 ∧ ((a10 + a3) * a6).natAbs ≤ 2199023255552 := by
  refine ⟨?_, Int.mul_pos (by omega) (by omega), ?_⟩
  · rw [Int.natAbs_mul]
    have : (-a9).natAbs * a5.natAbs ≤ 1099511627776 * 1048576 := Nat.mul_le_mul (by omega) (by omega)
    omega
  · rw [Int.natAbs_mul]
    have : (a10 + a3).natAbs * a6.natAbs ≤ 2097152 * 1048576 := Nat.mul_le_mul (by omega) (by omega)
    omega

theorem loss_Weight_iter (a1 a2 a3 a4 a5 a6 a7 a8 a9 a10 : Int) : Iter loss_Weight_step (.fn a1 a2 a3 a4 a5 a6 a7 a8 a9 a10) (weightF a1 a2 a3 a4 a5 a6 a7 a8 a9 a10) := by
  refine .done ?_
  show loss_Weight_fn' _ _ _ _ _ _ _ _ _ _ = _
  unfold loss_Weight_fn' weightF
  cases hr : Cfg.right ⟨a1, a2, a3, a4, a5, a6, a7, a8⟩ with
  | false => rfl
  | true =>
    obtain ⟨l1, l2, d1, d2, n1, n2⟩ := Cfg.right_parts hr
    dsimp only at l1 l2 d1 d2 n1 n2
    by_cases hc : -1099511627776 ≤ a9 ∧ a9 ≤ 1099511627776 ∧ 0 ≤ a10 ∧ a10 ≤ 1048576
    · obtain ⟨g1, g2, h1, h2⟩ := hc
      obtain ⟨s1, s2, s3⟩ := weight_sizes l1 l2 d1 d2 n1 n2 g1 g2 h1 h2
      have h64 := B64_big
      obtain ⟨f1, f2⟩ := floor_small (u := -a9 * a5) (v := (a10 + a3) * a6) (by omega) s2
      rw [show decide (-1099511627776 ≤ a9 ∧ a9 ≤ 1099511627776 ∧ 0 ≤ a10 ∧ a10 ≤ 1048576) = true from decide_eq_true ⟨g1, g2, h1, h2⟩, show decide (-1099511627776 ≤ a9 ∧ a9 ≤ 1099511627776) = true from decide_eq_true ⟨g1, g2⟩, show decide (0 ≤ a10 ∧ a10 ≤ 1048576) = true from decide_eq_true ⟨h1, h2⟩]
      rw [show IntKind.wrap .i64 (0 - a9) = -a9 from by rw [wrap64 (by omega) (by omega)]; omega, wrap64 (n := a10 + a3) (by omega) (by omega)]
      rw [runP_of (loss_Weight_1_iter (a := -a9) (b := a5) ⟨by omega, by omega⟩ ⟨by omega, by omega⟩), runP_of (loss_Weight_1_iter (a := a10 + a3) (b := a6) ⟨by omega, by omega⟩ ⟨by omega, by omega⟩), Option.bind_some, Option.bind_some, floor_intD (by omega) (by omega) s2]
      dsimp only
      rw [smallI_intD (by omega) (by omega)]
      rfl
    · rw [show decide (-1099511627776 ≤ a9 ∧ a9 ≤ 1099511627776 ∧ 0 ≤ a10 ∧ a10 ≤ 1048576) = false from decide_eq_false hc]
      simp only [Bool.not_true, cond_false, Bool.true_and]
      refine cond_elim (fun _ => rfl) fun k1 => ?_
      refine cond_elim (fun _ => rfl) fun k2 => ?_
      exfalso
      simp only [Bool.not_eq_false', decide_eq_true_eq] at k1 k2
      omega

theorem ref16_Weight_iter (a1 a2 a3 a4 a5 a6 a7 a8 a9 a10 : Int) : Iter ref16_Weight_step (.fn a1 a2 a3 a4 a5 a6 a7 a8 a9 a10) (weightF a1 a2 a3 a4 a5 a6 a7 a8 a9 a10) := by
  refine .done ?_
  show ref16_Weight_fn' _ _ _ _ _ _ _ _ _ _ = _
  unfold ref16_Weight_fn' weightF
  have hs : ref16_RightSum' a9 a10 = decide (-1099511627776 ≤ a9 ∧ a9 ≤ 1099511627776 ∧ 0 ≤ a10 ∧ a10 ≤ 1048576) := by
    unfold ref16_RightSum'
    by_cases q1 : a9 ≥ -1099511627776 <;> by_cases q2 : a9 ≤ 1099511627776 <;> by_cases q3 : a10 ≥ 0 <;> by_cases q4 : a10 ≤ 1048576 <;> simp [q1, q2, q3, q4] <;> omega
  rw [hs]
  cases hr : Cfg.right ⟨a1, a2, a3, a4, a5, a6, a7, a8⟩ with
  | false => rfl
  | true =>
    obtain ⟨l1, l2, d1, d2, n1, n2⟩ := Cfg.right_parts hr
    dsimp only at l1 l2 d1 d2 n1 n2
    by_cases hc : -1099511627776 ≤ a9 ∧ a9 ≤ 1099511627776 ∧ 0 ≤ a10 ∧ a10 ≤ 1048576
    · rw [decide_eq_true hc]
      obtain ⟨g1, g2, h1, h2⟩ := hc
      obtain ⟨s1, s2, s3⟩ := weight_sizes l1 l2 d1 d2 n1 n2 g1 g2 h1 h2
      have h64 := B64_big
      obtain ⟨f1, f2⟩ := floor_small (u := -a9 * a5) (v := (a10 + a3) * a6) (by omega) s2
      rw [show IntKind.wrap .i64 (0 - a9) = -a9 from by rw [wrap64 (by omega) (by omega)]; omega, wrap64 (n := a10 + a3) (by omega) (by omega)]
      simp only [Bool.not_true, cond_false, Bool.and_self, cond_true]
      rw [need_of ⟨by omega, by omega⟩, Option.bind_some, need_of ⟨by omega, by omega⟩, Option.bind_some, need_of ⟨by omega, by omega⟩, Option.bind_some, need_of ⟨by omega, by omega⟩, Option.bind_some]
      rw [ofI_intD (n := -a9) (by omega), ofI_intD (n := a5) (by omega), ofI_intD (n := a10 + a3) (by omega), ofI_intD (n := a6) (by omega), mul_intD (by omega) (by omega), mul_intD (by omega) (by omega), if_pos (by omega), if_pos (by omega)]
      dsimp only
      rw [floor_intD (by omega) (by omega) s2]
      dsimp only
      rw [smallI_intD (by omega) (by omega)]
    · rw [decide_eq_false hc]
      rfl

theorem loss_Weight_i (a1 a2 a3 a4 a5 a6 a7 a8 a9 a10 : Int) {h : AH} : Runs (go (.fn F.loss_Weight [.agg [.int .i64 a1, .int .i64 a2, .int .i64 a3, .int .i64 a4, .int .i64 a5, .int .i64 a6, .int .i64 a7, .int .i64 a8], .agg [.int .i64 a9, .int .i64 a10]]) h) (loss_Weight_post h (weightF a1 a2 a3 a4 a5 a6 a7 a8 a9 a10)) := loss_Weight_run (loss_Weight_iter a1 a2 a3 a4 a5 a6 a7 a8 a9 a10)
theorem ref16_Weight_i (a1 a2 a3 a4 a5 a6 a7 a8 a9 a10 : Int) {h : AH} : Runs (go (.fn F.ref16_Weight [.agg [.int .i64 a1, .int .i64 a2, .int .i64 a3, .int .i64 a4, .int .i64 a5, .int .i64 a6, .int .i64 a7, .int .i64 a8], .agg [.int .i64 a9, .int .i64 a10]]) h) (ref16_Weight_post h (weightF a1 a2 a3 a4 a5 a6 a7 a8 a9 a10)) := ref16_Weight_run (ref16_Weight_iter a1 a2 a3 a4 a5 a6 a7 a8 a9 a10)

end Go.Ab

/- Layer 16: laws of Weight: printed by wip/tools/walk.py. -/
set_option linter.unusedVariables false
set_option linter.unusedSimpArgs false
set_option maxRecDepth 10000
namespace Go.Ab
open Go.Proofs Go.Num

inductive law16_LossWeights_St
  | fn (a1 : Int) (a2 : Int) (a3 : Int) (a4 : Int) (a5 : Int) (a6 : Int) (a7 : Int) (a8 : Int) (a9 : Int) (a10 : Int)
  | no

abbrev law16_LossWeights_Res := Bool

noncomputable def law16_LossWeights_fn' (a1 : Int) (a2 : Int) (a3 : Int) (a4 : Int) (a5 : Int) (a6 : Int) (a7 : Int) (a8 : Int) (a9 : Int) (a10 : Int) : Option (law16_LossWeights_St ⊕ law16_LossWeights_Res) :=
  cond (true) (cond (decide (((weightF a1 a2 a3 a4 a5 a6 a7 a8 a9 a10).1) = ((weightF a1 a2 a3 a4 a5 a6 a7 a8 a9 a10).1))) (some (.inr (decide (((weightF a1 a2 a3 a4 a5 a6 a7 a8 a9 a10).2) = ((weightF a1 a2 a3 a4 a5 a6 a7 a8 a9 a10).2))))) (some (.inr false))) (some (.inr false))

noncomputable def law16_LossWeights_step : law16_LossWeights_St → Option (law16_LossWeights_St ⊕ law16_LossWeights_Res)
  | .fn a1 a2 a3 a4 a5 a6 a7 a8 a9 a10 => law16_LossWeights_fn' a1 a2 a3 a4 a5 a6 a7 a8 a9 a10
  | .no => none

@[reducible] def law16_LossWeights_post (h0 : AH) (r : law16_LossWeights_Res) (v : AV) (h' : AH) : Prop := v = .bool r ∧ Grow h0 h'

def law16_LossWeights_At (r : law16_LossWeights_Res) : law16_LossWeights_St → Prop
  | .fn a1 a2 a3 a4 a5 a6 a7 a8 a9 a10 => ∀ {h : AH}, Runs (go (.fn F.law16_LossWeights [.agg [.int .i64 a1, .int .i64 a2, .int .i64 a3, .int .i64 a4, .int .i64 a5, .int .i64 a6, .int .i64 a7, .int .i64 a8], .agg [.int .i64 a9, .int .i64 a10]]) h) (law16_LossWeights_post h r)
  | .no => True

theorem law16_LossWeights_fn_walk {r : law16_LossWeights_Res} {o : law16_LossWeights_St ⊕ law16_LossWeights_Res} {a1 : Int} {a2 : Int} {a3 : Int} {a4 : Int} {a5 : Int} {a6 : Int} {a7 : Int} {a8 : Int} {a9 : Int} {a10 : Int} (e : law16_LossWeights_fn' a1 a2 a3 a4 a5 a6 a7 a8 a9 a10 = some o) (good : GoodS (law16_LossWeights_At r) r o) : law16_LossWeights_At r (.fn a1 a2 a3 a4 a5 a6 a7 a8 a9 a10) := by
  intro h
  rw [u_law16_LossWeights]
  unfold law16_LossWeights_fn' at e
  refine Runs.new fun H11 b11 g11 => ?_
  refine Runs.new fun H12 b12 g12 => ?_
  obtain ⟨H13, e13, g13⟩ := awake_i
  refine Runs.step e13 ?_
  refine Runs.step (seen rfl) ?_
  refine Runs.step (AH.has.rd ((g12.trans g13).has b11) 0 rfl (avInt_int _ _)) ?_
  refine Runs.step (AH.has.rd ((g12.trans g13).has b11) 1 rfl (avInt_int _ _)) ?_
  refine Runs.step (AH.has.rd ((g12.trans g13).has b11) 2 rfl (avInt_int _ _)) ?_
  refine Runs.step (AH.has.rd ((g12.trans g13).has b11) 3 rfl (avInt_int _ _)) ?_
  refine Runs.step (AH.has.rd ((g12.trans g13).has b11) 4 rfl (avInt_int _ _)) ?_
  refine Runs.step (AH.has.rd ((g12.trans g13).has b11) 5 rfl (avInt_int _ _)) ?_
  refine Runs.step (AH.has.rd ((g12.trans g13).has b11) 6 rfl (avInt_int _ _)) ?_
  refine Runs.step (AH.has.rd ((g12.trans g13).has b11) 7 rfl (avInt_int _ _)) ?_
  refine Runs.step (AH.has.rd (g13.has b12) 0 rfl (avInt_int _ _)) ?_
  refine Runs.step (AH.has.rd (g13.has b12) 1 rfl (avInt_int _ _)) ?_
  obtain ⟨_, H14, e14, rfl, g14⟩ := loss_Weight_i a1 a2 a3 a4 a5 a6 a7 a8 a9 a10
  refine Runs.step e14 ?_
  refine Runs.step rfl ?_
  refine Runs.step (seen (avInt_int _ _)) ?_
  refine Runs.step (seen (avInt_int _ _)) ?_
  refine Runs.step (AH.has.rd (((g12.trans g13).trans g14).has b11) 0 rfl (avInt_int _ _)) ?_
  refine Runs.step (AH.has.rd (((g12.trans g13).trans g14).has b11) 1 rfl (avInt_int _ _)) ?_
  refine Runs.step (AH.has.rd (((g12.trans g13).trans g14).has b11) 2 rfl (avInt_int _ _)) ?_
  refine Runs.step (AH.has.rd (((g12.trans g13).trans g14).has b11) 3 rfl (avInt_int _ _)) ?_
  refine Runs.step (AH.has.rd (((g12.trans g13).trans g14).has b11) 4 rfl (avInt_int _ _)) ?_
  refine Runs.step (AH.has.rd (((g12.trans g13).trans g14).has b11) 5 rfl (avInt_int _ _)) ?_
  refine Runs.step (AH.has.rd (((g12.trans g13).trans g14).has b11) 6 rfl (avInt_int _ _)) ?_
  refine Runs.step (AH.has.rd (((g12.trans g13).trans g14).has b11) 7 rfl (avInt_int _ _)) ?_
  refine Runs.step (AH.has.rd ((g13.trans g14).has b12) 0 rfl (avInt_int _ _)) ?_
  refine Runs.step (AH.has.rd ((g13.trans g14).has b12) 1 rfl (avInt_int _ _)) ?_
  obtain ⟨_, H15, e15, rfl, g15⟩ := ref16_Weight_i a1 a2 a3 a4 a5 a6 a7 a8 a9 a10
  refine Runs.step e15 ?_
  refine Runs.step rfl ?_
  refine Runs.step (seen (avInt_int _ _)) ?_
  refine Runs.step (seen (avInt_int _ _)) ?_
  refine Runs.cond (fun k16 => ?_) (fun k16 => ?_)
  · replace e := (condT k16).symm.trans e
    refine Runs.cond (fun k17 => ?_) (fun k17 => ?_)
    · replace e := (condT k17).symm.trans e
      cases e
      cases good
      exact Runs.ret ⟨rfl, ((((g11.trans g12).trans g13).trans g14).trans g15)⟩
    · replace e := (condF k17).symm.trans e
      cases e
      cases good
      exact Runs.ret ⟨rfl, ((((g11.trans g12).trans g13).trans g14).trans g15)⟩
  · replace e := (condF k16).symm.trans e
    cases e
    cases good
    exact Runs.ret ⟨rfl, ((((g11.trans g12).trans g13).trans g14).trans g15)⟩

theorem law16_LossWeights_run {s : law16_LossWeights_St} {r : law16_LossWeights_Res} (it : Iter law16_LossWeights_step s r) : law16_LossWeights_At r s := Iter.ind (fun s o e good => by
  cases s with
  | fn a1 a2 a3 a4 a5 a6 a7 a8 a9 a10 => exact @law16_LossWeights_fn_walk _ _ a1 a2 a3 a4 a5 a6 a7 a8 a9 a10 e good
  | no => exact True.intro
  ) it

theorem law16_LossWeights_opt {h : AH}  {a1 : Int} {a2 : Int} {a3 : Int} {a4 : Int} {a5 : Int} {a6 : Int} {a7 : Int} {a8 : Int} {a9 : Int} {a10 : Int}  {r : law16_LossWeights_Res} (q : runP law16_LossWeights_step (.fn a1 a2 a3 a4 a5 a6 a7 a8 a9 a10) = some r) : Runs (go (.fn F.law16_LossWeights [.agg [.int .i64 a1, .int .i64 a2, .int .i64 a3, .int .i64 a4, .int .i64 a5, .int .i64 a6, .int .i64 a7, .int .i64 a8], .agg [.int .i64 a9, .int .i64 a10]]) h) (law16_LossWeights_post h r) := law16_LossWeights_run (runP_iter q) 

inductive law16_LossSigns_St
  | fn (a1 : Int) (a2 : Int) (a3 : Int) (a4 : Int) (a5 : Int) (a6 : Int) (a7 : Int) (a8 : Int) (a9 : Int) (a10 : Int)
  | no

abbrev law16_LossSigns_Res := Bool

noncomputable def law16_LossSigns_fn' (a1 : Int) (a2 : Int) (a3 : Int) (a4 : Int) (a5 : Int) (a6 : Int) (a7 : Int) (a8 : Int) (a9 : Int) (a10 : Int) : Option (law16_LossSigns_St ⊕ law16_LossSigns_Res) :=
  cond (!true) (some (.inr true)) (cond (!decide (((weightF a1 a2 a3 a4 a5 a6 a7 a8 a9 a10).2) = 0)) (some (.inr true)) (cond ((decide (((weightF a1 a2 a3 a4 a5 a6 a7 a8 a9 a10).1) < 0)) == (decide (a9 > 0))) (cond (decide (((weightF a1 a2 a3 a4 a5 a6 a7 a8 a9 a10).1) ≤ (imax 0 (IntKind.wrap .i64 (0 - a9))))) (some (.inr (decide (((weightF a1 a2 a3 a4 a5 a6 a7 a8 a9 a10).1) ≥ (imin 0 (IntKind.wrap .i64 (0 - a9))))))) (some (.inr false))) (some (.inr false))))

noncomputable def law16_LossSigns_step : law16_LossSigns_St → Option (law16_LossSigns_St ⊕ law16_LossSigns_Res)
  | .fn a1 a2 a3 a4 a5 a6 a7 a8 a9 a10 => law16_LossSigns_fn' a1 a2 a3 a4 a5 a6 a7 a8 a9 a10
  | .no => none

@[reducible] def law16_LossSigns_post (h0 : AH) (r : law16_LossSigns_Res) (v : AV) (h' : AH) : Prop := v = .bool r ∧ Grow h0 h'

def law16_LossSigns_At (r : law16_LossSigns_Res) : law16_LossSigns_St → Prop
  | .fn a1 a2 a3 a4 a5 a6 a7 a8 a9 a10 => ∀ {h : AH}, Runs (go (.fn F.law16_LossSigns [.agg [.int .i64 a1, .int .i64 a2, .int .i64 a3, .int .i64 a4, .int .i64 a5, .int .i64 a6, .int .i64 a7, .int .i64 a8], .agg [.int .i64 a9, .int .i64 a10]]) h) (law16_LossSigns_post h r)
  | .no => True

theorem law16_LossSigns_fn_walk {r : law16_LossSigns_Res} {o : law16_LossSigns_St ⊕ law16_LossSigns_Res} {a1 : Int} {a2 : Int} {a3 : Int} {a4 : Int} {a5 : Int} {a6 : Int} {a7 : Int} {a8 : Int} {a9 : Int} {a10 : Int} (e : law16_LossSigns_fn' a1 a2 a3 a4 a5 a6 a7 a8 a9 a10 = some o) (good : GoodS (law16_LossSigns_At r) r o) : law16_LossSigns_At r (.fn a1 a2 a3 a4 a5 a6 a7 a8 a9 a10) := by
  intro h
  rw [u_law16_LossSigns]
  unfold law16_LossSigns_fn' at e
  refine Runs.new fun H11 b11 g11 => ?_
  refine Runs.new fun H12 b12 g12 => ?_
  obtain ⟨H13, e13, g13⟩ := awake_i
  refine Runs.step e13 ?_
  refine Runs.step (seen rfl) ?_
  refine Runs.step (AH.has.rd ((g12.trans g13).has b11) 0 rfl (avInt_int _ _)) ?_
  refine Runs.step (AH.has.rd ((g12.trans g13).has b11) 1 rfl (avInt_int _ _)) ?_
  refine Runs.step (AH.has.rd ((g12.trans g13).has b11) 2 rfl (avInt_int _ _)) ?_
  refine Runs.step (AH.has.rd ((g12.trans g13).has b11) 3 rfl (avInt_int _ _)) ?_
  refine Runs.step (AH.has.rd ((g12.trans g13).has b11) 4 rfl (avInt_int _ _)) ?_
  refine Runs.step (AH.has.rd ((g12.trans g13).has b11) 5 rfl (avInt_int _ _)) ?_
  refine Runs.step (AH.has.rd ((g12.trans g13).has b11) 6 rfl (avInt_int _ _)) ?_
  refine Runs.step (AH.has.rd ((g12.trans g13).has b11) 7 rfl (avInt_int _ _)) ?_
  refine Runs.step (AH.has.rd (g13.has b12) 0 rfl (avInt_int _ _)) ?_
  refine Runs.step (AH.has.rd (g13.has b12) 1 rfl (avInt_int _ _)) ?_
  obtain ⟨_, H14, e14, rfl, g14⟩ := loss_Weight_i a1 a2 a3 a4 a5 a6 a7 a8 a9 a10
  refine Runs.step e14 ?_
  refine Runs.step rfl ?_
  refine Runs.step (seen (avInt_int _ _)) ?_
  refine Runs.step (seen (avInt_int _ _)) ?_
  refine Runs.cond (fun k15 => ?_) (fun k15 => ?_)
  · replace e := (condT k15).symm.trans e
    cases e
    cases good
    exact Runs.ret ⟨rfl, (((g11.trans g12).trans g13).trans g14)⟩
  · replace e := (condF k15).symm.trans e
    refine Runs.cond (fun k16 => ?_) (fun k16 => ?_)
    · replace e := (condT k16).symm.trans e
      cases e
      cases good
      exact Runs.ret ⟨rfl, (((g11.trans g12).trans g13).trans g14)⟩
    · replace e := (condF k16).symm.trans e
      refine Runs.step (AH.has.rd ((g13.trans g14).has b12) 0 rfl (avInt_int _ _)) ?_
      refine Runs.cond (fun k17 => ?_) (fun k17 => ?_)
      · replace e := (condT k17).symm.trans e
        refine Runs.step (AH.has.rd ((g13.trans g14).has b12) 0 rfl (avInt_int _ _)) ?_
        refine Runs.cond (fun k18 => ?_) (fun k18 => ?_)
        · replace e := (condT k18).symm.trans e
          refine Runs.step (AH.has.rd ((g13.trans g14).has b12) 0 rfl (avInt_int _ _)) ?_
          cases e
          cases good
          exact Runs.ret ⟨rfl, (((g11.trans g12).trans g13).trans g14)⟩
        · replace e := (condF k18).symm.trans e
          cases e
          cases good
          exact Runs.ret ⟨rfl, (((g11.trans g12).trans g13).trans g14)⟩
      · replace e := (condF k17).symm.trans e
        cases e
        cases good
        exact Runs.ret ⟨rfl, (((g11.trans g12).trans g13).trans g14)⟩

theorem law16_LossSigns_run {s : law16_LossSigns_St} {r : law16_LossSigns_Res} (it : Iter law16_LossSigns_step s r) : law16_LossSigns_At r s := Iter.ind (fun s o e good => by
  cases s with
  | fn a1 a2 a3 a4 a5 a6 a7 a8 a9 a10 => exact @law16_LossSigns_fn_walk _ _ a1 a2 a3 a4 a5 a6 a7 a8 a9 a10 e good
  | no => exact True.intro
  ) it

theorem law16_LossSigns_opt {h : AH}  {a1 : Int} {a2 : Int} {a3 : Int} {a4 : Int} {a5 : Int} {a6 : Int} {a7 : Int} {a8 : Int} {a9 : Int} {a10 : Int}  {r : law16_LossSigns_Res} (q : runP law16_LossSigns_step (.fn a1 a2 a3 a4 a5 a6 a7 a8 a9 a10) = some r) : Runs (go (.fn F.law16_LossSigns [.agg [.int .i64 a1, .int .i64 a2, .int .i64 a3, .int .i64 a4, .int .i64 a5, .int .i64 a6, .int .i64 a7, .int .i64 a8], .agg [.int .i64 a9, .int .i64 a10]]) h) (law16_LossSigns_post h r) := law16_LossSigns_run (runP_iter q) 

end Go.Ab

/- Layer 16: the laws of Weight. -/
set_option linter.unusedVariables false
set_option linter.unusedSimpArgs false
set_option maxRecDepth 10000
namespace Go.Ab
open Go.Proofs Go.Num

theorem LossWeights_iter (a1 a2 a3 a4 a5 a6 a7 a8 a9 a10 : Int) : Iter law16_LossWeights_step (.fn a1 a2 a3 a4 a5 a6 a7 a8 a9 a10) true := by
  refine .done ?_
  show law16_LossWeights_fn' _ _ _ _ _ _ _ _ _ _ = _
  unfold law16_LossWeights_fn'
  simp

theorem sum_of_arg {h : AH} {x : AV} (a : ArgV Pg h T.api_Sum x) : ∃ m n, x = .agg [.int .i64 m, .int .i64 n] := by
  unfold ArgV at a
  rw [und_api_Sum] at a
  obtain ⟨cs, rfl, t⟩ := a
  obtain ⟨hl, hf⟩ := t.struct und_api_Sum
  rw [cells_api_Sum] at hl
  match cs, hl with
  | [x0, x1], _ =>
    simp [cells_int] at hf
    obtain ⟨h0, h1⟩ := hf
    obtain ⟨m, e0, _⟩ := h0.int und_int
    obtain ⟨n, e1, _⟩ := h1.int und_int
    cases e0; cases e1
    exact ⟨m, n, rfl⟩

theorem LossWeights_law (h : AH) {x0 x1 : AV} (z0 : ArgV Pg h T.api_Config x0) (z1 : ArgV Pg h T.api_Sum x1) : ∃ h', go (.fn F.law16_LossWeights [x0, x1]) h = some (.bool true, h') := by
  obtain ⟨⟨a1, a2, a3, a4, a5, a6, a7, a8⟩, rfl⟩ := Cfg.of_arg z0
  obtain ⟨m, n, rfl⟩ := sum_of_arg z1
  obtain ⟨_, h', e, rfl, _⟩ := law16_LossWeights_run (LossWeights_iter a1 a2 a3 a4 a5 a6 a7 a8 m n) (h := h)
  exact ⟨h', e⟩

theorem weight_signs {g n d l hh : Int} (n1 : 1 ≤ n) (n2 : n ≤ d) (l1 : 1 ≤ l) (h1 : 0 ≤ hh) : ((-g * n) / ((hh + l) * d) < 0 ↔ g > 0) ∧ (-g * n) / ((hh + l) * d) ≤ max 0 (-g) ∧ (-g * n) / ((hh + l) * d) ≥ min 0 (-g) := by
  have hD : 0 < (hh + l) * d := Int.mul_pos (by omega) (by omega)
  have hnD : n ≤ (hh + l) * d := by
    have : 1 * d ≤ (hh + l) * d := Int.mul_le_mul_of_nonneg_right (by omega) (by omega)
    omega
  generalize (hh + l) * d = D at *
  rcases Int.lt_trichotomy g 0 with hg | hg | hg
  · have hp : 0 ≤ -g * n := Int.mul_nonneg (by omega) (by omega)
    have h2 : 0 ≤ -g * n / D := Int.ediv_nonneg hp (by omega)
    have h3 : -g * n / D ≤ -g := by
      have : -g * n ≤ -g * D := Int.mul_le_mul_of_nonneg_left hnD (by omega)
      exact Int.le_of_lt_add_one ((Int.ediv_lt_iff_lt_mul hD).2 (by rw [Int.add_mul, Int.one_mul]; omega))
    omega
  · subst hg
    simp
  · have hp : -g * n < 0 := by
      have := Int.mul_pos hg (show 0 < n by omega)
      rw [Int.neg_mul]
      omega
    have h2 : -g * n / D < 0 := Int.ediv_neg_of_neg_of_pos hp hD
    have h3 : -g ≤ -g * n / D := by
      rw [Int.le_ediv_iff_mul_le hD]
      have : g * n ≤ g * D := Int.mul_le_mul_of_nonneg_left hnD (by omega)
      rw [Int.neg_mul, Int.neg_mul]
      omega
    omega

theorem LossSigns_iter (a1 a2 a3 a4 a5 a6 a7 a8 a9 a10 : Int) : Iter law16_LossSigns_step (.fn a1 a2 a3 a4 a5 a6 a7 a8 a9 a10) true := by
  refine .done ?_
  show law16_LossSigns_fn' _ _ _ _ _ _ _ _ _ _ = _
  unfold law16_LossSigns_fn' weightF
  cases hr : (Cfg.right ⟨a1, a2, a3, a4, a5, a6, a7, a8⟩ && decide (-1099511627776 ≤ a9 ∧ a9 ≤ 1099511627776 ∧ 0 ≤ a10 ∧ a10 ≤ 1048576)) with
  | false => rfl
  | true =>
    rw [Bool.and_eq_true, decide_eq_true_eq] at hr
    obtain ⟨hr, g1, g2, h1, h2⟩ := hr
    obtain ⟨l1, l2, d1, d2, n1, n2⟩ := Cfg.right_parts hr
    dsimp only at l1 l2 d1 d2 n1 n2
    obtain ⟨k1, k2, k3⟩ := weight_signs (g := a9) (n := a5) (d := a6) (l := a3) (hh := a10) n1 n2 l1 h1
    have hw : IntKind.wrap .i64 (0 - a9) = -a9 := by rw [wrap64 (by omega) (by omega)]; omega
    simp only [cond_true]
    generalize -a9 * a5 / ((a10 + a3) * a6) = w at *
    simp only [hw, imax_eq, imin_eq]
    have b1 : (decide (w < 0) == decide (a9 > 0)) = true := by
      by_cases c1 : w < 0
      · have c2 := k1.1 c1
        simp only [c1, c2, decide_true, beq_self_eq_true]
      · have c2 : ¬ a9 > 0 := fun h => c1 (k1.2 h)
        simp only [c1, c2, decide_false, beq_self_eq_true]
    rw [condF (show (!true) = false from rfl), condF (by simp), b1, cond_true, condT (decide_eq_true k2), decide_eq_true k3]

theorem LossSigns_law (h : AH) {x0 x1 : AV} (z0 : ArgV Pg h T.api_Config x0) (z1 : ArgV Pg h T.api_Sum x1) : ∃ h', go (.fn F.law16_LossSigns [x0, x1]) h = some (.bool true, h') := by
  obtain ⟨⟨a1, a2, a3, a4, a5, a6, a7, a8⟩, rfl⟩ := Cfg.of_arg z0
  obtain ⟨m, n, rfl⟩ := sum_of_arg z1
  obtain ⟨_, h', e, rfl, _⟩ := law16_LossSigns_run (LossSigns_iter a1 a2 a3 a4 a5 a6 a7 a8 m n) (h := h)
  exact ⟨h', e⟩

end Go.Ab
