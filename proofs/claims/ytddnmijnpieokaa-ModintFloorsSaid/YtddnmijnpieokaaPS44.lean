/- Layer 3: laws of Gcd, Floor: printed by wip/tools/walk.py. -/
import Derived.Test.YtddnmijnpieokaaPS38a

set_option linter.unusedVariables false
set_option linter.unusedSimpArgs false
set_option maxRecDepth 10000
namespace Go.Ab
open Go.Proofs Go.Num

inductive law03_ModintGcds_St
  | fn (x1 : List Nat) (x2 : List Nat)
  | no

abbrev law03_ModintGcds_Res := Bool

noncomputable def law03_ModintGcds_fn' (x1 : List Nat) (x2 : List Nat) : Option (law03_ModintGcds_St ⊕ law03_ModintGcds_Res) :=
  cond (!((decide (List.length x1 ≤ 20) && decide (List.length x2 ≤ 20)))) (some (.inr true)) ((u64P 1).bind fun w10 => cond (true) (cond (decide (((gcdN x1 x2).2) = ((gcdN x1 x2).2))) (some (.inr (decide ((List.length ((gcdN [w10] []).1) : Int) = 1)))) (some (.inr false))) (some (.inr false)))

noncomputable def law03_ModintGcds_step : law03_ModintGcds_St → Option (law03_ModintGcds_St ⊕ law03_ModintGcds_Res)
  | .fn x1 x2 => law03_ModintGcds_fn' x1 x2
  | .no => none

@[reducible] def law03_ModintGcds_post (h0 : AH) (r : law03_ModintGcds_Res) (v : AV) (h' : AH) : Prop := v = .bool r ∧ Grow h0 h'

def law03_ModintGcds_At (r : law03_ModintGcds_Res) : law03_ModintGcds_St → Prop
  | .fn x1 x2 => ∀ {h : AH} {a1 : Sl} {a2 : Sl}, Nats h a1 x1 → Nats h a2 x2 → Runs (go (.fn F.law03_ModintGcds [a1.v, a2.v]) h) (law03_ModintGcds_post h r)
  | .no => True

theorem law03_ModintGcds_fn_walk {r : law03_ModintGcds_Res} {o : law03_ModintGcds_St ⊕ law03_ModintGcds_Res} {x1 : List Nat} {x2 : List Nat} (e : law03_ModintGcds_fn' x1 x2 = some o) (good : GoodS (law03_ModintGcds_At r) r o) : law03_ModintGcds_At r (.fn x1 x2) := by
  intro h a1 a2 n1 n2
  rw [u_law03_ModintGcds]
  unfold law03_ModintGcds_fn' at e
  refine Runs.new fun H3 b3 g3 => ?_
  refine Runs.step (short2_spec b3 (n1.grow g3) (n2.grow g3)) ?_
  refine Runs.step (seen rfl) ?_
  refine Runs.cond (fun k5 => ?_) (fun k5 => ?_)
  · replace e := (condT k5).symm.trans e
    cases e
    cases good
    exact Runs.ret ⟨rfl, g3⟩
  · replace e := (condF k5).symm.trans e
    obtain ⟨_, H6, e6, s6, rfl, n6, g6, o6⟩ := modint_Gcd_spec (n1.grow g3) (n2.grow g3)
    refine Runs.step e6 ?_
    refine Runs.step rfl ?_
    refine Runs.step (seen (asSl_v _)) ?_
    refine Runs.step (seen (avInt_int _ _)) ?_
    obtain ⟨_, H7, e7, s7, rfl, n7, g7, o7⟩ := ref03_Gcd_spec (n1.grow (g3.trans g6)) (n2.grow (g3.trans g6))
    refine Runs.step e7 ?_
    refine Runs.step rfl ?_
    refine Runs.step (seen (asSl_v _)) ?_
    refine Runs.step (seen (avInt_int _ _)) ?_
    refine Runs.step (ref01_Same_spec (n6.grow g7) n7) ?_
    refine Runs.step (seen rfl) ?_
    refine Runs.new fun H9 b9 g9 => ?_
    obtain ⟨w10, z10, e⟩ := Option.bind_eq_some_iff.1 e
    obtain ⟨_, H11, e11, s11, rfl, n11, g11, o11⟩ := modint_Gcd_spec (Nats.of_has1 b9 z10) (Nats.nil _)
    refine Runs.step e11 ?_
    refine Runs.step rfl ?_
    refine Runs.step (seen (asSl_v _)) ?_
    rw [n11.len]
    refine Runs.step (seen (avInt_int _ _)) ?_
    refine Runs.cond (fun k12 => ?_) (fun k12 => ?_)
    · replace e := (condT k12).symm.trans e
      refine Runs.cond (fun k13 => ?_) (fun k13 => ?_)
      · replace e := (condT k13).symm.trans e
        cases e
        cases good
        exact Runs.ret ⟨rfl, ((((g3.trans g6).trans g7).trans g9).trans g11)⟩
      · replace e := (condF k13).symm.trans e
        cases e
        cases good
        exact Runs.ret ⟨rfl, ((((g3.trans g6).trans g7).trans g9).trans g11)⟩
    · replace e := (condF k12).symm.trans e
      cases e
      cases good
      exact Runs.ret ⟨rfl, ((((g3.trans g6).trans g7).trans g9).trans g11)⟩

theorem law03_ModintGcds_run {s : law03_ModintGcds_St} {r : law03_ModintGcds_Res} (it : Iter law03_ModintGcds_step s r) : law03_ModintGcds_At r s := Iter.ind (fun s o e good => by
  cases s with
  | fn x1 x2 => exact @law03_ModintGcds_fn_walk _ _ x1 x2 e good
  | no => exact True.intro
  ) it

theorem law03_ModintGcds_opt {h : AH} {a1 : Sl} {a2 : Sl} {x1 : List Nat} {x2 : List Nat} (n1 : Nats h a1 x1) (n2 : Nats h a2 x2) {r : law03_ModintGcds_Res} (q : runP law03_ModintGcds_step (.fn x1 x2) = some r) : Runs (go (.fn F.law03_ModintGcds [a1.v, a2.v]) h) (law03_ModintGcds_post h r) := law03_ModintGcds_run (runP_iter q) n1 n2

inductive law03_ModintFloors_St
  | fn (a1 : Bool) (x2 : List Nat) (a3 : Bool) (x4 : List Nat)
  | no

abbrev law03_ModintFloors_Res := Bool

noncomputable def law03_ModintFloors_fn' (a1 : Bool) (x2 : List Nat) (a3 : Bool) (x4 : List Nat) : Option (law03_ModintFloors_St ⊕ law03_ModintFloors_Res) :=
  cond (!((decide (List.length x2 ≤ 70) && decide (List.length x4 ≤ 70)))) (some (.inr true)) ((u64P 1).bind fun w24 => (u64P 1).bind fun w25 => cond (true) (cond (true) (cond (decide (((floorI a1 x2 a3 x4).2.2.2.2) = ((floorI a1 x2 a3 x4).2.2.2.2))) (some (.inr (decide ((List.length ((floorI false [w24] false [w25]).2.1) : Int) = 1)))) (some (.inr false))) (some (.inr false))) (some (.inr false)))

noncomputable def law03_ModintFloors_step : law03_ModintFloors_St → Option (law03_ModintFloors_St ⊕ law03_ModintFloors_Res)
  | .fn a1 x2 a3 x4 => law03_ModintFloors_fn' a1 x2 a3 x4
  | .no => none

@[reducible] def law03_ModintFloors_post (h0 : AH) (r : law03_ModintFloors_Res) (v : AV) (h' : AH) : Prop := v = .bool r ∧ Grow h0 h'

def law03_ModintFloors_At (r : law03_ModintFloors_Res) : law03_ModintFloors_St → Prop
  | .fn a1 x2 a3 x4 => ∀ {h : AH} {a2 : Sl} {a4 : Sl}, Nats h a2 x2 → Nats h a4 x4 → Runs (go (.fn F.law03_ModintFloors [.agg [.bool a1, a2.v], .agg [.bool a3, a4.v]]) h) (law03_ModintFloors_post h r)
  | .no => True

theorem law03_ModintFloors_fn_walk {r : law03_ModintFloors_Res} {o : law03_ModintFloors_St ⊕ law03_ModintFloors_Res} {a1 : Bool} {x2 : List Nat} {a3 : Bool} {x4 : List Nat} (e : law03_ModintFloors_fn' a1 x2 a3 x4 = some o) (good : GoodS (law03_ModintFloors_At r) r o) : law03_ModintFloors_At r (.fn a1 x2 a3 x4) := by
  intro h a2 a4 n2 n4
  rw [u_law03_ModintFloors]
  unfold law03_ModintFloors_fn' at e
  refine Runs.new fun H5 b5 g5 => ?_
  refine Runs.new fun H6 b6 g6 => ?_
  refine Runs.step (AH.has.rd (g6.has b5) 1 rfl (asSl_v _)) ?_
  refine Runs.step (AH.has.rd b6 1 rfl (asSl_v _)) ?_
  refine Runs.new fun H7 b7 g7 => ?_
  refine Runs.step (few2_spec b7 (n2.grow ((g5.trans g6).trans g7)) (n4.grow ((g5.trans g6).trans g7))) ?_
  refine Runs.step (seen rfl) ?_
  refine Runs.cond (fun k9 => ?_) (fun k9 => ?_)
  · replace e := (condT k9).symm.trans e
    cases e
    cases good
    exact Runs.ret ⟨rfl, ((g5.trans g6).trans g7)⟩
  · replace e := (condF k9).symm.trans e
    refine Runs.step (AH.has.rd ((g6.trans g7).has b5) 0 rfl rfl) ?_
    refine Runs.step (AH.has.rd ((g6.trans g7).has b5) 1 rfl (asSl_v _)) ?_
    refine Runs.step (AH.has.rd (g7.has b6) 0 rfl rfl) ?_
    refine Runs.step (AH.has.rd (g7.has b6) 1 rfl (asSl_v _)) ?_
    obtain ⟨_, H10, e10, s10, s10b, rfl, n10, n10b, g10, o10, o10b⟩ := modint_Floor_spec (n2.grow ((g5.trans g6).trans g7)) (n4.grow ((g5.trans g6).trans g7)) a1 a3
    refine Runs.step e10 ?_
    refine Runs.step rfl ?_
    refine Runs.step rfl ?_
    refine Runs.ifT rfl ?_
    refine Runs.step (seenAt rfl rfl) ?_
    refine Runs.step (seenAt rfl (asSl_v _)) ?_
    refine Runs.step rfl ?_
    refine Runs.ifT rfl ?_
    refine Runs.step (seenAt rfl rfl) ?_
    refine Runs.step (seenAt rfl (asSl_v _)) ?_
    refine Runs.step (seen (avInt_int _ _)) ?_
    refine Runs.new fun H11 b11 g11 => ?_
    refine Runs.new fun H12 b12 g12 => ?_
    refine Runs.puts (g12.has b11) rfl fun H13 b13 u13 => ?_
    have b12_13 := AH.has.updr b12 (Nat.ne_of_gt (Nat.lt_of_lt_of_le (b11).lt (Nat.le_refl _))) u13
    refine Runs.puts b12_13 rfl fun H14 b14 u14 => ?_
    have b13_14 := AH.has.updr b13 (Nat.ne_of_lt (Nat.lt_of_lt_of_le (b11).lt (Nat.le_refl _))) u14
    refine Runs.step (AH.has.rd (((((((g6.trans g7).trans g10).trans g11).trans g12).updr (Nat.le_trans (((g6.trans g7).trans g10)).size (Nat.le_refl _)) u13).updr (Nat.le_trans ((((g6.trans g7).trans g10).trans g11)).size (Nat.le_refl _)) u14).has b5) 0 rfl rfl) ?_
    refine Runs.step (AH.has.rd (((((((g6.trans g7).trans g10).trans g11).trans g12).updr (Nat.le_trans (((g6.trans g7).trans g10)).size (Nat.le_refl _)) u13).updr (Nat.le_trans ((((g6.trans g7).trans g10).trans g11)).size (Nat.le_refl _)) u14).has b5) 1 rfl (asSl_v _)) ?_
    refine Runs.step (AH.has.rd ((((((g7.trans g10).trans g11).trans g12).updr (Nat.le_trans ((g7.trans g10)).size (Nat.le_refl _)) u13).updr (Nat.le_trans (((g7.trans g10).trans g11)).size (Nat.le_refl _)) u14).has b6) 0 rfl rfl) ?_
    refine Runs.step (AH.has.rd ((((((g7.trans g10).trans g11).trans g12).updr (Nat.le_trans ((g7.trans g10)).size (Nat.le_refl _)) u13).updr (Nat.le_trans (((g7.trans g10).trans g11)).size (Nat.le_refl _)) u14).has b6) 1 rfl (asSl_v _)) ?_
    obtain ⟨_, H15, e15, s15, s15b, rfl, n15, n15b, g15, o15, o15b⟩ := ref03_Floor_spec (n2.grow (((((((g5.trans g6).trans g7).trans g10).trans g11).trans g12).updr (Nat.le_trans ((((g5.trans g6).trans g7).trans g10)).size (Nat.le_refl _)) u13).updr (Nat.le_trans (((((g5.trans g6).trans g7).trans g10).trans g11)).size (Nat.le_refl _)) u14)) (n4.grow (((((((g5.trans g6).trans g7).trans g10).trans g11).trans g12).updr (Nat.le_trans ((((g5.trans g6).trans g7).trans g10)).size (Nat.le_refl _)) u13).updr (Nat.le_trans (((((g5.trans g6).trans g7).trans g10).trans g11)).size (Nat.le_refl _)) u14)) a1 a3
    refine Runs.step e15 ?_
    refine Runs.step rfl ?_
    refine Runs.step rfl ?_
    refine Runs.ifT rfl ?_
    refine Runs.step (seenAt rfl rfl) ?_
    refine Runs.step (seenAt rfl (asSl_v _)) ?_
    refine Runs.step rfl ?_
    refine Runs.ifT rfl ?_
    refine Runs.step (seenAt rfl rfl) ?_
    refine Runs.step (seenAt rfl (asSl_v _)) ?_
    refine Runs.step (seen (avInt_int _ _)) ?_
    refine Runs.new fun H16 b16 g16 => ?_
    refine Runs.new fun H17 b17 g17 => ?_
    refine Runs.puts (g17.has b16) rfl fun H18 b18 u18 => ?_
    have b17_18 := AH.has.updr b17 (Nat.ne_of_gt (Nat.lt_of_lt_of_le (b16).lt (Nat.le_refl _))) u18
    refine Runs.puts b17_18 rfl fun H19 b19 u19 => ?_
    have b18_19 := AH.has.updr b18 (Nat.ne_of_lt (Nat.lt_of_lt_of_le (b16).lt (Nat.le_refl _))) u19
    refine Runs.step (AH.has.rd (((((g15.trans g16).trans g17).updr (Nat.le_trans (g15).size (Nat.le_refl _)) u18).updr (Nat.le_trans ((g15.trans g16)).size (Nat.le_refl _)) u19).has b13_14) 0 rfl rfl) ?_
    refine Runs.step (AH.has.rd (((((g15.trans g16).trans g17).updr (Nat.le_trans (g15).size (Nat.le_refl _)) u18).updr (Nat.le_trans ((g15.trans g16)).size (Nat.le_refl _)) u19).has b13_14) 1 rfl (asSl_v _)) ?_
    refine Runs.step (AH.has.rd b18_19 0 rfl rfl) ?_
    refine Runs.step (AH.has.rd b18_19 1 rfl (asSl_v _)) ?_
    obtain ⟨H20, e20, g20⟩ := ref03_Same_spec (n10.grow ((((((((g11.trans g12).updr (Nat.le_refl _) u13).updr (Nat.le_trans (g11).size (Nat.le_refl _)) u14).trans g15).trans g16).trans g17).updr (Nat.le_trans (((((g11.trans g12).updr (Nat.le_refl _) u13).updr (Nat.le_trans (g11).size (Nat.le_refl _)) u14).trans g15)).size (Nat.le_refl _)) u18).updr (Nat.le_trans ((((((g11.trans g12).updr (Nat.le_refl _) u13).updr (Nat.le_trans (g11).size (Nat.le_refl _)) u14).trans g15).trans g16)).size (Nat.le_refl _)) u19)) (n15.grow (((g16.trans g17).updr (Nat.le_refl _) u18).updr (Nat.le_trans (g16).size (Nat.le_refl _)) u19)) (((floorI a1 x2 a3 x4).1))
    refine Runs.step e20 ?_
    refine Runs.step (seen rfl) ?_
    refine Runs.step (AH.has.rd ((((((g15.trans g16).trans g17).updr (Nat.le_trans (g15).size (Nat.le_refl _)) u18).updr (Nat.le_trans ((g15.trans g16)).size (Nat.le_refl _)) u19).trans g20).has b14) 0 rfl rfl) ?_
    refine Runs.step (AH.has.rd ((((((g15.trans g16).trans g17).updr (Nat.le_trans (g15).size (Nat.le_refl _)) u18).updr (Nat.le_trans ((g15.trans g16)).size (Nat.le_refl _)) u19).trans g20).has b14) 1 rfl (asSl_v _)) ?_
    refine Runs.step (AH.has.rd (g20.has b19) 0 rfl rfl) ?_
    refine Runs.step (AH.has.rd (g20.has b19) 1 rfl (asSl_v _)) ?_
    obtain ⟨H21, e21, g21⟩ := ref03_Same_spec (n10b.grow (((((((((g11.trans g12).updr (Nat.le_refl _) u13).updr (Nat.le_trans (g11).size (Nat.le_refl _)) u14).trans g15).trans g16).trans g17).updr (Nat.le_trans (((((g11.trans g12).updr (Nat.le_refl _) u13).updr (Nat.le_trans (g11).size (Nat.le_refl _)) u14).trans g15)).size (Nat.le_refl _)) u18).updr (Nat.le_trans ((((((g11.trans g12).updr (Nat.le_refl _) u13).updr (Nat.le_trans (g11).size (Nat.le_refl _)) u14).trans g15).trans g16)).size (Nat.le_refl _)) u19).trans g20)) (n15b.grow ((((g16.trans g17).updr (Nat.le_refl _) u18).updr (Nat.le_trans (g16).size (Nat.le_refl _)) u19).trans g20)) (((floorI a1 x2 a3 x4).2.2.1))
    refine Runs.step e21 ?_
    refine Runs.step (seen rfl) ?_
    refine Runs.new fun H22 b22 g22 => ?_
    refine Runs.new fun H23 b23 g23 => ?_
    obtain ⟨w24, z24, e⟩ := Option.bind_eq_some_iff.1 e
    obtain ⟨w25, z25, e⟩ := Option.bind_eq_some_iff.1 e
    obtain ⟨_, H26, e26, s26, s26b, rfl, n26, n26b, g26, o26, o26b⟩ := modint_Floor_spec (Nats.of_has1 (g23.has b22) z24) (Nats.of_has1 b23 z25) false false
    refine Runs.step e26 ?_
    refine Runs.step rfl ?_
    refine Runs.step rfl ?_
    refine Runs.ifT rfl ?_
    refine Runs.step (seenAt rfl rfl) ?_
    refine Runs.step (seenAt rfl (asSl_v _)) ?_
    refine Runs.step rfl ?_
    refine Runs.ifT rfl ?_
    refine Runs.step (seenAt rfl rfl) ?_
    refine Runs.step (seenAt rfl (asSl_v _)) ?_
    refine Runs.step (seen (avInt_int _ _)) ?_
    refine Runs.new fun H27 b27 g27 => ?_
    refine Runs.new fun H28 b28 g28 => ?_
    refine Runs.puts (g28.has b27) rfl fun H29 b29 u29 => ?_
    have b28_29 := AH.has.updr b28 (Nat.ne_of_gt (Nat.lt_of_lt_of_le (b27).lt (Nat.le_refl _))) u29
    refine Runs.puts b28_29 rfl fun H30 b30 u30 => ?_
    have b29_30 := AH.has.updr b29 (Nat.ne_of_lt (Nat.lt_of_lt_of_le (b27).lt (Nat.le_refl _))) u30
    refine Runs.cond (fun k31 => ?_) (fun k31 => ?_)
    · replace e := (condT k31).symm.trans e
      refine Runs.cond (fun k32 => ?_) (fun k32 => ?_)
      · replace e := (condT k32).symm.trans e
        refine Runs.cond (fun k33 => ?_) (fun k33 => ?_)
        · replace e := (condT k33).symm.trans e
          refine Runs.step (AH.has.rd b29_30 1 rfl (asSl_v _)) ?_
          rw [(n26.grow (((g27.trans g28).updr (Nat.le_refl _) u29).updr (Nat.le_trans (g27).size (Nat.le_refl _)) u30)).len]
          cases e
          cases good
          exact Runs.ret ⟨rfl, (((((((((((((((((((((g5.trans g6).trans g7).trans g10).trans g11).trans g12).updr (Nat.le_trans ((((g5.trans g6).trans g7).trans g10)).size (Nat.le_refl _)) u13).updr (Nat.le_trans (((((g5.trans g6).trans g7).trans g10).trans g11)).size (Nat.le_refl _)) u14).trans g15).trans g16).trans g17).updr (Nat.le_trans (((((((((g5.trans g6).trans g7).trans g10).trans g11).trans g12).updr (Nat.le_trans ((((g5.trans g6).trans g7).trans g10)).size (Nat.le_refl _)) u13).updr (Nat.le_trans (((((g5.trans g6).trans g7).trans g10).trans g11)).size (Nat.le_refl _)) u14).trans g15)).size (Nat.le_refl _)) u18).updr (Nat.le_trans ((((((((((g5.trans g6).trans g7).trans g10).trans g11).trans g12).updr (Nat.le_trans ((((g5.trans g6).trans g7).trans g10)).size (Nat.le_refl _)) u13).updr (Nat.le_trans (((((g5.trans g6).trans g7).trans g10).trans g11)).size (Nat.le_refl _)) u14).trans g15).trans g16)).size (Nat.le_refl _)) u19).trans g20).trans g21).trans g22).trans g23).trans g26).trans g27).trans g28).updr (Nat.le_trans ((((((((((((((((((g5.trans g6).trans g7).trans g10).trans g11).trans g12).updr (Nat.le_trans ((((g5.trans g6).trans g7).trans g10)).size (Nat.le_refl _)) u13).updr (Nat.le_trans (((((g5.trans g6).trans g7).trans g10).trans g11)).size (Nat.le_refl _)) u14).trans g15).trans g16).trans g17).updr (Nat.le_trans (((((((((g5.trans g6).trans g7).trans g10).trans g11).trans g12).updr (Nat.le_trans ((((g5.trans g6).trans g7).trans g10)).size (Nat.le_refl _)) u13).updr (Nat.le_trans (((((g5.trans g6).trans g7).trans g10).trans g11)).size (Nat.le_refl _)) u14).trans g15)).size (Nat.le_refl _)) u18).updr (Nat.le_trans ((((((((((g5.trans g6).trans g7).trans g10).trans g11).trans g12).updr (Nat.le_trans ((((g5.trans g6).trans g7).trans g10)).size (Nat.le_refl _)) u13).updr (Nat.le_trans (((((g5.trans g6).trans g7).trans g10).trans g11)).size (Nat.le_refl _)) u14).trans g15).trans g16)).size (Nat.le_refl _)) u19).trans g20).trans g21).trans g22).trans g23).trans g26)).size (Nat.le_refl _)) u29).updr (Nat.le_trans (((((((((((((((((((g5.trans g6).trans g7).trans g10).trans g11).trans g12).updr (Nat.le_trans ((((g5.trans g6).trans g7).trans g10)).size (Nat.le_refl _)) u13).updr (Nat.le_trans (((((g5.trans g6).trans g7).trans g10).trans g11)).size (Nat.le_refl _)) u14).trans g15).trans g16).trans g17).updr (Nat.le_trans (((((((((g5.trans g6).trans g7).trans g10).trans g11).trans g12).updr (Nat.le_trans ((((g5.trans g6).trans g7).trans g10)).size (Nat.le_refl _)) u13).updr (Nat.le_trans (((((g5.trans g6).trans g7).trans g10).trans g11)).size (Nat.le_refl _)) u14).trans g15)).size (Nat.le_refl _)) u18).updr (Nat.le_trans ((((((((((g5.trans g6).trans g7).trans g10).trans g11).trans g12).updr (Nat.le_trans ((((g5.trans g6).trans g7).trans g10)).size (Nat.le_refl _)) u13).updr (Nat.le_trans (((((g5.trans g6).trans g7).trans g10).trans g11)).size (Nat.le_refl _)) u14).trans g15).trans g16)).size (Nat.le_refl _)) u19).trans g20).trans g21).trans g22).trans g23).trans g26).trans g27)).size (Nat.le_refl _)) u30)⟩
        · replace e := (condF k33).symm.trans e
          cases e
          cases good
          exact Runs.ret ⟨rfl, (((((((((((((((((((((g5.trans g6).trans g7).trans g10).trans g11).trans g12).updr (Nat.le_trans ((((g5.trans g6).trans g7).trans g10)).size (Nat.le_refl _)) u13).updr (Nat.le_trans (((((g5.trans g6).trans g7).trans g10).trans g11)).size (Nat.le_refl _)) u14).trans g15).trans g16).trans g17).updr (Nat.le_trans (((((((((g5.trans g6).trans g7).trans g10).trans g11).trans g12).updr (Nat.le_trans ((((g5.trans g6).trans g7).trans g10)).size (Nat.le_refl _)) u13).updr (Nat.le_trans (((((g5.trans g6).trans g7).trans g10).trans g11)).size (Nat.le_refl _)) u14).trans g15)).size (Nat.le_refl _)) u18).updr (Nat.le_trans ((((((((((g5.trans g6).trans g7).trans g10).trans g11).trans g12).updr (Nat.le_trans ((((g5.trans g6).trans g7).trans g10)).size (Nat.le_refl _)) u13).updr (Nat.le_trans (((((g5.trans g6).trans g7).trans g10).trans g11)).size (Nat.le_refl _)) u14).trans g15).trans g16)).size (Nat.le_refl _)) u19).trans g20).trans g21).trans g22).trans g23).trans g26).trans g27).trans g28).updr (Nat.le_trans ((((((((((((((((((g5.trans g6).trans g7).trans g10).trans g11).trans g12).updr (Nat.le_trans ((((g5.trans g6).trans g7).trans g10)).size (Nat.le_refl _)) u13).updr (Nat.le_trans (((((g5.trans g6).trans g7).trans g10).trans g11)).size (Nat.le_refl _)) u14).trans g15).trans g16).trans g17).updr (Nat.le_trans (((((((((g5.trans g6).trans g7).trans g10).trans g11).trans g12).updr (Nat.le_trans ((((g5.trans g6).trans g7).trans g10)).size (Nat.le_refl _)) u13).updr (Nat.le_trans (((((g5.trans g6).trans g7).trans g10).trans g11)).size (Nat.le_refl _)) u14).trans g15)).size (Nat.le_refl _)) u18).updr (Nat.le_trans ((((((((((g5.trans g6).trans g7).trans g10).trans g11).trans g12).updr (Nat.le_trans ((((g5.trans g6).trans g7).trans g10)).size (Nat.le_refl _)) u13).updr (Nat.le_trans (((((g5.trans g6).trans g7).trans g10).trans g11)).size (Nat.le_refl _)) u14).trans g15).trans g16)).size (Nat.le_refl _)) u19).trans g20).trans g21).trans g22).trans g23).trans g26)).size (Nat.le_refl _)) u29).updr (Nat.le_trans (((((((((((((((((((g5.trans g6).trans g7).trans g10).trans g11).trans g12).updr (Nat.le_trans ((((g5.trans g6).trans g7).trans g10)).size (Nat.le_refl _)) u13).updr (Nat.le_trans (((((g5.trans g6).trans g7).trans g10).trans g11)).size (Nat.le_refl _)) u14).trans g15).trans g16).trans g17).updr (Nat.le_trans (((((((((g5.trans g6).trans g7).trans g10).trans g11).trans g12).updr (Nat.le_trans ((((g5.trans g6).trans g7).trans g10)).size (Nat.le_refl _)) u13).updr (Nat.le_trans (((((g5.trans g6).trans g7).trans g10).trans g11)).size (Nat.le_refl _)) u14).trans g15)).size (Nat.le_refl _)) u18).updr (Nat.le_trans ((((((((((g5.trans g6).trans g7).trans g10).trans g11).trans g12).updr (Nat.le_trans ((((g5.trans g6).trans g7).trans g10)).size (Nat.le_refl _)) u13).updr (Nat.le_trans (((((g5.trans g6).trans g7).trans g10).trans g11)).size (Nat.le_refl _)) u14).trans g15).trans g16)).size (Nat.le_refl _)) u19).trans g20).trans g21).trans g22).trans g23).trans g26).trans g27)).size (Nat.le_refl _)) u30)⟩
      · replace e := (condF k32).symm.trans e
        cases e
        cases good
        exact Runs.ret ⟨rfl, (((((((((((((((((((((g5.trans g6).trans g7).trans g10).trans g11).trans g12).updr (Nat.le_trans ((((g5.trans g6).trans g7).trans g10)).size (Nat.le_refl _)) u13).updr (Nat.le_trans (((((g5.trans g6).trans g7).trans g10).trans g11)).size (Nat.le_refl _)) u14).trans g15).trans g16).trans g17).updr (Nat.le_trans (((((((((g5.trans g6).trans g7).trans g10).trans g11).trans g12).updr (Nat.le_trans ((((g5.trans g6).trans g7).trans g10)).size (Nat.le_refl _)) u13).updr (Nat.le_trans (((((g5.trans g6).trans g7).trans g10).trans g11)).size (Nat.le_refl _)) u14).trans g15)).size (Nat.le_refl _)) u18).updr (Nat.le_trans ((((((((((g5.trans g6).trans g7).trans g10).trans g11).trans g12).updr (Nat.le_trans ((((g5.trans g6).trans g7).trans g10)).size (Nat.le_refl _)) u13).updr (Nat.le_trans (((((g5.trans g6).trans g7).trans g10).trans g11)).size (Nat.le_refl _)) u14).trans g15).trans g16)).size (Nat.le_refl _)) u19).trans g20).trans g21).trans g22).trans g23).trans g26).trans g27).trans g28).updr (Nat.le_trans ((((((((((((((((((g5.trans g6).trans g7).trans g10).trans g11).trans g12).updr (Nat.le_trans ((((g5.trans g6).trans g7).trans g10)).size (Nat.le_refl _)) u13).updr (Nat.le_trans (((((g5.trans g6).trans g7).trans g10).trans g11)).size (Nat.le_refl _)) u14).trans g15).trans g16).trans g17).updr (Nat.le_trans (((((((((g5.trans g6).trans g7).trans g10).trans g11).trans g12).updr (Nat.le_trans ((((g5.trans g6).trans g7).trans g10)).size (Nat.le_refl _)) u13).updr (Nat.le_trans (((((g5.trans g6).trans g7).trans g10).trans g11)).size (Nat.le_refl _)) u14).trans g15)).size (Nat.le_refl _)) u18).updr (Nat.le_trans ((((((((((g5.trans g6).trans g7).trans g10).trans g11).trans g12).updr (Nat.le_trans ((((g5.trans g6).trans g7).trans g10)).size (Nat.le_refl _)) u13).updr (Nat.le_trans (((((g5.trans g6).trans g7).trans g10).trans g11)).size (Nat.le_refl _)) u14).trans g15).trans g16)).size (Nat.le_refl _)) u19).trans g20).trans g21).trans g22).trans g23).trans g26)).size (Nat.le_refl _)) u29).updr (Nat.le_trans (((((((((((((((((((g5.trans g6).trans g7).trans g10).trans g11).trans g12).updr (Nat.le_trans ((((g5.trans g6).trans g7).trans g10)).size (Nat.le_refl _)) u13).updr (Nat.le_trans (((((g5.trans g6).trans g7).trans g10).trans g11)).size (Nat.le_refl _)) u14).trans g15).trans g16).trans g17).updr (Nat.le_trans (((((((((g5.trans g6).trans g7).trans g10).trans g11).trans g12).updr (Nat.le_trans ((((g5.trans g6).trans g7).trans g10)).size (Nat.le_refl _)) u13).updr (Nat.le_trans (((((g5.trans g6).trans g7).trans g10).trans g11)).size (Nat.le_refl _)) u14).trans g15)).size (Nat.le_refl _)) u18).updr (Nat.le_trans ((((((((((g5.trans g6).trans g7).trans g10).trans g11).trans g12).updr (Nat.le_trans ((((g5.trans g6).trans g7).trans g10)).size (Nat.le_refl _)) u13).updr (Nat.le_trans (((((g5.trans g6).trans g7).trans g10).trans g11)).size (Nat.le_refl _)) u14).trans g15).trans g16)).size (Nat.le_refl _)) u19).trans g20).trans g21).trans g22).trans g23).trans g26).trans g27)).size (Nat.le_refl _)) u30)⟩
    · replace e := (condF k31).symm.trans e
      cases e
      cases good
      exact Runs.ret ⟨rfl, (((((((((((((((((((((g5.trans g6).trans g7).trans g10).trans g11).trans g12).updr (Nat.le_trans ((((g5.trans g6).trans g7).trans g10)).size (Nat.le_refl _)) u13).updr (Nat.le_trans (((((g5.trans g6).trans g7).trans g10).trans g11)).size (Nat.le_refl _)) u14).trans g15).trans g16).trans g17).updr (Nat.le_trans (((((((((g5.trans g6).trans g7).trans g10).trans g11).trans g12).updr (Nat.le_trans ((((g5.trans g6).trans g7).trans g10)).size (Nat.le_refl _)) u13).updr (Nat.le_trans (((((g5.trans g6).trans g7).trans g10).trans g11)).size (Nat.le_refl _)) u14).trans g15)).size (Nat.le_refl _)) u18).updr (Nat.le_trans ((((((((((g5.trans g6).trans g7).trans g10).trans g11).trans g12).updr (Nat.le_trans ((((g5.trans g6).trans g7).trans g10)).size (Nat.le_refl _)) u13).updr (Nat.le_trans (((((g5.trans g6).trans g7).trans g10).trans g11)).size (Nat.le_refl _)) u14).trans g15).trans g16)).size (Nat.le_refl _)) u19).trans g20).trans g21).trans g22).trans g23).trans g26).trans g27).trans g28).updr (Nat.le_trans ((((((((((((((((((g5.trans g6).trans g7).trans g10).trans g11).trans g12).updr (Nat.le_trans ((((g5.trans g6).trans g7).trans g10)).size (Nat.le_refl _)) u13).updr (Nat.le_trans (((((g5.trans g6).trans g7).trans g10).trans g11)).size (Nat.le_refl _)) u14).trans g15).trans g16).trans g17).updr (Nat.le_trans (((((((((g5.trans g6).trans g7).trans g10).trans g11).trans g12).updr (Nat.le_trans ((((g5.trans g6).trans g7).trans g10)).size (Nat.le_refl _)) u13).updr (Nat.le_trans (((((g5.trans g6).trans g7).trans g10).trans g11)).size (Nat.le_refl _)) u14).trans g15)).size (Nat.le_refl _)) u18).updr (Nat.le_trans ((((((((((g5.trans g6).trans g7).trans g10).trans g11).trans g12).updr (Nat.le_trans ((((g5.trans g6).trans g7).trans g10)).size (Nat.le_refl _)) u13).updr (Nat.le_trans (((((g5.trans g6).trans g7).trans g10).trans g11)).size (Nat.le_refl _)) u14).trans g15).trans g16)).size (Nat.le_refl _)) u19).trans g20).trans g21).trans g22).trans g23).trans g26)).size (Nat.le_refl _)) u29).updr (Nat.le_trans (((((((((((((((((((g5.trans g6).trans g7).trans g10).trans g11).trans g12).updr (Nat.le_trans ((((g5.trans g6).trans g7).trans g10)).size (Nat.le_refl _)) u13).updr (Nat.le_trans (((((g5.trans g6).trans g7).trans g10).trans g11)).size (Nat.le_refl _)) u14).trans g15).trans g16).trans g17).updr (Nat.le_trans (((((((((g5.trans g6).trans g7).trans g10).trans g11).trans g12).updr (Nat.le_trans ((((g5.trans g6).trans g7).trans g10)).size (Nat.le_refl _)) u13).updr (Nat.le_trans (((((g5.trans g6).trans g7).trans g10).trans g11)).size (Nat.le_refl _)) u14).trans g15)).size (Nat.le_refl _)) u18).updr (Nat.le_trans ((((((((((g5.trans g6).trans g7).trans g10).trans g11).trans g12).updr (Nat.le_trans ((((g5.trans g6).trans g7).trans g10)).size (Nat.le_refl _)) u13).updr (Nat.le_trans (((((g5.trans g6).trans g7).trans g10).trans g11)).size (Nat.le_refl _)) u14).trans g15).trans g16)).size (Nat.le_refl _)) u19).trans g20).trans g21).trans g22).trans g23).trans g26).trans g27)).size (Nat.le_refl _)) u30)⟩

theorem law03_ModintFloors_run {s : law03_ModintFloors_St} {r : law03_ModintFloors_Res} (it : Iter law03_ModintFloors_step s r) : law03_ModintFloors_At r s := Iter.ind (fun s o e good => by
  cases s with
  | fn a1 x2 a3 x4 => exact @law03_ModintFloors_fn_walk _ _ a1 x2 a3 x4 e good
  | no => exact True.intro
  ) it

theorem law03_ModintFloors_opt {h : AH} {a2 : Sl} {a4 : Sl} {a1 : Bool} {x2 : List Nat} {a3 : Bool} {x4 : List Nat} (n2 : Nats h a2 x2) (n4 : Nats h a4 x4) {r : law03_ModintFloors_Res} (q : runP law03_ModintFloors_step (.fn a1 x2 a3 x4) = some r) : Runs (go (.fn F.law03_ModintFloors [.agg [.bool a1, a2.v], .agg [.bool a3, a4.v]]) h) (law03_ModintFloors_post h r) := law03_ModintFloors_run (runP_iter q) n2 n4

inductive law03_ModintBack_St
  | fn (a1 : Bool) (x2 : List Nat) (a3 : Bool) (x4 : List Nat)
  | no

abbrev law03_ModintBack_Res := Bool

noncomputable def law03_ModintBack_fn' (a1 : Bool) (x2 : List Nat) (a3 : Bool) (x4 : List Nat) : Option (law03_ModintBack_St ⊕ law03_ModintBack_Res) :=
  cond (!(rtI a1 x2)) (some (.inr true)) (cond (!(rtI a3 x4)) (some (.inr true)) (cond (a3) (some (.inr true)) (cond (decide ((List.length x4 : Int) = 0)) (some (.inr true)) (cond (!decide (((floorI a1 x2 a3 x4).2.2.2.2) = 0)) (cond (decide (((floorI a1 x2 a3 x4).2.2.2.2) = 4)) (some (.inr (decide ((List.length x2 : Int) = 64)))) (some (.inr false))) (cond (decide (((modint_Mul' (((floorI a1 x2 a3 x4).1)) ((floorI a1 x2 a3 x4).2.1) a3 x4).2.2) = 4)) (some (.inr (decide ((List.length x2 : Int) = 64)))) (cond (decide (((modint_Add' (((modint_Mul' (((floorI a1 x2 a3 x4).1)) ((floorI a1 x2 a3 x4).2.1) a3 x4).1)) ((modint_Mul' (((floorI a1 x2 a3 x4).1)) ((floorI a1 x2 a3 x4).2.1) a3 x4).2.1) (((floorI a1 x2 a3 x4).2.2.1)) ((floorI a1 x2 a3 x4).2.2.2.1)).2.2) = 4)) (some (.inr (decide ((List.length x2 : Int) = 64)))) ((need ((((modint_Add' (((modint_Mul' (((floorI a1 x2 a3 x4).1)) ((floorI a1 x2 a3 x4).2.1) a3 x4).1)) ((modint_Mul' (((floorI a1 x2 a3 x4).1)) ((floorI a1 x2 a3 x4).2.1) a3 x4).2.1) (((floorI a1 x2 a3 x4).2.2.1)) ((floorI a1 x2 a3 x4).2.2.2.1)).1)) = a1 ∧ ((modint_Add' (((modint_Mul' (((floorI a1 x2 a3 x4).1)) ((floorI a1 x2 a3 x4).2.1) a3 x4).1)) ((modint_Mul' (((floorI a1 x2 a3 x4).1)) ((floorI a1 x2 a3 x4).2.1) a3 x4).2.1) (((floorI a1 x2 a3 x4).2.2.1)) ((floorI a1 x2 a3 x4).2.2.2.1)).2.1) = x2)).bind fun c27_0 => cond (decide (((modint_Mul' (((floorI a1 x2 a3 x4).1)) ((floorI a1 x2 a3 x4).2.1) a3 x4).2.2) = 0)) (cond (decide (((modint_Add' (((modint_Mul' (((floorI a1 x2 a3 x4).1)) ((floorI a1 x2 a3 x4).2.1) a3 x4).1)) ((modint_Mul' (((floorI a1 x2 a3 x4).1)) ((floorI a1 x2 a3 x4).2.1) a3 x4).2.1) (((floorI a1 x2 a3 x4).2.2.1)) ((floorI a1 x2 a3 x4).2.2.2.1)).2.2) = 0)) (cond (true) (cond (!(((floorI a1 x2 a3 x4).2.2.1))) (some (.inr (decide ((cmpI (((floorI a1 x2 a3 x4).2.2.1)) ((floorI a1 x2 a3 x4).2.2.2.1) a3 x4) = (-1))))) (some (.inr false))) (some (.inr false))) (some (.inr false))) (some (.inr false)))))))))

noncomputable def law03_ModintBack_step : law03_ModintBack_St → Option (law03_ModintBack_St ⊕ law03_ModintBack_Res)
  | .fn a1 x2 a3 x4 => law03_ModintBack_fn' a1 x2 a3 x4
  | .no => none

@[reducible] def law03_ModintBack_post (h0 : AH) (r : law03_ModintBack_Res) (v : AV) (h' : AH) : Prop := v = .bool r ∧ Grow h0 h'

def law03_ModintBack_At (r : law03_ModintBack_Res) : law03_ModintBack_St → Prop
  | .fn a1 x2 a3 x4 => ∀ {h : AH} {a2 : Sl} {a4 : Sl}, Nats h a2 x2 → Nats h a4 x4 → Runs (go (.fn F.law03_ModintBack [.agg [.bool a1, a2.v], .agg [.bool a3, a4.v]]) h) (law03_ModintBack_post h r)
  | .no => True

theorem law03_ModintBack_fn_walk {r : law03_ModintBack_Res} {o : law03_ModintBack_St ⊕ law03_ModintBack_Res} {a1 : Bool} {x2 : List Nat} {a3 : Bool} {x4 : List Nat} (e : law03_ModintBack_fn' a1 x2 a3 x4 = some o) (good : GoodS (law03_ModintBack_At r) r o) : law03_ModintBack_At r (.fn a1 x2 a3 x4) := by
  intro h a2 a4 n2 n4
  rw [u_law03_ModintBack]
  unfold law03_ModintBack_fn' at e
  refine Runs.new fun H5 b5 g5 => ?_
  refine Runs.new fun H6 b6 g6 => ?_
  refine Runs.step (AH.has.rd (g6.has b5) 0 rfl rfl) ?_
  refine Runs.step (AH.has.rd (g6.has b5) 1 rfl (asSl_v _)) ?_
  obtain ⟨H7, e7, g7⟩ := ref03_Right_spec (n2.grow (g5.trans g6)) a1
  refine Runs.step e7 ?_
  refine Runs.step (seen rfl) ?_
  refine Runs.step (AH.has.rd (g7.has b6) 0 rfl rfl) ?_
  refine Runs.step (AH.has.rd (g7.has b6) 1 rfl (asSl_v _)) ?_
  obtain ⟨H8, e8, g8⟩ := ref03_Right_spec (n4.grow ((g5.trans g6).trans g7)) a3
  refine Runs.step e8 ?_
  refine Runs.step (seen rfl) ?_
  refine Runs.cond (fun k9 => ?_) (fun k9 => ?_)
  · replace e := (condT k9).symm.trans e
    cases e
    cases good
    exact Runs.ret ⟨rfl, (((g5.trans g6).trans g7).trans g8)⟩
  · replace e := (condF k9).symm.trans e
    refine Runs.cond (fun k10 => ?_) (fun k10 => ?_)
    · replace e := (condT k10).symm.trans e
      cases e
      cases good
      exact Runs.ret ⟨rfl, (((g5.trans g6).trans g7).trans g8)⟩
    · replace e := (condF k10).symm.trans e
      refine Runs.step (AH.has.rd ((g7.trans g8).has b6) 0 rfl rfl) ?_
      refine Runs.cond (fun k11 => ?_) (fun k11 => ?_)
      · replace e := (condT k11).symm.trans e
        cases e
        cases good
        exact Runs.ret ⟨rfl, (((g5.trans g6).trans g7).trans g8)⟩
      · replace e := (condF k11).symm.trans e
        refine Runs.step (AH.has.rd ((g7.trans g8).has b6) 1 rfl (asSl_v _)) ?_
        rw [(n4.grow (((g5.trans g6).trans g7).trans g8)).len]
        refine Runs.cond (fun k12 => ?_) (fun k12 => ?_)
        · replace e := (condT k12).symm.trans e
          cases e
          cases good
          exact Runs.ret ⟨rfl, (((g5.trans g6).trans g7).trans g8)⟩
        · replace e := (condF k12).symm.trans e
          refine Runs.step (AH.has.rd (((g6.trans g7).trans g8).has b5) 0 rfl rfl) ?_
          refine Runs.step (AH.has.rd (((g6.trans g7).trans g8).has b5) 1 rfl (asSl_v _)) ?_
          refine Runs.step (AH.has.rd ((g7.trans g8).has b6) 0 rfl rfl) ?_
          refine Runs.step (AH.has.rd ((g7.trans g8).has b6) 1 rfl (asSl_v _)) ?_
          obtain ⟨_, H13, e13, s13, s13b, rfl, n13, n13b, g13, o13, o13b⟩ := modint_Floor_spec (n2.grow (((g5.trans g6).trans g7).trans g8)) (n4.grow (((g5.trans g6).trans g7).trans g8)) a1 a3
          refine Runs.step e13 ?_
          refine Runs.step rfl ?_
          refine Runs.step rfl ?_
          refine Runs.ifT rfl ?_
          refine Runs.step (seenAt rfl rfl) ?_
          refine Runs.step (seenAt rfl (asSl_v _)) ?_
          refine Runs.step rfl ?_
          refine Runs.ifT rfl ?_
          refine Runs.step (seenAt rfl rfl) ?_
          refine Runs.step (seenAt rfl (asSl_v _)) ?_
          refine Runs.step (seen (avInt_int _ _)) ?_
          refine Runs.new fun H14 b14 g14 => ?_
          refine Runs.new fun H15 b15 g15 => ?_
          refine Runs.puts (g15.has b14) rfl fun H16 b16 u16 => ?_
          have b15_16 := AH.has.updr b15 (Nat.ne_of_gt (Nat.lt_of_lt_of_le (b14).lt (Nat.le_refl _))) u16
          refine Runs.puts b15_16 rfl fun H17 b17 u17 => ?_
          have b16_17 := AH.has.updr b16 (Nat.ne_of_lt (Nat.lt_of_lt_of_le (b14).lt (Nat.le_refl _))) u17
          refine Runs.cond (fun k18 => ?_) (fun k18 => ?_)
          · replace e := (condT k18).symm.trans e
            refine Runs.cond (fun k19 => ?_) (fun k19 => ?_)
            · replace e := (condT k19).symm.trans e
              refine Runs.step (AH.has.rd ((((((((g6.trans g7).trans g8).trans g13).trans g14).trans g15).updr (Nat.le_trans ((((g6.trans g7).trans g8).trans g13)).size (Nat.le_refl _)) u16).updr (Nat.le_trans (((((g6.trans g7).trans g8).trans g13).trans g14)).size (Nat.le_refl _)) u17).has b5) 1 rfl (asSl_v _)) ?_
              rw [(n2.grow ((((((((g5.trans g6).trans g7).trans g8).trans g13).trans g14).trans g15).updr (Nat.le_trans (((((g5.trans g6).trans g7).trans g8).trans g13)).size (Nat.le_refl _)) u16).updr (Nat.le_trans ((((((g5.trans g6).trans g7).trans g8).trans g13).trans g14)).size (Nat.le_refl _)) u17)).len]
              cases e
              cases good
              exact Runs.ret ⟨rfl, ((((((((g5.trans g6).trans g7).trans g8).trans g13).trans g14).trans g15).updr (Nat.le_trans (((((g5.trans g6).trans g7).trans g8).trans g13)).size (Nat.le_refl _)) u16).updr (Nat.le_trans ((((((g5.trans g6).trans g7).trans g8).trans g13).trans g14)).size (Nat.le_refl _)) u17)⟩
            · replace e := (condF k19).symm.trans e
              cases e
              cases good
              exact Runs.ret ⟨rfl, ((((((((g5.trans g6).trans g7).trans g8).trans g13).trans g14).trans g15).updr (Nat.le_trans (((((g5.trans g6).trans g7).trans g8).trans g13)).size (Nat.le_refl _)) u16).updr (Nat.le_trans ((((((g5.trans g6).trans g7).trans g8).trans g13).trans g14)).size (Nat.le_refl _)) u17)⟩
          · replace e := (condF k18).symm.trans e
            refine Runs.step (AH.has.rd b16_17 0 rfl rfl) ?_
            refine Runs.step (AH.has.rd b16_17 1 rfl (asSl_v _)) ?_
            refine Runs.step (AH.has.rd (((((((g7.trans g8).trans g13).trans g14).trans g15).updr (Nat.le_trans (((g7.trans g8).trans g13)).size (Nat.le_refl _)) u16).updr (Nat.le_trans ((((g7.trans g8).trans g13).trans g14)).size (Nat.le_refl _)) u17).has b6) 0 rfl rfl) ?_
            refine Runs.step (AH.has.rd (((((((g7.trans g8).trans g13).trans g14).trans g15).updr (Nat.le_trans (((g7.trans g8).trans g13)).size (Nat.le_refl _)) u16).updr (Nat.le_trans ((((g7.trans g8).trans g13).trans g14)).size (Nat.le_refl _)) u17).has b6) 1 rfl (asSl_v _)) ?_
            obtain ⟨_, H19, e19, s19, rfl, n19, g19, o19⟩ := modint_Mul_spec (n13.grow (((g14.trans g15).updr (Nat.le_refl _) u16).updr (Nat.le_trans (g14).size (Nat.le_refl _)) u17)) (n4.grow ((((((((g5.trans g6).trans g7).trans g8).trans g13).trans g14).trans g15).updr (Nat.le_trans (((((g5.trans g6).trans g7).trans g8).trans g13)).size (Nat.le_refl _)) u16).updr (Nat.le_trans ((((((g5.trans g6).trans g7).trans g8).trans g13).trans g14)).size (Nat.le_refl _)) u17)) (((floorI a1 x2 a3 x4).1)) a3
            refine Runs.step e19 ?_
            refine Runs.step rfl ?_
            refine Runs.step rfl ?_
            refine Runs.ifT rfl ?_
            refine Runs.step (seenAt rfl rfl) ?_
            refine Runs.step (seenAt rfl (asSl_v _)) ?_
            refine Runs.step (seen (avInt_int _ _)) ?_
            refine Runs.new fun H20 b20 g20 => ?_
            refine Runs.puts b20 rfl fun H21 b21 u21 => ?_
            refine Runs.step (AH.has.rd b21 0 rfl rfl) ?_
            refine Runs.step (AH.has.rd b21 1 rfl (asSl_v _)) ?_
            refine Runs.step (AH.has.rd (((g19.trans g20).updr (Nat.le_trans (g19).size (Nat.le_refl _)) u21).has b17) 0 rfl rfl) ?_
            refine Runs.step (AH.has.rd (((g19.trans g20).updr (Nat.le_trans (g19).size (Nat.le_refl _)) u21).has b17) 1 rfl (asSl_v _)) ?_
            obtain ⟨_, H22, e22, s22, rfl, n22, g22, o22⟩ := modint_Add_spec (n19.grow (g20.updr (Nat.le_refl _) u21)) (n13b.grow ((((((g14.trans g15).updr (Nat.le_refl _) u16).updr (Nat.le_trans (g14).size (Nat.le_refl _)) u17).trans g19).trans g20).updr (Nat.le_trans (((((g14.trans g15).updr (Nat.le_refl _) u16).updr (Nat.le_trans (g14).size (Nat.le_refl _)) u17).trans g19)).size (Nat.le_refl _)) u21)) (((modint_Mul' (((floorI a1 x2 a3 x4).1)) ((floorI a1 x2 a3 x4).2.1) a3 x4).1)) (((floorI a1 x2 a3 x4).2.2.1))
            refine Runs.step e22 ?_
            refine Runs.step rfl ?_
            refine Runs.step rfl ?_
            refine Runs.ifT rfl ?_
            refine Runs.step (seenAt rfl rfl) ?_
            refine Runs.step (seenAt rfl (asSl_v _)) ?_
            refine Runs.step (seen (avInt_int _ _)) ?_
            refine Runs.new fun H23 b23 g23 => ?_
            refine Runs.puts b23 rfl fun H24 b24 u24 => ?_
            refine Runs.cond (fun k25 => ?_) (fun k25 => ?_)
            · replace e := (condT k25).symm.trans e
              refine Runs.step (AH.has.rd ((((((((((((((g6.trans g7).trans g8).trans g13).trans g14).trans g15).updr (Nat.le_trans ((((g6.trans g7).trans g8).trans g13)).size (Nat.le_refl _)) u16).updr (Nat.le_trans (((((g6.trans g7).trans g8).trans g13).trans g14)).size (Nat.le_refl _)) u17).trans g19).trans g20).updr (Nat.le_trans (((((((((g6.trans g7).trans g8).trans g13).trans g14).trans g15).updr (Nat.le_trans ((((g6.trans g7).trans g8).trans g13)).size (Nat.le_refl _)) u16).updr (Nat.le_trans (((((g6.trans g7).trans g8).trans g13).trans g14)).size (Nat.le_refl _)) u17).trans g19)).size (Nat.le_refl _)) u21).trans g22).trans g23).updr (Nat.le_trans ((((((((((((g6.trans g7).trans g8).trans g13).trans g14).trans g15).updr (Nat.le_trans ((((g6.trans g7).trans g8).trans g13)).size (Nat.le_refl _)) u16).updr (Nat.le_trans (((((g6.trans g7).trans g8).trans g13).trans g14)).size (Nat.le_refl _)) u17).trans g19).trans g20).updr (Nat.le_trans (((((((((g6.trans g7).trans g8).trans g13).trans g14).trans g15).updr (Nat.le_trans ((((g6.trans g7).trans g8).trans g13)).size (Nat.le_refl _)) u16).updr (Nat.le_trans (((((g6.trans g7).trans g8).trans g13).trans g14)).size (Nat.le_refl _)) u17).trans g19)).size (Nat.le_refl _)) u21).trans g22)).size (Nat.le_refl _)) u24).has b5) 1 rfl (asSl_v _)) ?_
              rw [(n2.grow ((((((((((((((g5.trans g6).trans g7).trans g8).trans g13).trans g14).trans g15).updr (Nat.le_trans (((((g5.trans g6).trans g7).trans g8).trans g13)).size (Nat.le_refl _)) u16).updr (Nat.le_trans ((((((g5.trans g6).trans g7).trans g8).trans g13).trans g14)).size (Nat.le_refl _)) u17).trans g19).trans g20).updr (Nat.le_trans ((((((((((g5.trans g6).trans g7).trans g8).trans g13).trans g14).trans g15).updr (Nat.le_trans (((((g5.trans g6).trans g7).trans g8).trans g13)).size (Nat.le_refl _)) u16).updr (Nat.le_trans ((((((g5.trans g6).trans g7).trans g8).trans g13).trans g14)).size (Nat.le_refl _)) u17).trans g19)).size (Nat.le_refl _)) u21).trans g22).trans g23).updr (Nat.le_trans (((((((((((((g5.trans g6).trans g7).trans g8).trans g13).trans g14).trans g15).updr (Nat.le_trans (((((g5.trans g6).trans g7).trans g8).trans g13)).size (Nat.le_refl _)) u16).updr (Nat.le_trans ((((((g5.trans g6).trans g7).trans g8).trans g13).trans g14)).size (Nat.le_refl _)) u17).trans g19).trans g20).updr (Nat.le_trans ((((((((((g5.trans g6).trans g7).trans g8).trans g13).trans g14).trans g15).updr (Nat.le_trans (((((g5.trans g6).trans g7).trans g8).trans g13)).size (Nat.le_refl _)) u16).updr (Nat.le_trans ((((((g5.trans g6).trans g7).trans g8).trans g13).trans g14)).size (Nat.le_refl _)) u17).trans g19)).size (Nat.le_refl _)) u21).trans g22)).size (Nat.le_refl _)) u24)).len]
              cases e
              cases good
              exact Runs.ret ⟨rfl, ((((((((((((((g5.trans g6).trans g7).trans g8).trans g13).trans g14).trans g15).updr (Nat.le_trans (((((g5.trans g6).trans g7).trans g8).trans g13)).size (Nat.le_refl _)) u16).updr (Nat.le_trans ((((((g5.trans g6).trans g7).trans g8).trans g13).trans g14)).size (Nat.le_refl _)) u17).trans g19).trans g20).updr (Nat.le_trans ((((((((((g5.trans g6).trans g7).trans g8).trans g13).trans g14).trans g15).updr (Nat.le_trans (((((g5.trans g6).trans g7).trans g8).trans g13)).size (Nat.le_refl _)) u16).updr (Nat.le_trans ((((((g5.trans g6).trans g7).trans g8).trans g13).trans g14)).size (Nat.le_refl _)) u17).trans g19)).size (Nat.le_refl _)) u21).trans g22).trans g23).updr (Nat.le_trans (((((((((((((g5.trans g6).trans g7).trans g8).trans g13).trans g14).trans g15).updr (Nat.le_trans (((((g5.trans g6).trans g7).trans g8).trans g13)).size (Nat.le_refl _)) u16).updr (Nat.le_trans ((((((g5.trans g6).trans g7).trans g8).trans g13).trans g14)).size (Nat.le_refl _)) u17).trans g19).trans g20).updr (Nat.le_trans ((((((((((g5.trans g6).trans g7).trans g8).trans g13).trans g14).trans g15).updr (Nat.le_trans (((((g5.trans g6).trans g7).trans g8).trans g13)).size (Nat.le_refl _)) u16).updr (Nat.le_trans ((((((g5.trans g6).trans g7).trans g8).trans g13).trans g14)).size (Nat.le_refl _)) u17).trans g19)).size (Nat.le_refl _)) u21).trans g22)).size (Nat.le_refl _)) u24)⟩
            · replace e := (condF k25).symm.trans e
              refine Runs.cond (fun k26 => ?_) (fun k26 => ?_)
              · replace e := (condT k26).symm.trans e
                refine Runs.step (AH.has.rd ((((((((((((((g6.trans g7).trans g8).trans g13).trans g14).trans g15).updr (Nat.le_trans ((((g6.trans g7).trans g8).trans g13)).size (Nat.le_refl _)) u16).updr (Nat.le_trans (((((g6.trans g7).trans g8).trans g13).trans g14)).size (Nat.le_refl _)) u17).trans g19).trans g20).updr (Nat.le_trans (((((((((g6.trans g7).trans g8).trans g13).trans g14).trans g15).updr (Nat.le_trans ((((g6.trans g7).trans g8).trans g13)).size (Nat.le_refl _)) u16).updr (Nat.le_trans (((((g6.trans g7).trans g8).trans g13).trans g14)).size (Nat.le_refl _)) u17).trans g19)).size (Nat.le_refl _)) u21).trans g22).trans g23).updr (Nat.le_trans ((((((((((((g6.trans g7).trans g8).trans g13).trans g14).trans g15).updr (Nat.le_trans ((((g6.trans g7).trans g8).trans g13)).size (Nat.le_refl _)) u16).updr (Nat.le_trans (((((g6.trans g7).trans g8).trans g13).trans g14)).size (Nat.le_refl _)) u17).trans g19).trans g20).updr (Nat.le_trans (((((((((g6.trans g7).trans g8).trans g13).trans g14).trans g15).updr (Nat.le_trans ((((g6.trans g7).trans g8).trans g13)).size (Nat.le_refl _)) u16).updr (Nat.le_trans (((((g6.trans g7).trans g8).trans g13).trans g14)).size (Nat.le_refl _)) u17).trans g19)).size (Nat.le_refl _)) u21).trans g22)).size (Nat.le_refl _)) u24).has b5) 1 rfl (asSl_v _)) ?_
                rw [(n2.grow ((((((((((((((g5.trans g6).trans g7).trans g8).trans g13).trans g14).trans g15).updr (Nat.le_trans (((((g5.trans g6).trans g7).trans g8).trans g13)).size (Nat.le_refl _)) u16).updr (Nat.le_trans ((((((g5.trans g6).trans g7).trans g8).trans g13).trans g14)).size (Nat.le_refl _)) u17).trans g19).trans g20).updr (Nat.le_trans ((((((((((g5.trans g6).trans g7).trans g8).trans g13).trans g14).trans g15).updr (Nat.le_trans (((((g5.trans g6).trans g7).trans g8).trans g13)).size (Nat.le_refl _)) u16).updr (Nat.le_trans ((((((g5.trans g6).trans g7).trans g8).trans g13).trans g14)).size (Nat.le_refl _)) u17).trans g19)).size (Nat.le_refl _)) u21).trans g22).trans g23).updr (Nat.le_trans (((((((((((((g5.trans g6).trans g7).trans g8).trans g13).trans g14).trans g15).updr (Nat.le_trans (((((g5.trans g6).trans g7).trans g8).trans g13)).size (Nat.le_refl _)) u16).updr (Nat.le_trans ((((((g5.trans g6).trans g7).trans g8).trans g13).trans g14)).size (Nat.le_refl _)) u17).trans g19).trans g20).updr (Nat.le_trans ((((((((((g5.trans g6).trans g7).trans g8).trans g13).trans g14).trans g15).updr (Nat.le_trans (((((g5.trans g6).trans g7).trans g8).trans g13)).size (Nat.le_refl _)) u16).updr (Nat.le_trans ((((((g5.trans g6).trans g7).trans g8).trans g13).trans g14)).size (Nat.le_refl _)) u17).trans g19)).size (Nat.le_refl _)) u21).trans g22)).size (Nat.le_refl _)) u24)).len]
                cases e
                cases good
                exact Runs.ret ⟨rfl, ((((((((((((((g5.trans g6).trans g7).trans g8).trans g13).trans g14).trans g15).updr (Nat.le_trans (((((g5.trans g6).trans g7).trans g8).trans g13)).size (Nat.le_refl _)) u16).updr (Nat.le_trans ((((((g5.trans g6).trans g7).trans g8).trans g13).trans g14)).size (Nat.le_refl _)) u17).trans g19).trans g20).updr (Nat.le_trans ((((((((((g5.trans g6).trans g7).trans g8).trans g13).trans g14).trans g15).updr (Nat.le_trans (((((g5.trans g6).trans g7).trans g8).trans g13)).size (Nat.le_refl _)) u16).updr (Nat.le_trans ((((((g5.trans g6).trans g7).trans g8).trans g13).trans g14)).size (Nat.le_refl _)) u17).trans g19)).size (Nat.le_refl _)) u21).trans g22).trans g23).updr (Nat.le_trans (((((((((((((g5.trans g6).trans g7).trans g8).trans g13).trans g14).trans g15).updr (Nat.le_trans (((((g5.trans g6).trans g7).trans g8).trans g13)).size (Nat.le_refl _)) u16).updr (Nat.le_trans ((((((g5.trans g6).trans g7).trans g8).trans g13).trans g14)).size (Nat.le_refl _)) u17).trans g19).trans g20).updr (Nat.le_trans ((((((((((g5.trans g6).trans g7).trans g8).trans g13).trans g14).trans g15).updr (Nat.le_trans (((((g5.trans g6).trans g7).trans g8).trans g13)).size (Nat.le_refl _)) u16).updr (Nat.le_trans ((((((g5.trans g6).trans g7).trans g8).trans g13).trans g14)).size (Nat.le_refl _)) u17).trans g19)).size (Nat.le_refl _)) u21).trans g22)).size (Nat.le_refl _)) u24)⟩
              · replace e := (condF k26).symm.trans e
                refine Runs.step (AH.has.rd b24 0 rfl rfl) ?_
                refine Runs.step (AH.has.rd b24 1 rfl (asSl_v _)) ?_
                refine Runs.step (AH.has.rd ((((((((((((((g6.trans g7).trans g8).trans g13).trans g14).trans g15).updr (Nat.le_trans ((((g6.trans g7).trans g8).trans g13)).size (Nat.le_refl _)) u16).updr (Nat.le_trans (((((g6.trans g7).trans g8).trans g13).trans g14)).size (Nat.le_refl _)) u17).trans g19).trans g20).updr (Nat.le_trans (((((((((g6.trans g7).trans g8).trans g13).trans g14).trans g15).updr (Nat.le_trans ((((g6.trans g7).trans g8).trans g13)).size (Nat.le_refl _)) u16).updr (Nat.le_trans (((((g6.trans g7).trans g8).trans g13).trans g14)).size (Nat.le_refl _)) u17).trans g19)).size (Nat.le_refl _)) u21).trans g22).trans g23).updr (Nat.le_trans ((((((((((((g6.trans g7).trans g8).trans g13).trans g14).trans g15).updr (Nat.le_trans ((((g6.trans g7).trans g8).trans g13)).size (Nat.le_refl _)) u16).updr (Nat.le_trans (((((g6.trans g7).trans g8).trans g13).trans g14)).size (Nat.le_refl _)) u17).trans g19).trans g20).updr (Nat.le_trans (((((((((g6.trans g7).trans g8).trans g13).trans g14).trans g15).updr (Nat.le_trans ((((g6.trans g7).trans g8).trans g13)).size (Nat.le_refl _)) u16).updr (Nat.le_trans (((((g6.trans g7).trans g8).trans g13).trans g14)).size (Nat.le_refl _)) u17).trans g19)).size (Nat.le_refl _)) u21).trans g22)).size (Nat.le_refl _)) u24).has b5) 0 rfl rfl) ?_
                refine Runs.step (AH.has.rd ((((((((((((((g6.trans g7).trans g8).trans g13).trans g14).trans g15).updr (Nat.le_trans ((((g6.trans g7).trans g8).trans g13)).size (Nat.le_refl _)) u16).updr (Nat.le_trans (((((g6.trans g7).trans g8).trans g13).trans g14)).size (Nat.le_refl _)) u17).trans g19).trans g20).updr (Nat.le_trans (((((((((g6.trans g7).trans g8).trans g13).trans g14).trans g15).updr (Nat.le_trans ((((g6.trans g7).trans g8).trans g13)).size (Nat.le_refl _)) u16).updr (Nat.le_trans (((((g6.trans g7).trans g8).trans g13).trans g14)).size (Nat.le_refl _)) u17).trans g19)).size (Nat.le_refl _)) u21).trans g22).trans g23).updr (Nat.le_trans ((((((((((((g6.trans g7).trans g8).trans g13).trans g14).trans g15).updr (Nat.le_trans ((((g6.trans g7).trans g8).trans g13)).size (Nat.le_refl _)) u16).updr (Nat.le_trans (((((g6.trans g7).trans g8).trans g13).trans g14)).size (Nat.le_refl _)) u17).trans g19).trans g20).updr (Nat.le_trans (((((((((g6.trans g7).trans g8).trans g13).trans g14).trans g15).updr (Nat.le_trans ((((g6.trans g7).trans g8).trans g13)).size (Nat.le_refl _)) u16).updr (Nat.le_trans (((((g6.trans g7).trans g8).trans g13).trans g14)).size (Nat.le_refl _)) u17).trans g19)).size (Nat.le_refl _)) u21).trans g22)).size (Nat.le_refl _)) u24).has b5) 1 rfl (asSl_v _)) ?_
                obtain ⟨c27_0, q27_0, e⟩ := Option.bind_eq_some_iff.1 e
                obtain ⟨H27, e27, g27⟩ := ref03_Same_need (n22.grow (g23.updr (Nat.le_refl _) u24)) (n2.grow ((((((((((((((g5.trans g6).trans g7).trans g8).trans g13).trans g14).trans g15).updr (Nat.le_trans (((((g5.trans g6).trans g7).trans g8).trans g13)).size (Nat.le_refl _)) u16).updr (Nat.le_trans ((((((g5.trans g6).trans g7).trans g8).trans g13).trans g14)).size (Nat.le_refl _)) u17).trans g19).trans g20).updr (Nat.le_trans ((((((((((g5.trans g6).trans g7).trans g8).trans g13).trans g14).trans g15).updr (Nat.le_trans (((((g5.trans g6).trans g7).trans g8).trans g13)).size (Nat.le_refl _)) u16).updr (Nat.le_trans ((((((g5.trans g6).trans g7).trans g8).trans g13).trans g14)).size (Nat.le_refl _)) u17).trans g19)).size (Nat.le_refl _)) u21).trans g22).trans g23).updr (Nat.le_trans (((((((((((((g5.trans g6).trans g7).trans g8).trans g13).trans g14).trans g15).updr (Nat.le_trans (((((g5.trans g6).trans g7).trans g8).trans g13)).size (Nat.le_refl _)) u16).updr (Nat.le_trans ((((((g5.trans g6).trans g7).trans g8).trans g13).trans g14)).size (Nat.le_refl _)) u17).trans g19).trans g20).updr (Nat.le_trans ((((((((((g5.trans g6).trans g7).trans g8).trans g13).trans g14).trans g15).updr (Nat.le_trans (((((g5.trans g6).trans g7).trans g8).trans g13)).size (Nat.le_refl _)) u16).updr (Nat.le_trans ((((((g5.trans g6).trans g7).trans g8).trans g13).trans g14)).size (Nat.le_refl _)) u17).trans g19)).size (Nat.le_refl _)) u21).trans g22)).size (Nat.le_refl _)) u24)) (((modint_Add' (((modint_Mul' (((floorI a1 x2 a3 x4).1)) ((floorI a1 x2 a3 x4).2.1) a3 x4).1)) ((modint_Mul' (((floorI a1 x2 a3 x4).1)) ((floorI a1 x2 a3 x4).2.1) a3 x4).2.1) (((floorI a1 x2 a3 x4).2.2.1)) ((floorI a1 x2 a3 x4).2.2.2.1)).1)) a1  c27_0.down
                refine Runs.step e27 ?_
                refine Runs.step (seen rfl) ?_
                refine Runs.cond (fun k28 => ?_) (fun k28 => ?_)
                · replace e := (condT k28).symm.trans e
                  refine Runs.cond (fun k29 => ?_) (fun k29 => ?_)
                  · replace e := (condT k29).symm.trans e
                    refine Runs.cond (fun k30 => ?_) (fun k30 => ?_)
                    · replace e := (condT k30).symm.trans e
                      refine Runs.step (AH.has.rd (((((((g19.trans g20).updr (Nat.le_trans (g19).size (Nat.le_refl _)) u21).trans g22).trans g23).updr (Nat.le_trans ((((g19.trans g20).updr (Nat.le_trans (g19).size (Nat.le_refl _)) u21).trans g22)).size (Nat.le_refl _)) u24).trans g27).has b17) 0 rfl rfl) ?_
                      refine Runs.cond (fun k31 => ?_) (fun k31 => ?_)
                      · replace e := (condT k31).symm.trans e
                        refine Runs.step (AH.has.rd (((((((g19.trans g20).updr (Nat.le_trans (g19).size (Nat.le_refl _)) u21).trans g22).trans g23).updr (Nat.le_trans ((((g19.trans g20).updr (Nat.le_trans (g19).size (Nat.le_refl _)) u21).trans g22)).size (Nat.le_refl _)) u24).trans g27).has b17) 0 rfl rfl) ?_
                        refine Runs.step (AH.has.rd (((((((g19.trans g20).updr (Nat.le_trans (g19).size (Nat.le_refl _)) u21).trans g22).trans g23).updr (Nat.le_trans ((((g19.trans g20).updr (Nat.le_trans (g19).size (Nat.le_refl _)) u21).trans g22)).size (Nat.le_refl _)) u24).trans g27).has b17) 1 rfl (asSl_v _)) ?_
                        refine Runs.step (AH.has.rd ((((((((((((((g7.trans g8).trans g13).trans g14).trans g15).updr (Nat.le_trans (((g7.trans g8).trans g13)).size (Nat.le_refl _)) u16).updr (Nat.le_trans ((((g7.trans g8).trans g13).trans g14)).size (Nat.le_refl _)) u17).trans g19).trans g20).updr (Nat.le_trans ((((((((g7.trans g8).trans g13).trans g14).trans g15).updr (Nat.le_trans (((g7.trans g8).trans g13)).size (Nat.le_refl _)) u16).updr (Nat.le_trans ((((g7.trans g8).trans g13).trans g14)).size (Nat.le_refl _)) u17).trans g19)).size (Nat.le_refl _)) u21).trans g22).trans g23).updr (Nat.le_trans (((((((((((g7.trans g8).trans g13).trans g14).trans g15).updr (Nat.le_trans (((g7.trans g8).trans g13)).size (Nat.le_refl _)) u16).updr (Nat.le_trans ((((g7.trans g8).trans g13).trans g14)).size (Nat.le_refl _)) u17).trans g19).trans g20).updr (Nat.le_trans ((((((((g7.trans g8).trans g13).trans g14).trans g15).updr (Nat.le_trans (((g7.trans g8).trans g13)).size (Nat.le_refl _)) u16).updr (Nat.le_trans ((((g7.trans g8).trans g13).trans g14)).size (Nat.le_refl _)) u17).trans g19)).size (Nat.le_refl _)) u21).trans g22)).size (Nat.le_refl _)) u24).trans g27).has b6) 0 rfl rfl) ?_
                        refine Runs.step (AH.has.rd ((((((((((((((g7.trans g8).trans g13).trans g14).trans g15).updr (Nat.le_trans (((g7.trans g8).trans g13)).size (Nat.le_refl _)) u16).updr (Nat.le_trans ((((g7.trans g8).trans g13).trans g14)).size (Nat.le_refl _)) u17).trans g19).trans g20).updr (Nat.le_trans ((((((((g7.trans g8).trans g13).trans g14).trans g15).updr (Nat.le_trans (((g7.trans g8).trans g13)).size (Nat.le_refl _)) u16).updr (Nat.le_trans ((((g7.trans g8).trans g13).trans g14)).size (Nat.le_refl _)) u17).trans g19)).size (Nat.le_refl _)) u21).trans g22).trans g23).updr (Nat.le_trans (((((((((((g7.trans g8).trans g13).trans g14).trans g15).updr (Nat.le_trans (((g7.trans g8).trans g13)).size (Nat.le_refl _)) u16).updr (Nat.le_trans ((((g7.trans g8).trans g13).trans g14)).size (Nat.le_refl _)) u17).trans g19).trans g20).updr (Nat.le_trans ((((((((g7.trans g8).trans g13).trans g14).trans g15).updr (Nat.le_trans (((g7.trans g8).trans g13)).size (Nat.le_refl _)) u16).updr (Nat.le_trans ((((g7.trans g8).trans g13).trans g14)).size (Nat.le_refl _)) u17).trans g19)).size (Nat.le_refl _)) u21).trans g22)).size (Nat.le_refl _)) u24).trans g27).has b6) 1 rfl (asSl_v _)) ?_
                        obtain ⟨H32, e32, g32⟩ := modint_Cmp_spec (n13b.grow ((((((((((g14.trans g15).updr (Nat.le_refl _) u16).updr (Nat.le_trans (g14).size (Nat.le_refl _)) u17).trans g19).trans g20).updr (Nat.le_trans (((((g14.trans g15).updr (Nat.le_refl _) u16).updr (Nat.le_trans (g14).size (Nat.le_refl _)) u17).trans g19)).size (Nat.le_refl _)) u21).trans g22).trans g23).updr (Nat.le_trans ((((((((g14.trans g15).updr (Nat.le_refl _) u16).updr (Nat.le_trans (g14).size (Nat.le_refl _)) u17).trans g19).trans g20).updr (Nat.le_trans (((((g14.trans g15).updr (Nat.le_refl _) u16).updr (Nat.le_trans (g14).size (Nat.le_refl _)) u17).trans g19)).size (Nat.le_refl _)) u21).trans g22)).size (Nat.le_refl _)) u24).trans g27)) (n4.grow (((((((((((((((g5.trans g6).trans g7).trans g8).trans g13).trans g14).trans g15).updr (Nat.le_trans (((((g5.trans g6).trans g7).trans g8).trans g13)).size (Nat.le_refl _)) u16).updr (Nat.le_trans ((((((g5.trans g6).trans g7).trans g8).trans g13).trans g14)).size (Nat.le_refl _)) u17).trans g19).trans g20).updr (Nat.le_trans ((((((((((g5.trans g6).trans g7).trans g8).trans g13).trans g14).trans g15).updr (Nat.le_trans (((((g5.trans g6).trans g7).trans g8).trans g13)).size (Nat.le_refl _)) u16).updr (Nat.le_trans ((((((g5.trans g6).trans g7).trans g8).trans g13).trans g14)).size (Nat.le_refl _)) u17).trans g19)).size (Nat.le_refl _)) u21).trans g22).trans g23).updr (Nat.le_trans (((((((((((((g5.trans g6).trans g7).trans g8).trans g13).trans g14).trans g15).updr (Nat.le_trans (((((g5.trans g6).trans g7).trans g8).trans g13)).size (Nat.le_refl _)) u16).updr (Nat.le_trans ((((((g5.trans g6).trans g7).trans g8).trans g13).trans g14)).size (Nat.le_refl _)) u17).trans g19).trans g20).updr (Nat.le_trans ((((((((((g5.trans g6).trans g7).trans g8).trans g13).trans g14).trans g15).updr (Nat.le_trans (((((g5.trans g6).trans g7).trans g8).trans g13)).size (Nat.le_refl _)) u16).updr (Nat.le_trans ((((((g5.trans g6).trans g7).trans g8).trans g13).trans g14)).size (Nat.le_refl _)) u17).trans g19)).size (Nat.le_refl _)) u21).trans g22)).size (Nat.le_refl _)) u24).trans g27)) (((floorI a1 x2 a3 x4).2.2.1)) a3
                        refine Runs.step e32 ?_
                        refine Runs.step (seen (avInt_int _ _)) ?_
                        cases e
                        cases good
                        exact Runs.ret ⟨rfl, ((((((((((((((((g5.trans g6).trans g7).trans g8).trans g13).trans g14).trans g15).updr (Nat.le_trans (((((g5.trans g6).trans g7).trans g8).trans g13)).size (Nat.le_refl _)) u16).updr (Nat.le_trans ((((((g5.trans g6).trans g7).trans g8).trans g13).trans g14)).size (Nat.le_refl _)) u17).trans g19).trans g20).updr (Nat.le_trans ((((((((((g5.trans g6).trans g7).trans g8).trans g13).trans g14).trans g15).updr (Nat.le_trans (((((g5.trans g6).trans g7).trans g8).trans g13)).size (Nat.le_refl _)) u16).updr (Nat.le_trans ((((((g5.trans g6).trans g7).trans g8).trans g13).trans g14)).size (Nat.le_refl _)) u17).trans g19)).size (Nat.le_refl _)) u21).trans g22).trans g23).updr (Nat.le_trans (((((((((((((g5.trans g6).trans g7).trans g8).trans g13).trans g14).trans g15).updr (Nat.le_trans (((((g5.trans g6).trans g7).trans g8).trans g13)).size (Nat.le_refl _)) u16).updr (Nat.le_trans ((((((g5.trans g6).trans g7).trans g8).trans g13).trans g14)).size (Nat.le_refl _)) u17).trans g19).trans g20).updr (Nat.le_trans ((((((((((g5.trans g6).trans g7).trans g8).trans g13).trans g14).trans g15).updr (Nat.le_trans (((((g5.trans g6).trans g7).trans g8).trans g13)).size (Nat.le_refl _)) u16).updr (Nat.le_trans ((((((g5.trans g6).trans g7).trans g8).trans g13).trans g14)).size (Nat.le_refl _)) u17).trans g19)).size (Nat.le_refl _)) u21).trans g22)).size (Nat.le_refl _)) u24).trans g27).trans g32)⟩
                      · replace e := (condF k31).symm.trans e
                        cases e
                        cases good
                        exact Runs.ret ⟨rfl, (((((((((((((((g5.trans g6).trans g7).trans g8).trans g13).trans g14).trans g15).updr (Nat.le_trans (((((g5.trans g6).trans g7).trans g8).trans g13)).size (Nat.le_refl _)) u16).updr (Nat.le_trans ((((((g5.trans g6).trans g7).trans g8).trans g13).trans g14)).size (Nat.le_refl _)) u17).trans g19).trans g20).updr (Nat.le_trans ((((((((((g5.trans g6).trans g7).trans g8).trans g13).trans g14).trans g15).updr (Nat.le_trans (((((g5.trans g6).trans g7).trans g8).trans g13)).size (Nat.le_refl _)) u16).updr (Nat.le_trans ((((((g5.trans g6).trans g7).trans g8).trans g13).trans g14)).size (Nat.le_refl _)) u17).trans g19)).size (Nat.le_refl _)) u21).trans g22).trans g23).updr (Nat.le_trans (((((((((((((g5.trans g6).trans g7).trans g8).trans g13).trans g14).trans g15).updr (Nat.le_trans (((((g5.trans g6).trans g7).trans g8).trans g13)).size (Nat.le_refl _)) u16).updr (Nat.le_trans ((((((g5.trans g6).trans g7).trans g8).trans g13).trans g14)).size (Nat.le_refl _)) u17).trans g19).trans g20).updr (Nat.le_trans ((((((((((g5.trans g6).trans g7).trans g8).trans g13).trans g14).trans g15).updr (Nat.le_trans (((((g5.trans g6).trans g7).trans g8).trans g13)).size (Nat.le_refl _)) u16).updr (Nat.le_trans ((((((g5.trans g6).trans g7).trans g8).trans g13).trans g14)).size (Nat.le_refl _)) u17).trans g19)).size (Nat.le_refl _)) u21).trans g22)).size (Nat.le_refl _)) u24).trans g27)⟩
                    · replace e := (condF k30).symm.trans e
                      cases e
                      cases good
                      exact Runs.ret ⟨rfl, (((((((((((((((g5.trans g6).trans g7).trans g8).trans g13).trans g14).trans g15).updr (Nat.le_trans (((((g5.trans g6).trans g7).trans g8).trans g13)).size (Nat.le_refl _)) u16).updr (Nat.le_trans ((((((g5.trans g6).trans g7).trans g8).trans g13).trans g14)).size (Nat.le_refl _)) u17).trans g19).trans g20).updr (Nat.le_trans ((((((((((g5.trans g6).trans g7).trans g8).trans g13).trans g14).trans g15).updr (Nat.le_trans (((((g5.trans g6).trans g7).trans g8).trans g13)).size (Nat.le_refl _)) u16).updr (Nat.le_trans ((((((g5.trans g6).trans g7).trans g8).trans g13).trans g14)).size (Nat.le_refl _)) u17).trans g19)).size (Nat.le_refl _)) u21).trans g22).trans g23).updr (Nat.le_trans (((((((((((((g5.trans g6).trans g7).trans g8).trans g13).trans g14).trans g15).updr (Nat.le_trans (((((g5.trans g6).trans g7).trans g8).trans g13)).size (Nat.le_refl _)) u16).updr (Nat.le_trans ((((((g5.trans g6).trans g7).trans g8).trans g13).trans g14)).size (Nat.le_refl _)) u17).trans g19).trans g20).updr (Nat.le_trans ((((((((((g5.trans g6).trans g7).trans g8).trans g13).trans g14).trans g15).updr (Nat.le_trans (((((g5.trans g6).trans g7).trans g8).trans g13)).size (Nat.le_refl _)) u16).updr (Nat.le_trans ((((((g5.trans g6).trans g7).trans g8).trans g13).trans g14)).size (Nat.le_refl _)) u17).trans g19)).size (Nat.le_refl _)) u21).trans g22)).size (Nat.le_refl _)) u24).trans g27)⟩
                  · replace e := (condF k29).symm.trans e
                    cases e
                    cases good
                    exact Runs.ret ⟨rfl, (((((((((((((((g5.trans g6).trans g7).trans g8).trans g13).trans g14).trans g15).updr (Nat.le_trans (((((g5.trans g6).trans g7).trans g8).trans g13)).size (Nat.le_refl _)) u16).updr (Nat.le_trans ((((((g5.trans g6).trans g7).trans g8).trans g13).trans g14)).size (Nat.le_refl _)) u17).trans g19).trans g20).updr (Nat.le_trans ((((((((((g5.trans g6).trans g7).trans g8).trans g13).trans g14).trans g15).updr (Nat.le_trans (((((g5.trans g6).trans g7).trans g8).trans g13)).size (Nat.le_refl _)) u16).updr (Nat.le_trans ((((((g5.trans g6).trans g7).trans g8).trans g13).trans g14)).size (Nat.le_refl _)) u17).trans g19)).size (Nat.le_refl _)) u21).trans g22).trans g23).updr (Nat.le_trans (((((((((((((g5.trans g6).trans g7).trans g8).trans g13).trans g14).trans g15).updr (Nat.le_trans (((((g5.trans g6).trans g7).trans g8).trans g13)).size (Nat.le_refl _)) u16).updr (Nat.le_trans ((((((g5.trans g6).trans g7).trans g8).trans g13).trans g14)).size (Nat.le_refl _)) u17).trans g19).trans g20).updr (Nat.le_trans ((((((((((g5.trans g6).trans g7).trans g8).trans g13).trans g14).trans g15).updr (Nat.le_trans (((((g5.trans g6).trans g7).trans g8).trans g13)).size (Nat.le_refl _)) u16).updr (Nat.le_trans ((((((g5.trans g6).trans g7).trans g8).trans g13).trans g14)).size (Nat.le_refl _)) u17).trans g19)).size (Nat.le_refl _)) u21).trans g22)).size (Nat.le_refl _)) u24).trans g27)⟩
                · replace e := (condF k28).symm.trans e
                  cases e
                  cases good
                  exact Runs.ret ⟨rfl, (((((((((((((((g5.trans g6).trans g7).trans g8).trans g13).trans g14).trans g15).updr (Nat.le_trans (((((g5.trans g6).trans g7).trans g8).trans g13)).size (Nat.le_refl _)) u16).updr (Nat.le_trans ((((((g5.trans g6).trans g7).trans g8).trans g13).trans g14)).size (Nat.le_refl _)) u17).trans g19).trans g20).updr (Nat.le_trans ((((((((((g5.trans g6).trans g7).trans g8).trans g13).trans g14).trans g15).updr (Nat.le_trans (((((g5.trans g6).trans g7).trans g8).trans g13)).size (Nat.le_refl _)) u16).updr (Nat.le_trans ((((((g5.trans g6).trans g7).trans g8).trans g13).trans g14)).size (Nat.le_refl _)) u17).trans g19)).size (Nat.le_refl _)) u21).trans g22).trans g23).updr (Nat.le_trans (((((((((((((g5.trans g6).trans g7).trans g8).trans g13).trans g14).trans g15).updr (Nat.le_trans (((((g5.trans g6).trans g7).trans g8).trans g13)).size (Nat.le_refl _)) u16).updr (Nat.le_trans ((((((g5.trans g6).trans g7).trans g8).trans g13).trans g14)).size (Nat.le_refl _)) u17).trans g19).trans g20).updr (Nat.le_trans ((((((((((g5.trans g6).trans g7).trans g8).trans g13).trans g14).trans g15).updr (Nat.le_trans (((((g5.trans g6).trans g7).trans g8).trans g13)).size (Nat.le_refl _)) u16).updr (Nat.le_trans ((((((g5.trans g6).trans g7).trans g8).trans g13).trans g14)).size (Nat.le_refl _)) u17).trans g19)).size (Nat.le_refl _)) u21).trans g22)).size (Nat.le_refl _)) u24).trans g27)⟩

theorem law03_ModintBack_run {s : law03_ModintBack_St} {r : law03_ModintBack_Res} (it : Iter law03_ModintBack_step s r) : law03_ModintBack_At r s := Iter.ind (fun s o e good => by
  cases s with
  | fn a1 x2 a3 x4 => exact @law03_ModintBack_fn_walk _ _ a1 x2 a3 x4 e good
  | no => exact True.intro
  ) it

theorem law03_ModintBack_opt {h : AH} {a2 : Sl} {a4 : Sl} {a1 : Bool} {x2 : List Nat} {a3 : Bool} {x4 : List Nat} (n2 : Nats h a2 x2) (n4 : Nats h a4 x4) {r : law03_ModintBack_Res} (q : runP law03_ModintBack_step (.fn a1 x2 a3 x4) = some r) : Runs (go (.fn F.law03_ModintBack [.agg [.bool a1, a2.v], .agg [.bool a3, a4.v]]) h) (law03_ModintBack_post h r) := law03_ModintBack_run (runP_iter q) n2 n4

end Go.Ab

/- Layer 3: the laws of Gcd and Floor. -/
set_option linter.unusedVariables false
set_option linter.unusedSimpArgs false
set_option maxRecDepth 10000
namespace Go.Ab
open Go.Proofs Go.Num

theorem ModintGcds_iter (xs ys : List Nat) : Iter law03_ModintGcds_step (.fn xs ys) true := by
  refine .done ?_
  show law03_ModintGcds_fn' _ _ = _
  unfold law03_ModintGcds_fn'
  refine cond_elim (fun _ => rfl) fun _ => ?_
  have : gcdN [1] [] = ([1], 0) := by decide +kernel
  rw [u64P_one, Option.bind_some, this]
  simp

theorem ModintGcds_law (h : AH) {x0 x1 : AV} (z0 : ArgV Pg h T.api_Nat x0) (z1 : ArgV Pg h T.api_Nat x1) : ∃ h', go (.fn F.law03_ModintGcds [x0, x1]) h = some (.bool true, h') := by
  obtain ⟨s, xs, rfl, n⟩ := nat_of_arg z0
  obtain ⟨t, ys, rfl, m⟩ := nat_of_arg z1
  obtain ⟨_, h', e, rfl, _⟩ := law03_ModintGcds_run (ModintGcds_iter xs ys) n m
  exact ⟨h', e⟩

theorem ModintFloors_iter (p : Bool) (xs : List Nat) (q : Bool) (ys : List Nat) : Iter law03_ModintFloors_step (.fn p xs q ys) true := by
  refine .done ?_
  show law03_ModintFloors_fn' _ _ _ _ = _
  unfold law03_ModintFloors_fn'
  refine cond_elim (fun _ => rfl) fun _ => ?_
  have : floorI false [1] false [1] = (false, [1], false, [], 0) := by decide +kernel
  rw [u64P_one, Option.bind_some, Option.bind_some, this]
  simp

theorem ModintFloors_law (h : AH) {x0 x1 : AV} (z0 : ArgV Pg h T.api_Int x0) (z1 : ArgV Pg h T.api_Int x1) : ∃ h', go (.fn F.law03_ModintFloors [x0, x1]) h = some (.bool true, h') := by
  obtain ⟨p, s, xs, rfl, n⟩ := apiInt_of_arg z0
  obtain ⟨q, t, ys, rfl, m⟩ := apiInt_of_arg z1
  obtain ⟨_, h', e, rfl, _⟩ := law03_ModintFloors_run (ModintFloors_iter p xs q ys) n m
  exact ⟨h', e⟩

end Go.Ab
