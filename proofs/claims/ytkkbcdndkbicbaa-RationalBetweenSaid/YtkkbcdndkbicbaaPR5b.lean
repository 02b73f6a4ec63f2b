/- Layer 8: the laws, their walks: printed by wip/tools/walk.py. -/
import Derived.Test.YtkkbcdndkbicbaaPR3

set_option linter.unusedVariables false
set_option linter.unusedSimpArgs false
set_option maxRecDepth 10000
namespace Go.Ab
open Go.Proofs Go.Num

inductive law08_RationalBetween_St
  | fn (a1 : Bool) (x2 : List Nat) (x3 : List Nat)
  | no

abbrev law08_RationalBetween_Res := Bool

noncomputable def law08_RationalBetween_fn' (a1 : Bool) (x2 : List Nat) (x3 : List Nat) : Option (law08_RationalBetween_St ⊕ law08_RationalBetween_Res) :=
  cond (!((fewF x2 x3))) (some (.inr true)) (cond (!true) (some (.inr true)) (cond (!((rational_Right' a1 x2 x3))) (some (.inr true)) ((need (-9223372036854775808 ≤ (1 : Int) ∧ (1 : Int) ≤ 9223372036854775807)).bind fun c16_0 => cond (!decide (((rational_Floor' a1 x2 x3).2.2) = 0)) (some (.inr (decide (((rational_Floor' a1 x2 x3).2.2) = 0)))) (cond (decide ((List.length ((rational_Floor' a1 x2 x3).2.1) : Int) > 16)) (some (.inr (decide (((rational_Floor' a1 x2 x3).2.2) = 0)))) (cond (decide ((List.length ((modint_Add' (((rational_Floor' a1 x2 x3).1)) ((rational_Floor' a1 x2 x3).2.1) ((ofI 1).1) ((ofI 1).2)).2.1) : Int) > 16)) (some (.inr (decide (((rational_Floor' a1 x2 x3).2.2) = 0)))) ((u64P 1).bind fun w28 => cond (decide (((rational_Cmp' ((((rational_Floor' a1 x2 x3).1))) ((rational_Floor' a1 x2 x3).2.1) [w28] a1 x2 x3)) ≤ 0)) ((u64P 1).bind fun w31 => some (.inr (decide (((rational_Cmp' a1 x2 x3 ((((modint_Add' (((rational_Floor' a1 x2 x3).1)) ((rational_Floor' a1 x2 x3).2.1) ((ofI 1).1) ((ofI 1).2)).1))) ((modint_Add' (((rational_Floor' a1 x2 x3).1)) ((rational_Floor' a1 x2 x3).2.1) ((ofI 1).1) ((ofI 1).2)).2.1) [w31])) = (-1))))) (some (.inr false))))))))

noncomputable def law08_RationalBetween_step : law08_RationalBetween_St → Option (law08_RationalBetween_St ⊕ law08_RationalBetween_Res)
  | .fn a1 x2 x3 => law08_RationalBetween_fn' a1 x2 x3
  | .no => none

@[reducible] def law08_RationalBetween_post (h0 : AH) (r : law08_RationalBetween_Res) (v : AV) (h' : AH) : Prop := v = .bool r ∧ Grow h0 h'

def law08_RationalBetween_At (r : law08_RationalBetween_Res) : law08_RationalBetween_St → Prop
  | .fn a1 x2 x3 => ∀ {h : AH} {a2 : Sl} {a3 : Sl}, Nats h a2 x2 → Nats h a3 x3 → Runs (go (.fn F.law08_RationalBetween [.agg [.bool a1, a2.v, a3.v]]) h) (law08_RationalBetween_post h r)
  | .no => True

theorem law08_RationalBetween_fn_walk {r : law08_RationalBetween_Res} {o : law08_RationalBetween_St ⊕ law08_RationalBetween_Res} {a1 : Bool} {x2 : List Nat} {x3 : List Nat} (e : law08_RationalBetween_fn' a1 x2 x3 = some o) (good : GoodS (law08_RationalBetween_At r) r o) : law08_RationalBetween_At r (.fn a1 x2 x3) := by
  intro h a2 a3 n2 n3
  rw [u_law08_RationalBetween]
  unfold law08_RationalBetween_fn' at e
  refine Runs.new fun H4 b4 g4 => ?_
  refine Runs.step (AH.has.rd b4 0 rfl rfl) ?_
  refine Runs.step (AH.has.rd b4 1 rfl (asSl_v _)) ?_
  refine Runs.step (AH.has.rd b4 2 rfl (asSl_v _)) ?_
  refine Runs.new fun H5 b5 g5 => ?_
  refine Runs.step (few08_1 b5 (n2.grow (g4.trans g5)) (n3.grow (g4.trans g5))) ?_
  refine Runs.step (seen rfl) ?_
  refine Runs.cond (fun k7 => ?_) (fun k7 => ?_)
  · replace e := (condT k7).symm.trans e
    cases e
    cases good
    exact Runs.ret ⟨rfl, (g4.trans g5)⟩
  · replace e := (condF k7).symm.trans e
    obtain ⟨H8, e8, g8⟩ := awake08
    refine Runs.step e8 ?_
    refine Runs.step (seen rfl) ?_
    refine Runs.step (AH.has.rd ((g5.trans g8).has b4) 0 rfl rfl) ?_
    refine Runs.step (AH.has.rd ((g5.trans g8).has b4) 1 rfl (asSl_v _)) ?_
    refine Runs.step (AH.has.rd ((g5.trans g8).has b4) 2 rfl (asSl_v _)) ?_
    obtain ⟨_, H9, e9, rfl, g9⟩ := ref08_Right_is (n2.grow ((g4.trans g5).trans g8)) (n3.grow ((g4.trans g5).trans g8)) a1
    refine Runs.step e9 ?_
    refine Runs.step (seen rfl) ?_
    refine Runs.cond (fun k10 => ?_) (fun k10 => ?_)
    · replace e := (condT k10).symm.trans e
      cases e
      cases good
      exact Runs.ret ⟨rfl, (((g4.trans g5).trans g8).trans g9)⟩
    · replace e := (condF k10).symm.trans e
      refine Runs.cond (fun k11 => ?_) (fun k11 => ?_)
      · replace e := (condT k11).symm.trans e
        cases e
        cases good
        exact Runs.ret ⟨rfl, (((g4.trans g5).trans g8).trans g9)⟩
      · replace e := (condF k11).symm.trans e
        refine Runs.step (AH.has.rd (((g5.trans g8).trans g9).has b4) 0 rfl rfl) ?_
        refine Runs.step (AH.has.rd (((g5.trans g8).trans g9).has b4) 1 rfl (asSl_v _)) ?_
        refine Runs.step (AH.has.rd (((g5.trans g8).trans g9).has b4) 2 rfl (asSl_v _)) ?_
        obtain ⟨_, H12, e12, s12, rfl, n12, g12, o12⟩ := rational_Floor_spec (n2.grow (((g4.trans g5).trans g8).trans g9)) (n3.grow (((g4.trans g5).trans g8).trans g9)) a1
        refine Runs.step e12 ?_
        refine Runs.step rfl ?_
        refine Runs.step rfl ?_
        refine Runs.ifT rfl ?_
        refine Runs.step (seenAt rfl rfl) ?_
        refine Runs.step (seenAt rfl (asSl_v _)) ?_
        refine Runs.step (seen (avInt_int _ _)) ?_
        refine Runs.new fun H13 b13 g13 => ?_
        refine Runs.puts b13 rfl fun H14 b14 u14 => ?_
        refine Runs.new fun H15 b15 g15 => ?_
        refine Runs.step (AH.has.rd (g15.has b14) 0 rfl rfl) ?_
        refine Runs.step (AH.has.rd (g15.has b14) 1 rfl (asSl_v _)) ?_
        obtain ⟨c16_0, q16_0, e⟩ := Option.bind_eq_some_iff.1 e
        obtain ⟨s16, H16, e16, n16, g16, o16⟩ := ref03_Of_need 1  c16_0.down
        refine Runs.step e16 ?_
        refine Runs.step rfl ?_
        refine Runs.ifT rfl ?_
        refine Runs.step (seenAt rfl rfl) ?_
        refine Runs.step (seenAt rfl (asSl_v _)) ?_
        refine Runs.when (g16.same (g15.has b14) 0 2) ?_
        refine Runs.when (g16.same b15 0 0) ?_
        obtain ⟨_, H17, e17, s17, rfl, n17, g17, o17⟩ := ref03_Add_is (n12.grow (((g13.updr (Nat.le_refl _) u14).trans g15).trans g16)) n16 (((rational_Floor' a1 x2 x3).1)) ((ofI 1).1)
        refine Runs.step e17 ?_
        refine Runs.step rfl ?_
        refine Runs.step rfl ?_
        refine Runs.ifT rfl ?_
        refine Runs.step (seenAt rfl rfl) ?_
        refine Runs.step (seenAt rfl (asSl_v _)) ?_
        refine Runs.step (seen (avInt_int _ _)) ?_
        refine Runs.when (g17.same (g16.has b15) 0 0) ?_
        refine Runs.puts ((g16.trans g17).has b15) rfl fun H18 b18 u18 => ?_
        have n16_18 := (n16.grow g17).upda (Av.of_own o16 (b15).lt) u18
        have n17_18 := n17.upda (Av.of_own o17 (g16.has b15).lt) u18
        refine Runs.cond (fun k19 => ?_) (fun k19 => ?_)
        · replace e := (condT k19).symm.trans e
          cases e
          cases good
          exact Runs.ret ⟨rfl, ((((((((((g4.trans g5).trans g8).trans g9).trans g12).trans g13).updr (Nat.le_trans (((((g4.trans g5).trans g8).trans g9).trans g12)).size (Nat.le_refl _)) u14).trans g15).trans g16).trans g17).updr (Nat.le_trans (((((((g4.trans g5).trans g8).trans g9).trans g12).trans g13).updr (Nat.le_trans (((((g4.trans g5).trans g8).trans g9).trans g12)).size (Nat.le_refl _)) u14)).size (Nat.le_refl _)) u18)⟩
        · replace e := (condF k19).symm.trans e
          refine Runs.step (AH.has.rd ((((g15.trans g16).trans g17).updr (Nat.le_refl _) u18).has b14) 1 rfl (asSl_v _)) ?_
          rw [(n12.grow (((((g13.updr (Nat.le_refl _) u14).trans g15).trans g16).trans g17).updr (Nat.le_trans ((g13.updr (Nat.le_refl _) u14)).size (Nat.le_refl _)) u18)).len]
          refine Runs.cond (fun k20 => ?_) (fun k20 => ?_)
          · replace e := (condT k20).symm.trans e
            cases e
            cases good
            exact Runs.ret ⟨rfl, ((((((((((g4.trans g5).trans g8).trans g9).trans g12).trans g13).updr (Nat.le_trans (((((g4.trans g5).trans g8).trans g9).trans g12)).size (Nat.le_refl _)) u14).trans g15).trans g16).trans g17).updr (Nat.le_trans (((((((g4.trans g5).trans g8).trans g9).trans g12).trans g13).updr (Nat.le_trans (((((g4.trans g5).trans g8).trans g9).trans g12)).size (Nat.le_refl _)) u14)).size (Nat.le_refl _)) u18)⟩
          · replace e := (condF k20).symm.trans e
            refine Runs.step (AH.has.rd b18 1 rfl (asSl_v _)) ?_
            rw [n17_18.len]
            refine Runs.cond (fun k21 => ?_) (fun k21 => ?_)
            · replace e := (condT k21).symm.trans e
              cases e
              cases good
              exact Runs.ret ⟨rfl, ((((((((((g4.trans g5).trans g8).trans g9).trans g12).trans g13).updr (Nat.le_trans (((((g4.trans g5).trans g8).trans g9).trans g12)).size (Nat.le_refl _)) u14).trans g15).trans g16).trans g17).updr (Nat.le_trans (((((((g4.trans g5).trans g8).trans g9).trans g12).trans g13).updr (Nat.le_trans (((((g4.trans g5).trans g8).trans g9).trans g12)).size (Nat.le_refl _)) u14)).size (Nat.le_refl _)) u18)⟩
            · replace e := (condF k21).symm.trans e
              refine Runs.step (AH.has.rd ((((g15.trans g16).trans g17).updr (Nat.le_refl _) u18).has b14) 0 rfl rfl) ?_
              refine Runs.step (AH.has.rd ((((g15.trans g16).trans g17).updr (Nat.le_refl _) u18).has b14) 1 rfl (asSl_v _)) ?_
              refine Runs.new fun H22 b22 g22 => ?_
              refine Runs.new fun H23 b23 g23 => ?_
              refine Runs.puts b23 rfl fun H24 b24 u24 => ?_
              refine Runs.step (AH.has.rd (((g22.trans g23).updr (Nat.le_trans (g22).size (Nat.le_refl _)) u24).has b18) 0 rfl rfl) ?_
              refine Runs.step (AH.has.rd (((g22.trans g23).updr (Nat.le_trans (g22).size (Nat.le_refl _)) u24).has b18) 1 rfl (asSl_v _)) ?_
              refine Runs.new fun H25 b25 g25 => ?_
              refine Runs.new fun H26 b26 g26 => ?_
              refine Runs.puts b26 rfl fun H27 b27 u27 => ?_
              refine Runs.step (AH.has.rd (((g25.trans g26).updr (Nat.le_trans (g25).size (Nat.le_refl _)) u27).has b24) 0 rfl rfl) ?_
              refine Runs.step (AH.has.rd (((g25.trans g26).updr (Nat.le_trans (g25).size (Nat.le_refl _)) u27).has b24) 1 rfl (asSl_v _)) ?_
              refine Runs.step (AH.has.rd (((g25.trans g26).updr (Nat.le_trans (g25).size (Nat.le_refl _)) u27).has b24) 2 rfl (asSl_v _)) ?_
              refine Runs.step (AH.has.rd ((((((((((((((((g5.trans g8).trans g9).trans g12).trans g13).updr (Nat.le_trans ((((g5.trans g8).trans g9).trans g12)).size (Nat.le_refl _)) u14).trans g15).trans g16).trans g17).updr (Nat.le_trans ((((((g5.trans g8).trans g9).trans g12).trans g13).updr (Nat.le_trans ((((g5.trans g8).trans g9).trans g12)).size (Nat.le_refl _)) u14)).size (Nat.le_refl _)) u18).trans g22).trans g23).updr (Nat.le_trans (((((((((((g5.trans g8).trans g9).trans g12).trans g13).updr (Nat.le_trans ((((g5.trans g8).trans g9).trans g12)).size (Nat.le_refl _)) u14).trans g15).trans g16).trans g17).updr (Nat.le_trans ((((((g5.trans g8).trans g9).trans g12).trans g13).updr (Nat.le_trans ((((g5.trans g8).trans g9).trans g12)).size (Nat.le_refl _)) u14)).size (Nat.le_refl _)) u18).trans g22)).size (Nat.le_refl _)) u24).trans g25).trans g26).updr (Nat.le_trans ((((((((((((((g5.trans g8).trans g9).trans g12).trans g13).updr (Nat.le_trans ((((g5.trans g8).trans g9).trans g12)).size (Nat.le_refl _)) u14).trans g15).trans g16).trans g17).updr (Nat.le_trans ((((((g5.trans g8).trans g9).trans g12).trans g13).updr (Nat.le_trans ((((g5.trans g8).trans g9).trans g12)).size (Nat.le_refl _)) u14)).size (Nat.le_refl _)) u18).trans g22).trans g23).updr (Nat.le_trans (((((((((((g5.trans g8).trans g9).trans g12).trans g13).updr (Nat.le_trans ((((g5.trans g8).trans g9).trans g12)).size (Nat.le_refl _)) u14).trans g15).trans g16).trans g17).updr (Nat.le_trans ((((((g5.trans g8).trans g9).trans g12).trans g13).updr (Nat.le_trans ((((g5.trans g8).trans g9).trans g12)).size (Nat.le_refl _)) u14)).size (Nat.le_refl _)) u18).trans g22)).size (Nat.le_refl _)) u24).trans g25)).size (Nat.le_refl _)) u27).has b4) 0 rfl rfl) ?_
              refine Runs.step (AH.has.rd ((((((((((((((((g5.trans g8).trans g9).trans g12).trans g13).updr (Nat.le_trans ((((g5.trans g8).trans g9).trans g12)).size (Nat.le_refl _)) u14).trans g15).trans g16).trans g17).updr (Nat.le_trans ((((((g5.trans g8).trans g9).trans g12).trans g13).updr (Nat.le_trans ((((g5.trans g8).trans g9).trans g12)).size (Nat.le_refl _)) u14)).size (Nat.le_refl _)) u18).trans g22).trans g23).updr (Nat.le_trans (((((((((((g5.trans g8).trans g9).trans g12).trans g13).updr (Nat.le_trans ((((g5.trans g8).trans g9).trans g12)).size (Nat.le_refl _)) u14).trans g15).trans g16).trans g17).updr (Nat.le_trans ((((((g5.trans g8).trans g9).trans g12).trans g13).updr (Nat.le_trans ((((g5.trans g8).trans g9).trans g12)).size (Nat.le_refl _)) u14)).size (Nat.le_refl _)) u18).trans g22)).size (Nat.le_refl _)) u24).trans g25).trans g26).updr (Nat.le_trans ((((((((((((((g5.trans g8).trans g9).trans g12).trans g13).updr (Nat.le_trans ((((g5.trans g8).trans g9).trans g12)).size (Nat.le_refl _)) u14).trans g15).trans g16).trans g17).updr (Nat.le_trans ((((((g5.trans g8).trans g9).trans g12).trans g13).updr (Nat.le_trans ((((g5.trans g8).trans g9).trans g12)).size (Nat.le_refl _)) u14)).size (Nat.le_refl _)) u18).trans g22).trans g23).updr (Nat.le_trans (((((((((((g5.trans g8).trans g9).trans g12).trans g13).updr (Nat.le_trans ((((g5.trans g8).trans g9).trans g12)).size (Nat.le_refl _)) u14).trans g15).trans g16).trans g17).updr (Nat.le_trans ((((((g5.trans g8).trans g9).trans g12).trans g13).updr (Nat.le_trans ((((g5.trans g8).trans g9).trans g12)).size (Nat.le_refl _)) u14)).size (Nat.le_refl _)) u18).trans g22)).size (Nat.le_refl _)) u24).trans g25)).size (Nat.le_refl _)) u27).has b4) 1 rfl (asSl_v _)) ?_
              refine Runs.step (AH.has.rd ((((((((((((((((g5.trans g8).trans g9).trans g12).trans g13).updr (Nat.le_trans ((((g5.trans g8).trans g9).trans g12)).size (Nat.le_refl _)) u14).trans g15).trans g16).trans g17).updr (Nat.le_trans ((((((g5.trans g8).trans g9).trans g12).trans g13).updr (Nat.le_trans ((((g5.trans g8).trans g9).trans g12)).size (Nat.le_refl _)) u14)).size (Nat.le_refl _)) u18).trans g22).trans g23).updr (Nat.le_trans (((((((((((g5.trans g8).trans g9).trans g12).trans g13).updr (Nat.le_trans ((((g5.trans g8).trans g9).trans g12)).size (Nat.le_refl _)) u14).trans g15).trans g16).trans g17).updr (Nat.le_trans ((((((g5.trans g8).trans g9).trans g12).trans g13).updr (Nat.le_trans ((((g5.trans g8).trans g9).trans g12)).size (Nat.le_refl _)) u14)).size (Nat.le_refl _)) u18).trans g22)).size (Nat.le_refl _)) u24).trans g25).trans g26).updr (Nat.le_trans ((((((((((((((g5.trans g8).trans g9).trans g12).trans g13).updr (Nat.le_trans ((((g5.trans g8).trans g9).trans g12)).size (Nat.le_refl _)) u14).trans g15).trans g16).trans g17).updr (Nat.le_trans ((((((g5.trans g8).trans g9).trans g12).trans g13).updr (Nat.le_trans ((((g5.trans g8).trans g9).trans g12)).size (Nat.le_refl _)) u14)).size (Nat.le_refl _)) u18).trans g22).trans g23).updr (Nat.le_trans (((((((((((g5.trans g8).trans g9).trans g12).trans g13).updr (Nat.le_trans ((((g5.trans g8).trans g9).trans g12)).size (Nat.le_refl _)) u14).trans g15).trans g16).trans g17).updr (Nat.le_trans ((((((g5.trans g8).trans g9).trans g12).trans g13).updr (Nat.le_trans ((((g5.trans g8).trans g9).trans g12)).size (Nat.le_refl _)) u14)).size (Nat.le_refl _)) u18).trans g22)).size (Nat.le_refl _)) u24).trans g25)).size (Nat.le_refl _)) u27).has b4) 2 rfl (asSl_v _)) ?_
              obtain ⟨w28, z28, e⟩ := Option.bind_eq_some_iff.1 e
              obtain ⟨_, H29, e29, rfl, g29⟩ := rational_Cmp_spec (n12.grow (((((((((((g13.updr (Nat.le_refl _) u14).trans g15).trans g16).trans g17).updr (Nat.le_trans ((g13.updr (Nat.le_refl _) u14)).size (Nat.le_refl _)) u18).trans g22).trans g23).updr (Nat.le_trans (((((((g13.updr (Nat.le_refl _) u14).trans g15).trans g16).trans g17).updr (Nat.le_trans ((g13.updr (Nat.le_refl _) u14)).size (Nat.le_refl _)) u18).trans g22)).size (Nat.le_refl _)) u24).trans g25).trans g26).updr (Nat.le_trans ((((((((((g13.updr (Nat.le_refl _) u14).trans g15).trans g16).trans g17).updr (Nat.le_trans ((g13.updr (Nat.le_refl _) u14)).size (Nat.le_refl _)) u18).trans g22).trans g23).updr (Nat.le_trans (((((((g13.updr (Nat.le_refl _) u14).trans g15).trans g16).trans g17).updr (Nat.le_trans ((g13.updr (Nat.le_refl _) u14)).size (Nat.le_refl _)) u18).trans g22)).size (Nat.le_refl _)) u24).trans g25)).size (Nat.le_refl _)) u27)) (Nats.of_has1 (((((g23.updr (Nat.le_refl _) u24).trans g25).trans g26).updr (Nat.le_trans (((g23.updr (Nat.le_refl _) u24).trans g25)).size (Nat.le_refl _)) u27).has b22) z28) (n2.grow ((((((((((((((((g4.trans g5).trans g8).trans g9).trans g12).trans g13).updr (Nat.le_trans (((((g4.trans g5).trans g8).trans g9).trans g12)).size (Nat.le_refl _)) u14).trans g15).trans g16).trans g17).updr (Nat.le_trans (((((((g4.trans g5).trans g8).trans g9).trans g12).trans g13).updr (Nat.le_trans (((((g4.trans g5).trans g8).trans g9).trans g12)).size (Nat.le_refl _)) u14)).size (Nat.le_refl _)) u18).trans g22).trans g23).updr (Nat.le_trans ((((((((((((g4.trans g5).trans g8).trans g9).trans g12).trans g13).updr (Nat.le_trans (((((g4.trans g5).trans g8).trans g9).trans g12)).size (Nat.le_refl _)) u14).trans g15).trans g16).trans g17).updr (Nat.le_trans (((((((g4.trans g5).trans g8).trans g9).trans g12).trans g13).updr (Nat.le_trans (((((g4.trans g5).trans g8).trans g9).trans g12)).size (Nat.le_refl _)) u14)).size (Nat.le_refl _)) u18).trans g22)).size (Nat.le_refl _)) u24).trans g25).trans g26).updr (Nat.le_trans (((((((((((((((g4.trans g5).trans g8).trans g9).trans g12).trans g13).updr (Nat.le_trans (((((g4.trans g5).trans g8).trans g9).trans g12)).size (Nat.le_refl _)) u14).trans g15).trans g16).trans g17).updr (Nat.le_trans (((((((g4.trans g5).trans g8).trans g9).trans g12).trans g13).updr (Nat.le_trans (((((g4.trans g5).trans g8).trans g9).trans g12)).size (Nat.le_refl _)) u14)).size (Nat.le_refl _)) u18).trans g22).trans g23).updr (Nat.le_trans ((((((((((((g4.trans g5).trans g8).trans g9).trans g12).trans g13).updr (Nat.le_trans (((((g4.trans g5).trans g8).trans g9).trans g12)).size (Nat.le_refl _)) u14).trans g15).trans g16).trans g17).updr (Nat.le_trans (((((((g4.trans g5).trans g8).trans g9).trans g12).trans g13).updr (Nat.le_trans (((((g4.trans g5).trans g8).trans g9).trans g12)).size (Nat.le_refl _)) u14)).size (Nat.le_refl _)) u18).trans g22)).size (Nat.le_refl _)) u24).trans g25)).size (Nat.le_refl _)) u27)) (n3.grow ((((((((((((((((g4.trans g5).trans g8).trans g9).trans g12).trans g13).updr (Nat.le_trans (((((g4.trans g5).trans g8).trans g9).trans g12)).size (Nat.le_refl _)) u14).trans g15).trans g16).trans g17).updr (Nat.le_trans (((((((g4.trans g5).trans g8).trans g9).trans g12).trans g13).updr (Nat.le_trans (((((g4.trans g5).trans g8).trans g9).trans g12)).size (Nat.le_refl _)) u14)).size (Nat.le_refl _)) u18).trans g22).trans g23).updr (Nat.le_trans ((((((((((((g4.trans g5).trans g8).trans g9).trans g12).trans g13).updr (Nat.le_trans (((((g4.trans g5).trans g8).trans g9).trans g12)).size (Nat.le_refl _)) u14).trans g15).trans g16).trans g17).updr (Nat.le_trans (((((((g4.trans g5).trans g8).trans g9).trans g12).trans g13).updr (Nat.le_trans (((((g4.trans g5).trans g8).trans g9).trans g12)).size (Nat.le_refl _)) u14)).size (Nat.le_refl _)) u18).trans g22)).size (Nat.le_refl _)) u24).trans g25).trans g26).updr (Nat.le_trans (((((((((((((((g4.trans g5).trans g8).trans g9).trans g12).trans g13).updr (Nat.le_trans (((((g4.trans g5).trans g8).trans g9).trans g12)).size (Nat.le_refl _)) u14).trans g15).trans g16).trans g17).updr (Nat.le_trans (((((((g4.trans g5).trans g8).trans g9).trans g12).trans g13).updr (Nat.le_trans (((((g4.trans g5).trans g8).trans g9).trans g12)).size (Nat.le_refl _)) u14)).size (Nat.le_refl _)) u18).trans g22).trans g23).updr (Nat.le_trans ((((((((((((g4.trans g5).trans g8).trans g9).trans g12).trans g13).updr (Nat.le_trans (((((g4.trans g5).trans g8).trans g9).trans g12)).size (Nat.le_refl _)) u14).trans g15).trans g16).trans g17).updr (Nat.le_trans (((((((g4.trans g5).trans g8).trans g9).trans g12).trans g13).updr (Nat.le_trans (((((g4.trans g5).trans g8).trans g9).trans g12)).size (Nat.le_refl _)) u14)).size (Nat.le_refl _)) u18).trans g22)).size (Nat.le_refl _)) u24).trans g25)).size (Nat.le_refl _)) u27)) ((((rational_Floor' a1 x2 x3).1))) a1
              refine Runs.step e29 ?_
              refine Runs.step (seen (avInt_int _ _)) ?_
              refine Runs.cond (fun k30 => ?_) (fun k30 => ?_)
              · replace e := (condT k30).symm.trans e
                refine Runs.step (AH.has.rd (((((((((((((((((g5.trans g8).trans g9).trans g12).trans g13).updr (Nat.le_trans ((((g5.trans g8).trans g9).trans g12)).size (Nat.le_refl _)) u14).trans g15).trans g16).trans g17).updr (Nat.le_trans ((((((g5.trans g8).trans g9).trans g12).trans g13).updr (Nat.le_trans ((((g5.trans g8).trans g9).trans g12)).size (Nat.le_refl _)) u14)).size (Nat.le_refl _)) u18).trans g22).trans g23).updr (Nat.le_trans (((((((((((g5.trans g8).trans g9).trans g12).trans g13).updr (Nat.le_trans ((((g5.trans g8).trans g9).trans g12)).size (Nat.le_refl _)) u14).trans g15).trans g16).trans g17).updr (Nat.le_trans ((((((g5.trans g8).trans g9).trans g12).trans g13).updr (Nat.le_trans ((((g5.trans g8).trans g9).trans g12)).size (Nat.le_refl _)) u14)).size (Nat.le_refl _)) u18).trans g22)).size (Nat.le_refl _)) u24).trans g25).trans g26).updr (Nat.le_trans ((((((((((((((g5.trans g8).trans g9).trans g12).trans g13).updr (Nat.le_trans ((((g5.trans g8).trans g9).trans g12)).size (Nat.le_refl _)) u14).trans g15).trans g16).trans g17).updr (Nat.le_trans ((((((g5.trans g8).trans g9).trans g12).trans g13).updr (Nat.le_trans ((((g5.trans g8).trans g9).trans g12)).size (Nat.le_refl _)) u14)).size (Nat.le_refl _)) u18).trans g22).trans g23).updr (Nat.le_trans (((((((((((g5.trans g8).trans g9).trans g12).trans g13).updr (Nat.le_trans ((((g5.trans g8).trans g9).trans g12)).size (Nat.le_refl _)) u14).trans g15).trans g16).trans g17).updr (Nat.le_trans ((((((g5.trans g8).trans g9).trans g12).trans g13).updr (Nat.le_trans ((((g5.trans g8).trans g9).trans g12)).size (Nat.le_refl _)) u14)).size (Nat.le_refl _)) u18).trans g22)).size (Nat.le_refl _)) u24).trans g25)).size (Nat.le_refl _)) u27).trans g29).has b4) 0 rfl rfl) ?_
                refine Runs.step (AH.has.rd (((((((((((((((((g5.trans g8).trans g9).trans g12).trans g13).updr (Nat.le_trans ((((g5.trans g8).trans g9).trans g12)).size (Nat.le_refl _)) u14).trans g15).trans g16).trans g17).updr (Nat.le_trans ((((((g5.trans g8).trans g9).trans g12).trans g13).updr (Nat.le_trans ((((g5.trans g8).trans g9).trans g12)).size (Nat.le_refl _)) u14)).size (Nat.le_refl _)) u18).trans g22).trans g23).updr (Nat.le_trans (((((((((((g5.trans g8).trans g9).trans g12).trans g13).updr (Nat.le_trans ((((g5.trans g8).trans g9).trans g12)).size (Nat.le_refl _)) u14).trans g15).trans g16).trans g17).updr (Nat.le_trans ((((((g5.trans g8).trans g9).trans g12).trans g13).updr (Nat.le_trans ((((g5.trans g8).trans g9).trans g12)).size (Nat.le_refl _)) u14)).size (Nat.le_refl _)) u18).trans g22)).size (Nat.le_refl _)) u24).trans g25).trans g26).updr (Nat.le_trans ((((((((((((((g5.trans g8).trans g9).trans g12).trans g13).updr (Nat.le_trans ((((g5.trans g8).trans g9).trans g12)).size (Nat.le_refl _)) u14).trans g15).trans g16).trans g17).updr (Nat.le_trans ((((((g5.trans g8).trans g9).trans g12).trans g13).updr (Nat.le_trans ((((g5.trans g8).trans g9).trans g12)).size (Nat.le_refl _)) u14)).size (Nat.le_refl _)) u18).trans g22).trans g23).updr (Nat.le_trans (((((((((((g5.trans g8).trans g9).trans g12).trans g13).updr (Nat.le_trans ((((g5.trans g8).trans g9).trans g12)).size (Nat.le_refl _)) u14).trans g15).trans g16).trans g17).updr (Nat.le_trans ((((((g5.trans g8).trans g9).trans g12).trans g13).updr (Nat.le_trans ((((g5.trans g8).trans g9).trans g12)).size (Nat.le_refl _)) u14)).size (Nat.le_refl _)) u18).trans g22)).size (Nat.le_refl _)) u24).trans g25)).size (Nat.le_refl _)) u27).trans g29).has b4) 1 rfl (asSl_v _)) ?_
                refine Runs.step (AH.has.rd (((((((((((((((((g5.trans g8).trans g9).trans g12).trans g13).updr (Nat.le_trans ((((g5.trans g8).trans g9).trans g12)).size (Nat.le_refl _)) u14).trans g15).trans g16).trans g17).updr (Nat.le_trans ((((((g5.trans g8).trans g9).trans g12).trans g13).updr (Nat.le_trans ((((g5.trans g8).trans g9).trans g12)).size (Nat.le_refl _)) u14)).size (Nat.le_refl _)) u18).trans g22).trans g23).updr (Nat.le_trans (((((((((((g5.trans g8).trans g9).trans g12).trans g13).updr (Nat.le_trans ((((g5.trans g8).trans g9).trans g12)).size (Nat.le_refl _)) u14).trans g15).trans g16).trans g17).updr (Nat.le_trans ((((((g5.trans g8).trans g9).trans g12).trans g13).updr (Nat.le_trans ((((g5.trans g8).trans g9).trans g12)).size (Nat.le_refl _)) u14)).size (Nat.le_refl _)) u18).trans g22)).size (Nat.le_refl _)) u24).trans g25).trans g26).updr (Nat.le_trans ((((((((((((((g5.trans g8).trans g9).trans g12).trans g13).updr (Nat.le_trans ((((g5.trans g8).trans g9).trans g12)).size (Nat.le_refl _)) u14).trans g15).trans g16).trans g17).updr (Nat.le_trans ((((((g5.trans g8).trans g9).trans g12).trans g13).updr (Nat.le_trans ((((g5.trans g8).trans g9).trans g12)).size (Nat.le_refl _)) u14)).size (Nat.le_refl _)) u18).trans g22).trans g23).updr (Nat.le_trans (((((((((((g5.trans g8).trans g9).trans g12).trans g13).updr (Nat.le_trans ((((g5.trans g8).trans g9).trans g12)).size (Nat.le_refl _)) u14).trans g15).trans g16).trans g17).updr (Nat.le_trans ((((((g5.trans g8).trans g9).trans g12).trans g13).updr (Nat.le_trans ((((g5.trans g8).trans g9).trans g12)).size (Nat.le_refl _)) u14)).size (Nat.le_refl _)) u18).trans g22)).size (Nat.le_refl _)) u24).trans g25)).size (Nat.le_refl _)) u27).trans g29).has b4) 2 rfl (asSl_v _)) ?_
                refine Runs.step (AH.has.rd (g29.has b27) 0 rfl rfl) ?_
                refine Runs.step (AH.has.rd (g29.has b27) 1 rfl (asSl_v _)) ?_
                refine Runs.step (AH.has.rd (g29.has b27) 2 rfl (asSl_v _)) ?_
                obtain ⟨w31, z31, e⟩ := Option.bind_eq_some_iff.1 e
                obtain ⟨_, H32, e32, rfl, g32⟩ := rational_Cmp_spec (n2.grow (((((((((((((((((g4.trans g5).trans g8).trans g9).trans g12).trans g13).updr (Nat.le_trans (((((g4.trans g5).trans g8).trans g9).trans g12)).size (Nat.le_refl _)) u14).trans g15).trans g16).trans g17).updr (Nat.le_trans (((((((g4.trans g5).trans g8).trans g9).trans g12).trans g13).updr (Nat.le_trans (((((g4.trans g5).trans g8).trans g9).trans g12)).size (Nat.le_refl _)) u14)).size (Nat.le_refl _)) u18).trans g22).trans g23).updr (Nat.le_trans ((((((((((((g4.trans g5).trans g8).trans g9).trans g12).trans g13).updr (Nat.le_trans (((((g4.trans g5).trans g8).trans g9).trans g12)).size (Nat.le_refl _)) u14).trans g15).trans g16).trans g17).updr (Nat.le_trans (((((((g4.trans g5).trans g8).trans g9).trans g12).trans g13).updr (Nat.le_trans (((((g4.trans g5).trans g8).trans g9).trans g12)).size (Nat.le_refl _)) u14)).size (Nat.le_refl _)) u18).trans g22)).size (Nat.le_refl _)) u24).trans g25).trans g26).updr (Nat.le_trans (((((((((((((((g4.trans g5).trans g8).trans g9).trans g12).trans g13).updr (Nat.le_trans (((((g4.trans g5).trans g8).trans g9).trans g12)).size (Nat.le_refl _)) u14).trans g15).trans g16).trans g17).updr (Nat.le_trans (((((((g4.trans g5).trans g8).trans g9).trans g12).trans g13).updr (Nat.le_trans (((((g4.trans g5).trans g8).trans g9).trans g12)).size (Nat.le_refl _)) u14)).size (Nat.le_refl _)) u18).trans g22).trans g23).updr (Nat.le_trans ((((((((((((g4.trans g5).trans g8).trans g9).trans g12).trans g13).updr (Nat.le_trans (((((g4.trans g5).trans g8).trans g9).trans g12)).size (Nat.le_refl _)) u14).trans g15).trans g16).trans g17).updr (Nat.le_trans (((((((g4.trans g5).trans g8).trans g9).trans g12).trans g13).updr (Nat.le_trans (((((g4.trans g5).trans g8).trans g9).trans g12)).size (Nat.le_refl _)) u14)).size (Nat.le_refl _)) u18).trans g22)).size (Nat.le_refl _)) u24).trans g25)).size (Nat.le_refl _)) u27).trans g29)) (n3.grow (((((((((((((((((g4.trans g5).trans g8).trans g9).trans g12).trans g13).updr (Nat.le_trans (((((g4.trans g5).trans g8).trans g9).trans g12)).size (Nat.le_refl _)) u14).trans g15).trans g16).trans g17).updr (Nat.le_trans (((((((g4.trans g5).trans g8).trans g9).trans g12).trans g13).updr (Nat.le_trans (((((g4.trans g5).trans g8).trans g9).trans g12)).size (Nat.le_refl _)) u14)).size (Nat.le_refl _)) u18).trans g22).trans g23).updr (Nat.le_trans ((((((((((((g4.trans g5).trans g8).trans g9).trans g12).trans g13).updr (Nat.le_trans (((((g4.trans g5).trans g8).trans g9).trans g12)).size (Nat.le_refl _)) u14).trans g15).trans g16).trans g17).updr (Nat.le_trans (((((((g4.trans g5).trans g8).trans g9).trans g12).trans g13).updr (Nat.le_trans (((((g4.trans g5).trans g8).trans g9).trans g12)).size (Nat.le_refl _)) u14)).size (Nat.le_refl _)) u18).trans g22)).size (Nat.le_refl _)) u24).trans g25).trans g26).updr (Nat.le_trans (((((((((((((((g4.trans g5).trans g8).trans g9).trans g12).trans g13).updr (Nat.le_trans (((((g4.trans g5).trans g8).trans g9).trans g12)).size (Nat.le_refl _)) u14).trans g15).trans g16).trans g17).updr (Nat.le_trans (((((((g4.trans g5).trans g8).trans g9).trans g12).trans g13).updr (Nat.le_trans (((((g4.trans g5).trans g8).trans g9).trans g12)).size (Nat.le_refl _)) u14)).size (Nat.le_refl _)) u18).trans g22).trans g23).updr (Nat.le_trans ((((((((((((g4.trans g5).trans g8).trans g9).trans g12).trans g13).updr (Nat.le_trans (((((g4.trans g5).trans g8).trans g9).trans g12)).size (Nat.le_refl _)) u14).trans g15).trans g16).trans g17).updr (Nat.le_trans (((((((g4.trans g5).trans g8).trans g9).trans g12).trans g13).updr (Nat.le_trans (((((g4.trans g5).trans g8).trans g9).trans g12)).size (Nat.le_refl _)) u14)).size (Nat.le_refl _)) u18).trans g22)).size (Nat.le_refl _)) u24).trans g25)).size (Nat.le_refl _)) u27).trans g29)) (n17_18.grow ((((((g22.trans g23).updr (Nat.le_trans (g22).size (Nat.le_refl _)) u24).trans g25).trans g26).updr (Nat.le_trans ((((g22.trans g23).updr (Nat.le_trans (g22).size (Nat.le_refl _)) u24).trans g25)).size (Nat.le_refl _)) u27).trans g29)) (Nats.of_has1 (((g26.updr (Nat.le_refl _) u27).trans g29).has b25) z31) a1 ((((modint_Add' (((rational_Floor' a1 x2 x3).1)) ((rational_Floor' a1 x2 x3).2.1) ((ofI 1).1) ((ofI 1).2)).1)))
                refine Runs.step e32 ?_
                refine Runs.step (seen (avInt_int _ _)) ?_
                cases e
                cases good
                exact Runs.ret ⟨rfl, ((((((((((((((((((g4.trans g5).trans g8).trans g9).trans g12).trans g13).updr (Nat.le_trans (((((g4.trans g5).trans g8).trans g9).trans g12)).size (Nat.le_refl _)) u14).trans g15).trans g16).trans g17).updr (Nat.le_trans (((((((g4.trans g5).trans g8).trans g9).trans g12).trans g13).updr (Nat.le_trans (((((g4.trans g5).trans g8).trans g9).trans g12)).size (Nat.le_refl _)) u14)).size (Nat.le_refl _)) u18).trans g22).trans g23).updr (Nat.le_trans ((((((((((((g4.trans g5).trans g8).trans g9).trans g12).trans g13).updr (Nat.le_trans (((((g4.trans g5).trans g8).trans g9).trans g12)).size (Nat.le_refl _)) u14).trans g15).trans g16).trans g17).updr (Nat.le_trans (((((((g4.trans g5).trans g8).trans g9).trans g12).trans g13).updr (Nat.le_trans (((((g4.trans g5).trans g8).trans g9).trans g12)).size (Nat.le_refl _)) u14)).size (Nat.le_refl _)) u18).trans g22)).size (Nat.le_refl _)) u24).trans g25).trans g26).updr (Nat.le_trans (((((((((((((((g4.trans g5).trans g8).trans g9).trans g12).trans g13).updr (Nat.le_trans (((((g4.trans g5).trans g8).trans g9).trans g12)).size (Nat.le_refl _)) u14).trans g15).trans g16).trans g17).updr (Nat.le_trans (((((((g4.trans g5).trans g8).trans g9).trans g12).trans g13).updr (Nat.le_trans (((((g4.trans g5).trans g8).trans g9).trans g12)).size (Nat.le_refl _)) u14)).size (Nat.le_refl _)) u18).trans g22).trans g23).updr (Nat.le_trans ((((((((((((g4.trans g5).trans g8).trans g9).trans g12).trans g13).updr (Nat.le_trans (((((g4.trans g5).trans g8).trans g9).trans g12)).size (Nat.le_refl _)) u14).trans g15).trans g16).trans g17).updr (Nat.le_trans (((((((g4.trans g5).trans g8).trans g9).trans g12).trans g13).updr (Nat.le_trans (((((g4.trans g5).trans g8).trans g9).trans g12)).size (Nat.le_refl _)) u14)).size (Nat.le_refl _)) u18).trans g22)).size (Nat.le_refl _)) u24).trans g25)).size (Nat.le_refl _)) u27).trans g29).trans g32)⟩
              · replace e := (condF k30).symm.trans e
                cases e
                cases good
                exact Runs.ret ⟨rfl, (((((((((((((((((g4.trans g5).trans g8).trans g9).trans g12).trans g13).updr (Nat.le_trans (((((g4.trans g5).trans g8).trans g9).trans g12)).size (Nat.le_refl _)) u14).trans g15).trans g16).trans g17).updr (Nat.le_trans (((((((g4.trans g5).trans g8).trans g9).trans g12).trans g13).updr (Nat.le_trans (((((g4.trans g5).trans g8).trans g9).trans g12)).size (Nat.le_refl _)) u14)).size (Nat.le_refl _)) u18).trans g22).trans g23).updr (Nat.le_trans ((((((((((((g4.trans g5).trans g8).trans g9).trans g12).trans g13).updr (Nat.le_trans (((((g4.trans g5).trans g8).trans g9).trans g12)).size (Nat.le_refl _)) u14).trans g15).trans g16).trans g17).updr (Nat.le_trans (((((((g4.trans g5).trans g8).trans g9).trans g12).trans g13).updr (Nat.le_trans (((((g4.trans g5).trans g8).trans g9).trans g12)).size (Nat.le_refl _)) u14)).size (Nat.le_refl _)) u18).trans g22)).size (Nat.le_refl _)) u24).trans g25).trans g26).updr (Nat.le_trans (((((((((((((((g4.trans g5).trans g8).trans g9).trans g12).trans g13).updr (Nat.le_trans (((((g4.trans g5).trans g8).trans g9).trans g12)).size (Nat.le_refl _)) u14).trans g15).trans g16).trans g17).updr (Nat.le_trans (((((((g4.trans g5).trans g8).trans g9).trans g12).trans g13).updr (Nat.le_trans (((((g4.trans g5).trans g8).trans g9).trans g12)).size (Nat.le_refl _)) u14)).size (Nat.le_refl _)) u18).trans g22).trans g23).updr (Nat.le_trans ((((((((((((g4.trans g5).trans g8).trans g9).trans g12).trans g13).updr (Nat.le_trans (((((g4.trans g5).trans g8).trans g9).trans g12)).size (Nat.le_refl _)) u14).trans g15).trans g16).trans g17).updr (Nat.le_trans (((((((g4.trans g5).trans g8).trans g9).trans g12).trans g13).updr (Nat.le_trans (((((g4.trans g5).trans g8).trans g9).trans g12)).size (Nat.le_refl _)) u14)).size (Nat.le_refl _)) u18).trans g22)).size (Nat.le_refl _)) u24).trans g25)).size (Nat.le_refl _)) u27).trans g29)⟩

theorem law08_RationalBetween_run {s : law08_RationalBetween_St} {r : law08_RationalBetween_Res} (it : Iter law08_RationalBetween_step s r) : law08_RationalBetween_At r s := Iter.ind (fun s o e good => by
  cases s with
  | fn a1 x2 x3 => exact @law08_RationalBetween_fn_walk _ _ a1 x2 x3 e good
  | no => exact True.intro
  ) it

theorem law08_RationalBetween_opt {h : AH} {a2 : Sl} {a3 : Sl} {a1 : Bool} {x2 : List Nat} {x3 : List Nat} (n2 : Nats h a2 x2) (n3 : Nats h a3 x3) {r : law08_RationalBetween_Res} (q : runP law08_RationalBetween_step (.fn a1 x2 x3) = some r) : Runs (go (.fn F.law08_RationalBetween [.agg [.bool a1, a2.v, a3.v]]) h) (law08_RationalBetween_post h r) := law08_RationalBetween_run (runP_iter q) n2 n3

inductive law08_RationalSums_St
  | fn (a1 : Bool) (x2 : List Nat) (x3 : List Nat) (a4 : Bool) (x5 : List Nat) (x6 : List Nat)
  | no

abbrev law08_RationalSums_Res := Bool

noncomputable def law08_RationalSums_fn' (a1 : Bool) (x2 : List Nat) (x3 : List Nat) (a4 : Bool) (x5 : List Nat) (x6 : List Nat) : Option (law08_RationalSums_St ⊕ law08_RationalSums_Res) :=
  cond (!((fewF x2 x3 && fewF x5 x6))) (some (.inr true)) ((need ((((rational_Add' a1 x2 x3 a4 x5 x6).1)) = (((ref08_Add' a1 x2 x3 a4 x5 x6).1)) ∧ ((rational_Add' a1 x2 x3 a4 x5 x6).2.1) = ((ref08_Add' a1 x2 x3 a4 x5 x6).2.1) ∧ ((rational_Add' a1 x2 x3 a4 x5 x6).2.2.1) = ((ref08_Add' a1 x2 x3 a4 x5 x6).2.2.1))).bind fun c19_0 => cond (!true) (some (.inr false)) (cond (!true) (some (.inr false)) (cond (!decide (((rational_Add' a1 x2 x3 a4 x5 x6).2.2.2) = ((ref08_Add' a1 x2 x3 a4 x5 x6).2.2.2))) (some (.inr false)) ((need ((((rational_Sub' a1 x2 x3 a4 x5 x6).1)) = (((ref08_Sub' a1 x2 x3 a4 x5 x6).1)) ∧ ((rational_Sub' a1 x2 x3 a4 x5 x6).2.1) = ((ref08_Sub' a1 x2 x3 a4 x5 x6).2.1) ∧ ((rational_Sub' a1 x2 x3 a4 x5 x6).2.2.1) = ((ref08_Sub' a1 x2 x3 a4 x5 x6).2.2.1))).bind fun c27_0 => cond (!true) (some (.inr false)) (cond (!decide (((rational_Sub' a1 x2 x3 a4 x5 x6).2.2.2) = ((ref08_Sub' a1 x2 x3 a4 x5 x6).2.2.2))) (some (.inr false)) ((need ((((rational_Mul' a1 x2 x3 a4 x5 x6).1)) = (((ref08_Mul' a1 x2 x3 a4 x5 x6).1)) ∧ ((rational_Mul' a1 x2 x3 a4 x5 x6).2.1) = ((ref08_Mul' a1 x2 x3 a4 x5 x6).2.1) ∧ ((rational_Mul' a1 x2 x3 a4 x5 x6).2.2.1) = ((ref08_Mul' a1 x2 x3 a4 x5 x6).2.2.1))).bind fun c34_0 => cond (true) (some (.inr (decide (((rational_Mul' a1 x2 x3 a4 x5 x6).2.2.2) = ((ref08_Mul' a1 x2 x3 a4 x5 x6).2.2.2))))) (some (.inr false))))))))

noncomputable def law08_RationalSums_step : law08_RationalSums_St → Option (law08_RationalSums_St ⊕ law08_RationalSums_Res)
  | .fn a1 x2 x3 a4 x5 x6 => law08_RationalSums_fn' a1 x2 x3 a4 x5 x6
  | .no => none

@[reducible] def law08_RationalSums_post (h0 : AH) (r : law08_RationalSums_Res) (v : AV) (h' : AH) : Prop := v = .bool r ∧ Grow h0 h'

def law08_RationalSums_At (r : law08_RationalSums_Res) : law08_RationalSums_St → Prop
  | .fn a1 x2 x3 a4 x5 x6 => ∀ {h : AH} {a2 : Sl} {a3 : Sl} {a5 : Sl} {a6 : Sl}, Nats h a2 x2 → Nats h a3 x3 → Nats h a5 x5 → Nats h a6 x6 → Runs (go (.fn F.law08_RationalSums [.agg [.bool a1, a2.v, a3.v], .agg [.bool a4, a5.v, a6.v]]) h) (law08_RationalSums_post h r)
  | .no => True

theorem law08_RationalSums_fn_walk {r : law08_RationalSums_Res} {o : law08_RationalSums_St ⊕ law08_RationalSums_Res} {a1 : Bool} {x2 : List Nat} {x3 : List Nat} {a4 : Bool} {x5 : List Nat} {x6 : List Nat} (e : law08_RationalSums_fn' a1 x2 x3 a4 x5 x6 = some o) (good : GoodS (law08_RationalSums_At r) r o) : law08_RationalSums_At r (.fn a1 x2 x3 a4 x5 x6) := by
  intro h a2 a3 a5 a6 n2 n3 n5 n6
  rw [u_law08_RationalSums]
  unfold law08_RationalSums_fn' at e
  refine Runs.new fun H7 b7 g7 => ?_
  refine Runs.new fun H8 b8 g8 => ?_
  refine Runs.step (AH.has.rd (g8.has b7) 0 rfl rfl) ?_
  refine Runs.step (AH.has.rd (g8.has b7) 1 rfl (asSl_v _)) ?_
  refine Runs.step (AH.has.rd (g8.has b7) 2 rfl (asSl_v _)) ?_
  refine Runs.step (AH.has.rd b8 0 rfl rfl) ?_
  refine Runs.step (AH.has.rd b8 1 rfl (asSl_v _)) ?_
  refine Runs.step (AH.has.rd b8 2 rfl (asSl_v _)) ?_
  refine Runs.new fun H9 b9 g9 => ?_
  refine Runs.step (few08_2 b9 (n2.grow ((g7.trans g8).trans g9)) (n3.grow ((g7.trans g8).trans g9)) (n5.grow ((g7.trans g8).trans g9)) (n6.grow ((g7.trans g8).trans g9))) ?_
  refine Runs.step (seen rfl) ?_
  refine Runs.cond (fun k11 => ?_) (fun k11 => ?_)
  · replace e := (condT k11).symm.trans e
    cases e
    cases good
    exact Runs.ret ⟨rfl, ((g7.trans g8).trans g9)⟩
  · replace e := (condF k11).symm.trans e
    obtain ⟨H12, e12, g12⟩ := awake08
    refine Runs.step e12 ?_
    refine Runs.step (seen rfl) ?_
    refine Runs.step (AH.has.rd (((g8.trans g9).trans g12).has b7) 0 rfl rfl) ?_
    refine Runs.step (AH.has.rd (((g8.trans g9).trans g12).has b7) 1 rfl (asSl_v _)) ?_
    refine Runs.step (AH.has.rd (((g8.trans g9).trans g12).has b7) 2 rfl (asSl_v _)) ?_
    refine Runs.step (AH.has.rd ((g9.trans g12).has b8) 0 rfl rfl) ?_
    refine Runs.step (AH.has.rd ((g9.trans g12).has b8) 1 rfl (asSl_v _)) ?_
    refine Runs.step (AH.has.rd ((g9.trans g12).has b8) 2 rfl (asSl_v _)) ?_
    obtain ⟨_, H13, e13, s13, s13b, rfl, n13, n13b, g13, o13, o13b⟩ := rational_Add_spec (n2.grow (((g7.trans g8).trans g9).trans g12)) (n3.grow (((g7.trans g8).trans g9).trans g12)) (n5.grow (((g7.trans g8).trans g9).trans g12)) (n6.grow (((g7.trans g8).trans g9).trans g12)) a1 a4
    refine Runs.step e13 ?_
    refine Runs.step rfl ?_
    refine Runs.step rfl ?_
    refine Runs.ifT rfl ?_
    refine Runs.step (seenAt rfl rfl) ?_
    refine Runs.step (seenAt rfl (asSl_v _)) ?_
    refine Runs.step (seenAt rfl (asSl_v _)) ?_
    refine Runs.step (seen (avInt_int _ _)) ?_
    refine Runs.new fun H14 b14 g14 => ?_
    refine Runs.puts b14 rfl fun H15 b15 u15 => ?_
    refine Runs.step (AH.has.rd ((((((g8.trans g9).trans g12).trans g13).trans g14).updr (Nat.le_trans ((((g8.trans g9).trans g12).trans g13)).size (Nat.le_refl _)) u15).has b7) 0 rfl rfl) ?_
    refine Runs.step (AH.has.rd ((((((g8.trans g9).trans g12).trans g13).trans g14).updr (Nat.le_trans ((((g8.trans g9).trans g12).trans g13)).size (Nat.le_refl _)) u15).has b7) 1 rfl (asSl_v _)) ?_
    refine Runs.step (AH.has.rd ((((((g8.trans g9).trans g12).trans g13).trans g14).updr (Nat.le_trans ((((g8.trans g9).trans g12).trans g13)).size (Nat.le_refl _)) u15).has b7) 2 rfl (asSl_v _)) ?_
    refine Runs.step (AH.has.rd (((((g9.trans g12).trans g13).trans g14).updr (Nat.le_trans (((g9.trans g12).trans g13)).size (Nat.le_refl _)) u15).has b8) 0 rfl rfl) ?_
    refine Runs.step (AH.has.rd (((((g9.trans g12).trans g13).trans g14).updr (Nat.le_trans (((g9.trans g12).trans g13)).size (Nat.le_refl _)) u15).has b8) 1 rfl (asSl_v _)) ?_
    refine Runs.step (AH.has.rd (((((g9.trans g12).trans g13).trans g14).updr (Nat.le_trans (((g9.trans g12).trans g13)).size (Nat.le_refl _)) u15).has b8) 2 rfl (asSl_v _)) ?_
    obtain ⟨_, H16, e16, s16, s16b, rfl, n16, n16b, g16, o16, o16b⟩ := ref08_Add_spec (n2.grow ((((((g7.trans g8).trans g9).trans g12).trans g13).trans g14).updr (Nat.le_trans (((((g7.trans g8).trans g9).trans g12).trans g13)).size (Nat.le_refl _)) u15)) (n3.grow ((((((g7.trans g8).trans g9).trans g12).trans g13).trans g14).updr (Nat.le_trans (((((g7.trans g8).trans g9).trans g12).trans g13)).size (Nat.le_refl _)) u15)) (n5.grow ((((((g7.trans g8).trans g9).trans g12).trans g13).trans g14).updr (Nat.le_trans (((((g7.trans g8).trans g9).trans g12).trans g13)).size (Nat.le_refl _)) u15)) (n6.grow ((((((g7.trans g8).trans g9).trans g12).trans g13).trans g14).updr (Nat.le_trans (((((g7.trans g8).trans g9).trans g12).trans g13)).size (Nat.le_refl _)) u15)) a1 a4
    refine Runs.step e16 ?_
    refine Runs.step rfl ?_
    refine Runs.step rfl ?_
    refine Runs.ifT rfl ?_
    refine Runs.step (seenAt rfl rfl) ?_
    refine Runs.step (seenAt rfl (asSl_v _)) ?_
    refine Runs.step (seenAt rfl (asSl_v _)) ?_
    refine Runs.step (seen (avInt_int _ _)) ?_
    refine Runs.new fun H17 b17 g17 => ?_
    refine Runs.puts b17 rfl fun H18 b18 u18 => ?_
    refine Runs.step (AH.has.rd (((g16.trans g17).updr (Nat.le_trans (g16).size (Nat.le_refl _)) u18).has b15) 0 rfl rfl) ?_
    refine Runs.step (AH.has.rd (((g16.trans g17).updr (Nat.le_trans (g16).size (Nat.le_refl _)) u18).has b15) 1 rfl (asSl_v _)) ?_
    refine Runs.step (AH.has.rd (((g16.trans g17).updr (Nat.le_trans (g16).size (Nat.le_refl _)) u18).has b15) 2 rfl (asSl_v _)) ?_
    refine Runs.step (AH.has.rd b18 0 rfl rfl) ?_
    refine Runs.step (AH.has.rd b18 1 rfl (asSl_v _)) ?_
    refine Runs.step (AH.has.rd b18 2 rfl (asSl_v _)) ?_
    obtain ⟨c19_0, q19_0, e⟩ := Option.bind_eq_some_iff.1 e
    obtain ⟨H19, e19, g19⟩ := ref08_Same_need (n13.grow ((((g14.updr (Nat.le_refl _) u15).trans g16).trans g17).updr (Nat.le_trans (((g14.updr (Nat.le_refl _) u15).trans g16)).size (Nat.le_refl _)) u18)) (n13b.grow ((((g14.updr (Nat.le_refl _) u15).trans g16).trans g17).updr (Nat.le_trans (((g14.updr (Nat.le_refl _) u15).trans g16)).size (Nat.le_refl _)) u18)) (n16.grow (g17.updr (Nat.le_refl _) u18)) (n16b.grow (g17.updr (Nat.le_refl _) u18)) (((rational_Add' a1 x2 x3 a4 x5 x6).1)) (((ref08_Add' a1 x2 x3 a4 x5 x6).1))  c19_0.down
    refine Runs.step e19 ?_
    refine Runs.step (seen rfl) ?_
    refine Runs.cond (fun k20 => ?_) (fun k20 => ?_)
    · replace e := (condT k20).symm.trans e
      cases e
      cases good
      exact Runs.ret ⟨rfl, ((((((((((g7.trans g8).trans g9).trans g12).trans g13).trans g14).updr (Nat.le_trans (((((g7.trans g8).trans g9).trans g12).trans g13)).size (Nat.le_refl _)) u15).trans g16).trans g17).updr (Nat.le_trans ((((((((g7.trans g8).trans g9).trans g12).trans g13).trans g14).updr (Nat.le_trans (((((g7.trans g8).trans g9).trans g12).trans g13)).size (Nat.le_refl _)) u15).trans g16)).size (Nat.le_refl _)) u18).trans g19)⟩
    · replace e := (condF k20).symm.trans e
      refine Runs.cond (fun k21 => ?_) (fun k21 => ?_)
      · replace e := (condT k21).symm.trans e
        cases e
        cases good
        exact Runs.ret ⟨rfl, ((((((((((g7.trans g8).trans g9).trans g12).trans g13).trans g14).updr (Nat.le_trans (((((g7.trans g8).trans g9).trans g12).trans g13)).size (Nat.le_refl _)) u15).trans g16).trans g17).updr (Nat.le_trans ((((((((g7.trans g8).trans g9).trans g12).trans g13).trans g14).updr (Nat.le_trans (((((g7.trans g8).trans g9).trans g12).trans g13)).size (Nat.le_refl _)) u15).trans g16)).size (Nat.le_refl _)) u18).trans g19)⟩
      · replace e := (condF k21).symm.trans e
        refine Runs.cond (fun k22 => ?_) (fun k22 => ?_)
        · replace e := (condT k22).symm.trans e
          cases e
          cases good
          exact Runs.ret ⟨rfl, ((((((((((g7.trans g8).trans g9).trans g12).trans g13).trans g14).updr (Nat.le_trans (((((g7.trans g8).trans g9).trans g12).trans g13)).size (Nat.le_refl _)) u15).trans g16).trans g17).updr (Nat.le_trans ((((((((g7.trans g8).trans g9).trans g12).trans g13).trans g14).updr (Nat.le_trans (((((g7.trans g8).trans g9).trans g12).trans g13)).size (Nat.le_refl _)) u15).trans g16)).size (Nat.le_refl _)) u18).trans g19)⟩
        · replace e := (condF k22).symm.trans e
          refine Runs.step (AH.has.rd ((((((((((g8.trans g9).trans g12).trans g13).trans g14).updr (Nat.le_trans ((((g8.trans g9).trans g12).trans g13)).size (Nat.le_refl _)) u15).trans g16).trans g17).updr (Nat.le_trans (((((((g8.trans g9).trans g12).trans g13).trans g14).updr (Nat.le_trans ((((g8.trans g9).trans g12).trans g13)).size (Nat.le_refl _)) u15).trans g16)).size (Nat.le_refl _)) u18).trans g19).has b7) 0 rfl rfl) ?_
          refine Runs.step (AH.has.rd ((((((((((g8.trans g9).trans g12).trans g13).trans g14).updr (Nat.le_trans ((((g8.trans g9).trans g12).trans g13)).size (Nat.le_refl _)) u15).trans g16).trans g17).updr (Nat.le_trans (((((((g8.trans g9).trans g12).trans g13).trans g14).updr (Nat.le_trans ((((g8.trans g9).trans g12).trans g13)).size (Nat.le_refl _)) u15).trans g16)).size (Nat.le_refl _)) u18).trans g19).has b7) 1 rfl (asSl_v _)) ?_
          refine Runs.step (AH.has.rd ((((((((((g8.trans g9).trans g12).trans g13).trans g14).updr (Nat.le_trans ((((g8.trans g9).trans g12).trans g13)).size (Nat.le_refl _)) u15).trans g16).trans g17).updr (Nat.le_trans (((((((g8.trans g9).trans g12).trans g13).trans g14).updr (Nat.le_trans ((((g8.trans g9).trans g12).trans g13)).size (Nat.le_refl _)) u15).trans g16)).size (Nat.le_refl _)) u18).trans g19).has b7) 2 rfl (asSl_v _)) ?_
          refine Runs.step (AH.has.rd (((((((((g9.trans g12).trans g13).trans g14).updr (Nat.le_trans (((g9.trans g12).trans g13)).size (Nat.le_refl _)) u15).trans g16).trans g17).updr (Nat.le_trans ((((((g9.trans g12).trans g13).trans g14).updr (Nat.le_trans (((g9.trans g12).trans g13)).size (Nat.le_refl _)) u15).trans g16)).size (Nat.le_refl _)) u18).trans g19).has b8) 0 rfl rfl) ?_
          refine Runs.step (AH.has.rd (((((((((g9.trans g12).trans g13).trans g14).updr (Nat.le_trans (((g9.trans g12).trans g13)).size (Nat.le_refl _)) u15).trans g16).trans g17).updr (Nat.le_trans ((((((g9.trans g12).trans g13).trans g14).updr (Nat.le_trans (((g9.trans g12).trans g13)).size (Nat.le_refl _)) u15).trans g16)).size (Nat.le_refl _)) u18).trans g19).has b8) 1 rfl (asSl_v _)) ?_
          refine Runs.step (AH.has.rd (((((((((g9.trans g12).trans g13).trans g14).updr (Nat.le_trans (((g9.trans g12).trans g13)).size (Nat.le_refl _)) u15).trans g16).trans g17).updr (Nat.le_trans ((((((g9.trans g12).trans g13).trans g14).updr (Nat.le_trans (((g9.trans g12).trans g13)).size (Nat.le_refl _)) u15).trans g16)).size (Nat.le_refl _)) u18).trans g19).has b8) 2 rfl (asSl_v _)) ?_
          obtain ⟨_, H23, e23, s23, s23b, rfl, n23, n23b, g23, o23, o23b⟩ := rational_Sub_spec (n2.grow ((((((((((g7.trans g8).trans g9).trans g12).trans g13).trans g14).updr (Nat.le_trans (((((g7.trans g8).trans g9).trans g12).trans g13)).size (Nat.le_refl _)) u15).trans g16).trans g17).updr (Nat.le_trans ((((((((g7.trans g8).trans g9).trans g12).trans g13).trans g14).updr (Nat.le_trans (((((g7.trans g8).trans g9).trans g12).trans g13)).size (Nat.le_refl _)) u15).trans g16)).size (Nat.le_refl _)) u18).trans g19)) (n3.grow ((((((((((g7.trans g8).trans g9).trans g12).trans g13).trans g14).updr (Nat.le_trans (((((g7.trans g8).trans g9).trans g12).trans g13)).size (Nat.le_refl _)) u15).trans g16).trans g17).updr (Nat.le_trans ((((((((g7.trans g8).trans g9).trans g12).trans g13).trans g14).updr (Nat.le_trans (((((g7.trans g8).trans g9).trans g12).trans g13)).size (Nat.le_refl _)) u15).trans g16)).size (Nat.le_refl _)) u18).trans g19)) (n5.grow ((((((((((g7.trans g8).trans g9).trans g12).trans g13).trans g14).updr (Nat.le_trans (((((g7.trans g8).trans g9).trans g12).trans g13)).size (Nat.le_refl _)) u15).trans g16).trans g17).updr (Nat.le_trans ((((((((g7.trans g8).trans g9).trans g12).trans g13).trans g14).updr (Nat.le_trans (((((g7.trans g8).trans g9).trans g12).trans g13)).size (Nat.le_refl _)) u15).trans g16)).size (Nat.le_refl _)) u18).trans g19)) (n6.grow ((((((((((g7.trans g8).trans g9).trans g12).trans g13).trans g14).updr (Nat.le_trans (((((g7.trans g8).trans g9).trans g12).trans g13)).size (Nat.le_refl _)) u15).trans g16).trans g17).updr (Nat.le_trans ((((((((g7.trans g8).trans g9).trans g12).trans g13).trans g14).updr (Nat.le_trans (((((g7.trans g8).trans g9).trans g12).trans g13)).size (Nat.le_refl _)) u15).trans g16)).size (Nat.le_refl _)) u18).trans g19)) a1 a4
          refine Runs.step e23 ?_
          refine Runs.step rfl ?_
          refine Runs.step rfl ?_
          refine Runs.ifT rfl ?_
          refine Runs.step (seenAt rfl rfl) ?_
          refine Runs.step (seenAt rfl (asSl_v _)) ?_
          refine Runs.step (seenAt rfl (asSl_v _)) ?_
          refine Runs.step (seen (avInt_int _ _)) ?_
          refine Runs.puts (((((g16.trans g17).updr (Nat.le_trans (g16).size (Nat.le_refl _)) u18).trans g19).trans g23).has b15) rfl fun H24 b24 u24 => ?_
          have n16_24 := (n16.grow (((g17.updr (Nat.le_refl _) u18).trans g19).trans g23)).upda (Av.of_own o16 (b15).lt) u24
          have n16b_24 := (n16b.grow (((g17.updr (Nat.le_refl _) u18).trans g19).trans g23)).upda (Av.of_own o16b (b15).lt) u24
          have n23_24 := n23.upda (Av.of_own o23 ((((g16.trans g17).updr (Nat.le_trans (g16).size (Nat.le_refl _)) u18).trans g19).has b15).lt) u24
          have n23b_24 := n23b.upda (Av.of_own o23b ((((g16.trans g17).updr (Nat.le_trans (g16).size (Nat.le_refl _)) u18).trans g19).has b15).lt) u24
          have b18_24 := AH.has.updr ((g19.trans g23).has b18) (Nat.ne_of_gt (Nat.lt_of_lt_of_le (g16.has b15).lt (Nat.le_refl _))) u24
          refine Runs.step (AH.has.rd ((((((((((((g8.trans g9).trans g12).trans g13).trans g14).updr (Nat.le_trans ((((g8.trans g9).trans g12).trans g13)).size (Nat.le_refl _)) u15).trans g16).trans g17).updr (Nat.le_trans (((((((g8.trans g9).trans g12).trans g13).trans g14).updr (Nat.le_trans ((((g8.trans g9).trans g12).trans g13)).size (Nat.le_refl _)) u15).trans g16)).size (Nat.le_refl _)) u18).trans g19).trans g23).updr (Nat.le_trans ((((g8.trans g9).trans g12).trans g13)).size (Nat.le_refl _)) u24).has b7) 0 rfl rfl) ?_
          refine Runs.step (AH.has.rd ((((((((((((g8.trans g9).trans g12).trans g13).trans g14).updr (Nat.le_trans ((((g8.trans g9).trans g12).trans g13)).size (Nat.le_refl _)) u15).trans g16).trans g17).updr (Nat.le_trans (((((((g8.trans g9).trans g12).trans g13).trans g14).updr (Nat.le_trans ((((g8.trans g9).trans g12).trans g13)).size (Nat.le_refl _)) u15).trans g16)).size (Nat.le_refl _)) u18).trans g19).trans g23).updr (Nat.le_trans ((((g8.trans g9).trans g12).trans g13)).size (Nat.le_refl _)) u24).has b7) 1 rfl (asSl_v _)) ?_
          refine Runs.step (AH.has.rd ((((((((((((g8.trans g9).trans g12).trans g13).trans g14).updr (Nat.le_trans ((((g8.trans g9).trans g12).trans g13)).size (Nat.le_refl _)) u15).trans g16).trans g17).updr (Nat.le_trans (((((((g8.trans g9).trans g12).trans g13).trans g14).updr (Nat.le_trans ((((g8.trans g9).trans g12).trans g13)).size (Nat.le_refl _)) u15).trans g16)).size (Nat.le_refl _)) u18).trans g19).trans g23).updr (Nat.le_trans ((((g8.trans g9).trans g12).trans g13)).size (Nat.le_refl _)) u24).has b7) 2 rfl (asSl_v _)) ?_
          refine Runs.step (AH.has.rd (((((((((((g9.trans g12).trans g13).trans g14).updr (Nat.le_trans (((g9.trans g12).trans g13)).size (Nat.le_refl _)) u15).trans g16).trans g17).updr (Nat.le_trans ((((((g9.trans g12).trans g13).trans g14).updr (Nat.le_trans (((g9.trans g12).trans g13)).size (Nat.le_refl _)) u15).trans g16)).size (Nat.le_refl _)) u18).trans g19).trans g23).updr (Nat.le_trans (((g9.trans g12).trans g13)).size (Nat.le_refl _)) u24).has b8) 0 rfl rfl) ?_
          refine Runs.step (AH.has.rd (((((((((((g9.trans g12).trans g13).trans g14).updr (Nat.le_trans (((g9.trans g12).trans g13)).size (Nat.le_refl _)) u15).trans g16).trans g17).updr (Nat.le_trans ((((((g9.trans g12).trans g13).trans g14).updr (Nat.le_trans (((g9.trans g12).trans g13)).size (Nat.le_refl _)) u15).trans g16)).size (Nat.le_refl _)) u18).trans g19).trans g23).updr (Nat.le_trans (((g9.trans g12).trans g13)).size (Nat.le_refl _)) u24).has b8) 1 rfl (asSl_v _)) ?_
          refine Runs.step (AH.has.rd (((((((((((g9.trans g12).trans g13).trans g14).updr (Nat.le_trans (((g9.trans g12).trans g13)).size (Nat.le_refl _)) u15).trans g16).trans g17).updr (Nat.le_trans ((((((g9.trans g12).trans g13).trans g14).updr (Nat.le_trans (((g9.trans g12).trans g13)).size (Nat.le_refl _)) u15).trans g16)).size (Nat.le_refl _)) u18).trans g19).trans g23).updr (Nat.le_trans (((g9.trans g12).trans g13)).size (Nat.le_refl _)) u24).has b8) 2 rfl (asSl_v _)) ?_
          obtain ⟨_, H25, e25, s25, s25b, rfl, n25, n25b, g25, o25, o25b⟩ := ref08_Sub_spec (n2.grow ((((((((((((g7.trans g8).trans g9).trans g12).trans g13).trans g14).updr (Nat.le_trans (((((g7.trans g8).trans g9).trans g12).trans g13)).size (Nat.le_refl _)) u15).trans g16).trans g17).updr (Nat.le_trans ((((((((g7.trans g8).trans g9).trans g12).trans g13).trans g14).updr (Nat.le_trans (((((g7.trans g8).trans g9).trans g12).trans g13)).size (Nat.le_refl _)) u15).trans g16)).size (Nat.le_refl _)) u18).trans g19).trans g23).updr (Nat.le_trans (((((g7.trans g8).trans g9).trans g12).trans g13)).size (Nat.le_refl _)) u24)) (n3.grow ((((((((((((g7.trans g8).trans g9).trans g12).trans g13).trans g14).updr (Nat.le_trans (((((g7.trans g8).trans g9).trans g12).trans g13)).size (Nat.le_refl _)) u15).trans g16).trans g17).updr (Nat.le_trans ((((((((g7.trans g8).trans g9).trans g12).trans g13).trans g14).updr (Nat.le_trans (((((g7.trans g8).trans g9).trans g12).trans g13)).size (Nat.le_refl _)) u15).trans g16)).size (Nat.le_refl _)) u18).trans g19).trans g23).updr (Nat.le_trans (((((g7.trans g8).trans g9).trans g12).trans g13)).size (Nat.le_refl _)) u24)) (n5.grow ((((((((((((g7.trans g8).trans g9).trans g12).trans g13).trans g14).updr (Nat.le_trans (((((g7.trans g8).trans g9).trans g12).trans g13)).size (Nat.le_refl _)) u15).trans g16).trans g17).updr (Nat.le_trans ((((((((g7.trans g8).trans g9).trans g12).trans g13).trans g14).updr (Nat.le_trans (((((g7.trans g8).trans g9).trans g12).trans g13)).size (Nat.le_refl _)) u15).trans g16)).size (Nat.le_refl _)) u18).trans g19).trans g23).updr (Nat.le_trans (((((g7.trans g8).trans g9).trans g12).trans g13)).size (Nat.le_refl _)) u24)) (n6.grow ((((((((((((g7.trans g8).trans g9).trans g12).trans g13).trans g14).updr (Nat.le_trans (((((g7.trans g8).trans g9).trans g12).trans g13)).size (Nat.le_refl _)) u15).trans g16).trans g17).updr (Nat.le_trans ((((((((g7.trans g8).trans g9).trans g12).trans g13).trans g14).updr (Nat.le_trans (((((g7.trans g8).trans g9).trans g12).trans g13)).size (Nat.le_refl _)) u15).trans g16)).size (Nat.le_refl _)) u18).trans g19).trans g23).updr (Nat.le_trans (((((g7.trans g8).trans g9).trans g12).trans g13)).size (Nat.le_refl _)) u24)) a1 a4
          refine Runs.step e25 ?_
          refine Runs.step rfl ?_
          refine Runs.step rfl ?_
          refine Runs.ifT rfl ?_
          refine Runs.step (seenAt rfl rfl) ?_
          refine Runs.step (seenAt rfl (asSl_v _)) ?_
          refine Runs.step (seenAt rfl (asSl_v _)) ?_
          refine Runs.step (seen (avInt_int _ _)) ?_
          refine Runs.puts (g25.has b18_24) rfl fun H26 b26 u26 => ?_
          have n16_26 := (n16_24.grow g25).upda (Av.of_base n16 (Nat.le_refl _)) u26
          have n16b_26 := (n16b_24.grow g25).upda (Av.of_base n16b (Nat.le_refl _)) u26
          have n23_26 := (n23_24.grow g25).upda (Av.of_own o23 (g19.has b18).lt) u26
          have n23b_26 := (n23b_24.grow g25).upda (Av.of_own o23b (g19.has b18).lt) u26
          have n25_26 := n25.upda (Av.of_own o25 (b18_24).lt) u26
          have n25b_26 := n25b.upda (Av.of_own o25b (b18_24).lt) u26
          have b24_26 := AH.has.updr (g25.has b24) (Nat.ne_of_lt (Nat.lt_of_lt_of_le (g16.has b15).lt (Nat.le_refl _))) u26
          refine Runs.step (AH.has.rd b24_26 0 rfl rfl) ?_
          refine Runs.step (AH.has.rd b24_26 1 rfl (asSl_v _)) ?_
          refine Runs.step (AH.has.rd b24_26 2 rfl (asSl_v _)) ?_
          refine Runs.step (AH.has.rd b26 0 rfl rfl) ?_
          refine Runs.step (AH.has.rd b26 1 rfl (asSl_v _)) ?_
          refine Runs.step (AH.has.rd b26 2 rfl (asSl_v _)) ?_
          obtain ⟨c27_0, q27_0, e⟩ := Option.bind_eq_some_iff.1 e
          obtain ⟨H27, e27, g27⟩ := ref08_Same_need n23_26 n23b_26 n25_26 n25b_26 (((rational_Sub' a1 x2 x3 a4 x5 x6).1)) (((ref08_Sub' a1 x2 x3 a4 x5 x6).1))  c27_0.down
          refine Runs.step e27 ?_
          refine Runs.step (seen rfl) ?_
          refine Runs.cond (fun k28 => ?_) (fun k28 => ?_)
          · replace e := (condT k28).symm.trans e
            cases e
            cases good
            exact Runs.ret ⟨rfl, (((((((((((((((g7.trans g8).trans g9).trans g12).trans g13).trans g14).updr (Nat.le_trans (((((g7.trans g8).trans g9).trans g12).trans g13)).size (Nat.le_refl _)) u15).trans g16).trans g17).updr (Nat.le_trans ((((((((g7.trans g8).trans g9).trans g12).trans g13).trans g14).updr (Nat.le_trans (((((g7.trans g8).trans g9).trans g12).trans g13)).size (Nat.le_refl _)) u15).trans g16)).size (Nat.le_refl _)) u18).trans g19).trans g23).updr (Nat.le_trans (((((g7.trans g8).trans g9).trans g12).trans g13)).size (Nat.le_refl _)) u24).trans g25).updr (Nat.le_trans ((((((((g7.trans g8).trans g9).trans g12).trans g13).trans g14).updr (Nat.le_trans (((((g7.trans g8).trans g9).trans g12).trans g13)).size (Nat.le_refl _)) u15).trans g16)).size (Nat.le_refl _)) u26).trans g27)⟩
          · replace e := (condF k28).symm.trans e
            refine Runs.cond (fun k29 => ?_) (fun k29 => ?_)
            · replace e := (condT k29).symm.trans e
              cases e
              cases good
              exact Runs.ret ⟨rfl, (((((((((((((((g7.trans g8).trans g9).trans g12).trans g13).trans g14).updr (Nat.le_trans (((((g7.trans g8).trans g9).trans g12).trans g13)).size (Nat.le_refl _)) u15).trans g16).trans g17).updr (Nat.le_trans ((((((((g7.trans g8).trans g9).trans g12).trans g13).trans g14).updr (Nat.le_trans (((((g7.trans g8).trans g9).trans g12).trans g13)).size (Nat.le_refl _)) u15).trans g16)).size (Nat.le_refl _)) u18).trans g19).trans g23).updr (Nat.le_trans (((((g7.trans g8).trans g9).trans g12).trans g13)).size (Nat.le_refl _)) u24).trans g25).updr (Nat.le_trans ((((((((g7.trans g8).trans g9).trans g12).trans g13).trans g14).updr (Nat.le_trans (((((g7.trans g8).trans g9).trans g12).trans g13)).size (Nat.le_refl _)) u15).trans g16)).size (Nat.le_refl _)) u26).trans g27)⟩
            · replace e := (condF k29).symm.trans e
              refine Runs.step (AH.has.rd (((((((((((((((g8.trans g9).trans g12).trans g13).trans g14).updr (Nat.le_trans ((((g8.trans g9).trans g12).trans g13)).size (Nat.le_refl _)) u15).trans g16).trans g17).updr (Nat.le_trans (((((((g8.trans g9).trans g12).trans g13).trans g14).updr (Nat.le_trans ((((g8.trans g9).trans g12).trans g13)).size (Nat.le_refl _)) u15).trans g16)).size (Nat.le_refl _)) u18).trans g19).trans g23).updr (Nat.le_trans ((((g8.trans g9).trans g12).trans g13)).size (Nat.le_refl _)) u24).trans g25).updr (Nat.le_trans (((((((g8.trans g9).trans g12).trans g13).trans g14).updr (Nat.le_trans ((((g8.trans g9).trans g12).trans g13)).size (Nat.le_refl _)) u15).trans g16)).size (Nat.le_refl _)) u26).trans g27).has b7) 0 rfl rfl) ?_
              refine Runs.step (AH.has.rd (((((((((((((((g8.trans g9).trans g12).trans g13).trans g14).updr (Nat.le_trans ((((g8.trans g9).trans g12).trans g13)).size (Nat.le_refl _)) u15).trans g16).trans g17).updr (Nat.le_trans (((((((g8.trans g9).trans g12).trans g13).trans g14).updr (Nat.le_trans ((((g8.trans g9).trans g12).trans g13)).size (Nat.le_refl _)) u15).trans g16)).size (Nat.le_refl _)) u18).trans g19).trans g23).updr (Nat.le_trans ((((g8.trans g9).trans g12).trans g13)).size (Nat.le_refl _)) u24).trans g25).updr (Nat.le_trans (((((((g8.trans g9).trans g12).trans g13).trans g14).updr (Nat.le_trans ((((g8.trans g9).trans g12).trans g13)).size (Nat.le_refl _)) u15).trans g16)).size (Nat.le_refl _)) u26).trans g27).has b7) 1 rfl (asSl_v _)) ?_
              refine Runs.step (AH.has.rd (((((((((((((((g8.trans g9).trans g12).trans g13).trans g14).updr (Nat.le_trans ((((g8.trans g9).trans g12).trans g13)).size (Nat.le_refl _)) u15).trans g16).trans g17).updr (Nat.le_trans (((((((g8.trans g9).trans g12).trans g13).trans g14).updr (Nat.le_trans ((((g8.trans g9).trans g12).trans g13)).size (Nat.le_refl _)) u15).trans g16)).size (Nat.le_refl _)) u18).trans g19).trans g23).updr (Nat.le_trans ((((g8.trans g9).trans g12).trans g13)).size (Nat.le_refl _)) u24).trans g25).updr (Nat.le_trans (((((((g8.trans g9).trans g12).trans g13).trans g14).updr (Nat.le_trans ((((g8.trans g9).trans g12).trans g13)).size (Nat.le_refl _)) u15).trans g16)).size (Nat.le_refl _)) u26).trans g27).has b7) 2 rfl (asSl_v _)) ?_
              refine Runs.step (AH.has.rd ((((((((((((((g9.trans g12).trans g13).trans g14).updr (Nat.le_trans (((g9.trans g12).trans g13)).size (Nat.le_refl _)) u15).trans g16).trans g17).updr (Nat.le_trans ((((((g9.trans g12).trans g13).trans g14).updr (Nat.le_trans (((g9.trans g12).trans g13)).size (Nat.le_refl _)) u15).trans g16)).size (Nat.le_refl _)) u18).trans g19).trans g23).updr (Nat.le_trans (((g9.trans g12).trans g13)).size (Nat.le_refl _)) u24).trans g25).updr (Nat.le_trans ((((((g9.trans g12).trans g13).trans g14).updr (Nat.le_trans (((g9.trans g12).trans g13)).size (Nat.le_refl _)) u15).trans g16)).size (Nat.le_refl _)) u26).trans g27).has b8) 0 rfl rfl) ?_
              refine Runs.step (AH.has.rd ((((((((((((((g9.trans g12).trans g13).trans g14).updr (Nat.le_trans (((g9.trans g12).trans g13)).size (Nat.le_refl _)) u15).trans g16).trans g17).updr (Nat.le_trans ((((((g9.trans g12).trans g13).trans g14).updr (Nat.le_trans (((g9.trans g12).trans g13)).size (Nat.le_refl _)) u15).trans g16)).size (Nat.le_refl _)) u18).trans g19).trans g23).updr (Nat.le_trans (((g9.trans g12).trans g13)).size (Nat.le_refl _)) u24).trans g25).updr (Nat.le_trans ((((((g9.trans g12).trans g13).trans g14).updr (Nat.le_trans (((g9.trans g12).trans g13)).size (Nat.le_refl _)) u15).trans g16)).size (Nat.le_refl _)) u26).trans g27).has b8) 1 rfl (asSl_v _)) ?_
              refine Runs.step (AH.has.rd ((((((((((((((g9.trans g12).trans g13).trans g14).updr (Nat.le_trans (((g9.trans g12).trans g13)).size (Nat.le_refl _)) u15).trans g16).trans g17).updr (Nat.le_trans ((((((g9.trans g12).trans g13).trans g14).updr (Nat.le_trans (((g9.trans g12).trans g13)).size (Nat.le_refl _)) u15).trans g16)).size (Nat.le_refl _)) u18).trans g19).trans g23).updr (Nat.le_trans (((g9.trans g12).trans g13)).size (Nat.le_refl _)) u24).trans g25).updr (Nat.le_trans ((((((g9.trans g12).trans g13).trans g14).updr (Nat.le_trans (((g9.trans g12).trans g13)).size (Nat.le_refl _)) u15).trans g16)).size (Nat.le_refl _)) u26).trans g27).has b8) 2 rfl (asSl_v _)) ?_
              obtain ⟨_, H30, e30, s30, s30b, rfl, n30, n30b, g30, o30, o30b⟩ := rational_Mul_spec (n2.grow (((((((((((((((g7.trans g8).trans g9).trans g12).trans g13).trans g14).updr (Nat.le_trans (((((g7.trans g8).trans g9).trans g12).trans g13)).size (Nat.le_refl _)) u15).trans g16).trans g17).updr (Nat.le_trans ((((((((g7.trans g8).trans g9).trans g12).trans g13).trans g14).updr (Nat.le_trans (((((g7.trans g8).trans g9).trans g12).trans g13)).size (Nat.le_refl _)) u15).trans g16)).size (Nat.le_refl _)) u18).trans g19).trans g23).updr (Nat.le_trans (((((g7.trans g8).trans g9).trans g12).trans g13)).size (Nat.le_refl _)) u24).trans g25).updr (Nat.le_trans ((((((((g7.trans g8).trans g9).trans g12).trans g13).trans g14).updr (Nat.le_trans (((((g7.trans g8).trans g9).trans g12).trans g13)).size (Nat.le_refl _)) u15).trans g16)).size (Nat.le_refl _)) u26).trans g27)) (n3.grow (((((((((((((((g7.trans g8).trans g9).trans g12).trans g13).trans g14).updr (Nat.le_trans (((((g7.trans g8).trans g9).trans g12).trans g13)).size (Nat.le_refl _)) u15).trans g16).trans g17).updr (Nat.le_trans ((((((((g7.trans g8).trans g9).trans g12).trans g13).trans g14).updr (Nat.le_trans (((((g7.trans g8).trans g9).trans g12).trans g13)).size (Nat.le_refl _)) u15).trans g16)).size (Nat.le_refl _)) u18).trans g19).trans g23).updr (Nat.le_trans (((((g7.trans g8).trans g9).trans g12).trans g13)).size (Nat.le_refl _)) u24).trans g25).updr (Nat.le_trans ((((((((g7.trans g8).trans g9).trans g12).trans g13).trans g14).updr (Nat.le_trans (((((g7.trans g8).trans g9).trans g12).trans g13)).size (Nat.le_refl _)) u15).trans g16)).size (Nat.le_refl _)) u26).trans g27)) (n5.grow (((((((((((((((g7.trans g8).trans g9).trans g12).trans g13).trans g14).updr (Nat.le_trans (((((g7.trans g8).trans g9).trans g12).trans g13)).size (Nat.le_refl _)) u15).trans g16).trans g17).updr (Nat.le_trans ((((((((g7.trans g8).trans g9).trans g12).trans g13).trans g14).updr (Nat.le_trans (((((g7.trans g8).trans g9).trans g12).trans g13)).size (Nat.le_refl _)) u15).trans g16)).size (Nat.le_refl _)) u18).trans g19).trans g23).updr (Nat.le_trans (((((g7.trans g8).trans g9).trans g12).trans g13)).size (Nat.le_refl _)) u24).trans g25).updr (Nat.le_trans ((((((((g7.trans g8).trans g9).trans g12).trans g13).trans g14).updr (Nat.le_trans (((((g7.trans g8).trans g9).trans g12).trans g13)).size (Nat.le_refl _)) u15).trans g16)).size (Nat.le_refl _)) u26).trans g27)) (n6.grow (((((((((((((((g7.trans g8).trans g9).trans g12).trans g13).trans g14).updr (Nat.le_trans (((((g7.trans g8).trans g9).trans g12).trans g13)).size (Nat.le_refl _)) u15).trans g16).trans g17).updr (Nat.le_trans ((((((((g7.trans g8).trans g9).trans g12).trans g13).trans g14).updr (Nat.le_trans (((((g7.trans g8).trans g9).trans g12).trans g13)).size (Nat.le_refl _)) u15).trans g16)).size (Nat.le_refl _)) u18).trans g19).trans g23).updr (Nat.le_trans (((((g7.trans g8).trans g9).trans g12).trans g13)).size (Nat.le_refl _)) u24).trans g25).updr (Nat.le_trans ((((((((g7.trans g8).trans g9).trans g12).trans g13).trans g14).updr (Nat.le_trans (((((g7.trans g8).trans g9).trans g12).trans g13)).size (Nat.le_refl _)) u15).trans g16)).size (Nat.le_refl _)) u26).trans g27)) a1 a4
              refine Runs.step e30 ?_
              refine Runs.step rfl ?_
              refine Runs.step rfl ?_
              refine Runs.ifT rfl ?_
              refine Runs.step (seenAt rfl rfl) ?_
              refine Runs.step (seenAt rfl (asSl_v _)) ?_
              refine Runs.step (seenAt rfl (asSl_v _)) ?_
              refine Runs.step (seen (avInt_int _ _)) ?_
              refine Runs.puts ((g27.trans g30).has b24_26) rfl fun H31 b31 u31 => ?_
              have n16_31 := (n16_26.grow (g27.trans g30)).upda (Av.of_own o16 (b15).lt) u31
              have n16b_31 := (n16b_26.grow (g27.trans g30)).upda (Av.of_own o16b (b15).lt) u31
              have n23_31 := (n23_26.grow (g27.trans g30)).upda (Av.of_own o23 ((((g16.trans g17).updr (Nat.le_trans (g16).size (Nat.le_refl _)) u18).trans g19).has b15).lt) u31
              have n23b_31 := (n23b_26.grow (g27.trans g30)).upda (Av.of_own o23b ((((g16.trans g17).updr (Nat.le_trans (g16).size (Nat.le_refl _)) u18).trans g19).has b15).lt) u31
              have n25_31 := (n25_26.grow (g27.trans g30)).upda (Av.of_own o25 (b24).lt) u31
              have n25b_31 := (n25b_26.grow (g27.trans g30)).upda (Av.of_own o25b (b24).lt) u31
              have n30_31 := n30.upda (Av.of_own o30 (g27.has b24_26).lt) u31
              have n30b_31 := n30b.upda (Av.of_own o30b (g27.has b24_26).lt) u31
              have b26_31 := AH.has.updr ((g27.trans g30).has b26) (Nat.ne_of_gt (Nat.lt_of_lt_of_le (g16.has b15).lt (Nat.le_refl _))) u31
              refine Runs.step (AH.has.rd (((((((((((((((((g8.trans g9).trans g12).trans g13).trans g14).updr (Nat.le_trans ((((g8.trans g9).trans g12).trans g13)).size (Nat.le_refl _)) u15).trans g16).trans g17).updr (Nat.le_trans (((((((g8.trans g9).trans g12).trans g13).trans g14).updr (Nat.le_trans ((((g8.trans g9).trans g12).trans g13)).size (Nat.le_refl _)) u15).trans g16)).size (Nat.le_refl _)) u18).trans g19).trans g23).updr (Nat.le_trans ((((g8.trans g9).trans g12).trans g13)).size (Nat.le_refl _)) u24).trans g25).updr (Nat.le_trans (((((((g8.trans g9).trans g12).trans g13).trans g14).updr (Nat.le_trans ((((g8.trans g9).trans g12).trans g13)).size (Nat.le_refl _)) u15).trans g16)).size (Nat.le_refl _)) u26).trans g27).trans g30).updr (Nat.le_trans ((((g8.trans g9).trans g12).trans g13)).size (Nat.le_refl _)) u31).has b7) 0 rfl rfl) ?_
              refine Runs.step (AH.has.rd (((((((((((((((((g8.trans g9).trans g12).trans g13).trans g14).updr (Nat.le_trans ((((g8.trans g9).trans g12).trans g13)).size (Nat.le_refl _)) u15).trans g16).trans g17).updr (Nat.le_trans (((((((g8.trans g9).trans g12).trans g13).trans g14).updr (Nat.le_trans ((((g8.trans g9).trans g12).trans g13)).size (Nat.le_refl _)) u15).trans g16)).size (Nat.le_refl _)) u18).trans g19).trans g23).updr (Nat.le_trans ((((g8.trans g9).trans g12).trans g13)).size (Nat.le_refl _)) u24).trans g25).updr (Nat.le_trans (((((((g8.trans g9).trans g12).trans g13).trans g14).updr (Nat.le_trans ((((g8.trans g9).trans g12).trans g13)).size (Nat.le_refl _)) u15).trans g16)).size (Nat.le_refl _)) u26).trans g27).trans g30).updr (Nat.le_trans ((((g8.trans g9).trans g12).trans g13)).size (Nat.le_refl _)) u31).has b7) 1 rfl (asSl_v _)) ?_
              refine Runs.step (AH.has.rd (((((((((((((((((g8.trans g9).trans g12).trans g13).trans g14).updr (Nat.le_trans ((((g8.trans g9).trans g12).trans g13)).size (Nat.le_refl _)) u15).trans g16).trans g17).updr (Nat.le_trans (((((((g8.trans g9).trans g12).trans g13).trans g14).updr (Nat.le_trans ((((g8.trans g9).trans g12).trans g13)).size (Nat.le_refl _)) u15).trans g16)).size (Nat.le_refl _)) u18).trans g19).trans g23).updr (Nat.le_trans ((((g8.trans g9).trans g12).trans g13)).size (Nat.le_refl _)) u24).trans g25).updr (Nat.le_trans (((((((g8.trans g9).trans g12).trans g13).trans g14).updr (Nat.le_trans ((((g8.trans g9).trans g12).trans g13)).size (Nat.le_refl _)) u15).trans g16)).size (Nat.le_refl _)) u26).trans g27).trans g30).updr (Nat.le_trans ((((g8.trans g9).trans g12).trans g13)).size (Nat.le_refl _)) u31).has b7) 2 rfl (asSl_v _)) ?_
              refine Runs.step (AH.has.rd ((((((((((((((((g9.trans g12).trans g13).trans g14).updr (Nat.le_trans (((g9.trans g12).trans g13)).size (Nat.le_refl _)) u15).trans g16).trans g17).updr (Nat.le_trans ((((((g9.trans g12).trans g13).trans g14).updr (Nat.le_trans (((g9.trans g12).trans g13)).size (Nat.le_refl _)) u15).trans g16)).size (Nat.le_refl _)) u18).trans g19).trans g23).updr (Nat.le_trans (((g9.trans g12).trans g13)).size (Nat.le_refl _)) u24).trans g25).updr (Nat.le_trans ((((((g9.trans g12).trans g13).trans g14).updr (Nat.le_trans (((g9.trans g12).trans g13)).size (Nat.le_refl _)) u15).trans g16)).size (Nat.le_refl _)) u26).trans g27).trans g30).updr (Nat.le_trans (((g9.trans g12).trans g13)).size (Nat.le_refl _)) u31).has b8) 0 rfl rfl) ?_
              refine Runs.step (AH.has.rd ((((((((((((((((g9.trans g12).trans g13).trans g14).updr (Nat.le_trans (((g9.trans g12).trans g13)).size (Nat.le_refl _)) u15).trans g16).trans g17).updr (Nat.le_trans ((((((g9.trans g12).trans g13).trans g14).updr (Nat.le_trans (((g9.trans g12).trans g13)).size (Nat.le_refl _)) u15).trans g16)).size (Nat.le_refl _)) u18).trans g19).trans g23).updr (Nat.le_trans (((g9.trans g12).trans g13)).size (Nat.le_refl _)) u24).trans g25).updr (Nat.le_trans ((((((g9.trans g12).trans g13).trans g14).updr (Nat.le_trans (((g9.trans g12).trans g13)).size (Nat.le_refl _)) u15).trans g16)).size (Nat.le_refl _)) u26).trans g27).trans g30).updr (Nat.le_trans (((g9.trans g12).trans g13)).size (Nat.le_refl _)) u31).has b8) 1 rfl (asSl_v _)) ?_
              refine Runs.step (AH.has.rd ((((((((((((((((g9.trans g12).trans g13).trans g14).updr (Nat.le_trans (((g9.trans g12).trans g13)).size (Nat.le_refl _)) u15).trans g16).trans g17).updr (Nat.le_trans ((((((g9.trans g12).trans g13).trans g14).updr (Nat.le_trans (((g9.trans g12).trans g13)).size (Nat.le_refl _)) u15).trans g16)).size (Nat.le_refl _)) u18).trans g19).trans g23).updr (Nat.le_trans (((g9.trans g12).trans g13)).size (Nat.le_refl _)) u24).trans g25).updr (Nat.le_trans ((((((g9.trans g12).trans g13).trans g14).updr (Nat.le_trans (((g9.trans g12).trans g13)).size (Nat.le_refl _)) u15).trans g16)).size (Nat.le_refl _)) u26).trans g27).trans g30).updr (Nat.le_trans (((g9.trans g12).trans g13)).size (Nat.le_refl _)) u31).has b8) 2 rfl (asSl_v _)) ?_
              obtain ⟨_, H32, e32, s32, s32b, rfl, n32, n32b, g32, o32, o32b⟩ := ref08_Mul_spec (n2.grow (((((((((((((((((g7.trans g8).trans g9).trans g12).trans g13).trans g14).updr (Nat.le_trans (((((g7.trans g8).trans g9).trans g12).trans g13)).size (Nat.le_refl _)) u15).trans g16).trans g17).updr (Nat.le_trans ((((((((g7.trans g8).trans g9).trans g12).trans g13).trans g14).updr (Nat.le_trans (((((g7.trans g8).trans g9).trans g12).trans g13)).size (Nat.le_refl _)) u15).trans g16)).size (Nat.le_refl _)) u18).trans g19).trans g23).updr (Nat.le_trans (((((g7.trans g8).trans g9).trans g12).trans g13)).size (Nat.le_refl _)) u24).trans g25).updr (Nat.le_trans ((((((((g7.trans g8).trans g9).trans g12).trans g13).trans g14).updr (Nat.le_trans (((((g7.trans g8).trans g9).trans g12).trans g13)).size (Nat.le_refl _)) u15).trans g16)).size (Nat.le_refl _)) u26).trans g27).trans g30).updr (Nat.le_trans (((((g7.trans g8).trans g9).trans g12).trans g13)).size (Nat.le_refl _)) u31)) (n3.grow (((((((((((((((((g7.trans g8).trans g9).trans g12).trans g13).trans g14).updr (Nat.le_trans (((((g7.trans g8).trans g9).trans g12).trans g13)).size (Nat.le_refl _)) u15).trans g16).trans g17).updr (Nat.le_trans ((((((((g7.trans g8).trans g9).trans g12).trans g13).trans g14).updr (Nat.le_trans (((((g7.trans g8).trans g9).trans g12).trans g13)).size (Nat.le_refl _)) u15).trans g16)).size (Nat.le_refl _)) u18).trans g19).trans g23).updr (Nat.le_trans (((((g7.trans g8).trans g9).trans g12).trans g13)).size (Nat.le_refl _)) u24).trans g25).updr (Nat.le_trans ((((((((g7.trans g8).trans g9).trans g12).trans g13).trans g14).updr (Nat.le_trans (((((g7.trans g8).trans g9).trans g12).trans g13)).size (Nat.le_refl _)) u15).trans g16)).size (Nat.le_refl _)) u26).trans g27).trans g30).updr (Nat.le_trans (((((g7.trans g8).trans g9).trans g12).trans g13)).size (Nat.le_refl _)) u31)) (n5.grow (((((((((((((((((g7.trans g8).trans g9).trans g12).trans g13).trans g14).updr (Nat.le_trans (((((g7.trans g8).trans g9).trans g12).trans g13)).size (Nat.le_refl _)) u15).trans g16).trans g17).updr (Nat.le_trans ((((((((g7.trans g8).trans g9).trans g12).trans g13).trans g14).updr (Nat.le_trans (((((g7.trans g8).trans g9).trans g12).trans g13)).size (Nat.le_refl _)) u15).trans g16)).size (Nat.le_refl _)) u18).trans g19).trans g23).updr (Nat.le_trans (((((g7.trans g8).trans g9).trans g12).trans g13)).size (Nat.le_refl _)) u24).trans g25).updr (Nat.le_trans ((((((((g7.trans g8).trans g9).trans g12).trans g13).trans g14).updr (Nat.le_trans (((((g7.trans g8).trans g9).trans g12).trans g13)).size (Nat.le_refl _)) u15).trans g16)).size (Nat.le_refl _)) u26).trans g27).trans g30).updr (Nat.le_trans (((((g7.trans g8).trans g9).trans g12).trans g13)).size (Nat.le_refl _)) u31)) (n6.grow (((((((((((((((((g7.trans g8).trans g9).trans g12).trans g13).trans g14).updr (Nat.le_trans (((((g7.trans g8).trans g9).trans g12).trans g13)).size (Nat.le_refl _)) u15).trans g16).trans g17).updr (Nat.le_trans ((((((((g7.trans g8).trans g9).trans g12).trans g13).trans g14).updr (Nat.le_trans (((((g7.trans g8).trans g9).trans g12).trans g13)).size (Nat.le_refl _)) u15).trans g16)).size (Nat.le_refl _)) u18).trans g19).trans g23).updr (Nat.le_trans (((((g7.trans g8).trans g9).trans g12).trans g13)).size (Nat.le_refl _)) u24).trans g25).updr (Nat.le_trans ((((((((g7.trans g8).trans g9).trans g12).trans g13).trans g14).updr (Nat.le_trans (((((g7.trans g8).trans g9).trans g12).trans g13)).size (Nat.le_refl _)) u15).trans g16)).size (Nat.le_refl _)) u26).trans g27).trans g30).updr (Nat.le_trans (((((g7.trans g8).trans g9).trans g12).trans g13)).size (Nat.le_refl _)) u31)) a1 a4
              refine Runs.step e32 ?_
              refine Runs.step rfl ?_
              refine Runs.step rfl ?_
              refine Runs.ifT rfl ?_
              refine Runs.step (seenAt rfl rfl) ?_
              refine Runs.step (seenAt rfl (asSl_v _)) ?_
              refine Runs.step (seenAt rfl (asSl_v _)) ?_
              refine Runs.step (seen (avInt_int _ _)) ?_
              refine Runs.puts (g32.has b26_31) rfl fun H33 b33 u33 => ?_
              have n16_33 := (n16_31.grow g32).upda (Av.of_base n16 (Nat.le_refl _)) u33
              have n16b_33 := (n16b_31.grow g32).upda (Av.of_base n16b (Nat.le_refl _)) u33
              have n23_33 := (n23_31.grow g32).upda (Av.of_own o23 (g19.has b18).lt) u33
              have n23b_33 := (n23b_31.grow g32).upda (Av.of_own o23b (g19.has b18).lt) u33
              have n25_33 := (n25_31.grow g32).upda (Av.of_own o25 (b18_24).lt) u33
              have n25b_33 := (n25b_31.grow g32).upda (Av.of_own o25b (b18_24).lt) u33
              have n30_33 := (n30_31.grow g32).upda (Av.of_own o30 (g27.has b26).lt) u33
              have n30b_33 := (n30b_31.grow g32).upda (Av.of_own o30b (g27.has b26).lt) u33
              have n32_33 := n32.upda (Av.of_own o32 (b26_31).lt) u33
              have n32b_33 := n32b.upda (Av.of_own o32b (b26_31).lt) u33
              have b31_33 := AH.has.updr (g32.has b31) (Nat.ne_of_lt (Nat.lt_of_lt_of_le (g16.has b15).lt (Nat.le_refl _))) u33
              refine Runs.step (AH.has.rd b31_33 0 rfl rfl) ?_
              refine Runs.step (AH.has.rd b31_33 1 rfl (asSl_v _)) ?_
              refine Runs.step (AH.has.rd b31_33 2 rfl (asSl_v _)) ?_
              refine Runs.step (AH.has.rd b33 0 rfl rfl) ?_
              refine Runs.step (AH.has.rd b33 1 rfl (asSl_v _)) ?_
              refine Runs.step (AH.has.rd b33 2 rfl (asSl_v _)) ?_
              obtain ⟨c34_0, q34_0, e⟩ := Option.bind_eq_some_iff.1 e
              obtain ⟨H34, e34, g34⟩ := ref08_Same_need n30_33 n30b_33 n32_33 n32b_33 (((rational_Mul' a1 x2 x3 a4 x5 x6).1)) (((ref08_Mul' a1 x2 x3 a4 x5 x6).1))  c34_0.down
              refine Runs.step e34 ?_
              refine Runs.step (seen rfl) ?_
              refine Runs.cond (fun k35 => ?_) (fun k35 => ?_)
              · replace e := (condT k35).symm.trans e
                cases e
                cases good
                exact Runs.ret ⟨rfl, ((((((((((((((((((((g7.trans g8).trans g9).trans g12).trans g13).trans g14).updr (Nat.le_trans (((((g7.trans g8).trans g9).trans g12).trans g13)).size (Nat.le_refl _)) u15).trans g16).trans g17).updr (Nat.le_trans ((((((((g7.trans g8).trans g9).trans g12).trans g13).trans g14).updr (Nat.le_trans (((((g7.trans g8).trans g9).trans g12).trans g13)).size (Nat.le_refl _)) u15).trans g16)).size (Nat.le_refl _)) u18).trans g19).trans g23).updr (Nat.le_trans (((((g7.trans g8).trans g9).trans g12).trans g13)).size (Nat.le_refl _)) u24).trans g25).updr (Nat.le_trans ((((((((g7.trans g8).trans g9).trans g12).trans g13).trans g14).updr (Nat.le_trans (((((g7.trans g8).trans g9).trans g12).trans g13)).size (Nat.le_refl _)) u15).trans g16)).size (Nat.le_refl _)) u26).trans g27).trans g30).updr (Nat.le_trans (((((g7.trans g8).trans g9).trans g12).trans g13)).size (Nat.le_refl _)) u31).trans g32).updr (Nat.le_trans ((((((((g7.trans g8).trans g9).trans g12).trans g13).trans g14).updr (Nat.le_trans (((((g7.trans g8).trans g9).trans g12).trans g13)).size (Nat.le_refl _)) u15).trans g16)).size (Nat.le_refl _)) u33).trans g34)⟩
              · replace e := (condF k35).symm.trans e
                cases e
                cases good
                exact Runs.ret ⟨rfl, ((((((((((((((((((((g7.trans g8).trans g9).trans g12).trans g13).trans g14).updr (Nat.le_trans (((((g7.trans g8).trans g9).trans g12).trans g13)).size (Nat.le_refl _)) u15).trans g16).trans g17).updr (Nat.le_trans ((((((((g7.trans g8).trans g9).trans g12).trans g13).trans g14).updr (Nat.le_trans (((((g7.trans g8).trans g9).trans g12).trans g13)).size (Nat.le_refl _)) u15).trans g16)).size (Nat.le_refl _)) u18).trans g19).trans g23).updr (Nat.le_trans (((((g7.trans g8).trans g9).trans g12).trans g13)).size (Nat.le_refl _)) u24).trans g25).updr (Nat.le_trans ((((((((g7.trans g8).trans g9).trans g12).trans g13).trans g14).updr (Nat.le_trans (((((g7.trans g8).trans g9).trans g12).trans g13)).size (Nat.le_refl _)) u15).trans g16)).size (Nat.le_refl _)) u26).trans g27).trans g30).updr (Nat.le_trans (((((g7.trans g8).trans g9).trans g12).trans g13)).size (Nat.le_refl _)) u31).trans g32).updr (Nat.le_trans ((((((((g7.trans g8).trans g9).trans g12).trans g13).trans g14).updr (Nat.le_trans (((((g7.trans g8).trans g9).trans g12).trans g13)).size (Nat.le_refl _)) u15).trans g16)).size (Nat.le_refl _)) u33).trans g34)⟩

theorem law08_RationalSums_run {s : law08_RationalSums_St} {r : law08_RationalSums_Res} (it : Iter law08_RationalSums_step s r) : law08_RationalSums_At r s := Iter.ind (fun s o e good => by
  cases s with
  | fn a1 x2 x3 a4 x5 x6 => exact @law08_RationalSums_fn_walk _ _ a1 x2 x3 a4 x5 x6 e good
  | no => exact True.intro
  ) it

theorem law08_RationalSums_opt {h : AH} {a2 : Sl} {a3 : Sl} {a5 : Sl} {a6 : Sl} {a1 : Bool} {x2 : List Nat} {x3 : List Nat} {a4 : Bool} {x5 : List Nat} {x6 : List Nat} (n2 : Nats h a2 x2) (n3 : Nats h a3 x3) (n5 : Nats h a5 x5) (n6 : Nats h a6 x6) {r : law08_RationalSums_Res} (q : runP law08_RationalSums_step (.fn a1 x2 x3 a4 x5 x6) = some r) : Runs (go (.fn F.law08_RationalSums [.agg [.bool a1, a2.v, a3.v], .agg [.bool a4, a5.v, a6.v]]) h) (law08_RationalSums_post h r) := law08_RationalSums_run (runP_iter q) n2 n3 n5 n6

end Go.Ab

/- Layer 8: the laws Makes, Sums, Compares, Between. -/
set_option linter.unusedVariables false
set_option linter.unusedSimpArgs false
set_option maxRecDepth 10000
namespace Go.Ab
open Go.Proofs Go.Num

theorem frac_of_arg {h : AH} {x : AV} (a : ArgV Pg h T.api_Frac x) : ∃ (neg : Bool) (s : Sl) (xs : List Nat) (t : Sl) (ys : List Nat), x = .agg [.bool neg, s.v, t.v] ∧ Nats h s xs ∧ Nats h t ys := by
  unfold ArgV at a
  rw [und_api_Frac] at a
  obtain ⟨cs, rfl, t⟩ := a
  obtain ⟨hl, hf⟩ := t.struct und_api_Frac
  rw [cells_api_Frac] at hl
  match cs, hl with
  | [x0, x1, x2], _ =>
    simp [cells_api_Int, cells_api_Nat] at hf
    obtain ⟨h0, h1⟩ := hf
    obtain ⟨hl, hf⟩ := h0.struct und_api_Int
    simp [cells_bool, cells_api_Nat] at hf
    obtain ⟨h2, h3⟩ := hf
    obtain ⟨b, e0⟩ := h2.bool und_bool
    obtain ⟨s, xs, e1, n⟩ := nats_of_arg h3
    obtain ⟨s', ys, e2, m⟩ := nats_of_arg h1
    cases e0; cases e1; cases e2
    exact ⟨b, s, xs, s', ys, rfl, n, m⟩

theorem Makes_iter (p : Bool) (xs ys : List Nat) : Iter law08_RationalMakes_step (.fn p xs ys) true := .done (by
  show law08_RationalMakes_fn' _ _ _ = _
  unfold law08_RationalMakes_fn'
  refine cond_elim (fun _ => rfl) fun _ => ?_
  simp)

theorem RationalMakes_law (h : AH) {x0 : AV} (z0 : ArgV Pg h T.api_Frac x0) : ∃ h', go (.fn F.law08_RationalMakes [x0]) h = some (.bool true, h') := by
  obtain ⟨p, s, xs, t, ys, rfl, n, m⟩ := frac_of_arg z0
  obtain ⟨_, h', e, rfl, _⟩ := law08_RationalMakes_run (Makes_iter p xs ys) n m
  exact ⟨h', e⟩

theorem Sums_iter {p q : Bool} {xs ys us vs : List Nat} (lx : ∀ x ∈ xs, x < B) (ly : ∀ x ∈ ys, x < B) (lu : ∀ x ∈ us, x < B) (lv : ∀ x ∈ vs, x < B) : Iter law08_RationalSums_step (.fn p xs ys q us vs) true := .done (by
  show law08_RationalSums_fn' _ _ _ _ _ _ = _
  unfold law08_RationalSums_fn'
  refine cond_elim (fun _ => rfl) fun _ => ?_
  rw [ref08_Add_eq, ref08_Mul_eq, ref08_Sub_eq lx ly lu lv, need_of ⟨rfl, rfl, rfl⟩, need_of ⟨rfl, rfl, rfl⟩, need_of ⟨rfl, rfl, rfl⟩]
  simp)

theorem RationalSums_law (h : AH) {x0 x1 : AV} (z0 : ArgV Pg h T.api_Frac x0) (z1 : ArgV Pg h T.api_Frac x1) : ∃ h', go (.fn F.law08_RationalSums [x0, x1]) h = some (.bool true, h') := by
  obtain ⟨p, s, xs, t, ys, rfl, n, m⟩ := frac_of_arg z0
  obtain ⟨q, s', us, t', vs, rfl, n', m'⟩ := frac_of_arg z1
  obtain ⟨_, h', e, rfl, _⟩ := law08_RationalSums_run (Sums_iter n.lt m.lt n'.lt m'.lt) n m n' m'
  exact ⟨h', e⟩

theorem Compares_iter {p q : Bool} {xs ys us vs : List Nat} (lx : ∀ x ∈ xs, x < B) (ly : ∀ x ∈ ys, x < B) : Iter law08_RationalCompares_step (.fn p xs ys q us vs) true := .done (by
  show law08_RationalCompares_fn' _ _ _ _ _ _ = _
  unfold law08_RationalCompares_fn'
  refine cond_elim (fun _ => rfl) fun _ => ?_
  rw [ref08_Cmp_eq, ref08_Floor_eq lx ly, need_of ⟨rfl, rfl⟩]
  simp)

theorem RationalCompares_law (h : AH) {x0 x1 : AV} (z0 : ArgV Pg h T.api_Frac x0) (z1 : ArgV Pg h T.api_Frac x1) : ∃ h', go (.fn F.law08_RationalCompares [x0, x1]) h = some (.bool true, h') := by
  obtain ⟨p, s, xs, t, ys, rfl, n, m⟩ := frac_of_arg z0
  obtain ⟨q, s', us, t', vs, rfl, n', m'⟩ := frac_of_arg z1
  obtain ⟨_, h', e, rfl, _⟩ := law08_RationalCompares_run (Compares_iter n.lt m.lt) n m n' m'
  exact ⟨h', e⟩

theorem whole_frac {z : Int} (hz : z.natAbs < B ^ 16) : IsFrac (intD z).1 (intD z).2 [1] z 1 := ⟨rfl, rfl, digs_one.symm, by decide, hz, by decide +kernel, Nat.gcd_one_right _⟩

theorem Between_iter {p : Bool} {xs ys : List Nat} (lx : ∀ x ∈ xs, x < B) (ly : ∀ x ∈ ys, x < B) : Iter law08_RationalBetween_step (.fn p xs ys) true := .done (by
  show law08_RationalBetween_fn' _ _ _ = _
  unfold law08_RationalBetween_fn'
  refine cond_elim (fun _ => rfl) fun _ => ?_
  cases hr : rational_Right' p xs ys with
  | false => rfl
  | true =>
    obtain ⟨z, d, f⟩ := IsFrac.of lx ly hr
    have hd := f.pos
    rw [Floor_of f, need_of (by decide)]
    simp only [Bool.not_true, cond_false, Option.bind_some, decide_true]
    have hq : (z / (d : Int)).natAbs ≤ z.natAbs := (floor_small (B_16_64 f.zlt) (by omega)).2
    have h16 := f.zlt
    have hl := Int.mul_ediv_add_emod z (d : Int)
    have hm0 := Int.emod_nonneg z (show (d : Int) ≠ 0 by omega)
    have hm1 := Int.emod_lt_of_pos z (show (0 : Int) < d by omega)
    generalize z / (d : Int) = q at *
    generalize z % (d : Int) = m at *
    refine cond_elim (fun _ => rfl) fun k1 => ?_
    have h1 := B_16_64 h16
    have hB : B ^ 16 + 1 < B ^ 64 := by decide +kernel
    rw [ofI_intD (by decide), add_intD (by omega) (by decide +kernel), if_pos (by omega)]
    dsimp only
    refine cond_elim (fun _ => rfl) fun k2 => ?_
    have e2 : (intD (q + 1)).2 = digs B (q + 1).natAbs := rfl
    rw [e2, len_gt16] at k2
    have k3 : (q + 1).natAbs < B ^ 16 := by simpa using k2
    rw [u64P_one, Option.bind_some, Option.bind_some, Cmp_of (whole_frac (z := q) (by omega)) f, Cmp_of f (whole_frac k3)]
    have c1 : q * (d : Int) ≤ z := by rw [Int.mul_comm]; omega
    have c2 : z * ((1 : Nat) : Int) < (q + 1) * (d : Int) := by
      rw [Int.add_mul, Int.mul_comm q]
      omega
    rw [if_pos c2]
    have c3 : decide ((if q * (d : Int) < z * ((1 : Nat) : Int) then (-1 : Int) else if q * (d : Int) = z * ((1 : Nat) : Int) then 0 else 1) ≤ 0) = true := by
      rw [decide_eq_true_eq]
      by_cases h : q * (d : Int) < z * ((1 : Nat) : Int)
      · rw [if_pos h]; omega
      · rw [if_neg h, if_pos (by omega)]; omega
    rw [c3]
    rfl)

theorem RationalBetween_law (h : AH) {x0 : AV} (z0 : ArgV Pg h T.api_Frac x0) : ∃ h', go (.fn F.law08_RationalBetween [x0]) h = some (.bool true, h') := by
  obtain ⟨p, s, xs, t, ys, rfl, n, m⟩ := frac_of_arg z0
  obtain ⟨_, h', e, rfl, _⟩ := law08_RationalBetween_run (Between_iter n.lt m.lt) n m
  exact ⟨h', e⟩

end Go.Ab
