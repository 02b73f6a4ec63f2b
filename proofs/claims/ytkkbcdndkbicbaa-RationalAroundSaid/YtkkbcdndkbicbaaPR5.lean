/- Layer 8: the laws, their walks: printed by wip/tools/walk.py. -/
import Derived.Test.YtkkbcdndkbicbaaPR3

set_option linter.unusedVariables false
set_option linter.unusedSimpArgs false
set_option maxRecDepth 10000
namespace Go.Ab
open Go.Proofs Go.Num

inductive law08_awake_St
  | fn 
  | no

abbrev law08_awake_Res := Bool

noncomputable def law08_awake_fn'  : Option (law08_awake_St ⊕ law08_awake_Res) :=
  (u64P 6).bind fun w3 => (u64P 4).bind fun w4 => cond (decide (((rational_Make' false [w3] [w4]).2.2.2) = 0)) (cond (decide ((List.length ((rational_Make' false [w3] [w4]).2.1) : Int) = 1)) ((atI ((rational_Make' false [w3] [w4]).2.1) 0).bind fun y10 => cond (decide (((y10 : Int)) = 3)) (cond (decide ((List.length ((rational_Make' false [w3] [w4]).2.2.1) : Int) = 1)) ((atI ((rational_Make' false [w3] [w4]).2.2.1) 0).bind fun y13 => some (.inr (decide (((y13 : Int)) = 2)))) (some (.inr false))) (some (.inr false))) (some (.inr false))) (some (.inr false))

noncomputable def law08_awake_step : law08_awake_St → Option (law08_awake_St ⊕ law08_awake_Res)
  | .fn  => law08_awake_fn' 
  | .no => none

@[reducible] def law08_awake_post (h0 : AH) (r : law08_awake_Res) (v : AV) (h' : AH) : Prop := v = .bool r ∧ Grow h0 h'

def law08_awake_At (r : law08_awake_Res) : law08_awake_St → Prop
  | .fn  => ∀ {h : AH}, Runs (go (.fn F.law08_awake []) h) (law08_awake_post h r)
  | .no => True

theorem law08_awake_fn_walk {r : law08_awake_Res} {o : law08_awake_St ⊕ law08_awake_Res}  (e : law08_awake_fn'  = some o) (good : GoodS (law08_awake_At r) r o) : law08_awake_At r (.fn ) := by
  intro h
  rw [u_law08_awake]
  unfold law08_awake_fn' at e
  refine Runs.new fun H1 b1 g1 => ?_
  refine Runs.new fun H2 b2 g2 => ?_
  obtain ⟨w3, z3, e⟩ := Option.bind_eq_some_iff.1 e
  obtain ⟨w4, z4, e⟩ := Option.bind_eq_some_iff.1 e
  obtain ⟨_, H5, e5, s5, s5b, rfl, n5, n5b, g5, o5, o5b⟩ := rational_Make_spec (Nats.of_has1 (g2.has b1) z3) (Nats.of_has1 b2 z4) false
  refine Runs.step e5 ?_
  refine Runs.step rfl ?_
  refine Runs.step rfl ?_
  refine Runs.ifT rfl ?_
  refine Runs.step (seenAt rfl rfl) ?_
  refine Runs.step (seenAt rfl (asSl_v _)) ?_
  refine Runs.step (seenAt rfl (asSl_v _)) ?_
  refine Runs.step (seen (avInt_int _ _)) ?_
  refine Runs.new fun H6 b6 g6 => ?_
  refine Runs.puts b6 rfl fun H7 b7 u7 => ?_
  refine Runs.cond (fun k8 => ?_) (fun k8 => ?_)
  · replace e := (condT k8).symm.trans e
    refine Runs.step (AH.has.rd b7 1 rfl (asSl_v _)) ?_
    rw [(n5.grow (g6.updr (Nat.le_refl _) u7)).len]
    refine Runs.cond (fun k9 => ?_) (fun k9 => ?_)
    · replace e := (condT k9).symm.trans e
      refine Runs.step (AH.has.rd b7 1 rfl (asSl_v _)) ?_
      rw [(n5.grow (g6.updr (Nat.le_refl _) u7)).len]
      obtain ⟨y10, q10, e⟩ := Option.bind_eq_some_iff.1 e
      obtain ⟨r10, j10, l10⟩ := (n5.grow (g6.updr (Nat.le_refl _) u7)).atI q10
      refine Runs.step j10 ?_
      refine Runs.step (rdc l10 (avInt_int _ _)) ?_
      refine Runs.cond (fun k11 => ?_) (fun k11 => ?_)
      · replace e := (condT k11).symm.trans e
        refine Runs.step (AH.has.rd b7 2 rfl (asSl_v _)) ?_
        rw [(n5b.grow (g6.updr (Nat.le_refl _) u7)).len]
        refine Runs.cond (fun k12 => ?_) (fun k12 => ?_)
        · replace e := (condT k12).symm.trans e
          refine Runs.step (AH.has.rd b7 2 rfl (asSl_v _)) ?_
          rw [(n5b.grow (g6.updr (Nat.le_refl _) u7)).len]
          obtain ⟨y13, q13, e⟩ := Option.bind_eq_some_iff.1 e
          obtain ⟨r13, j13, l13⟩ := (n5b.grow (g6.updr (Nat.le_refl _) u7)).atI q13
          refine Runs.step j13 ?_
          refine Runs.step (rdc l13 (avInt_int _ _)) ?_
          cases e
          cases good
          have G14 := ((g1.trans g2).trans g5)
          have G15 := ((((g1.trans g2).trans g5).trans g6).updr (Nat.le_trans (G14).size (Nat.le_refl _)) u7)
          exact Runs.ret ⟨rfl, G15⟩
        · replace e := (condF k12).symm.trans e
          cases e
          cases good
          have G13 := ((g1.trans g2).trans g5)
          have G14 := ((((g1.trans g2).trans g5).trans g6).updr (Nat.le_trans (G13).size (Nat.le_refl _)) u7)
          exact Runs.ret ⟨rfl, G14⟩
      · replace e := (condF k11).symm.trans e
        cases e
        cases good
        have G12 := ((g1.trans g2).trans g5)
        have G13 := ((((g1.trans g2).trans g5).trans g6).updr (Nat.le_trans (G12).size (Nat.le_refl _)) u7)
        exact Runs.ret ⟨rfl, G13⟩
    · replace e := (condF k9).symm.trans e
      cases e
      cases good
      have G10 := ((g1.trans g2).trans g5)
      have G11 := ((((g1.trans g2).trans g5).trans g6).updr (Nat.le_trans (G10).size (Nat.le_refl _)) u7)
      exact Runs.ret ⟨rfl, G11⟩
  · replace e := (condF k8).symm.trans e
    cases e
    cases good
    have G9 := ((g1.trans g2).trans g5)
    have G10 := ((((g1.trans g2).trans g5).trans g6).updr (Nat.le_trans (G9).size (Nat.le_refl _)) u7)
    exact Runs.ret ⟨rfl, G10⟩

theorem law08_awake_run {s : law08_awake_St} {r : law08_awake_Res} (it : Iter law08_awake_step s r) : law08_awake_At r s := Iter.ind (fun s o e good => by
  cases s with
  | fn  => exact @law08_awake_fn_walk _ _  e good
  | no => exact True.intro
  ) it

theorem law08_awake_opt {h : AH}    {r : law08_awake_Res} (q : runP law08_awake_step (.fn ) = some r) : Runs (go (.fn F.law08_awake []) h) (law08_awake_post h r) := law08_awake_run (runP_iter q) 

theorem Make_6_4 : rational_Make' false [6] [4] = (false, [3], [2], 0) := by decide +kernel

theorem awake08 {h : AH} : ∃ h', go (.fn F.law08_awake []) h = some (.bool true, h') ∧ Grow h h' := by
  have it : Iter law08_awake_step .fn true := .done (by
    show law08_awake_fn' = _
    unfold law08_awake_fn'
    rw [show u64P 6 = some 6 from rfl, Option.bind_some, show u64P 4 = some 4 from rfl, Option.bind_some, Make_6_4]
    rfl)
  obtain ⟨_, h', e, rfl, g⟩ := law08_awake_run it (h := h)
  exact ⟨h', e, g⟩

inductive law08_RationalMakes_St
  | fn (a1 : Bool) (x2 : List Nat) (x3 : List Nat)
  | no

abbrev law08_RationalMakes_Res := Bool

noncomputable def law08_RationalMakes_fn' (a1 : Bool) (x2 : List Nat) (x3 : List Nat) : Option (law08_RationalMakes_St ⊕ law08_RationalMakes_Res) :=
  cond (!((fewF x2 x3))) (some (.inr true)) (cond (true) (cond (true) (cond (decide (((rational_Make' a1 x2 x3).2.2.2) = ((rational_Make' a1 x2 x3).2.2.2))) (some (.inr (((rational_Right' a1 x2 x3)) == ((rational_Right' a1 x2 x3))))) (some (.inr false))) (some (.inr false))) (some (.inr false)))

noncomputable def law08_RationalMakes_step : law08_RationalMakes_St → Option (law08_RationalMakes_St ⊕ law08_RationalMakes_Res)
  | .fn a1 x2 x3 => law08_RationalMakes_fn' a1 x2 x3
  | .no => none

@[reducible] def law08_RationalMakes_post (h0 : AH) (r : law08_RationalMakes_Res) (v : AV) (h' : AH) : Prop := v = .bool r ∧ Grow h0 h'

def law08_RationalMakes_At (r : law08_RationalMakes_Res) : law08_RationalMakes_St → Prop
  | .fn a1 x2 x3 => ∀ {h : AH} {a2 : Sl} {a3 : Sl}, Nats h a2 x2 → Nats h a3 x3 → Runs (go (.fn F.law08_RationalMakes [.agg [.bool a1, a2.v, a3.v]]) h) (law08_RationalMakes_post h r)
  | .no => True

theorem law08_RationalMakes_fn_walk {r : law08_RationalMakes_Res} {o : law08_RationalMakes_St ⊕ law08_RationalMakes_Res} {a1 : Bool} {x2 : List Nat} {x3 : List Nat} (e : law08_RationalMakes_fn' a1 x2 x3 = some o) (good : GoodS (law08_RationalMakes_At r) r o) : law08_RationalMakes_At r (.fn a1 x2 x3) := by
  intro h a2 a3 n2 n3
  rw [u_law08_RationalMakes]
  unfold law08_RationalMakes_fn' at e
  refine Runs.new fun H4 b4 g4 => ?_
  refine Runs.step (AH.has.rd b4 0 rfl rfl) ?_
  refine Runs.step (AH.has.rd b4 1 rfl (asSl_v _)) ?_
  refine Runs.step (AH.has.rd b4 2 rfl (asSl_v _)) ?_
  refine Runs.new fun H5 b5 g5 => ?_
  refine Runs.step (few08_1 b5 (n2.grow (g4.trans g5)) (n3.grow (g4.trans g5))) ?_
  refine Runs.step (seen rfl) ?_
  refine Runs.cond (fun k7 => ?_) (fun k7 => ?_)
  · replace e := (condT k7).symm.trans e
    cases e
    cases good
    exact Runs.ret ⟨rfl, (g4.trans g5)⟩
  · replace e := (condF k7).symm.trans e
    obtain ⟨H8, e8, g8⟩ := awake08
    refine Runs.step e8 ?_
    refine Runs.step (seen rfl) ?_
    refine Runs.step (AH.has.rd ((g5.trans g8).has b4) 0 rfl rfl) ?_
    refine Runs.step (AH.has.rd ((g5.trans g8).has b4) 1 rfl (asSl_v _)) ?_
    refine Runs.step (AH.has.rd ((g5.trans g8).has b4) 2 rfl (asSl_v _)) ?_
    have G9 := ((g4.trans g5).trans g8)
    have n2_10 := n2.grow G9
    have n3_11 := n3.grow G9
    obtain ⟨_, H12, e12, s12, s12b, rfl, n12, n12b, g12, o12, o12b⟩ := rational_Make_spec n2_10 n3_11 a1
    refine Runs.step e12 ?_
    refine Runs.step rfl ?_
    refine Runs.step rfl ?_
    refine Runs.ifT rfl ?_
    refine Runs.step (seenAt rfl rfl) ?_
    refine Runs.step (seenAt rfl (asSl_v _)) ?_
    refine Runs.step (seenAt rfl (asSl_v _)) ?_
    refine Runs.step (seen (avInt_int _ _)) ?_
    refine Runs.new fun H13 b13 g13 => ?_
    refine Runs.puts b13 rfl fun H14 b14 u14 => ?_
    have G15 := ((g5.trans g8).trans g12)
    have G16 := ((((g5.trans g8).trans g12).trans g13).updr (Nat.le_trans (G15).size (Nat.le_refl _)) u14)
    have b4_17 := G16.has b4
    refine Runs.step (AH.has.rd b4_17 0 rfl rfl) ?_
    refine Runs.step (AH.has.rd b4_17 1 rfl (asSl_v _)) ?_
    refine Runs.step (AH.has.rd b4_17 2 rfl (asSl_v _)) ?_
    have G18 := ((g12.trans g13).updr (Nat.le_trans (g12).size (Nat.le_refl _)) u14)
    have n2_19 := n2_10.grow G18
    have n3_20 := n3_11.grow G18
    obtain ⟨_, H21, e21, s21, s21b, rfl, n21, n21b, g21, o21, o21b⟩ := ref08_Make_is n2_19 n3_20 a1
    refine Runs.step e21 ?_
    refine Runs.step rfl ?_
    refine Runs.step rfl ?_
    refine Runs.ifT rfl ?_
    refine Runs.step (seenAt rfl rfl) ?_
    refine Runs.step (seenAt rfl (asSl_v _)) ?_
    refine Runs.step (seenAt rfl (asSl_v _)) ?_
    refine Runs.step (seen (avInt_int _ _)) ?_
    refine Runs.new fun H22 b22 g22 => ?_
    refine Runs.puts b22 rfl fun H23 b23 u23 => ?_
    have G24 := ((g21.trans g22).updr (Nat.le_trans (g21).size (Nat.le_refl _)) u23)
    have b14_25 := G24.has b14
    refine Runs.step (AH.has.rd b14_25 0 rfl rfl) ?_
    refine Runs.step (AH.has.rd b14_25 1 rfl (asSl_v _)) ?_
    refine Runs.step (AH.has.rd b14_25 2 rfl (asSl_v _)) ?_
    refine Runs.step (AH.has.rd b23 0 rfl rfl) ?_
    refine Runs.step (AH.has.rd b23 1 rfl (asSl_v _)) ?_
    refine Runs.step (AH.has.rd b23 2 rfl (asSl_v _)) ?_
    have G26 := ((g13.updr (Nat.le_refl _) u14).trans g21)
    have G27 := ((((g13.updr (Nat.le_refl _) u14).trans g21).trans g22).updr (Nat.le_trans (G26).size (Nat.le_refl _)) u23)
    have n12_28 := n12.grow G27
    have n12b_29 := n12b.grow G27
    obtain ⟨H30, e30, g30⟩ := ref08_Same_spec n12_28 n12b_29 (n21.grow (g22.updr (Nat.le_refl _) u23)) (n21b.grow (g22.updr (Nat.le_refl _) u23)) (((rational_Make' a1 x2 x3).1))
    refine Runs.step e30 ?_
    refine Runs.step (seen rfl) ?_
    refine Runs.cond (fun k31 => ?_) (fun k31 => ?_)
    · replace e := (condT k31).symm.trans e
      refine Runs.cond (fun k32 => ?_) (fun k32 => ?_)
      · replace e := (condT k32).symm.trans e
        refine Runs.cond (fun k33 => ?_) (fun k33 => ?_)
        · replace e := (condT k33).symm.trans e
          have G34 := (G24.trans g30)
          have b4_35 := G34.has b4_17
          refine Runs.step (AH.has.rd b4_35 0 rfl rfl) ?_
          refine Runs.step (AH.has.rd b4_35 1 rfl (asSl_v _)) ?_
          refine Runs.step (AH.has.rd b4_35 2 rfl (asSl_v _)) ?_
          refine Runs.step (AH.has.rd b4_35 0 rfl rfl) ?_
          refine Runs.step (AH.has.rd b4_35 1 rfl (asSl_v _)) ?_
          refine Runs.step (AH.has.rd b4_35 2 rfl (asSl_v _)) ?_
          have n2_36 := n2_19.grow G34
          have n3_37 := n3_20.grow G34
          obtain ⟨_, H38, e38, rfl, g38⟩ := rational_Right_spec n2_36 n3_37 a1
          refine Runs.step e38 ?_
          refine Runs.step (seen rfl) ?_
          refine Runs.when (g38.same b4_35 0 3) ?_
          obtain ⟨_, H39, e39, rfl, g39⟩ := ref08_Right_is (n2_36.grow g38) (n3_37.grow g38) a1
          refine Runs.step e39 ?_
          refine Runs.step (seen rfl) ?_
          cases e
          cases good
          have G40 := (G9.trans g12)
          have G41 := (((G40.trans g13).updr (Nat.le_trans (G40).size (Nat.le_refl _)) u14).trans g21)
          have G42 := (((((((((G9.trans g12).trans g13).updr (Nat.le_trans (G40).size (Nat.le_refl _)) u14).trans g21).trans g22).updr (Nat.le_trans (G41).size (Nat.le_refl _)) u23).trans g30).trans g38).trans g39)
          exact Runs.ret ⟨rfl, G42⟩
        · replace e := (condF k33).symm.trans e
          have G34 := (G24.trans g30)
          have b4_35 := G34.has b4_17
          refine Runs.when ((Grow.refl _).same b4_35 0 3) ?_
          cases e
          cases good
          have G36 := (G9.trans g12)
          have G37 := (((G36.trans g13).updr (Nat.le_trans (G36).size (Nat.le_refl _)) u14).trans g21)
          have G38 := (((((((G9.trans g12).trans g13).updr (Nat.le_trans (G36).size (Nat.le_refl _)) u14).trans g21).trans g22).updr (Nat.le_trans (G37).size (Nat.le_refl _)) u23).trans g30)
          exact Runs.ret ⟨rfl, G38⟩
      · replace e := (condF k32).symm.trans e
        have G33 := (G24.trans g30)
        have b4_34 := G33.has b4_17
        refine Runs.when ((Grow.refl _).same b4_34 0 3) ?_
        cases e
        cases good
        have G35 := (G9.trans g12)
        have G36 := (((G35.trans g13).updr (Nat.le_trans (G35).size (Nat.le_refl _)) u14).trans g21)
        have G37 := (((((((G9.trans g12).trans g13).updr (Nat.le_trans (G35).size (Nat.le_refl _)) u14).trans g21).trans g22).updr (Nat.le_trans (G36).size (Nat.le_refl _)) u23).trans g30)
        exact Runs.ret ⟨rfl, G37⟩
    · replace e := (condF k31).symm.trans e
      have G32 := (G24.trans g30)
      have b4_33 := G32.has b4_17
      refine Runs.when ((Grow.refl _).same b4_33 0 3) ?_
      cases e
      cases good
      have G34 := (G9.trans g12)
      have G35 := (((G34.trans g13).updr (Nat.le_trans (G34).size (Nat.le_refl _)) u14).trans g21)
      have G36 := (((((((G9.trans g12).trans g13).updr (Nat.le_trans (G34).size (Nat.le_refl _)) u14).trans g21).trans g22).updr (Nat.le_trans (G35).size (Nat.le_refl _)) u23).trans g30)
      exact Runs.ret ⟨rfl, G36⟩

theorem law08_RationalMakes_run {s : law08_RationalMakes_St} {r : law08_RationalMakes_Res} (it : Iter law08_RationalMakes_step s r) : law08_RationalMakes_At r s := Iter.ind (fun s o e good => by
  cases s with
  | fn a1 x2 x3 => exact @law08_RationalMakes_fn_walk _ _ a1 x2 x3 e good
  | no => exact True.intro
  ) it

theorem law08_RationalMakes_opt {h : AH} {a2 : Sl} {a3 : Sl} {a1 : Bool} {x2 : List Nat} {x3 : List Nat} (n2 : Nats h a2 x2) (n3 : Nats h a3 x3) {r : law08_RationalMakes_Res} (q : runP law08_RationalMakes_step (.fn a1 x2 x3) = some r) : Runs (go (.fn F.law08_RationalMakes [.agg [.bool a1, a2.v, a3.v]]) h) (law08_RationalMakes_post h r) := law08_RationalMakes_run (runP_iter q) n2 n3

inductive law08_RationalCompares_St
  | fn (a1 : Bool) (x2 : List Nat) (x3 : List Nat) (a4 : Bool) (x5 : List Nat) (x6 : List Nat)
  | no

abbrev law08_RationalCompares_Res := Bool

noncomputable def law08_RationalCompares_fn' (a1 : Bool) (x2 : List Nat) (x3 : List Nat) (a4 : Bool) (x5 : List Nat) (x6 : List Nat) : Option (law08_RationalCompares_St ⊕ law08_RationalCompares_Res) :=
  cond (!((fewF x2 x3 && fewF x5 x6))) (some (.inr true)) ((need ((((rational_Floor' a1 x2 x3).1)) = (((ref08_Floor' a1 x2 x3).1)) ∧ ((rational_Floor' a1 x2 x3).2.1) = ((ref08_Floor' a1 x2 x3).2.1))).bind fun c36_0 => cond (true) (cond (true) (cond (decide (((rational_Floor' a1 x2 x3).2.2) = ((ref08_Floor' a1 x2 x3).2.2))) (some (.inr (decide (((rational_Cmp' a1 x2 x3 a4 x5 x6)) = ((ref08_Cmp' a1 x2 x3 a4 x5 x6)))))) (some (.inr false))) (some (.inr false))) (some (.inr false)))

noncomputable def law08_RationalCompares_step : law08_RationalCompares_St → Option (law08_RationalCompares_St ⊕ law08_RationalCompares_Res)
  | .fn a1 x2 x3 a4 x5 x6 => law08_RationalCompares_fn' a1 x2 x3 a4 x5 x6
  | .no => none

@[reducible] def law08_RationalCompares_post (h0 : AH) (r : law08_RationalCompares_Res) (v : AV) (h' : AH) : Prop := v = .bool r ∧ Grow h0 h'

def law08_RationalCompares_At (r : law08_RationalCompares_Res) : law08_RationalCompares_St → Prop
  | .fn a1 x2 x3 a4 x5 x6 => ∀ {h : AH} {a2 : Sl} {a3 : Sl} {a5 : Sl} {a6 : Sl}, Nats h a2 x2 → Nats h a3 x3 → Nats h a5 x5 → Nats h a6 x6 → Runs (go (.fn F.law08_RationalCompares [.agg [.bool a1, a2.v, a3.v], .agg [.bool a4, a5.v, a6.v]]) h) (law08_RationalCompares_post h r)
  | .no => True

theorem law08_RationalCompares_fn_walk {r : law08_RationalCompares_Res} {o : law08_RationalCompares_St ⊕ law08_RationalCompares_Res} {a1 : Bool} {x2 : List Nat} {x3 : List Nat} {a4 : Bool} {x5 : List Nat} {x6 : List Nat} (e : law08_RationalCompares_fn' a1 x2 x3 a4 x5 x6 = some o) (good : GoodS (law08_RationalCompares_At r) r o) : law08_RationalCompares_At r (.fn a1 x2 x3 a4 x5 x6) := by
  intro h a2 a3 a5 a6 n2 n3 n5 n6
  rw [u_law08_RationalCompares]
  unfold law08_RationalCompares_fn' at e
  refine Runs.new fun H7 b7 g7 => ?_
  refine Runs.new fun H8 b8 g8 => ?_
  refine Runs.step (AH.has.rd (g8.has b7) 0 rfl rfl) ?_
  refine Runs.step (AH.has.rd (g8.has b7) 1 rfl (asSl_v _)) ?_
  refine Runs.step (AH.has.rd (g8.has b7) 2 rfl (asSl_v _)) ?_
  refine Runs.step (AH.has.rd b8 0 rfl rfl) ?_
  refine Runs.step (AH.has.rd b8 1 rfl (asSl_v _)) ?_
  refine Runs.step (AH.has.rd b8 2 rfl (asSl_v _)) ?_
  refine Runs.new fun H9 b9 g9 => ?_
  have G10 := ((g7.trans g8).trans g9)
  have n2_11 := n2.grow G10
  have n3_12 := n3.grow G10
  have n5_13 := n5.grow G10
  have n6_14 := n6.grow G10
  refine Runs.step (few08_2 b9 n2_11 n3_12 n5_13 n6_14) ?_
  refine Runs.step (seen rfl) ?_
  refine Runs.cond (fun k16 => ?_) (fun k16 => ?_)
  · replace e := (condT k16).symm.trans e
    cases e
    cases good
    exact Runs.ret ⟨rfl, G10⟩
  · replace e := (condF k16).symm.trans e
    obtain ⟨H17, e17, g17⟩ := awake08
    refine Runs.step e17 ?_
    refine Runs.step (seen rfl) ?_
    have G18 := ((g8.trans g9).trans g17)
    have b7_19 := G18.has b7
    refine Runs.step (AH.has.rd b7_19 0 rfl rfl) ?_
    refine Runs.step (AH.has.rd b7_19 1 rfl (asSl_v _)) ?_
    refine Runs.step (AH.has.rd b7_19 2 rfl (asSl_v _)) ?_
    obtain ⟨_, H20, e20, s20, rfl, n20, g20, o20⟩ := rational_Floor_spec (n2_11.grow g17) (n3_12.grow g17) a1
    refine Runs.step e20 ?_
    refine Runs.step rfl ?_
    refine Runs.step rfl ?_
    refine Runs.ifT rfl ?_
    refine Runs.step (seenAt rfl rfl) ?_
    refine Runs.step (seenAt rfl (asSl_v _)) ?_
    refine Runs.step (seen (avInt_int _ _)) ?_
    refine Runs.new fun H21 b21 g21 => ?_
    refine Runs.puts b21 rfl fun H22 b22 u22 => ?_
    have G23 := ((g20.trans g21).updr (Nat.le_trans (g20).size (Nat.le_refl _)) u22)
    have b7_24 := G23.has b7_19
    refine Runs.step (AH.has.rd b7_24 0 rfl rfl) ?_
    refine Runs.step (AH.has.rd b7_24 1 rfl (asSl_v _)) ?_
    refine Runs.step (AH.has.rd b7_24 2 rfl (asSl_v _)) ?_
    have G25 := (((g17.trans g20).trans g21).updr (Nat.le_trans ((g17.trans g20)).size (Nat.le_refl _)) u22)
    have n2_26 := n2_11.grow G25
    have n3_27 := n3_12.grow G25
    obtain ⟨_, H28, e28, s28, rfl, n28, g28, o28⟩ := ref08_Floor_spec n2_26 n3_27 a1
    refine Runs.step e28 ?_
    refine Runs.step rfl ?_
    refine Runs.step rfl ?_
    refine Runs.ifT rfl ?_
    refine Runs.step (seenAt rfl rfl) ?_
    refine Runs.step (seenAt rfl (asSl_v _)) ?_
    refine Runs.step (seen (avInt_int _ _)) ?_
    refine Runs.new fun H29 b29 g29 => ?_
    refine Runs.puts b29 rfl fun H30 b30 u30 => ?_
    have G31 := ((g28.trans g29).updr (Nat.le_trans (g28).size (Nat.le_refl _)) u30)
    have b22_32 := G31.has b22
    refine Runs.step (AH.has.rd b22_32 0 rfl rfl) ?_
    refine Runs.step (AH.has.rd b22_32 1 rfl (asSl_v _)) ?_
    refine Runs.step (AH.has.rd b30 0 rfl rfl) ?_
    refine Runs.step (AH.has.rd b30 1 rfl (asSl_v _)) ?_
    have G33 := ((g21.updr (Nat.le_refl _) u22).trans g28)
    have G34 := ((((g21.updr (Nat.le_refl _) u22).trans g28).trans g29).updr (Nat.le_trans (G33).size (Nat.le_refl _)) u30)
    have n20_35 := n20.grow G34
    obtain ⟨c36_0, q36_0, e⟩ := Option.bind_eq_some_iff.1 e
    obtain ⟨H36, e36, g36⟩ := ref03_Same_need n20_35 (n28.grow (g29.updr (Nat.le_refl _) u30)) (((rational_Floor' a1 x2 x3).1)) (((ref08_Floor' a1 x2 x3).1))  c36_0.down
    refine Runs.step e36 ?_
    refine Runs.step (seen rfl) ?_
    refine Runs.cond (fun k37 => ?_) (fun k37 => ?_)
    · replace e := (condT k37).symm.trans e
      refine Runs.cond (fun k38 => ?_) (fun k38 => ?_)
      · replace e := (condT k38).symm.trans e
        refine Runs.cond (fun k39 => ?_) (fun k39 => ?_)
        · replace e := (condT k39).symm.trans e
          have G40 := (G31.trans g36)
          have b7_41 := G40.has b7_24
          refine Runs.step (AH.has.rd b7_41 0 rfl rfl) ?_
          refine Runs.step (AH.has.rd b7_41 1 rfl (asSl_v _)) ?_
          refine Runs.step (AH.has.rd b7_41 2 rfl (asSl_v _)) ?_
          have G42 := ((g9.trans g17).trans g20)
          have G43 := (((G42.trans g21).updr (Nat.le_trans (G42).size (Nat.le_refl _)) u22).trans g28)
          have G44 := ((((((((g9.trans g17).trans g20).trans g21).updr (Nat.le_trans (G42).size (Nat.le_refl _)) u22).trans g28).trans g29).updr (Nat.le_trans (G43).size (Nat.le_refl _)) u30).trans g36)
          have b8_45 := G44.has b8
          refine Runs.step (AH.has.rd b8_45 0 rfl rfl) ?_
          refine Runs.step (AH.has.rd b8_45 1 rfl (asSl_v _)) ?_
          refine Runs.step (AH.has.rd b8_45 2 rfl (asSl_v _)) ?_
          refine Runs.step (AH.has.rd b7_41 0 rfl rfl) ?_
          refine Runs.step (AH.has.rd b7_41 1 rfl (asSl_v _)) ?_
          refine Runs.step (AH.has.rd b7_41 2 rfl (asSl_v _)) ?_
          refine Runs.step (AH.has.rd b8_45 0 rfl rfl) ?_
          refine Runs.step (AH.has.rd b8_45 1 rfl (asSl_v _)) ?_
          refine Runs.step (AH.has.rd b8_45 2 rfl (asSl_v _)) ?_
          have n2_46 := n2_26.grow G40
          have n3_47 := n3_27.grow G40
          have G48 := (G25.trans g28)
          have G49 := ((((G25.trans g28).trans g29).updr (Nat.le_trans (G48).size (Nat.le_refl _)) u30).trans g36)
          have n5_50 := n5_13.grow G49
          have n6_51 := n6_14.grow G49
          obtain ⟨_, H52, e52, rfl, g52⟩ := rational_Cmp_spec n2_46 n3_47 n5_50 n6_51 a1 a4
          refine Runs.step e52 ?_
          refine Runs.step (seen (avInt_int _ _)) ?_
          refine Runs.when (g52.same b8_45 0 3) ?_
          refine Runs.when (g52.same b7_41 0 3) ?_
          obtain ⟨_, H53, e53, rfl, g53⟩ := ref08_Cmp_spec (n2_46.grow g52) (n3_47.grow g52) (n5_50.grow g52) (n6_51.grow g52) a1 a4
          refine Runs.step e53 ?_
          refine Runs.step (seen (avInt_int _ _)) ?_
          cases e
          cases good
          have G54 := ((G10.trans g17).trans g20)
          have G55 := (((G54.trans g21).updr (Nat.le_trans (G54).size (Nat.le_refl _)) u22).trans g28)
          have G56 := ((((((((((G10.trans g17).trans g20).trans g21).updr (Nat.le_trans (G54).size (Nat.le_refl _)) u22).trans g28).trans g29).updr (Nat.le_trans (G55).size (Nat.le_refl _)) u30).trans g36).trans g52).trans g53)
          exact Runs.ret ⟨rfl, G56⟩
        · replace e := (condF k39).symm.trans e
          have G40 := ((g9.trans g17).trans g20)
          have G41 := (((G40.trans g21).updr (Nat.le_trans (G40).size (Nat.le_refl _)) u22).trans g28)
          have G42 := ((((((((g9.trans g17).trans g20).trans g21).updr (Nat.le_trans (G40).size (Nat.le_refl _)) u22).trans g28).trans g29).updr (Nat.le_trans (G41).size (Nat.le_refl _)) u30).trans g36)
          have b8_43 := G42.has b8
          refine Runs.when ((Grow.refl _).same b8_43 0 3) ?_
          have G44 := (G31.trans g36)
          have b7_45 := G44.has b7_24
          refine Runs.when ((Grow.refl _).same b7_45 0 3) ?_
          cases e
          cases good
          have G46 := ((G10.trans g17).trans g20)
          have G47 := (((G46.trans g21).updr (Nat.le_trans (G46).size (Nat.le_refl _)) u22).trans g28)
          have G48 := ((((((((G10.trans g17).trans g20).trans g21).updr (Nat.le_trans (G46).size (Nat.le_refl _)) u22).trans g28).trans g29).updr (Nat.le_trans (G47).size (Nat.le_refl _)) u30).trans g36)
          exact Runs.ret ⟨rfl, G48⟩
      · replace e := (condF k38).symm.trans e
        have G39 := ((g9.trans g17).trans g20)
        have G40 := (((G39.trans g21).updr (Nat.le_trans (G39).size (Nat.le_refl _)) u22).trans g28)
        have G41 := ((((((((g9.trans g17).trans g20).trans g21).updr (Nat.le_trans (G39).size (Nat.le_refl _)) u22).trans g28).trans g29).updr (Nat.le_trans (G40).size (Nat.le_refl _)) u30).trans g36)
        have b8_42 := G41.has b8
        refine Runs.when ((Grow.refl _).same b8_42 0 3) ?_
        have G43 := (G31.trans g36)
        have b7_44 := G43.has b7_24
        refine Runs.when ((Grow.refl _).same b7_44 0 3) ?_
        cases e
        cases good
        have G45 := ((G10.trans g17).trans g20)
        have G46 := (((G45.trans g21).updr (Nat.le_trans (G45).size (Nat.le_refl _)) u22).trans g28)
        have G47 := ((((((((G10.trans g17).trans g20).trans g21).updr (Nat.le_trans (G45).size (Nat.le_refl _)) u22).trans g28).trans g29).updr (Nat.le_trans (G46).size (Nat.le_refl _)) u30).trans g36)
        exact Runs.ret ⟨rfl, G47⟩
    · replace e := (condF k37).symm.trans e
      have G38 := ((g9.trans g17).trans g20)
      have G39 := (((G38.trans g21).updr (Nat.le_trans (G38).size (Nat.le_refl _)) u22).trans g28)
      have G40 := ((((((((g9.trans g17).trans g20).trans g21).updr (Nat.le_trans (G38).size (Nat.le_refl _)) u22).trans g28).trans g29).updr (Nat.le_trans (G39).size (Nat.le_refl _)) u30).trans g36)
      have b8_41 := G40.has b8
      refine Runs.when ((Grow.refl _).same b8_41 0 3) ?_
      have G42 := (G31.trans g36)
      have b7_43 := G42.has b7_24
      refine Runs.when ((Grow.refl _).same b7_43 0 3) ?_
      cases e
      cases good
      have G44 := ((G10.trans g17).trans g20)
      have G45 := (((G44.trans g21).updr (Nat.le_trans (G44).size (Nat.le_refl _)) u22).trans g28)
      have G46 := ((((((((G10.trans g17).trans g20).trans g21).updr (Nat.le_trans (G44).size (Nat.le_refl _)) u22).trans g28).trans g29).updr (Nat.le_trans (G45).size (Nat.le_refl _)) u30).trans g36)
      exact Runs.ret ⟨rfl, G46⟩

theorem law08_RationalCompares_run {s : law08_RationalCompares_St} {r : law08_RationalCompares_Res} (it : Iter law08_RationalCompares_step s r) : law08_RationalCompares_At r s := Iter.ind (fun s o e good => by
  cases s with
  | fn a1 x2 x3 a4 x5 x6 => exact @law08_RationalCompares_fn_walk _ _ a1 x2 x3 a4 x5 x6 e good
  | no => exact True.intro
  ) it

theorem law08_RationalCompares_opt {h : AH} {a2 : Sl} {a3 : Sl} {a5 : Sl} {a6 : Sl} {a1 : Bool} {x2 : List Nat} {x3 : List Nat} {a4 : Bool} {x5 : List Nat} {x6 : List Nat} (n2 : Nats h a2 x2) (n3 : Nats h a3 x3) (n5 : Nats h a5 x5) (n6 : Nats h a6 x6) {r : law08_RationalCompares_Res} (q : runP law08_RationalCompares_step (.fn a1 x2 x3 a4 x5 x6) = some r) : Runs (go (.fn F.law08_RationalCompares [.agg [.bool a1, a2.v, a3.v], .agg [.bool a4, a5.v, a6.v]]) h) (law08_RationalCompares_post h r) := law08_RationalCompares_run (runP_iter q) n2 n3 n5 n6

end Go.Ab

/- Layer 8: the laws, their walks: printed by wip/tools/walk.py. -/
set_option linter.unusedVariables false
set_option linter.unusedSimpArgs false
set_option maxRecDepth 10000
namespace Go.Ab
open Go.Proofs Go.Num

inductive law08_RationalBetween_St
  | fn (a1 : Bool) (x2 : List Nat) (x3 : List Nat)
  | no

abbrev law08_RationalBetween_Res := Bool

noncomputable def law08_RationalBetween_fn' (a1 : Bool) (x2 : List Nat) (x3 : List Nat) : Option (law08_RationalBetween_St ⊕ law08_RationalBetween_Res) :=
  cond (!((fewF x2 x3))) (some (.inr true)) (cond (!true) (some (.inr true)) (cond (!((rational_Right' a1 x2 x3))) (some (.inr true)) ((need (-9223372036854775808 ≤ (1 : Int) ∧ (1 : Int) ≤ 9223372036854775807)).bind fun c21_0 => cond (!decide (((rational_Floor' a1 x2 x3).2.2) = 0)) (some (.inr (decide (((rational_Floor' a1 x2 x3).2.2) = 0)))) (cond (decide ((List.length ((rational_Floor' a1 x2 x3).2.1) : Int) > 16)) (some (.inr (decide (((rational_Floor' a1 x2 x3).2.2) = 0)))) (cond (decide ((List.length ((modint_Add' (((rational_Floor' a1 x2 x3).1)) ((rational_Floor' a1 x2 x3).2.1) ((ofI 1).1) ((ofI 1).2)).2.1) : Int) > 16)) (some (.inr (decide (((rational_Floor' a1 x2 x3).2.2) = 0)))) ((u64P 1).bind fun w52 => cond (decide (((rational_Cmp' ((((rational_Floor' a1 x2 x3).1))) ((rational_Floor' a1 x2 x3).2.1) [w52] a1 x2 x3)) ≤ 0)) ((u64P 1).bind fun w65 => some (.inr (decide (((rational_Cmp' a1 x2 x3 ((((modint_Add' (((rational_Floor' a1 x2 x3).1)) ((rational_Floor' a1 x2 x3).2.1) ((ofI 1).1) ((ofI 1).2)).1))) ((modint_Add' (((rational_Floor' a1 x2 x3).1)) ((rational_Floor' a1 x2 x3).2.1) ((ofI 1).1) ((ofI 1).2)).2.1) [w65])) = (-1))))) (some (.inr false))))))))

noncomputable def law08_RationalBetween_step : law08_RationalBetween_St → Option (law08_RationalBetween_St ⊕ law08_RationalBetween_Res)
  | .fn a1 x2 x3 => law08_RationalBetween_fn' a1 x2 x3
  | .no => none

@[reducible] def law08_RationalBetween_post (h0 : AH) (r : law08_RationalBetween_Res) (v : AV) (h' : AH) : Prop := v = .bool r ∧ Grow h0 h'

def law08_RationalBetween_At (r : law08_RationalBetween_Res) : law08_RationalBetween_St → Prop
  | .fn a1 x2 x3 => ∀ {h : AH} {a2 : Sl} {a3 : Sl}, Nats h a2 x2 → Nats h a3 x3 → Runs (go (.fn F.law08_RationalBetween [.agg [.bool a1, a2.v, a3.v]]) h) (law08_RationalBetween_post h r)
  | .no => True

theorem law08_RationalBetween_fn_walk {r : law08_RationalBetween_Res} {o : law08_RationalBetween_St ⊕ law08_RationalBetween_Res} {a1 : Bool} {x2 : List Nat} {x3 : List Nat} (e : law08_RationalBetween_fn' a1 x2 x3 = some o) (good : GoodS (law08_RationalBetween_At r) r o) : law08_RationalBetween_At r (.fn a1 x2 x3) := by
  intro h a2 a3 n2 n3
  rw [u_law08_RationalBetween]
  unfold law08_RationalBetween_fn' at e
  refine Runs.new fun H4 b4 g4 => ?_
  refine Runs.step (AH.has.rd b4 0 rfl rfl) ?_
  refine Runs.step (AH.has.rd b4 1 rfl (asSl_v _)) ?_
  refine Runs.step (AH.has.rd b4 2 rfl (asSl_v _)) ?_
  refine Runs.new fun H5 b5 g5 => ?_
  refine Runs.step (few08_1 b5 (n2.grow (g4.trans g5)) (n3.grow (g4.trans g5))) ?_
  refine Runs.step (seen rfl) ?_
  refine Runs.cond (fun k7 => ?_) (fun k7 => ?_)
  · replace e := (condT k7).symm.trans e
    cases e
    cases good
    exact Runs.ret ⟨rfl, (g4.trans g5)⟩
  · replace e := (condF k7).symm.trans e
    obtain ⟨H8, e8, g8⟩ := awake08
    refine Runs.step e8 ?_
    refine Runs.step (seen rfl) ?_
    refine Runs.step (AH.has.rd ((g5.trans g8).has b4) 0 rfl rfl) ?_
    refine Runs.step (AH.has.rd ((g5.trans g8).has b4) 1 rfl (asSl_v _)) ?_
    refine Runs.step (AH.has.rd ((g5.trans g8).has b4) 2 rfl (asSl_v _)) ?_
    have G9 := ((g4.trans g5).trans g8)
    have n2_10 := n2.grow G9
    have n3_11 := n3.grow G9
    obtain ⟨_, H12, e12, rfl, g12⟩ := ref08_Right_is n2_10 n3_11 a1
    refine Runs.step e12 ?_
    refine Runs.step (seen rfl) ?_
    refine Runs.cond (fun k13 => ?_) (fun k13 => ?_)
    · replace e := (condT k13).symm.trans e
      cases e
      cases good
      have G14 := (G9.trans g12)
      exact Runs.ret ⟨rfl, G14⟩
    · replace e := (condF k13).symm.trans e
      refine Runs.cond (fun k14 => ?_) (fun k14 => ?_)
      · replace e := (condT k14).symm.trans e
        cases e
        cases good
        have G15 := (G9.trans g12)
        exact Runs.ret ⟨rfl, G15⟩
      · replace e := (condF k14).symm.trans e
        have G15 := ((g5.trans g8).trans g12)
        have b4_16 := G15.has b4
        refine Runs.step (AH.has.rd b4_16 0 rfl rfl) ?_
        refine Runs.step (AH.has.rd b4_16 1 rfl (asSl_v _)) ?_
        refine Runs.step (AH.has.rd b4_16 2 rfl (asSl_v _)) ?_
        obtain ⟨_, H17, e17, s17, rfl, n17, g17, o17⟩ := rational_Floor_spec (n2_10.grow g12) (n3_11.grow g12) a1
        refine Runs.step e17 ?_
        refine Runs.step rfl ?_
        refine Runs.step rfl ?_
        refine Runs.ifT rfl ?_
        refine Runs.step (seenAt rfl rfl) ?_
        refine Runs.step (seenAt rfl (asSl_v _)) ?_
        refine Runs.step (seen (avInt_int _ _)) ?_
        refine Runs.new fun H18 b18 g18 => ?_
        refine Runs.puts b18 rfl fun H19 b19 u19 => ?_
        refine Runs.new fun H20 b20 g20 => ?_
        refine Runs.step (AH.has.rd (g20.has b19) 0 rfl rfl) ?_
        refine Runs.step (AH.has.rd (g20.has b19) 1 rfl (asSl_v _)) ?_
        obtain ⟨c21_0, q21_0, e⟩ := Option.bind_eq_some_iff.1 e
        obtain ⟨s21, H21, e21, n21, g21, o21⟩ := ref03_Of_need 1  c21_0.down
        refine Runs.step e21 ?_
        refine Runs.step rfl ?_
        refine Runs.ifT rfl ?_
        refine Runs.step (seenAt rfl rfl) ?_
        refine Runs.step (seenAt rfl (asSl_v _)) ?_
        refine Runs.when (g21.same (g20.has b19) 0 2) ?_
        refine Runs.when (g21.same b20 0 0) ?_
        have G22 := (((g18.updr (Nat.le_refl _) u19).trans g20).trans g21)
        have n17_23 := n17.grow G22
        obtain ⟨_, H24, e24, s24, rfl, n24, g24, o24⟩ := ref03_Add_is n17_23 n21 (((rational_Floor' a1 x2 x3).1)) ((ofI 1).1)
        refine Runs.step e24 ?_
        refine Runs.step rfl ?_
        refine Runs.step rfl ?_
        refine Runs.ifT rfl ?_
        refine Runs.step (seenAt rfl rfl) ?_
        refine Runs.step (seenAt rfl (asSl_v _)) ?_
        refine Runs.step (seen (avInt_int _ _)) ?_
        refine Runs.when (g24.same (g21.has b20) 0 0) ?_
        refine Runs.puts ((g21.trans g24).has b20) rfl fun H25 b25 u25 => ?_
        have n17_25 := (n17_23.grow g24).upda (Av.of_base n17 (Nat.le_trans ((g18.updr (Nat.le_refl _) u19)).size (Nat.le_refl _))) u25
        have n21_25 := (n21.grow g24).upda (Av.of_own o21 (b20).lt) u25
        have n24_25 := n24.upda (Av.of_own o24 (g21.has b20).lt) u25
        refine Runs.cond (fun k26 => ?_) (fun k26 => ?_)
        · replace e := (condT k26).symm.trans e
          cases e
          cases good
          have G27 := ((G9.trans g12).trans g17)
          have G28 := ((G27.trans g18).updr (Nat.le_trans (G27).size (Nat.le_refl _)) u19)
          have G29 := ((((((((G9.trans g12).trans g17).trans g18).updr (Nat.le_trans (G27).size (Nat.le_refl _)) u19).trans g20).trans g21).trans g24).updr (Nat.le_trans (G28).size (Nat.le_refl _)) u25)
          exact Runs.ret ⟨rfl, G29⟩
        · replace e := (condF k26).symm.trans e
          have G27 := (((g20.trans g21).trans g24).updr (Nat.le_refl _) u25)
          have b19_28 := G27.has b19
          refine Runs.step (AH.has.rd b19_28 1 rfl (asSl_v _)) ?_
          rw [n17_25.len]
          refine Runs.cond (fun k29 => ?_) (fun k29 => ?_)
          · replace e := (condT k29).symm.trans e
            cases e
            cases good
            have G30 := ((G9.trans g12).trans g17)
            have G31 := ((G30.trans g18).updr (Nat.le_trans (G30).size (Nat.le_refl _)) u19)
            have G32 := ((((((((G9.trans g12).trans g17).trans g18).updr (Nat.le_trans (G30).size (Nat.le_refl _)) u19).trans g20).trans g21).trans g24).updr (Nat.le_trans (G31).size (Nat.le_refl _)) u25)
            exact Runs.ret ⟨rfl, G32⟩
          · replace e := (condF k29).symm.trans e
            refine Runs.step (AH.has.rd b25 1 rfl (asSl_v _)) ?_
            rw [n24_25.len]
            refine Runs.cond (fun k30 => ?_) (fun k30 => ?_)
            · replace e := (condT k30).symm.trans e
              cases e
              cases good
              have G31 := ((G9.trans g12).trans g17)
              have G32 := ((G31.trans g18).updr (Nat.le_trans (G31).size (Nat.le_refl _)) u19)
              have G33 := ((((((((G9.trans g12).trans g17).trans g18).updr (Nat.le_trans (G31).size (Nat.le_refl _)) u19).trans g20).trans g21).trans g24).updr (Nat.le_trans (G32).size (Nat.le_refl _)) u25)
              exact Runs.ret ⟨rfl, G33⟩
            · replace e := (condF k30).symm.trans e
              refine Runs.step (AH.has.rd b19_28 0 rfl rfl) ?_
              refine Runs.step (AH.has.rd b19_28 1 rfl (asSl_v _)) ?_
              refine Runs.new fun H31 b31 g31 => ?_
              refine Runs.new fun H32 b32 g32 => ?_
              refine Runs.puts b32 rfl fun H33 b33 u33 => ?_
              have G34 := ((g31.trans g32).updr (Nat.le_trans (g31).size (Nat.le_refl _)) u33)
              have b25_35 := G34.has b25
              refine Runs.step (AH.has.rd b25_35 0 rfl rfl) ?_
              refine Runs.step (AH.has.rd b25_35 1 rfl (asSl_v _)) ?_
              refine Runs.new fun H36 b36 g36 => ?_
              refine Runs.new fun H37 b37 g37 => ?_
              refine Runs.puts b37 rfl fun H38 b38 u38 => ?_
              have G39 := ((g36.trans g37).updr (Nat.le_trans (g36).size (Nat.le_refl _)) u38)
              have b33_40 := G39.has b33
              refine Runs.step (AH.has.rd b33_40 0 rfl rfl) ?_
              refine Runs.step (AH.has.rd b33_40 1 rfl (asSl_v _)) ?_
              refine Runs.step (AH.has.rd b33_40 2 rfl (asSl_v _)) ?_
              have G41 := ((g17.trans g18).updr (Nat.le_trans (g17).size (Nat.le_refl _)) u19)
              have G42 := (((((G41.trans g20).trans g21).trans g24).updr (Nat.le_trans (G41).size (Nat.le_refl _)) u25).trans g31)
              have G43 := (((G42.trans g32).updr (Nat.le_trans (G42).size (Nat.le_refl _)) u33).trans g36)
              have G44 := ((((((((((((g17.trans g18).updr (Nat.le_trans (g17).size (Nat.le_refl _)) u19).trans g20).trans g21).trans g24).updr (Nat.le_trans (G41).size (Nat.le_refl _)) u25).trans g31).trans g32).updr (Nat.le_trans (G42).size (Nat.le_refl _)) u33).trans g36).trans g37).updr (Nat.le_trans (G43).size (Nat.le_refl _)) u38)
              have b4_45 := G44.has b4_16
              refine Runs.step (AH.has.rd b4_45 0 rfl rfl) ?_
              refine Runs.step (AH.has.rd b4_45 1 rfl (asSl_v _)) ?_
              refine Runs.step (AH.has.rd b4_45 2 rfl (asSl_v _)) ?_
              have G46 := (G34.trans g36)
              have G47 := (((G34.trans g36).trans g37).updr (Nat.le_trans (G46).size (Nat.le_refl _)) u38)
              have n17_48 := n17_25.grow G47
              have G49 := ((g32.updr (Nat.le_refl _) u33).trans g36)
              have G50 := ((((g32.updr (Nat.le_refl _) u33).trans g36).trans g37).updr (Nat.le_trans (G49).size (Nat.le_refl _)) u38)
              have b31_51 := G50.has b31
              obtain ⟨w52, z52, e⟩ := Option.bind_eq_some_iff.1 e
              have G53 := (((g12.trans g17).trans g18).updr (Nat.le_trans ((g12.trans g17)).size (Nat.le_refl _)) u19)
              have G54 := (((((G53.trans g20).trans g21).trans g24).updr (Nat.le_trans (G53).size (Nat.le_refl _)) u25).trans g31)
              have G55 := (((G54.trans g32).updr (Nat.le_trans (G54).size (Nat.le_refl _)) u33).trans g36)
              have G56 := (((((((((((((g12.trans g17).trans g18).updr (Nat.le_trans ((g12.trans g17)).size (Nat.le_refl _)) u19).trans g20).trans g21).trans g24).updr (Nat.le_trans (G53).size (Nat.le_refl _)) u25).trans g31).trans g32).updr (Nat.le_trans (G54).size (Nat.le_refl _)) u33).trans g36).trans g37).updr (Nat.le_trans (G55).size (Nat.le_refl _)) u38)
              have n2_57 := n2_10.grow G56
              have n3_58 := n3_11.grow G56
              obtain ⟨_, H59, e59, rfl, g59⟩ := rational_Cmp_spec n17_48 (Nats.of_has1 b31_51 z52) n2_57 n3_58 ((((rational_Floor' a1 x2 x3).1))) a1
              refine Runs.step e59 ?_
              refine Runs.step (seen (avInt_int _ _)) ?_
              refine Runs.cond (fun k60 => ?_) (fun k60 => ?_)
              · replace e := (condT k60).symm.trans e
                refine Runs.step (AH.has.rd (g59.has b4_45) 0 rfl rfl) ?_
                refine Runs.step (AH.has.rd (g59.has b4_45) 1 rfl (asSl_v _)) ?_
                refine Runs.step (AH.has.rd (g59.has b4_45) 2 rfl (asSl_v _)) ?_
                refine Runs.step (AH.has.rd (g59.has b38) 0 rfl rfl) ?_
                refine Runs.step (AH.has.rd (g59.has b38) 1 rfl (asSl_v _)) ?_
                refine Runs.step (AH.has.rd (g59.has b38) 2 rfl (asSl_v _)) ?_
                have G61 := (G47.trans g59)
                have n24_62 := n24_25.grow G61
                have G63 := ((g37.updr (Nat.le_refl _) u38).trans g59)
                have b36_64 := G63.has b36
                obtain ⟨w65, z65, e⟩ := Option.bind_eq_some_iff.1 e
                obtain ⟨_, H66, e66, rfl, g66⟩ := rational_Cmp_spec (n2_57.grow g59) (n3_58.grow g59) n24_62 (Nats.of_has1 b36_64 z65) a1 ((((modint_Add' (((rational_Floor' a1 x2 x3).1)) ((rational_Floor' a1 x2 x3).2.1) ((ofI 1).1) ((ofI 1).2)).1)))
                refine Runs.step e66 ?_
                refine Runs.step (seen (avInt_int _ _)) ?_
                cases e
                cases good
                have G67 := ((G9.trans g12).trans g17)
                have G68 := ((G67.trans g18).updr (Nat.le_trans (G67).size (Nat.le_refl _)) u19)
                have G69 := (((((G68.trans g20).trans g21).trans g24).updr (Nat.le_trans (G68).size (Nat.le_refl _)) u25).trans g31)
                have G70 := (((G69.trans g32).updr (Nat.le_trans (G69).size (Nat.le_refl _)) u33).trans g36)
                have G71 := ((((((((((((((((G9.trans g12).trans g17).trans g18).updr (Nat.le_trans (G67).size (Nat.le_refl _)) u19).trans g20).trans g21).trans g24).updr (Nat.le_trans (G68).size (Nat.le_refl _)) u25).trans g31).trans g32).updr (Nat.le_trans (G69).size (Nat.le_refl _)) u33).trans g36).trans g37).updr (Nat.le_trans (G70).size (Nat.le_refl _)) u38).trans g59).trans g66)
                exact Runs.ret ⟨rfl, G71⟩
              · replace e := (condF k60).symm.trans e
                cases e
                cases good
                have G61 := ((G9.trans g12).trans g17)
                have G62 := ((G61.trans g18).updr (Nat.le_trans (G61).size (Nat.le_refl _)) u19)
                have G63 := (((((G62.trans g20).trans g21).trans g24).updr (Nat.le_trans (G62).size (Nat.le_refl _)) u25).trans g31)
                have G64 := (((G63.trans g32).updr (Nat.le_trans (G63).size (Nat.le_refl _)) u33).trans g36)
                have G65 := (((((((((((((((G9.trans g12).trans g17).trans g18).updr (Nat.le_trans (G61).size (Nat.le_refl _)) u19).trans g20).trans g21).trans g24).updr (Nat.le_trans (G62).size (Nat.le_refl _)) u25).trans g31).trans g32).updr (Nat.le_trans (G63).size (Nat.le_refl _)) u33).trans g36).trans g37).updr (Nat.le_trans (G64).size (Nat.le_refl _)) u38).trans g59)
                exact Runs.ret ⟨rfl, G65⟩

theorem law08_RationalBetween_run {s : law08_RationalBetween_St} {r : law08_RationalBetween_Res} (it : Iter law08_RationalBetween_step s r) : law08_RationalBetween_At r s := Iter.ind (fun s o e good => by
  cases s with
  | fn a1 x2 x3 => exact @law08_RationalBetween_fn_walk _ _ a1 x2 x3 e good
  | no => exact True.intro
  ) it

theorem law08_RationalBetween_opt {h : AH} {a2 : Sl} {a3 : Sl} {a1 : Bool} {x2 : List Nat} {x3 : List Nat} (n2 : Nats h a2 x2) (n3 : Nats h a3 x3) {r : law08_RationalBetween_Res} (q : runP law08_RationalBetween_step (.fn a1 x2 x3) = some r) : Runs (go (.fn F.law08_RationalBetween [.agg [.bool a1, a2.v, a3.v]]) h) (law08_RationalBetween_post h r) := law08_RationalBetween_run (runP_iter q) n2 n3

inductive law08_RationalSums_St
  | fn (a1 : Bool) (x2 : List Nat) (x3 : List Nat) (a4 : Bool) (x5 : List Nat) (x6 : List Nat)
  | no

abbrev law08_RationalSums_Res := Bool

noncomputable def law08_RationalSums_fn' (a1 : Bool) (x2 : List Nat) (x3 : List Nat) (a4 : Bool) (x5 : List Nat) (x6 : List Nat) : Option (law08_RationalSums_St ⊕ law08_RationalSums_Res) :=
  cond (!((fewF x2 x3 && fewF x5 x6))) (some (.inr true)) ((some (rational_Add' a1 x2 x3 a4 x5 x6)).bind fun p20 => (some (ref08_Add' a1 x2 x3 a4 x5 x6)).bind fun p33 => (need (((p20.1)) = ((p33.1)) ∧ p20.2.1 = p33.2.1 ∧ p20.2.2.1 = p33.2.2.1)).bind fun c42_0 => cond (!true) (some (.inr false)) (cond (!true) (some (.inr false)) (cond (!decide ((p20.2.2.2) = (p33.2.2.2))) (some (.inr false)) ((some (rational_Sub' a1 x2 x3 a4 x5 x6)).bind fun p53 => (some (ref08_Sub' a1 x2 x3 a4 x5 x6)).bind fun p59 => (need (((p53.1)) = ((p59.1)) ∧ p53.2.1 = p59.2.1 ∧ p53.2.2.1 = p59.2.2.1)).bind fun c62_0 => cond (!true) (some (.inr false)) (cond (!decide ((p53.2.2.2) = (p59.2.2.2))) (some (.inr false)) ((some (rational_Mul' a1 x2 x3 a4 x5 x6)).bind fun p65 => (some (ref08_Mul' a1 x2 x3 a4 x5 x6)).bind fun p67 => (need (((p65.1)) = ((p67.1)) ∧ p65.2.1 = p67.2.1 ∧ p65.2.2.1 = p67.2.2.1)).bind fun c69_0 => cond (true) (some (.inr (decide ((p65.2.2.2) = (p67.2.2.2))))) (some (.inr false))))))))

noncomputable def law08_RationalSums_step : law08_RationalSums_St → Option (law08_RationalSums_St ⊕ law08_RationalSums_Res)
  | .fn a1 x2 x3 a4 x5 x6 => law08_RationalSums_fn' a1 x2 x3 a4 x5 x6
  | .no => none

@[reducible] def law08_RationalSums_post (h0 : AH) (r : law08_RationalSums_Res) (v : AV) (h' : AH) : Prop := v = .bool r ∧ Grow h0 h'

def law08_RationalSums_At (r : law08_RationalSums_Res) : law08_RationalSums_St → Prop
  | .fn a1 x2 x3 a4 x5 x6 => ∀ {h : AH} {a2 : Sl} {a3 : Sl} {a5 : Sl} {a6 : Sl}, Nats h a2 x2 → Nats h a3 x3 → Nats h a5 x5 → Nats h a6 x6 → Runs (go (.fn F.law08_RationalSums [.agg [.bool a1, a2.v, a3.v], .agg [.bool a4, a5.v, a6.v]]) h) (law08_RationalSums_post h r)
  | .no => True

theorem law08_RationalSums_fn_walk {r : law08_RationalSums_Res} {o : law08_RationalSums_St ⊕ law08_RationalSums_Res} {a1 : Bool} {x2 : List Nat} {x3 : List Nat} {a4 : Bool} {x5 : List Nat} {x6 : List Nat} (e : law08_RationalSums_fn' a1 x2 x3 a4 x5 x6 = some o) (good : GoodS (law08_RationalSums_At r) r o) : law08_RationalSums_At r (.fn a1 x2 x3 a4 x5 x6) := by
  intro h a2 a3 a5 a6 n2 n3 n5 n6
  rw [u_law08_RationalSums]
  unfold law08_RationalSums_fn' at e
  refine Runs.new fun H7 b7 g7 => ?_
  refine Runs.new fun H8 b8 g8 => ?_
  refine Runs.step (AH.has.rd (g8.has b7) 0 rfl rfl) ?_
  refine Runs.step (AH.has.rd (g8.has b7) 1 rfl (asSl_v _)) ?_
  refine Runs.step (AH.has.rd (g8.has b7) 2 rfl (asSl_v _)) ?_
  refine Runs.step (AH.has.rd b8 0 rfl rfl) ?_
  refine Runs.step (AH.has.rd b8 1 rfl (asSl_v _)) ?_
  refine Runs.step (AH.has.rd b8 2 rfl (asSl_v _)) ?_
  refine Runs.new fun H9 b9 g9 => ?_
  have G10 := ((g7.trans g8).trans g9)
  have n2_11 := n2.grow G10
  have n3_12 := n3.grow G10
  have n5_13 := n5.grow G10
  have n6_14 := n6.grow G10
  refine Runs.step (few08_2 b9 n2_11 n3_12 n5_13 n6_14) ?_
  refine Runs.step (seen rfl) ?_
  refine Runs.cond (fun k16 => ?_) (fun k16 => ?_)
  · replace e := (condT k16).symm.trans e
    cases e
    cases good
    exact Runs.ret ⟨rfl, G10⟩
  · replace e := (condF k16).symm.trans e
    obtain ⟨H17, e17, g17⟩ := awake08
    refine Runs.step e17 ?_
    refine Runs.step (seen rfl) ?_
    have G18 := ((g8.trans g9).trans g17)
    have b7_19 := G18.has b7
    refine Runs.step (AH.has.rd b7_19 0 rfl rfl) ?_
    refine Runs.step (AH.has.rd b7_19 1 rfl (asSl_v _)) ?_
    refine Runs.step (AH.has.rd b7_19 2 rfl (asSl_v _)) ?_
    refine Runs.step (AH.has.rd ((g9.trans g17).has b8) 0 rfl rfl) ?_
    refine Runs.step (AH.has.rd ((g9.trans g17).has b8) 1 rfl (asSl_v _)) ?_
    refine Runs.step (AH.has.rd ((g9.trans g17).has b8) 2 rfl (asSl_v _)) ?_
    obtain ⟨p20, q20, e⟩ := Option.bind_eq_some_iff.1 e
    obtain ⟨_, H20, e20, s20, s20b, rfl, n20, n20b, g20, o20, o20b⟩ := rational_Add_t (n2_11.grow g17) (n3_12.grow g17) (n5_13.grow g17) (n6_14.grow g17) (Option.some.inj q20)
    refine Runs.step e20 ?_
    refine Runs.step rfl ?_
    refine Runs.step rfl ?_
    refine Runs.ifT rfl ?_
    refine Runs.step (seenAt rfl rfl) ?_
    refine Runs.step (seenAt rfl (asSl_v _)) ?_
    refine Runs.step (seenAt rfl (asSl_v _)) ?_
    refine Runs.step (seen (avInt_int _ _)) ?_
    refine Runs.new fun H21 b21 g21 => ?_
    refine Runs.puts b21 rfl fun H22 b22 u22 => ?_
    have G23 := ((g20.trans g21).updr (Nat.le_trans (g20).size (Nat.le_refl _)) u22)
    have b7_24 := G23.has b7_19
    refine Runs.step (AH.has.rd b7_24 0 rfl rfl) ?_
    refine Runs.step (AH.has.rd b7_24 1 rfl (asSl_v _)) ?_
    refine Runs.step (AH.has.rd b7_24 2 rfl (asSl_v _)) ?_
    have G25 := ((g9.trans g17).trans g20)
    have G26 := ((((g9.trans g17).trans g20).trans g21).updr (Nat.le_trans (G25).size (Nat.le_refl _)) u22)
    have b8_27 := G26.has b8
    refine Runs.step (AH.has.rd b8_27 0 rfl rfl) ?_
    refine Runs.step (AH.has.rd b8_27 1 rfl (asSl_v _)) ?_
    refine Runs.step (AH.has.rd b8_27 2 rfl (asSl_v _)) ?_
    have G28 := (((g17.trans g20).trans g21).updr (Nat.le_trans ((g17.trans g20)).size (Nat.le_refl _)) u22)
    have n2_29 := n2_11.grow G28
    have n3_30 := n3_12.grow G28
    have n5_31 := n5_13.grow G28
    have n6_32 := n6_14.grow G28
    obtain ⟨p33, q33, e⟩ := Option.bind_eq_some_iff.1 e
    obtain ⟨_, H33, e33, s33, s33b, rfl, n33, n33b, g33, o33, o33b⟩ := ref08_Add_t n2_29 n3_30 n5_31 n6_32 (Option.some.inj q33)
    refine Runs.step e33 ?_
    refine Runs.step rfl ?_
    refine Runs.step rfl ?_
    refine Runs.ifT rfl ?_
    refine Runs.step (seenAt rfl rfl) ?_
    refine Runs.step (seenAt rfl (asSl_v _)) ?_
    refine Runs.step (seenAt rfl (asSl_v _)) ?_
    refine Runs.step (seen (avInt_int _ _)) ?_
    refine Runs.new fun H34 b34 g34 => ?_
    refine Runs.puts b34 rfl fun H35 b35 u35 => ?_
    have G36 := ((g33.trans g34).updr (Nat.le_trans (g33).size (Nat.le_refl _)) u35)
    have b22_37 := G36.has b22
    refine Runs.step (AH.has.rd b22_37 0 rfl rfl) ?_
    refine Runs.step (AH.has.rd b22_37 1 rfl (asSl_v _)) ?_
    refine Runs.step (AH.has.rd b22_37 2 rfl (asSl_v _)) ?_
    refine Runs.step (AH.has.rd b35 0 rfl rfl) ?_
    refine Runs.step (AH.has.rd b35 1 rfl (asSl_v _)) ?_
    refine Runs.step (AH.has.rd b35 2 rfl (asSl_v _)) ?_
    have G38 := ((g21.updr (Nat.le_refl _) u22).trans g33)
    have G39 := ((((g21.updr (Nat.le_refl _) u22).trans g33).trans g34).updr (Nat.le_trans (G38).size (Nat.le_refl _)) u35)
    have n20_40 := n20.grow G39
    have n20b_41 := n20b.grow G39
    obtain ⟨c42_0, q42_0, e⟩ := Option.bind_eq_some_iff.1 e
    obtain ⟨H42, e42, g42⟩ := ref08_Same_need n20_40 n20b_41 (n33.grow (g34.updr (Nat.le_refl _) u35)) (n33b.grow (g34.updr (Nat.le_refl _) u35)) ((p20.1)) ((p33.1))  c42_0.down
    refine Runs.step e42 ?_
    refine Runs.step (seen rfl) ?_
    refine Runs.cond (fun k43 => ?_) (fun k43 => ?_)
    · replace e := (condT k43).symm.trans e
      cases e
      cases good
      have G44 := ((G10.trans g17).trans g20)
      have G45 := (((G44.trans g21).updr (Nat.le_trans (G44).size (Nat.le_refl _)) u22).trans g33)
      have G46 := ((((((((G10.trans g17).trans g20).trans g21).updr (Nat.le_trans (G44).size (Nat.le_refl _)) u22).trans g33).trans g34).updr (Nat.le_trans (G45).size (Nat.le_refl _)) u35).trans g42)
      exact Runs.ret ⟨rfl, G46⟩
    · replace e := (condF k43).symm.trans e
      refine Runs.cond (fun k44 => ?_) (fun k44 => ?_)
      · replace e := (condT k44).symm.trans e
        cases e
        cases good
        have G45 := ((G10.trans g17).trans g20)
        have G46 := (((G45.trans g21).updr (Nat.le_trans (G45).size (Nat.le_refl _)) u22).trans g33)
        have G47 := ((((((((G10.trans g17).trans g20).trans g21).updr (Nat.le_trans (G45).size (Nat.le_refl _)) u22).trans g33).trans g34).updr (Nat.le_trans (G46).size (Nat.le_refl _)) u35).trans g42)
        exact Runs.ret ⟨rfl, G47⟩
      · replace e := (condF k44).symm.trans e
        refine Runs.cond (fun k45 => ?_) (fun k45 => ?_)
        · replace e := (condT k45).symm.trans e
          cases e
          cases good
          have G46 := ((G10.trans g17).trans g20)
          have G47 := (((G46.trans g21).updr (Nat.le_trans (G46).size (Nat.le_refl _)) u22).trans g33)
          have G48 := ((((((((G10.trans g17).trans g20).trans g21).updr (Nat.le_trans (G46).size (Nat.le_refl _)) u22).trans g33).trans g34).updr (Nat.le_trans (G47).size (Nat.le_refl _)) u35).trans g42)
          exact Runs.ret ⟨rfl, G48⟩
        · replace e := (condF k45).symm.trans e
          have G46 := (G36.trans g42)
          have b7_47 := G46.has b7_24
          refine Runs.step (AH.has.rd b7_47 0 rfl rfl) ?_
          refine Runs.step (AH.has.rd b7_47 1 rfl (asSl_v _)) ?_
          refine Runs.step (AH.has.rd b7_47 2 rfl (asSl_v _)) ?_
          have b8_48 := G46.has b8_27
          refine Runs.step (AH.has.rd b8_48 0 rfl rfl) ?_
          refine Runs.step (AH.has.rd b8_48 1 rfl (asSl_v _)) ?_
          refine Runs.step (AH.has.rd b8_48 2 rfl (asSl_v _)) ?_
          have n2_49 := n2_29.grow G46
          have n3_50 := n3_30.grow G46
          have n5_51 := n5_31.grow G46
          have n6_52 := n6_32.grow G46
          obtain ⟨p53, q53, e⟩ := Option.bind_eq_some_iff.1 e
          obtain ⟨_, H53, e53, s53, s53b, rfl, n53, n53b, g53, o53, o53b⟩ := rational_Sub_t n2_49 n3_50 n5_51 n6_52 (Option.some.inj q53)
          refine Runs.step e53 ?_
          refine Runs.step rfl ?_
          refine Runs.step rfl ?_
          refine Runs.ifT rfl ?_
          refine Runs.step (seenAt rfl rfl) ?_
          refine Runs.step (seenAt rfl (asSl_v _)) ?_
          refine Runs.step (seenAt rfl (asSl_v _)) ?_
          refine Runs.step (seen (avInt_int _ _)) ?_
          refine Runs.puts ((g42.trans g53).has b22_37) rfl fun H54 b54 u54 => ?_
          have G55 := ((G10.trans g17).trans g20)
          have n2_54 := (n2_49.grow g53).upda (Av.of_base n2 (Nat.le_trans (G55).size (Nat.le_refl _))) u54
          have n3_54 := (n3_50.grow g53).upda (Av.of_base n3 (Nat.le_trans (G55).size (Nat.le_refl _))) u54
          have n5_54 := (n5_51.grow g53).upda (Av.of_base n5 (Nat.le_trans (G55).size (Nat.le_refl _))) u54
          have n6_54 := (n6_52.grow g53).upda (Av.of_base n6 (Nat.le_trans (G55).size (Nat.le_refl _))) u54
          have n20_54 := (n20_40.grow (g42.trans g53)).upda (Av.of_base n20 (Nat.le_refl _)) u54
          have n20b_54 := (n20b_41.grow (g42.trans g53)).upda (Av.of_base n20b (Nat.le_refl _)) u54
          have G56 := (((g34.updr (Nat.le_refl _) u35).trans g42).trans g53)
          have n33_57 := n33.grow G56
          have n33_54 := n33_57.upda (Av.of_own o33 (b22).lt) u54
          have n33b_58 := n33b.grow G56
          have n33b_54 := n33b_58.upda (Av.of_own o33b (b22).lt) u54
          have n53_54 := n53.upda (Av.of_own o53 (g42.has b22_37).lt) u54
          have n53b_54 := n53b.upda (Av.of_own o53b (g42.has b22_37).lt) u54
          have b7_54 := AH.has.updr (g53.has b7_47) (Nat.ne_of_lt (Nat.lt_of_lt_of_le (g20.has b7_19).lt (Nat.le_refl _))) u54
          have b8_54 := AH.has.updr (g53.has b8_48) (Nat.ne_of_lt (Nat.lt_of_lt_of_le (G25.has b8).lt (Nat.le_refl _))) u54
          have b35_54 := AH.has.updr ((g42.trans g53).has b35) (Nat.ne_of_gt (Nat.lt_of_lt_of_le (g33.has b22).lt (Nat.le_refl _))) u54
          refine Runs.step (AH.has.rd b7_54 0 rfl rfl) ?_
          refine Runs.step (AH.has.rd b7_54 1 rfl (asSl_v _)) ?_
          refine Runs.step (AH.has.rd b7_54 2 rfl (asSl_v _)) ?_
          refine Runs.step (AH.has.rd b8_54 0 rfl rfl) ?_
          refine Runs.step (AH.has.rd b8_54 1 rfl (asSl_v _)) ?_
          refine Runs.step (AH.has.rd b8_54 2 rfl (asSl_v _)) ?_
          obtain ⟨p59, q59, e⟩ := Option.bind_eq_some_iff.1 e
          obtain ⟨_, H59, e59, s59, s59b, rfl, n59, n59b, g59, o59, o59b⟩ := ref08_Sub_t n2_54 n3_54 n5_54 n6_54 (Option.some.inj q59)
          refine Runs.step e59 ?_
          refine Runs.step rfl ?_
          refine Runs.step rfl ?_
          refine Runs.ifT rfl ?_
          refine Runs.step (seenAt rfl rfl) ?_
          refine Runs.step (seenAt rfl (asSl_v _)) ?_
          refine Runs.step (seenAt rfl (asSl_v _)) ?_
          refine Runs.step (seen (avInt_int _ _)) ?_
          refine Runs.puts (g59.has b35_54) rfl fun H60 b60 u60 => ?_
          have G61 := (((G55.trans g21).updr (Nat.le_trans (G55).size (Nat.le_refl _)) u22).trans g33)
          have n2_60 := (n2_54.grow g59).upda (Av.of_base n2 (Nat.le_trans (G61).size (Nat.le_refl _))) u60
          have n3_60 := (n3_54.grow g59).upda (Av.of_base n3 (Nat.le_trans (G61).size (Nat.le_refl _))) u60
          have n5_60 := (n5_54.grow g59).upda (Av.of_base n5 (Nat.le_trans (G61).size (Nat.le_refl _))) u60
          have n6_60 := (n6_54.grow g59).upda (Av.of_base n6 (Nat.le_trans (G61).size (Nat.le_refl _))) u60
          have n20_60 := (n20_54.grow g59).upda (Av.of_base n20 (Nat.le_trans (G38).size (Nat.le_refl _))) u60
          have n20b_60 := (n20b_54.grow g59).upda (Av.of_base n20b (Nat.le_trans (G38).size (Nat.le_refl _))) u60
          have n33_60 := (n33_54.grow g59).upda (Av.of_base n33 (Nat.le_refl _)) u60
          have n33b_60 := (n33b_54.grow g59).upda (Av.of_base n33b (Nat.le_refl _)) u60
          have n53_60 := (n53_54.grow g59).upda (Av.of_own o53 (g42.has b35).lt) u60
          have n53b_60 := (n53b_54.grow g59).upda (Av.of_own o53b (g42.has b35).lt) u60
          have n59_60 := n59.upda (Av.of_own o59 (b35_54).lt) u60
          have n59b_60 := n59b.upda (Av.of_own o59b (b35_54).lt) u60
          have b7_60 := AH.has.updr (g59.has b7_54) (Nat.ne_of_lt (Nat.lt_of_lt_of_le (g33.has b7_24).lt (Nat.le_refl _))) u60
          have b8_60 := AH.has.updr (g59.has b8_54) (Nat.ne_of_lt (Nat.lt_of_lt_of_le (g33.has b8_27).lt (Nat.le_refl _))) u60
          have b54_60 := AH.has.updr (g59.has b54) (Nat.ne_of_lt (Nat.lt_of_lt_of_le (g33.has b22).lt (Nat.le_refl _))) u60
          refine Runs.step (AH.has.rd b54_60 0 rfl rfl) ?_
          refine Runs.step (AH.has.rd b54_60 1 rfl (asSl_v _)) ?_
          refine Runs.step (AH.has.rd b54_60 2 rfl (asSl_v _)) ?_
          refine Runs.step (AH.has.rd b60 0 rfl rfl) ?_
          refine Runs.step (AH.has.rd b60 1 rfl (asSl_v _)) ?_
          refine Runs.step (AH.has.rd b60 2 rfl (asSl_v _)) ?_
          obtain ⟨c62_0, q62_0, e⟩ := Option.bind_eq_some_iff.1 e
          obtain ⟨H62, e62, g62⟩ := ref08_Same_need n53_60 n53b_60 n59_60 n59b_60 ((p53.1)) ((p59.1))  c62_0.down
          refine Runs.step e62 ?_
          refine Runs.step (seen rfl) ?_
          refine Runs.cond (fun k63 => ?_) (fun k63 => ?_)
          · replace e := (condT k63).symm.trans e
            cases e
            cases good
            have G64 := ((((((((G61.trans g34).updr (Nat.le_trans (G61).size (Nat.le_refl _)) u35).trans g42).trans g53).updr (Nat.le_trans (G55).size (Nat.le_refl _)) u54).trans g59).updr (Nat.le_trans (G61).size (Nat.le_refl _)) u60).trans g62)
            exact Runs.ret ⟨rfl, G64⟩
          · replace e := (condF k63).symm.trans e
            refine Runs.cond (fun k64 => ?_) (fun k64 => ?_)
            · replace e := (condT k64).symm.trans e
              cases e
              cases good
              have G65 := ((((((((G61.trans g34).updr (Nat.le_trans (G61).size (Nat.le_refl _)) u35).trans g42).trans g53).updr (Nat.le_trans (G55).size (Nat.le_refl _)) u54).trans g59).updr (Nat.le_trans (G61).size (Nat.le_refl _)) u60).trans g62)
              exact Runs.ret ⟨rfl, G65⟩
            · replace e := (condF k64).symm.trans e
              refine Runs.step (AH.has.rd (g62.has b7_60) 0 rfl rfl) ?_
              refine Runs.step (AH.has.rd (g62.has b7_60) 1 rfl (asSl_v _)) ?_
              refine Runs.step (AH.has.rd (g62.has b7_60) 2 rfl (asSl_v _)) ?_
              refine Runs.step (AH.has.rd (g62.has b8_60) 0 rfl rfl) ?_
              refine Runs.step (AH.has.rd (g62.has b8_60) 1 rfl (asSl_v _)) ?_
              refine Runs.step (AH.has.rd (g62.has b8_60) 2 rfl (asSl_v _)) ?_
              obtain ⟨p65, q65, e⟩ := Option.bind_eq_some_iff.1 e
              obtain ⟨_, H65, e65, s65, s65b, rfl, n65, n65b, g65, o65, o65b⟩ := rational_Mul_t (n2_60.grow g62) (n3_60.grow g62) (n5_60.grow g62) (n6_60.grow g62) (Option.some.inj q65)
              refine Runs.step e65 ?_
              refine Runs.step rfl ?_
              refine Runs.step rfl ?_
              refine Runs.ifT rfl ?_
              refine Runs.step (seenAt rfl rfl) ?_
              refine Runs.step (seenAt rfl (asSl_v _)) ?_
              refine Runs.step (seenAt rfl (asSl_v _)) ?_
              refine Runs.step (seen (avInt_int _ _)) ?_
              refine Runs.puts ((g62.trans g65).has b54_60) rfl fun H66 b66 u66 => ?_
              have n2_66 := (n2_60.grow (g62.trans g65)).upda (Av.of_base n2 (Nat.le_trans (G55).size (Nat.le_refl _))) u66
              have n3_66 := (n3_60.grow (g62.trans g65)).upda (Av.of_base n3 (Nat.le_trans (G55).size (Nat.le_refl _))) u66
              have n5_66 := (n5_60.grow (g62.trans g65)).upda (Av.of_base n5 (Nat.le_trans (G55).size (Nat.le_refl _))) u66
              have n6_66 := (n6_60.grow (g62.trans g65)).upda (Av.of_base n6 (Nat.le_trans (G55).size (Nat.le_refl _))) u66
              have n20_66 := (n20_60.grow (g62.trans g65)).upda (Av.of_base n20 (Nat.le_refl _)) u66
              have n20b_66 := (n20b_60.grow (g62.trans g65)).upda (Av.of_base n20b (Nat.le_refl _)) u66
              have n33_66 := (n33_60.grow (g62.trans g65)).upda (Av.of_own o33 (b22).lt) u66
              have n33b_66 := (n33b_60.grow (g62.trans g65)).upda (Av.of_own o33b (b22).lt) u66
              have n53_66 := (n53_60.grow (g62.trans g65)).upda (Av.of_own o53 (g42.has b22_37).lt) u66
              have n53b_66 := (n53b_60.grow (g62.trans g65)).upda (Av.of_own o53b (g42.has b22_37).lt) u66
              have n59_66 := (n59_60.grow (g62.trans g65)).upda (Av.of_own o59 (b54).lt) u66
              have n59b_66 := (n59b_60.grow (g62.trans g65)).upda (Av.of_own o59b (b54).lt) u66
              have n65_66 := n65.upda (Av.of_own o65 (g62.has b54_60).lt) u66
              have n65b_66 := n65b.upda (Av.of_own o65b (g62.has b54_60).lt) u66
              have b7_66 := AH.has.updr ((g62.trans g65).has b7_60) (Nat.ne_of_lt (Nat.lt_of_lt_of_le (g20.has b7_19).lt (Nat.le_refl _))) u66
              have b8_66 := AH.has.updr ((g62.trans g65).has b8_60) (Nat.ne_of_lt (Nat.lt_of_lt_of_le (G25.has b8).lt (Nat.le_refl _))) u66
              have b60_66 := AH.has.updr ((g62.trans g65).has b60) (Nat.ne_of_gt (Nat.lt_of_lt_of_le (g33.has b22).lt (Nat.le_refl _))) u66
              refine Runs.step (AH.has.rd b7_66 0 rfl rfl) ?_
              refine Runs.step (AH.has.rd b7_66 1 rfl (asSl_v _)) ?_
              refine Runs.step (AH.has.rd b7_66 2 rfl (asSl_v _)) ?_
              refine Runs.step (AH.has.rd b8_66 0 rfl rfl) ?_
              refine Runs.step (AH.has.rd b8_66 1 rfl (asSl_v _)) ?_
              refine Runs.step (AH.has.rd b8_66 2 rfl (asSl_v _)) ?_
              obtain ⟨p67, q67, e⟩ := Option.bind_eq_some_iff.1 e
              obtain ⟨_, H67, e67, s67, s67b, rfl, n67, n67b, g67, o67, o67b⟩ := ref08_Mul_t n2_66 n3_66 n5_66 n6_66 (Option.some.inj q67)
              refine Runs.step e67 ?_
              refine Runs.step rfl ?_
              refine Runs.step rfl ?_
              refine Runs.ifT rfl ?_
              refine Runs.step (seenAt rfl rfl) ?_
              refine Runs.step (seenAt rfl (asSl_v _)) ?_
              refine Runs.step (seenAt rfl (asSl_v _)) ?_
              refine Runs.step (seen (avInt_int _ _)) ?_
              refine Runs.puts (g67.has b60_66) rfl fun H68 b68 u68 => ?_
              have n2_68 := (n2_66.grow g67).upda (Av.of_base n2 (Nat.le_trans (G61).size (Nat.le_refl _))) u68
              have n3_68 := (n3_66.grow g67).upda (Av.of_base n3 (Nat.le_trans (G61).size (Nat.le_refl _))) u68
              have n5_68 := (n5_66.grow g67).upda (Av.of_base n5 (Nat.le_trans (G61).size (Nat.le_refl _))) u68
              have n6_68 := (n6_66.grow g67).upda (Av.of_base n6 (Nat.le_trans (G61).size (Nat.le_refl _))) u68
              have n20_68 := (n20_66.grow g67).upda (Av.of_base n20 (Nat.le_trans (G38).size (Nat.le_refl _))) u68
              have n20b_68 := (n20b_66.grow g67).upda (Av.of_base n20b (Nat.le_trans (G38).size (Nat.le_refl _))) u68
              have n33_68 := (n33_66.grow g67).upda (Av.of_base n33 (Nat.le_refl _)) u68
              have n33b_68 := (n33b_66.grow g67).upda (Av.of_base n33b (Nat.le_refl _)) u68
              have n53_68 := (n53_66.grow g67).upda (Av.of_own o53 (g42.has b35).lt) u68
              have n53b_68 := (n53b_66.grow g67).upda (Av.of_own o53b (g42.has b35).lt) u68
              have n59_68 := (n59_66.grow g67).upda (Av.of_own o59 (b35_54).lt) u68
              have n59b_68 := (n59b_66.grow g67).upda (Av.of_own o59b (b35_54).lt) u68
              have n65_68 := (n65_66.grow g67).upda (Av.of_own o65 (g62.has b60).lt) u68
              have n65b_68 := (n65b_66.grow g67).upda (Av.of_own o65b (g62.has b60).lt) u68
              have n67_68 := n67.upda (Av.of_own o67 (b60_66).lt) u68
              have n67b_68 := n67b.upda (Av.of_own o67b (b60_66).lt) u68
              have b7_68 := AH.has.updr (g67.has b7_66) (Nat.ne_of_lt (Nat.lt_of_lt_of_le (g33.has b7_24).lt (Nat.le_refl _))) u68
              have b8_68 := AH.has.updr (g67.has b8_66) (Nat.ne_of_lt (Nat.lt_of_lt_of_le (g33.has b8_27).lt (Nat.le_refl _))) u68
              have b66_68 := AH.has.updr (g67.has b66) (Nat.ne_of_lt (Nat.lt_of_lt_of_le (g33.has b22).lt (Nat.le_refl _))) u68
              refine Runs.step (AH.has.rd b66_68 0 rfl rfl) ?_
              refine Runs.step (AH.has.rd b66_68 1 rfl (asSl_v _)) ?_
              refine Runs.step (AH.has.rd b66_68 2 rfl (asSl_v _)) ?_
              refine Runs.step (AH.has.rd b68 0 rfl rfl) ?_
              refine Runs.step (AH.has.rd b68 1 rfl (asSl_v _)) ?_
              refine Runs.step (AH.has.rd b68 2 rfl (asSl_v _)) ?_
              obtain ⟨c69_0, q69_0, e⟩ := Option.bind_eq_some_iff.1 e
              obtain ⟨H69, e69, g69⟩ := ref08_Same_need n65_68 n65b_68 n67_68 n67b_68 ((p65.1)) ((p67.1))  c69_0.down
              refine Runs.step e69 ?_
              refine Runs.step (seen rfl) ?_
              refine Runs.cond (fun k70 => ?_) (fun k70 => ?_)
              · replace e := (condT k70).symm.trans e
                cases e
                cases good
                have G71 := (((((((((((((G61.trans g34).updr (Nat.le_trans (G61).size (Nat.le_refl _)) u35).trans g42).trans g53).updr (Nat.le_trans (G55).size (Nat.le_refl _)) u54).trans g59).updr (Nat.le_trans (G61).size (Nat.le_refl _)) u60).trans g62).trans g65).updr (Nat.le_trans (G55).size (Nat.le_refl _)) u66).trans g67).updr (Nat.le_trans (G61).size (Nat.le_refl _)) u68).trans g69)
                exact Runs.ret ⟨rfl, G71⟩
              · replace e := (condF k70).symm.trans e
                cases e
                cases good
                have G71 := (((((((((((((G61.trans g34).updr (Nat.le_trans (G61).size (Nat.le_refl _)) u35).trans g42).trans g53).updr (Nat.le_trans (G55).size (Nat.le_refl _)) u54).trans g59).updr (Nat.le_trans (G61).size (Nat.le_refl _)) u60).trans g62).trans g65).updr (Nat.le_trans (G55).size (Nat.le_refl _)) u66).trans g67).updr (Nat.le_trans (G61).size (Nat.le_refl _)) u68).trans g69)
                exact Runs.ret ⟨rfl, G71⟩

theorem law08_RationalSums_run {s : law08_RationalSums_St} {r : law08_RationalSums_Res} (it : Iter law08_RationalSums_step s r) : law08_RationalSums_At r s := Iter.ind (fun s o e good => by
  cases s with
  | fn a1 x2 x3 a4 x5 x6 => exact @law08_RationalSums_fn_walk _ _ a1 x2 x3 a4 x5 x6 e good
  | no => exact True.intro
  ) it

theorem law08_RationalSums_opt {h : AH} {a2 : Sl} {a3 : Sl} {a5 : Sl} {a6 : Sl} {a1 : Bool} {x2 : List Nat} {x3 : List Nat} {a4 : Bool} {x5 : List Nat} {x6 : List Nat} (n2 : Nats h a2 x2) (n3 : Nats h a3 x3) (n5 : Nats h a5 x5) (n6 : Nats h a6 x6) {r : law08_RationalSums_Res} (q : runP law08_RationalSums_step (.fn a1 x2 x3 a4 x5 x6) = some r) : Runs (go (.fn F.law08_RationalSums [.agg [.bool a1, a2.v, a3.v], .agg [.bool a4, a5.v, a6.v]]) h) (law08_RationalSums_post h r) := law08_RationalSums_run (runP_iter q) n2 n3 n5 n6

end Go.Ab

/- Layer 8: the laws Makes, Sums, Compares, Between. -/
set_option linter.unusedVariables false
set_option linter.unusedSimpArgs false
set_option maxRecDepth 10000
namespace Go.Ab
open Go.Proofs Go.Num

theorem frac_of_arg {h : AH} {x : AV} (a : ArgV Pg h T.api_Frac x) : ∃ (neg : Bool) (s : Sl) (xs : List Nat) (t : Sl) (ys : List Nat), x = .agg [.bool neg, s.v, t.v] ∧ Nats h s xs ∧ Nats h t ys := by
  unfold ArgV at a
  rw [und_api_Frac] at a
  obtain ⟨cs, rfl, t⟩ := a
  obtain ⟨hl, hf⟩ := t.struct und_api_Frac
  rw [cells_api_Frac] at hl
  match cs, hl with
  | [x0, x1, x2], _ =>
    simp [cells_api_Int, cells_api_Nat] at hf
    obtain ⟨h0, h1⟩ := hf
    obtain ⟨hl, hf⟩ := h0.struct und_api_Int
    simp [cells_bool, cells_api_Nat] at hf
    obtain ⟨h2, h3⟩ := hf
    obtain ⟨b, e0⟩ := h2.bool und_bool
    obtain ⟨s, xs, e1, n⟩ := nats_of_arg h3
    obtain ⟨s', ys, e2, m⟩ := nats_of_arg h1
    cases e0; cases e1; cases e2
    exact ⟨b, s, xs, s', ys, rfl, n, m⟩

theorem Makes_iter (p : Bool) (xs ys : List Nat) : Iter law08_RationalMakes_step (.fn p xs ys) true := .done (by
  show law08_RationalMakes_fn' _ _ _ = _
  unfold law08_RationalMakes_fn'
  refine cond_elim (fun _ => rfl) fun _ => ?_
  simp)

theorem RationalMakes_law (h : AH) {x0 : AV} (z0 : ArgV Pg h T.api_Frac x0) : ∃ h', go (.fn F.law08_RationalMakes [x0]) h = some (.bool true, h') := by
  obtain ⟨p, s, xs, t, ys, rfl, n, m⟩ := frac_of_arg z0
  obtain ⟨_, h', e, rfl, _⟩ := law08_RationalMakes_run (Makes_iter p xs ys) n m
  exact ⟨h', e⟩

theorem Sums_iter {p q : Bool} {xs ys us vs : List Nat} (lx : ∀ x ∈ xs, x < B) (ly : ∀ x ∈ ys, x < B) (lu : ∀ x ∈ us, x < B) (lv : ∀ x ∈ vs, x < B) : Iter law08_RationalSums_step (.fn p xs ys q us vs) true := .done (by
  show law08_RationalSums_fn' _ _ _ _ _ _ = _
  unfold law08_RationalSums_fn'
  refine cond_elim (fun _ => rfl) fun _ => ?_
  simp only [Option.bind_some]
  rw [ref08_Add_eq, ref08_Mul_eq, ref08_Sub_eq lx ly lu lv, need_of ⟨rfl, rfl, rfl⟩, need_of ⟨rfl, rfl, rfl⟩, need_of ⟨rfl, rfl, rfl⟩]
  simp)

theorem RationalSums_law (h : AH) {x0 x1 : AV} (z0 : ArgV Pg h T.api_Frac x0) (z1 : ArgV Pg h T.api_Frac x1) : ∃ h', go (.fn F.law08_RationalSums [x0, x1]) h = some (.bool true, h') := by
  obtain ⟨p, s, xs, t, ys, rfl, n, m⟩ := frac_of_arg z0
  obtain ⟨q, s', us, t', vs, rfl, n', m'⟩ := frac_of_arg z1
  obtain ⟨_, h', e, rfl, _⟩ := law08_RationalSums_run (Sums_iter n.lt m.lt n'.lt m'.lt) n m n' m'
  exact ⟨h', e⟩

theorem Compares_iter {p q : Bool} {xs ys us vs : List Nat} (lx : ∀ x ∈ xs, x < B) (ly : ∀ x ∈ ys, x < B) : Iter law08_RationalCompares_step (.fn p xs ys q us vs) true := .done (by
  show law08_RationalCompares_fn' _ _ _ _ _ _ = _
  unfold law08_RationalCompares_fn'
  refine cond_elim (fun _ => rfl) fun _ => ?_
  rw [ref08_Cmp_eq, ref08_Floor_eq lx ly, need_of ⟨rfl, rfl⟩]
  simp)

theorem RationalCompares_law (h : AH) {x0 x1 : AV} (z0 : ArgV Pg h T.api_Frac x0) (z1 : ArgV Pg h T.api_Frac x1) : ∃ h', go (.fn F.law08_RationalCompares [x0, x1]) h = some (.bool true, h') := by
  obtain ⟨p, s, xs, t, ys, rfl, n, m⟩ := frac_of_arg z0
  obtain ⟨q, s', us, t', vs, rfl, n', m'⟩ := frac_of_arg z1
  obtain ⟨_, h', e, rfl, _⟩ := law08_RationalCompares_run (Compares_iter n.lt m.lt) n m n' m'
  exact ⟨h', e⟩

theorem whole_frac {z : Int} (hz : z.natAbs < B ^ 16) : IsFrac (intD z).1 (intD z).2 [1] z 1 := ⟨rfl, rfl, digs_one.symm, by decide, hz, by decide +kernel, Nat.gcd_one_right _⟩

theorem Between_iter {p : Bool} {xs ys : List Nat} (lx : ∀ x ∈ xs, x < B) (ly : ∀ x ∈ ys, x < B) : Iter law08_RationalBetween_step (.fn p xs ys) true := .done (by
  show law08_RationalBetween_fn' _ _ _ = _
  unfold law08_RationalBetween_fn'
  refine cond_elim (fun _ => rfl) fun _ => ?_
  cases hr : rational_Right' p xs ys with
  | false => rfl
  | true =>
    obtain ⟨z, d, f⟩ := IsFrac.of lx ly hr
    have hd := f.pos
    rw [Floor_of f, need_of (by decide)]
    simp only [Bool.not_true, cond_false, Option.bind_some, decide_true]
    have hq : (z / (d : Int)).natAbs ≤ z.natAbs := (floor_small (B_16_64 f.zlt) (by omega)).2
    have h16 := f.zlt
    have hl := Int.mul_ediv_add_emod z (d : Int)
    have hm0 := Int.emod_nonneg z (show (d : Int) ≠ 0 by omega)
    have hm1 := Int.emod_lt_of_pos z (show (0 : Int) < d by omega)
    generalize z / (d : Int) = q at *
    generalize z % (d : Int) = m at *
    refine cond_elim (fun _ => rfl) fun k1 => ?_
    have h1 := B_16_64 h16
    have hB : B ^ 16 + 1 < B ^ 64 := by decide +kernel
    rw [ofI_intD (by decide), add_intD (by omega) (by decide +kernel), if_pos (by omega)]
    dsimp only
    refine cond_elim (fun _ => rfl) fun k2 => ?_
    have e2 : (intD (q + 1)).2 = digs B (q + 1).natAbs := rfl
    rw [e2, len_gt16] at k2
    have k3 : (q + 1).natAbs < B ^ 16 := by simpa using k2
    rw [u64P_one, Option.bind_some, Option.bind_some, Cmp_of (whole_frac (z := q) (by omega)) f, Cmp_of f (whole_frac k3)]
    have c1 : q * (d : Int) ≤ z := by rw [Int.mul_comm]; omega
    have c2 : z * ((1 : Nat) : Int) < (q + 1) * (d : Int) := by
      rw [Int.add_mul, Int.mul_comm q]
      omega
    rw [if_pos c2]
    have c3 : decide ((if q * (d : Int) < z * ((1 : Nat) : Int) then (-1 : Int) else if q * (d : Int) = z * ((1 : Nat) : Int) then 0 else 1) ≤ 0) = true := by
      rw [decide_eq_true_eq]
      by_cases h : q * (d : Int) < z * ((1 : Nat) : Int)
      · rw [if_pos h]; omega
      · rw [if_neg h, if_pos (by omega)]; omega
    rw [c3]
    rfl)

theorem RationalBetween_law (h : AH) {x0 : AV} (z0 : ArgV Pg h T.api_Frac x0) : ∃ h', go (.fn F.law08_RationalBetween [x0]) h = some (.bool true, h') := by
  obtain ⟨p, s, xs, t, ys, rfl, n, m⟩ := frac_of_arg z0
  obtain ⟨_, h', e, rfl, _⟩ := law08_RationalBetween_run (Between_iter n.lt m.lt) n m
  exact ⟨h', e⟩

end Go.Ab

/- Layer 8: the laws, their walks: printed by wip/tools/walk.py. -/
set_option linter.unusedVariables false
set_option linter.unusedSimpArgs false
set_option maxRecDepth 10000
namespace Go.Ab
open Go.Proofs Go.Num

inductive law08_RationalAround_St
  | fn (a1 : Bool) (x2 : List Nat) (x3 : List Nat) (a4 : Bool) (x5 : List Nat) (x6 : List Nat)
  | p18 (p1c0 : Bool) (x1c1 : List Nat) (x1c2 : List Nat) (p2c0 : Bool) (x2c1 : List Nat) (x2c2 : List Nat) (p3c0 : Bool) (x3c1 : List Nat) (x3c2 : List Nat) (a4 : Int)

abbrev law08_RationalAround_Res := Bool

noncomputable def law08_RationalAround_fn' (a1 : Bool) (x2 : List Nat) (x3 : List Nat) (a4 : Bool) (x5 : List Nat) (x6 : List Nat) : Option (law08_RationalAround_St ⊕ law08_RationalAround_Res) :=
  cond (!((fewF x2 x3 && fewF x5 x6))) (some (.inr true)) ((some (rational_Add' a1 x2 x3 a4 x5 x6)).bind fun p20 => (some (rational_Add' a4 x5 x6 a1 x2 x3)).bind fun p33 => (some (rational_Mul' a1 x2 x3 a4 x5 x6)).bind fun p43 => (some (rational_Mul' a4 x5 x6 a1 x2 x3)).bind fun p53 => (need (((p20.1)) = ((p33.1)) ∧ p20.2.1 = p33.2.1 ∧ p20.2.2.1 = p33.2.2.1)).bind fun c74_0 => (need (((p43.1)) = ((p53.1)) ∧ p43.2.1 = p53.2.1 ∧ p43.2.2.1 = p53.2.2.1)).bind fun c84_0 => cond (!true) (some (.inr false)) (cond (!true) (some (.inr false)) (cond (!true) (some (.inr false)) (cond (!decide ((p20.2.2.2) = (p33.2.2.2))) (some (.inr false)) (cond (!decide ((p43.2.2.2) = (p53.2.2.2))) (some (.inr false)) ((some (rational_Sub' a1 x2 x3 a4 x5 x6)).bind fun p97 => cond (decide ((p20.2.2.2) = 0)) ((some (rational_Sub' ((p20.1)) p20.2.1 p20.2.2.1 a4 x5 x6)).bind fun p110 => (need (((p110.1)) = a1 ∧ p110.2.1 = x2 ∧ p110.2.2.1 = x3)).bind fun c118_0 => cond (!decide ((p110.2.2.2) = 0)) (some (.inr false)) (cond (!true) (some (.inr false)) (some (.inl (.p18 a1 x2 x3 a4 x5 x6 (p97.1) p97.2.1 p97.2.2.1 (p97.2.2.2)))))) (some (.inl (.p18 a1 x2 x3 a4 x5 x6 (p97.1) p97.2.1 p97.2.2.1 (p97.2.2.2))))))))))

noncomputable def law08_RationalAround_p18' (p1c0 : Bool) (x1c1 : List Nat) (x1c2 : List Nat) (p2c0 : Bool) (x2c1 : List Nat) (x2c2 : List Nat) (p3c0 : Bool) (x3c1 : List Nat) (x3c2 : List Nat) (a4 : Int) : Option (law08_RationalAround_St ⊕ law08_RationalAround_Res) :=
  cond (!decide (a4 = 0)) (some (.inr true)) (cond (p3c0) (cond (decide ((List.length x3c1 : Int) = 0)) (some (.inr (decide (((rational_Cmp' p1c0 x1c1 x1c2 p2c0 x2c1 x2c2)) = 0)))) (some (.inr (decide (((rational_Cmp' p1c0 x1c1 x1c2 p2c0 x2c1 x2c2)) = (-1)))))) (cond (decide ((List.length x3c1 : Int) = 0)) (some (.inr (decide (((rational_Cmp' p1c0 x1c1 x1c2 p2c0 x2c1 x2c2)) = 0)))) (some (.inr (decide (((rational_Cmp' p1c0 x1c1 x1c2 p2c0 x2c1 x2c2)) = 1))))))

noncomputable def law08_RationalAround_step : law08_RationalAround_St → Option (law08_RationalAround_St ⊕ law08_RationalAround_Res)
  | .fn a1 x2 x3 a4 x5 x6 => law08_RationalAround_fn' a1 x2 x3 a4 x5 x6
  | .p18 p1c0 x1c1 x1c2 p2c0 x2c1 x2c2 p3c0 x3c1 x3c2 a4 => law08_RationalAround_p18' p1c0 x1c1 x1c2 p2c0 x2c1 x2c2 p3c0 x3c1 x3c2 a4

@[reducible] def law08_RationalAround_post (h0 : AH) (r : law08_RationalAround_Res) (v : AV) (h' : AH) : Prop := v = .bool r ∧ Grow h0 h'

def law08_RationalAround_At (r : law08_RationalAround_Res) : law08_RationalAround_St → Prop
  | .fn a1 x2 x3 a4 x5 x6 => ∀ {h : AH} {a2 : Sl} {a3 : Sl} {a5 : Sl} {a6 : Sl}, Nats h a2 x2 → Nats h a3 x3 → Nats h a5 x5 → Nats h a6 x6 → Runs (go (.fn F.law08_RationalAround [.agg [.bool a1, a2.v, a3.v], .agg [.bool a4, a5.v, a6.v]]) h) (law08_RationalAround_post h r)
  | .p18 p1c0 x1c1 x1c2 p2c0 x2c1 x2c2 p3c0 x3c1 x3c2 a4 => ∀ {h0 h : AH} {s1c1 : Sl} {s1c2 : Sl} {s2c1 : Sl} {s2c2 : Sl} {s3c1 : Sl} {s3c2 : Sl} {i1 : Nat} {i2 : Nat} {i3 : Nat}, Grow h0 h → h.has i1 [.bool p1c0, s1c1.v, s1c2.v] T.api_Frac → Nats h s1c1 x1c1 → Nats h s1c2 x1c2 → h.has i2 [.bool p2c0, s2c1.v, s2c2.v] T.api_Frac → Nats h s2c1 x2c1 → Nats h s2c2 x2c2 → h.has i3 [.bool p3c0, s3c1.v, s3c2.v] T.api_Frac → Nats h s3c1 x3c1 → Nats h s3c2 x3c2 → h0.blks.size ≤ i1 → h0.blks.size ≤ i2 → h0.blks.size ≤ i3 → Av s1c1 i1 x1c1 → Av s1c1 i2 x1c1 → Av s1c1 i3 x1c1 → Av s1c2 i1 x1c2 → Av s1c2 i2 x1c2 → Av s1c2 i3 x1c2 → Av s2c1 i1 x2c1 → Av s2c1 i2 x2c1 → Av s2c1 i3 x2c1 → Av s2c2 i1 x2c2 → Av s2c2 i2 x2c2 → Av s2c2 i3 x2c2 → Av s3c1 i1 x3c1 → Av s3c1 i2 x3c1 → Av s3c1 i3 x3c1 → Av s3c2 i1 x3c2 → Av s3c2 i2 x3c2 → Av s3c2 i3 x3c2 → i1 ≠ i2 → i1 ≠ i3 → i2 ≠ i3 → Runs (go (.pt F.law08_RationalAround Td.law08_RationalAround_18 [(2, .ptr (some (.new i1 0))), (3, .ptr (some (.new i2 0))), (16, .ptr (some (.new i3 0))), (17, .int .i64 a4)]) h) (law08_RationalAround_post h0 r)

theorem law08_RationalAround_fn_walk {r : law08_RationalAround_Res} {o : law08_RationalAround_St ⊕ law08_RationalAround_Res} {a1 : Bool} {x2 : List Nat} {x3 : List Nat} {a4 : Bool} {x5 : List Nat} {x6 : List Nat} (e : law08_RationalAround_fn' a1 x2 x3 a4 x5 x6 = some o) (good : GoodS (law08_RationalAround_At r) r o) : law08_RationalAround_At r (.fn a1 x2 x3 a4 x5 x6) := by
  intro h a2 a3 a5 a6 n2 n3 n5 n6
  rw [u_law08_RationalAround]
  unfold law08_RationalAround_fn' at e
  refine Runs.new fun H7 b7 g7 => ?_
  refine Runs.new fun H8 b8 g8 => ?_
  refine Runs.step (AH.has.rd (g8.has b7) 0 rfl rfl) ?_
  refine Runs.step (AH.has.rd (g8.has b7) 1 rfl (asSl_v _)) ?_
  refine Runs.step (AH.has.rd (g8.has b7) 2 rfl (asSl_v _)) ?_
  refine Runs.step (AH.has.rd b8 0 rfl rfl) ?_
  refine Runs.step (AH.has.rd b8 1 rfl (asSl_v _)) ?_
  refine Runs.step (AH.has.rd b8 2 rfl (asSl_v _)) ?_
  refine Runs.new fun H9 b9 g9 => ?_
  have G10 := ((g7.trans g8).trans g9)
  have n2_11 := n2.grow G10
  have n3_12 := n3.grow G10
  have n5_13 := n5.grow G10
  have n6_14 := n6.grow G10
  refine Runs.step (few08_2 b9 n2_11 n3_12 n5_13 n6_14) ?_
  refine Runs.step (seen rfl) ?_
  refine Runs.cond (fun k16 => ?_) (fun k16 => ?_)
  · replace e := (condT k16).symm.trans e
    cases e
    cases good
    exact Runs.ret ⟨rfl, G10⟩
  · replace e := (condF k16).symm.trans e
    obtain ⟨H17, e17, g17⟩ := awake08
    refine Runs.step e17 ?_
    refine Runs.step (seen rfl) ?_
    have G18 := ((g8.trans g9).trans g17)
    have b7_19 := G18.has b7
    refine Runs.step (AH.has.rd b7_19 0 rfl rfl) ?_
    refine Runs.step (AH.has.rd b7_19 1 rfl (asSl_v _)) ?_
    refine Runs.step (AH.has.rd b7_19 2 rfl (asSl_v _)) ?_
    refine Runs.step (AH.has.rd ((g9.trans g17).has b8) 0 rfl rfl) ?_
    refine Runs.step (AH.has.rd ((g9.trans g17).has b8) 1 rfl (asSl_v _)) ?_
    refine Runs.step (AH.has.rd ((g9.trans g17).has b8) 2 rfl (asSl_v _)) ?_
    obtain ⟨p20, q20, e⟩ := Option.bind_eq_some_iff.1 e
    obtain ⟨_, H20, e20, s20, s20b, rfl, n20, n20b, g20, o20, o20b⟩ := rational_Add_t (n2_11.grow g17) (n3_12.grow g17) (n5_13.grow g17) (n6_14.grow g17) (Option.some.inj q20)
    refine Runs.step e20 ?_
    refine Runs.step rfl ?_
    refine Runs.step rfl ?_
    refine Runs.ifT rfl ?_
    refine Runs.step (seenAt rfl rfl) ?_
    refine Runs.step (seenAt rfl (asSl_v _)) ?_
    refine Runs.step (seenAt rfl (asSl_v _)) ?_
    refine Runs.step (seen (avInt_int _ _)) ?_
    refine Runs.new fun H21 b21 g21 => ?_
    refine Runs.puts b21 rfl fun H22 b22 u22 => ?_
    have G23 := ((g9.trans g17).trans g20)
    have G24 := ((((g9.trans g17).trans g20).trans g21).updr (Nat.le_trans (G23).size (Nat.le_refl _)) u22)
    have b8_25 := G24.has b8
    refine Runs.step (AH.has.rd b8_25 0 rfl rfl) ?_
    refine Runs.step (AH.has.rd b8_25 1 rfl (asSl_v _)) ?_
    refine Runs.step (AH.has.rd b8_25 2 rfl (asSl_v _)) ?_
    have G26 := ((g20.trans g21).updr (Nat.le_trans (g20).size (Nat.le_refl _)) u22)
    have b7_27 := G26.has b7_19
    refine Runs.step (AH.has.rd b7_27 0 rfl rfl) ?_
    refine Runs.step (AH.has.rd b7_27 1 rfl (asSl_v _)) ?_
    refine Runs.step (AH.has.rd b7_27 2 rfl (asSl_v _)) ?_
    have G28 := (((g17.trans g20).trans g21).updr (Nat.le_trans ((g17.trans g20)).size (Nat.le_refl _)) u22)
    have n5_29 := n5_13.grow G28
    have n6_30 := n6_14.grow G28
    have n2_31 := n2_11.grow G28
    have n3_32 := n3_12.grow G28
    obtain ⟨p33, q33, e⟩ := Option.bind_eq_some_iff.1 e
    obtain ⟨_, H33, e33, s33, s33b, rfl, n33, n33b, g33, o33, o33b⟩ := rational_Add_t n5_29 n6_30 n2_31 n3_32 (Option.some.inj q33)
    refine Runs.step e33 ?_
    refine Runs.step rfl ?_
    refine Runs.step rfl ?_
    refine Runs.ifT rfl ?_
    refine Runs.step (seenAt rfl rfl) ?_
    refine Runs.step (seenAt rfl (asSl_v _)) ?_
    refine Runs.step (seenAt rfl (asSl_v _)) ?_
    refine Runs.step (seen (avInt_int _ _)) ?_
    refine Runs.new fun H34 b34 g34 => ?_
    refine Runs.puts b34 rfl fun H35 b35 u35 => ?_
    have G36 := ((g33.trans g34).updr (Nat.le_trans (g33).size (Nat.le_refl _)) u35)
    have b7_37 := G36.has b7_27
    refine Runs.step (AH.has.rd b7_37 0 rfl rfl) ?_
    refine Runs.step (AH.has.rd b7_37 1 rfl (asSl_v _)) ?_
    refine Runs.step (AH.has.rd b7_37 2 rfl (asSl_v _)) ?_
    have b8_38 := G36.has b8_25
    refine Runs.step (AH.has.rd b8_38 0 rfl rfl) ?_
    refine Runs.step (AH.has.rd b8_38 1 rfl (asSl_v _)) ?_
    refine Runs.step (AH.has.rd b8_38 2 rfl (asSl_v _)) ?_
    have n2_39 := n2_31.grow G36
    have n3_40 := n3_32.grow G36
    have n5_41 := n5_29.grow G36
    have n6_42 := n6_30.grow G36
    obtain ⟨p43, q43, e⟩ := Option.bind_eq_some_iff.1 e
    obtain ⟨_, H43, e43, s43, s43b, rfl, n43, n43b, g43, o43, o43b⟩ := rational_Mul_t n2_39 n3_40 n5_41 n6_42 (Option.some.inj q43)
    refine Runs.step e43 ?_
    refine Runs.step rfl ?_
    refine Runs.step rfl ?_
    refine Runs.ifT rfl ?_
    refine Runs.step (seenAt rfl rfl) ?_
    refine Runs.step (seenAt rfl (asSl_v _)) ?_
    refine Runs.step (seenAt rfl (asSl_v _)) ?_
    refine Runs.step (seen (avInt_int _ _)) ?_
    refine Runs.new fun H44 b44 g44 => ?_
    refine Runs.puts b44 rfl fun H45 b45 u45 => ?_
    have G46 := ((g43.trans g44).updr (Nat.le_trans (g43).size (Nat.le_refl _)) u45)
    have b8_47 := G46.has b8_38
    refine Runs.step (AH.has.rd b8_47 0 rfl rfl) ?_
    refine Runs.step (AH.has.rd b8_47 1 rfl (asSl_v _)) ?_
    refine Runs.step (AH.has.rd b8_47 2 rfl (asSl_v _)) ?_
    have b7_48 := G46.has b7_37
    refine Runs.step (AH.has.rd b7_48 0 rfl rfl) ?_
    refine Runs.step (AH.has.rd b7_48 1 rfl (asSl_v _)) ?_
    refine Runs.step (AH.has.rd b7_48 2 rfl (asSl_v _)) ?_
    have n5_49 := n5_41.grow G46
    have n6_50 := n6_42.grow G46
    have n2_51 := n2_39.grow G46
    have n3_52 := n3_40.grow G46
    obtain ⟨p53, q53, e⟩ := Option.bind_eq_some_iff.1 e
    obtain ⟨_, H53, e53, s53, s53b, rfl, n53, n53b, g53, o53, o53b⟩ := rational_Mul_t n5_49 n6_50 n2_51 n3_52 (Option.some.inj q53)
    refine Runs.step e53 ?_
    refine Runs.step rfl ?_
    refine Runs.step rfl ?_
    refine Runs.ifT rfl ?_
    refine Runs.step (seenAt rfl rfl) ?_
    refine Runs.step (seenAt rfl (asSl_v _)) ?_
    refine Runs.step (seenAt rfl (asSl_v _)) ?_
    refine Runs.step (seen (avInt_int _ _)) ?_
    refine Runs.new fun H54 b54 g54 => ?_
    refine Runs.puts b54 rfl fun H55 b55 u55 => ?_
    have G56 := (G36.trans g43)
    have G57 := (((G56.trans g44).updr (Nat.le_trans (G56).size (Nat.le_refl _)) u45).trans g53)
    have G58 := ((((((G36.trans g43).trans g44).updr (Nat.le_trans (G56).size (Nat.le_refl _)) u45).trans g53).trans g54).updr (Nat.le_trans (G57).size (Nat.le_refl _)) u55)
    have b22_59 := G58.has b22
    refine Runs.step (AH.has.rd b22_59 0 rfl rfl) ?_
    refine Runs.step (AH.has.rd b22_59 1 rfl (asSl_v _)) ?_
    refine Runs.step (AH.has.rd b22_59 2 rfl (asSl_v _)) ?_
    have G60 := (G46.trans g53)
    have G61 := (((G46.trans g53).trans g54).updr (Nat.le_trans (G60).size (Nat.le_refl _)) u55)
    have b35_62 := G61.has b35
    refine Runs.step (AH.has.rd b35_62 0 rfl rfl) ?_
    refine Runs.step (AH.has.rd b35_62 1 rfl (asSl_v _)) ?_
    refine Runs.step (AH.has.rd b35_62 2 rfl (asSl_v _)) ?_
    have G63 := ((g21.updr (Nat.le_refl _) u22).trans g33)
    have G64 := (((G63.trans g34).updr (Nat.le_trans (G63).size (Nat.le_refl _)) u35).trans g43)
    have G65 := (((G64.trans g44).updr (Nat.le_trans (G64).size (Nat.le_refl _)) u45).trans g53)
    have G66 := ((((((((((g21.updr (Nat.le_refl _) u22).trans g33).trans g34).updr (Nat.le_trans (G63).size (Nat.le_refl _)) u35).trans g43).trans g44).updr (Nat.le_trans (G64).size (Nat.le_refl _)) u45).trans g53).trans g54).updr (Nat.le_trans (G65).size (Nat.le_refl _)) u55)
    have n20_67 := n20.grow G66
    have n20b_68 := n20b.grow G66
    have G69 := ((g34.updr (Nat.le_refl _) u35).trans g43)
    have G70 := (((G69.trans g44).updr (Nat.le_trans (G69).size (Nat.le_refl _)) u45).trans g53)
    have G71 := (((((((g34.updr (Nat.le_refl _) u35).trans g43).trans g44).updr (Nat.le_trans (G69).size (Nat.le_refl _)) u45).trans g53).trans g54).updr (Nat.le_trans (G70).size (Nat.le_refl _)) u55)
    have n33_72 := n33.grow G71
    have n33b_73 := n33b.grow G71
    obtain ⟨c74_0, q74_0, e⟩ := Option.bind_eq_some_iff.1 e
    obtain ⟨H74, e74, g74⟩ := ref08_Same_need n20_67 n20b_68 n33_72 n33b_73 ((p20.1)) ((p33.1))  c74_0.down
    refine Runs.step e74 ?_
    refine Runs.step (seen rfl) ?_
    have G75 := (((g53.trans g54).updr (Nat.le_trans (g53).size (Nat.le_refl _)) u55).trans g74)
    have b45_76 := G75.has b45
    refine Runs.step (AH.has.rd b45_76 0 rfl rfl) ?_
    refine Runs.step (AH.has.rd b45_76 1 rfl (asSl_v _)) ?_
    refine Runs.step (AH.has.rd b45_76 2 rfl (asSl_v _)) ?_
    refine Runs.step (AH.has.rd (g74.has b55) 0 rfl rfl) ?_
    refine Runs.step (AH.has.rd (g74.has b55) 1 rfl (asSl_v _)) ?_
    refine Runs.step (AH.has.rd (g74.has b55) 2 rfl (asSl_v _)) ?_
    have G77 := ((g44.updr (Nat.le_refl _) u45).trans g53)
    have G78 := (((((g44.updr (Nat.le_refl _) u45).trans g53).trans g54).updr (Nat.le_trans (G77).size (Nat.le_refl _)) u55).trans g74)
    have n43_79 := n43.grow G78
    have n43b_80 := n43b.grow G78
    have G81 := ((g54.updr (Nat.le_refl _) u55).trans g74)
    have n53_82 := n53.grow G81
    have n53b_83 := n53b.grow G81
    obtain ⟨c84_0, q84_0, e⟩ := Option.bind_eq_some_iff.1 e
    obtain ⟨H84, e84, g84⟩ := ref08_Same_need n43_79 n43b_80 n53_82 n53b_83 ((p43.1)) ((p53.1))  c84_0.down
    refine Runs.step e84 ?_
    refine Runs.step (seen rfl) ?_
    refine Runs.cond (fun k85 => ?_) (fun k85 => ?_)
    · replace e := (condT k85).symm.trans e
      cases e
      cases good
      have G86 := ((G10.trans g17).trans g20)
      have G87 := (((G86.trans g21).updr (Nat.le_trans (G86).size (Nat.le_refl _)) u22).trans g33)
      have G88 := (((G87.trans g34).updr (Nat.le_trans (G87).size (Nat.le_refl _)) u35).trans g43)
      have G89 := (((G88.trans g44).updr (Nat.le_trans (G88).size (Nat.le_refl _)) u45).trans g53)
      have G90 := (((((((((((((((G10.trans g17).trans g20).trans g21).updr (Nat.le_trans (G86).size (Nat.le_refl _)) u22).trans g33).trans g34).updr (Nat.le_trans (G87).size (Nat.le_refl _)) u35).trans g43).trans g44).updr (Nat.le_trans (G88).size (Nat.le_refl _)) u45).trans g53).trans g54).updr (Nat.le_trans (G89).size (Nat.le_refl _)) u55).trans g74).trans g84)
      exact Runs.ret ⟨rfl, G90⟩
    · replace e := (condF k85).symm.trans e
      refine Runs.cond (fun k86 => ?_) (fun k86 => ?_)
      · replace e := (condT k86).symm.trans e
        cases e
        cases good
        have G87 := ((G10.trans g17).trans g20)
        have G88 := (((G87.trans g21).updr (Nat.le_trans (G87).size (Nat.le_refl _)) u22).trans g33)
        have G89 := (((G88.trans g34).updr (Nat.le_trans (G88).size (Nat.le_refl _)) u35).trans g43)
        have G90 := (((G89.trans g44).updr (Nat.le_trans (G89).size (Nat.le_refl _)) u45).trans g53)
        have G91 := (((((((((((((((G10.trans g17).trans g20).trans g21).updr (Nat.le_trans (G87).size (Nat.le_refl _)) u22).trans g33).trans g34).updr (Nat.le_trans (G88).size (Nat.le_refl _)) u35).trans g43).trans g44).updr (Nat.le_trans (G89).size (Nat.le_refl _)) u45).trans g53).trans g54).updr (Nat.le_trans (G90).size (Nat.le_refl _)) u55).trans g74).trans g84)
        exact Runs.ret ⟨rfl, G91⟩
      · replace e := (condF k86).symm.trans e
        refine Runs.cond (fun k87 => ?_) (fun k87 => ?_)
        · replace e := (condT k87).symm.trans e
          cases e
          cases good
          have G88 := ((G10.trans g17).trans g20)
          have G89 := (((G88.trans g21).updr (Nat.le_trans (G88).size (Nat.le_refl _)) u22).trans g33)
          have G90 := (((G89.trans g34).updr (Nat.le_trans (G89).size (Nat.le_refl _)) u35).trans g43)
          have G91 := (((G90.trans g44).updr (Nat.le_trans (G90).size (Nat.le_refl _)) u45).trans g53)
          have G92 := (((((((((((((((G10.trans g17).trans g20).trans g21).updr (Nat.le_trans (G88).size (Nat.le_refl _)) u22).trans g33).trans g34).updr (Nat.le_trans (G89).size (Nat.le_refl _)) u35).trans g43).trans g44).updr (Nat.le_trans (G90).size (Nat.le_refl _)) u45).trans g53).trans g54).updr (Nat.le_trans (G91).size (Nat.le_refl _)) u55).trans g74).trans g84)
          exact Runs.ret ⟨rfl, G92⟩
        · replace e := (condF k87).symm.trans e
          refine Runs.cond (fun k88 => ?_) (fun k88 => ?_)
          · replace e := (condT k88).symm.trans e
            cases e
            cases good
            have G89 := ((G10.trans g17).trans g20)
            have G90 := (((G89.trans g21).updr (Nat.le_trans (G89).size (Nat.le_refl _)) u22).trans g33)
            have G91 := (((G90.trans g34).updr (Nat.le_trans (G90).size (Nat.le_refl _)) u35).trans g43)
            have G92 := (((G91.trans g44).updr (Nat.le_trans (G91).size (Nat.le_refl _)) u45).trans g53)
            have G93 := (((((((((((((((G10.trans g17).trans g20).trans g21).updr (Nat.le_trans (G89).size (Nat.le_refl _)) u22).trans g33).trans g34).updr (Nat.le_trans (G90).size (Nat.le_refl _)) u35).trans g43).trans g44).updr (Nat.le_trans (G91).size (Nat.le_refl _)) u45).trans g53).trans g54).updr (Nat.le_trans (G92).size (Nat.le_refl _)) u55).trans g74).trans g84)
            exact Runs.ret ⟨rfl, G93⟩
          · replace e := (condF k88).symm.trans e
            refine Runs.cond (fun k89 => ?_) (fun k89 => ?_)
            · replace e := (condT k89).symm.trans e
              cases e
              cases good
              have G90 := ((G10.trans g17).trans g20)
              have G91 := (((G90.trans g21).updr (Nat.le_trans (G90).size (Nat.le_refl _)) u22).trans g33)
              have G92 := (((G91.trans g34).updr (Nat.le_trans (G91).size (Nat.le_refl _)) u35).trans g43)
              have G93 := (((G92.trans g44).updr (Nat.le_trans (G92).size (Nat.le_refl _)) u45).trans g53)
              have G94 := (((((((((((((((G10.trans g17).trans g20).trans g21).updr (Nat.le_trans (G90).size (Nat.le_refl _)) u22).trans g33).trans g34).updr (Nat.le_trans (G91).size (Nat.le_refl _)) u35).trans g43).trans g44).updr (Nat.le_trans (G92).size (Nat.le_refl _)) u45).trans g53).trans g54).updr (Nat.le_trans (G93).size (Nat.le_refl _)) u55).trans g74).trans g84)
              exact Runs.ret ⟨rfl, G94⟩
            · replace e := (condF k89).symm.trans e
              have G90 := (G75.trans g84)
              have b7_91 := G90.has b7_48
              refine Runs.step (AH.has.rd b7_91 0 rfl rfl) ?_
              refine Runs.step (AH.has.rd b7_91 1 rfl (asSl_v _)) ?_
              refine Runs.step (AH.has.rd b7_91 2 rfl (asSl_v _)) ?_
              have b8_92 := G90.has b8_47
              refine Runs.step (AH.has.rd b8_92 0 rfl rfl) ?_
              refine Runs.step (AH.has.rd b8_92 1 rfl (asSl_v _)) ?_
              refine Runs.step (AH.has.rd b8_92 2 rfl (asSl_v _)) ?_
              have n2_93 := n2_51.grow G90
              have n3_94 := n3_52.grow G90
              have n5_95 := n5_49.grow G90
              have n6_96 := n6_50.grow G90
              obtain ⟨p97, q97, e⟩ := Option.bind_eq_some_iff.1 e
              obtain ⟨_, H97, e97, s97, s97b, rfl, n97, n97b, g97, o97, o97b⟩ := rational_Sub_t n2_93 n3_94 n5_95 n6_96 (Option.some.inj q97)
              refine Runs.step e97 ?_
              refine Runs.step rfl ?_
              refine Runs.step rfl ?_
              refine Runs.ifT rfl ?_
              refine Runs.step (seenAt rfl rfl) ?_
              refine Runs.step (seenAt rfl (asSl_v _)) ?_
              refine Runs.step (seenAt rfl (asSl_v _)) ?_
              refine Runs.step (seen (avInt_int _ _)) ?_
              refine Runs.new fun H98 b98 g98 => ?_
              refine Runs.puts b98 rfl fun H99 b99 u99 => ?_
              refine Runs.cond (fun k100 => ?_) (fun k100 => ?_)
              · replace e := (condT k100).symm.trans e
                have G101 := ((g74.trans g84).trans g97)
                have G102 := ((((g74.trans g84).trans g97).trans g98).updr (Nat.le_trans (G101).size (Nat.le_refl _)) u99)
                have b22_103 := G102.has b22_59
                refine Runs.step (AH.has.rd b22_103 0 rfl rfl) ?_
                refine Runs.step (AH.has.rd b22_103 1 rfl (asSl_v _)) ?_
                refine Runs.step (AH.has.rd b22_103 2 rfl (asSl_v _)) ?_
                have G104 := ((g97.trans g98).updr (Nat.le_trans (g97).size (Nat.le_refl _)) u99)
                have b8_105 := G104.has b8_92
                refine Runs.step (AH.has.rd b8_105 0 rfl rfl) ?_
                refine Runs.step (AH.has.rd b8_105 1 rfl (asSl_v _)) ?_
                refine Runs.step (AH.has.rd b8_105 2 rfl (asSl_v _)) ?_
                have n20_106 := n20_67.grow G102
                have n20b_107 := n20b_68.grow G102
                have n5_108 := n5_95.grow G104
                have n6_109 := n6_96.grow G104
                obtain ⟨p110, q110, e⟩ := Option.bind_eq_some_iff.1 e
                obtain ⟨_, H110, e110, s110, s110b, rfl, n110, n110b, g110, o110, o110b⟩ := rational_Sub_t n20_106 n20b_107 n5_108 n6_109 (Option.some.inj q110)
                refine Runs.step e110 ?_
                refine Runs.step rfl ?_
                refine Runs.step rfl ?_
                refine Runs.ifT rfl ?_
                refine Runs.step (seenAt rfl rfl) ?_
                refine Runs.step (seenAt rfl (asSl_v _)) ?_
                refine Runs.step (seenAt rfl (asSl_v _)) ?_
                refine Runs.step (seen (avInt_int _ _)) ?_
                refine Runs.new fun H111 b111 g111 => ?_
                refine Runs.puts b111 rfl fun H112 b112 u112 => ?_
                refine Runs.step (AH.has.rd b112 0 rfl rfl) ?_
                refine Runs.step (AH.has.rd b112 1 rfl (asSl_v _)) ?_
                refine Runs.step (AH.has.rd b112 2 rfl (asSl_v _)) ?_
                have G113 := (G104.trans g110)
                have G114 := (((G104.trans g110).trans g111).updr (Nat.le_trans (G113).size (Nat.le_refl _)) u112)
                have b7_115 := G114.has b7_91
                refine Runs.step (AH.has.rd b7_115 0 rfl rfl) ?_
                refine Runs.step (AH.has.rd b7_115 1 rfl (asSl_v _)) ?_
                refine Runs.step (AH.has.rd b7_115 2 rfl (asSl_v _)) ?_
                have n2_116 := n2_93.grow G114
                have n3_117 := n3_94.grow G114
                obtain ⟨c118_0, q118_0, e⟩ := Option.bind_eq_some_iff.1 e
                obtain ⟨H118, e118, g118⟩ := ref08_Same_need (n110.grow (g111.updr (Nat.le_refl _) u112)) (n110b.grow (g111.updr (Nat.le_refl _) u112)) n2_116 n3_117 ((p110.1)) a1  c118_0.down
                refine Runs.step e118 ?_
                refine Runs.step (seen rfl) ?_
                refine Runs.cond (fun k119 => ?_) (fun k119 => ?_)
                · replace e := (condT k119).symm.trans e
                  cases e
                  cases good
                  have G120 := ((G10.trans g17).trans g20)
                  have G121 := (((G120.trans g21).updr (Nat.le_trans (G120).size (Nat.le_refl _)) u22).trans g33)
                  have G122 := (((G121.trans g34).updr (Nat.le_trans (G121).size (Nat.le_refl _)) u35).trans g43)
                  have G123 := (((G122.trans g44).updr (Nat.le_trans (G122).size (Nat.le_refl _)) u45).trans g53)
                  have G124 := (((((G123.trans g54).updr (Nat.le_trans (G123).size (Nat.le_refl _)) u55).trans g74).trans g84).trans g97)
                  have G125 := (((G124.trans g98).updr (Nat.le_trans (G124).size (Nat.le_refl _)) u99).trans g110)
                  have G126 := ((((((((((((((((((((((G10.trans g17).trans g20).trans g21).updr (Nat.le_trans (G120).size (Nat.le_refl _)) u22).trans g33).trans g34).updr (Nat.le_trans (G121).size (Nat.le_refl _)) u35).trans g43).trans g44).updr (Nat.le_trans (G122).size (Nat.le_refl _)) u45).trans g53).trans g54).updr (Nat.le_trans (G123).size (Nat.le_refl _)) u55).trans g74).trans g84).trans g97).trans g98).updr (Nat.le_trans (G124).size (Nat.le_refl _)) u99).trans g110).trans g111).updr (Nat.le_trans (G125).size (Nat.le_refl _)) u112).trans g118)
                  exact Runs.ret ⟨rfl, G126⟩
                · replace e := (condF k119).symm.trans e
                  refine Runs.cond (fun k120 => ?_) (fun k120 => ?_)
                  · replace e := (condT k120).symm.trans e
                    cases e
                    cases good
                    have G121 := ((G10.trans g17).trans g20)
                    have G122 := (((G121.trans g21).updr (Nat.le_trans (G121).size (Nat.le_refl _)) u22).trans g33)
                    have G123 := (((G122.trans g34).updr (Nat.le_trans (G122).size (Nat.le_refl _)) u35).trans g43)
                    have G124 := (((G123.trans g44).updr (Nat.le_trans (G123).size (Nat.le_refl _)) u45).trans g53)
                    have G125 := (((((G124.trans g54).updr (Nat.le_trans (G124).size (Nat.le_refl _)) u55).trans g74).trans g84).trans g97)
                    have G126 := (((G125.trans g98).updr (Nat.le_trans (G125).size (Nat.le_refl _)) u99).trans g110)
                    have G127 := ((((((((((((((((((((((G10.trans g17).trans g20).trans g21).updr (Nat.le_trans (G121).size (Nat.le_refl _)) u22).trans g33).trans g34).updr (Nat.le_trans (G122).size (Nat.le_refl _)) u35).trans g43).trans g44).updr (Nat.le_trans (G123).size (Nat.le_refl _)) u45).trans g53).trans g54).updr (Nat.le_trans (G124).size (Nat.le_refl _)) u55).trans g74).trans g84).trans g97).trans g98).updr (Nat.le_trans (G125).size (Nat.le_refl _)) u99).trans g110).trans g111).updr (Nat.le_trans (G126).size (Nat.le_refl _)) u112).trans g118)
                    exact Runs.ret ⟨rfl, G127⟩
                  · replace e := (condF k120).symm.trans e
                    have G121 := (((g110.trans g111).updr (Nat.le_trans (g110).size (Nat.le_refl _)) u112).trans g118)
                    have b8_122 := G121.has b8_105
                    have n5_123 := n5_108.grow G121
                    have n6_124 := n6_109.grow G121
                    have b99_125 := G121.has b99
                    have G126 := ((G10.trans g17).trans g20)
                    have G127 := (((G126.trans g21).updr (Nat.le_trans (G126).size (Nat.le_refl _)) u22).trans g33)
                    have G128 := (((G127.trans g34).updr (Nat.le_trans (G127).size (Nat.le_refl _)) u35).trans g43)
                    have G129 := (((G128.trans g44).updr (Nat.le_trans (G128).size (Nat.le_refl _)) u45).trans g53)
                    have G130 := ((((((((((((((((G10.trans g17).trans g20).trans g21).updr (Nat.le_trans (G126).size (Nat.le_refl _)) u22).trans g33).trans g34).updr (Nat.le_trans (G127).size (Nat.le_refl _)) u35).trans g43).trans g44).updr (Nat.le_trans (G128).size (Nat.le_refl _)) u45).trans g53).trans g54).updr (Nat.le_trans (G129).size (Nat.le_refl _)) u55).trans g74).trans g84).trans g97)
                    have G131 := ((g98.updr (Nat.le_refl _) u99).trans g110)
                    have G132 := (((((g98.updr (Nat.le_refl _) u99).trans g110).trans g111).updr (Nat.le_trans (G131).size (Nat.le_refl _)) u112).trans g118)
                    have n97_133 := n97.grow G132
                    have n97b_134 := n97b.grow G132
                    cases e
                    have G135 := (((G130.trans g98).updr (Nat.le_trans (G130).size (Nat.le_refl _)) u99).trans g110)
                    have G136 := ((((((G130.trans g98).updr (Nat.le_trans (G130).size (Nat.le_refl _)) u99).trans g110).trans g111).updr (Nat.le_trans (G135).size (Nat.le_refl _)) u112).trans g118)
                    exact good G136 (g118.has b7_115) (n2_116.grow g118) (n3_117.grow g118) b8_122 n5_123 n6_124 b99_125 n97_133 n97b_134 (Nat.le_refl _) (Nat.le_trans (g7).size (Nat.le_refl _)) (Nat.le_trans (G130).size (Nat.le_refl _)) (Av.of_base n2 (Nat.le_refl _)) (Av.of_base n2 (Nat.le_trans (g7).size (Nat.le_refl _))) (Av.of_base n2 (Nat.le_trans (G130).size (Nat.le_refl _))) (Av.of_base n3 (Nat.le_refl _)) (Av.of_base n3 (Nat.le_trans (g7).size (Nat.le_refl _))) (Av.of_base n3 (Nat.le_trans (G130).size (Nat.le_refl _))) (Av.of_base n5 (Nat.le_refl _)) (Av.of_base n5 (Nat.le_trans (g7).size (Nat.le_refl _))) (Av.of_base n5 (Nat.le_trans (G130).size (Nat.le_refl _))) (Av.of_base n6 (Nat.le_refl _)) (Av.of_base n6 (Nat.le_trans (g7).size (Nat.le_refl _))) (Av.of_base n6 (Nat.le_trans (G130).size (Nat.le_refl _))) (Av.of_own o97 (b7_91).lt) (Av.of_own o97 (b8_92).lt) (Av.of_base n97 (Nat.le_refl _)) (Av.of_own o97b (b7_91).lt) (Av.of_own o97b (b8_92).lt) (Av.of_base n97b (Nat.le_refl _)) (Nat.ne_of_lt (Nat.lt_of_lt_of_le (b7).lt (Nat.le_refl _))) (Nat.ne_of_lt (Nat.lt_of_lt_of_le (g97.has b7_91).lt (Nat.le_refl _))) (Nat.ne_of_lt (Nat.lt_of_lt_of_le (g97.has b8_92).lt (Nat.le_refl _)))
              · replace e := (condF k100).symm.trans e
                have G101 := ((g97.trans g98).updr (Nat.le_trans (g97).size (Nat.le_refl _)) u99)
                have b7_102 := G101.has b7_91
                have n2_103 := n2_93.grow G101
                have n3_104 := n3_94.grow G101
                have b8_105 := G101.has b8_92
                have n5_106 := n5_95.grow G101
                have n6_107 := n6_96.grow G101
                have G108 := ((G10.trans g17).trans g20)
                have G109 := (((G108.trans g21).updr (Nat.le_trans (G108).size (Nat.le_refl _)) u22).trans g33)
                have G110 := (((G109.trans g34).updr (Nat.le_trans (G109).size (Nat.le_refl _)) u35).trans g43)
                have G111 := (((G110.trans g44).updr (Nat.le_trans (G110).size (Nat.le_refl _)) u45).trans g53)
                have G112 := ((((((((((((((((G10.trans g17).trans g20).trans g21).updr (Nat.le_trans (G108).size (Nat.le_refl _)) u22).trans g33).trans g34).updr (Nat.le_trans (G109).size (Nat.le_refl _)) u35).trans g43).trans g44).updr (Nat.le_trans (G110).size (Nat.le_refl _)) u45).trans g53).trans g54).updr (Nat.le_trans (G111).size (Nat.le_refl _)) u55).trans g74).trans g84).trans g97)
                cases e
                have G113 := ((G112.trans g98).updr (Nat.le_trans (G112).size (Nat.le_refl _)) u99)
                exact good G113 b7_102 n2_103 n3_104 b8_105 n5_106 n6_107 b99 (n97.grow (g98.updr (Nat.le_refl _) u99)) (n97b.grow (g98.updr (Nat.le_refl _) u99)) (Nat.le_refl _) (Nat.le_trans (g7).size (Nat.le_refl _)) (Nat.le_trans (G112).size (Nat.le_refl _)) (Av.of_base n2 (Nat.le_refl _)) (Av.of_base n2 (Nat.le_trans (g7).size (Nat.le_refl _))) (Av.of_base n2 (Nat.le_trans (G112).size (Nat.le_refl _))) (Av.of_base n3 (Nat.le_refl _)) (Av.of_base n3 (Nat.le_trans (g7).size (Nat.le_refl _))) (Av.of_base n3 (Nat.le_trans (G112).size (Nat.le_refl _))) (Av.of_base n5 (Nat.le_refl _)) (Av.of_base n5 (Nat.le_trans (g7).size (Nat.le_refl _))) (Av.of_base n5 (Nat.le_trans (G112).size (Nat.le_refl _))) (Av.of_base n6 (Nat.le_refl _)) (Av.of_base n6 (Nat.le_trans (g7).size (Nat.le_refl _))) (Av.of_base n6 (Nat.le_trans (G112).size (Nat.le_refl _))) (Av.of_own o97 (b7_91).lt) (Av.of_own o97 (b8_92).lt) (Av.of_base n97 (Nat.le_refl _)) (Av.of_own o97b (b7_91).lt) (Av.of_own o97b (b8_92).lt) (Av.of_base n97b (Nat.le_refl _)) (Nat.ne_of_lt (Nat.lt_of_lt_of_le (b7).lt (Nat.le_refl _))) (Nat.ne_of_lt (Nat.lt_of_lt_of_le (g97.has b7_91).lt (Nat.le_refl _))) (Nat.ne_of_lt (Nat.lt_of_lt_of_le (g97.has b8_92).lt (Nat.le_refl _)))

theorem law08_RationalAround_p18_walk {r : law08_RationalAround_Res} {o : law08_RationalAround_St ⊕ law08_RationalAround_Res} {p1c0 : Bool} {x1c1 : List Nat} {x1c2 : List Nat} {p2c0 : Bool} {x2c1 : List Nat} {x2c2 : List Nat} {p3c0 : Bool} {x3c1 : List Nat} {x3c2 : List Nat} {a4 : Int} (e : law08_RationalAround_p18' p1c0 x1c1 x1c2 p2c0 x2c1 x2c2 p3c0 x3c1 x3c2 a4 = some o) (good : GoodS (law08_RationalAround_At r) r o) : law08_RationalAround_At r (.p18 p1c0 x1c1 x1c2 p2c0 x2c1 x2c2 p3c0 x3c1 x3c2 a4) := by
  intro h0 h s1c1 s1c2 s2c1 s2c2 s3c1 s3c2 i1 i2 i3 g0 b1 n1c1 n1c2 b2 n2c1 n2c2 b3 n3c1 n3c2 hi1 hi2 hi3 av1c1_1 av1c1_2 av1c1_3 av1c2_1 av1c2_2 av1c2_3 av2c1_1 av2c1_2 av2c1_3 av2c2_1 av2c2_2 av2c2_3 av3c1_1 av3c1_2 av3c1_3 av3c2_1 av3c2_2 av3c2_3 ne1_2 ne1_3 ne2_3
  rw [p_law08_RationalAround_18]
  unfold law08_RationalAround_p18' at e
  refine Runs.cond (fun k5 => ?_) (fun k5 => ?_)
  · replace e := (condT k5).symm.trans e
    cases e
    cases good
    exact Runs.ret ⟨rfl, g0⟩
  · replace e := (condF k5).symm.trans e
    refine Runs.step (AH.has.rd b3 0 rfl rfl) ?_
    refine Runs.cond (fun k6 => ?_) (fun k6 => ?_)
    · replace e := (condT k6).symm.trans e
      refine Runs.step (AH.has.rd b3 1 rfl (asSl_v _)) ?_
      rw [n3c1.len]
      refine Runs.cond (fun k7 => ?_) (fun k7 => ?_)
      · replace e := (condT k7).symm.trans e
        refine Runs.step (AH.has.rd b1 0 rfl rfl) ?_
        refine Runs.step (AH.has.rd b1 1 rfl (asSl_v _)) ?_
        refine Runs.step (AH.has.rd b1 2 rfl (asSl_v _)) ?_
        refine Runs.step (AH.has.rd b2 0 rfl rfl) ?_
        refine Runs.step (AH.has.rd b2 1 rfl (asSl_v _)) ?_
        refine Runs.step (AH.has.rd b2 2 rfl (asSl_v _)) ?_
        obtain ⟨_, H8, e8, rfl, g8⟩ := rational_Cmp_spec n1c1 n1c2 n2c1 n2c2 p1c0 p2c0
        refine Runs.step e8 ?_
        refine Runs.step (seen (avInt_int _ _)) ?_
        cases e
        cases good
        exact Runs.ret ⟨rfl, (g0.trans g8)⟩
      · replace e := (condF k7).symm.trans e
        refine Runs.step (AH.has.rd b1 0 rfl rfl) ?_
        refine Runs.step (AH.has.rd b1 1 rfl (asSl_v _)) ?_
        refine Runs.step (AH.has.rd b1 2 rfl (asSl_v _)) ?_
        refine Runs.step (AH.has.rd b2 0 rfl rfl) ?_
        refine Runs.step (AH.has.rd b2 1 rfl (asSl_v _)) ?_
        refine Runs.step (AH.has.rd b2 2 rfl (asSl_v _)) ?_
        obtain ⟨_, H8, e8, rfl, g8⟩ := rational_Cmp_spec n1c1 n1c2 n2c1 n2c2 p1c0 p2c0
        refine Runs.step e8 ?_
        refine Runs.step (seen (avInt_int _ _)) ?_
        cases e
        cases good
        exact Runs.ret ⟨rfl, (g0.trans g8)⟩
    · replace e := (condF k6).symm.trans e
      refine Runs.step (AH.has.rd b3 1 rfl (asSl_v _)) ?_
      rw [n3c1.len]
      refine Runs.cond (fun k7 => ?_) (fun k7 => ?_)
      · replace e := (condT k7).symm.trans e
        refine Runs.step (AH.has.rd b1 0 rfl rfl) ?_
        refine Runs.step (AH.has.rd b1 1 rfl (asSl_v _)) ?_
        refine Runs.step (AH.has.rd b1 2 rfl (asSl_v _)) ?_
        refine Runs.step (AH.has.rd b2 0 rfl rfl) ?_
        refine Runs.step (AH.has.rd b2 1 rfl (asSl_v _)) ?_
        refine Runs.step (AH.has.rd b2 2 rfl (asSl_v _)) ?_
        obtain ⟨_, H8, e8, rfl, g8⟩ := rational_Cmp_spec n1c1 n1c2 n2c1 n2c2 p1c0 p2c0
        refine Runs.step e8 ?_
        refine Runs.step (seen (avInt_int _ _)) ?_
        cases e
        cases good
        exact Runs.ret ⟨rfl, (g0.trans g8)⟩
      · replace e := (condF k7).symm.trans e
        refine Runs.step (AH.has.rd b1 0 rfl rfl) ?_
        refine Runs.step (AH.has.rd b1 1 rfl (asSl_v _)) ?_
        refine Runs.step (AH.has.rd b1 2 rfl (asSl_v _)) ?_
        refine Runs.step (AH.has.rd b2 0 rfl rfl) ?_
        refine Runs.step (AH.has.rd b2 1 rfl (asSl_v _)) ?_
        refine Runs.step (AH.has.rd b2 2 rfl (asSl_v _)) ?_
        obtain ⟨_, H8, e8, rfl, g8⟩ := rational_Cmp_spec n1c1 n1c2 n2c1 n2c2 p1c0 p2c0
        refine Runs.step e8 ?_
        refine Runs.step (seen (avInt_int _ _)) ?_
        cases e
        cases good
        exact Runs.ret ⟨rfl, (g0.trans g8)⟩

theorem law08_RationalAround_run {s : law08_RationalAround_St} {r : law08_RationalAround_Res} (it : Iter law08_RationalAround_step s r) : law08_RationalAround_At r s := Iter.ind (fun s o e good => by
  cases s with
  | fn a1 x2 x3 a4 x5 x6 => exact @law08_RationalAround_fn_walk _ _ a1 x2 x3 a4 x5 x6 e good
  | p18 p1c0 x1c1 x1c2 p2c0 x2c1 x2c2 p3c0 x3c1 x3c2 a4 => exact @law08_RationalAround_p18_walk _ _ p1c0 x1c1 x1c2 p2c0 x2c1 x2c2 p3c0 x3c1 x3c2 a4 e good
  ) it

theorem law08_RationalAround_opt {h : AH} {a2 : Sl} {a3 : Sl} {a5 : Sl} {a6 : Sl} {a1 : Bool} {x2 : List Nat} {x3 : List Nat} {a4 : Bool} {x5 : List Nat} {x6 : List Nat} (n2 : Nats h a2 x2) (n3 : Nats h a3 x3) (n5 : Nats h a5 x5) (n6 : Nats h a6 x6) {r : law08_RationalAround_Res} (q : runP law08_RationalAround_step (.fn a1 x2 x3 a4 x5 x6) = some r) : Runs (go (.fn F.law08_RationalAround [.agg [.bool a1, a2.v, a3.v], .agg [.bool a4, a5.v, a6.v]]) h) (law08_RationalAround_post h r) := law08_RationalAround_run (runP_iter q) n2 n3 n5 n6

end Go.Ab

/- Layer 8: the law Around. -/
set_option linter.unusedVariables false
set_option linter.unusedSimpArgs false
set_option maxRecDepth 10000
namespace Go.Ab
open Go.Proofs Go.Num

theorem Around_iter {p q : Bool} {xs ys us vs : List Nat} (lx : ∀ x ∈ xs, x < B) (ly : ∀ x ∈ ys, x < B) (lu : ∀ x ∈ us, x < B) (lv : ∀ x ∈ vs, x < B) : Iter law08_RationalAround_step (.fn p xs ys q us vs) true := by
  have last : Iter law08_RationalAround_step (.p18 p xs ys q us vs (rational_Sub' p xs ys q us vs).1 (rational_Sub' p xs ys q us vs).2.1 (rational_Sub' p xs ys q us vs).2.2.1 (rational_Sub' p xs ys q us vs).2.2.2) true := by
    refine .done ?_
    show law08_RationalAround_p18' p xs ys q us vs (rational_Sub' p xs ys q us vs).1 (rational_Sub' p xs ys q us vs).2.1 (rational_Sub' p xs ys q us vs).2.2.1 (rational_Sub' p xs ys q us vs).2.2.2 = _
    unfold law08_RationalAround_p18'
    refine cond_elim (fun _ => rfl) fun k => ?_
    have k : (rational_Sub' p xs ys q us vs).2.2.2 = 0 := by simpa using k
    cases h : (rational_Right' p xs ys && rational_Right' q us vs) with
    | false => rw [Sub_no h] at k; cases k
    | true =>
      obtain ⟨z, d, w, e, f, k2⟩ := both_of lx ly lu lv h
      rw [Sub_of f k2] at k ⊢
      obtain ⟨x, c, e1, _, _, g, hg, e2, _⟩ := fracM_ok (Nat.mul_pos f.pos k2.pos) k
      rw [e1, Cmp_of f k2]
      dsimp only
      have s1 : (intD x).1 = decide (x < 0) := rfl
      have s2 : (intD x).2 = digs B x.natAbs := rfl
      rw [s1, s2, len_zero]
      have hg' : (0 : Int) < (g : Int) := by omega
      by_cases h1 : x < 0
      · have : x * (g : Int) < 0 := Int.mul_neg_of_neg_of_pos h1 hg'
        rw [decide_eq_true h1, decide_eq_false (fun e => by have := (digs_nil B2).1 e; omega), if_pos (by omega)]
        rfl
      · rw [decide_eq_false h1]
        by_cases h2 : x = 0
        · subst h2
          rw [Int.zero_mul] at e2
          rw [show decide (digs B (Int.natAbs 0) = []) = true from decide_eq_true ((digs_nil B2).2 rfl), if_neg (by omega), if_pos (by omega)]
          rfl
        · have : 0 < x * (g : Int) := Int.mul_pos (by omega) hg'
          rw [decide_eq_false (fun e => by have := (digs_nil B2).1 e; omega), if_neg (by omega), if_neg (by omega)]
          rfl
  by_cases hf : (fewF xs ys && fewF us vs) = true
  · refine .next ?_ last
    show law08_RationalAround_fn' _ _ _ _ _ _ = _
    unfold law08_RationalAround_fn'
    rw [condF (by rw [hf]; rfl)]
    simp only [Option.bind_some]
    rw [Add_comm lx ly lu lv, Mul_comm lx ly lu lv, need_of ⟨rfl, rfl, rfl⟩, need_of ⟨rfl, rfl, rfl⟩]
    simp only [Option.bind_some, Bool.not_true, cond_false, decide_true]
    by_cases h0 : (rational_Add' p xs ys q us vs).2.2.2 = 0
    · rw [condT (decide_eq_true h0), Add_Sub lx ly lu lv h0, need_of ⟨rfl, rfl, rfl⟩]
      rfl
    · rw [condF (decide_eq_false h0)]
  · refine .done ?_
    show law08_RationalAround_fn' _ _ _ _ _ _ = _
    unfold law08_RationalAround_fn'
    rw [condT (by cases h : (fewF xs ys && fewF us vs) with | true => exact absurd h hf | false => rfl)]

theorem RationalAround_law (h : AH) {x0 x1 : AV} (z0 : ArgV Pg h T.api_Frac x0) (z1 : ArgV Pg h T.api_Frac x1) : ∃ h', go (.fn F.law08_RationalAround [x0, x1]) h = some (.bool true, h') := by
  obtain ⟨p, s, xs, t, ys, rfl, n, m⟩ := frac_of_arg z0
  obtain ⟨q, s', us, t', vs, rfl, n', m'⟩ := frac_of_arg z1
  obtain ⟨_, h', e, rfl, _⟩ := law08_RationalAround_run (Around_iter n.lt m.lt n'.lt m'.lt) n m n' m'
  exact ⟨h', e⟩

end Go.Ab
