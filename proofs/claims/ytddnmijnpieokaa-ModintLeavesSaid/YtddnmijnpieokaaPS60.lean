/- Layer 3: laws of Crt: printed by wip/tools/walk.py. -/
import Derived.Test.YtddnmijnpieokaaPS52
import Derived.Test.YtddnmijnpieokaaPS2

set_option linter.unusedVariables false
set_option linter.unusedSimpArgs false
set_option maxRecDepth 10000
namespace Go.Ab
open Go.Proofs Go.Num

inductive law03_ModintCrts_St
  | fn (x1 : List Nat) (x2 : List Nat) (x3 : List Nat) (x4 : List Nat)
  | no

abbrev law03_ModintCrts_Res := Bool

noncomputable def law03_ModintCrts_fn' (x1 : List Nat) (x2 : List Nat) (x3 : List Nat) (x4 : List Nat) : Option (law03_ModintCrts_St ⊕ law03_ModintCrts_Res) :=
  cond (!((decide (List.length x1 ≤ 70) && (decide (List.length x3 ≤ 70) && (decide (List.length x2 ≤ 70) && decide (List.length x4 ≤ 70)))))) (some (.inr true)) ((u64P 1).bind fun w17 => (u64P 2).bind fun w18 => (u64P 1).bind fun w19 => (u64P 3).bind fun w20 => cond (true) (cond (decide (((crtN x1 x3 x2 x4).2) = ((crtN x1 x3 x2 x4).2))) (some (.inr (decide ((List.length ((crtN [w17] [w18] [w19] [w20]).1) : Int) = 1)))) (some (.inr false))) (some (.inr false)))

noncomputable def law03_ModintCrts_step : law03_ModintCrts_St → Option (law03_ModintCrts_St ⊕ law03_ModintCrts_Res)
  | .fn x1 x2 x3 x4 => law03_ModintCrts_fn' x1 x2 x3 x4
  | .no => none

@[reducible] def law03_ModintCrts_post (h0 : AH) (r : law03_ModintCrts_Res) (v : AV) (h' : AH) : Prop := v = .bool r ∧ Grow h0 h'

def law03_ModintCrts_At (r : law03_ModintCrts_Res) : law03_ModintCrts_St → Prop
  | .fn x1 x2 x3 x4 => ∀ {h : AH} {a1 : Sl} {a2 : Sl} {a3 : Sl} {a4 : Sl}, Nats h a1 x1 → Nats h a2 x2 → Nats h a3 x3 → Nats h a4 x4 → Runs (go (.fn F.law03_ModintCrts [.agg [a1.v, a2.v], .agg [a3.v, a4.v]]) h) (law03_ModintCrts_post h r)
  | .no => True

theorem law03_ModintCrts_fn_walk {r : law03_ModintCrts_Res} {o : law03_ModintCrts_St ⊕ law03_ModintCrts_Res} {x1 : List Nat} {x2 : List Nat} {x3 : List Nat} {x4 : List Nat} (e : law03_ModintCrts_fn' x1 x2 x3 x4 = some o) (good : GoodS (law03_ModintCrts_At r) r o) : law03_ModintCrts_At r (.fn x1 x2 x3 x4) := by
  intro h a1 a2 a3 a4 n1 n2 n3 n4
  rw [u_law03_ModintCrts]
  unfold law03_ModintCrts_fn' at e
  refine Runs.new fun H5 b5 g5 => ?_
  refine Runs.new fun H6 b6 g6 => ?_
  refine Runs.step (show idx (some (Ref.new h.blks.size 0)) 2 0 1 = some ((Ref.new h.blks.size 0).add 0) from rfl) ?_
  refine Runs.step (AH.has.rd0 (g6.has b5) rfl (asSl_v _)) ?_
  refine Runs.step (show idx (some (Ref.new h.blks.size 0)) 2 1 1 = some ((Ref.new h.blks.size 0).add 1) from rfl) ?_
  refine Runs.step (AH.has.rd (g6.has b5) 1 rfl (asSl_v _)) ?_
  refine Runs.step (show idx (some (Ref.new H5.blks.size 0)) 2 0 1 = some ((Ref.new H5.blks.size 0).add 0) from rfl) ?_
  refine Runs.step (AH.has.rd0 b6 rfl (asSl_v _)) ?_
  refine Runs.step (show idx (some (Ref.new H5.blks.size 0)) 2 1 1 = some ((Ref.new H5.blks.size 0).add 1) from rfl) ?_
  refine Runs.step (AH.has.rd b6 1 rfl (asSl_v _)) ?_
  refine Runs.new fun H7 b7 g7 => ?_
  refine Runs.step (few4_spec b7 (n1.grow ((g5.trans g6).trans g7)) (n3.grow ((g5.trans g6).trans g7)) (n2.grow ((g5.trans g6).trans g7)) (n4.grow ((g5.trans g6).trans g7))) ?_
  refine Runs.step (seen rfl) ?_
  refine Runs.cond (fun k9 => ?_) (fun k9 => ?_)
  · replace e := (condT k9).symm.trans e
    cases e
    cases good
    exact Runs.ret ⟨rfl, ((g5.trans g6).trans g7)⟩
  · replace e := (condF k9).symm.trans e
    obtain ⟨_, H10, e10, s10, rfl, n10, g10, o10⟩ := modint_Crt_spec (n1.grow ((g5.trans g6).trans g7)) (n3.grow ((g5.trans g6).trans g7)) (n2.grow ((g5.trans g6).trans g7)) (n4.grow ((g5.trans g6).trans g7))
    refine Runs.step e10 ?_
    refine Runs.step rfl ?_
    refine Runs.step (seen (asSl_v _)) ?_
    refine Runs.step (seen (avInt_int _ _)) ?_
    obtain ⟨_, H11, e11, s11, rfl, n11, g11, o11⟩ := ref03_Crt_spec (n1.grow (((g5.trans g6).trans g7).trans g10)) (n3.grow (((g5.trans g6).trans g7).trans g10)) (n2.grow (((g5.trans g6).trans g7).trans g10)) (n4.grow (((g5.trans g6).trans g7).trans g10))
    refine Runs.step e11 ?_
    refine Runs.step rfl ?_
    refine Runs.step (seen (asSl_v _)) ?_
    refine Runs.step (seen (avInt_int _ _)) ?_
    refine Runs.step (ref01_Same_spec (n10.grow g11) n11) ?_
    refine Runs.step (seen rfl) ?_
    refine Runs.new fun H13 b13 g13 => ?_
    refine Runs.new fun H14 b14 g14 => ?_
    refine Runs.new fun H15 b15 g15 => ?_
    refine Runs.new fun H16 b16 g16 => ?_
    obtain ⟨w17, z17, e⟩ := Option.bind_eq_some_iff.1 e
    obtain ⟨w18, z18, e⟩ := Option.bind_eq_some_iff.1 e
    obtain ⟨w19, z19, e⟩ := Option.bind_eq_some_iff.1 e
    obtain ⟨w20, z20, e⟩ := Option.bind_eq_some_iff.1 e
    obtain ⟨_, H21, e21, s21, rfl, n21, g21, o21⟩ := modint_Crt_spec (Nats.of_has1 (((g14.trans g15).trans g16).has b13) z17) (Nats.of_has1 ((g15.trans g16).has b14) z18) (Nats.of_has1 (g16.has b15) z19) (Nats.of_has1 b16 z20)
    refine Runs.step e21 ?_
    refine Runs.step rfl ?_
    refine Runs.step (seen (asSl_v _)) ?_
    rw [n21.len]
    refine Runs.step (seen (avInt_int _ _)) ?_
    refine Runs.cond (fun k22 => ?_) (fun k22 => ?_)
    · replace e := (condT k22).symm.trans e
      refine Runs.cond (fun k23 => ?_) (fun k23 => ?_)
      · replace e := (condT k23).symm.trans e
        cases e
        cases good
        exact Runs.ret ⟨rfl, (((((((((g5.trans g6).trans g7).trans g10).trans g11).trans g13).trans g14).trans g15).trans g16).trans g21)⟩
      · replace e := (condF k23).symm.trans e
        cases e
        cases good
        exact Runs.ret ⟨rfl, (((((((((g5.trans g6).trans g7).trans g10).trans g11).trans g13).trans g14).trans g15).trans g16).trans g21)⟩
    · replace e := (condF k22).symm.trans e
      cases e
      cases good
      exact Runs.ret ⟨rfl, (((((((((g5.trans g6).trans g7).trans g10).trans g11).trans g13).trans g14).trans g15).trans g16).trans g21)⟩

theorem law03_ModintCrts_run {s : law03_ModintCrts_St} {r : law03_ModintCrts_Res} (it : Iter law03_ModintCrts_step s r) : law03_ModintCrts_At r s := Iter.ind (fun s o e good => by
  cases s with
  | fn x1 x2 x3 x4 => exact @law03_ModintCrts_fn_walk _ _ x1 x2 x3 x4 e good
  | no => exact True.intro
  ) it

theorem law03_ModintCrts_opt {h : AH} {a1 : Sl} {a2 : Sl} {a3 : Sl} {a4 : Sl} {x1 : List Nat} {x2 : List Nat} {x3 : List Nat} {x4 : List Nat} (n1 : Nats h a1 x1) (n2 : Nats h a2 x2) (n3 : Nats h a3 x3) (n4 : Nats h a4 x4) {r : law03_ModintCrts_Res} (q : runP law03_ModintCrts_step (.fn x1 x2 x3 x4) = some r) : Runs (go (.fn F.law03_ModintCrts [.agg [a1.v, a2.v], .agg [a3.v, a4.v]]) h) (law03_ModintCrts_post h r) := law03_ModintCrts_run (runP_iter q) n1 n2 n3 n4

inductive law03_ModintLeaves_St
  | fn (x1 : List Nat) (x2 : List Nat) (x3 : List Nat) (x4 : List Nat)
  | no

abbrev law03_ModintLeaves_Res := Bool

noncomputable def law03_ModintLeaves_fn' (x1 : List Nat) (x2 : List Nat) (x3 : List Nat) (x4 : List Nat) : Option (law03_ModintLeaves_St ⊕ law03_ModintLeaves_Res) :=
  cond (!((decide (List.length x1 ≤ 70) && (decide (List.length x3 ≤ 70) && (decide (List.length x2 ≤ 70) && decide (List.length x4 ≤ 70)))))) (some (.inr true)) ((u64P 1).bind fun w14 => (u64P 2).bind fun w15 => (u64P 1).bind fun w16 => (u64P 3).bind fun w17 => cond (!decide (((crtN x1 x3 x2 x4).2) = 0)) (cond (decide ((List.length ((crtN [w14] [w15] [w16] [w17]).1) : Int) = 1)) (some (.inr (decide ((List.length ((crtN x1 x3 x2 x4).1) : Int) = 0)))) (some (.inr false))) (cond (!decide ((List.length ((crtN [w14] [w15] [w16] [w17]).1) : Int) = 1)) (cond (decide ((List.length ((crtN [w14] [w15] [w16] [w17]).1) : Int) = 1)) (some (.inr (decide ((List.length ((crtN x1 x3 x2 x4).1) : Int) = 0)))) (some (.inr false))) ((need (((divN ((crtN x1 x3 x2 x4).1) x3).2.1) = x1)).bind fun c25_0 => (need (((divN ((crtN x1 x3 x2 x4).1) x4).2.1) = x2)).bind fun c26_0 => cond (decide ((cmpN ((crtN x1 x3 x2 x4).1) ((mulN x3 x4).1)) < 0)) (cond (true) (some (.inr true)) (some (.inr false))) (some (.inr false)))))

noncomputable def law03_ModintLeaves_step : law03_ModintLeaves_St → Option (law03_ModintLeaves_St ⊕ law03_ModintLeaves_Res)
  | .fn x1 x2 x3 x4 => law03_ModintLeaves_fn' x1 x2 x3 x4
  | .no => none

@[reducible] def law03_ModintLeaves_post (h0 : AH) (r : law03_ModintLeaves_Res) (v : AV) (h' : AH) : Prop := v = .bool r ∧ Grow h0 h'

def law03_ModintLeaves_At (r : law03_ModintLeaves_Res) : law03_ModintLeaves_St → Prop
  | .fn x1 x2 x3 x4 => ∀ {h : AH} {a1 : Sl} {a2 : Sl} {a3 : Sl} {a4 : Sl}, Nats h a1 x1 → Nats h a2 x2 → Nats h a3 x3 → Nats h a4 x4 → Runs (go (.fn F.law03_ModintLeaves [.agg [a1.v, a2.v], .agg [a3.v, a4.v]]) h) (law03_ModintLeaves_post h r)
  | .no => True

theorem law03_ModintLeaves_fn_walk {r : law03_ModintLeaves_Res} {o : law03_ModintLeaves_St ⊕ law03_ModintLeaves_Res} {x1 : List Nat} {x2 : List Nat} {x3 : List Nat} {x4 : List Nat} (e : law03_ModintLeaves_fn' x1 x2 x3 x4 = some o) (good : GoodS (law03_ModintLeaves_At r) r o) : law03_ModintLeaves_At r (.fn x1 x2 x3 x4) := by
  intro h a1 a2 a3 a4 n1 n2 n3 n4
  rw [u_law03_ModintLeaves]
  unfold law03_ModintLeaves_fn' at e
  refine Runs.new fun H5 b5 g5 => ?_
  refine Runs.new fun H6 b6 g6 => ?_
  refine Runs.step (show idx (some (Ref.new h.blks.size 0)) 2 0 1 = some ((Ref.new h.blks.size 0).add 0) from rfl) ?_
  refine Runs.step (AH.has.rd0 (g6.has b5) rfl (asSl_v _)) ?_
  refine Runs.step (show idx (some (Ref.new h.blks.size 0)) 2 1 1 = some ((Ref.new h.blks.size 0).add 1) from rfl) ?_
  refine Runs.step (AH.has.rd (g6.has b5) 1 rfl (asSl_v _)) ?_
  refine Runs.step (show idx (some (Ref.new H5.blks.size 0)) 2 0 1 = some ((Ref.new H5.blks.size 0).add 0) from rfl) ?_
  refine Runs.step (AH.has.rd0 b6 rfl (asSl_v _)) ?_
  refine Runs.step (show idx (some (Ref.new H5.blks.size 0)) 2 1 1 = some ((Ref.new H5.blks.size 0).add 1) from rfl) ?_
  refine Runs.step (AH.has.rd b6 1 rfl (asSl_v _)) ?_
  refine Runs.new fun H7 b7 g7 => ?_
  refine Runs.step (few4_spec b7 (n1.grow ((g5.trans g6).trans g7)) (n3.grow ((g5.trans g6).trans g7)) (n2.grow ((g5.trans g6).trans g7)) (n4.grow ((g5.trans g6).trans g7))) ?_
  refine Runs.step (seen rfl) ?_
  refine Runs.cond (fun k9 => ?_) (fun k9 => ?_)
  · replace e := (condT k9).symm.trans e
    cases e
    cases good
    exact Runs.ret ⟨rfl, ((g5.trans g6).trans g7)⟩
  · replace e := (condF k9).symm.trans e
    refine Runs.new fun H10 b10 g10 => ?_
    refine Runs.new fun H11 b11 g11 => ?_
    refine Runs.new fun H12 b12 g12 => ?_
    refine Runs.new fun H13 b13 g13 => ?_
    obtain ⟨w14, z14, e⟩ := Option.bind_eq_some_iff.1 e
    obtain ⟨w15, z15, e⟩ := Option.bind_eq_some_iff.1 e
    obtain ⟨w16, z16, e⟩ := Option.bind_eq_some_iff.1 e
    obtain ⟨w17, z17, e⟩ := Option.bind_eq_some_iff.1 e
    obtain ⟨_, H18, e18, s18, rfl, n18, g18, o18⟩ := modint_Crt_spec (Nats.of_has1 (((g11.trans g12).trans g13).has b10) z14) (Nats.of_has1 ((g12.trans g13).has b11) z15) (Nats.of_has1 (g13.has b12) z16) (Nats.of_has1 b13 z17)
    refine Runs.step e18 ?_
    refine Runs.step rfl ?_
    refine Runs.step (seen (asSl_v _)) ?_
    rw [n18.len]
    refine Runs.step (seen (avInt_int _ _)) ?_
    obtain ⟨_, H19, e19, s19, rfl, n19, g19, o19⟩ := modint_Crt_spec (n1.grow (((((((g5.trans g6).trans g7).trans g10).trans g11).trans g12).trans g13).trans g18)) (n3.grow (((((((g5.trans g6).trans g7).trans g10).trans g11).trans g12).trans g13).trans g18)) (n2.grow (((((((g5.trans g6).trans g7).trans g10).trans g11).trans g12).trans g13).trans g18)) (n4.grow (((((((g5.trans g6).trans g7).trans g10).trans g11).trans g12).trans g13).trans g18))
    refine Runs.step e19 ?_
    refine Runs.step rfl ?_
    refine Runs.step (seen (asSl_v _)) ?_
    rw [n19.len]
    refine Runs.step (seen (avInt_int _ _)) ?_
    refine Runs.cond (fun k20 => ?_) (fun k20 => ?_)
    · replace e := (condT k20).symm.trans e
      refine Runs.cond (fun k21 => ?_) (fun k21 => ?_)
      · replace e := (condT k21).symm.trans e
        cases e
        cases good
        exact Runs.ret ⟨rfl, ((((((((g5.trans g6).trans g7).trans g10).trans g11).trans g12).trans g13).trans g18).trans g19)⟩
      · replace e := (condF k21).symm.trans e
        cases e
        cases good
        exact Runs.ret ⟨rfl, ((((((((g5.trans g6).trans g7).trans g10).trans g11).trans g12).trans g13).trans g18).trans g19)⟩
    · replace e := (condF k20).symm.trans e
      refine Runs.cond (fun k21 => ?_) (fun k21 => ?_)
      · replace e := (condT k21).symm.trans e
        refine Runs.cond (fun k22 => ?_) (fun k22 => ?_)
        · replace e := (condT k22).symm.trans e
          cases e
          cases good
          exact Runs.ret ⟨rfl, ((((((((g5.trans g6).trans g7).trans g10).trans g11).trans g12).trans g13).trans g18).trans g19)⟩
        · replace e := (condF k22).symm.trans e
          cases e
          cases good
          exact Runs.ret ⟨rfl, ((((((((g5.trans g6).trans g7).trans g10).trans g11).trans g12).trans g13).trans g18).trans g19)⟩
      · replace e := (condF k21).symm.trans e
        obtain ⟨s22, H22, e22, n22, g22, o22⟩ := ref01_Mul_spec (n3.grow ((((((((g5.trans g6).trans g7).trans g10).trans g11).trans g12).trans g13).trans g18).trans g19)) (n4.grow ((((((((g5.trans g6).trans g7).trans g10).trans g11).trans g12).trans g13).trans g18).trans g19))
        refine Runs.step e22 ?_
        refine Runs.step rfl ?_
        refine Runs.step (seen (asSl_v _)) ?_
        refine Runs.step (seen (avInt_int _ _)) ?_
        obtain ⟨s23, H23, e23, n23, g23, o23⟩ := ref01_Rest_spec (n19.grow g22) (n3.grow (((((((((g5.trans g6).trans g7).trans g10).trans g11).trans g12).trans g13).trans g18).trans g19).trans g22))
        refine Runs.step e23 ?_
        refine Runs.step (seen (asSl_v _)) ?_
        obtain ⟨s24, H24, e24, n24, g24, o24⟩ := ref01_Rest_spec (n19.grow (g22.trans g23)) (n4.grow ((((((((((g5.trans g6).trans g7).trans g10).trans g11).trans g12).trans g13).trans g18).trans g19).trans g22).trans g23))
        refine Runs.step e24 ?_
        refine Runs.step (seen (asSl_v _)) ?_
        obtain ⟨c25_0, q25_0, e⟩ := Option.bind_eq_some_iff.1 e
        refine Runs.step (ref01_Same_need (n23.grow g24) (n1.grow (((((((((((g5.trans g6).trans g7).trans g10).trans g11).trans g12).trans g13).trans g18).trans g19).trans g22).trans g23).trans g24))  c25_0.down) ?_
        refine Runs.step (seen rfl) ?_
        obtain ⟨c26_0, q26_0, e⟩ := Option.bind_eq_some_iff.1 e
        refine Runs.step (ref01_Same_need n24 (n2.grow (((((((((((g5.trans g6).trans g7).trans g10).trans g11).trans g12).trans g13).trans g18).trans g19).trans g22).trans g23).trans g24))  c26_0.down) ?_
        refine Runs.step (seen rfl) ?_
        obtain ⟨H27, e27, g27⟩ := ref01_Cmp_spec (n19.grow ((g22.trans g23).trans g24)) (n22.grow (g23.trans g24))
        refine Runs.step e27 ?_
        refine Runs.step (seen (avInt_int _ _)) ?_
        refine Runs.cond (fun k28 => ?_) (fun k28 => ?_)
        · replace e := (condT k28).symm.trans e
          refine Runs.cond (fun k29 => ?_) (fun k29 => ?_)
          · replace e := (condT k29).symm.trans e
            cases e
            cases good
            exact Runs.ret ⟨rfl, ((((((((((((g5.trans g6).trans g7).trans g10).trans g11).trans g12).trans g13).trans g18).trans g19).trans g22).trans g23).trans g24).trans g27)⟩
          · replace e := (condF k29).symm.trans e
            cases e
            cases good
            exact Runs.ret ⟨rfl, ((((((((((((g5.trans g6).trans g7).trans g10).trans g11).trans g12).trans g13).trans g18).trans g19).trans g22).trans g23).trans g24).trans g27)⟩
        · replace e := (condF k28).symm.trans e
          cases e
          cases good
          exact Runs.ret ⟨rfl, ((((((((((((g5.trans g6).trans g7).trans g10).trans g11).trans g12).trans g13).trans g18).trans g19).trans g22).trans g23).trans g24).trans g27)⟩

theorem law03_ModintLeaves_run {s : law03_ModintLeaves_St} {r : law03_ModintLeaves_Res} (it : Iter law03_ModintLeaves_step s r) : law03_ModintLeaves_At r s := Iter.ind (fun s o e good => by
  cases s with
  | fn x1 x2 x3 x4 => exact @law03_ModintLeaves_fn_walk _ _ x1 x2 x3 x4 e good
  | no => exact True.intro
  ) it

theorem law03_ModintLeaves_opt {h : AH} {a1 : Sl} {a2 : Sl} {a3 : Sl} {a4 : Sl} {x1 : List Nat} {x2 : List Nat} {x3 : List Nat} {x4 : List Nat} (n1 : Nats h a1 x1) (n2 : Nats h a2 x2) (n3 : Nats h a3 x3) (n4 : Nats h a4 x4) {r : law03_ModintLeaves_Res} (q : runP law03_ModintLeaves_step (.fn x1 x2 x3 x4) = some r) : Runs (go (.fn F.law03_ModintLeaves [.agg [a1.v, a2.v], .agg [a3.v, a4.v]]) h) (law03_ModintLeaves_post h r) := law03_ModintLeaves_run (runP_iter q) n1 n2 n3 n4

end Go.Ab

/- Layer 3: the laws of Crt. -/
set_option linter.unusedVariables false
set_option linter.unusedSimpArgs false
set_option maxRecDepth 10000
namespace Go.Ab
open Go.Proofs Go.Num

theorem crt_one : (crtN [1] [2] [1] [3]).1 = [1] ∧ (crtN [1] [2] [1] [3]).2 = 0 := by
  have h1 : ∀ x ∈ [1], x < B := by intro x hx; rw [List.mem_singleton.1 hx]; decide
  have h2 : ∀ x ∈ [2], x < B := by intro x hx; rw [List.mem_singleton.1 hx]; decide
  have h3 : ∀ x ∈ [3], x < B := by intro x hx; rw [List.mem_singleton.1 hx]; decide
  have S := (crtN_spec h1 h2 h1 h3).2.2
  have e1 : num B [1] = 1 := by simp [num]
  have e2 : num B [2] = 2 := by simp [num]
  have e3 : num B [3] = 3 := by simp [num]
  have G : CrtOk [1] [2] [1] [3] := by
    unfold CrtOk
    rw [e1, e2, e3]
    decide
  have h0 := S.2.1 G (by rw [e2, e3]; decide)
  obtain ⟨X, hr, _, k1, k2, k3⟩ := S.2.2 h0
  rw [e1, e2, e3] at *
  have : X = 1 := by omega
  subst this
  rw [hr, digs_one]
  exact ⟨rfl, rfl⟩

theorem u64P_three : u64P 3 = some 3 := u64P_nat (n := 3) (by decide)

theorem ModintCrts_iter (x1 x2 x3 x4 : List Nat) : Iter law03_ModintCrts_step (.fn x1 x2 x3 x4) true := by
  refine .done ?_
  show law03_ModintCrts_fn' _ _ _ _ = _
  unfold law03_ModintCrts_fn'
  refine cond_elim (fun _ => rfl) fun _ => ?_
  rw [u64P_one, Option.bind_some, u64P_two_b, Option.bind_some, Option.bind_some, u64P_three, Option.bind_some, crt_one.1]
  simp

theorem ModintLeaves_iter {x1 x2 x3 x4 : List Nat} (l1 : ∀ x ∈ x1, x < B) (l2 : ∀ x ∈ x2, x < B) (l3 : ∀ x ∈ x3, x < B) (l4 : ∀ x ∈ x4, x < B) : Iter law03_ModintLeaves_step (.fn x1 x2 x3 x4) true := by
  refine .done ?_
  show law03_ModintLeaves_fn' _ _ _ _ = _
  unfold law03_ModintLeaves_fn'
  refine cond_elim (fun _ => rfl) fun _ => ?_
  have S := (crtN_spec l1 l3 l2 l4).2.2
  rw [u64P_one, Option.bind_some, u64P_two_b, Option.bind_some, Option.bind_some, u64P_three, Option.bind_some, crt_one.1]
  by_cases h0 : (crtN x1 x3 x2 x4).2 = 0
  · obtain ⟨X, hr, G, k1, k2, k3⟩ := S.2.2 h0
    obtain ⟨g1, g3, g2, g4, hm, hn, ha, hb⟩ := G
    have m8 := pow8 l3 g3.2
    have n8 := pow8 l4 g4.2
    have b16 := B16
    have hp := Nat.mul_lt_mul_of_lt_of_lt m8 n8
    rw [hr]
    dsimp only
    have ne3 : x3 ≠ [] := by
      rintro rfl
      simp [num] at hm
    have ne4 : x4 ≠ [] := by
      rintro rfl
      simp [num] at hn
    have hX : X < B ^ 64 := by omega
    have d1 : (divN (digs B X) x3).2.1 = x1 := by
      rw [divN_rest (rt_digs hX) g3.1 ne3, num_digs B2, k2, digs_num B2 l1 (rt_iff.1 g1.1).2]
    have d2 : (divN (digs B X) x4).2.1 = x2 := by
      rw [divN_rest (rt_digs hX) g4.1 ne4, num_digs B2, k3, digs_num B2 l2 (rt_iff.1 g2.1).2]
    have em : mulN x3 x4 = (digs B (num B x3 * num B x4), 0) := by
      unfold mulN
      rw [if_pos ⟨g3.1, g4.1⟩, told_ok (by omega)]
    rw [condF (by rfl), condF (by rfl), need_of d1, Option.bind_some, need_of d2, Option.bind_some, em]
    dsimp only
    rw [digs_cmp hX (by omega), condT (by rw [decide_eq_true_eq, cmp_lt]; exact k1)]
    rfl
  · have hn := S.1 h0
    rw [condT (by rw [Bool.not_eq_true', decide_eq_false_iff_not]; exact h0), hn]
    rfl

theorem nats2_of_arg {h : AH} {x : AV} (a : ArgV Pg h T.A2_api_Nat x) : ∃ (s t : Sl) (xs ys : List Nat), x = .agg [s.v, t.v] ∧ Nats h s xs ∧ Nats h t ys := by
  unfold ArgV at a
  rw [und_A2_api_Nat] at a
  obtain ⟨cs, rfl, t⟩ := a
  obtain ⟨hl, hf⟩ := t.array und_A2_api_Nat
  rw [cells_A2_api_Nat] at hl
  match cs, hl with
  | [x0, x1], _ =>
    have h0 := hf 0 (by omega)
    have h1 := hf 1 (by omega)
    simp [cells_api_Nat] at h0 h1
    obtain ⟨s1, xs, e0, n⟩ := nats_of_arg h0
    obtain ⟨s2, ys, e1, m⟩ := nats_of_arg h1
    cases e0; cases e1
    exact ⟨s1, s2, xs, ys, rfl, n, m⟩

theorem ModintCrts_law (h : AH) {x0 x1 : AV} (z0 : ArgV Pg h T.A2_api_Nat x0) (z1 : ArgV Pg h T.A2_api_Nat x1) : ∃ h', go (.fn F.law03_ModintCrts [x0, x1]) h = some (.bool true, h') := by
  obtain ⟨a, b, xa, xb, rfl, na, nb⟩ := nats2_of_arg z0
  obtain ⟨c, d, xc, xd, rfl, nc, nd⟩ := nats2_of_arg z1
  obtain ⟨_, h', e, rfl, _⟩ := law03_ModintCrts_run (ModintCrts_iter xa xb xc xd) na nb nc nd
  exact ⟨h', e⟩

theorem ModintLeaves_law (h : AH) {x0 x1 : AV} (z0 : ArgV Pg h T.A2_api_Nat x0) (z1 : ArgV Pg h T.A2_api_Nat x1) : ∃ h', go (.fn F.law03_ModintLeaves [x0, x1]) h = some (.bool true, h') := by
  obtain ⟨a, b, xa, xb, rfl, na, nb⟩ := nats2_of_arg z0
  obtain ⟨c, d, xc, xd, rfl, nc, nd⟩ := nats2_of_arg z1
  obtain ⟨_, h', e, rfl, _⟩ := law03_ModintLeaves_run (ModintLeaves_iter na.lt nb.lt nc.lt nd.lt) na nb nc nd
  exact ⟨h', e⟩

end Go.Ab
