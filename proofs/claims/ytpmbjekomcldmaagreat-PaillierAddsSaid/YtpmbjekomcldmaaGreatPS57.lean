/- squeezed -/
import Derived.Test.YtpmbjekomcldmaaGreatPS38
import Derived.Test.YtpmbjekomcldmaaGreatPAbsQ

set_option linter.unusedVariables false
set_option linter.unusedSimpArgs false
set_option maxRecDepth 10000
namespace Go.Ab
open Go.Proofs Go.Num
def kdq (x1 : List Nat) : Bool :=
 cond (!(rt x1)) (true) (decide ((List.length x1 : Int) > 8))
theorem kmr {h : AH} {a1 : Sl} {x1 : List Nat} (n1 : Nats h a1 x1)  : Runs (go (.fn F.kja [a1.v]) h) fun v h' => v = .bool (kdq x1) ∧ Grow h h' := by
 rw [kbbk]
 rw [n1.len]
 refine Runs.step (kb9 n1) ?_
 refine Runs.step (seen rfl) ?_
 refine Runs.cond (fun k3 => ?_) (fun k3 => ?_)
 ·have z : kdq x1 = true := by unfold kdq; exact (condT k3).trans rfl
  rw [z]
  exact Runs.ret ⟨rfl, (Grow.refl _)⟩
 ·have z : kdq x1 = decide ((List.length x1 : Int) > 8) := by unfold kdq; exact (condF k3).trans rfl
  rw [z]
  exact Runs.ret ⟨rfl, (Grow.refl _)⟩
def kgz (x1 : List Nat) : Bool :=
 decide ((cmpN x1 [1]) ≤ 0)
theorem kua {h : AH} {a1 : Sl} {x1 : List Nat} (n1 : Nats h a1 x1)  : Runs (go (.fn F.kom [a1.v]) h) fun v h' => v = .bool (kgz x1) ∧ Grow h h' := by
 rw [kbez]
 refine Runs.new fun H2 b2 g2 => ?_
 obtain ⟨H3, e3, g3⟩ := kdd (n1.grow g2) (Nats.of_has (xs := [1]) b2 (by decide) (by decide))
 refine Runs.step e3 ?_
 refine Runs.step (seen (kb _ _)) ?_
 have z : kgz x1 = decide ((cmpN x1 [1]) ≤ 0) := by unfold kgz; exact rfl
 rw [z]
 exact Runs.ret ⟨rfl, (g2.trans g3)⟩
inductive kh7
 | fn (x1 : List Nat) (x2 : List Nat) (x3 : List Nat) (x4 : List Nat)
 | no
abbrev khs := List Nat × Int
noncomputable def kfe (x1 : List Nat) (x2 : List Nat) (x3 : List Nat) (x4 : List Nat) : Option (kh7 ⊕ khs) :=
 cond (((kdq x1))) (some (.inr ([], 1))) (cond (((kdq x3))) (some (.inr ([], 1))) (cond (((kdq x2))) (some (.inr ([], 1))) (cond (((kdq x4))) (some (.inr ([], 1))) (cond (((kgz x2))) (some (.inr ([], 1))) (cond (((kgz x4))) (some (.inr ([], 1))) (cond (decide ((cmpN x1 x2) ≥ 0)) (some (.inr ([], 1))) (cond (decide ((cmpN x3 x4) ≥ 0)) (some (.inr ([], 1))) (cond (!decide (((invN x2 x4).2) = 0)) (some (.inr ([], ((invN x2 x4).2)))) (some (.inr ((addN ((mulN x2 ((floorI (((kba (((ky ((fromI false x3).1) ((fromI false x3).2) ((fromI false x1).1) ((fromI false x1).2)).1)) ((ky ((fromI false x3).1) ((fromI false x3).2) ((fromI false x1).1) ((fromI false x1).2)).2.1) ((fromI false ((invN x2 x4).1)).1) ((fromI false ((invN x2 x4).1)).2)).1)) ((kba (((ky ((fromI false x3).1) ((fromI false x3).2) ((fromI false x1).1) ((fromI false x1).2)).1)) ((ky ((fromI false x3).1) ((fromI false x3).2) ((fromI false x1).1) ((fromI false x1).2)).2.1) ((fromI false ((invN x2 x4).1)).1) ((fromI false ((invN x2 x4).1)).2)).2.1) ((fromI false x4).1) ((fromI false x4).2)).2.2.2.1)).1) x1).1, ((addN ((mulN x2 ((floorI (((kba (((ky ((fromI false x3).1) ((fromI false x3).2) ((fromI false x1).1) ((fromI false x1).2)).1)) ((ky ((fromI false x3).1) ((fromI false x3).2) ((fromI false x1).1) ((fromI false x1).2)).2.1) ((fromI false ((invN x2 x4).1)).1) ((fromI false ((invN x2 x4).1)).2)).1)) ((kba (((ky ((fromI false x3).1) ((fromI false x3).2) ((fromI false x1).1) ((fromI false x1).2)).1)) ((ky ((fromI false x3).1) ((fromI false x3).2) ((fromI false x1).1) ((fromI false x1).2)).2.1) ((fromI false ((invN x2 x4).1)).1) ((fromI false ((invN x2 x4).1)).2)).2.1) ((fromI false x4).1) ((fromI false x4).2)).2.2.2.1)).1) x1).2))))))))))))
noncomputable def kme : kh7 → Option (kh7 ⊕ khs)
 | .fn x1 x2 x3 x4 => kfe x1 x2 x3 x4
 | .no => none
@[reducible] def kv0 (h0 : AH) (r : khs) (v : AV) (h' : AH) : Prop := ∃ s1 : Sl, v = .tup [s1.v, .int .i64 r.2] ∧ Nats h' s1 r.1 ∧ Grow h0 h' ∧ Own h0 s1
def kq1 (r : khs) : kh7 → Prop
 | .fn x1 x2 x3 x4 => ∀ {h : AH} {a1 : Sl} {a2 : Sl} {a3 : Sl} {a4 : Sl}, Nats h a1 x1 → Nats h a2 x2 → Nats h a3 x3 → Nats h a4 x4 → Runs (go (.fn F.kod [a1.v, a2.v, a3.v, a4.v]) h) (kv0 h r)
 | .no => True
theorem k1b {r : khs} {o : kh7 ⊕ khs} {x1 : List Nat} {x2 : List Nat} {x3 : List Nat} {x4 : List Nat} (e : kfe x1 x2 x3 x4 = some o) (good : GoodS (kq1 r) r o) : kq1 r (.fn x1 x2 x3 x4) := by
 intro h a1 a2 a3 a4 n1 n2 n3 n4
 rw [k5u]
 unfold kfe at e
 obtain ⟨_, H5, e5, rfl, g5⟩ := kmr n1
 refine Runs.step e5 ?_
 refine Runs.step (seen rfl) ?_
 refine Runs.cond (fun k6 => ?_) (fun k6 => ?_)
 ·replace e := (condT k6).symm.trans e
  cases e
  cases good
  exact Runs.ret ⟨(⟨none, 0, .is 0⟩ : Sl), rfl, (Nats.nil _), g5, (Own.nil _)⟩
 ·replace e := (condF k6).symm.trans e
  obtain ⟨_, H7, e7, rfl, g7⟩ := kmr (n3.grow g5)
  refine Runs.step e7 ?_
  refine Runs.step (seen rfl) ?_
  refine Runs.cond (fun k8 => ?_) (fun k8 => ?_)
  ·replace e := (condT k8).symm.trans e
   cases e
   cases good
   exact Runs.ret ⟨(⟨none, 0, .is 0⟩ : Sl), rfl, (Nats.nil _), (g5.trans g7), (Own.nil _)⟩
  ·replace e := (condF k8).symm.trans e
   obtain ⟨_, H9, e9, rfl, g9⟩ := kmr (n2.grow (g5.trans g7))
   refine Runs.step e9 ?_
   refine Runs.step (seen rfl) ?_
   refine Runs.cond (fun k10 => ?_) (fun k10 => ?_)
   ·replace e := (condT k10).symm.trans e
    cases e
    cases good
    exact Runs.ret ⟨(⟨none, 0, .is 0⟩ : Sl), rfl, (Nats.nil _), ((g5.trans g7).trans g9), (Own.nil _)⟩
   ·replace e := (condF k10).symm.trans e
    obtain ⟨_, H11, e11, rfl, g11⟩ := kmr (n4.grow ((g5.trans g7).trans g9))
    refine Runs.step e11 ?_
    refine Runs.step (seen rfl) ?_
    refine Runs.cond (fun k12 => ?_) (fun k12 => ?_)
    ·replace e := (condT k12).symm.trans e
     cases e
     cases good
     exact Runs.ret ⟨(⟨none, 0, .is 0⟩ : Sl), rfl, (Nats.nil _), (((g5.trans g7).trans g9).trans g11), (Own.nil _)⟩
    ·replace e := (condF k12).symm.trans e
     obtain ⟨_, H13, e13, rfl, g13⟩ := kua (n2.grow (((g5.trans g7).trans g9).trans g11))
     refine Runs.step e13 ?_
     refine Runs.step (seen rfl) ?_
     refine Runs.cond (fun k14 => ?_) (fun k14 => ?_)
     ·replace e := (condT k14).symm.trans e
      cases e
      cases good
      exact Runs.ret ⟨(⟨none, 0, .is 0⟩ : Sl), rfl, (Nats.nil _), ((((g5.trans g7).trans g9).trans g11).trans g13), (Own.nil _)⟩
     ·replace e := (condF k14).symm.trans e
      obtain ⟨_, H15, e15, rfl, g15⟩ := kua (n4.grow ((((g5.trans g7).trans g9).trans g11).trans g13))
      refine Runs.step e15 ?_
      refine Runs.step (seen rfl) ?_
      refine Runs.cond (fun k16 => ?_) (fun k16 => ?_)
      ·replace e := (condT k16).symm.trans e
       cases e
       cases good
       exact Runs.ret ⟨(⟨none, 0, .is 0⟩ : Sl), rfl, (Nats.nil _), (((((g5.trans g7).trans g9).trans g11).trans g13).trans g15), (Own.nil _)⟩
      ·replace e := (condF k16).symm.trans e
       obtain ⟨H17, e17, g17⟩ := kdd (n1.grow (((((g5.trans g7).trans g9).trans g11).trans g13).trans g15)) (n2.grow (((((g5.trans g7).trans g9).trans g11).trans g13).trans g15))
       refine Runs.step e17 ?_
       refine Runs.step (seen (kb _ _)) ?_
       refine Runs.cond (fun k18 => ?_) (fun k18 => ?_)
       ·replace e := (condT k18).symm.trans e
        cases e
        cases good
        exact Runs.ret ⟨(⟨none, 0, .is 0⟩ : Sl), rfl, (Nats.nil _), ((((((g5.trans g7).trans g9).trans g11).trans g13).trans g15).trans g17), (Own.nil _)⟩
       ·replace e := (condF k18).symm.trans e
        obtain ⟨H19, e19, g19⟩ := kdd (n3.grow ((((((g5.trans g7).trans g9).trans g11).trans g13).trans g15).trans g17)) (n4.grow ((((((g5.trans g7).trans g9).trans g11).trans g13).trans g15).trans g17))
        refine Runs.step e19 ?_
        refine Runs.step (seen (kb _ _)) ?_
        refine Runs.cond (fun k20 => ?_) (fun k20 => ?_)
        ·replace e := (condT k20).symm.trans e
         cases e
         cases good
         exact Runs.ret ⟨(⟨none, 0, .is 0⟩ : Sl), rfl, (Nats.nil _), (((((((g5.trans g7).trans g9).trans g11).trans g13).trans g15).trans g17).trans g19), (Own.nil _)⟩
        ·replace e := (condF k20).symm.trans e
         obtain ⟨_, H21, e21, s21, rfl, n21, g21, o21⟩ := kvm (n2.grow (((((((g5.trans g7).trans g9).trans g11).trans g13).trans g15).trans g17).trans g19)) (n4.grow (((((((g5.trans g7).trans g9).trans g11).trans g13).trans g15).trans g17).trans g19))
         refine Runs.step e21 ?_
         refine Runs.step rfl ?_
         refine Runs.step (seen (asSl_v _)) ?_
         refine Runs.step (seen (kb _ _)) ?_
         refine Runs.cond (fun k22 => ?_) (fun k22 => ?_)
         ·replace e := (condT k22).symm.trans e
          cases e
          cases good
          exact Runs.ret ⟨(⟨none, 0, .is 0⟩ : Sl), rfl, (Nats.nil _), ((((((((g5.trans g7).trans g9).trans g11).trans g13).trans g15).trans g17).trans g19).trans g21), (Own.nil _)⟩
         ·replace e := (condF k22).symm.trans e
          obtain ⟨s23, H23, e23, n23, g23, o23⟩ := kb0 (n3.grow ((((((((g5.trans g7).trans g9).trans g11).trans g13).trans g15).trans g17).trans g19).trans g21)) false
          refine Runs.step e23 ?_
          refine Runs.step rfl ?_
          refine Runs.ifT rfl ?_
          refine Runs.step (seenAt rfl rfl) ?_
          refine Runs.step (seenAt rfl (asSl_v _)) ?_
          obtain ⟨s24, H24, e24, n24, g24, o24⟩ := kb0 (n1.grow (((((((((g5.trans g7).trans g9).trans g11).trans g13).trans g15).trans g17).trans g19).trans g21).trans g23)) false
          refine Runs.step e24 ?_
          refine Runs.step rfl ?_
          refine Runs.ifT rfl ?_
          refine Runs.step (seenAt rfl rfl) ?_
          refine Runs.step (seenAt rfl (asSl_v _)) ?_
          obtain ⟨_, H25, e25, s25, rfl, n25, g25, o25⟩ := kza (n23.grow g24) n24 ((fromI false x3).1) ((fromI false x1).1)
          refine Runs.step e25 ?_
          refine Runs.step rfl ?_
          refine Runs.step rfl ?_
          refine Runs.ifT rfl ?_
          refine Runs.step (seenAt rfl rfl) ?_
          refine Runs.step (seenAt rfl (asSl_v _)) ?_
          refine Runs.step (seen (kb _ _)) ?_
          refine Runs.new fun H26 b26 g26 => ?_
          refine Runs.puts b26 rfl fun H27 b27 u27 => ?_
          refine Runs.new fun H28 b28 g28 => ?_
          refine Runs.step (AH.has.rd (g28.has b27) 0 rfl rfl) ?_
          refine Runs.step (AH.has.rd (g28.has b27) 1 rfl (asSl_v _)) ?_
          obtain ⟨s29, H29, e29, n29, g29, o29⟩ := kb0 (n21.grow (((((g23.trans g24).trans g25).trans g26).updr (Nat.le_trans (((g23.trans g24).trans g25)).size (Nat.le_refl _)) u27).trans g28)) false
          refine Runs.step e29 ?_
          refine Runs.step rfl ?_
          refine Runs.ifT rfl ?_
          refine Runs.step (seenAt rfl rfl) ?_
          refine Runs.step (seenAt rfl (asSl_v _)) ?_
          refine Runs.when (g29.same (g28.has b27) 0 2) ?_
          refine Runs.when (g29.same b28 0 0) ?_
          obtain ⟨_, H30, e30, s30, rfl, n30, g30, o30⟩ := kxv (n25.grow (((g26.updr (Nat.le_refl _) u27).trans g28).trans g29)) n29 (((ky ((fromI false x3).1) ((fromI false x3).2) ((fromI false x1).1) ((fromI false x1).2)).1)) ((fromI false ((invN x2 x4).1)).1)
          refine Runs.step e30 ?_
          refine Runs.step rfl ?_
          refine Runs.step rfl ?_
          refine Runs.ifT rfl ?_
          refine Runs.step (seenAt rfl rfl) ?_
          refine Runs.step (seenAt rfl (asSl_v _)) ?_
          refine Runs.step (seen (kb _ _)) ?_
          refine Runs.when (g30.same (g29.has b28) 0 0) ?_
          refine Runs.puts ((g29.trans g30).has b28) rfl fun H31 b31 u31 => ?_
          have n29_31 := (n29.grow g30).upda (Av.of_own o29 (b28).lt) u31
          have n30_31 := n30.upda (Av.of_own o30 (g29.has b28).lt) u31
          refine Runs.new fun H32 b32 g32 => ?_
          refine Runs.new fun H33 b33 g33 => ?_
          refine Runs.step (AH.has.rd ((g32.trans g33).has b31) 0 rfl rfl) ?_
          refine Runs.step (AH.has.rd ((g32.trans g33).has b31) 1 rfl (asSl_v _)) ?_
          obtain ⟨s34, H34, e34, n34, g34, o34⟩ := kb0 (n4.grow (((((((((((((((((((g5.trans g7).trans g9).trans g11).trans g13).trans g15).trans g17).trans g19).trans g21).trans g23).trans g24).trans g25).trans g26).updr (Nat.le_trans ((((((((((((g5.trans g7).trans g9).trans g11).trans g13).trans g15).trans g17).trans g19).trans g21).trans g23).trans g24).trans g25)).size (Nat.le_refl _)) u27).trans g28).trans g29).trans g30).updr (Nat.le_trans ((((((((((((((g5.trans g7).trans g9).trans g11).trans g13).trans g15).trans g17).trans g19).trans g21).trans g23).trans g24).trans g25).trans g26).updr (Nat.le_trans ((((((((((((g5.trans g7).trans g9).trans g11).trans g13).trans g15).trans g17).trans g19).trans g21).trans g23).trans g24).trans g25)).size (Nat.le_refl _)) u27)).size (Nat.le_refl _)) u31).trans g32).trans g33)) false
          refine Runs.step e34 ?_
          refine Runs.step rfl ?_
          refine Runs.ifT rfl ?_
          refine Runs.step (seenAt rfl rfl) ?_
          refine Runs.step (seenAt rfl (asSl_v _)) ?_
          refine Runs.when (g34.same ((g32.trans g33).has b31) 0 2) ?_
          refine Runs.when (g34.same b33 0 0) ?_
          refine Runs.when (g34.same (g33.has b32) 0 0) ?_
          obtain ⟨_, H35, e35, s35, s35b, rfl, n35, n35b, g35, o35, o35b⟩ := kxa (n30_31.grow ((g32.trans g33).trans g34)) n34 (((kba (((ky ((fromI false x3).1) ((fromI false x3).2) ((fromI false x1).1) ((fromI false x1).2)).1)) ((ky ((fromI false x3).1) ((fromI false x3).2) ((fromI false x1).1) ((fromI false x1).2)).2.1) ((fromI false ((invN x2 x4).1)).1) ((fromI false ((invN x2 x4).1)).2)).1)) ((fromI false x4).1)
          refine Runs.step e35 ?_
          refine Runs.step rfl ?_
          refine Runs.step rfl ?_
          refine Runs.ifT rfl ?_
          refine Runs.step (seenAt rfl rfl) ?_
          refine Runs.step (seenAt rfl (asSl_v _)) ?_
          refine Runs.step rfl ?_
          refine Runs.ifT rfl ?_
          refine Runs.step (seenAt rfl rfl) ?_
          refine Runs.step (seenAt rfl (asSl_v _)) ?_
          refine Runs.step (seen (kb _ _)) ?_
          refine Runs.when (g35.same (g34.has b33) 0 0) ?_
          refine Runs.when (g35.same ((g33.trans g34).has b32) 0 0) ?_
          refine Runs.puts (((g33.trans g34).trans g35).has b32) rfl fun H36 b36 u36 => ?_
          have n34_36 := (n34.grow g35).upda (Av.of_own o34 (g33.has b32).lt) u36
          have n35_36 := n35.upda (Av.of_own o35 ((g33.trans g34).has b32).lt) u36
          have n35b_36 := n35b.upda (Av.of_own o35b ((g33.trans g34).has b32).lt) u36
          have b33_36 := AH.has.updr ((g34.trans g35).has b33) (Nat.ne_of_gt (Nat.lt_of_lt_of_le (b32).lt (Nat.le_refl _))) u36
          refine Runs.puts b33_36 rfl fun H37 b37 u37 => ?_
          have n34_37 := n34_36.upda (Av.of_own o34 (b33).lt) u37
          have n35_37 := n35_36.upda (Av.of_own o35 (g34.has b33).lt) u37
          have n35b_37 := n35b_36.upda (Av.of_own o35b (g34.has b33).lt) u37
          have b36_37 := AH.has.updr b36 (Nat.ne_of_lt (Nat.lt_of_lt_of_le (b32).lt (Nat.le_refl _))) u37
          refine Runs.step (AH.has.rd b37 1 rfl (asSl_v _)) ?_
          obtain ⟨s38, H38, e38, n38, g38, o38⟩ := ken (n2.grow (((((((((((((((((((((((g5.trans g7).trans g9).trans g11).trans g13).trans g15).trans g17).trans g19).trans g21).trans g23).trans g24).trans g25).trans g26).updr (Nat.le_trans ((((((((((((g5.trans g7).trans g9).trans g11).trans g13).trans g15).trans g17).trans g19).trans g21).trans g23).trans g24).trans g25)).size (Nat.le_refl _)) u27).trans g28).trans g29).trans g30).updr (Nat.le_trans ((((((((((((((g5.trans g7).trans g9).trans g11).trans g13).trans g15).trans g17).trans g19).trans g21).trans g23).trans g24).trans g25).trans g26).updr (Nat.le_trans ((((((((((((g5.trans g7).trans g9).trans g11).trans g13).trans g15).trans g17).trans g19).trans g21).trans g23).trans g24).trans g25)).size (Nat.le_refl _)) u27)).size (Nat.le_refl _)) u31).trans g32).trans g33).trans g34).trans g35).updr (Nat.le_trans ((((((((((((((((((g5.trans g7).trans g9).trans g11).trans g13).trans g15).trans g17).trans g19).trans g21).trans g23).trans g24).trans g25).trans g26).updr (Nat.le_trans ((((((((((((g5.trans g7).trans g9).trans g11).trans g13).trans g15).trans g17).trans g19).trans g21).trans g23).trans g24).trans g25)).size (Nat.le_refl _)) u27).trans g28).trans g29).trans g30).updr (Nat.le_trans ((((((((((((((g5.trans g7).trans g9).trans g11).trans g13).trans g15).trans g17).trans g19).trans g21).trans g23).trans g24).trans g25).trans g26).updr (Nat.le_trans ((((((((((((g5.trans g7).trans g9).trans g11).trans g13).trans g15).trans g17).trans g19).trans g21).trans g23).trans g24).trans g25)).size (Nat.le_refl _)) u27)).size (Nat.le_refl _)) u31)).size (Nat.le_refl _)) u36).updr (Nat.le_trans (((((((((((((((((((g5.trans g7).trans g9).trans g11).trans g13).trans g15).trans g17).trans g19).trans g21).trans g23).trans g24).trans g25).trans g26).updr (Nat.le_trans ((((((((((((g5.trans g7).trans g9).trans g11).trans g13).trans g15).trans g17).trans g19).trans g21).trans g23).trans g24).trans g25)).size (Nat.le_refl _)) u27).trans g28).trans g29).trans g30).updr (Nat.le_trans ((((((((((((((g5.trans g7).trans g9).trans g11).trans g13).trans g15).trans g17).trans g19).trans g21).trans g23).trans g24).trans g25).trans g26).updr (Nat.le_trans ((((((((((((g5.trans g7).trans g9).trans g11).trans g13).trans g15).trans g17).trans g19).trans g21).trans g23).trans g24).trans g25)).size (Nat.le_refl _)) u27)).size (Nat.le_refl _)) u31).trans g32)).size (Nat.le_refl _)) u37)) n35b_37
          refine Runs.step e38 ?_
          refine Runs.step rfl ?_
          refine Runs.step (seen (asSl_v _)) ?_
          refine Runs.step (seen (kb _ _)) ?_
          obtain ⟨s39, H39, e39, n39, g39, o39⟩ := kmd n38 (n1.grow ((((((((((((((((((((((((g5.trans g7).trans g9).trans g11).trans g13).trans g15).trans g17).trans g19).trans g21).trans g23).trans g24).trans g25).trans g26).updr (Nat.le_trans ((((((((((((g5.trans g7).trans g9).trans g11).trans g13).trans g15).trans g17).trans g19).trans g21).trans g23).trans g24).trans g25)).size (Nat.le_refl _)) u27).trans g28).trans g29).trans g30).updr (Nat.le_trans ((((((((((((((g5.trans g7).trans g9).trans g11).trans g13).trans g15).trans g17).trans g19).trans g21).trans g23).trans g24).trans g25).trans g26).updr (Nat.le_trans ((((((((((((g5.trans g7).trans g9).trans g11).trans g13).trans g15).trans g17).trans g19).trans g21).trans g23).trans g24).trans g25)).size (Nat.le_refl _)) u27)).size (Nat.le_refl _)) u31).trans g32).trans g33).trans g34).trans g35).updr (Nat.le_trans ((((((((((((((((((g5.trans g7).trans g9).trans g11).trans g13).trans g15).trans g17).trans g19).trans g21).trans g23).trans g24).trans g25).trans g26).updr (Nat.le_trans ((((((((((((g5.trans g7).trans g9).trans g11).trans g13).trans g15).trans g17).trans g19).trans g21).trans g23).trans g24).trans g25)).size (Nat.le_refl _)) u27).trans g28).trans g29).trans g30).updr (Nat.le_trans ((((((((((((((g5.trans g7).trans g9).trans g11).trans g13).trans g15).trans g17).trans g19).trans g21).trans g23).trans g24).trans g25).trans g26).updr (Nat.le_trans ((((((((((((g5.trans g7).trans g9).trans g11).trans g13).trans g15).trans g17).trans g19).trans g21).trans g23).trans g24).trans g25)).size (Nat.le_refl _)) u27)).size (Nat.le_refl _)) u31)).size (Nat.le_refl _)) u36).updr (Nat.le_trans (((((((((((((((((((g5.trans g7).trans g9).trans g11).trans g13).trans g15).trans g17).trans g19).trans g21).trans g23).trans g24).trans g25).trans g26).updr (Nat.le_trans ((((((((((((g5.trans g7).trans g9).trans g11).trans g13).trans g15).trans g17).trans g19).trans g21).trans g23).trans g24).trans g25)).size (Nat.le_refl _)) u27).trans g28).trans g29).trans g30).updr (Nat.le_trans ((((((((((((((g5.trans g7).trans g9).trans g11).trans g13).trans g15).trans g17).trans g19).trans g21).trans g23).trans g24).trans g25).trans g26).updr (Nat.le_trans ((((((((((((g5.trans g7).trans g9).trans g11).trans g13).trans g15).trans g17).trans g19).trans g21).trans g23).trans g24).trans g25)).size (Nat.le_refl _)) u27)).size (Nat.le_refl _)) u31).trans g32)).size (Nat.le_refl _)) u37).trans g38))
          refine Runs.step e39 ?_
          refine Runs.step rfl ?_
          refine Runs.step (seen (asSl_v _)) ?_
          refine Runs.step (seen (kb _ _)) ?_
          cases e
          cases good
          exact Runs.ret ⟨s39, rfl, n39, (((((((((((((((((((((((((g5.trans g7).trans g9).trans g11).trans g13).trans g15).trans g17).trans g19).trans g21).trans g23).trans g24).trans g25).trans g26).updr (Nat.le_trans ((((((((((((g5.trans g7).trans g9).trans g11).trans g13).trans g15).trans g17).trans g19).trans g21).trans g23).trans g24).trans g25)).size (Nat.le_refl _)) u27).trans g28).trans g29).trans g30).updr (Nat.le_trans ((((((((((((((g5.trans g7).trans g9).trans g11).trans g13).trans g15).trans g17).trans g19).trans g21).trans g23).trans g24).trans g25).trans g26).updr (Nat.le_trans ((((((((((((g5.trans g7).trans g9).trans g11).trans g13).trans g15).trans g17).trans g19).trans g21).trans g23).trans g24).trans g25)).size (Nat.le_refl _)) u27)).size (Nat.le_refl _)) u31).trans g32).trans g33).trans g34).trans g35).updr (Nat.le_trans ((((((((((((((((((g5.trans g7).trans g9).trans g11).trans g13).trans g15).trans g17).trans g19).trans g21).trans g23).trans g24).trans g25).trans g26).updr (Nat.le_trans ((((((((((((g5.trans g7).trans g9).trans g11).trans g13).trans g15).trans g17).trans g19).trans g21).trans g23).trans g24).trans g25)).size (Nat.le_refl _)) u27).trans g28).trans g29).trans g30).updr (Nat.le_trans ((((((((((((((g5.trans g7).trans g9).trans g11).trans g13).trans g15).trans g17).trans g19).trans g21).trans g23).trans g24).trans g25).trans g26).updr (Nat.le_trans ((((((((((((g5.trans g7).trans g9).trans g11).trans g13).trans g15).trans g17).trans g19).trans g21).trans g23).trans g24).trans g25)).size (Nat.le_refl _)) u27)).size (Nat.le_refl _)) u31)).size (Nat.le_refl _)) u36).updr (Nat.le_trans (((((((((((((((((((g5.trans g7).trans g9).trans g11).trans g13).trans g15).trans g17).trans g19).trans g21).trans g23).trans g24).trans g25).trans g26).updr (Nat.le_trans ((((((((((((g5.trans g7).trans g9).trans g11).trans g13).trans g15).trans g17).trans g19).trans g21).trans g23).trans g24).trans g25)).size (Nat.le_refl _)) u27).trans g28).trans g29).trans g30).updr (Nat.le_trans ((((((((((((((g5.trans g7).trans g9).trans g11).trans g13).trans g15).trans g17).trans g19).trans g21).trans g23).trans g24).trans g25).trans g26).updr (Nat.le_trans ((((((((((((g5.trans g7).trans g9).trans g11).trans g13).trans g15).trans g17).trans g19).trans g21).trans g23).trans g24).trans g25)).size (Nat.le_refl _)) u27)).size (Nat.le_refl _)) u31).trans g32)).size (Nat.le_refl _)) u37).trans g38).trans g39), (o39.of_le ((((((((((((((((((((((((g5.trans g7).trans g9).trans g11).trans g13).trans g15).trans g17).trans g19).trans g21).trans g23).trans g24).trans g25).trans g26).updr (Nat.le_trans ((((((((((((g5.trans g7).trans g9).trans g11).trans g13).trans g15).trans g17).trans g19).trans g21).trans g23).trans g24).trans g25)).size (Nat.le_refl _)) u27).trans g28).trans g29).trans g30).updr (Nat.le_trans ((((((((((((((g5.trans g7).trans g9).trans g11).trans g13).trans g15).trans g17).trans g19).trans g21).trans g23).trans g24).trans g25).trans g26).updr (Nat.le_trans ((((((((((((g5.trans g7).trans g9).trans g11).trans g13).trans g15).trans g17).trans g19).trans g21).trans g23).trans g24).trans g25)).size (Nat.le_refl _)) u27)).size (Nat.le_refl _)) u31).trans g32).trans g33).trans g34).trans g35).updr (Nat.le_trans ((((((((((((((((((g5.trans g7).trans g9).trans g11).trans g13).trans g15).trans g17).trans g19).trans g21).trans g23).trans g24).trans g25).trans g26).updr (Nat.le_trans ((((((((((((g5.trans g7).trans g9).trans g11).trans g13).trans g15).trans g17).trans g19).trans g21).trans g23).trans g24).trans g25)).size (Nat.le_refl _)) u27).trans g28).trans g29).trans g30).updr (Nat.le_trans ((((((((((((((g5.trans g7).trans g9).trans g11).trans g13).trans g15).trans g17).trans g19).trans g21).trans g23).trans g24).trans g25).trans g26).updr (Nat.le_trans ((((((((((((g5.trans g7).trans g9).trans g11).trans g13).trans g15).trans g17).trans g19).trans g21).trans g23).trans g24).trans g25)).size (Nat.le_refl _)) u27)).size (Nat.le_refl _)) u31)).size (Nat.le_refl _)) u36).updr (Nat.le_trans (((((((((((((((((((g5.trans g7).trans g9).trans g11).trans g13).trans g15).trans g17).trans g19).trans g21).trans g23).trans g24).trans g25).trans g26).updr (Nat.le_trans ((((((((((((g5.trans g7).trans g9).trans g11).trans g13).trans g15).trans g17).trans g19).trans g21).trans g23).trans g24).trans g25)).size (Nat.le_refl _)) u27).trans g28).trans g29).trans g30).updr (Nat.le_trans ((((((((((((((g5.trans g7).trans g9).trans g11).trans g13).trans g15).trans g17).trans g19).trans g21).trans g23).trans g24).trans g25).trans g26).updr (Nat.le_trans ((((((((((((g5.trans g7).trans g9).trans g11).trans g13).trans g15).trans g17).trans g19).trans g21).trans g23).trans g24).trans g25)).size (Nat.le_refl _)) u27)).size (Nat.le_refl _)) u31).trans g32)).size (Nat.le_refl _)) u37).trans g38))⟩
theorem kbe9 {s : kh7} {r : khs} (it : Iter kme s r) : kq1 r s := Iter.ind (fun s o e good => by
 cases s with
 | fn x1 x2 x3 x4 => exact @k1b _ _ x1 x2 x3 x4 e good
 | no => exact True.intro
 ) it
inductive knu
 | fn (x1 : List Nat) (x2 : List Nat) (x3 : List Nat) (x4 : List Nat)
 | p3 (x1 : List Nat) (x2 : List Nat) (x3 : List Nat) (x4 : List Nat) (x5 : List (List Nat)) (a6 : Int)
abbrev kko := List Nat × Int
noncomputable def kbdb (x1 : List Nat) (x2 : List Nat) (x3 : List Nat) (x4 : List Nat) : Option (knu ⊕ kko) :=
 some (.inl (.p3 x1 x2 x3 x4 [x1, x2, x3, x4] 0))
noncomputable def kg3 (x1 : List Nat) (x2 : List Nat) (x3 : List Nat) (x4 : List Nat) (x5 : List (List Nat)) (a6 : Int) : Option (knu ⊕ kko) :=
 cond (decide (a6 < 4)) ((atL x5 a6).bind fun y8 => cond (!(rt y8)) (some (.inr ([], 1))) ((atL x5 a6).bind fun y11 => cond (decide ((List.length y11 : Int) > 8)) (some (.inr ([], 1))) (some (.inl (.p3 x1 x2 x3 x4 x5 (IntKind.wrap .i64 (a6 + 1))))))) ((u64P 2).bind fun p8 => cond (decide ((cmpN x2 (digs B p8)) < 0)) (some (.inr ([], 1))) (cond (decide ((cmpN x4 (digs B p8)) < 0)) (some (.inr ([], 1))) (cond (decide ((cmpN x1 x2) ≥ 0)) (some (.inr ([], 1))) (cond (decide ((cmpN x3 x4) ≥ 0)) (some (.inr ([], 1))) (cond (!decide (((invN x2 x4).2) = 0)) (some (.inr ([], ((invN x2 x4).2)))) (some (.inr ((addN x1 ((mulN x2 ((floorI (((kba (((ky ((fromI false x3).1) ((fromI false x3).2) ((fromI false x1).1) ((fromI false x1).2)).1)) ((ky ((fromI false x3).1) ((fromI false x3).2) ((fromI false x1).1) ((fromI false x1).2)).2.1) ((fromI false ((invN x2 x4).1)).1) ((fromI false ((invN x2 x4).1)).2)).1)) ((kba (((ky ((fromI false x3).1) ((fromI false x3).2) ((fromI false x1).1) ((fromI false x1).2)).1)) ((ky ((fromI false x3).1) ((fromI false x3).2) ((fromI false x1).1) ((fromI false x1).2)).2.1) ((fromI false ((invN x2 x4).1)).1) ((fromI false ((invN x2 x4).1)).2)).2.1) ((fromI false x4).1) ((fromI false x4).2)).2.2.2.1)).1)).1, 0))))))))
noncomputable def kh0 : knu → Option (knu ⊕ kko)
 | .fn x1 x2 x3 x4 => kbdb x1 x2 x3 x4
 | .p3 x1 x2 x3 x4 x5 a6 => kg3 x1 x2 x3 x4 x5 a6
end Go.Ab

/- squeezed -/
set_option linter.unusedVariables false
set_option linter.unusedSimpArgs false
set_option maxRecDepth 10000
namespace Go.Ab
open Go.Proofs Go.Num
def CrtOk (x1 x2 x3 x4 : List Nat) : Prop :=
 (rt x1 = true ∧ x1.length ≤ 8) ∧ (rt x2 = true ∧ x2.length ≤ 8) ∧ (rt x3 = true ∧ x3.length ≤ 8) ∧ (rt x4 = true ∧ x4.length ≤ 8) ∧ 2 ≤ num B x2 ∧ 2 ≤ num B x4 ∧ num B x1 < num B x2 ∧ num B x3 < num B x4
def kxp (x1 x2 x3 x4 : List Nat) (r : List Nat × Int) : Prop :=
 (r.2 ≠ 0 → r.1 = []) ∧
 (CrtOk x1 x2 x3 x4 → Nat.gcd (num B x4) (num B x2 % num B x4) = 1 → r.2 = 0) ∧
 (r.2 = 0 → ∃ X, r = (digs B X, 0) ∧ CrtOk x1 x2 x3 x4 ∧ X < num B x2 * num B x4 ∧ X % num B x2 = num B x1 ∧ X % num B x4 = num B x3)
theorem k3j {a b m n w k : Nat} (hm : w * m % n = 1) (hb : b < n) (hk : ((b : Int) - (a : Int)) * (w : Int) % (n : Int) = (k : Int)) : (a + m * k) % n = b := by
 have hn : (n : Int) ≠ 0 := by omega
 have e1 : ((w : Int) * (m : Int)) % (n : Int) = 1 := by
  rw [← Int.natCast_mul, ← Int.natCast_emod, hm]
  rfl
 have e2 : ((m : Int) * (k : Int)) % (n : Int) = ((b : Int) - (a : Int)) % (n : Int) := by
  rw [← hk, Int.mul_emod, Int.emod_emod_of_dvd _ (Int.dvd_refl _), ← Int.mul_emod]
  have : (m : Int) * (((b : Int) - (a : Int)) * (w : Int)) = ((b : Int) - (a : Int)) * ((w : Int) * (m : Int)) := by
   rw [Int.mul_left_comm, Int.mul_comm (m : Int)]
  rw [this, Int.mul_emod, e1, Int.mul_one, Int.emod_emod_of_dvd _ (Int.dvd_refl _)]
 have e3 : ((a : Int) + (m : Int) * (k : Int)) % (n : Int) = (b : Int) := by
  rw [Int.add_emod, e2, ← Int.add_emod, show (a : Int) + ((b : Int) - (a : Int)) = (b : Int) from by omega]
  exact Int.emod_eq_of_lt (by omega) (by omega)
 have e4 : (((a + m * k) % n : Nat) : Int) = (b : Int) := by
  rw [Int.natCast_emod, Int.natCast_add, Int.natCast_mul]
  exact e3
 omega
theorem pow8 {xs : List Nat} (h : ∀ x ∈ xs, x < B) (hl : xs.length ≤ 8) : num B xs < B ^ 8 := by
 have h1 := num_lt B1 h
 have h2 : B ^ xs.length ≤ B ^ 8 := Nat.pow_le_pow_right B1 hl
 omega
theorem B16 : B ^ 8 * B ^ 8 * 2 ≤ B ^ 64 := by
 rw [← Nat.pow_add]
 have h1 : B ^ 16 * B ≤ B ^ 64 := by
  rw [← Nat.pow_succ]
  exact Nat.pow_le_pow_right B1 (by decide)
 have h2 : B ^ 16 * 2 ≤ B ^ 16 * B := Nat.mul_le_mul_left _ B2
 exact Nat.le_trans h2 h1
theorem k3o {a b w n : Nat} (ha : a < B ^ 8) (hb : b < B ^ 8) (hw : w < B ^ 8) (hn : n < B ^ 8) (hn0 : 0 < n) : ∃ k : Nat, k < n ∧ ((b : Int) - (a : Int)) * (w : Int) % (n : Int) = (k : Int) ∧
  (floorI (((kba (((ky ((fromI false (digs B b)).1) ((fromI false (digs B b)).2) ((fromI false (digs B a)).1) ((fromI false (digs B a)).2)).1)) ((ky ((fromI false (digs B b)).1) ((fromI false (digs B b)).2) ((fromI false (digs B a)).1) ((fromI false (digs B a)).2)).2.1) ((fromI false (digs B w)).1) ((fromI false (digs B w)).2)).1)) ((kba (((ky ((fromI false (digs B b)).1) ((fromI false (digs B b)).2) ((fromI false (digs B a)).1) ((fromI false (digs B a)).2)).1)) ((ky ((fromI false (digs B b)).1) ((fromI false (digs B b)).2) ((fromI false (digs B a)).1) ((fromI false (digs B a)).2)).2.1) ((fromI false (digs B w)).1) ((fromI false (digs B w)).2)).2.1) ((fromI false (digs B n)).1) ((fromI false (digs B n)).2)).2.2.2.1 = digs B k := by
 have b16 := B16
 have p8 : 1 ≤ B ^ 8 := Nat.pow_pos B1
 have p16 : B ^ 8 * 1 ≤ B ^ 8 * B ^ 8 := Nat.mul_le_mul_left _ p8
 have f : ∀ {x : Nat}, x < B ^ 8 → fromI false (digs B x) = intD (x : Int) := fun {x} hx => by rw [kco (by omega)]; rfl
 have hd : ((b : Int) - (a : Int)).natAbs < B ^ 8 := by omega
 have hp : (((b : Int) - (a : Int)) * (w : Int)).natAbs < B ^ 64 := by
  rw [Int.natAbs_mul, Int.natAbs_natCast]
  have := Nat.mul_lt_mul_of_lt_of_lt hd hw
  omega
 have h0 := Int.emod_nonneg (((b : Int) - (a : Int)) * (w : Int)) (show (n : Int) ≠ 0 by omega)
 have h1 := Int.emod_lt_of_pos (((b : Int) - (a : Int)) * (w : Int)) (show 0 < (n : Int) by omega)
 obtain ⟨k, hk⟩ : ∃ k : Nat, ((b : Int) - (a : Int)) * (w : Int) % (n : Int) = (k : Int) := ⟨_, (Int.toNat_of_nonneg h0).symm⟩
 refine ⟨k, by omega, hk, ?_⟩
 rw [f hb, f ha, f hw, f hn, kyx (by rw [Int.natAbs_natCast]; omega) (by rw [Int.natAbs_natCast]; omega), if_pos (by omega)]
 dsimp only
 rw [ku8 (by omega) (by rw [Int.natAbs_natCast]; omega), if_pos hp]
 dsimp only
 rw [kxs hp (by rw [Int.natAbs_natCast]; omega) (by omega), hk]
 dsimp only
 rw [knr]
end Go.Ab

/- squeezed -/
set_option linter.unusedVariables false
set_option linter.unusedSimpArgs false
set_option maxRecDepth 10000
namespace Go.Ab
open Go.Proofs Go.Num
theorem crt_1 {x : List Nat} : kdq x = false ↔ rt x = true ∧ x.length ≤ 8 := by
 unfold kdq
 cases rt x with
 | false => simp
 | true =>
  simp only [Bool.not_true, cond_false, true_and, decide_eq_false_iff_not]
  omega
theorem kpv {xs ys : List Nat} (hx : rt xs = true) (hy : rt ys = true) : cmpN xs ys = cmp (num B xs) (num B ys) := by
 unfold cmpN
 rw [if_pos ⟨hx, hy⟩]
theorem kbbj : num B (digs B 2) = 2 := kf B2 2
theorem crt_2 {x : List Nat} (h : rt x = true) : kgz x = false ↔ 2 ≤ num B x := by
 unfold kgz
 rw [kpv h (by decide), decide_eq_false_iff_not, cmp_le, show num B [1] = 1 from by simp [num]]
 omega
theorem ki9 {xs ys : List Nat} (hx : rt xs = true) (hy : rt ys = true) : decide (cmpN xs ys ≥ 0) = false ↔ num B xs < num B ys := by
 rw [kpv hx hy, decide_eq_false_iff_not, cmp_ge]
 omega
theorem kss : u64P 2 = some 2 := kbc (n := 2) (by decide)
theorem rt_two : rt (digs B 2) = true := kn (by have := kot; omega)
theorem kog {xs : List Nat} (hx : rt xs = true) : decide (cmpN xs (digs B 2) < 0) = false ↔ 2 ≤ num B xs := by
 rw [kpv hx rt_two, decide_eq_false_iff_not, cmp_lt, kbbj]
 omega
theorem k80 {x1 x2 x3 x4 : List Nat} (h : ¬ CrtOk x1 x2 x3 x4) : Iter kme (.fn x1 x2 x3 x4) ([], 1) := by
 refine .done ?_
 show kfe _ _ _ _ = _
 unfold kfe
 refine kbw (fun _ => rfl) fun k1 => ?_
 refine kbw (fun _ => rfl) fun k3 => ?_
 refine kbw (fun _ => rfl) fun k2 => ?_
 refine kbw (fun _ => rfl) fun k4 => ?_
 refine kbw (fun _ => rfl) fun k5 => ?_
 refine kbw (fun _ => rfl) fun k6 => ?_
 refine kbw (fun _ => rfl) fun k7 => ?_
 refine kbw (fun _ => rfl) fun k8 => ?_
 exfalso
 have g1 := crt_1.1 k1
 have g2 := crt_1.1 k2
 have g3 := crt_1.1 k3
 have g4 := crt_1.1 k4
 exact h ⟨g1, g2, g3, g4, (crt_2 g2.1).1 k5, (crt_2 g4.1).1 k6, (ki9 g1.1 g2.1).1 k7, (ki9 g3.1 g4.1).1 k8⟩
theorem kno {x1 x2 x3 x4 : List Nat} {L : List (List Nat)} {r : kko} (hL : L.length = 4) {i : Nat} (hi : i < 4) (bad : ¬ (rt (L[i]'(by omega)) = true ∧ (L[i]'(by omega)).length ≤ 8) → r = ([], 1))
  (K : (rt (L[i]'(by omega)) = true ∧ (L[i]'(by omega)).length ≤ 8) → Iter kh0 (.p3 x1 x2 x3 x4 L ((i + 1 : Nat) : Int)) r) : Iter kh0 (.p3 x1 x2 x3 x4 L (i : Int)) r := by
 have ha : atL L (i : Int) = some (L[i]'(by omega)) := by
  unfold atL
  rw [if_pos (by omega), Int.toNat_natCast, List.getElem?_eq_getElem]
 generalize L[i]'(by omega) = y at *
 have unf : ∀ o, cond (!(rt y)) (some (.inr ([], 1))) (cond (decide ((List.length y : Int) > 8)) (some (.inr ([], 1))) (some (.inl (.p3 x1 x2 x3 x4 L ((i + 1 : Nat) : Int))))) = o → kh0 (.p3 x1 x2 x3 x4 L (i : Int)) = o := by
  intro o ho
  show kg3 _ _ _ _ _ _ = _
  unfold kg3
  rw [condT (by rw [decide_eq_true_eq]; omega), ha, Option.bind_some, Option.bind_some, kw (by omega)]
  exact ho
 by_cases g : rt y = true ∧ y.length ≤ 8
 ·refine .next (unf _ ?_) (K g)
  rw [g.1, condF (by rfl), condF (by rw [decide_eq_false_iff_not]; omega)]
 ·refine .done (unf _ ?_)
  rw [bad g]
  cases hr : rt y with
  | false => rfl
  | true =>
   have : ¬ y.length ≤ 8 := fun h => g ⟨hr, h⟩
   rw [condF (by rfl), condT (by rw [decide_eq_true_eq]; omega)]
theorem ktn {x1 x2 x3 x4 : List Nat} {r : kko} (bad : ¬ ((rt x1 = true ∧ x1.length ≤ 8) ∧ (rt x2 = true ∧ x2.length ≤ 8) ∧ (rt x3 = true ∧ x3.length ≤ 8) ∧ (rt x4 = true ∧ x4.length ≤ 8)) → r = ([], 1))
  (K : ((rt x1 = true ∧ x1.length ≤ 8) ∧ (rt x2 = true ∧ x2.length ≤ 8) ∧ (rt x3 = true ∧ x3.length ≤ 8) ∧ (rt x4 = true ∧ x4.length ≤ 8)) → kg3 x1 x2 x3 x4 [x1, x2, x3, x4] 4 = some (.inr r)) : Iter kh0 (.fn x1 x2 x3 x4) r := by
 refine .next (s' := .p3 x1 x2 x3 x4 [x1, x2, x3, x4] ((0 : Nat) : Int)) rfl ?_
 refine kno rfl (by omega) (fun h => bad fun g => h g.1) fun g1 => ?_
 refine kno rfl (by omega) (fun h => bad fun g => h g.2.1) fun g2 => ?_
 refine kno rfl (by omega) (fun h => bad fun g => h g.2.2.1) fun g3 => ?_
 refine kno rfl (by omega) (fun h => bad fun g => h g.2.2.2) fun g4 => ?_
 exact .done (K ⟨g1, g2, g3, g4⟩)
theorem crt_fn {x1 x2 x3 x4 : List Nat} (l1 : ∀ x ∈ x1, x < B) (l2 : ∀ x ∈ x2, x < B) (l3 : ∀ x ∈ x3, x < B) (l4 : ∀ x ∈ x4, x < B) :
  ∃ r, Iter kme (.fn x1 x2 x3 x4) r ∧ Iter kh0 (.fn x1 x2 x3 x4) r ∧ kxp x1 x2 x3 x4 r := by
 by_cases G : CrtOk x1 x2 x3 x4
 ·obtain ⟨g1, g2, g3, g4, hm, hn, ha, hb⟩ := id G
  have k1 := crt_1.2 g1
  have k2 := crt_1.2 g2
  have k3 := crt_1.2 g3
  have k4 := crt_1.2 g4
  have k5 := (crt_2 g2.1).2 hm
  have k6 := (crt_2 g4.1).2 hn
  have k7 := (ki9 g1.1 g2.1).2 ha
  have k8 := (ki9 g3.1 g4.1).2 hb
  have q5 := (kog g2.1).2 hm
  have q6 := (kog g4.1).2 hn
  have S := (ktd l2 l4).2.2.1 ⟨g2.1, g4.1, hn⟩
  have four : decide ((4 : Int) < 4) = false := rfl
  by_cases hg : Nat.gcd (num B x4) (num B x2 % num B x4) = 1
  ·obtain ⟨w, hw, hr, hwm⟩ := S.2 hg
   have a8 := pow8 l1 g1.2
   have m8 := pow8 l2 g2.2
   have b8 := pow8 l3 g3.2
   have n8 := pow8 l4 g4.2
   obtain ⟨k, hk, hke, hfl⟩ := k3o (a := num B x1) (b := num B x3) (w := w) (n := num B x4) a8 b8 (by omega) n8 (by omega)
   rw [kdo B2 l1 (rt_iff.1 g1.1).2, kdo B2 l3 (rt_iff.1 g3.1).2, kdo B2 l4 (rt_iff.1 g4.1).2] at hfl
   have b16 := B16
   have p16 : B ^ 8 * 1 ≤ B ^ 8 * B ^ 8 := Nat.mul_le_mul_left _ (Nat.pow_pos B1)
   have hprod : num B x2 * num B x4 < B ^ 8 * B ^ 8 := Nat.mul_lt_mul_of_lt_of_lt m8 n8
   have hX : num B x1 + num B x2 * k < num B x2 * num B x4 := by
    have : num B x2 * (k + 1) ≤ num B x2 * num B x4 := Nat.mul_le_mul_left _ hk
    rw [Nat.mul_add, Nat.mul_one] at this
    omega
   have em : mulN x2 (digs B k) = (digs B (num B x2 * k), 0) := by
    unfold mulN
    rw [if_pos ⟨g2.1, kn (by omega)⟩, kf B2, kip (by omega)]
   have ad1 : addN (digs B (num B x2 * k)) x1 = (digs B (num B x1 + num B x2 * k), 0) := by
    unfold addN
    rw [if_pos ⟨kn (by omega), g1.1⟩, kf B2, Nat.add_comm, kip (by omega)]
   have ad2 : addN x1 (digs B (num B x2 * k)) = (digs B (num B x1 + num B x2 * k), 0) := by
    unfold addN
    rw [if_pos ⟨g1.1, kn (by omega)⟩, kf B2, kip (by omega)]
   refine ⟨(digs B (num B x1 + num B x2 * k), 0), .done ?_, ktn (fun h => absurd ⟨g1, g2, g3, g4⟩ h) fun _ => ?_, fun h => absurd rfl h, fun _ _ => rfl, fun _ => ⟨_, rfl, G, hX, ?_, ?_⟩⟩
   ·show kfe _ _ _ _ = _
    unfold kfe
    rw [k1, k2, k3, k4, k5, k6, k7, k8]
    simp only [cond_false]
    rw [hr]
    dsimp only
    rw [condF (by rfl), hfl, em]
    dsimp only
    rw [ad1]
   ·unfold kg3
    rw [four, cond_false, kss, Option.bind_some, q5, q6, k7, k8]
    simp only [cond_false]
    rw [hr]
    dsimp only
    rw [condF (by rfl), hfl, em]
    dsimp only
    rw [ad2]
   ·rw [Nat.add_mul_mod_self_left, Nat.mod_eq_of_lt ha]
   ·exact k3j hwm hb hke
  ·have hr := S.1 hg
   refine ⟨([], 6), .done ?_, ktn (fun h => absurd ⟨g1, g2, g3, g4⟩ h) fun _ => ?_, fun _ => rfl, fun _ h => absurd h hg, fun h => by cases h⟩
   ·show kfe _ _ _ _ = _
    unfold kfe
    rw [k1, k2, k3, k4, k5, k6, k7, k8, hr]
    rfl
   ·unfold kg3
    rw [four, cond_false, kss, Option.bind_some, q5, q6, k7, k8, hr]
    rfl
 ·refine ⟨([], 1), k80 G, ktn (fun _ => rfl) fun g => ?_, fun _ => rfl, fun h => absurd h G, fun h => by cases h⟩
  obtain ⟨g1, g2, g3, g4⟩ := g
  unfold kg3
  rw [show decide ((4 : Int) < 4) = false from rfl, cond_false, kss, Option.bind_some]
  refine kbw (fun _ => rfl) fun k5 => ?_
  refine kbw (fun _ => rfl) fun k6 => ?_
  refine kbw (fun _ => rfl) fun k7 => ?_
  refine kbw (fun _ => rfl) fun k8 => ?_
  exact absurd ⟨g1, g2, g3, g4, (kog g2.1).1 k5, (kog g4.1).1 k6, (ki9 g1.1 g2.1).1 k7, (ki9 g3.1 g4.1).1 k8⟩ G
noncomputable def crtN (x1 x2 x3 x4 : List Nat) : List Nat × Int := by
 classical
 exact if h : (∀ x ∈ x1, x < B) ∧ (∀ x ∈ x2, x < B) ∧ (∀ x ∈ x3, x < B) ∧ (∀ x ∈ x4, x < B) then (crt_fn h.1 h.2.1 h.2.2.1 h.2.2.2).choose else ([], 0)
theorem kw4 {x1 x2 x3 x4 : List Nat} (l1 : ∀ x ∈ x1, x < B) (l2 : ∀ x ∈ x2, x < B) (l3 : ∀ x ∈ x3, x < B) (l4 : ∀ x ∈ x4, x < B) : Iter kme (.fn x1 x2 x3 x4) (crtN x1 x2 x3 x4) ∧ Iter kh0 (.fn x1 x2 x3 x4) (crtN x1 x2 x3 x4) ∧ kxp x1 x2 x3 x4 (crtN x1 x2 x3 x4) := by
 unfold crtN
 rw [dif_pos ⟨l1, l2, l3, l4⟩]
 exact (crt_fn l1 l2 l3 l4).choose_spec
theorem k9m {h : AH} {a b c d : Sl} {x1 x2 x3 x4 : List Nat} (n1 : Nats h a x1) (n2 : Nats h b x2) (n3 : Nats h c x3) (n4 : Nats h d x4) : Runs (go (.fn F.kod [a.v, b.v, c.v, d.v]) h) (kv0 h (crtN x1 x2 x3 x4)) := kbe9 (kw4 n1.lt n2.lt n3.lt n4.lt).1 n1 n2 n3 n4
end Go.Ab

/- squeezed -/
set_option linter.unusedVariables false
set_option linter.unusedSimpArgs false
namespace Go.Ab
variable {P : Program}
inductive All2 {α β : Type} (R : α → β → Prop) : List α → List β → Prop
 | nil : All2 R [] []
 | cons {a : α} {b : β} {ls : List α} {bs : List β} : R a b → All2 R ls bs → All2 R (a :: ls) (b :: bs)
section
variable {α β : Type} {R S : α → β → Prop}
theorem All2.imp (f : ∀ a b, R a b → S a b) {ls : List α} {bs : List β} (a : All2 R ls bs) : All2 S ls bs := by
 induction a with
 | nil => exact .nil
 | cons h _ ih => exact .cons (f _ _ h) ih
theorem All2.length {ls : List α} {bs : List β} (a : All2 R ls bs) : ls.length = bs.length := by
 induction a with
 | nil => rfl
 | cons h _ ih => simp [ih]
theorem All2.get {ls : List α} {bs : List β} (a : All2 R ls bs) : ∀ {i : Nat} {y : β}, bs[i]? = some y → ∃ x, ls[i]? = some x ∧ R x y := by
 induction a with
 | nil => intro i y h; simp at h
 | cons h _ ih =>
  intro i y hy
  cases i with
  | zero => cases hy; exact ⟨_, rfl, h⟩
  | succ i => exact ih hy
theorem All2.snoc {ls : List α} {bs : List β} (a : All2 R ls bs) {x : α} {y : β} (h : R x y) : All2 R (ls ++ [x]) (bs ++ [y]) := by
 induction a with
 | nil => exact .cons h .nil
 | cons h' _ ih => exact .cons h' ih
end
structure El (α : Type) where
 w : Nat
 pos : 0 < w
 has : AH → List AV → α → Prop
 av : Nat → List AV → α → Prop
 len : ∀ {h : AH} {cs : List AV} {a : α}, has h cs a → cs.length = w
 grow : ∀ {h h' : AH} {cs : List AV} {a : α}, Grow h h' → has h cs a → has h' cs a
 upd : ∀ {h h' : AH} {i : Nat} {cs : List AV} {a : α}, has h cs a → av i cs a → Upd h h' i → has h' cs a
 new : ∀ {h : AH} {i : Nat} {cs : List AV} {a : α}, has h cs a → h.blks.size ≤ i → av i cs a
def El.int (k : IntKind) : El Int where
 w := 1
 pos := by decide
 has _ cs n := cs = [.int k n]
 av _ _ _ := True
 len e := by rw [e]; rfl
 grow _ e := e
 upd e _ _ := e
 new _ _ := trivial
def El.bool : El Bool where
 w := 1
 pos := by decide
 has _ cs b := cs = [.bool b]
 av _ _ _ := True
 len e := by rw [e]; rfl
 grow _ e := e
 upd e _ _ := e
 new _ _ := trivial
theorem Sl.vs_inj {s t : Sl} (h : [Sl.v s] = [Sl.v t]) : s = t := by
 cases s; cases t
 simp only [Sl.v, List.cons.injEq, AV.slice.injEq, and_true] at h
 obtain ⟨rfl, rfl, rfl⟩ := h
 rfl
def El.nats : El (List Nat) where
 w := 1
 pos := by decide
 has h cs xs := ∃ s, cs = [Sl.v s] ∧ Nats h s xs
 av i cs xs := ∃ s, cs = [Sl.v s] ∧ Av s i xs
 len := fun ⟨s, e, _⟩ => by rw [e]; rfl
 grow g := fun ⟨s, e, n⟩ => ⟨s, e, n.grow g⟩
 upd := fun ⟨s, e, n⟩ ⟨t, e', a⟩ u => by
  rw [e] at e'
  cases Sl.vs_inj e'
  exact ⟨s, e, n.upda a u⟩
 new := fun ⟨s, e, n⟩ hi => ⟨s, e, Av.of_base n hi⟩
theorem kqm {w : Nat} : ∀ {rows : List (List AV)}, (∀ r ∈ rows, r.length = w) → rows.flatten.length = rows.length * w
 | [], _ => by simp
 | r :: rows, h => by
  rw [List.flatten_cons, List.length_append, kqm (fun q hq => h q (by simp [hq])), h r (by simp), List.length_cons, Nat.add_mul]
  omega
theorem kxk {w : Nat} : ∀ {rows : List (List AV)}, (∀ r ∈ rows, r.length = w) → ∀ {i : Nat} {r : List AV} {k : Nat} {v : AV}, rows[i]? = some r → r[k]? = some v → rows.flatten[i * w + k]? = some v
 | [], _, i, r, k, v, hi, _ => by simp at hi
 | q :: rows, h, 0, r, k, v, hi, hk => by
  cases hi
  rw [List.flatten_cons, List.getElem?_append_left (by have := (List.getElem?_eq_some_iff.1 hk).1; omega)]
  simpa using hk
 | q :: rows, h, i + 1, r, k, v, hi, hk => by
  have := kxk (fun q hq => h q (by simp [hq])) (show rows[i]? = some r from hi) hk
  rw [List.flatten_cons, List.getElem?_append_right (by rw [h q (by simp), Nat.add_mul]; omega), h q (by simp), show (i + 1) * w + k - w = i * w + k from by rw [Nat.add_mul]; omega]
  exact this
theorem All2.rows {α : Type} {E : El α} {h : AH} {rows : List (List AV)} {xs : List α} (a : All2 (E.has h) rows xs) : ∀ r ∈ rows, r.length = E.w := by
 induction a with
 | nil => simp
 | cons h' _ ih =>
  intro r hr
  rcases List.mem_cons.1 hr with rfl | hr
  ·exact E.len h'
  ·exact ih r hr
structure Seq {α : Type} (E : El α) (h : AH) (s : Sl) (xs : List α) : Prop where
 rows : ∃ rows, Cells h s E.w rows.flatten ∧ All2 (E.has h) rows xs
 len : s.len = xs.length
 short : xs.length ≤ 9223372036854775807
theorem Seq.grow {α : Type} {E : El α} {h h' : AH} {s : Sl} {xs : List α} (n : Seq E h s xs) (g : Grow h h') : Seq E h' s xs := by
 obtain ⟨⟨rows, c, a⟩, l, sh⟩ := n
 exact ⟨⟨rows, c.grow g, a.imp fun _ _ => E.grow g⟩, l, sh⟩
theorem Seq.nil {α : Type} (E : El α) (h : AH) : Seq E h ⟨none, 0, .is 0⟩ [] := ⟨⟨[], Cells.nil h _, .nil⟩, rfl, by simp⟩
def atX {α : Type} (xs : List α) (i : Int) : Option α := if 0 ≤ i then xs[i.toNat]? else none
theorem kbcc {α : Type} {xs : List α} {i : Int} {y : α} (q : atX xs i = some y) : ∃ j : Nat, i = (j : Int) ∧ xs[j]? = some y := by
 unfold atX at q
 split at q
 ·exact ⟨i.toNat, by omega, q⟩
 ·cases q
theorem kqt {α : Type} {xs : List α} {i : Nat} (h : i < xs.length) : atX xs (i : Int) = some xs[i] := by
 unfold atX
 rw [if_pos (by omega), Int.toNat_natCast, List.getElem?_eq_getElem h]
structure Lies (h : AH) (r : Ref) (cs : List AV) : Prop where
 at' : ∀ k v, cs[k]? = some v → h.cell (r.add k) = some v
theorem Lies.rd {A : Type} {f : AV → Option A} {h h' : AH} {r : Ref} {cs : List AV} (l : Lies h r cs) (g : Grow h h') (k : Nat) {v : AV} {x : A} (hk : cs[k]? = some v) (hf : f v = some x) : (h'.cell (r.add k)).bind f = some x := by
 rw [g.cell_some (l.at' k v hk)]
 exact hf
theorem Lies.rd0 {A : Type} {f : AV → Option A} {h h' : AH} {r : Ref} {cs : List AV} (l : Lies h r cs) (g : Grow h h') {v : AV} {x : A} (hk : cs[0]? = some v) (hf : f v = some x) : (h'.cell r).bind f = some x := by
 have := l.rd g 0 hk hf
 rwa [Ref.add_zero] at this
theorem Seq.at {α : Type} {E : El α} {h : AH} {s : Sl} {xs : List α} (n : Seq E h s xs) {i : Int} {y : α} (q : atX xs i = some y) : ∃ (r : Ref) (cs : List AV), idx s.ref xs.length i E.w = some r ∧ E.has h cs y ∧ Lies h r cs := by
 obtain ⟨⟨rows, c, a⟩, l, sh⟩ := n
 obtain ⟨j, rfl, hj⟩ := kbcc q
 obtain ⟨cs, e1, e2⟩ := a.get hj
 have hjl := (List.getElem?_eq_some_iff.1 hj).1
 have hr := a.rows
 have key : ∀ k v, cs[k]? = some v → ∃ r, s.ref = some r ∧ h.cell (r.add (j * E.w + k)) = some v := fun k v hk => c.get _ _ (kxk hr e1 hk)
 cases hs : s.ref with
 | none =>
  exfalso
  cases cs with
  | nil => have := E.len e2; have := E.pos; simp at *; omega
  | cons v vs =>
   obtain ⟨r, e, _⟩ := key 0 v rfl
   rw [hs] at e
   cases e
 | some r =>
  refine ⟨r.add (j * E.w), cs, ?_, e2, ⟨fun k v hk => ?_⟩⟩
  ·rw [kfl _ _ _ _ (by omega) (by omega)]
   simp
  ·obtain ⟨r', e, e'⟩ := key k v hk
   rw [hs] at e
   cases e
   rw [Ref.add_add]
   exact e'
structure GL {α : Type} (E : El α) (elem : TypeId) (h : AH) (s : Sl) (i : Nat) (xs : List α) : Prop where
 rows : ∃ rows, Cells h s E.w rows.flatten ∧ All2 (fun cs a => E.has h cs a ∧ E.av i cs a) rows xs
 len : s.len = xs.length
 own : s.cap = .is s.len ∨ (s.ref = some (.new i 0) ∧ s.cap = .opn E.w ∧ ∃ bs, h.has i bs elem)
 loc : ∀ r, s.ref = some r → ∃ o, r = .new i o
theorem GL.nil {α : Type} (E : El α) (elem : TypeId) (h : AH) (i : Nat) : GL E elem h ⟨none, 0, .is 0⟩ i [] :=
 ⟨⟨[], Cells.nil h _, .nil⟩, rfl, .inl rfl, fun r hr => by cases hr⟩
theorem GL.one {α : Type} {E : El α} {elem e : TypeId} {h : AH} {i : Nat} {cs : List AV} {x : α} (b : h.has i cs e) (c : E.has h cs x) (a : E.av i cs x) : GL E elem h ⟨some (.new i 0), 1, .is 1⟩ i [x] :=
 ⟨⟨[cs], Cells.of_has (by simpa using b) (by simp [E.len c]), .cons ⟨c, a⟩ .nil⟩, rfl, .inl rfl, fun r hr => by cases hr; exact ⟨_, rfl⟩⟩
theorem GL.grow {α : Type} {E : El α} {elem : TypeId} {h h' : AH} {s : Sl} {i : Nat} {xs : List α} (v : GL E elem h s i xs) (g : Grow h h') : GL E elem h' s i xs := by
 obtain ⟨⟨rows, c, a⟩, l, o, lo⟩ := v
 exact ⟨⟨rows, c.grow g, a.imp fun _ _ p => ⟨E.grow g p.1, p.2⟩⟩, l, o.imp id fun ⟨e1, e2, bs, b⟩ => ⟨e1, e2, bs, g.has b⟩, lo⟩
theorem GL.seq {α : Type} {E : El α} {elem : TypeId} {h : AH} {s : Sl} {i : Nat} {xs : List α} (v : GL E elem h s i xs) (hs : xs.length ≤ 9223372036854775807) : Seq E h s xs := by
 obtain ⟨⟨rows, c, a⟩, l, o, lo⟩ := v
 exact ⟨⟨rows, c, a.imp fun _ _ p => p.1⟩, l, hs⟩
theorem GL.own_of {α : Type} {E : El α} {elem : TypeId} {h h0 : AH} {s : Sl} {i : Nat} {xs : List α} (v : GL E elem h s i xs) (hi : h0.blks.size ≤ i) : Own h0 s := fun r hr => by
 obtain ⟨o, rfl⟩ := v.loc r hr
 exact ⟨i, o, rfl, hi⟩
theorem AH.kill_Upd (h : AH) (i : Nat) : Upd h (h.kill (some (.new i 0))) i :=
 ⟨rfl, by simp [AH.kill], fun j hj _ => by
  show (h.blks.setIfInBounds i .dead)[j]? = _
  rw [Array.getElem?_setIfInBounds_ne (fun x => hj x.symm)]⟩
theorem GL.push {α : Type} {E : El α} {elem : TypeId} {h : AH} {s : Sl} {i : Nat} {xs : List α} (v : GL E elem h s i xs) {cs : List AV} {x : α} (c : E.has h cs x) (a : E.av i cs x) (hg : growOk P (xs.length + 1) elem E.w = true) :
  ∃ s' h', kbd P s cs 1 elem E.w h = some (s'.v, h') ∧ GL E elem h' s' h.blks.size (xs ++ [x]) ∧ Upd h h' i := by
 obtain ⟨⟨rows, cc, aa⟩, l, o, lo⟩ := v
 rw [← l] at hg
 have fl : (s.len + 1) * E.w = (rows.flatten ++ cs).length := by rw [Nat.add_mul, cc.len, List.length_append, E.len c, Nat.one_mul]
 have fr : rows.flatten ++ cs = (rows ++ [cs]).flatten := by simp
 rcases o with e | ⟨e1, e2, bs, b⟩
 ·rw [kmh e (by omega) hg cc]
  refine ⟨_, _, rfl, ⟨⟨rows ++ [cs], ⟨rfl, by rw [← fr]; exact fl, fun j w hw => ⟨_, rfl, ?_⟩⟩, ?_⟩, by simp [l], .inr ⟨rfl, rfl, rows.flatten ++ cs, AH.has_push _ _ _⟩, fun r hr => by cases hr; exact ⟨_, rfl⟩⟩, (Grow.push _ _).toUpd i⟩
  ·rw [fr]
   simpa using hw
  ·refine All2.snoc (aa.imp fun _ _ p => ?_) ⟨E.grow (Grow.push _ _) c, E.new c (Nat.le_refl _)⟩
   exact ⟨E.grow (Grow.push _ _) p.1, E.new p.1 (Nat.le_refl _)⟩
 ·have hap : kbd P s cs 1 elem E.w h = some (Sl.v ⟨some (.new h.blks.size 0), s.len + 1, .opn E.w⟩, (h.kill s.ref).push (.cells (rows.flatten ++ cs) elem)) := by
   unfold kbd
   simp only [e2]
   rw [show Nat.beq 1 0 = false from rfl, show Nat.beq E.w E.w = true from Nat.beq_refl _]
   simp only [cond_false, hg, Bool.and_true, cond_true, e1, show h.blks[i]? = _ from b]
   have hgets := cc.gets
   rw [e1] at hgets
   simp only [hgets, Option.bind_some]
   rw [show Nat.beq elem elem = true from Nat.beq_refl _, cond_true]
   have : (AH.kill h (some (Ref.new i 0))).blks.size = h.blks.size := by simp [AH.kill]
   simp [AH.next, this, Sl.v]
   rfl
  rw [hap, e1]
  have sz : (h.kill (some (.new i 0))).blks.size = h.blks.size := by simp [AH.kill]
  have u : Upd h (h.kill (some (.new i 0))) i := AH.kill_Upd h i
  refine ⟨_, _, rfl, ⟨⟨rows ++ [cs], ⟨rfl, by rw [← fr]; exact fl, fun j w hw => ⟨_, rfl, ?_⟩⟩, ?_⟩, by simp [l], .inr ⟨rfl, rfl, rows.flatten ++ cs, ?_⟩, fun r hr => by cases hr; exact ⟨_, rfl⟩⟩, u.trans ((Grow.push _ _).toUpd i)⟩
  ·rw [fr, ← sz]
   simpa using hw
  ·refine All2.snoc (aa.imp fun _ _ p => ?_) ⟨E.grow (Grow.push _ _) (E.upd c a u), E.new c (Nat.le_refl _)⟩
   exact ⟨E.grow (Grow.push _ _) (E.upd p.1 p.2 u), E.new p.1 (Nat.le_refl _)⟩
  ·have := AH.has_push (h.kill (some (.new i 0))) (rows.flatten ++ cs) elem
   rw [sz] at this
   exact this
theorem kbdz {h : AH} {i n : Nat} {cs : List AV} {e elem : TypeId} (b : h.has i cs e) (hl : n * P.cellsOf elem = cs.length) : kcb P elem (Sl.v ⟨some (.new i 0), n, .is n⟩) h = some (cs, n) :=
 kkf (Cells.of_has b hl)
section
variable {Q : AV → AH → Prop}
theorem Runs.putAt {h : AH} {i o : Nat} {cs cs' vs : List AV} {e : TypeId} {K : AH → Option (AV × AH)} (b : h.has i cs e) (hl : o + vs.length ≤ cs.length) (hc : cs.take o ++ vs ++ cs.drop (o + vs.length) = cs') (H : ∀ h', h'.has i cs' e → Upd h h' i → Runs (K h') Q) : Runs ((h.puts ((Ref.new i 0).add o) vs).bind K) Q := by
 subst hc
 rw [Ref.add_new, Nat.zero_add, b.puts hl]
 exact H _ (AH.has_upd b _ e) (AH.upd_Upd h i _ e)
end
end Go.Ab

/- squeezed -/
set_option linter.unusedVariables false
set_option linter.unusedSimpArgs false
namespace Go.Ab
def overW (xs ys : List Nat) : Option (List Nat) := if ys.length ≤ xs.length then some (ys ++ xs.drop ys.length) else none
theorem kzs {xs ys zs : List Nat} (q : overW xs ys = some zs) : zs.length = xs.length := by
 unfold overW at q
 split at q
 ·cases q
  simp
  omega
 ·cases q
theorem Vec.copyV {h : AH} {s t : Sl} {i : Nat} {xs ys zs : List Nat} (v : Vec h t i xs) (m : Nats h s ys) (q : overW xs ys = some zs) : ∃ h', copyH s t 1 h = some h' ∧ Vec h' t i zs ∧ Upd h h' i := by
 unfold overW at q
 split at q
 ·rename_i hl
  cases q
  have hf : (⟨some (.new i 0), ys.length, .is ys.length⟩ : Sl).fit 1 := Nat.le_refl _
  have w : Win ⟨some (.new i 0), ys.length, .is ys.length⟩ i 0 ys.length := ⟨rfl, rfl, hf⟩
  obtain ⟨h', e, v', u⟩ := v.copyW (zs := ys ++ xs.drop ys.length) w m (by unfold setW; rw [if_pos ⟨by omega, rfl⟩]; simp)
  refine ⟨h', ?_, v', u⟩
  rw [← e]
  unfold copyH
  rw [m.len, v.is, Nat.min_self, Nat.min_eq_left hl]
 ·cases q
end Go.Ab

/- squeezed -/
set_option linter.unusedVariables false
set_option linter.unusedSimpArgs false
namespace Go.Ab
variable {P : Program}
def UpdO (h h' : AH) : Option Nat → Prop
 | none => Grow h h'
 | some k => Upd h h' k
def AvO (s : Sl) (xs : List Nat) : Option Nat → Prop
 | none => True
 | some k => Av s k xs
def LeO (n : Nat) : Option Nat → Prop
 | none => True
 | some k => n ≤ k
def LtO (n : Nat) : Option Nat → Prop
 | none => True
 | some k => k < n
def NeO (j : Nat) : Option Nat → Prop
 | none => True
 | some k => j ≠ k
def NeOO : Option Nat → Option Nat → Prop
 | none, _ => True
 | some j, i => NeO j i
theorem LeO.trans {m n : Nat} (h : m ≤ n) : ∀ {i : Option Nat}, LeO n i → LeO m i
 | none, _ => trivial
 | some k, l => Nat.le_trans h l
theorem NeO.of_lt {j n : Nat} : ∀ {i : Option Nat}, LtO n i → n ≤ j → NeO j i
 | none, _, _ => trivial
 | some k, l, h => by
  have : k < n := l
  show j ≠ k
  omega
theorem NeO.of_le {j n : Nat} : ∀ {i : Option Nat}, LeO n i → j < n → NeO j i
 | none, _, _ => trivial
 | some k, l, h => by
  have : n ≤ k := l
  show j ≠ k
  omega
theorem NeOO.of_lt {n : Nat} : ∀ {j i : Option Nat}, LeO n j → LtO n i → NeOO j i
 | none, _, _, _ => trivial
 | some j, _, l, h => NeO.of_lt h l
theorem NeOO.of_le {n : Nat} : ∀ {j i : Option Nat}, LtO n j → LeO n i → NeOO j i
 | none, _, _, _ => trivial
 | some j, _, l, h => NeO.of_le h l
theorem AvO.of_base {h0 : AH} {s : Sl} {xs : List Nat} (n : Nats h0 s xs) : ∀ {i : Option Nat}, LeO h0.blks.size i → AvO s xs i
 | none, _ => trivial
 | some k, l => Av.of_base n l
theorem AvO.of_own {h1 : AH} {s : Sl} {xs : List Nat} (o : Own h1 s) : ∀ {i : Option Nat}, LtO h1.blks.size i → AvO s xs i
 | none, _ => trivial
 | some k, l => Av.of_own o l
theorem AvO.nil (i : Option Nat) (s : Sl) : AvO s [] i := by
 cases i
 ·trivial
 ·exact .inl rfl
theorem UpdO.trans {h1 h2 h3 : AH} : ∀ {i : Option Nat}, UpdO h1 h2 i → UpdO h2 h3 i → UpdO h1 h3 i
 | none, u, w => Grow.trans u w
 | some k, u, w => Upd.trans u w
theorem Grow.updo {h h1 h2 : AH} (g : Grow h h1) : ∀ {i : Option Nat}, LeO h.blks.size i → UpdO h1 h2 i → Grow h h2
 | none, _, u => g.trans u
 | some k, l, u => g.updr l u
theorem AH.has.updo {h1 h2 : AH} {j : Nat} {cs : List AV} {e : TypeId} (b : h1.has j cs e) : ∀ {i : Option Nat}, NeO j i → UpdO h1 h2 i → h2.has j cs e
 | none, _, u => u.has b
 | some k, l, u => AH.has.updr b l u
theorem Vec.updo {h1 h2 : AH} {s : Sl} {j : Nat} {xs : List Nat} (b : Vec h1 s j xs) : ∀ {i : Option Nat}, NeO j i → UpdO h1 h2 i → Vec h2 s j xs
 | none, _, u => b.grow u
 | some k, l, u => b.updr l u
theorem Nats.updo {h1 h2 : AH} {s : Sl} {xs : List Nat} (b : Nats h1 s xs) : ∀ {i : Option Nat}, AvO s xs i → UpdO h1 h2 i → Nats h2 s xs
 | none, _, u => b.grow u
 | some k, l, u => b.upda l u
def GO {α : Type} (E : El α) (elem : TypeId) (h : AH) (s : Sl) (i : Option Nat) (xs : List α) : Prop :=
 xs.length ≤ 9223372036854775807 ∧ match i with
 | none => s = ⟨none, 0, .is 0⟩ ∧ xs = []
 | some k => GL E elem h s k xs ∧ k < h.blks.size
def AvE {α : Type} (E : El α) (cs : List AV) (x : α) : Option Nat → Prop
 | none => True
 | some k => E.av k cs x
variable {α : Type} {E : El α} {elem : TypeId}
theorem GO.none (E : El α) (elem : TypeId) (h : AH) : GO E elem h ⟨none, 0, .is 0⟩ none [] := ⟨by simp, rfl, rfl⟩
theorem GO.one {h : AH} {i : Nat} {cs : List AV} {x : α} {e : TypeId} (b : h.has i cs e) (c : E.has h cs x) (a : E.av i cs x) : GO E elem h ⟨some (.new i 0), 1, .is 1⟩ (some i) [x] :=
 ⟨by simp, GL.one b c a, b.lt⟩
theorem GO.grow {h h' : AH} {s : Sl} : ∀ {i : Option Nat} {xs : List α}, GO E elem h s i xs → Grow h h' → GO E elem h' s i xs
 | .none, _, v, g => v
 | .some k, _, ⟨l, v, lt⟩, g => ⟨l, v.grow g, Nat.lt_of_lt_of_le lt g.size⟩
theorem GO.lt {h : AH} {s : Sl} : ∀ {i : Option Nat} {xs : List α}, GO E elem h s i xs → LtO h.blks.size i
 | .none, _, _ => trivial
 | .some k, _, v => v.2.2
theorem GO.seq {h : AH} {s : Sl} : ∀ {i : Option Nat} {xs : List α}, GO E elem h s i xs → Seq E h s xs
 | .none, xs, ⟨_, e1, e2⟩ => by
  subst e1; subst e2
  exact Seq.nil E h
 | .some k, _, v => v.2.1.seq v.1
theorem GO.len {h : AH} {s : Sl} {i : Option Nat} {xs : List α} (v : GO E elem h s i xs) : s.len = xs.length := v.seq.len
theorem GO.own {h h0 : AH} {s : Sl} : ∀ {i : Option Nat} {xs : List α}, GO E elem h s i xs → LeO h0.blks.size i → Own h0 s
 | .none, _, v, _ => fun r hr => by rw [v.2.1] at hr; cases hr
 | .some k, _, v, l => v.2.1.own_of l
theorem GL.lt {h : AH} {s : Sl} {i : Nat} {x : α} {xs : List α} (v : GL E elem h s i (xs ++ [x])) : i < h.blks.size := by
 obtain ⟨⟨rows, c, a⟩, l, o, lo⟩ := v
 have hr : rows.length = xs.length + 1 := by have := All2.length a; simpa using this
 have hf := kqm (w := E.w) (rows := rows) (All2.rows (a.imp fun _ _ p => p.1))
 have hp := E.pos
 have h0 : 0 < rows.flatten.length := by
  rw [hf, hr]
  exact Nat.mul_pos (by omega) hp
 obtain ⟨r, e1, e2⟩ := c.get 0 _ (List.getElem?_eq_getElem h0)
 obtain ⟨k, rfl⟩ := lo r e1
 have := AH.cell_inn e2
 rw [Ref.add_new] at this
 exact this
theorem k5v {n m : Nat} (h : growOk P n elem m = true) : n ≤ 9223372036854775807 := by
 unfold growOk at h
 rw [Bool.and_eq_true, decide_eq_true_eq] at h
 have := h.1.2
 simp only [kb2] at this
 omega
theorem GO.push {h : AH} {s : Sl} {i : Option Nat} {xs : List α} (v : GO E elem h s i xs) {cs : List AV} {x : α} (c : E.has h cs x) (a : AvE E cs x i) (hg : growOk P (xs.length + 1) elem E.w = true) :
  ∃ s' h', kbd P s cs 1 elem E.w h = some (s'.v, h') ∧ GO E elem h' s' (some h.blks.size) (xs ++ [x]) ∧ UpdO h h' i := by
 have hl := k5v hg
 cases i with
 | none =>
  obtain ⟨_, e1, e2⟩ := v
  subst e1; subst e2
  obtain ⟨s', h', e, v', u⟩ := (GL.nil E elem h h.blks.size).push c (E.new c (Nat.le_refl _)) hg
  exact ⟨s', h', e, ⟨by simp, v', v'.lt⟩, (Grow.refl h).updr (Nat.le_refl _) u⟩
 | some k =>
  obtain ⟨s', h', e, v', u⟩ := v.2.1.push c a hg
  exact ⟨s', h', e, ⟨by simpa using hl, v', v'.lt⟩, u⟩
theorem Seq.lit {h : AH} {i n : Nat} {rows : List (List AV)} {e : TypeId} {xs : List α} (b : h.has i rows.flatten e) (a : All2 (E.has h) rows xs) (hn : xs.length = n) (hs : n ≤ 9223372036854775807 := by decide) : Seq E h ⟨some (.new i 0), n, .is n⟩ xs := by
 refine ⟨⟨rows, Cells.of_has b ?_, a⟩, hn.symm, by omega⟩
 rw [kqm a.rows, All2.length a, hn]
theorem AvE.nats {s : Sl} {xs : List Nat} : ∀ {i : Option Nat}, AvO s xs i → AvE El.nats [s.v] xs i
 | .none, _ => trivial
 | .some k, a => ⟨s, rfl, a⟩
theorem AvE.int {k : IntKind} {n : Int} {cs : List AV} : ∀ {i : Option Nat}, AvE (El.int k) cs n i
 | .none => trivial
 | .some _ => trivial
theorem AvE.bool {b : Bool} {cs : List AV} : ∀ {i : Option Nat}, AvE El.bool cs b i
 | .none => trivial
 | .some _ => trivial
end Go.Ab

/- squeezed -/
set_option linter.unusedVariables false
set_option linter.unusedSimpArgs false
namespace Go.Num
def half (n : Nat) : Nat := (n + 1) / 2
theorem k3b {n : Nat} (ho : n % 2 = 1) (e : Nat) : (2 ^ e * half n ^ e) % n = 1 % n := by
 rw [← Nat.mul_pow, show 2 * half n = n + 1 from by unfold half; omega, Nat.pow_mod, Nat.add_mod_left, ← Nat.pow_mod, Nat.one_pow]
def redc (n e z : Nat) : Nat := z * half n ^ e % n
theorem kgo (n e z : Nat) : redc n e (z % n) = redc n e z := by
 unfold redc
 rw [Nat.mod_mul_mod]
theorem knx {n : Nat} (ho : n % 2 = 1) (e x : Nat) : redc n e (x * 2 ^ e) = x % n := by
 unfold redc
 rw [Nat.mul_assoc, Nat.mul_mod, k3b ho, ← Nat.mul_mod, Nat.mul_one]
theorem kv2 {n e r z : Nat} (ho : n % 2 = 1) (hr : r < n) (h : (r * 2 ^ e) % n = z % n) : r = redc n e z := by
 rw [← kgo, ← h, kgo, knx ho, Nat.mod_eq_of_lt hr]
theorem kbeb {n e x y : Nat} (ho : n % 2 = 1) : redc n e (x * 2 ^ e % n * (y * 2 ^ e % n)) = x * y * 2 ^ e % n := by
 rw [← kgo, ← Nat.mul_mod, kgo, show x * 2 ^ e * (y * 2 ^ e) = x * y * 2 ^ e * 2 ^ e from by simp only [Nat.mul_assoc, Nat.mul_comm, Nat.mul_left_comm], knx ho]
theorem k9r {n e a : Nat} (ho : n % 2 = 1) : redc n e (a * (2 ^ e * 2 ^ e % n)) = a * 2 ^ e % n := by
 rw [← kgo, Nat.mul_mod_mod, kgo, ← Nat.mul_assoc, knx ho]
theorem k7a {n e x : Nat} (ho : n % 2 = 1) : redc n e (x * 2 ^ e % n * 1) = x % n := by
 rw [Nat.mul_one, kgo, knx ho]
theorem k6f {b T Y x N v : Nat} (hb : 0 < b) (hv : (N * v + 1) % b = 0) : (T + Y * x + N * ((T + Y * x) % b * v % b)) % b = 0 := by
 generalize T + Y * x = U
 have e1 : (U + N * (U % b * v % b)) % b = (U + N * (U * v)) % b := by
  rw [Nat.add_mod, Nat.mul_mod_mod_aux N U v b, ← Nat.add_mod]
 rw [e1, show U + N * (U * v) = U * (N * v + 1) from by rw [Nat.mul_add, Nat.mul_one, Nat.add_comm]; simp only [Nat.mul_comm, Nat.mul_left_comm], Nat.mul_mod, hv, Nat.mul_zero, Nat.zero_mod]
where
 Nat.mul_mod_mod_aux (N U v b : Nat) : N * (U % b * v % b) % b = N * (U * v) % b := by
  rw [Nat.mul_mod_mod, ← Nat.mul_mod_mod, Nat.mod_mul_mod, Nat.mul_mod_mod]
theorem k8b {b T Y x N m : Nat} (hT : T < Y + N) (hx : x < b) (hm : m < b) : (T + Y * x + N * m) / b < Y + N := by
 have hb : 0 < b := by omega
 rw [Nat.div_lt_iff_lt_mul hb]
 have h1 : Y * x ≤ Y * (b - 1) := Nat.mul_le_mul_left _ (by omega)
 have h2 : N * m ≤ N * (b - 1) := Nat.mul_le_mul_left _ (by omega)
 obtain ⟨c, rfl⟩ : ∃ c, b = c + 1 := ⟨b - 1, by omega⟩
 rw [Nat.add_mul, Nat.mul_add Y, Nat.mul_add N, Nat.mul_one, Nat.mul_one]
 simp only [Nat.add_sub_cancel] at h1 h2
 omega
theorem k2p {b p T Y x X N M m T' : Nat} (h : T * p = X * Y + N * M) (e : T + Y * x + N * m = T' * b) : T' * (p * b) = (X + p * x) * Y + N * (M + p * m) := by
 have : T' * (p * b) = (T' * b) * p := by simp only [Nat.mul_assoc, Nat.mul_comm, Nat.mul_left_comm]
 rw [this, ← e, Nat.add_mul, Nat.add_mul, h, Nat.add_mul, Nat.mul_add]
 simp only [Nat.mul_assoc, Nat.mul_comm, Nat.mul_left_comm]
 omega
theorem newton {n x p : Nat} {w : Nat} (hw : w = p * p) (h : (n * x) % p = 1 % p) : ∀ y : Int, (y % (w : Int)) = ((x : Int) * (2 - (n : Int) * x)) % (w : Int) → ((n : Int) * y) % (w : Int) = 1 % (w : Int) := by
 intro y hy
 have h1 : ((n : Int) * x) % (p : Int) = 1 % (p : Int) := by exact_mod_cast h
 have h2 : (p : Int) ∣ ((n : Int) * x - 1) := (Int.emod_emod_of_dvd_aux h1)
 obtain ⟨c, hc⟩ := h2
 have h3 : (n : Int) * x = 1 + p * c := by omega
 rw [← Int.mul_emod_aux (n : Int) y (w : Int), hy, Int.mul_emod_aux]
 have e : (n : Int) * ((x : Int) * (2 - (n : Int) * x)) = 1 + (w : Int) * (-(c * c)) := by
  rw [← Int.mul_assoc, h3, hw]
  push_cast
  have : (1 + (p : Int) * c) * (2 - (1 + p * c)) = 1 - (p * c) * (p * c) := by
   generalize (p : Int) * c = t
   rw [Int.mul_sub, Int.add_mul 1 t (1 + t), Int.mul_add, Int.mul_add]
   omega
  rw [this, Int.mul_neg, Int.sub_eq_add_neg]
  congr 2
  simp only [Int.mul_assoc, Int.mul_comm, Int.mul_left_comm]
 rw [e, Int.add_mul_emod_self_left]
where
 Int.emod_emod_of_dvd_aux {a p : Int} (h : a % p = 1 % p) : p ∣ a - 1 := Int.dvd_of_emod_eq_zero (by rw [Int.sub_emod, h, Int.sub_self, Int.zero_emod])
 Int.mul_emod_aux (a y w : Int) : a * (y % w) % w = a * y % w := by rw [Int.mul_emod, Int.emod_emod, ← Int.mul_emod]
end Go.Num

/- squeezed -/
set_option linter.unusedVariables false
set_option linter.unusedSimpArgs false
set_option maxRecDepth 10000
namespace Go.Ab
open Go.Proofs Go.Num
theorem kw9 {h : AH} {s : Sl} {xs : List Nat} (n : Nats h s xs) : ∀ (k : Nat), k ≤ xs.length → (∀ i, k ≤ i → (hi : i < xs.length) → xs[i] = 0) →
  ∃ s', go (.pt F.kgq Td.kn1 [(0, s.v), (3, .int .i64 (k : Int))]) h = some (s'.v, h) ∧ Nats h s' (digs B (num B xs)) ∧ ∀ h0, Own h0 s → Own h0 s'
 | 0, hk, hz => by
  rw [kun]
  obtain ⟨s', e1, e2, e3⟩ := n.cut (l := 0) (n := 0) (Nat.le_refl _) hk
  have := kiq B2 n.lt hz hk (.inl rfl)
  simp at e1
  simp only [Int.natCast_zero, gt_iff_lt, Int.lt_irrefl, decide_false, cond_false, e1, Option.bind_some]
  refine ⟨s', rfl, ?_, e3⟩
  rw [← this]
  simpa using e2
 | k + 1, hk, hz => by
  rw [kun]
  obtain ⟨r, e1, e2⟩ := n.at (i := k) (by omega)
  have hs := n.short
  rw [kkl (by omega)]
  rw [show (decide (((k + 1 : Nat) : Int) > 0)) = true from by rw [decide_eq_true_eq]; omega]
  simp only [cond_true, e1, e2, Option.bind_some, kb]
  by_cases hx : xs[k] = 0
  ·rw [hx, show (decide (((0 : Nat) : Int) = 0)) = true from rfl, cond_true]
   refine kw9 n k (by omega) fun i hi hil => ?_
   rcases Nat.lt_or_ge k i with h1 | h1
   ·exact hz i (by omega) hil
   ·have : i = k := by omega
    subst this
    exact hx
  ·obtain ⟨s', e3, e4, e5⟩ := n.cut (l := 0) (n := k + 1) (by omega) hk
   have ht := kiq B2 n.lt hz hk (.inr ⟨by omega, by simpa using hx⟩)
   rw [show (decide (((xs[k] : Nat) : Int) = 0)) = false from by rw [decide_eq_false_iff_not]; omega]
   simp only [cond_false]
   rw [show cutSl s 0 ((k + 1 : Nat) : Int) 1 = some s' from e3]
   refine ⟨s', rfl, ?_, e5⟩
   rw [← ht]
   simpa using e4
theorem k5g {h : AH} {s : Sl} {xs : List Nat} (n : Nats h s xs) : ∃ s', go (.fn F.kgq [s.v]) h = some (s'.v, h) ∧ Nats h s' (digs B (num B xs)) ∧ ∀ h0, Own h0 s → Own h0 s' := by
 rw [k1a, n.len]
 exact kw9 n xs.length (Nat.le_refl _) fun i h1 h2 => by omega
end Go.Ab

/- squeezed -/
set_option linter.unusedVariables false
set_option linter.unusedSimpArgs false
set_option maxRecDepth 10000
namespace Go.Ab
open Go.Proofs Go.Num
inductive kfj
 | fn (x1 : List Nat) (x2 : List Nat) (a3 : Int)
 | p2 (x1 : List Nat) (x2 : List Nat) (a3 : Int) (a4 : Int) (a5 : Int) (a6 : Int)
abbrev kdu := List Nat
noncomputable def kqk (x1 : List Nat) (x2 : List Nat) (a3 : Int) : Option (kfj ⊕ kdu) :=
 some (.inl (.p2 x1 x2 a3 0 (List.length x1 : Int) 0))
noncomputable def kfy (x1 : List Nat) (x2 : List Nat) (a3 : Int) (a4 : Int) (a5 : Int) (a6 : Int) : Option (kfj ⊕ kdu) :=
 cond (decide (a6 < a5)) (cond (decide (a6 < (List.length x2 : Int))) ((atI x2 a6).bind fun y9 => (add64P ((mul64 ((y9 : Int)) a3).2) a4 0).bind fun p11 => (inI (List.length x1) a6).bind fun j12 => (add64P (((List.getD x1 j12 0 : Nat) : Int)) (p11.1) 0).bind fun p13 => (inI (List.length x1) a6).bind fun j14 => (u64P (p13.1)).bind fun w15 => some (.inl (.p2 (List.set x1 j14 w15) x2 a3 (IntKind.wrap .u64 ((IntKind.wrap .u64 (((mul64 ((y9 : Int)) a3).1) + (p11.2))) + (p13.2))) a5 (IntKind.wrap .i64 (a6 + 1))))) ((add64P 0 a4 0).bind fun p9 => (inI (List.length x1) a6).bind fun j10 => (add64P (((List.getD x1 j10 0 : Nat) : Int)) (p9.1) 0).bind fun p11 => (inI (List.length x1) a6).bind fun j12 => (u64P (p11.1)).bind fun w13 => some (.inl (.p2 (List.set x1 j12 w13) x2 a3 (IntKind.wrap .u64 ((IntKind.wrap .u64 (0 + (p9.2))) + (p11.2))) a5 (IntKind.wrap .i64 (a6 + 1)))))) (some (.inr x1))
noncomputable def kdk : kfj → Option (kfj ⊕ kdu)
 | .fn x1 x2 a3 => kqk x1 x2 a3
 | .p2 x1 x2 a3 a4 a5 a6 => kfy x1 x2 a3 a4 a5 a6
@[reducible] def ktm (h0 : AH) (a : Sl) (i : Nat) (r : kdu) (v : AV) (h' : AH) : Prop := v = .tup [] ∧ Vec h' a i r ∧ Upd h0 h' i
def kl2 (r : kdu) : kfj → Prop
 | .fn x1 x2 a3 => ∀ {h : AH} {a1 : Sl} {a2 : Sl} {i1 : Nat}, Vec h a1 i1 x1 → Nats h a2 x2 → Av a2 i1 x2 → Runs (go (.fn F.kc7 [a1.v, a2.v, .int .u64 a3]) h) (ktm h a1 i1 r)
 | .p2 x1 x2 a3 a4 a5 a6 => ∀ {h0 h : AH} {a1 : Sl} {a2 : Sl} {i1 : Nat}, Upd h0 h i1 → Vec h a1 i1 x1 → Nats h a2 x2 → Av a2 i1 x2 → Runs (go (.pt F.kc7 Td.kj6 [(0, a1.v), (1, a2.v), (2, .int .u64 a3), (6, .int .u64 a4), (12, .int .i64 a5), (13, .int .i64 a6)]) h) (ktm h0 a1 i1 r)
theorem kbd2 {r : kdu} {o : kfj ⊕ kdu} {x1 : List Nat} {x2 : List Nat} {a3 : Int} (e : kqk x1 x2 a3 = some o) (good : GoodS (kl2 r) r o) : kl2 r (.fn x1 x2 a3) := by
 intro h a1 a2 i1 v1 n2 av2_1
 rw [kbeg]
 unfold kqk at e
 rw [v1.nats.len]
 cases e
 exact good ((Grow.refl _).toUpd _) v1 n2 av2_1
theorem k7k {r : kdu} {o : kfj ⊕ kdu} {x1 : List Nat} {x2 : List Nat} {a3 : Int} {a4 : Int} {a5 : Int} {a6 : Int} (e : kfy x1 x2 a3 a4 a5 a6 = some o) (good : GoodS (kl2 r) r o) : kl2 r (.p2 x1 x2 a3 a4 a5 a6) := by
 intro h0 h a1 a2 i1 g0 v1 n2 av2_1
 rw [k8i]
 unfold kfy at e
 rw [v1.nats.len]
 rw [n2.len]
 refine Runs.cond (fun k7 => ?_) (fun k7 => ?_)
 ·replace e := (condT k7).symm.trans e
  refine Runs.cond (fun k8 => ?_) (fun k8 => ?_)
  ·replace e := (condT k8).symm.trans e
   obtain ⟨y9, q9, e⟩ := Option.bind_eq_some_iff.1 e
   obtain ⟨r9, j9, l9⟩ := n2.atI q9
   refine Runs.step j9 ?_
   refine Runs.step (rdc l9 (kb _ _)) ?_
   refine Runs.step (kr2 ((y9 : Int)) a3) ?_
   refine Runs.step rfl ?_
   refine Runs.step (seen (kb _ _)) ?_
   refine Runs.step (seen (kb _ _)) ?_
   obtain ⟨p11, q11, e⟩ := Option.bind_eq_some_iff.1 e
   refine Runs.step (kej q11) ?_
   refine Runs.step rfl ?_
   refine Runs.step (seen (kb _ _)) ?_
   refine Runs.step (seen (kb _ _)) ?_
   obtain ⟨j12, q12, e⟩ := Option.bind_eq_some_iff.1 e
   refine Runs.step (v1.idx rfl q12) ?_
   refine Runs.step (v1.rd rfl q12 (kb _ _)) ?_
   obtain ⟨p13, q13, e⟩ := Option.bind_eq_some_iff.1 e
   refine Runs.step (kej q13) ?_
   refine Runs.step rfl ?_
   refine Runs.step (seen (kb _ _)) ?_
   refine Runs.step (seen (kb _ _)) ?_
   obtain ⟨j14, q14, e⟩ := Option.bind_eq_some_iff.1 e
   refine Runs.step (v1.idx rfl q14) ?_
   obtain ⟨w15, z15, e⟩ := Option.bind_eq_some_iff.1 e
   refine Runs.vput v1 rfl q14 z15 fun H15 v15 u15 => ?_
   have n2_15 := n2.upda av2_1 u15
   cases e
   exact good (g0.trans u15) v15 n2_15 av2_1
  ·replace e := (condF k8).symm.trans e
   obtain ⟨p9, q9, e⟩ := Option.bind_eq_some_iff.1 e
   refine Runs.step (kej q9) ?_
   refine Runs.step rfl ?_
   refine Runs.step (seen (kb _ _)) ?_
   refine Runs.step (seen (kb _ _)) ?_
   obtain ⟨j10, q10, e⟩ := Option.bind_eq_some_iff.1 e
   refine Runs.step (v1.idx rfl q10) ?_
   refine Runs.step (v1.rd rfl q10 (kb _ _)) ?_
   obtain ⟨p11, q11, e⟩ := Option.bind_eq_some_iff.1 e
   refine Runs.step (kej q11) ?_
   refine Runs.step rfl ?_
   refine Runs.step (seen (kb _ _)) ?_
   refine Runs.step (seen (kb _ _)) ?_
   obtain ⟨j12, q12, e⟩ := Option.bind_eq_some_iff.1 e
   refine Runs.step (v1.idx rfl q12) ?_
   obtain ⟨w13, z13, e⟩ := Option.bind_eq_some_iff.1 e
   refine Runs.vput v1 rfl q12 z13 fun H13 v13 u13 => ?_
   have n2_13 := n2.upda av2_1 u13
   cases e
   exact good (g0.trans u13) v13 n2_13 av2_1
 ·replace e := (condF k7).symm.trans e
  cases e
  cases good
  exact Runs.ret ⟨rfl, v1, g0⟩
theorem k2g {s : kfj} {r : kdu} (it : Iter kdk s r) : kl2 r s := Iter.ind (fun s o e good => by
 cases s with
 | fn x1 x2 a3 => exact @kbd2 _ _ x1 x2 a3 e good
 | p2 x1 x2 a3 a4 a5 a6 => exact @k7k _ _ x1 x2 a3 a4 a5 a6 e good
 ) it
theorem kmj {h : AH} {a1 : Sl} {a2 : Sl} {i1 : Nat} {x1 : List Nat} {x2 : List Nat} {a3 : Int} (v1 : Vec h a1 i1 x1) (n2 : Nats h a2 x2) (av2_1 : Av a2 i1 x2) {r : kdu} (q : runP kdk (.fn x1 x2 a3) = some r) : Runs (go (.fn F.kc7 [a1.v, a2.v, .int .u64 a3]) h) (ktm h a1 i1 r) := k2g (kbz q) v1 n2 av2_1
end Go.Ab

/- squeezed -/
set_option linter.unusedVariables false
set_option linter.unusedSimpArgs false
set_option maxRecDepth 10000
namespace Go.Ab
open Go.Proofs Go.Num
def addMul : List Nat → List Nat → Nat → Nat → List Nat
 | [], _, _, _ => []
 | t :: ts, ys, a, c => (t + ys.headD 0 * a + c) % B :: addMul ts ys.tail a ((t + ys.headD 0 * a + c) / B)
theorem kjr : ∀ (ts ys : List Nat) (a c : Nat), (addMul ts ys a c).length = ts.length
 | [], _, _, _ => rfl
 | t :: ts, ys, a, c => by rw [addMul, List.length_cons, List.length_cons, kjr]
theorem knz : ∀ (ts ys : List Nat) (a c : Nat), ∀ x ∈ addMul ts ys a c, x < B
 | [], _, _, _, x, h => by cases h
 | t :: ts, ys, a, c, x, h => by
  rw [addMul] at h
  rcases List.mem_cons.1 h with rfl | h
  ·exact Nat.mod_lt _ (by decide)
  ·exact knz ts _ _ _ x h
theorem knk (b x : Nat) (xs : List Nat) : num b (x :: xs) = x + b * num b xs := rfl
theorem kkq (b : Nat) (ys : List Nat) : num b ys = ys.headD 0 + b * num b ys.tail := by
 cases ys with
 | nil => simp [num]
 | cons y ys => rfl
theorem krn : ∀ (ts ys : List Nat) (a c : Nat), num B (addMul ts ys a c) = (num B ts + num B ys * a + c) % B ^ ts.length
 | [], ys, a, c => by simp [addMul, num, Nat.mod_one]
 | t :: ts, ys, a, c => by
  rw [addMul, knk, krn ts, knk, kkq B ys, List.length_cons, Nat.pow_succ, Nat.mul_comm (B ^ ts.length) B, Nat.mod_mul]
  generalize ys.headD 0 = y
  generalize num B ys.tail = Y
  generalize num B ts = T
  have e : t + B * T + (y + B * Y) * a + c = (t + y * a + c) + B * (T + Y * a) := by
   rw [Nat.add_mul, Nat.mul_add, Nat.mul_assoc]
   omega
  rw [e, Nat.add_mul_mod_self_left, Nat.add_mul_div_left _ _ (show 0 < B from by decide)]
  congr 3
  omega
theorem k07 {t o c : Nat} (ho : o < 18446744073709551616) (hc : c < 18446744073709551616) (h : (o + t + c) / 18446744073709551616 < 18446744073709551616) :
  (o + (t % 18446744073709551616 + c + 0) % 18446744073709551616 + 0) % 18446744073709551616 = (o + t + c) % 18446744073709551616 ∧
  IntKind.wrap .u64 (IntKind.wrap .u64 (((t / 18446744073709551616 : Nat) : Int) + (((t % 18446744073709551616 + c + 0) / 18446744073709551616 : Nat) : Int)) + (((o + (t % 18446744073709551616 + c + 0) % 18446744073709551616 + 0) / 18446744073709551616 : Nat) : Int)) = (((o + t + c) / 18446744073709551616 : Nat) : Int) := by
 rw [wrapU, wrapU]
 omega
theorem kbci {o c : Nat} (ho : o < 18446744073709551616) (hc : c < 18446744073709551616) :
  (o + (0 + c + 0) % 18446744073709551616 + 0) % 18446744073709551616 = (o + c) % 18446744073709551616 ∧
  IntKind.wrap .u64 (IntKind.wrap .u64 (0 + (((0 + c + 0) / 18446744073709551616 : Nat) : Int)) + (((o + (0 + c + 0) % 18446744073709551616 + 0) / 18446744073709551616 : Nat) : Int)) = (((o + c) / 18446744073709551616 : Nat) : Int) := by
 rw [wrapU, wrapU]
 omega
theorem kpd {α : Type} (l : List α) (x y : α) (r : List α) {n : Nat} (h : n = l.length) : (l ++ x :: r).set n y = (l ++ [y]) ++ r := by
 subst h
 simp
theorem kvk {ys : List Nat} {a : Nat} (ha : a < B) (ly : ∀ y ∈ ys, y < B) : ∀ (ts l : List Nat) (c : Nat), (∀ t ∈ ts, t < B) → c < B → l.length + ts.length ≤ 8796093022208 →
  Iter kdk (.p2 (l ++ ts) ys (a : Int) (c : Int) ((l.length + ts.length : Nat) : Int) (l.length : Int)) (l ++ addMul ts (ys.drop l.length) a c)
 | [], l, c, _, _, _ => by
  refine .done ?_
  show kfy _ _ _ _ _ _ = _
  unfold kfy
  rw [condF (by rw [decide_eq_false_iff_not]; simp)]
  rfl
 | t :: ts, l, c, lt, hc, hn => by
  have ht := lt t (by simp)
  have hn' : l.length + ts.length + 1 ≤ 8796093022208 := by simpa [Nat.add_assoc] using hn
  have hj : l.length < (l ++ t :: ts).length := by simp
  have hg : List.getD (l ++ t :: ts) l.length 0 = t := by rw [kbj hj]; simp
  have rek := fun (c' : Nat) (hc' : c' < B) (x : Nat) => kvk ha ly ts (l ++ [x]) c' (fun t h => lt t (by simp [h])) hc' (by simp; omega)
  have key : ∀ (c' x : Nat), c' < B → kfy (l ++ t :: ts) ys (a : Int) (c : Int) ((l.length + (t :: ts).length : Nat) : Int) (l.length : Int) = some (.inl (.p2 ((l ++ [x]) ++ ts) ys (a : Int) (c' : Int) ((l.length + (t :: ts).length : Nat) : Int) ((l.length + 1 : Nat) : Int))) →
    x = (t + (ys.drop l.length).headD 0 * a + c) % B → c' = (t + (ys.drop l.length).headD 0 * a + c) / B → Iter kdk (.p2 (l ++ t :: ts) ys (a : Int) (c : Int) ((l.length + (t :: ts).length : Nat) : Int) (l.length : Int)) (l ++ addMul (t :: ts) (ys.drop l.length) a c) := fun c' x hc' h1 hx hcc => by
   refine .next h1 ?_
   have := rek c' hc' x
   have e1 : (l ++ [x]).length + ts.length = l.length + (t :: ts).length := by simp; omega
   have e2 : (l ++ [x]).length = l.length + 1 := by simp
   rw [e1, e2] at this
   rw [addMul, ← hx, ← hcc, List.tail_drop]
   simpa using this
  by_cases hi : l.length < ys.length
  ·have hy := ly ys[l.length] (List.getElem_mem _)
   have hd : (ys.drop l.length).headD 0 = ys[l.length] := by rw [List.drop_eq_getElem_cons hi]; rfl
   rw [hd] at key
   have hcl : (t + ys[l.length] * a + c) / B < B := by rw [Nat.add_comm t]; exact kto hy ha ht hc
   obtain ⟨c1, c2⟩ := k07 (t := ys[l.length] * a) ht hc hcl
   refine key _ _ hcl ?_ rfl rfl
   unfold kfy
   rw [condT (by rw [decide_eq_true_eq]; rw [List.length_cons]; omega), condT (by rw [decide_eq_true_eq]; omega), kbm hi, Option.bind_some, kr1 hy ha]
   dsimp only
   have a1 := kgh (ys[l.length] * a % B) c (c := 0) (by omega)
   have a2 := kgh t ((ys[l.length] * a % B + c + 0) % 18446744073709551616) (c := 0) (by omega)
   rw [show ((0 : Nat) : Int) = 0 from rfl] at a1 a2
   rw [a1, Option.bind_some, kbh hj, Option.bind_some, hg]
   dsimp only
   rw [a2, Option.bind_some, Option.bind_some]
   dsimp only
   rw [c1, c2, kbc (Nat.mod_lt _ (by decide)), Option.bind_some, kw (by omega), kpd l t _ ts rfl]
  ·have hd : (ys.drop l.length).headD 0 = 0 := by rw [List.drop_eq_nil_of_le (by omega)]; rfl
   simp only [hd, Nat.zero_mul, Nat.add_zero] at key
   have hcl : (t + c) / B < B := by
    have : t < 18446744073709551616 := ht
    have : c < 18446744073709551616 := hc
    show (t + c) / 18446744073709551616 < 18446744073709551616
    omega
   obtain ⟨c1, c2⟩ := kbci ht hc
   refine key _ _ hcl ?_ rfl rfl
   unfold kfy
   rw [condT (by rw [decide_eq_true_eq]; rw [List.length_cons]; omega), condF (by rw [decide_eq_false_iff_not]; omega)]
   have a1 := kgh 0 c (c := 0) (by omega)
   have a2 := kgh t ((0 + c + 0) % 18446744073709551616) (c := 0) (by omega)
   rw [show ((0 : Nat) : Int) = 0 from rfl] at a1 a2
   rw [a1, Option.bind_some, kbh hj, Option.bind_some, hg]
   dsimp only
   rw [a2, Option.bind_some, Option.bind_some]
   dsimp only
   rw [c1, c2, kbc (Nat.mod_lt _ (by decide)), Option.bind_some, kw (by omega), kpd l t _ ts rfl]
theorem kt0 {ts ys : List Nat} {a : Nat} (lt : ∀ t ∈ ts, t < B) (ly : ∀ y ∈ ys, y < B) (ha : a < B) (hn : ts.length ≤ 8796093022208) : runP kdk (.fn ts ys (a : Int)) = some (addMul ts ys a 0) := by
 refine kbp (.next rfl ?_)
 have := kvk ha ly ts [] 0 lt (by decide) (by simpa using hn)
 simpa using this
end Go.Ab

/- squeezed -/
set_option linter.unusedVariables false
set_option linter.unusedSimpArgs false
set_option maxRecDepth 10000
namespace Go.Ab
open Go.Proofs Go.Num
inductive ke3
 | fn (x1c0 : List Nat) (z1c1 : Int) (x1c2 : List Nat) (x1c3 : List Nat) (x2 : List Nat) (x3 : List Nat)
 | p4 (x1c0 : List Nat) (z1c1 : Int) (x1c2 : List Nat) (x1c3 : List Nat) (x2 : List Nat) (x3 : List Nat) (a4 : Int) (x5 : List Nat) (a6 : Int) (a7 : Int)
abbrev kc3 := List Nat
noncomputable def klq (x1c0 : List Nat) (z1c1 : Int) (x1c2 : List Nat) (x1c3 : List Nat) (x2 : List Nat) (x3 : List Nat) : Option (ke3 ⊕ kc3) :=
 (mkI (IntKind.wrap .i64 ((List.length x1c0 : Int) + 2)) (IntKind.wrap .i64 ((List.length x1c0 : Int) + 2))).bind fun m4 => some (.inl (.p4 x1c0 z1c1 x1c2 x1c3 x2 x3 (List.length x1c0 : Int) (List.replicate m4 0) (List.length x1c0 : Int) 0))
noncomputable def khl (x1c0 : List Nat) (z1c1 : Int) (x1c2 : List Nat) (x1c3 : List Nat) (x2 : List Nat) (x3 : List Nat) (a4 : Int) (x5 : List Nat) (a6 : Int) (a7 : Int) : Option (ke3 ⊕ kc3) :=
 cond (decide (a7 < a6)) (cond (decide (a7 < (List.length x2 : Int))) ((atI x2 a7).bind fun y10 => (runP kdk (.fn x5 x3 ((y10 : Int)))).bind fun p11 => (need (List.length p11 = List.length x5)).bind fun c11 => (inI (List.length x5) 0).bind fun j12 => (runP kdk (.fn p11 x1c0 (IntKind.wrap .u64 ((((List.getD p11 j12 0 : Nat) : Int)) * z1c1)))).bind fun p13 => (need (List.length p13 = List.length p11)).bind fun c13 => (cutP (List.length x5) 1 (List.length x5 : Int)).bind fun p14 => (overW p13 (List.take p14.2 (List.drop p14.1 p13))).bind fun y15 => (inI (List.length x5) (IntKind.wrap .i64 (a4 + 1))).bind fun j16 => (u64P 0).bind fun w17 => some (.inl (.p4 x1c0 z1c1 x1c2 x1c3 x2 x3 a4 (List.set y15 j16 w17) a6 (IntKind.wrap .i64 (a7 + 1))))) ((runP kdk (.fn x5 x3 0)).bind fun p10 => (need (List.length p10 = List.length x5)).bind fun c10 => (inI (List.length x5) 0).bind fun j11 => (runP kdk (.fn p10 x1c0 (IntKind.wrap .u64 ((((List.getD p10 j11 0 : Nat) : Int)) * z1c1)))).bind fun p12 => (need (List.length p12 = List.length p10)).bind fun c12 => (cutP (List.length x5) 1 (List.length x5 : Int)).bind fun p13 => (overW p12 (List.take p13.2 (List.drop p13.1 p12))).bind fun y14 => (inI (List.length x5) (IntKind.wrap .i64 (a4 + 1))).bind fun j15 => (u64P 0).bind fun w16 => some (.inl (.p4 x1c0 z1c1 x1c2 x1c3 x2 x3 a4 (List.set y14 j15 w16) a6 (IntKind.wrap .i64 (a7 + 1)))))) (cond (decide ((cmpN (digs B (num B x5)) x1c0) ≥ 0)) (some (.inr ((subN (digs B (num B x5)) x1c0).1))) (some (.inr (digs B (num B x5)))))
noncomputable def kcx : ke3 → Option (ke3 ⊕ kc3)
 | .fn x1c0 z1c1 x1c2 x1c3 x2 x3 => klq x1c0 z1c1 x1c2 x1c3 x2 x3
 | .p4 x1c0 z1c1 x1c2 x1c3 x2 x3 a4 x5 a6 a7 => khl x1c0 z1c1 x1c2 x1c3 x2 x3 a4 x5 a6 a7
@[reducible] def ktv (h0 : AH) (r : kc3) (v : AV) (h' : AH) : Prop := ∃ s1 : Sl, v = s1.v ∧ Nats h' s1 r ∧ Grow h0 h' ∧ Own h0 s1
def kl7 (r : kc3) : ke3 → Prop
 | .fn x1c0 z1c1 x1c2 x1c3 x2 x3 => ∀ {h : AH} {s1c0 : Sl} {s1c2 : Sl} {s1c3 : Sl} {a2 : Sl} {a3 : Sl} {i1 : Nat}, h.has i1 [s1c0.v, .int .u64 z1c1, s1c2.v, s1c3.v] T.kcd → Nats h s1c0 x1c0 → Nats h s1c2 x1c2 → Nats h s1c3 x1c3 → Nats h a2 x2 → Nats h a3 x3 → Runs (go (.fn F.kbb [.ptr (some (.new i1 0)), a2.v, a3.v]) h) (ktv h r)
 | .p4 x1c0 z1c1 x1c2 x1c3 x2 x3 a4 x5 a6 a7 => ∀ {h0 h : AH} {s1c0 : Sl} {s1c2 : Sl} {s1c3 : Sl} {a2 : Sl} {a3 : Sl} {a5 : Sl} {i5 : Nat} {i1 : Nat}, Grow h0 h → h0.has i1 [s1c0.v, .int .u64 z1c1, s1c2.v, s1c3.v] T.kcd → Nats h0 s1c0 x1c0 → Nats h0 s1c2 x1c2 → Nats h0 s1c3 x1c3 → Nats h0 a2 x2 → Nats h0 a3 x3 → Vec h a5 i5 x5 → h0.blks.size ≤ i5 → Runs (go (.pt F.kbb Td.kkg [(0, .ptr (some (.new i1 0))), (1, a2.v), (2, a3.v), (7, .int .i64 a4), (8, a5.v), (20, .int .i64 a6), (21, .int .i64 a7)]) h) (ktv h0 r)
theorem k2d {r : kc3} {o : ke3 ⊕ kc3} {x1c0 : List Nat} {z1c1 : Int} {x1c2 : List Nat} {x1c3 : List Nat} {x2 : List Nat} {x3 : List Nat} (e : klq x1c0 z1c1 x1c2 x1c3 x2 x3 = some o) (good : GoodS (kl7 r) r o) : kl7 r (.fn x1c0 z1c1 x1c2 x1c3 x2 x3) := by
 intro h s1c0 s1c2 s1c3 a2 a3 i1 b1 n1c0 n1c2 n1c3 n2 n3
 rw [k5z]
 unfold klq at e
 refine Runs.step rfl ?_
 refine Runs.step (AH.has.rd b1 0 rfl (asSl_v _)) ?_
 rw [n1c0.len]
 obtain ⟨m4, q4, e⟩ := Option.bind_eq_some_iff.1 e
 refine Runs.mk q4 kc2 fun s4 H4 v4 g4 => ?_
 cases e
 exact good g4 b1 n1c0 n1c2 n1c3 n2 n3 v4 (Nat.le_refl _)
theorem k4v {r : kc3} {o : ke3 ⊕ kc3} {x1c0 : List Nat} {z1c1 : Int} {x1c2 : List Nat} {x1c3 : List Nat} {x2 : List Nat} {x3 : List Nat} {a4 : Int} {x5 : List Nat} {a6 : Int} {a7 : Int} (e : khl x1c0 z1c1 x1c2 x1c3 x2 x3 a4 x5 a6 a7 = some o) (good : GoodS (kl7 r) r o) : kl7 r (.p4 x1c0 z1c1 x1c2 x1c3 x2 x3 a4 x5 a6 a7) := by
 intro h0 h s1c0 s1c2 s1c3 a2 a3 a5 i5 i1 g0 b1 n1c0 n1c2 n1c3 n2 n3 v5 hi5
 rw [k3i]
 unfold khl at e
 rw [(n2.grow g0).len]
 rw [v5.nats.len]
 refine Runs.cond (fun k8 => ?_) (fun k8 => ?_)
 ·replace e := (condT k8).symm.trans e
  refine Runs.cond (fun k9 => ?_) (fun k9 => ?_)
  ·replace e := (condT k9).symm.trans e
   obtain ⟨y10, q10, e⟩ := Option.bind_eq_some_iff.1 e
   obtain ⟨r10, j10, l10⟩ := (n2.grow g0).atI q10
   refine Runs.step j10 ?_
   refine Runs.step (rdc l10 (kb _ _)) ?_
   obtain ⟨p11, q11, e⟩ := Option.bind_eq_some_iff.1 e
   obtain ⟨_, H11, e11, rfl, v11, u11⟩ := kmj v5 (n3.grow g0) (Av.of_base n3 hi5) q11
   refine Runs.step e11 ?_
   obtain ⟨c11, d11, e⟩ := Option.bind_eq_some_iff.1 e
   have hl11 := c11.down
   refine Runs.step rfl ?_
   refine Runs.step rfl ?_
   refine Runs.step (AH.has.rd ((g0.updr hi5 u11).has b1) 0 rfl (asSl_v _)) ?_
   obtain ⟨j12, q12, e⟩ := Option.bind_eq_some_iff.1 e
   refine Runs.step (v11.idx (by simp only [List.length_set, hl11]) q12) ?_
   refine Runs.step (v11.rd (by simp only [List.length_set, hl11]) q12 (kb _ _)) ?_
   refine Runs.step rfl ?_
   refine Runs.step (AH.has.rd ((g0.updr hi5 u11).has b1) 1 rfl (kb _ _)) ?_
   obtain ⟨p13, q13, e⟩ := Option.bind_eq_some_iff.1 e
   obtain ⟨_, H13, e13, rfl, v13, u13⟩ := kmj v11 (n1c0.grow (g0.updr hi5 u11)) (Av.of_base n1c0 hi5) q13
   refine Runs.step e13 ?_
   obtain ⟨c13, d13, e⟩ := Option.bind_eq_some_iff.1 e
   have hl13 := c13.down
   refine Runs.step rfl ?_
   obtain ⟨p14, q14, e⟩ := Option.bind_eq_some_iff.1 e
   obtain ⟨s14, e14, w14⟩ := v13.cutW (by simp only [List.length_set, hl13, hl11]) q14
   refine Runs.step e14 ?_
   obtain ⟨y15, q15, e⟩ := Option.bind_eq_some_iff.1 e
   have hl15 := kzs q15
   obtain ⟨H15, e15, v15, u15⟩ := v13.copyV (w14.nats v13 (by have := (kmx q14).2.2.2; simpa only [List.length_set, hl13, hl11] using this)) q15
   refine Runs.step e15 ?_
   obtain ⟨j16, q16, e⟩ := Option.bind_eq_some_iff.1 e
   refine Runs.step (v15.idx (by simp only [List.length_set, hl15, hl13, hl11]) q16) ?_
   obtain ⟨w17, z17, e⟩ := Option.bind_eq_some_iff.1 e
   refine Runs.vput v15 (by simp only [List.length_set, hl15, hl13, hl11]) q16 z17 fun H17 v17 u17 => ?_
   cases e
   have G18 := ((((g0.updr hi5 u11).updr hi5 u13).updr hi5 u15).updr hi5 u17)
   exact good G18 b1 n1c0 n1c2 n1c3 n2 n3 v17 hi5
  ·replace e := (condF k9).symm.trans e
   obtain ⟨p10, q10, e⟩ := Option.bind_eq_some_iff.1 e
   obtain ⟨_, H10, e10, rfl, v10, u10⟩ := kmj v5 (n3.grow g0) (Av.of_base n3 hi5) q10
   refine Runs.step e10 ?_
   obtain ⟨c10, d10, e⟩ := Option.bind_eq_some_iff.1 e
   have hl10 := c10.down
   refine Runs.step rfl ?_
   refine Runs.step rfl ?_
   refine Runs.step (AH.has.rd ((g0.updr hi5 u10).has b1) 0 rfl (asSl_v _)) ?_
   obtain ⟨j11, q11, e⟩ := Option.bind_eq_some_iff.1 e
   refine Runs.step (v10.idx (by simp only [List.length_set, hl10]) q11) ?_
   refine Runs.step (v10.rd (by simp only [List.length_set, hl10]) q11 (kb _ _)) ?_
   refine Runs.step rfl ?_
   refine Runs.step (AH.has.rd ((g0.updr hi5 u10).has b1) 1 rfl (kb _ _)) ?_
   obtain ⟨p12, q12, e⟩ := Option.bind_eq_some_iff.1 e
   obtain ⟨_, H12, e12, rfl, v12, u12⟩ := kmj v10 (n1c0.grow (g0.updr hi5 u10)) (Av.of_base n1c0 hi5) q12
   refine Runs.step e12 ?_
   obtain ⟨c12, d12, e⟩ := Option.bind_eq_some_iff.1 e
   have hl12 := c12.down
   refine Runs.step rfl ?_
   obtain ⟨p13, q13, e⟩ := Option.bind_eq_some_iff.1 e
   obtain ⟨s13, e13, w13⟩ := v12.cutW (by simp only [List.length_set, hl12, hl10]) q13
   refine Runs.step e13 ?_
   obtain ⟨y14, q14, e⟩ := Option.bind_eq_some_iff.1 e
   have hl14 := kzs q14
   obtain ⟨H14, e14, v14, u14⟩ := v12.copyV (w13.nats v12 (by have := (kmx q13).2.2.2; simpa only [List.length_set, hl12, hl10] using this)) q14
   refine Runs.step e14 ?_
   obtain ⟨j15, q15, e⟩ := Option.bind_eq_some_iff.1 e
   refine Runs.step (v14.idx (by simp only [List.length_set, hl14, hl12, hl10]) q15) ?_
   obtain ⟨w16, z16, e⟩ := Option.bind_eq_some_iff.1 e
   refine Runs.vput v14 (by simp only [List.length_set, hl14, hl12, hl10]) q15 z16 fun H16 v16 u16 => ?_
   cases e
   have G17 := ((((g0.updr hi5 u10).updr hi5 u12).updr hi5 u14).updr hi5 u16)
   exact good G17 b1 n1c0 n1c2 n1c3 n2 n3 v16 hi5
 ·replace e := (condF k8).symm.trans e
  obtain ⟨s9, e9, n9, o9⟩ := k5g v5.nats
  refine Runs.step e9 ?_
  refine Runs.step (seen (asSl_v _)) ?_
  refine Runs.step rfl ?_
  refine Runs.step (AH.has.rd (g0.has b1) 0 rfl (asSl_v _)) ?_
  obtain ⟨H10, e10, g10⟩ := kdd n9 (n1c0.grow g0)
  refine Runs.step e10 ?_
  refine Runs.step (seen (kb _ _)) ?_
  refine Runs.cond (fun k11 => ?_) (fun k11 => ?_)
  ·replace e := (condT k11).symm.trans e
   refine Runs.step rfl ?_
   refine Runs.step (AH.has.rd ((g0.trans g10).has b1) 0 rfl (asSl_v _)) ?_
   obtain ⟨s12, H12, e12, n12, g12, o12⟩ := klz (n9.grow g10) (n1c0.grow (g0.trans g10))
   refine Runs.step e12 ?_
   refine Runs.step rfl ?_
   refine Runs.step (seen (asSl_v _)) ?_
   refine Runs.step (seen (kb _ _)) ?_
   cases e
   cases good
   have G13 := ((g0.trans g10).trans g12)
   exact Runs.ret ⟨s12, rfl, n12, G13, (o12.of_le (g0.trans g10))⟩
  ·replace e := (condF k11).symm.trans e
   cases e
   cases good
   exact Runs.ret ⟨s9, rfl, (n9.grow g10), (g0.trans g10), ((o9 _ (v5.own hi5)).of_le (Grow.refl _))⟩
theorem k3u {s : ke3} {r : kc3} (it : Iter kcx s r) : kl7 r s := Iter.ind (fun s o e good => by
 cases s with
 | fn x1c0 z1c1 x1c2 x1c3 x2 x3 => exact @k2d _ _ x1c0 z1c1 x1c2 x1c3 x2 x3 e good
 | p4 x1c0 z1c1 x1c2 x1c3 x2 x3 a4 x5 a6 a7 => exact @k4v _ _ x1c0 z1c1 x1c2 x1c3 x2 x3 a4 x5 a6 a7 e good
 ) it
theorem kks {h : AH} {s1c0 : Sl} {s1c2 : Sl} {s1c3 : Sl} {a2 : Sl} {a3 : Sl} {i1 : Nat} {x1c0 : List Nat} {z1c1 : Int} {x1c2 : List Nat} {x1c3 : List Nat} {x2 : List Nat} {x3 : List Nat} (b1 : h.has i1 [s1c0.v, .int .u64 z1c1, s1c2.v, s1c3.v] T.kcd) (n1c0 : Nats h s1c0 x1c0) (n1c2 : Nats h s1c2 x1c2) (n1c3 : Nats h s1c3 x1c3) (n2 : Nats h a2 x2) (n3 : Nats h a3 x3) {r : kc3} (q : runP kcx (.fn x1c0 z1c1 x1c2 x1c3 x2 x3) = some r) : Runs (go (.fn F.kbb [.ptr (some (.new i1 0)), a2.v, a3.v]) h) (ktv h r) := k3u (kbz q) b1 n1c0 n1c2 n1c3 n2 n3
end Go.Ab

/- squeezed -/
set_option linter.unusedVariables false
set_option linter.unusedSimpArgs false
set_option maxRecDepth 10000
namespace Go.Ab
open Go.Proofs Go.Num
theorem getD0 (xs : List Nat) : xs.getD 0 0 = xs.headD 0 := by cases xs <;> rfl
theorem kwd {b : Nat} {xs : List Nat} (h : ∀ x ∈ xs, x < b) (hb : 0 < b) : xs.headD 0 = num b xs % b := by
 cases xs with
 | nil => simp [num]
 | cons x xs =>
  rw [knk, Nat.add_mul_mod_self_left, Nat.mod_eq_of_lt (h x (by simp))]
  rfl
def montR (ts ys ns : List Nat) (v x : Nat) : List Nat :=
 let p := addMul ts ys x 0
 (addMul p ns (p.headD 0 * v % B) 0).tail ++ [0]
theorem k8p {ts ys ns : List Nat} {v x k : Nat} (lt : ∀ t ∈ ts, t < B) (hl : ts.length = k + 2) (hx : x < B) (hv : (num B ns * v + 1) % B = 0) (hY : num B ys < B ^ k) (hN : num B ns < B ^ k) (hT : num B ts < num B ys + num B ns) :
  (montR ts ys ns v x).length = k + 2 ∧ (∀ t ∈ montR ts ys ns v x, t < B) ∧ (∃ m, m < B ∧ num B ts + num B ys * x + num B ns * m = num B (montR ts ys ns v x) * B) := by
 have B0 : 0 < B := by decide
 unfold montR
 dsimp only
 generalize hp : addMul ts ys x 0 = p
 generalize hT' : num B ts = T at *
 generalize hY' : num B ys = Y at *
 generalize hN' : num B ns = N at *
 have lp : p.length = k + 2 := by rw [← hp, kjr, hl]
 have ltp : ∀ t ∈ p, t < B := by rw [← hp]; exact knz _ _ _ _
 have e1 : Y * x ≤ B ^ k * B := Nat.mul_le_mul (by omega) (by omega)
 have e3 : B ^ (k + 2) = B ^ k * B * B := by rw [Nat.pow_succ, Nat.pow_succ]
 have e4 : B ^ k * B * 4 ≤ B ^ k * B * B := Nat.mul_le_mul_left _ (by decide)
 have e5 : B ^ k * 2 ≤ B ^ k * B := Nat.mul_le_mul_left _ (by decide)
 have np : num B p = T + Y * x := by
  rw [← hp, krn, hT', hY', hl, Nat.add_zero]
  refine Nat.mod_eq_of_lt ?_
  omega
 have hh : p.headD 0 = (T + Y * x) % B := by rw [kwd ltp B0, np]
 rw [hh]
 generalize hm : (T + Y * x) % B * v % B = m
 have mB : m < B := by rw [← hm]; exact Nat.mod_lt _ B0
 have e2 : N * m ≤ B ^ k * B := Nat.mul_le_mul (by omega) (by omega)
 generalize hp' : addMul p ns m 0 = p'
 have lp' : p'.length = k + 2 := by rw [← hp', kjr, lp]
 have ltp' : ∀ t ∈ p', t < B := by rw [← hp']; exact knz _ _ _ _
 have np' : num B p' = T + Y * x + N * m := by
  rw [← hp', krn, np, hN', lp, Nat.add_zero]
  refine Nat.mod_eq_of_lt ?_
  omega
 have h0 : p'.headD 0 = 0 := by
  rw [kwd ltp' B0, np', ← hm]
  exact k6f B0 hv
 refine ⟨by simp; omega, ?_, m, mB, ?_⟩
 ·intro t ht
  rcases List.mem_append.1 ht with h | h
  ·exact ltp' t (List.mem_of_mem_tail h)
  ·rw [List.mem_singleton.1 h]; exact B0
 ·rw [← np', kkq B p', h0, show [0] = List.replicate 1 0 from rfl, kex, Nat.zero_add, Nat.mul_comm]
theorem k1g {p : List Nat} {k : Nat} (h : p.length = k + 2) : List.take (k + 1) (List.drop 1 p) = p.tail := by
 rw [List.drop_one, List.take_of_length_le (by simp; omega)]
theorem kbb5 {p : List Nat} {k : Nat} (h : p.length = k + 2) : ∃ z, overW p p.tail = some (p.tail ++ [z]) := by
 unfold overW
 rw [if_pos (by simp)]
 have hd : (p.drop p.tail.length).length = 1 := by simp; omega
 obtain ⟨z, hz⟩ := List.length_eq_one_iff.1 hd
 exact ⟨z, by rw [hz]⟩
theorem kpo {xs : List Nat} {i : Nat} (h : xs.length ≤ i) : xs.getD i 0 = 0 := by simp [List.getD, List.getElem?_eq_none h]
theorem kl6 {xs ys : List Nat} (hx : rt xs = true) (hy : rt ys = true) : cmpN xs ys = cmp (num B xs) (num B ys) := by
 unfold cmpN
 rw [if_pos ⟨hx, hy⟩]
theorem k7z (b : Nat) {xs : List Nat} (i : Nat) : num b (xs.take (i + 1)) = num b (xs.take i) + b ^ i * xs.getD i 0 := by
 rcases Nat.lt_or_ge i xs.length with h | h
 ·rw [kch b h, kbj h]
 ·rw [List.take_of_length_le (by omega), List.take_of_length_le h, kpo h]
  simp
section
variable {ns xs ys ones nexts : List Nat} {v k N X Y : Nat}
theorem kbdm (hk : k ≤ 60) (ln : ns.length = k) (ltn : ∀ t ∈ ns, t < B) (lx : ∀ t ∈ xs, t < B) (ly : ∀ t ∈ ys, t < B) (hvB : v < B) (hv : (num B ns * v + 1) % B = 0) (hY : num B ys < num B ns) {ts : List Nat} (lt : ∀ t ∈ ts, t < B) (hl : ts.length = k + 2) {i : Nat} (hi : i < k) (hT : num B ts < num B ys + num B ns) :
  khl ns (v : Int) ones nexts xs ys (k : Int) ts (k : Int) (i : Int) = some (.inl (.p4 ns (v : Int) ones nexts xs ys (k : Int) (montR ts ys ns v (xs.getD i 0)) (k : Int) ((i + 1 : Nat) : Int))) := by
 have hN : num B ns < B ^ k := ln ▸ num_lt B1 ltn
 have run : ∀ x : Nat, x < B → ∀ p, addMul ts ys x 0 = p → ∀ q, addMul p ns (p.headD 0 * v % B) 0 = q →
   p.length = k + 2 ∧ q.length = k + 2 ∧ runP kdk (.fn ts ys (x : Int)) = some p ∧ runP kdk (.fn p ns (IntKind.wrap .u64 (((List.getD p 0 0 : Nat) : Int) * (v : Int)))) = some q := by
  intro x hx p hp q hq
  have l1 : p.length = k + 2 := by rw [← hp, kjr, hl]
  refine ⟨l1, by rw [← hq, kjr, l1], ?_, ?_⟩
  ·rw [kt0 lt ly hx (by omega), hp]
  ·rw [← Int.natCast_mul, wrapU, getD0]
   have : (((p.headD 0 * v : Nat) : Int)) % 18446744073709551616 = ((p.headD 0 * v % B : Nat) : Int) := rfl
   rw [this, kt0 (hp ▸ knz _ _ _ _) ltn (Nat.mod_lt _ (by decide)) (by omega), hq]
 unfold khl
 rw [condT (by rw [decide_eq_true_eq]; omega)]
 have fin : ∀ q : List Nat, q.length = k + 2 → ∀ r : Option (ke3 ⊕ kc3), r = ((cutP ts.length 1 (ts.length : Int)).bind fun p14 => (overW q (List.take p14.2 (List.drop p14.1 q))).bind fun y15 => (inI ts.length (IntKind.wrap .i64 ((k : Int) + 1))).bind fun j16 => (u64P 0).bind fun w17 => some (.inl (.p4 ns (v : Int) ones nexts xs ys (k : Int) (List.set y15 j16 w17) (k : Int) (IntKind.wrap .i64 ((i : Int) + 1))))) →
   r = some (.inl (.p4 ns (v : Int) ones nexts xs ys (k : Int) (q.tail ++ [0]) (k : Int) ((i + 1 : Nat) : Int))) := by
  intro q lq r hr
  rw [hr, hl]
  have c := kui (len := k + 2) (lo := 1) (n := k + 1) (by omega) (by omega)
  rw [show 1 + (k + 1) = k + 2 from by omega] at c
  rw [show ((1 : Nat) : Int) = 1 from rfl] at c
  obtain ⟨z, hz⟩ := kbb5 lq
  rw [c, Option.bind_some]
  dsimp only
  rw [k1g lq, hz, Option.bind_some, kw (by omega), kbh (by omega), Option.bind_some, show u64P 0 = some 0 from rfl, Option.bind_some, kw (by omega)]
  have := kpd q.tail z 0 [] (n := k + 1) (by simp; omega)
  rw [this, List.append_nil]
 by_cases hx : i < xs.length
 ·have hxB := lx xs[i] (List.getElem_mem _)
  obtain ⟨l1, l2, r1, r2⟩ := run xs[i] hxB _ rfl _ rfl
  rw [condT (by rw [decide_eq_true_eq]; omega), kbm hx, Option.bind_some, r1, Option.bind_some, ki (by rw [l1, hl]), Option.bind_some, show (0 : Int) = ((0 : Nat) : Int) from rfl, kbh (by omega), Option.bind_some, r2, Option.bind_some, ki (by rw [l1, l2]), Option.bind_some]
  refine (fin _ l2 _ rfl).trans ?_
  unfold montR
  rw [kbj hx]
 ·obtain ⟨l1, l2, r1, r2⟩ := run 0 (by decide) _ rfl _ rfl
  rw [show ((0 : Nat) : Int) = 0 from rfl] at r1
  rw [condF (by rw [decide_eq_false_iff_not]; omega), r1, Option.bind_some, ki (by rw [l1, hl]), Option.bind_some, show (0 : Int) = ((0 : Nat) : Int) from rfl, kbh (by omega), Option.bind_some, r2, Option.bind_some, ki (by rw [l1, l2]), Option.bind_some]
  refine (fin _ l2 _ rfl).trans ?_
  unfold montR
  rw [kpo (show xs.length ≤ i from by omega)]
theorem ky5 (hk : k ≤ 60) (ln : ns.length = k) (ltn : ∀ t ∈ ns, t < B) (tn : Trim ns) (lx : ∀ t ∈ xs, t < B) (ly : ∀ t ∈ ys, t < B) (hvB : v < B) (hv : (num B ns * v + 1) % B = 0) (ho : num B ns % 2 = 1) (hX : xs.length ≤ k) (hY : num B ys < num B ns) :
  ∀ (d i : Nat), i + d = k → ∀ ts : List Nat, (∀ t ∈ ts, t < B) → ts.length = k + 2 → num B ts < num B ys + num B ns → (∃ M, num B ts * B ^ i = num B (xs.take i) * num B ys + num B ns * M) →
   Iter kcx (.p4 ns (v : Int) ones nexts xs ys (k : Int) ts (k : Int) (i : Int)) (digs B (redc (num B ns) (64 * k) (num B xs * num B ys)))
 | 0, i, hi, ts, lt, hl, hT, ⟨M, hM⟩ => by
  have hi : i = k := by omega
  subst hi
  have hN : num B ns < B ^ i := ln ▸ num_lt B1 ltn
  have h64 : B ^ i * 2 ≤ B ^ 64 := by
   calc B ^ i * 2 ≤ B ^ i * B := Nat.mul_le_mul_left _ (by decide)
    _ = B ^ (i + 1) := (Nat.pow_succ ..).symm
    _ ≤ B ^ 64 := Nat.pow_le_pow_right (by decide) (by omega)
  have rn : rt ns = true := rt_iff.2 ⟨by omega, tn⟩
  have rT : rt (digs B (num B ts)) = true := kn (by omega)
  rw [List.take_of_length_le hX] at hM
  have e64 : B ^ i = 2 ^ (64 * i) := by rw [show B = 2 ^ 64 from rfl, ← Nat.pow_mul]
  rw [e64] at hM
  refine .done ?_
  show khl _ _ _ _ _ _ _ _ _ _ = _
  unfold khl
  rw [condF (by rw [decide_eq_false_iff_not]; omega), kl6 rT rn, kf B2]
  by_cases hc : num B ts < num B ns
  ·have : cmp (num B ts) (num B ns) = -1 := by unfold cmp; rw [if_pos hc]
   rw [this, show decide ((-1 : Int) ≥ 0) = false from rfl, cond_false]
   rw [← kv2 ho hc (by rw [hM, Nat.add_mul_mod_self_left])]
  ·have : decide (cmp (num B ts) (num B ns) ≥ 0) = true := by
    unfold cmp
    rw [if_neg hc]
    split <;> rfl
   rw [this, cond_true]
   unfold subN
   rw [if_pos ⟨rT, rn⟩, kf B2, if_neg hc]
   rw [← kv2 (r := num B ts - num B ns) ho (by omega)]
   rw [Nat.sub_mul, hM, ← Nat.add_mul_mod_self_left (_ - _) (num B ns) (2 ^ (64 * i)), Nat.sub_add_cancel]
   ·rw [Nat.add_mul_mod_self_left]
   ·rw [← hM]
    exact Nat.mul_le_mul_right _ (by omega)
 | d + 1, i, hi, ts, lt, hl, hT, ⟨M, hM⟩ => by
  have hN : num B ns < B ^ k := ln ▸ num_lt B1 ltn
  have hx : xs.getD i 0 < B := by
   rcases Nat.lt_or_ge i xs.length with h | h
   ·rw [kbj h]; exact lx _ (List.getElem_mem _)
   ·rw [kpo h]; decide
  obtain ⟨o1, o2, m, hm, o3⟩ := k8p (v := v) (ns := ns) (ys := ys) lt hl hx hv (by omega) hN hT
  refine .next (kbdm hk ln ltn lx ly hvB hv hY lt hl (by omega) hT) (ky5 hk ln ltn tn lx ly hvB hv ho hX hY d (i + 1) (by omega) _ o2 o1 ?_ ⟨M + B ^ i * m, ?_⟩)
  ·have := k8b hT hx hm
   rwa [o3, Nat.mul_div_cancel _ (by decide)] at this
  ·rw [k7z, Nat.pow_succ]
   have := k2p hM o3
   rw [this, Nat.mul_comm (B ^ i) m, Nat.mul_comm m]
theorem k6v (hk : k ≤ 60) (ln : ns.length = k) (ltn : ∀ t ∈ ns, t < B) (tn : Trim ns) (lx : ∀ t ∈ xs, t < B) (ly : ∀ t ∈ ys, t < B) (hvB : v < B) (hv : (num B ns * v + 1) % B = 0) (ho : num B ns % 2 = 1) (hX : xs.length ≤ k) (hY : num B ys < num B ns) :
  runP kcx (.fn ns (v : Int) ones nexts xs ys) = some (digs B (redc (num B ns) (64 * k) (num B xs * num B ys))) := by
 refine kbp (.next (s' := .p4 ns (v : Int) ones nexts xs ys (k : Int) (List.replicate (k + 2) 0) (k : Int) ((0 : Nat) : Int)) ?_ (ky5 hk ln ltn tn lx ly hvB hv ho hX hY k 0 (by omega) _ ?_ (by simp) ?_ ⟨0, ?_⟩))
 ·show klq _ _ _ _ _ _ = _
  unfold klq
  rw [ln, show ((k : Int) + 2) = ((k + 2 : Nat) : Int) from by omega, kbg (by omega), kd2 (by omega), Option.bind_some]
  rfl
 ·intro t ht
  rw [List.eq_of_mem_replicate ht]
  decide
 ·have : num B (List.replicate (k + 2) 0) = 0 := by have := kex B [] (k + 2); simpa [num] using this
  rw [this]
  omega
 ·have : num B (List.replicate (k + 2) 0) = 0 := by have := kex B [] (k + 2); simpa [num] using this
  simp [this, num]
end
end Go.Ab

/- squeezed -/
set_option linter.unusedVariables false
set_option linter.unusedSimpArgs false
set_option maxRecDepth 10000
namespace Go.Ab
open Go.Proofs Go.Num
theorem Bl.det {x m n : Nat} (a : Bl x m) (b : Bl x n) : m = n := Nat.le_antisymm (a.le b.1) (b.le a.1)
theorem kpx {a : Int} {h : AH} (c : 0 ≤ a ∧ a < 18446744073709551616) : go (.fn F.kf3 [.int .u64 a]) h = some (.int .i64 ((bl (Int.toNat a) : Nat) : Int), h) := by
 obtain ⟨x, rfl⟩ : ∃ x : Nat, a = (x : Int) := ⟨a.toNat, by omega⟩
 obtain ⟨n, e, b⟩ := kyj (x := x) (by omega) (h := h)
 rw [e, Int.toNat_natCast, b.det (bl_Bl x)]
inductive kiw
 | fn (x1 : List Nat)
 | no
abbrev kfk := Int
noncomputable def kk8 (x1 : List Nat) : Option (kiw ⊕ kfk) :=
 cond (!(rt x1)) (some (.inr 0)) (cond (decide ((List.length x1 : Int) = 0)) (some (.inr 0)) ((atI x1 (IntKind.wrap .i64 ((List.length x1 : Int) - 1))).bind fun y5 => (need (0 ≤ ((y5 : Int)) ∧ ((y5 : Int)) < 18446744073709551616)).bind fun c6_0 => some (.inr (IntKind.wrap .i64 ((IntKind.wrap .i64 (64 * (IntKind.wrap .i64 ((List.length x1 : Int) - 1)))) + (((bl (Int.toNat ((y5 : Int))) : Nat) : Int)))))))
noncomputable def ksj : kiw → Option (kiw ⊕ kfk)
 | .fn x1 => kk8 x1
 | .no => none
@[reducible] def kqv (h0 : AH) (r : kfk) (v : AV) (h' : AH) : Prop := v = .int .i64 r ∧ Grow h0 h'
def ktw (r : kfk) : kiw → Prop
 | .fn x1 => ∀ {h : AH} {a1 : Sl}, Nats h a1 x1 → Runs (go (.fn F.kje [a1.v]) h) (kqv h r)
 | .no => True
theorem kbew {r : kfk} {o : kiw ⊕ kfk} {x1 : List Nat} (e : kk8 x1 = some o) (good : GoodS (ktw r) r o) : ktw r (.fn x1) := by
 intro h a1 n1
 rw [k6w]
 unfold kk8 at e
 rw [n1.len]
 refine Runs.step (kb9 n1) ?_
 refine Runs.step (seen rfl) ?_
 refine Runs.cond (fun k3 => ?_) (fun k3 => ?_)
 ·replace e := (condT k3).symm.trans e
  cases e
  cases good
  exact Runs.ret ⟨rfl, (Grow.refl _)⟩
 ·replace e := (condF k3).symm.trans e
  refine Runs.cond (fun k4 => ?_) (fun k4 => ?_)
  ·replace e := (condT k4).symm.trans e
   cases e
   cases good
   exact Runs.ret ⟨rfl, (Grow.refl _)⟩
  ·replace e := (condF k4).symm.trans e
   obtain ⟨y5, q5, e⟩ := Option.bind_eq_some_iff.1 e
   obtain ⟨r5, j5, l5⟩ := n1.atI q5
   refine Runs.step j5 ?_
   refine Runs.step (rdc l5 (kb _ _)) ?_
   obtain ⟨c6_0, q6_0, e⟩ := Option.bind_eq_some_iff.1 e
   refine Runs.step (kpx  c6_0.down) ?_
   refine Runs.step (seen (kb _ _)) ?_
   cases e
   cases good
   exact Runs.ret ⟨rfl, (Grow.refl _)⟩
theorem k8o {s : kiw} {r : kfk} (it : Iter ksj s r) : ktw r s := Iter.ind (fun s o e good => by
 cases s with
 | fn x1 => exact @kbew _ _ x1 e good
 | no => exact True.intro
 ) it
theorem k6p {h : AH} {a1 : Sl} {x1 : List Nat} (n1 : Nats h a1 x1) {r : kfk} (q : runP ksj (.fn x1) = some r) : Runs (go (.fn F.kje [a1.v]) h) (kqv h r) := k8o (kbz q) n1
inductive ki7
 | fn (x1 : List Nat) (a2 : Int)
 | no
abbrev kfw := Bool
noncomputable def kk1 (x1 : List Nat) (a2 : Int) : Option (ki7 ⊕ kfw) :=
 cond ((rt x1)) (cond (decide (a2 ≥ 0)) (cond (decide ((IntKind.wrap .i64 (Int.tdiv a2 64)) < (List.length x1 : Int))) ((atI x1 (IntKind.wrap .i64 (Int.tdiv a2 64))).bind fun y7 => cond (decide ((Int.tmod a2 64) < 0)) (none) (some (.inr (decide ((iand .u64 (ishr .u64 ((y7 : Int)) (Int.tmod a2 64)) 1) = 1))))) (some (.inr false))) (some (.inr false))) (some (.inr false))
noncomputable def kr4 : ki7 → Option (ki7 ⊕ kfw)
 | .fn x1 a2 => kk1 x1 a2
 | .no => none
@[reducible] def kpp (h0 : AH) (r : kfw) (v : AV) (h' : AH) : Prop := v = .bool r ∧ Grow h0 h'
def krx (r : kfw) : ki7 → Prop
 | .fn x1 a2 => ∀ {h : AH} {a1 : Sl}, Nats h a1 x1 → Runs (go (.fn F.ki1 [a1.v, .int .i64 a2]) h) (kpp h r)
 | .no => True
theorem k5m {r : kfw} {o : ki7 ⊕ kfw} {x1 : List Nat} {a2 : Int} (e : kk1 x1 a2 = some o) (good : GoodS (krx r) r o) : krx r (.fn x1 a2) := by
 intro h a1 n1
 rw [kbbw]
 unfold kk1 at e
 rw [n1.len]
 refine Runs.step (kb9 n1) ?_
 refine Runs.step (seen rfl) ?_
 refine Runs.cond (fun k4 => ?_) (fun k4 => ?_)
 ·replace e := (condT k4).symm.trans e
  refine Runs.cond (fun k5 => ?_) (fun k5 => ?_)
  ·replace e := (condT k5).symm.trans e
   refine Runs.cond (fun k6 => ?_) (fun k6 => ?_)
   ·replace e := (condT k6).symm.trans e
    obtain ⟨y7, q7, e⟩ := Option.bind_eq_some_iff.1 e
    obtain ⟨r7, j7, l7⟩ := n1.atI q7
    refine Runs.step j7 ?_
    refine Runs.step (rdc l7 (kb _ _)) ?_
    refine Runs.cond (fun k8 => ?_) (fun k8 => ?_)
    ·replace e := (condT k8).symm.trans e
     cases e
    ·replace e := (condF k8).symm.trans e
     cases e
     cases good
     exact Runs.ret ⟨rfl, (Grow.refl _)⟩
   ·replace e := (condF k6).symm.trans e
    cases e
    cases good
    exact Runs.ret ⟨rfl, (Grow.refl _)⟩
  ·replace e := (condF k5).symm.trans e
   cases e
   cases good
   exact Runs.ret ⟨rfl, (Grow.refl _)⟩
 ·replace e := (condF k4).symm.trans e
  cases e
  cases good
  exact Runs.ret ⟨rfl, (Grow.refl _)⟩
theorem kbaz {s : ki7} {r : kfw} (it : Iter kr4 s r) : krx r s := Iter.ind (fun s o e good => by
 cases s with
 | fn x1 a2 => exact @k5m _ _ x1 a2 e good
 | no => exact True.intro
 ) it
theorem k05 {h : AH} {a1 : Sl} {x1 : List Nat} {a2 : Int} (n1 : Nats h a1 x1) {r : kfw} (q : runP kr4 (.fn x1 a2) = some r) : Runs (go (.fn F.ki1 [a1.v, .int .i64 a2]) h) (kpp h r) := kbaz (kbz q) n1
end Go.Ab

/- squeezed -/
set_option linter.unusedVariables false
set_option linter.unusedSimpArgs false
set_option maxRecDepth 10000
namespace Go.Ab
open Go.Proofs Go.Num
def bitsN (xs : List Nat) : Nat := if rt xs = true then bl (num B xs) else 0
def bitN (xs : List Nat) (i : Int) : Bool := rt xs && (decide (0 ≤ i) && (num B xs).testBit i.toNat)
theorem kql {xs : List Nat} (l : ∀ x ∈ xs, x < B) : ∀ i : Nat, num B xs / B ^ i = num B (xs.drop i)
 | 0 => by simp
 | i + 1 => by
  rw [Nat.pow_succ, Nat.mul_comm, ← Nat.div_div_eq_div_mul, kkq B xs]
  have h : xs.headD 0 < B := by
   cases xs with
   | nil => decide
   | cons x xs => exact l x (by simp)
  rw [Nat.add_mul_div_left _ _ (show 0 < B by decide), Nat.div_eq_of_lt h, Nat.zero_add, kql (xs := xs.tail) (fun x hx => l x (List.mem_of_mem_tail hx)) i]
  rw [← List.drop_one, List.drop_drop, Nat.add_comm]
theorem B_pow2 (i : Nat) : B ^ i = 2 ^ (64 * i) := by rw [show B = 2 ^ 64 from rfl, ← Nat.pow_mul]
theorem bl_num {xs : List Nat} (l : ∀ x ∈ xs, x < B) (h : xs.length ≠ 0) (h0 : xs[xs.length - 1] ≠ 0) : bl (num B xs) = 64 * (xs.length - 1) + bl xs[xs.length - 1] := by
 have hd := kql l (xs.length - 1)
 rw [List.drop_eq_getElem_cons (by omega), show xs.length - 1 + 1 = xs.length from by omega, List.drop_length, B_pow2] at hd
 have e : num B xs / 2 ^ (64 * (xs.length - 1)) = xs[xs.length - 1] := by rw [hd]; simp [num]
 refine (bl_Bl _).det (Bl.up (n := bl xs[xs.length - 1]) ?_ ?_)
 ·rw [e]; exact bl_Bl _
 ·rw [e]; omega
theorem bl_le {x m : Nat} (h : x < 2 ^ m) : bl x ≤ m := (bl_Bl x).le h
theorem k2v {xs : List Nat} (h : rt xs = true) (hl : xs.length ≠ 0) : xs[xs.length - 1] ≠ 0 := by
 have t := (rt_iff.1 h).2 (fun e => hl (by rw [e]; rfl))
 rwa [List.getLast_eq_getElem] at t
theorem k0k {xs : List Nat} (l : ∀ x ∈ xs, x < B) : runP ksj (.fn xs) = some ((bitsN xs : Nat) : Int) := by
 refine kbp (.done ?_)
 show kk8 _ = _
 unfold kk8 bitsN
 by_cases hr : rt xs = true
 ·rw [hr, if_pos rfl, show (!true) = false from rfl, cond_false]
  have h64 := (rt_iff.1 hr).1
  by_cases hl : xs.length = 0
  ·rw [condT (by rw [decide_eq_true_eq]; omega), List.length_eq_zero_iff.1 hl]
   rfl
  ·have hb := l xs[xs.length - 1] (List.getElem_mem _)
   have hb' : xs[xs.length - 1] < 18446744073709551616 := hb
   have hbl := bl_le (x := xs[xs.length - 1]) (m := 64) hb
   rw [condF (by rw [decide_eq_false_iff_not]; omega), show ((xs.length : Int) - 1) = ((xs.length - 1 : Nat) : Int) from by omega, kbg (by omega), kbm (by omega), Option.bind_some]
   have hn : 0 ≤ ((xs[xs.length - 1] : Nat) : Int) ∧ ((xs[xs.length - 1] : Nat) : Int) < 18446744073709551616 := by omega
   simp only [ki hn, Option.bind_some]
   rw [Int.toNat_natCast, bl_num l hl (k2v hr hl), show (64 * ((xs.length - 1 : Nat) : Int)) = ((64 * (xs.length - 1) : Nat) : Int) from by omega, kbg (by omega), ← Int.natCast_add, kbg (by omega)]
 ·rw [if_neg hr, show rt xs = false from by simpa using hr]
  rfl
theorem kt7 {h : AH} {s : Sl} {xs : List Nat} (n : Nats h s xs) : Runs (go (.fn F.kje [s.v]) h) (kqv h (bitsN xs)) := k6p n (k0k n.lt)
theorem kxd {x : Nat} (hx : x < 18446744073709551616) : iand .u64 (x : Int) 1 = ((x % 2 : Nat) : Int) := by
 unfold iand
 rw [show IntKind.bits .u64 = 64 from rfl, wrapU]
 have e1 : BitVec.ofInt 64 (x : Int) = BitVec.ofNat 64 x := rfl
 have e2 : BitVec.ofInt 64 1 = BitVec.ofNat 64 1 := rfl
 rw [e1, e2, BitVec.toNat_and, BitVec.toNat_ofNat, BitVec.toNat_ofNat]
 rw [Nat.mod_eq_of_lt (show x < 2 ^ 64 from hx), Nat.mod_eq_of_lt (show 1 < 2 ^ 64 from by decide), Nat.and_one_is_mod]
 omega
theorem k0a {xs : List Nat} (l : ∀ x ∈ xs, x < B) {q r : Nat} (hq : q < xs.length) (hr : r < 64) : (num B xs).testBit (64 * q + r) = decide (xs[q] / 2 ^ r % 2 = 1) := by
 rw [Nat.testBit_eq_decide_div_mod_eq, Nat.pow_add, ← Nat.div_div_eq_div_mul, ← B_pow2, kql l, List.drop_eq_getElem_cons hq, knk]
 generalize num B (xs.drop (q + 1)) = Y
 congr 2
 have e : B = 2 ^ r * (2 ^ (63 - r) * 2) := by
  rw [← Nat.pow_succ, ← Nat.pow_add, show r + (63 - r).succ = 64 from by omega]
 have e2 : xs[q] + B * Y = xs[q] + 2 ^ r * (2 ^ (63 - r) * 2 * Y) := by rw [← Nat.mul_assoc, ← e]
 rw [e2, Nat.add_mul_div_left _ _ (Nat.pow_pos (by decide)), show 2 ^ (63 - r) * 2 * Y = 2 * (2 ^ (63 - r) * Y) from by rw [Nat.mul_comm (2 ^ (63 - r)) 2, Nat.mul_assoc], Nat.add_mul_mod_self_left]
theorem k9f {xs : List Nat} (l : ∀ x ∈ xs, x < B) {i : Nat} (hq : xs.length ≤ i / 64) : (num B xs).testBit i = false := by
 refine Nat.testBit_lt_two_pow ?_
 have h1 := num_lt B1 l
 rw [B_pow2] at h1
 have h2 : 2 ^ (64 * xs.length) ≤ 2 ^ i := Nat.pow_le_pow_right (by decide) (by omega)
 omega
theorem tdiv64 (n : Nat) : Int.tdiv (n : Int) 64 = ((n / 64 : Nat) : Int) := rfl
theorem tmod64 (n : Nat) : Int.tmod (n : Int) 64 = ((n % 64 : Nat) : Int) := rfl
theorem k4r {xs : List Nat} {i : Int} (h : rt xs = false) : bitN xs i = false := by unfold bitN; rw [h]; rfl
theorem k28 {xs : List Nat} {i : Int} (h : i < 0) : bitN xs i = false := by unfold bitN; rw [show decide (0 ≤ i) = false from by rw [decide_eq_false_iff_not]; omega]; cases rt xs <;> rfl
theorem kre {xs : List Nat} {i : Nat} (h : rt xs = true) : bitN xs (i : Int) = (num B xs).testBit i := by unfold bitN; rw [h, show decide (0 ≤ (i : Int)) = true from by rw [decide_eq_true_eq]; omega]; rfl
theorem k2t {xs : List Nat} (l : ∀ x ∈ xs, x < B) {i : Int} (hi : i ≤ 9223372036854775807) : runP kr4 (.fn xs i) = some (bitN xs i) := by
 refine kbp (.done ?_)
 show kk1 _ _ = _
 unfold kk1
 by_cases hr : rt xs = true
 ·rw [hr, cond_true]
  by_cases h0 : i < 0
  ·rw [condF (by rw [decide_eq_false_iff_not]; omega), k28 h0]
  ·obtain ⟨j, rfl⟩ : ∃ j : Nat, i = (j : Int) := ⟨i.toNat, by omega⟩
   rw [condT (by rw [decide_eq_true_eq]; omega), kre hr, tdiv64, tmod64, kbg (by omega)]
   by_cases hq : j / 64 < xs.length
   ·have hb : xs[j / 64] < 18446744073709551616 := l _ (List.getElem_mem _)
    have h2 : xs[j / 64] / 2 ^ (j % 64) < 18446744073709551616 := Nat.lt_of_le_of_lt (Nat.div_le_self _ _) hb
    rw [condT (by rw [decide_eq_true_eq]; omega), kbm hq, Option.bind_some, condF (by rw [decide_eq_false_iff_not]; omega), kbx, Nat.min_eq_left (by omega), kxd h2]
    have := k0a l hq (Nat.mod_lt j (show 0 < 64 by decide))
    rw [Nat.div_add_mod] at this
    rw [this]
    generalize xs[j / 64] / 2 ^ (j % 64) = z
    congr 3
    exact propext (by omega)
   ·rw [condF (by rw [decide_eq_false_iff_not]; omega), k9f l (by omega)]
 ·rw [show rt xs = false from by simpa using hr, cond_false, k4r (by simpa using hr)]
theorem kt6 {h : AH} {s : Sl} {xs : List Nat} (n : Nats h s xs) {i : Int} (hi : i ≤ 9223372036854775807) : Runs (go (.fn F.ki1 [s.v, .int .i64 i]) h) (kpp h (bitN xs i)) := k05 n (k2t n.lt hi)
end Go.Ab

/- squeezed -/
set_option linter.unusedVariables false
set_option linter.unusedSimpArgs false
set_option maxRecDepth 10000
namespace Go.Ab
open Go.Proofs Go.Num
def belowF (xs ns : List Nat) : Bool := rt xs && decide (cmpN xs ns < 0)
theorem k4m {h : AH} {i p : Nat} {a s0 s2 s3 : Sl} {z : Int} {xs ns : List Nat} (b : h.has i [s0.v, .int .u64 z, s2.v, s3.v] T.kcd) (hp : h.has p [.ptr (some (.new i 0))] T.kmz) (m : Nats h s0 ns) (n : Nats h a xs) :
  Runs (go (.fn F.kc6 [a.v, .ptr (some (.new p 0))]) h) fun v h' => v = .bool (!belowF xs ns) ∧ Grow h h' := by
 rw [k2u]
 refine Runs.step (kb9 n) ?_
 refine Runs.step (seen rfl) ?_
 unfold belowF
 refine Runs.cond (fun k => ?_) (fun k => ?_)
 ·rw [show rt xs = false from by simpa using k]
  exact Runs.ret ⟨rfl, Grow.refl _⟩
 ·rw [show rt xs = true from by simpa using k, Bool.true_and]
  refine Runs.step rfl ?_
  refine Runs.step (AH.has.rd0 hp rfl rfl) ?_
  refine Runs.step rfl ?_
  refine Runs.step (AH.has.rd b 0 rfl (asSl_v _)) ?_
  obtain ⟨h', e, g⟩ := kdd n m
  refine Runs.step e ?_
  refine Runs.step (seen (kb _ _)) ?_
  refine Runs.ret ⟨?_, g⟩
  congr 1
  rw [Bool.eq_iff_iff]
  simp
theorem kbb7 {h : AH} {i j : Nat} {a s0 s2 s3 : Sl} {z : Int} {xs ns ones nexts : List Nat} {e : TypeId} (b : h.has i [s0.v, .int .u64 z, s2.v, s3.v] T.kcd) (m : Nats h s0 ns) (m2 : Nats h s2 ones) (m3 : Nats h s3 nexts) (c : h.has j [a.v] e) (n : Nats h a xs) :
  Runs (go (.fn F.kpw [.ptr (some (.new i 0)), (⟨some (.new j 0), 1, .is 1⟩ : Sl).v]) h) fun v h' => v = .bool (belowF xs ns) ∧ Grow h h' := by
 rw [k6e]
 refine Runs.new fun H1 b1 g1 => ?_
 have key : Runs (go (.fn F.kkp [(⟨some (.new j 0), 1, .is 1⟩ : Sl).v, .func (.func F.kc6) [] [.ptr (some (.new h.blks.size 0))]]) H1) fun v h' => v = .bool (!belowF xs ns) ∧ Grow H1 h' := by
  rw [kbdq]
  have inner : Runs (go (.fn F.kc1 [(⟨some (.new j 0), 1, .is 1⟩ : Sl).v, .func (.func F.kc6) [] [.ptr (some (.new h.blks.size 0))]]) H1) fun v h' => v = .int .i64 (if belowF xs ns = true then -1 else 0) ∧ Grow H1 h' := by
   rw [kbcl, kwx]
   refine Runs.ifT rfl ?_
   refine Runs.step (show idx (some (Ref.new j 0)) 1 0 1 = some ((Ref.new j 0).add 0) from rfl) ?_
   refine Runs.step (AH.has.rd (g1.has c) 0 rfl (asSl_v _)) ?_
   obtain ⟨_, H2, e2, rfl, g2⟩ := k4m (g1.has b) b1 (m.grow g1) (n.grow g1)
   refine Runs.step e2 ?_
   refine Runs.step (seen rfl) ?_
   cases hb : belowF xs ns
   ·refine Runs.ifT rfl ?_
    exact Runs.ret ⟨rfl, g2⟩
   ·refine Runs.ifF rfl ?_
    rw [kwx]
    refine Runs.ifF (show decide (IntKind.wrap .i64 (0 + 1) < ((1 : Nat) : Int)) = false from by decide) ?_
    exact Runs.ret ⟨rfl, g2⟩
  obtain ⟨_, H2, e2, rfl, g2⟩ := inner
  refine Runs.step e2 ?_
  refine Runs.step (seen (kb _ _)) ?_
  refine Runs.ret ⟨?_, g2⟩
  cases belowF xs ns <;> rfl
 obtain ⟨_, H2, e2, rfl, g2⟩ := key
 refine Runs.step e2 ?_
 refine Runs.step (seen rfl) ?_
 refine Runs.ret ⟨?_, g1.trans g2⟩
 cases belowF xs ns <;> rfl
end Go.Ab

/- squeezed -/
set_option linter.unusedVariables false
set_option linter.unusedSimpArgs false
set_option maxRecDepth 10000
namespace Go.Ab
open Go.Proofs Go.Num
inductive kcz
 | fn (x1c0 : List Nat) (z1c1 : Int) (x1c2 : List Nat) (x1c3 : List Nat) (x2 : List Nat) (x3 : List Nat)
 | p7 (x1c0 : List Nat) (z1c1 : Int) (x1c2 : List Nat) (x1c3 : List Nat) (x2 : List Nat) (x4 : List (List Nat)) (x5 : List Nat) (a6 : Int)
 | p12 (x1 : List Nat) (x2c0 : List Nat) (z2c1 : Int) (x2c2 : List Nat) (x2c3 : List Nat) (x3 : List (List Nat)) (x4 : List Nat) (a5 : Int)
 | p16 (x1 : List Nat) (x2c0 : List Nat) (z2c1 : Int) (x2c2 : List Nat) (x2c3 : List Nat) (x3 : List (List Nat)) (x4 : List Nat) (a5 : Int) (a6 : Int) (a7 : Int)
abbrev kb4 := List Nat × Int
noncomputable def kk7 (x1c0 : List Nat) (z1c1 : Int) (x1c2 : List Nat) (x1c3 : List Nat) (x2 : List Nat) (x3 : List Nat) : Option (kcz ⊕ kb4) :=
 cond (!((belowF x2 x1c0))) (some (.inr ([], 1))) (cond (!(rt x3)) (some (.inr ([], 1))) (cond (decide ((List.length x3 : Int) > 8)) (some (.inr ([], 1))) ((runP kcx (.fn x1c0 z1c1 x1c2 x1c3 x2 x1c3)).bind fun p17 => some (.inl (.p7 x1c0 z1c1 x1c2 x1c3 x3 [x1c2] p17 0)))))
noncomputable def khc (x1c0 : List Nat) (z1c1 : Int) (x1c2 : List Nat) (x1c3 : List Nat) (x2 : List Nat) (x4 : List (List Nat)) (x5 : List Nat) (a6 : Int) : Option (kcz ⊕ kb4) :=
 cond (decide (a6 < 15)) ((atX x4 (IntKind.wrap .i64 ((List.length x4 : Int) - 1))).bind fun y8 => (runP kcx (.fn x1c0 z1c1 x1c2 x1c3 y8 x5)).bind fun p9 => (need (growOk Pg (List.length x4 + 1) T.ku 1 = true)).bind fun c11 => some (.inl (.p7 x1c0 z1c1 x1c2 x1c3 x2 (x4 ++ [p9]) x5 (IntKind.wrap .i64 (a6 + 1))))) (some (.inl (.p12 x2 x1c0 z1c1 x1c2 x1c3 x4 x1c2 (IntKind.wrap .i64 (Int.tdiv (IntKind.wrap .i64 ((IntKind.wrap .i64 ((((bitsN x2 : Nat) : Int)) + 4)) - 1)) 4)))))
noncomputable def kgu (x1 : List Nat) (x2c0 : List Nat) (z2c1 : Int) (x2c2 : List Nat) (x2c3 : List Nat) (x3 : List (List Nat)) (x4 : List Nat) (a5 : Int) : Option (kcz ⊕ kb4) :=
 cond (decide (a5 > 0)) (some (.inl (.p16 x1 x2c0 z2c1 x2c2 x2c3 x3 x4 a5 0 0))) ((u64P 1).bind fun w8 => (runP kcx (.fn x2c0 z2c1 x2c2 x2c3 x4 [w8])).bind fun p9 => some (.inr (p9, 0)))
noncomputable def kgr (x1 : List Nat) (x2c0 : List Nat) (z2c1 : Int) (x2c2 : List Nat) (x2c3 : List Nat) (x3 : List (List Nat)) (x4 : List Nat) (a5 : Int) (a6 : Int) (a7 : Int) : Option (kcz ⊕ kb4) :=
 cond (decide (a7 < 4)) ((runP kcx (.fn x2c0 z2c1 x2c2 x2c3 x4 x4)).bind fun p9 => (need (((IntKind.wrap .i64 ((IntKind.wrap .i64 ((IntKind.wrap .i64 (a5 * 4)) - 1)) - a7)) : Int) ≤ 9223372036854775807)).bind fun c10_0 => cond (((bitN x1 (IntKind.wrap .i64 ((IntKind.wrap .i64 ((IntKind.wrap .i64 (a5 * 4)) - 1)) - a7))))) (cond (decide ((IntKind.wrap .i64 (3 - a7)) < 0)) (none) (some (.inl (.p16 x1 x2c0 z2c1 x2c2 x2c3 x3 p9 a5 (ior .i64 a6 (ishl .i64 1 (IntKind.wrap .i64 (3 - a7)))) (IntKind.wrap .i64 (a7 + 1)))))) (some (.inl (.p16 x1 x2c0 z2c1 x2c2 x2c3 x3 p9 a5 a6 (IntKind.wrap .i64 (a7 + 1)))))) ((atX x3 a6).bind fun y9 => (runP kcx (.fn x2c0 z2c1 x2c2 x2c3 x4 y9)).bind fun p10 => some (.inl (.p12 x1 x2c0 z2c1 x2c2 x2c3 x3 p10 (IntKind.wrap .i64 (a5 - 1)))))
noncomputable def khj : kcz → Option (kcz ⊕ kb4)
 | .fn x1c0 z1c1 x1c2 x1c3 x2 x3 => kk7 x1c0 z1c1 x1c2 x1c3 x2 x3
 | .p7 x1c0 z1c1 x1c2 x1c3 x2 x4 x5 a6 => khc x1c0 z1c1 x1c2 x1c3 x2 x4 x5 a6
 | .p12 x1 x2c0 z2c1 x2c2 x2c3 x3 x4 a5 => kgu x1 x2c0 z2c1 x2c2 x2c3 x3 x4 a5
 | .p16 x1 x2c0 z2c1 x2c2 x2c3 x3 x4 a5 a6 a7 => kgr x1 x2c0 z2c1 x2c2 x2c3 x3 x4 a5 a6 a7
@[reducible] def kj3 (h0 : AH) (r : kb4) (v : AV) (h' : AH) : Prop := ∃ s1 : Sl, v = .tup [s1.v, .int .i64 r.2] ∧ Nats h' s1 r.1 ∧ Grow h0 h' ∧ Own h0 s1
def ket (r : kb4) : kcz → Prop
 | .fn x1c0 z1c1 x1c2 x1c3 x2 x3 => ∀ {h : AH} {s1c0 : Sl} {s1c2 : Sl} {s1c3 : Sl} {a2 : Sl} {a3 : Sl} {i1 : Nat}, h.has i1 [s1c0.v, .int .u64 z1c1, s1c2.v, s1c3.v] T.kcd → Nats h s1c0 x1c0 → Nats h s1c2 x1c2 → Nats h s1c3 x1c3 → Nats h a2 x2 → Nats h a3 x3 → Runs (go (.fn F.kbv [.ptr (some (.new i1 0)), a2.v, a3.v]) h) (kj3 h r)
 | .p7 x1c0 z1c1 x1c2 x1c3 x2 x4 x5 a6 => ∀ {h0 h : AH} {s1c0 : Sl} {s1c2 : Sl} {s1c3 : Sl} {a2 : Sl} {a4 : Sl} {a5 : Sl} {i4 : Option Nat} {i1 : Nat}, Grow h0 h → h0.has i1 [s1c0.v, .int .u64 z1c1, s1c2.v, s1c3.v] T.kcd → Nats h0 s1c0 x1c0 → Nats h0 s1c2 x1c2 → Nats h0 s1c3 x1c3 → Nats h0 a2 x2 → GO El.nats T.ku h a4 i4 x4 → Nats h a5 x5 → LeO h0.blks.size i4 → AvO a5 x5 i4 → Runs (go (.pt F.kbv Td.ko0 [(0, .ptr (some (.new i1 0))), (2, a2.v), (8, .func (.func F.kbb) [.ptr (some (.new i1 0))] []), (9, a4.v), (10, a5.v), (44, .int .i64 a6)]) h) (kj3 h0 r)
 | .p12 x1 x2c0 z2c1 x2c2 x2c3 x3 x4 a5 => ∀ {h0 h : AH} {a1 : Sl} {s2c0 : Sl} {s2c2 : Sl} {s2c3 : Sl} {a3 : Sl} {a4 : Sl} {i2 : Nat}, Grow h0 h → Nats h0 a1 x1 → h0.has i2 [s2c0.v, .int .u64 z2c1, s2c2.v, s2c3.v] T.kcd → Nats h0 s2c0 x2c0 → Nats h0 s2c2 x2c2 → Nats h0 s2c3 x2c3 → Seq El.nats h a3 x3 → Nats h a4 x4 → Runs (go (.pt F.kbv Td.ko7 [(2, a1.v), (8, .func (.func F.kbb) [.ptr (some (.new i2 0))] []), (9, a3.v), (11, a4.v), (12, .int .i64 a5)]) h) (kj3 h0 r)
 | .p16 x1 x2c0 z2c1 x2c2 x2c3 x3 x4 a5 a6 a7 => ∀ {h0 h : AH} {a1 : Sl} {s2c0 : Sl} {s2c2 : Sl} {s2c3 : Sl} {a3 : Sl} {a4 : Sl} {i2 : Nat}, Grow h0 h → Nats h0 a1 x1 → h0.has i2 [s2c0.v, .int .u64 z2c1, s2c2.v, s2c3.v] T.kcd → Nats h0 s2c0 x2c0 → Nats h0 s2c2 x2c2 → Nats h0 s2c3 x2c3 → Seq El.nats h a3 x3 → Nats h a4 x4 → Runs (go (.pt F.kbv Td.kjz [(2, a1.v), (8, .func (.func F.kbb) [.ptr (some (.new i2 0))] []), (9, a3.v), (11, a4.v), (12, .int .i64 a5), (13, .int .i64 a6), (72, .int .i64 a7)]) h) (kj3 h0 r)
theorem kbdk {r : kb4} {o : kcz ⊕ kb4} {x1c0 : List Nat} {z1c1 : Int} {x1c2 : List Nat} {x1c3 : List Nat} {x2 : List Nat} {x3 : List Nat} (e : kk7 x1c0 z1c1 x1c2 x1c3 x2 x3 = some o) (good : GoodS (ket r) r o) : ket r (.fn x1c0 z1c1 x1c2 x1c3 x2 x3) := by
 intro h s1c0 s1c2 s1c3 a2 a3 i1 b1 n1c0 n1c2 n1c3 n2 n3
 rw [k2z]
 unfold kk7 at e
 rw [n3.len]
 refine Runs.new fun H4 b4 g4 => ?_
 obtain ⟨_, H5, e5, rfl, g5⟩ := kbb7 (g4.has b1) (n1c0.grow g4) (n1c2.grow g4) (n1c3.grow g4) b4 (n2.grow g4)
 refine Runs.step e5 ?_
 refine Runs.step (seen rfl) ?_
 refine Runs.cond (fun k6 => ?_) (fun k6 => ?_)
 ·replace e := (condT k6).symm.trans e
  cases e
  cases good
  exact Runs.ret ⟨(⟨none, 0, .is 0⟩ : Sl), rfl, (Nats.nil _), (g4.trans g5), (Own.nil _)⟩
 ·replace e := (condF k6).symm.trans e
  refine Runs.step (kb9 (n3.grow (g4.trans g5))) ?_
  refine Runs.step (seen rfl) ?_
  refine Runs.cond (fun k8 => ?_) (fun k8 => ?_)
  ·replace e := (condT k8).symm.trans e
   cases e
   cases good
   exact Runs.ret ⟨(⟨none, 0, .is 0⟩ : Sl), rfl, (Nats.nil _), (g4.trans g5), (Own.nil _)⟩
  ·replace e := (condF k8).symm.trans e
   refine Runs.cond (fun k9 => ?_) (fun k9 => ?_)
   ·replace e := (condT k9).symm.trans e
    cases e
    cases good
    exact Runs.ret ⟨(⟨none, 0, .is 0⟩ : Sl), rfl, (Nats.nil _), (g4.trans g5), (Own.nil _)⟩
   ·replace e := (condF k9).symm.trans e
    refine Runs.step rfl ?_
    refine Runs.step (AH.has.rd ((g4.trans g5).has b1) 2 rfl (asSl_v _)) ?_
    refine Runs.new fun H10 b10 g10 => ?_
    refine Runs.step rfl ?_
    have G11 := ((g4.trans g5).trans g10)
    have b1_12 := G11.has b1
    refine Runs.step (AH.has.rd b1_12 3 rfl (asSl_v _)) ?_
    have n1c0_13 := n1c0.grow G11
    have n1c2_14 := n1c2.grow G11
    have n1c3_15 := n1c3.grow G11
    have n2_16 := n2.grow G11
    obtain ⟨p17, q17, e⟩ := Option.bind_eq_some_iff.1 e
    obtain ⟨_, H17, e17, s17, rfl, n17, g17, o17⟩ := kks b1_12 n1c0_13 n1c2_14 n1c3_15 n2_16 n1c3_15 q17
    refine Runs.step e17 ?_
    refine Runs.step (seen (asSl_v _)) ?_
    cases e
    have G18 := (G11.trans g17)
    exact good G18 b1 n1c0 n1c2 n1c3 n3 (GO.one (g17.has b10) ⟨_, rfl, (n1c2_14.grow g17)⟩ (AvE.nats (i := some (H5.blks.size)) (Av.of_base n1c2 (Nat.le_trans ((g4.trans g5)).size (Nat.le_refl _))))) n17 (Nat.le_trans ((g4.trans g5)).size (Nat.le_refl _)) (Av.of_own o17 (b10).lt)
theorem k53 {r : kb4} {o : kcz ⊕ kb4} {x1c0 : List Nat} {z1c1 : Int} {x1c2 : List Nat} {x1c3 : List Nat} {x2 : List Nat} {x4 : List (List Nat)} {x5 : List Nat} {a6 : Int} (e : khc x1c0 z1c1 x1c2 x1c3 x2 x4 x5 a6 = some o) (good : GoodS (ket r) r o) : ket r (.p7 x1c0 z1c1 x1c2 x1c3 x2 x4 x5 a6) := by
 intro h0 h s1c0 s1c2 s1c3 a2 a4 a5 i4 i1 g0 b1 n1c0 n1c2 n1c3 n2 v4 n5 hi4 av5_4
 rw [kba1]
 unfold khc at e
 rw [(v4).seq.len]
 refine Runs.cond (fun k7 => ?_) (fun k7 => ?_)
 ·replace e := (condT k7).symm.trans e
  obtain ⟨y8, q8, e⟩ := Option.bind_eq_some_iff.1 e
  obtain ⟨r8, cs8, j8, E8, l8⟩ := ((v4).seq).at q8
  obtain ⟨s8, rfl, n8⟩ := E8
  refine Runs.step j8 ?_
  refine Runs.step (l8.rd0 (Grow.refl _) rfl (asSl_v _)) ?_
  obtain ⟨p9, q9, e⟩ := Option.bind_eq_some_iff.1 e
  obtain ⟨_, H9, e9, s9, rfl, n9, g9, o9⟩ := kks (g0.has b1) (n1c0.grow g0) (n1c2.grow g0) (n1c3.grow g0) n8 n5 q9
  refine Runs.step e9 ?_
  refine Runs.step (seen (asSl_v _)) ?_
  refine Runs.new fun H10 b10 g10 => ?_
  refine Runs.step (kbdz b10 (by rw [kw3]; rfl)) ?_
  obtain ⟨c11, q11, e⟩ := Option.bind_eq_some_iff.1 e
  obtain ⟨s11, H11, e11, v11, u11⟩ := GO.push (E := El.nats) (v4.grow (g9.trans g10)) ⟨_, rfl, (n9.grow g10)⟩ (AvE.nats (AvO.of_own o9 (v4).lt)) c11.down
  refine Runs.step e11 ?_
  have n5_11 := (n5.grow (g9.trans g10)).updo av5_4 u11
  have n9_11 := (n9.grow g10).updo (AvO.of_own o9 (v4).lt) u11
  have b10_11 := AH.has.updo b10 (NeO.of_lt ((v4.grow g9)).lt (Nat.le_refl _)) u11
  refine Runs.step (asSl_v _) ?_
  have G12 := ((g0.trans g9).trans g10)
  cases e
  have G13 := (G12.updo hi4 u11)
  exact good G13 b1 n1c0 n1c2 n1c3 n2 v11 n5_11 (LeO.trans (G12).size (Nat.le_refl _)) (AvO.of_base n5 (LeO.trans ((g9.trans g10)).size (Nat.le_refl _)))
 ·replace e := (condF k7).symm.trans e
  refine Runs.step rfl ?_
  refine Runs.step (AH.has.rd (g0.has b1) 2 rfl (asSl_v _)) ?_
  obtain ⟨_, H8, e8, rfl, g8⟩ := kt7 (n2.grow g0)
  refine Runs.step e8 ?_
  refine Runs.step (seen (kb _ _)) ?_
  cases e
  exact good (g0.trans g8) n2 b1 n1c0 n1c2 n1c3 (((v4.grow g8)).seq) (n1c2.grow (g0.trans g8))
theorem k3y {r : kb4} {o : kcz ⊕ kb4} {x1 : List Nat} {x2c0 : List Nat} {z2c1 : Int} {x2c2 : List Nat} {x2c3 : List Nat} {x3 : List (List Nat)} {x4 : List Nat} {a5 : Int} (e : kgu x1 x2c0 z2c1 x2c2 x2c3 x3 x4 a5 = some o) (good : GoodS (ket r) r o) : ket r (.p12 x1 x2c0 z2c1 x2c2 x2c3 x3 x4 a5) := by
 intro h0 h a1 s2c0 s2c2 s2c3 a3 a4 i2 g0 n1 b2 n2c0 n2c2 n2c3 n3 n4
 rw [k95]
 unfold kgu at e
 refine Runs.cond (fun k6 => ?_) (fun k6 => ?_)
 ·replace e := (condT k6).symm.trans e
  cases e
  exact good g0 n1 b2 n2c0 n2c2 n2c3 n3 n4
 ·replace e := (condF k6).symm.trans e
  refine Runs.new fun H7 b7 g7 => ?_
  obtain ⟨w8, z8, e⟩ := Option.bind_eq_some_iff.1 e
  obtain ⟨p9, q9, e⟩ := Option.bind_eq_some_iff.1 e
  obtain ⟨_, H9, e9, s9, rfl, n9, g9, o9⟩ := kks ((g0.trans g7).has b2) (n2c0.grow (g0.trans g7)) (n2c2.grow (g0.trans g7)) (n2c3.grow (g0.trans g7)) (n4.grow g7) (Nats.of_has1 b7 z8) q9
  refine Runs.step e9 ?_
  refine Runs.step (seen (asSl_v _)) ?_
  cases e
  cases good
  have G10 := ((g0.trans g7).trans g9)
  exact Runs.ret ⟨s9, rfl, n9, G10, (o9.of_le (g0.trans g7))⟩
theorem kbck {r : kb4} {o : kcz ⊕ kb4} {x1 : List Nat} {x2c0 : List Nat} {z2c1 : Int} {x2c2 : List Nat} {x2c3 : List Nat} {x3 : List (List Nat)} {x4 : List Nat} {a5 : Int} {a6 : Int} {a7 : Int} (e : kgr x1 x2c0 z2c1 x2c2 x2c3 x3 x4 a5 a6 a7 = some o) (good : GoodS (ket r) r o) : ket r (.p16 x1 x2c0 z2c1 x2c2 x2c3 x3 x4 a5 a6 a7) := by
 intro h0 h a1 s2c0 s2c2 s2c3 a3 a4 i2 g0 n1 b2 n2c0 n2c2 n2c3 n3 n4
 rw [kbev]
 unfold kgr at e
 rw [n3.len]
 refine Runs.cond (fun k8 => ?_) (fun k8 => ?_)
 ·replace e := (condT k8).symm.trans e
  obtain ⟨p9, q9, e⟩ := Option.bind_eq_some_iff.1 e
  obtain ⟨_, H9, e9, s9, rfl, n9, g9, o9⟩ := kks (g0.has b2) (n2c0.grow g0) (n2c2.grow g0) (n2c3.grow g0) n4 n4 q9
  refine Runs.step e9 ?_
  refine Runs.step (seen (asSl_v _)) ?_
  obtain ⟨c10_0, q10_0, e⟩ := Option.bind_eq_some_iff.1 e
  obtain ⟨_, H10, e10, rfl, g10⟩ := kt6 (n1.grow (g0.trans g9))  c10_0.down
  refine Runs.step e10 ?_
  refine Runs.step (seen rfl) ?_
  refine Runs.cond (fun k11 => ?_) (fun k11 => ?_)
  ·replace e := (condT k11).symm.trans e
   refine Runs.cond (fun k12 => ?_) (fun k12 => ?_)
   ·replace e := (condT k12).symm.trans e
    cases e
   ·replace e := (condF k12).symm.trans e
    cases e
    have G13 := ((g0.trans g9).trans g10)
    exact good G13 n1 b2 n2c0 n2c2 n2c3 (n3.grow (g9.trans g10)) (n9.grow g10)
  ·replace e := (condF k11).symm.trans e
   cases e
   have G12 := ((g0.trans g9).trans g10)
   exact good G12 n1 b2 n2c0 n2c2 n2c3 (n3.grow (g9.trans g10)) (n9.grow g10)
 ·replace e := (condF k8).symm.trans e
  obtain ⟨y9, q9, e⟩ := Option.bind_eq_some_iff.1 e
  obtain ⟨r9, cs9, j9, E9, l9⟩ := (n3).at q9
  obtain ⟨s9, rfl, n9⟩ := E9
  refine Runs.step j9 ?_
  refine Runs.step (l9.rd0 (Grow.refl _) rfl (asSl_v _)) ?_
  obtain ⟨p10, q10, e⟩ := Option.bind_eq_some_iff.1 e
  obtain ⟨_, H10, e10, s10, rfl, n10, g10, o10⟩ := kks (g0.has b2) (n2c0.grow g0) (n2c2.grow g0) (n2c3.grow g0) n4 n9 q10
  refine Runs.step e10 ?_
  refine Runs.step (seen (asSl_v _)) ?_
  cases e
  exact good (g0.trans g10) n1 b2 n2c0 n2c2 n2c3 (n3.grow g10) n10
theorem k1z {s : kcz} {r : kb4} (it : Iter khj s r) : ket r s := Iter.ind (fun s o e good => by
 cases s with
 | fn x1c0 z1c1 x1c2 x1c3 x2 x3 => exact @kbdk _ _ x1c0 z1c1 x1c2 x1c3 x2 x3 e good
 | p7 x1c0 z1c1 x1c2 x1c3 x2 x4 x5 a6 => exact @k53 _ _ x1c0 z1c1 x1c2 x1c3 x2 x4 x5 a6 e good
 | p12 x1 x2c0 z2c1 x2c2 x2c3 x3 x4 a5 => exact @k3y _ _ x1 x2c0 z2c1 x2c2 x2c3 x3 x4 a5 e good
 | p16 x1 x2c0 z2c1 x2c2 x2c3 x3 x4 a5 a6 a7 => exact @kbck _ _ x1 x2c0 z2c1 x2c2 x2c3 x3 x4 a5 a6 a7 e good
 ) it
theorem kwy {h : AH} {s1c0 : Sl} {s1c2 : Sl} {s1c3 : Sl} {a2 : Sl} {a3 : Sl} {i1 : Nat} {x1c0 : List Nat} {z1c1 : Int} {x1c2 : List Nat} {x1c3 : List Nat} {x2 : List Nat} {x3 : List Nat} (b1 : h.has i1 [s1c0.v, .int .u64 z1c1, s1c2.v, s1c3.v] T.kcd) (n1c0 : Nats h s1c0 x1c0) (n1c2 : Nats h s1c2 x1c2) (n1c3 : Nats h s1c3 x1c3) (n2 : Nats h a2 x2) (n3 : Nats h a3 x3) {r : kb4} (q : runP khj (.fn x1c0 z1c1 x1c2 x1c3 x2 x3) = some r) : Runs (go (.fn F.kbv [.ptr (some (.new i1 0)), a2.v, a3.v]) h) (kj3 h r) := k1z (kbz q) b1 n1c0 n1c2 n1c3 n2 n3
end Go.Ab

/- squeezed -/
set_option linter.unusedVariables false
set_option linter.unusedSimpArgs false
set_option maxRecDepth 10000
namespace Go.Ab
open Go.Proofs Go.Num
theorem k1n {n : Nat} (h : n ≤ 1000000) : growOk Pg n T.ku 1 = true := by
 unfold growOk
 rw [kba6, kbc7]
 have h1 : n * 24 ≤ kb2 := by simp only [kb2]; omega
 have h2 : n ≤ kb2 := by simp only [kb2]; omega
 simp [h1, h2]
theorem k8e : ∀ c : _root_.Fin 4, ∀ m : _root_.Fin (2 ^ c.val), ior .i64 ((m.val * 2 ^ (4 - c.val) : Nat) : Int) (ishl .i64 1 (IntKind.wrap .i64 (3 - (c.val : Int)))) = (((2 * m.val + 1) * 2 ^ (3 - c.val) : Nat) : Int) := by decide +kernel
theorem kbdy (E j : Nat) : E / 2 ^ j = 2 * (E / 2 ^ (j + 1)) + (E.testBit j).toNat := by
 rw [Nat.testBit_eq_decide_div_mod_eq, Nat.pow_succ, ← Nat.div_div_eq_div_mul]
 generalize E / 2 ^ j = z
 have := Nat.mod_two_eq_zero_or_one z
 rcases this with h | h <;> rw [h] <;> simp <;> omega
structure RingOk (N k v : Nat) : Prop where
 hk : k ≤ 60
 lt : N < B ^ k
 one : 1 < N
 odd : N % 2 = 1
 hv : v < B
 inv : (N * v + 1) % B = 0
 len : (digs B N).length = k
def form (N k u : Nat) : List Nat := digs B (u * 2 ^ (64 * k) % N)
def kci (N k A : Nat) (j : Nat) : List (List Nat) := (List.range (j + 1)).map fun i => form N k (A ^ i)
section
variable {N k v : Nat} {ones nexts : List Nat}
theorem RingOk.prod (r : RingOk N k v) {X Y : Nat} (hX : X < N) (hY : Y < N) : runP kcx (.fn (digs B N) (v : Int) ones nexts (digs B X) (digs B Y)) = some (digs B (redc N (64 * k) (X * Y))) := by
 have := k6v (ns := digs B N) (xs := digs B X) (ys := digs B Y) (ones := ones) (nexts := nexts) r.hk r.len (kz B2 N) (kcq B2 N) (kz B2 X) (kz B2 Y) r.hv
  (by rw [kf B2]; exact r.inv) (by rw [kf B2]; exact r.odd) ((kx B2 X k).2 (Nat.lt_trans hX r.lt)) (by rw [kf B2, kf B2]; exact hY)
 simpa only [kf B2] using this
theorem RingOk.forms (r : RingOk N k v) (x y : Nat) : runP kcx (.fn (digs B N) (v : Int) ones nexts (form N k x) (form N k y)) = some (form N k (x * y)) := by
 have hN : 0 < N := by have := r.one; omega
 unfold form
 rw [r.prod (Nat.mod_lt _ hN) (Nat.mod_lt _ hN), kbeb r.odd]
theorem RingOk.into (r : RingOk N k v) {a : Nat} (ha : a < N) : runP kcx (.fn (digs B N) (v : Int) ones nexts (digs B a) (digs B (2 ^ (64 * k) * 2 ^ (64 * k) % N))) = some (form N k a) := by
 have hN : 0 < N := by have := r.one; omega
 unfold form
 rw [r.prod ha (Nat.mod_lt _ hN), k9r r.odd]
theorem RingOk.out (r : RingOk N k v) (x : Nat) : runP kcx (.fn (digs B N) (v : Int) ones nexts (form N k x) [1]) = some (digs B (x % N)) := by
 have hN : 0 < N := by have := r.one; omega
 have h1 : ([1] : List Nat) = digs B 1 := by rw [ked B2 (by decide), show 1 / B = 0 from rfl, kbq]; rfl
 unfold form
 rw [h1, r.prod (Nat.mod_lt _ hN) r.one, k7a r.odd]
theorem k8n (A j : Nat) : kci N k A (j + 1) = kci N k A j ++ [form N k (A ^ (j + 1))] := by
 unfold kci
 rw [List.range_succ, List.map_append]
 rfl
theorem kyv {A j i : Nat} (h : i ≤ j) : atX (kci N k A j) (i : Int) = some (form N k (A ^ i)) := by
 unfold kci
 rw [kqt (by rw [List.length_map, List.length_range]; omega), List.getElem_map, List.getElem_range]
theorem kt2 (r : RingOk N k v) {es : List Nat} (le : ∀ x ∈ es, x < B) (re : rt es = true) {A t : Nat} (ht : t ≤ 100000) (K : Iter khj (.p12 es (digs B N) (v : Int) ones nexts (kci N k A 15) (form N k (A ^ (num B es / 2 ^ (4 * t)))) (t : Int)) (digs B (A ^ num B es % N), 0)) :
  ∀ (d c m q : Nat), c + d = 4 → num B es / 2 ^ (4 * (t + 1) - c) = q * 2 ^ c + m → m < 2 ^ c →
   Iter khj (.p16 es (digs B N) (v : Int) ones nexts (kci N k A 15) (form N k (A ^ (q * 2 ^ c))) ((t + 1 : Nat) : Int) ((m * 2 ^ (4 - c) : Nat) : Int) (c : Int)) (digs B (A ^ num B es % N), 0)
 | 0, c, m, q, hc, hq, hm => by
  have hc : c = 4 := by omega
  subst hc
  refine .next ?_ K
  show kgr _ _ _ _ _ _ _ _ _ _ = _
  unfold kgr
  have h16 : (2 : Nat) ^ 4 = 16 := rfl
  rw [h16] at hm
  rw [condF (by decide), show m * 2 ^ (4 - 4) = m from by simp, kyv (by omega), Option.bind_some, r.forms, Option.bind_some, show (((t + 1 : Nat) : Int) - 1) = (t : Int) from by omega, kbg (by omega), ← Nat.pow_add, ← hq, show 4 * (t + 1) - 4 = 4 * t from by omega]
 | d + 1, c, m, q, hc, hq, hm => by
  have hb := kbdy (num B es) (4 * (t + 1) - (c + 1))
  rw [show 4 * (t + 1) - (c + 1) + 1 = 4 * (t + 1) - c from by omega, hq] at hb
  have hd := k8e ⟨c, by omega⟩ ⟨m, hm⟩
  dsimp only at hd
  have e1 : q * 2 ^ (c + 1) = q * 2 ^ c + q * 2 ^ c := by rw [Nat.pow_succ, ← Nat.mul_assoc]; omega
  have e2 : m * 2 ^ (4 - c) = 2 * m * 2 ^ (4 - (c + 1)) := by rw [show 4 - c = 4 - (c + 1) + 1 from by omega, Nat.pow_succ, Nat.mul_comm (2 ^ (4 - (c + 1))) 2, ← Nat.mul_assoc, Nat.mul_comm m 2]
  have hi : (IntKind.wrap .i64 ((IntKind.wrap .i64 ((IntKind.wrap .i64 (((t + 1 : Nat) : Int) * 4)) - 1)) - (c : Int))) = ((4 * (t + 1) - (c + 1) : Nat) : Int) := by
   rw [show ((t + 1 : Nat) : Int) * 4 = ((4 * (t + 1) : Nat) : Int) from by omega, kbg (by omega), show ((4 * (t + 1) : Nat) : Int) - 1 = ((4 * (t + 1) - 1 : Nat) : Int) from by omega, kbg (by omega), show ((4 * (t + 1) - 1 : Nat) : Int) - (c : Int) = ((4 * (t + 1) - (c + 1) : Nat) : Int) from by omega, kbg (by omega)]
  have hm2 : 2 ^ (c + 1) = 2 * 2 ^ c := by rw [Nat.pow_succ]; omega
  have hneed : ((4 * (t + 1) - (c + 1) : Nat) : Int) ≤ 9223372036854775807 := by omega
  have step : kgr es (digs B N) (v : Int) ones nexts (kci N k A 15) (form N k (A ^ (q * 2 ^ c))) ((t + 1 : Nat) : Int) ((m * 2 ^ (4 - c) : Nat) : Int) (c : Int) =
    some (.inl (.p16 es (digs B N) (v : Int) ones nexts (kci N k A 15) (form N k (A ^ (q * 2 ^ (c + 1)))) ((t + 1 : Nat) : Int) (((2 * m + ((num B es).testBit (4 * (t + 1) - (c + 1))).toNat) * 2 ^ (4 - (c + 1)) : Nat) : Int) ((c + 1 : Nat) : Int))) := by
   unfold kgr
   rw [condT (by rw [decide_eq_true_eq]; omega), r.forms, Option.bind_some, hi, ki hneed, Option.bind_some, kre re, kw (by omega), ← Nat.pow_add, ← e1]
   cases hbit : (num B es).testBit (4 * (t + 1) - (c + 1))
   ·rw [cond_false, e2]
    rfl
   ·rw [cond_true, condF (by rw [decide_eq_false_iff_not, show (3 : Int) - (c : Int) = ((3 - c : Nat) : Int) from by omega, kbg (by omega)]; omega), hd, show 4 - (c + 1) = 3 - c from by omega]
    rfl
  refine .next step (kt2 r le re ht K d (c + 1) _ q (by omega) ?_ ?_)
  ·rw [hb, e1]
   omega
  ·cases (num B es).testBit (4 * (t + 1) - (c + 1))
   ·show 2 * m + 0 < _
    omega
   ·show 2 * m + 1 < _
    omega
theorem kuq (r : RingOk N k v) {es : List Nat} (le : ∀ x ∈ es, x < B) (re : rt es = true) {A : Nat} : ∀ t : Nat, t ≤ 100000 →
  Iter khj (.p12 es (digs B N) (v : Int) ones nexts (kci N k A 15) (form N k (A ^ (num B es / 2 ^ (4 * t)))) (t : Int)) (digs B (A ^ num B es % N), 0)
 | 0, _ => by
  refine .done ?_
  show kgu _ _ _ _ _ _ _ _ = _
  unfold kgu
  rw [condF (by decide), show u64P 1 = some 1 from rfl, Option.bind_some, r.out, Option.bind_some, Nat.mul_zero, Nat.pow_zero, Nat.div_one]
 | t + 1, ht => by
  have K := kuq r le re (A := A) t (by omega)
  have := kt2 r le re (by omega) K 4 0 0 (num B es / 2 ^ (4 * (t + 1))) (by omega) (by simp) (by simp)
  rw [Nat.pow_zero, Nat.mul_one, Nat.zero_mul] at this
  refine .next ?_ this
  show kgu _ _ _ _ _ _ _ _ = _
  unfold kgu
  rw [condT (by rw [decide_eq_true_eq]; omega)]
  rfl
theorem exp_p7 (r : RingOk N k v) (h1 : ones = form N k 1) {es : List Nat} (le : ∀ x ∈ es, x < B) (re : rt es = true) {A : Nat} : ∀ (d j : Nat), j + d = 15 →
  Iter khj (.p7 (digs B N) (v : Int) ones nexts es (kci N k A j) (form N k A) (j : Int)) (digs B (A ^ num B es % N), 0)
 | 0, j, hj => by
  have hj : j = 15 := by omega
  subst hj
  have h64 := (rt_iff.1 re).1
  have hlt := num_lt B1 le
  rw [B_pow2] at hlt
  have hb : bitsN es ≤ 64 * 64 := by
   unfold bitsN
   rw [if_pos re]
   exact Nat.le_trans (bl_le hlt) (Nat.mul_le_mul_left _ h64)
  have hE : num B es < 2 ^ bitsN es := by
   unfold bitsN
   rw [if_pos re]
   exact (bl_Bl _).1
  have := kuq r le re (A := A) (ones := ones) (nexts := nexts) ((bitsN es + 3) / 4) (by omega)
  have hz : num B es / 2 ^ (4 * ((bitsN es + 3) / 4)) = 0 := by
   refine Nat.div_eq_of_lt (Nat.lt_of_lt_of_le hE (Nat.pow_le_pow_right (by decide) (by omega)))
  rw [hz, Nat.pow_zero, ← h1] at this
  refine .next ?_ this
  show khc _ _ _ _ _ _ _ _ = _
  unfold khc
  rw [condF (by decide), show ((bitsN es : Nat) : Int) + 4 = ((bitsN es + 4 : Nat) : Int) from by omega, kbg (by omega), show ((bitsN es + 4 : Nat) : Int) - 1 = ((bitsN es + 3 : Nat) : Int) from by omega, kbg (by omega), show Int.tdiv ((bitsN es + 3 : Nat) : Int) 4 = (((bitsN es + 3) / 4 : Nat) : Int) from rfl, kbg (by omega)]
 | d + 1, j, hj => by
  have hl : (kci N k A j).length = j + 1 := by unfold kci; simp
  refine .next ?_ (exp_p7 r h1 le re d (j + 1) (by omega))
  show khc _ _ _ _ _ _ _ _ = _
  unfold khc
  have hg : growOk Pg (j + 1 + 1) T.ku 1 = true := k1n (by omega)
  rw [condT (by rw [decide_eq_true_eq]; omega), hl, show ((j + 1 : Nat) : Int) - 1 = (j : Int) from by omega, kbg (by omega), kyv (Nat.le_refl _), Option.bind_some, r.forms, Option.bind_some, ki hg, Option.bind_some, kw (by omega), k8n, Nat.pow_succ]
theorem kyd (r : RingOk N k v) {A : Nat} (hA : A < N) {es : List Nat} (le : ∀ x ∈ es, x < B) (re : rt es = true) (h8 : es.length ≤ 8) :
  runP khj (.fn (digs B N) (v : Int) (form N k 1) (digs B (2 ^ (64 * k) * 2 ^ (64 * k) % N)) (digs B A) es) = some (digs B (A ^ num B es % N), 0) := by
 have := exp_p7 r rfl (nexts := digs B (2 ^ (64 * k) * 2 ^ (64 * k) % N)) le re (A := A) 15 0 (by omega)
 refine kbp (.next ?_ this)
 show kk7 _ _ _ _ _ _ = _
 have h60 : N < B ^ 64 := Nat.lt_of_lt_of_le r.lt (Nat.pow_le_pow_right (by decide) (by have := r.hk; omega))
 have hb : belowF (digs B A) (digs B N) = true := by
  unfold belowF
  rw [kn (Nat.lt_trans hA h60), kl6 (kn (Nat.lt_trans hA h60)) (kn h60), kf B2, kf B2]
  unfold cmp
  rw [if_pos hA]
  rfl
 unfold kk7
 rw [hb, re, show (!true) = false from rfl, cond_false, cond_false, condF (by rw [decide_eq_false_iff_not]; omega), r.into hA, Option.bind_some]
 simp [kci, form]
end
end Go.Ab

/- squeezed -/
set_option linter.unusedVariables false
set_option linter.unusedSimpArgs false
set_option maxRecDepth 10000
namespace Go.Ab
open Go.Proofs Go.Num
inductive ki0
 | fn (x1c0 : List Nat) (z1c1 : Int) (x1c2 : List Nat) (x1c3 : List Nat) (a2 : Int)
 | no
abbrev kf9 := List Nat
noncomputable def klc (x1c0 : List Nat) (z1c1 : Int) (x1c2 : List Nat) (x1c3 : List Nat) (a2 : Int) : Option (ki0 ⊕ kf9) :=
 (mkI (IntKind.wrap .i64 ((IntKind.wrap .i64 (a2 * (List.length x1c0 : Int))) + 1)) (IntKind.wrap .i64 ((IntKind.wrap .i64 (a2 * (List.length x1c0 : Int))) + 1))).bind fun m3 => (inI (List.length (List.replicate m3 0)) (IntKind.wrap .i64 (a2 * (List.length x1c0 : Int)))).bind fun j4 => (u64P 1).bind fun w5 => some (.inr ((divN (List.set (List.replicate m3 0) j4 w5) x1c0).2.1))
noncomputable def kri : ki0 → Option (ki0 ⊕ kf9)
 | .fn x1c0 z1c1 x1c2 x1c3 a2 => klc x1c0 z1c1 x1c2 x1c3 a2
 | .no => none
@[reducible] def kwu (h0 : AH) (r : kf9) (v : AV) (h' : AH) : Prop := ∃ s1 : Sl, v = s1.v ∧ Nats h' s1 r ∧ Grow h0 h' ∧ Own h0 s1
def kq8 (r : kf9) : ki0 → Prop
 | .fn x1c0 z1c1 x1c2 x1c3 a2 => ∀ {h : AH} {s1c0 : Sl} {s1c2 : Sl} {s1c3 : Sl} {i1 : Nat}, h.has i1 [s1c0.v, .int .u64 z1c1, s1c2.v, s1c3.v] T.kcd → Nats h s1c0 x1c0 → Nats h s1c2 x1c2 → Nats h s1c3 x1c3 → Runs (go (.fn F.kkh [.ptr (some (.new i1 0)), .int .i64 a2]) h) (kwu h r)
 | .no => True
theorem k1e {r : kf9} {o : ki0 ⊕ kf9} {x1c0 : List Nat} {z1c1 : Int} {x1c2 : List Nat} {x1c3 : List Nat} {a2 : Int} (e : klc x1c0 z1c1 x1c2 x1c3 a2 = some o) (good : GoodS (kq8 r) r o) : kq8 r (.fn x1c0 z1c1 x1c2 x1c3 a2) := by
 intro h s1c0 s1c2 s1c3 i1 b1 n1c0 n1c2 n1c3
 rw [kbfd]
 unfold klc at e
 refine Runs.step rfl ?_
 refine Runs.step (AH.has.rd b1 0 rfl (asSl_v _)) ?_
 rw [n1c0.len]
 obtain ⟨m3, q3, e⟩ := Option.bind_eq_some_iff.1 e
 refine Runs.mk q3 kc2 fun s3 H3 v3 g3 => ?_
 rw [v3.nats.len]
 refine Runs.step rfl ?_
 refine Runs.step (AH.has.rd (g3.has b1) 0 rfl (asSl_v _)) ?_
 rw [(n1c0.grow g3).len]
 obtain ⟨j4, q4, e⟩ := Option.bind_eq_some_iff.1 e
 refine Runs.step (v3.idx rfl q4) ?_
 obtain ⟨w5, z5, e⟩ := Option.bind_eq_some_iff.1 e
 refine Runs.vput v3 rfl q4 z5 fun H5 v5 u5 => ?_
 refine Runs.step rfl ?_
 refine Runs.step (AH.has.rd ((g3.updr (Nat.le_refl _) u5).has b1) 0 rfl (asSl_v _)) ?_
 obtain ⟨s6, s6b, H6, e6, n6, n6b, g6, o6, o6b⟩ := ke7 v5.nats (n1c0.grow (g3.updr (Nat.le_refl _) u5))
 refine Runs.step e6 ?_
 refine Runs.step rfl ?_
 refine Runs.step (seen (asSl_v _)) ?_
 refine Runs.step (seen (asSl_v _)) ?_
 refine Runs.step (seen (kb _ _)) ?_
 cases e
 cases good
 have G7 := ((g3.updr (Nat.le_refl _) u5).trans g6)
 exact Runs.ret ⟨s6b, rfl, n6b, G7, (o6b.of_le (g3.updr (Nat.le_refl _) u5))⟩
theorem kbex {s : ki0} {r : kf9} (it : Iter kri s r) : kq8 r s := Iter.ind (fun s o e good => by
 cases s with
 | fn x1c0 z1c1 x1c2 x1c3 a2 => exact @k1e _ _ x1c0 z1c1 x1c2 x1c3 a2 e good
 | no => exact True.intro
 ) it
theorem kv3 {h : AH} {s1c0 : Sl} {s1c2 : Sl} {s1c3 : Sl} {i1 : Nat} {x1c0 : List Nat} {z1c1 : Int} {x1c2 : List Nat} {x1c3 : List Nat} {a2 : Int} (b1 : h.has i1 [s1c0.v, .int .u64 z1c1, s1c2.v, s1c3.v] T.kcd) (n1c0 : Nats h s1c0 x1c0) (n1c2 : Nats h s1c2 x1c2) (n1c3 : Nats h s1c3 x1c3) {r : kf9} (q : runP kri (.fn x1c0 z1c1 x1c2 x1c3 a2) = some r) : Runs (go (.fn F.kkh [.ptr (some (.new i1 0)), .int .i64 a2]) h) (kwu h r) := kbex (kbz q) b1 n1c0 n1c2 n1c3
end Go.Ab
