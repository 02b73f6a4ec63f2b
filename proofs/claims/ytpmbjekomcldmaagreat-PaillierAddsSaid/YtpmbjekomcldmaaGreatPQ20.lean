/- squeezed -/
import Derived.Test.YtpmbjekomcldmaaGreatPP10

set_option linter.unusedVariables false
set_option linter.unusedSimpArgs false
set_option maxRecDepth 10000
namespace Go.Ab
open Go.Proofs Go.Num
noncomputable def kg (a1 : Int) (a2 : Int) (x3 : List Nat) (x4 : List Nat) (x5 : List Nat) (x6 : List Nat) : Bool :=
 cond (!((few06 [x3, x4, x5, x6]))) (true) (cond (!true) (cond (true) (decide (((pubF a1 a2).2) = 9)) (false)) (cond (!decide (((pubF a1 a2).2) = 0)) (cond (true) (decide (((pubF a1 a2).2) = 9)) (false)) (cond (!decide (((decF a1 a2 x3).2) = 0)) (cond (decide (((decF a1 a2 x3).2) = 0)) (cond (decide (((decF a1 a2 x4).2) = 0)) (true) (decide (((decF a1 a2 x4).2) = 11))) (cond (decide (((decF a1 a2 x3).2) = 11)) (cond (decide (((decF a1 a2 x4).2) = 0)) (true) (decide (((decF a1 a2 x4).2) = 11))) (false))) (cond (!decide (((decF a1 a2 x4).2) = 0)) (cond (decide (((decF a1 a2 x3).2) = 0)) (cond (decide (((decF a1 a2 x4).2) = 0)) (true) (decide (((decF a1 a2 x4).2) = 11))) (cond (decide (((decF a1 a2 x3).2) = 11)) (cond (decide (((decF a1 a2 x4).2) = 0)) (true) (decide (((decF a1 a2 x4).2) = 11))) (false))) (cond (!decide (((addF ((pubF a1 a2).1) x3 x4).2) = 0)) (false) (cond (!decide (((decF a1 a2 ((addF ((pubF a1 a2).1) x3 x4).1)).2) = 0)) (false) (cond (!((decide (((decF a1 a2 ((addF ((pubF a1 a2).1) x3 x4).1)).1) = ((divN ((addN ((decF a1 a2 x3).1) ((decF a1 a2 x4).1)).1) ((pubF a1 a2).1)).2.1))))) (false) (cond (decide (((againF ((pubF a1 a2).1) x3 x6).2) = 0)) (cond (!decide (((decF a1 a2 ((againF ((pubF a1 a2).1) x3 x6).1)).2) = 0)) (false) (cond (!((decide (((decF a1 a2 ((againF ((pubF a1 a2).1) x3 x6).1)).1) = ((decF a1 a2 x3).1))))) (false) (cond (!decide (((plainF ((pubF a1 a2).1) x3 x5).2) = ((scaleF ((pubF a1 a2).1) x3 x5).2))) (cond (decide (((plainF ((pubF a1 a2).1) x3 x5).2) = ((scaleF ((pubF a1 a2).1) x3 x5).2))) (decide (((plainF ((pubF a1 a2).1) x3 x5).2) = 10)) (false)) (cond (!decide (((plainF ((pubF a1 a2).1) x3 x5).2) = 0)) (cond (decide (((plainF ((pubF a1 a2).1) x3 x5).2) = ((scaleF ((pubF a1 a2).1) x3 x5).2))) (decide (((plainF ((pubF a1 a2).1) x3 x5).2) = 10)) (false)) (cond (decide (((decF a1 a2 ((plainF ((pubF a1 a2).1) x3 x5).1)).2) = 0)) (cond (decide (((decF a1 a2 ((scaleF ((pubF a1 a2).1) x3 x5).1)).2) = 0)) (cond (((decide (((decF a1 a2 ((plainF ((pubF a1 a2).1) x3 x5).1)).1) = ((divN ((addN ((decF a1 a2 x3).1) x5).1) ((pubF a1 a2).1)).2.1))))) (((decide (((decF a1 a2 ((scaleF ((pubF a1 a2).1) x3 x5).1)).1) = ((divN ((mulN ((decF a1 a2 x3).1) x5).1) ((pubF a1 a2).1)).2.1))))) (false)) (false)) (false)))))) (cond (!decide (((plainF ((pubF a1 a2).1) x3 x5).2) = ((scaleF ((pubF a1 a2).1) x3 x5).2))) (cond (decide (((plainF ((pubF a1 a2).1) x3 x5).2) = ((scaleF ((pubF a1 a2).1) x3 x5).2))) (decide (((plainF ((pubF a1 a2).1) x3 x5).2) = 10)) (false)) (cond (!decide (((plainF ((pubF a1 a2).1) x3 x5).2) = 0)) (cond (decide (((plainF ((pubF a1 a2).1) x3 x5).2) = ((scaleF ((pubF a1 a2).1) x3 x5).2))) (decide (((plainF ((pubF a1 a2).1) x3 x5).2) = 10)) (false)) (cond (decide (((decF a1 a2 ((plainF ((pubF a1 a2).1) x3 x5).1)).2) = 0)) (cond (decide (((decF a1 a2 ((scaleF ((pubF a1 a2).1) x3 x5).1)).2) = 0)) (cond (((decide (((decF a1 a2 ((plainF ((pubF a1 a2).1) x3 x5).1)).1) = ((divN ((addN ((decF a1 a2 x3).1) x5).1) ((pubF a1 a2).1)).2.1))))) (((decide (((decF a1 a2 ((scaleF ((pubF a1 a2).1) x3 x5).1)).1) = ((divN ((mulN ((decF a1 a2 x3).1) x5).1) ((pubF a1 a2).1)).2.1))))) (false)) (false)) (false))))))))))))
theorem k3e {h : AH} {a3 : Sl} {x3 : List Nat} {a4 : Sl} {x4 : List Nat} {a5 : Sl} {x5 : List Nat} {a6 : Sl} {x6 : List Nat} (n3 : Nats h a3 x3) (n4 : Nats h a4 x4) (n5 : Nats h a5 x5) (n6 : Nats h a6 x6) (a1 : Int) (a2 : Int) : Runs (go (.fn F.kso [.agg [.int .u64 a1, .int .u64 a2], .agg [a3.v, a4.v], .agg [a5.v, a6.v]]) h) fun v h' => v = .bool (kg a1 a2 x3 x4 x5 x6) ∧ Grow h h' := by
 rw [kba8]
 refine Runs.new fun H7 b7 g7 => ?_
 refine Runs.new fun H8 b8 g8 => ?_
 refine Runs.new fun H9 b9 g9 => ?_
 refine Runs.step (show idx (some (Ref.new H7.blks.size 0)) 2 0 1 = some ((Ref.new H7.blks.size 0).add 0) from rfl) ?_
 refine Runs.step (AH.has.rd0 (g9.has b8) rfl (asSl_v _)) ?_
 refine Runs.step (show idx (some (Ref.new H7.blks.size 0)) 2 1 1 = some ((Ref.new H7.blks.size 0).add 1) from rfl) ?_
 refine Runs.step (AH.has.rd (g9.has b8) 1 rfl (asSl_v _)) ?_
 refine Runs.step (show idx (some (Ref.new H8.blks.size 0)) 2 0 1 = some ((Ref.new H8.blks.size 0).add 0) from rfl) ?_
 refine Runs.step (AH.has.rd0 b9 rfl (asSl_v _)) ?_
 refine Runs.step (show idx (some (Ref.new H8.blks.size 0)) 2 1 1 = some ((Ref.new H8.blks.size 0).add 1) from rfl) ?_
 refine Runs.step (AH.has.rd b9 1 rfl (asSl_v _)) ?_
 refine Runs.new fun H10 b10 g10 => ?_
 have G11 := (((g7.trans g8).trans g9).trans g10)
 have n6_12 := n6.grow G11
 have n5_13 := n5.grow G11
 have n4_14 := n4.grow G11
 have n3_15 := n3.grow G11
 obtain ⟨_, H16, e16, rfl, g16⟩ := kbec (Seq.lit (E := El.nats) (rows := [[(a3).v], [(a4).v], [(a5).v], [(a6).v]]) (n := 4) b10 (.cons ⟨_, rfl, n3_15⟩ (.cons ⟨_, rfl, n4_14⟩ (.cons ⟨_, rfl, n5_13⟩ (.cons ⟨_, rfl, n6_12⟩ .nil)))) rfl) (by simp)
 refine Runs.step e16 ?_
 refine Runs.step (seen rfl) ?_
 refine Runs.cond (fun k17 => ?_) (fun k17 => ?_)
 ·have z : kg a1 a2 x3 x4 x5 x6 = true := by unfold kg; exact (condT k17).trans rfl
  rw [z]
  have G18 := (G11.trans g16)
  exact Runs.ret ⟨rfl, G18⟩
 ·obtain ⟨H18, e18, g18⟩ := k66
  refine Runs.step e18 ?_
  refine Runs.step (seen rfl) ?_
  have G19 := ((((g8.trans g9).trans g10).trans g16).trans g18)
  have b7_20 := G19.has b7
  refine Runs.step (AH.has.rd b7_20 0 rfl (kb _ _)) ?_
  refine Runs.step (AH.has.rd b7_20 1 rfl (kb _ _)) ?_
  obtain ⟨_, H21, e21, s21, rfl, n21, g21, o21⟩ := kx0 a1 a2
  refine Runs.step e21 ?_
  refine Runs.step rfl ?_
  refine Runs.step (seen (asSl_v _)) ?_
  refine Runs.step (seen (kb _ _)) ?_
  refine Runs.cond (fun k22 => ?_) (fun k22 => ?_)
  ·refine Runs.cond (fun k23 => ?_) (fun k23 => ?_)
   ·have z : kg a1 a2 x3 x4 x5 x6 = decide (((pubF a1 a2).2) = 9) := by unfold kg; exact (condF k17).trans ((condT k22).trans ((condT k23).trans rfl))
    rw [z]
    have G24 := (((G11.trans g16).trans g18).trans g21)
    exact Runs.ret ⟨rfl, G24⟩
   ·have z : kg a1 a2 x3 x4 x5 x6 = false := by unfold kg; exact (condF k17).trans ((condT k22).trans ((condF k23).trans rfl))
    rw [z]
    have G24 := (((G11.trans g16).trans g18).trans g21)
    exact Runs.ret ⟨rfl, G24⟩
  ·refine Runs.cond (fun k23 => ?_) (fun k23 => ?_)
   ·refine Runs.cond (fun k24 => ?_) (fun k24 => ?_)
    ·have z : kg a1 a2 x3 x4 x5 x6 = decide (((pubF a1 a2).2) = 9) := by unfold kg; exact (condF k17).trans ((condF k22).trans ((condT k23).trans ((condT k24).trans rfl)))
     rw [z]
     have G25 := (((G11.trans g16).trans g18).trans g21)
     exact Runs.ret ⟨rfl, G25⟩
    ·have z : kg a1 a2 x3 x4 x5 x6 = false := by unfold kg; exact (condF k17).trans ((condF k22).trans ((condT k23).trans ((condF k24).trans rfl)))
     rw [z]
     have G25 := (((G11.trans g16).trans g18).trans g21)
     exact Runs.ret ⟨rfl, G25⟩
   ·refine Runs.step (AH.has.rd (g21.has b7_20) 0 rfl (kb _ _)) ?_
    refine Runs.step (AH.has.rd (g21.has b7_20) 1 rfl (kb _ _)) ?_
    have G24 := ((g16.trans g18).trans g21)
    have n3_25 := n3_15.grow G24
    obtain ⟨_, H26, e26, s26, rfl, n26, g26, o26⟩ := kfv n3_25 a1 a2
    refine Runs.step e26 ?_
    refine Runs.step rfl ?_
    refine Runs.step (seen (asSl_v _)) ?_
    refine Runs.step (seen (kb _ _)) ?_
    refine Runs.step (AH.has.rd ((g21.trans g26).has b7_20) 0 rfl (kb _ _)) ?_
    refine Runs.step (AH.has.rd ((g21.trans g26).has b7_20) 1 rfl (kb _ _)) ?_
    have G27 := (G24.trans g26)
    have n4_28 := n4_14.grow G27
    obtain ⟨_, H29, e29, s29, rfl, n29, g29, o29⟩ := kfv n4_28 a1 a2
    refine Runs.step e29 ?_
    refine Runs.step rfl ?_
    refine Runs.step (seen (asSl_v _)) ?_
    refine Runs.step (seen (kb _ _)) ?_
    refine Runs.cond (fun k30 => ?_) (fun k30 => ?_)
    ·refine Runs.cond (fun k31 => ?_) (fun k31 => ?_)
     ·refine Runs.cond (fun k32 => ?_) (fun k32 => ?_)
      ·have z : kg a1 a2 x3 x4 x5 x6 = true := by unfold kg; exact (condF k17).trans ((condF k22).trans ((condF k23).trans ((condT k30).trans ((condT k31).trans ((condT k32).trans rfl)))))
       rw [z]
       have G33 := (((((G11.trans g16).trans g18).trans g21).trans g26).trans g29)
       exact Runs.ret ⟨rfl, G33⟩
      ·have z : kg a1 a2 x3 x4 x5 x6 = decide (((decF a1 a2 x4).2) = 11) := by unfold kg; exact (condF k17).trans ((condF k22).trans ((condF k23).trans ((condT k30).trans ((condT k31).trans ((condF k32).trans rfl)))))
       rw [z]
       have G33 := (((((G11.trans g16).trans g18).trans g21).trans g26).trans g29)
       exact Runs.ret ⟨rfl, G33⟩
     ·refine Runs.cond (fun k32 => ?_) (fun k32 => ?_)
      ·refine Runs.cond (fun k33 => ?_) (fun k33 => ?_)
       ·have z : kg a1 a2 x3 x4 x5 x6 = true := by unfold kg; exact (condF k17).trans ((condF k22).trans ((condF k23).trans ((condT k30).trans ((condF k31).trans ((condT k32).trans ((condT k33).trans rfl))))))
        rw [z]
        have G34 := (((((G11.trans g16).trans g18).trans g21).trans g26).trans g29)
        exact Runs.ret ⟨rfl, G34⟩
       ·have z : kg a1 a2 x3 x4 x5 x6 = decide (((decF a1 a2 x4).2) = 11) := by unfold kg; exact (condF k17).trans ((condF k22).trans ((condF k23).trans ((condT k30).trans ((condF k31).trans ((condT k32).trans ((condF k33).trans rfl))))))
        rw [z]
        have G34 := (((((G11.trans g16).trans g18).trans g21).trans g26).trans g29)
        exact Runs.ret ⟨rfl, G34⟩
      ·have z : kg a1 a2 x3 x4 x5 x6 = false := by unfold kg; exact (condF k17).trans ((condF k22).trans ((condF k23).trans ((condT k30).trans ((condF k31).trans ((condF k32).trans rfl)))))
       rw [z]
       have G33 := (((((G11.trans g16).trans g18).trans g21).trans g26).trans g29)
       exact Runs.ret ⟨rfl, G33⟩
    ·refine Runs.cond (fun k31 => ?_) (fun k31 => ?_)
     ·refine Runs.cond (fun k32 => ?_) (fun k32 => ?_)
      ·refine Runs.cond (fun k33 => ?_) (fun k33 => ?_)
       ·have z : kg a1 a2 x3 x4 x5 x6 = true := by unfold kg; exact (condF k17).trans ((condF k22).trans ((condF k23).trans ((condF k30).trans ((condT k31).trans ((condT k32).trans ((condT k33).trans rfl))))))
        rw [z]
        have G34 := (((((G11.trans g16).trans g18).trans g21).trans g26).trans g29)
        exact Runs.ret ⟨rfl, G34⟩
       ·have z : kg a1 a2 x3 x4 x5 x6 = decide (((decF a1 a2 x4).2) = 11) := by unfold kg; exact (condF k17).trans ((condF k22).trans ((condF k23).trans ((condF k30).trans ((condT k31).trans ((condT k32).trans ((condF k33).trans rfl))))))
        rw [z]
        have G34 := (((((G11.trans g16).trans g18).trans g21).trans g26).trans g29)
        exact Runs.ret ⟨rfl, G34⟩
      ·refine Runs.cond (fun k33 => ?_) (fun k33 => ?_)
       ·refine Runs.cond (fun k34 => ?_) (fun k34 => ?_)
        ·have z : kg a1 a2 x3 x4 x5 x6 = true := by unfold kg; exact (condF k17).trans ((condF k22).trans ((condF k23).trans ((condF k30).trans ((condT k31).trans ((condF k32).trans ((condT k33).trans ((condT k34).trans rfl)))))))
         rw [z]
         have G35 := (((((G11.trans g16).trans g18).trans g21).trans g26).trans g29)
         exact Runs.ret ⟨rfl, G35⟩
        ·have z : kg a1 a2 x3 x4 x5 x6 = decide (((decF a1 a2 x4).2) = 11) := by unfold kg; exact (condF k17).trans ((condF k22).trans ((condF k23).trans ((condF k30).trans ((condT k31).trans ((condF k32).trans ((condT k33).trans ((condF k34).trans rfl)))))))
         rw [z]
         have G35 := (((((G11.trans g16).trans g18).trans g21).trans g26).trans g29)
         exact Runs.ret ⟨rfl, G35⟩
       ·have z : kg a1 a2 x3 x4 x5 x6 = false := by unfold kg; exact (condF k17).trans ((condF k22).trans ((condF k23).trans ((condF k30).trans ((condT k31).trans ((condF k32).trans ((condF k33).trans rfl))))))
        rw [z]
        have G34 := (((((G11.trans g16).trans g18).trans g21).trans g26).trans g29)
        exact Runs.ret ⟨rfl, G34⟩
     ·obtain ⟨s32, H32, e32, n32, g32, o32⟩ := krc (n26.grow g29) n29
      refine Runs.step e32 ?_
      refine Runs.step rfl ?_
      refine Runs.step (seen (asSl_v _)) ?_
      refine Runs.step (seen (kb _ _)) ?_
      have G33 := ((g26.trans g29).trans g32)
      have n21_34 := n21.grow G33
      have n3_35 := n3_25.grow G33
      obtain ⟨_, H36, e36, s36, rfl, n36, g36, o36⟩ := k9b n21_34 n3_35 (n4_28.grow (g29.trans g32))
      refine Runs.step e36 ?_
      refine Runs.step rfl ?_
      refine Runs.step (seen (asSl_v _)) ?_
      refine Runs.step (seen (kb _ _)) ?_
      have G37 := ((((g21.trans g26).trans g29).trans g32).trans g36)
      have b7_38 := G37.has b7_20
      refine Runs.step (AH.has.rd b7_38 0 rfl (kb _ _)) ?_
      refine Runs.step (AH.has.rd b7_38 1 rfl (kb _ _)) ?_
      obtain ⟨_, H39, e39, s39, rfl, n39, g39, o39⟩ := kfv n36 a1 a2
      refine Runs.step e39 ?_
      refine Runs.step rfl ?_
      refine Runs.step (seen (asSl_v _)) ?_
      refine Runs.step (seen (kb _ _)) ?_
      obtain ⟨s40, H40, e40, n40, g40, o40⟩ := kj0 (n32.grow (g36.trans g39)) (n21_34.grow (g36.trans g39))
      refine Runs.step e40 ?_
      refine Runs.step (seen (asSl_v _)) ?_
      refine Runs.step (kia (n39.grow g40) n40) ?_
      refine Runs.step (seen rfl) ?_
      refine Runs.cond (fun k42 => ?_) (fun k42 => ?_)
      ·have z : kg a1 a2 x3 x4 x5 x6 = false := by unfold kg; exact (condF k17).trans ((condF k22).trans ((condF k23).trans ((condF k30).trans ((condF k31).trans ((condT k42).trans rfl)))))
       rw [z]
       have G43 := (((((((((G11.trans g16).trans g18).trans g21).trans g26).trans g29).trans g32).trans g36).trans g39).trans g40)
       exact Runs.ret ⟨rfl, G43⟩
      ·refine Runs.cond (fun k43 => ?_) (fun k43 => ?_)
       ·have z : kg a1 a2 x3 x4 x5 x6 = false := by unfold kg; exact (condF k17).trans ((condF k22).trans ((condF k23).trans ((condF k30).trans ((condF k31).trans ((condF k42).trans ((condT k43).trans rfl))))))
        rw [z]
        have G44 := (((((((((G11.trans g16).trans g18).trans g21).trans g26).trans g29).trans g32).trans g36).trans g39).trans g40)
        exact Runs.ret ⟨rfl, G44⟩
       ·refine Runs.cond (fun k44 => ?_) (fun k44 => ?_)
        ·have z : kg a1 a2 x3 x4 x5 x6 = false := by unfold kg; exact (condF k17).trans ((condF k22).trans ((condF k23).trans ((condF k30).trans ((condF k31).trans ((condF k42).trans ((condF k43).trans ((condT k44).trans rfl)))))))
         rw [z]
         have G45 := (((((((((G11.trans g16).trans g18).trans g21).trans g26).trans g29).trans g32).trans g36).trans g39).trans g40)
         exact Runs.ret ⟨rfl, G45⟩
        ·have G45 := ((g36.trans g39).trans g40)
         have n21_46 := n21_34.grow G45
         have n3_47 := n3_35.grow G45
         have G48 := (((((G27.trans g29).trans g32).trans g36).trans g39).trans g40)
         have n6_49 := n6_12.grow G48
         obtain ⟨_, H50, e50, s50, rfl, n50, g50, o50⟩ := kbb4 n21_46 n3_47 n6_49
         refine Runs.step e50 ?_
         refine Runs.step rfl ?_
         refine Runs.step (seen (asSl_v _)) ?_
         refine Runs.step (seen (kb _ _)) ?_
         refine Runs.cond (fun k51 => ?_) (fun k51 => ?_)
         ·have G52 := ((g39.trans g40).trans g50)
          have b7_53 := G52.has b7_38
          refine Runs.step (AH.has.rd b7_53 0 rfl (kb _ _)) ?_
          refine Runs.step (AH.has.rd b7_53 1 rfl (kb _ _)) ?_
          obtain ⟨_, H54, e54, s54, rfl, n54, g54, o54⟩ := kfv n50 a1 a2
          refine Runs.step e54 ?_
          refine Runs.step rfl ?_
          refine Runs.step (seen (asSl_v _)) ?_
          refine Runs.step (seen (kb _ _)) ?_
          have G55 := ((((((g29.trans g32).trans g36).trans g39).trans g40).trans g50).trans g54)
          have n26_56 := n26.grow G55
          refine Runs.step (kia n54 n26_56) ?_
          refine Runs.step (seen rfl) ?_
          refine Runs.cond (fun k58 => ?_) (fun k58 => ?_)
          ·have z : kg a1 a2 x3 x4 x5 x6 = false := by unfold kg; exact (condF k17).trans ((condF k22).trans ((condF k23).trans ((condF k30).trans ((condF k31).trans ((condF k42).trans ((condF k43).trans ((condF k44).trans ((condT k51).trans ((condT k58).trans rfl)))))))))
           rw [z]
           have G59 := (((((((((((G11.trans g16).trans g18).trans g21).trans g26).trans g29).trans g32).trans g36).trans g39).trans g40).trans g50).trans g54)
           exact Runs.ret ⟨rfl, G59⟩
          ·refine Runs.cond (fun k59 => ?_) (fun k59 => ?_)
           ·have z : kg a1 a2 x3 x4 x5 x6 = false := by unfold kg; exact (condF k17).trans ((condF k22).trans ((condF k23).trans ((condF k30).trans ((condF k31).trans ((condF k42).trans ((condF k43).trans ((condF k44).trans ((condT k51).trans ((condF k58).trans ((condT k59).trans rfl))))))))))
            rw [z]
            have G60 := (((((((((((G11.trans g16).trans g18).trans g21).trans g26).trans g29).trans g32).trans g36).trans g39).trans g40).trans g50).trans g54)
            exact Runs.ret ⟨rfl, G60⟩
           ·have G60 := ((G48.trans g50).trans g54)
            have n5_61 := n5_13.grow G60
            obtain ⟨_, H62, e62, s62, rfl, n62, g62, o62⟩ := kws (n21_46.grow (g50.trans g54)) (n3_47.grow (g50.trans g54)) n5_61
            refine Runs.step e62 ?_
            refine Runs.step rfl ?_
            refine Runs.step (seen (asSl_v _)) ?_
            refine Runs.step (seen (kb _ _)) ?_
            have G63 := ((g50.trans g54).trans g62)
            have n21_64 := n21_46.grow G63
            have n3_65 := n3_47.grow G63
            obtain ⟨_, H66, e66, s66, rfl, n66, g66, o66⟩ := kzh n21_64 n3_65 (n5_61.grow g62)
            refine Runs.step e66 ?_
            refine Runs.step rfl ?_
            refine Runs.step (seen (asSl_v _)) ?_
            refine Runs.step (seen (kb _ _)) ?_
            refine Runs.cond (fun k67 => ?_) (fun k67 => ?_)
            ·refine Runs.cond (fun k68 => ?_) (fun k68 => ?_)
             ·have z : kg a1 a2 x3 x4 x5 x6 = decide (((plainF ((pubF a1 a2).1) x3 x5).2) = 10) := by unfold kg; exact (condF k17).trans ((condF k22).trans ((condF k23).trans ((condF k30).trans ((condF k31).trans ((condF k42).trans ((condF k43).trans ((condF k44).trans ((condT k51).trans ((condF k58).trans ((condF k59).trans ((condT k67).trans ((condT k68).trans rfl))))))))))))
              rw [z]
              have G69 := (((((((((((((G11.trans g16).trans g18).trans g21).trans g26).trans g29).trans g32).trans g36).trans g39).trans g40).trans g50).trans g54).trans g62).trans g66)
              exact Runs.ret ⟨rfl, G69⟩
             ·have z : kg a1 a2 x3 x4 x5 x6 = false := by unfold kg; exact (condF k17).trans ((condF k22).trans ((condF k23).trans ((condF k30).trans ((condF k31).trans ((condF k42).trans ((condF k43).trans ((condF k44).trans ((condT k51).trans ((condF k58).trans ((condF k59).trans ((condT k67).trans ((condF k68).trans rfl))))))))))))
              rw [z]
              have G69 := (((((((((((((G11.trans g16).trans g18).trans g21).trans g26).trans g29).trans g32).trans g36).trans g39).trans g40).trans g50).trans g54).trans g62).trans g66)
              exact Runs.ret ⟨rfl, G69⟩
            ·refine Runs.cond (fun k68 => ?_) (fun k68 => ?_)
             ·refine Runs.cond (fun k69 => ?_) (fun k69 => ?_)
              ·have z : kg a1 a2 x3 x4 x5 x6 = decide (((plainF ((pubF a1 a2).1) x3 x5).2) = 10) := by unfold kg; exact (condF k17).trans ((condF k22).trans ((condF k23).trans ((condF k30).trans ((condF k31).trans ((condF k42).trans ((condF k43).trans ((condF k44).trans ((condT k51).trans ((condF k58).trans ((condF k59).trans ((condF k67).trans ((condT k68).trans ((condT k69).trans rfl)))))))))))))
               rw [z]
               have G70 := (((((((((((((G11.trans g16).trans g18).trans g21).trans g26).trans g29).trans g32).trans g36).trans g39).trans g40).trans g50).trans g54).trans g62).trans g66)
               exact Runs.ret ⟨rfl, G70⟩
              ·have z : kg a1 a2 x3 x4 x5 x6 = false := by unfold kg; exact (condF k17).trans ((condF k22).trans ((condF k23).trans ((condF k30).trans ((condF k31).trans ((condF k42).trans ((condF k43).trans ((condF k44).trans ((condT k51).trans ((condF k58).trans ((condF k59).trans ((condF k67).trans ((condT k68).trans ((condF k69).trans rfl)))))))))))))
               rw [z]
               have G70 := (((((((((((((G11.trans g16).trans g18).trans g21).trans g26).trans g29).trans g32).trans g36).trans g39).trans g40).trans g50).trans g54).trans g62).trans g66)
               exact Runs.ret ⟨rfl, G70⟩
             ·obtain ⟨s69, H69, e69, n69, g69, o69⟩ := krc (n26_56.grow (g62.trans g66)) (n5_61.grow (g62.trans g66))
              refine Runs.step e69 ?_
              refine Runs.step rfl ?_
              refine Runs.step (seen (asSl_v _)) ?_
              refine Runs.step (seen (kb _ _)) ?_
              have G70 := ((g62.trans g66).trans g69)
              have n26_71 := n26_56.grow G70
              have n5_72 := n5_61.grow G70
              obtain ⟨s73, H73, e73, n73, g73, o73⟩ := kwn n26_71 n5_72
              refine Runs.step e73 ?_
              refine Runs.step rfl ?_
              refine Runs.step (seen (asSl_v _)) ?_
              refine Runs.step (seen (kb _ _)) ?_
              have G74 := ((((g54.trans g62).trans g66).trans g69).trans g73)
              have b7_75 := G74.has b7_53
              refine Runs.step (AH.has.rd b7_75 0 rfl (kb _ _)) ?_
              refine Runs.step (AH.has.rd b7_75 1 rfl (kb _ _)) ?_
              have G76 := ((g66.trans g69).trans g73)
              have n62_77 := n62.grow G76
              obtain ⟨_, H78, e78, s78, rfl, n78, g78, o78⟩ := kfv n62_77 a1 a2
              refine Runs.step e78 ?_
              refine Runs.step rfl ?_
              refine Runs.step (seen (asSl_v _)) ?_
              refine Runs.step (seen (kb _ _)) ?_
              refine Runs.step (AH.has.rd (g78.has b7_75) 0 rfl (kb _ _)) ?_
              refine Runs.step (AH.has.rd (g78.has b7_75) 1 rfl (kb _ _)) ?_
              have G79 := ((g69.trans g73).trans g78)
              have n66_80 := n66.grow G79
              obtain ⟨_, H81, e81, s81, rfl, n81, g81, o81⟩ := kfv n66_80 a1 a2
              refine Runs.step e81 ?_
              refine Runs.step rfl ?_
              refine Runs.step (seen (asSl_v _)) ?_
              refine Runs.step (seen (kb _ _)) ?_
              have G82 := ((g73.trans g78).trans g81)
              have n69_83 := n69.grow G82
              have G84 := ((G76.trans g78).trans g81)
              have n21_85 := n21_64.grow G84
              obtain ⟨s86, H86, e86, n86, g86, o86⟩ := kj0 n69_83 n21_85
              refine Runs.step e86 ?_
              refine Runs.step (seen (asSl_v _)) ?_
              refine Runs.step (kia (n78.grow (g81.trans g86)) n86) ?_
              refine Runs.step (seen rfl) ?_
              have G88 := ((g78.trans g81).trans g86)
              have n73_89 := n73.grow G88
              obtain ⟨s90, H90, e90, n90, g90, o90⟩ := kj0 n73_89 (n21_85.grow g86)
              refine Runs.step e90 ?_
              refine Runs.step (seen (asSl_v _)) ?_
              refine Runs.step (kia (n81.grow (g86.trans g90)) n90) ?_
              refine Runs.step (seen rfl) ?_
              refine Runs.cond (fun k92 => ?_) (fun k92 => ?_)
              ·refine Runs.cond (fun k93 => ?_) (fun k93 => ?_)
               ·refine Runs.cond (fun k94 => ?_) (fun k94 => ?_)
                ·have z : kg a1 a2 x3 x4 x5 x6 = ((decide (((decF a1 a2 ((scaleF ((pubF a1 a2).1) x3 x5).1)).1) = ((divN ((mulN ((decF a1 a2 x3).1) x5).1) ((pubF a1 a2).1)).2.1)))) := by unfold kg; exact (condF k17).trans ((condF k22).trans ((condF k23).trans ((condF k30).trans ((condF k31).trans ((condF k42).trans ((condF k43).trans ((condF k44).trans ((condT k51).trans ((condF k58).trans ((condF k59).trans ((condF k67).trans ((condF k68).trans ((condT k92).trans ((condT k93).trans ((condT k94).trans rfl)))))))))))))))
                 rw [z]
                 have G95 := (((((((((((((((((((G11.trans g16).trans g18).trans g21).trans g26).trans g29).trans g32).trans g36).trans g39).trans g40).trans g50).trans g54).trans g62).trans g66).trans g69).trans g73).trans g78).trans g81).trans g86).trans g90)
                 exact Runs.ret ⟨rfl, G95⟩
                ·have z : kg a1 a2 x3 x4 x5 x6 = false := by unfold kg; exact (condF k17).trans ((condF k22).trans ((condF k23).trans ((condF k30).trans ((condF k31).trans ((condF k42).trans ((condF k43).trans ((condF k44).trans ((condT k51).trans ((condF k58).trans ((condF k59).trans ((condF k67).trans ((condF k68).trans ((condT k92).trans ((condT k93).trans ((condF k94).trans rfl)))))))))))))))
                 rw [z]
                 have G95 := (((((((((((((((((((G11.trans g16).trans g18).trans g21).trans g26).trans g29).trans g32).trans g36).trans g39).trans g40).trans g50).trans g54).trans g62).trans g66).trans g69).trans g73).trans g78).trans g81).trans g86).trans g90)
                 exact Runs.ret ⟨rfl, G95⟩
               ·have z : kg a1 a2 x3 x4 x5 x6 = false := by unfold kg; exact (condF k17).trans ((condF k22).trans ((condF k23).trans ((condF k30).trans ((condF k31).trans ((condF k42).trans ((condF k43).trans ((condF k44).trans ((condT k51).trans ((condF k58).trans ((condF k59).trans ((condF k67).trans ((condF k68).trans ((condT k92).trans ((condF k93).trans rfl))))))))))))))
                rw [z]
                have G94 := (((((((((((((((((((G11.trans g16).trans g18).trans g21).trans g26).trans g29).trans g32).trans g36).trans g39).trans g40).trans g50).trans g54).trans g62).trans g66).trans g69).trans g73).trans g78).trans g81).trans g86).trans g90)
                exact Runs.ret ⟨rfl, G94⟩
              ·have z : kg a1 a2 x3 x4 x5 x6 = false := by unfold kg; exact (condF k17).trans ((condF k22).trans ((condF k23).trans ((condF k30).trans ((condF k31).trans ((condF k42).trans ((condF k43).trans ((condF k44).trans ((condT k51).trans ((condF k58).trans ((condF k59).trans ((condF k67).trans ((condF k68).trans ((condF k92).trans rfl)))))))))))))
               rw [z]
               have G93 := (((((((((((((((((((G11.trans g16).trans g18).trans g21).trans g26).trans g29).trans g32).trans g36).trans g39).trans g40).trans g50).trans g54).trans g62).trans g66).trans g69).trans g73).trans g78).trans g81).trans g86).trans g90)
               exact Runs.ret ⟨rfl, G93⟩
         ·have G52 := (G48.trans g50)
          have n5_53 := n5_13.grow G52
          obtain ⟨_, H54, e54, s54, rfl, n54, g54, o54⟩ := kws (n21_46.grow g50) (n3_47.grow g50) n5_53
          refine Runs.step e54 ?_
          refine Runs.step rfl ?_
          refine Runs.step (seen (asSl_v _)) ?_
          refine Runs.step (seen (kb _ _)) ?_
          obtain ⟨_, H55, e55, s55, rfl, n55, g55, o55⟩ := kzh (n21_46.grow (g50.trans g54)) (n3_47.grow (g50.trans g54)) (n5_53.grow g54)
          refine Runs.step e55 ?_
          refine Runs.step rfl ?_
          refine Runs.step (seen (asSl_v _)) ?_
          refine Runs.step (seen (kb _ _)) ?_
          refine Runs.cond (fun k56 => ?_) (fun k56 => ?_)
          ·refine Runs.cond (fun k57 => ?_) (fun k57 => ?_)
           ·have z : kg a1 a2 x3 x4 x5 x6 = decide (((plainF ((pubF a1 a2).1) x3 x5).2) = 10) := by unfold kg; exact (condF k17).trans ((condF k22).trans ((condF k23).trans ((condF k30).trans ((condF k31).trans ((condF k42).trans ((condF k43).trans ((condF k44).trans ((condF k51).trans ((condT k56).trans ((condT k57).trans rfl))))))))))
            rw [z]
            have G58 := ((((((((((((G11.trans g16).trans g18).trans g21).trans g26).trans g29).trans g32).trans g36).trans g39).trans g40).trans g50).trans g54).trans g55)
            exact Runs.ret ⟨rfl, G58⟩
           ·have z : kg a1 a2 x3 x4 x5 x6 = false := by unfold kg; exact (condF k17).trans ((condF k22).trans ((condF k23).trans ((condF k30).trans ((condF k31).trans ((condF k42).trans ((condF k43).trans ((condF k44).trans ((condF k51).trans ((condT k56).trans ((condF k57).trans rfl))))))))))
            rw [z]
            have G58 := ((((((((((((G11.trans g16).trans g18).trans g21).trans g26).trans g29).trans g32).trans g36).trans g39).trans g40).trans g50).trans g54).trans g55)
            exact Runs.ret ⟨rfl, G58⟩
          ·refine Runs.cond (fun k57 => ?_) (fun k57 => ?_)
           ·refine Runs.cond (fun k58 => ?_) (fun k58 => ?_)
            ·have z : kg a1 a2 x3 x4 x5 x6 = decide (((plainF ((pubF a1 a2).1) x3 x5).2) = 10) := by unfold kg; exact (condF k17).trans ((condF k22).trans ((condF k23).trans ((condF k30).trans ((condF k31).trans ((condF k42).trans ((condF k43).trans ((condF k44).trans ((condF k51).trans ((condF k56).trans ((condT k57).trans ((condT k58).trans rfl)))))))))))
             rw [z]
             have G59 := ((((((((((((G11.trans g16).trans g18).trans g21).trans g26).trans g29).trans g32).trans g36).trans g39).trans g40).trans g50).trans g54).trans g55)
             exact Runs.ret ⟨rfl, G59⟩
            ·have z : kg a1 a2 x3 x4 x5 x6 = false := by unfold kg; exact (condF k17).trans ((condF k22).trans ((condF k23).trans ((condF k30).trans ((condF k31).trans ((condF k42).trans ((condF k43).trans ((condF k44).trans ((condF k51).trans ((condF k56).trans ((condT k57).trans ((condF k58).trans rfl)))))))))))
             rw [z]
             have G59 := ((((((((((((G11.trans g16).trans g18).trans g21).trans g26).trans g29).trans g32).trans g36).trans g39).trans g40).trans g50).trans g54).trans g55)
             exact Runs.ret ⟨rfl, G59⟩
           ·have G58 := (((((((g29.trans g32).trans g36).trans g39).trans g40).trans g50).trans g54).trans g55)
            have n26_59 := n26.grow G58
            obtain ⟨s60, H60, e60, n60, g60, o60⟩ := krc n26_59 (n5_53.grow (g54.trans g55))
            refine Runs.step e60 ?_
            refine Runs.step rfl ?_
            refine Runs.step (seen (asSl_v _)) ?_
            refine Runs.step (seen (kb _ _)) ?_
            have G61 := ((g54.trans g55).trans g60)
            have n5_62 := n5_53.grow G61
            obtain ⟨s63, H63, e63, n63, g63, o63⟩ := kwn (n26_59.grow g60) n5_62
            refine Runs.step e63 ?_
            refine Runs.step rfl ?_
            refine Runs.step (seen (asSl_v _)) ?_
            refine Runs.step (seen (kb _ _)) ?_
            have G64 := ((((((g39.trans g40).trans g50).trans g54).trans g55).trans g60).trans g63)
            have b7_65 := G64.has b7_38
            refine Runs.step (AH.has.rd b7_65 0 rfl (kb _ _)) ?_
            refine Runs.step (AH.has.rd b7_65 1 rfl (kb _ _)) ?_
            have G66 := ((g55.trans g60).trans g63)
            have n54_67 := n54.grow G66
            obtain ⟨_, H68, e68, s68, rfl, n68, g68, o68⟩ := kfv n54_67 a1 a2
            refine Runs.step e68 ?_
            refine Runs.step rfl ?_
            refine Runs.step (seen (asSl_v _)) ?_
            refine Runs.step (seen (kb _ _)) ?_
            refine Runs.step (AH.has.rd (g68.has b7_65) 0 rfl (kb _ _)) ?_
            refine Runs.step (AH.has.rd (g68.has b7_65) 1 rfl (kb _ _)) ?_
            have G69 := ((g60.trans g63).trans g68)
            have n55_70 := n55.grow G69
            obtain ⟨_, H71, e71, s71, rfl, n71, g71, o71⟩ := kfv n55_70 a1 a2
            refine Runs.step e71 ?_
            refine Runs.step rfl ?_
            refine Runs.step (seen (asSl_v _)) ?_
            refine Runs.step (seen (kb _ _)) ?_
            have G72 := ((g63.trans g68).trans g71)
            have n60_73 := n60.grow G72
            have G74 := ((((((g50.trans g54).trans g55).trans g60).trans g63).trans g68).trans g71)
            have n21_75 := n21_46.grow G74
            obtain ⟨s76, H76, e76, n76, g76, o76⟩ := kj0 n60_73 n21_75
            refine Runs.step e76 ?_
            refine Runs.step (seen (asSl_v _)) ?_
            refine Runs.step (kia (n68.grow (g71.trans g76)) n76) ?_
            refine Runs.step (seen rfl) ?_
            have G78 := ((g68.trans g71).trans g76)
            have n63_79 := n63.grow G78
            obtain ⟨s80, H80, e80, n80, g80, o80⟩ := kj0 n63_79 (n21_75.grow g76)
            refine Runs.step e80 ?_
            refine Runs.step (seen (asSl_v _)) ?_
            refine Runs.step (kia (n71.grow (g76.trans g80)) n80) ?_
            refine Runs.step (seen rfl) ?_
            refine Runs.cond (fun k82 => ?_) (fun k82 => ?_)
            ·refine Runs.cond (fun k83 => ?_) (fun k83 => ?_)
             ·refine Runs.cond (fun k84 => ?_) (fun k84 => ?_)
              ·have z : kg a1 a2 x3 x4 x5 x6 = ((decide (((decF a1 a2 ((scaleF ((pubF a1 a2).1) x3 x5).1)).1) = ((divN ((mulN ((decF a1 a2 x3).1) x5).1) ((pubF a1 a2).1)).2.1)))) := by unfold kg; exact (condF k17).trans ((condF k22).trans ((condF k23).trans ((condF k30).trans ((condF k31).trans ((condF k42).trans ((condF k43).trans ((condF k44).trans ((condF k51).trans ((condF k56).trans ((condF k57).trans ((condT k82).trans ((condT k83).trans ((condT k84).trans rfl)))))))))))))
               rw [z]
               have G85 := ((((((((((((((((((G11.trans g16).trans g18).trans g21).trans g26).trans g29).trans g32).trans g36).trans g39).trans g40).trans g50).trans g54).trans g55).trans g60).trans g63).trans g68).trans g71).trans g76).trans g80)
               exact Runs.ret ⟨rfl, G85⟩
              ·have z : kg a1 a2 x3 x4 x5 x6 = false := by unfold kg; exact (condF k17).trans ((condF k22).trans ((condF k23).trans ((condF k30).trans ((condF k31).trans ((condF k42).trans ((condF k43).trans ((condF k44).trans ((condF k51).trans ((condF k56).trans ((condF k57).trans ((condT k82).trans ((condT k83).trans ((condF k84).trans rfl)))))))))))))
               rw [z]
               have G85 := ((((((((((((((((((G11.trans g16).trans g18).trans g21).trans g26).trans g29).trans g32).trans g36).trans g39).trans g40).trans g50).trans g54).trans g55).trans g60).trans g63).trans g68).trans g71).trans g76).trans g80)
               exact Runs.ret ⟨rfl, G85⟩
             ·have z : kg a1 a2 x3 x4 x5 x6 = false := by unfold kg; exact (condF k17).trans ((condF k22).trans ((condF k23).trans ((condF k30).trans ((condF k31).trans ((condF k42).trans ((condF k43).trans ((condF k44).trans ((condF k51).trans ((condF k56).trans ((condF k57).trans ((condT k82).trans ((condF k83).trans rfl))))))))))))
              rw [z]
              have G84 := ((((((((((((((((((G11.trans g16).trans g18).trans g21).trans g26).trans g29).trans g32).trans g36).trans g39).trans g40).trans g50).trans g54).trans g55).trans g60).trans g63).trans g68).trans g71).trans g76).trans g80)
              exact Runs.ret ⟨rfl, G84⟩
            ·have z : kg a1 a2 x3 x4 x5 x6 = false := by unfold kg; exact (condF k17).trans ((condF k22).trans ((condF k23).trans ((condF k30).trans ((condF k31).trans ((condF k42).trans ((condF k43).trans ((condF k44).trans ((condF k51).trans ((condF k56).trans ((condF k57).trans ((condF k82).trans rfl)))))))))))
             rw [z]
             have G83 := ((((((((((((((((((G11.trans g16).trans g18).trans g21).trans g26).trans g29).trans g32).trans g36).trans g39).trans g40).trans g50).trans g54).trans g55).trans g60).trans g63).trans g68).trans g71).trans g76).trans g80)
             exact Runs.ret ⟨rfl, G83⟩
end Go.Ab

/- squeezed -/
set_option linter.unusedVariables false
set_option linter.unusedSimpArgs false
set_option maxRecDepth 10000
namespace Go.Ab
open Go.Proofs Go.Num
theorem kp4 {X Y N : Nat} (hX : X < B ^ 30) (hY : Y < B ^ 30) (hN : N < B ^ 64) (h0 : 0 < N) : kdx (digs B X) (digs B Y) (digs B N) = digs B (X * Y % N) := by
 unfold kdx
 rw [kdv hX hY]
 have hprod : X * Y < B ^ 64 := by
  calc _ < B ^ 30 * B ^ 30 := Nat.mul_lt_mul'' hX hY
   _ = B ^ 60 := by rw [← Nat.pow_add]
   _ ≤ B ^ 64 := Nat.pow_le_pow_right (by decide) (by decide)
 rw [kty hprod hN h0]
theorem k8a {n a b : Nat} (h : Cg n a b) (c : Nat.Coprime a n) : Nat.Coprime b n := by
 unfold Nat.Coprime at c ⊢
 have h2 : a % n = b % n := h
 rw [Nat.gcd_comm, Nat.gcd_rec, ← h2, ← Nat.gcd_rec, Nat.gcd_comm]
 exact c
section
variable {p q : Nat} (k : KeyOk p q) (p2 : p < 1099511627776) (q2 : q < 1099511627776) (hb : badF (p : Int) (q : Int) = false) (may : kp (digs B (p * q)) = true)
include k p2 q2 hb may
theorem dec_of {X M : Nat} (co : Nat.Coprime X (p * q)) (hid : Hid (p * q) ((p - 1) * (q - 1)) X M) : decF (p : Int) (q : Int) (digs B (X % (p * q * (p * q)))) = (digs B M, 0) := by
 have h0 := ktk k
 have hNN : 0 < p * q * (p * q) := Nat.mul_pos h0 h0
 generalize hC : X % (p * q * (p * q)) = C
 have cg : Cg (p * q * (p * q)) X C := by rw [← hC]; exact Cg.mod.symm
 have coC : Nat.Coprime C (p * q) := k8a (cg.of_dvd (Nat.dvd_mul_right _ _)) co
 have ltC : C < p * q * (p * q) := by rw [← hC]; exact Nat.mod_lt _ hNN
 have CB : C < B ^ 64 := Nat.lt_trans ltC (Nat.lt_of_lt_of_le (key_sq p2 q2) (Nat.pow_le_pow_right (by decide) (by decide)))
 have v : kq (digs B (p * q)) (digs B C) = true := (kn6 p2 q2 (kz B2 _)).2 ⟨may, kn CB, fun hn => by
  have : C = 0 := (kd6 B2).1 hn
  rw [this, Nat.coprime_zero_left] at coC
  have := k.pos
  omega, by rw [kf B2]; exact ltC, by rw [kf B2]; exact coC⟩
 unfold decF
 rw [hb, cond_false, Int.toNat_natCast, Int.toNat_natCast, v, Bool.not_true, cond_false, kf B2, kbde k (hid.cg cg)]
end
theorem ktf {p q M : Nat} (p2 : p < 1099511627776) (q2 : q < 1099511627776) (h : M < p * q) : M < B ^ 4 := Nat.lt_trans h (Nat.lt_of_lt_of_le (key_lt p2 q2) (by decide))
theorem k5w {a b : Int} {xs ys zs ws : List Nat} (lx : ∀ x ∈ xs, x < B) (ly : ∀ x ∈ ys, x < B) (lz : ∀ x ∈ zs, x < B) (lw : ∀ x ∈ ws, x < B) : kg a b xs ys zs ws = true := by
 unfold kg
 refine kbw (fun _ => rfl) fun _ => ?_
 rw [Bool.not_true, cond_false, cond_true]
 cases hb : badF a b with
 | true =>
  have e : pubF a b = ([], 9) := by unfold pubF; rw [hb]; rfl
  rw [e]; rfl
 | false =>
  have e : pubF a b = (digs B (a.toNat * b.toNat), 0) := by unfold pubF; rw [hb]; rfl
  rw [e]
  obtain ⟨p, q, rfl, rfl, p1, p2, p3, q1, q2, q3, ne, -, hg⟩ := kp2 hb
  rw [Int.toNat_natCast, Int.toNat_natCast]
  have k := kvw p1 p3 q1 q3 ne hg
  rw [condF (show (!decide (((digs B (p * q), (0 : Int)).2) = 0)) = false from rfl)]
  dsimp only
  have dec : ∀ cs, decF (p : Int) (q : Int) cs = cond (!kq (digs B (p * q)) cs) ([], 11) (digs B (hidOf p q (num B cs)), 0) := fun cs => by
   unfold decF
   rw [hb, cond_false, Int.toNat_natCast, Int.toNat_natCast]
  cases vx : kq (digs B (p * q)) xs with
  | false =>
   have ex : decF (p : Int) (q : Int) xs = ([], 11) := by rw [dec, vx]; rfl
   rw [ex]
   have : (decF (p : Int) (q : Int) ys).2 = 0 ∨ (decF (p : Int) (q : Int) ys).2 = 11 := by
    rw [dec]
    cases kq (digs B (p * q)) ys
    ·exact .inr rfl
    ·exact .inl rfl
   rcases this with h | h <;> rw [h] <;> rfl
  | true =>
   cases vy : kq (digs B (p * q)) ys with
   | false =>
    have ex : (decF (p : Int) (q : Int) xs).2 = 0 := by rw [dec, vx]; rfl
    have ey : decF (p : Int) (q : Int) ys = ([], 11) := by rw [dec, vy]; rfl
    rw [ex, ey]; rfl
   | true =>
    obtain ⟨may, rx, -, ltx, cx⟩ := (kn6 p2 q2 lx).1 vx
    obtain ⟨-, ry, -, lty, cy⟩ := (kn6 p2 q2 ly).1 vy
    have ex : decF (p : Int) (q : Int) xs = (digs B (hidOf p q (num B xs)), 0) := by rw [dec, vx]; rfl
    have ey : decF (p : Int) (q : Int) ys = (digs B (hidOf p q (num B ys)), 0) := by rw [dec, vy]; rfl
    have hx := kp3 k cx
    have hy := kp3 k cy
    have n0 := ktk k
    have nn0 : 0 < p * q * (p * q) := Nat.mul_pos n0 n0
    have hS := key_sq p2 q2
    have up30 : ∀ {x : Nat}, x < B ^ 4 → x < B ^ 30 := fun h => Nat.lt_of_lt_of_le h (Nat.pow_le_pow_right (by decide) (by decide))
    have up64 : ∀ {x : Nat}, x < B ^ 4 → x < B ^ 64 := fun h => Nat.lt_of_lt_of_le h (Nat.pow_le_pow_right (by decide) (by decide))
    have sq : kv (digs B (p * q)) = digs B (p * q * (p * q)) := kt9 (kvu p2 q2)
    have hN4 : p * q < B ^ 4 := Nat.lt_of_lt_of_le (key_lt p2 q2) (by decide)
    have dX : xs = digs B (num B xs) := (kh9 lx rx).symm
    have dY : ys = digs B (num B ys) := (kh9 ly ry).symm
    generalize hX : num B xs = X at *
    generalize hY : num B ys = Y at *
    have x30 : X < B ^ 30 := up30 (Nat.lt_trans ltx hS)
    have y30 : Y < B ^ 30 := up30 (Nat.lt_trans lty hS)
    generalize hA : hidOf p q X = A at *
    generalize hB' : hidOf p q Y = A' at *
    have hA4 := ktf p2 q2 hx.1
    have hB4 := ktf p2 q2 hy.1
    have eadd : addF (digs B (p * q)) xs ys = (digs B (X * Y % (p * q * (p * q))), 0) := by
     unfold addF
     rw [may, vx, vy, sq, dX, dY, kp4 x30 y30 (up64 hS) nn0]
     rfl
    have dadd : decF (p : Int) (q : Int) (digs B (X * Y % (p * q * (p * q)))) = (digs B ((A + A') % (p * q)), 0) := dec_of k p2 q2 hb may (Nat.Coprime.mul_left cx cy) (Hid.mul n0 hx hy)
    have radd : ∀ {u v : Nat}, u < B ^ 4 → v < B ^ 4 → (divN ((addN (digs B u) (digs B v)).1) (digs B (p * q))).2.1 = digs B ((u + v) % (p * q)) := by
     intro u v hu hv
     have h1 : u + v < B ^ 64 := by
      have : B ^ 4 + B ^ 4 < B ^ 64 := by decide
      omega
     have e1 : addN (digs B u) (digs B v) = (digs B (u + v), 0) := by
      unfold addN told
      rw [if_pos ⟨kn (up64 hu), kn (up64 hv)⟩, kf B2, kf B2, if_pos h1]
     rw [e1, kty h1 (up64 hN4) n0]
    rw [ex, ey]
    dsimp only
    rw [condF (show (!decide ((0 : Int) = 0)) = false from rfl), condF (show (!decide ((0 : Int) = 0)) = false from rfl), eadd]
    dsimp only
    rw [condF (show (!decide ((0 : Int) = 0)) = false from rfl), dadd]
    dsimp only
    rw [condF (show (!decide ((0 : Int) = 0)) = false from rfl), radd hA4 hB4, condF (by simp)]
    have tail : cond (!decide (((plainF (digs B (p * q)) xs zs).2) = ((scaleF (digs B (p * q)) xs zs).2))) (cond (decide (((plainF (digs B (p * q)) xs zs).2) = ((scaleF (digs B (p * q)) xs zs).2))) (decide (((plainF (digs B (p * q)) xs zs).2) = 10)) (false)) (cond (!decide (((plainF (digs B (p * q)) xs zs).2) = 0)) (cond (decide (((plainF (digs B (p * q)) xs zs).2) = ((scaleF (digs B (p * q)) xs zs).2))) (decide (((plainF (digs B (p * q)) xs zs).2) = 10)) (false)) (cond (decide (((decF (p : Int) (q : Int) ((plainF (digs B (p * q)) xs zs).1)).2) = 0)) (cond (decide (((decF (p : Int) (q : Int) ((scaleF (digs B (p * q)) xs zs).1)).2) = 0)) (cond (((decide (((decF (p : Int) (q : Int) ((plainF (digs B (p * q)) xs zs).1)).1) = ((divN ((addN (digs B A) zs).1) (digs B (p * q))).2.1))))) (((decide (((decF (p : Int) (q : Int) ((scaleF (digs B (p * q)) xs zs).1)).1) = ((divN ((mulN (digs B A) zs).1) (digs B (p * q))).2.1))))) (false)) (false)) (false))) = true := by
     cases ip : kbf (digs B (p * q)) zs with
     | false =>
      have e1 : plainF (digs B (p * q)) xs zs = ([], 10) := by unfold plainF; rw [may, vx, ip]; rfl
      have e2 : scaleF (digs B (p * q)) xs zs = ([], 10) := by unfold scaleF; rw [may, vx, ip]; rfl
      rw [e1, e2]; rfl
     | true =>
      have rN : rt (digs B (p * q)) = true := kn (up64 hN4)
      have hz : rt zs = true ∧ num B zs < p * q := by
       unfold kbf at ip
       cases hr : rt zs with
       | false => rw [hr] at ip; cases ip
       | true =>
        rw [hr, cond_true, decide_eq_true_eq] at ip
        have := ktb hr rN ip
        rw [kf B2] at this
        exact ⟨rfl, this⟩
      have dZ : zs = digs B (num B zs) := (kh9 lz hz.1).symm
      generalize hZ : num B zs = Z at *
      have hZ4 := ktf p2 q2 hz.2
      have h1 : Z * (p * q) + 1 < B ^ 30 := by
       have : Z * (p * q) < B ^ 8 := Nat.lt_of_lt_of_le (Nat.mul_lt_mul'' hZ4 hN4) (by decide)
       have : B ^ 8 + 1 < B ^ 30 := by decide
       omega
      have sh : kcu (digs B (p * q)) (digs B Z) = digs B (Z * (p * q) + 1) := by
       unfold kcu
       rw [kdv (up30 hZ4) (up30 hN4)]
       unfold addN told
       have h2 : Z * (p * q) + 1 < B ^ 64 := Nat.lt_of_lt_of_le h1 (Nat.pow_le_pow_right (by decide) (by decide))
       have e1 : num B [1] = 1 := by decide
       rw [if_pos ⟨kn (by omega), by decide⟩, kf B2, e1, if_pos h2]
      have e1 : plainF (digs B (p * q)) xs zs = (digs B (X * (Z * (p * q) + 1) % (p * q * (p * q))), 0) := by
       unfold plainF
       rw [may, vx, ip, sq, dX, dZ, sh, kp4 x30 h1 (up64 hS) nn0]
       rfl
      have e2 : scaleF (digs B (p * q)) xs zs = (digs B (X ^ Z % (p * q * (p * q))), 0) := by
       unfold scaleF powN
       rw [may, vx, ip, sq, hX, hZ, kf B2]
       rfl
      have cs : Nat.Coprime (Z * (p * q) + 1) (p * q) := by
       unfold Nat.Coprime
       rw [Nat.gcd_comm, Nat.gcd_rec, Nat.add_comm, Nat.add_mul_mod_self_right, ← Nat.gcd_rec, Nat.gcd_one_right]
      have d1 : decF (p : Int) (q : Int) (digs B (X * (Z * (p * q) + 1) % (p * q * (p * q)))) = (digs B ((A + Z) % (p * q)), 0) := dec_of k p2 q2 hb may (Nat.Coprime.mul_left cx cs) (Hid.mul n0 hx (Hid.shown hz.2))
      have d2 : decF (p : Int) (q : Int) (digs B (X ^ Z % (p * q * (p * q)))) = (digs B (A * Z % (p * q)), 0) := dec_of k p2 q2 hb may (Nat.Coprime.pow_left _ cx) (Hid.pow n0 hx Z)
      have rmul : (divN ((mulN (digs B A) (digs B Z)).1) (digs B (p * q))).2.1 = digs B (A * Z % (p * q)) := by
       rw [kdv (up30 hA4) (up30 hZ4)]
       exact kty (Nat.lt_of_lt_of_le (Nat.mul_lt_mul'' hA4 hZ4) (by decide)) (up64 hN4) n0
      rw [e1, e2]
      dsimp only
      rw [d1, d2, dZ, radd hA4 hZ4, rmul]
      simp
    rw [tail]
    cases al : k0 ws (digs B (p * q)) (digs B (p * q)) with
    | false =>
     have e1 : againF (digs B (p * q)) xs ws = ([], 1) := by unfold againF; rw [may, vx, al]; rfl
     rw [e1]; rfl
    | true =>
     have rN : rt (digs B (p * q)) = true := kn (up64 hN4)
     obtain ⟨a1, -, -, a4⟩ := (kxz lw rN (kz B2 _) rN).1 al
     rw [kf B2] at a4
     generalize hR : num B ws = R at *
     have hr : R ^ (p * q) % (p * q * (p * q)) < B ^ 4 := Nat.lt_trans (Nat.mod_lt _ nn0) hS
     have e1 : againF (digs B (p * q)) xs ws = (digs B (X * R ^ (p * q) % (p * q * (p * q))), 0) := by
      unfold againF powN
      rw [may, vx, al, sq, hR, kf B2, kf B2, dX, kp4 x30 (up30 hr) (up64 hS) nn0, Nat.mul_mod_mod]
      rfl
     have d1 : decF (p : Int) (q : Int) (digs B (X * R ^ (p * q) % (p * q * (p * q)))) = (digs B ((A + 0) % (p * q)), 0) := dec_of k p2 q2 hb may (Nat.Coprime.mul_left cx (Nat.Coprime.pow_left _ a4)) (Hid.mul n0 hx (k.hider a4))
     rw [Nat.add_zero, Nat.mod_eq_of_lt hx.1] at d1
     rw [e1]
     dsimp only
     rw [d1]
     simp
theorem PaillierAdds_law (h : AH) {x0 x1 x2 : AV} (z0 : ArgV Pg h T.kfi x0) (z1 : ArgV Pg h T.kgs x1) (z2 : ArgV Pg h T.kgs x2) : ∃ h', go (.fn F.kso [x0, x1, x2]) h = some (.bool true, h') := by
 obtain ⟨a, b, rfl⟩ := kbbo z0
 obtain ⟨s, t, xs, ys, rfl, n, m⟩ := kyo z1
 obtain ⟨u, w, zs, ws, rfl, n', m'⟩ := kyo z2
 obtain ⟨_, h', e, rfl, _⟩ := k3e n m n' m' a b
 exact ⟨h', e.trans (by rw [k5w n.lt m.lt n'.lt m'.lt])⟩
end Go.Ab
