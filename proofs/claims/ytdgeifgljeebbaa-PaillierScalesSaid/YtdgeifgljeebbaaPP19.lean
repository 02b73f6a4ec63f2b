/- Layer 6: the laws, their walk: printed by wip/tools/walk.py. -/
import Derived.Test.YtdgeifgljeebbaaPP7

set_option linter.unusedVariables false
set_option linter.unusedSimpArgs false
set_option maxRecDepth 10000
namespace Go.Ab
open Go.Proofs Go.Num

def law06_PaillierEncrypts' (x1 : List Nat) (x2 : List Nat) (x3 : List Nat) : Bool :=
  cond (!((few06 [x1, x2, x3]))) (true) (cond (true) (cond (true) (decide (((encF x1 x2 x3).2) = ((encF x1 x2 x3).2))) (false)) (false))

theorem law06_PaillierEncrypts_spec {h : AH} {a1 : Sl} {x1 : List Nat} {a2 : Sl} {x2 : List Nat} {a3 : Sl} {x3 : List Nat} (n1 : Nats h a1 x1) (n2 : Nats h a2 x2) (n3 : Nats h a3 x3)  : Runs (go (.fn F.law06_PaillierEncrypts [a1.v, a2.v, a3.v]) h) fun v h' => v = .bool (law06_PaillierEncrypts' x1 x2 x3) ∧ Grow h h' := by
  rw [u_law06_PaillierEncrypts]
  refine Runs.new fun H4 b4 g4 => ?_
  obtain ⟨_, H5, e5, rfl, g5⟩ := law06_few_is (Seq.lit (E := El.nats) (rows := [[(a1).v], [(a2).v], [(a3).v]]) (n := 3) b4 (.cons ⟨_, rfl, (n1.grow g4)⟩ (.cons ⟨_, rfl, (n2.grow g4)⟩ (.cons ⟨_, rfl, (n3.grow g4)⟩ .nil))) rfl) (by simp)
  refine Runs.step e5 ?_
  refine Runs.step (seen rfl) ?_
  refine Runs.cond (fun k6 => ?_) (fun k6 => ?_)
  · have z : law06_PaillierEncrypts' x1 x2 x3 = true := by unfold law06_PaillierEncrypts'; exact (condT k6).trans rfl
    rw [z]
    exact Runs.ret ⟨rfl, (g4.trans g5)⟩
  · obtain ⟨H7, e7, g7⟩ := awake06
    refine Runs.step e7 ?_
    refine Runs.step (seen rfl) ?_
    have G8 := ((g4.trans g5).trans g7)
    have n1_9 := n1.grow G8
    have n2_10 := n2.grow G8
    have n3_11 := n3.grow G8
    obtain ⟨_, H12, e12, s12, rfl, n12, g12, o12⟩ := paillier_Encrypt_is n1_9 n2_10 n3_11
    refine Runs.step e12 ?_
    refine Runs.step rfl ?_
    refine Runs.step (seen (asSl_v _)) ?_
    refine Runs.step (seen (avInt_int _ _)) ?_
    obtain ⟨_, H13, e13, s13, rfl, n13, g13, o13⟩ := ref06_Encrypt_is (n1_9.grow g12) (n2_10.grow g12) (n3_11.grow g12)
    refine Runs.step e13 ?_
    refine Runs.step rfl ?_
    refine Runs.step (seen (asSl_v _)) ?_
    refine Runs.step (seen (avInt_int _ _)) ?_
    refine Runs.step (ref01_Same_spec (n12.grow g13) n13) ?_
    refine Runs.step (seen rfl) ?_
    refine Runs.cond (fun k15 => ?_) (fun k15 => ?_)
    · refine Runs.cond (fun k16 => ?_) (fun k16 => ?_)
      · have z : law06_PaillierEncrypts' x1 x2 x3 = decide (((encF x1 x2 x3).2) = ((encF x1 x2 x3).2)) := by unfold law06_PaillierEncrypts'; exact (condF k6).trans ((condT k15).trans ((condT k16).trans rfl))
        rw [z]
        have G17 := ((G8.trans g12).trans g13)
        exact Runs.ret ⟨rfl, G17⟩
      · have z : law06_PaillierEncrypts' x1 x2 x3 = false := by unfold law06_PaillierEncrypts'; exact (condF k6).trans ((condT k15).trans ((condF k16).trans rfl))
        rw [z]
        have G17 := ((G8.trans g12).trans g13)
        exact Runs.ret ⟨rfl, G17⟩
    · have z : law06_PaillierEncrypts' x1 x2 x3 = false := by unfold law06_PaillierEncrypts'; exact (condF k6).trans ((condF k15).trans rfl)
      rw [z]
      have G16 := ((G8.trans g12).trans g13)
      exact Runs.ret ⟨rfl, G16⟩

def law06_PaillierSums' (x1 : List Nat) (x2 : List Nat) (x3 : List Nat) (x4 : List Nat) : Bool :=
  cond (!((few06 [x1, x2, x3, x4]))) (true) (cond (true) (cond (true) (cond (true) (cond (decide (((addF x1 x2 x3).2) = ((addF x1 x2 x3).2))) (decide (((plainF x1 x2 x4).2) = ((plainF x1 x2 x4).2))) (false)) (false)) (false)) (false))

theorem law06_PaillierSums_spec {h : AH} {a1 : Sl} {x1 : List Nat} {a2 : Sl} {x2 : List Nat} {a3 : Sl} {x3 : List Nat} {a4 : Sl} {x4 : List Nat} (n1 : Nats h a1 x1) (n2 : Nats h a2 x2) (n3 : Nats h a3 x3) (n4 : Nats h a4 x4)  : Runs (go (.fn F.law06_PaillierSums [a1.v, .agg [a2.v, a3.v], a4.v]) h) fun v h' => v = .bool (law06_PaillierSums' x1 x2 x3 x4) ∧ Grow h h' := by
  rw [u_law06_PaillierSums]
  refine Runs.new fun H5 b5 g5 => ?_
  refine Runs.step (show idx (some (Ref.new h.blks.size 0)) 2 0 1 = some ((Ref.new h.blks.size 0).add 0) from rfl) ?_
  refine Runs.step (AH.has.rd0 b5 rfl (asSl_v _)) ?_
  refine Runs.step (show idx (some (Ref.new h.blks.size 0)) 2 1 1 = some ((Ref.new h.blks.size 0).add 1) from rfl) ?_
  refine Runs.step (AH.has.rd b5 1 rfl (asSl_v _)) ?_
  refine Runs.new fun H6 b6 g6 => ?_
  obtain ⟨_, H7, e7, rfl, g7⟩ := law06_few_is (Seq.lit (E := El.nats) (rows := [[(a1).v], [(a2).v], [(a3).v], [(a4).v]]) (n := 4) b6 (.cons ⟨_, rfl, (n1.grow (g5.trans g6))⟩ (.cons ⟨_, rfl, (n2.grow (g5.trans g6))⟩ (.cons ⟨_, rfl, (n3.grow (g5.trans g6))⟩ (.cons ⟨_, rfl, (n4.grow (g5.trans g6))⟩ .nil)))) rfl) (by simp)
  refine Runs.step e7 ?_
  refine Runs.step (seen rfl) ?_
  refine Runs.cond (fun k8 => ?_) (fun k8 => ?_)
  · have z : law06_PaillierSums' x1 x2 x3 x4 = true := by unfold law06_PaillierSums'; exact (condT k8).trans rfl
    rw [z]
    have G9 := ((g5.trans g6).trans g7)
    exact Runs.ret ⟨rfl, G9⟩
  · obtain ⟨H9, e9, g9⟩ := awake06
    refine Runs.step e9 ?_
    refine Runs.step (seen rfl) ?_
    have G10 := (((g5.trans g6).trans g7).trans g9)
    have n1_11 := n1.grow G10
    have n2_12 := n2.grow G10
    have n3_13 := n3.grow G10
    obtain ⟨_, H14, e14, s14, rfl, n14, g14, o14⟩ := paillier_Add_is n1_11 n2_12 n3_13
    refine Runs.step e14 ?_
    refine Runs.step rfl ?_
    refine Runs.step (seen (asSl_v _)) ?_
    refine Runs.step (seen (avInt_int _ _)) ?_
    obtain ⟨_, H15, e15, s15, rfl, n15, g15, o15⟩ := ref06_Add_is (n1_11.grow g14) (n2_12.grow g14) (n3_13.grow g14)
    refine Runs.step e15 ?_
    refine Runs.step rfl ?_
    refine Runs.step (seen (asSl_v _)) ?_
    refine Runs.step (seen (avInt_int _ _)) ?_
    refine Runs.step (ref01_Same_spec (n14.grow g15) n15) ?_
    refine Runs.step (seen rfl) ?_
    have G17 := ((G10.trans g14).trans g15)
    have n4_18 := n4.grow G17
    obtain ⟨_, H19, e19, s19, rfl, n19, g19, o19⟩ := paillier_Plain_is (n1_11.grow (g14.trans g15)) (n2_12.grow (g14.trans g15)) n4_18
    refine Runs.step e19 ?_
    refine Runs.step rfl ?_
    refine Runs.step (seen (asSl_v _)) ?_
    refine Runs.step (seen (avInt_int _ _)) ?_
    have G20 := ((g14.trans g15).trans g19)
    have n1_21 := n1_11.grow G20
    have n2_22 := n2_12.grow G20
    obtain ⟨_, H23, e23, s23, rfl, n23, g23, o23⟩ := ref06_Plain_is n1_21 n2_22 (n4_18.grow g19)
    refine Runs.step e23 ?_
    refine Runs.step rfl ?_
    refine Runs.step (seen (asSl_v _)) ?_
    refine Runs.step (seen (avInt_int _ _)) ?_
    refine Runs.step (ref01_Same_spec (n19.grow g23) n23) ?_
    refine Runs.step (seen rfl) ?_
    refine Runs.cond (fun k25 => ?_) (fun k25 => ?_)
    · refine Runs.cond (fun k26 => ?_) (fun k26 => ?_)
      · refine Runs.cond (fun k27 => ?_) (fun k27 => ?_)
        · refine Runs.cond (fun k28 => ?_) (fun k28 => ?_)
          · have z : law06_PaillierSums' x1 x2 x3 x4 = decide (((plainF x1 x2 x4).2) = ((plainF x1 x2 x4).2)) := by unfold law06_PaillierSums'; exact (condF k8).trans ((condT k25).trans ((condT k26).trans ((condT k27).trans ((condT k28).trans rfl))))
            rw [z]
            have G29 := ((G17.trans g19).trans g23)
            exact Runs.ret ⟨rfl, G29⟩
          · have z : law06_PaillierSums' x1 x2 x3 x4 = false := by unfold law06_PaillierSums'; exact (condF k8).trans ((condT k25).trans ((condT k26).trans ((condT k27).trans ((condF k28).trans rfl))))
            rw [z]
            have G29 := ((G17.trans g19).trans g23)
            exact Runs.ret ⟨rfl, G29⟩
        · have z : law06_PaillierSums' x1 x2 x3 x4 = false := by unfold law06_PaillierSums'; exact (condF k8).trans ((condT k25).trans ((condT k26).trans ((condF k27).trans rfl)))
          rw [z]
          have G28 := ((G17.trans g19).trans g23)
          exact Runs.ret ⟨rfl, G28⟩
      · have z : law06_PaillierSums' x1 x2 x3 x4 = false := by unfold law06_PaillierSums'; exact (condF k8).trans ((condT k25).trans ((condF k26).trans rfl))
        rw [z]
        have G27 := ((G17.trans g19).trans g23)
        exact Runs.ret ⟨rfl, G27⟩
    · have z : law06_PaillierSums' x1 x2 x3 x4 = false := by unfold law06_PaillierSums'; exact (condF k8).trans ((condF k25).trans rfl)
      rw [z]
      have G26 := ((G17.trans g19).trans g23)
      exact Runs.ret ⟨rfl, G26⟩

def law06_PaillierScales' (x1 : List Nat) (x2 : List Nat) (x3 : List Nat) (x4 : List Nat) : Bool :=
  cond (!((few06 [x1, x2, x3, x4]))) (true) (cond (true) (cond (true) (cond (true) (cond (decide (((scaleF x1 x2 x3).2) = ((scaleF x1 x2 x3).2))) (decide (((againF x1 x2 x4).2) = ((againF x1 x2 x4).2))) (false)) (false)) (false)) (false))

theorem law06_PaillierScales_spec {h : AH} {a1 : Sl} {x1 : List Nat} {a2 : Sl} {x2 : List Nat} {a3 : Sl} {x3 : List Nat} {a4 : Sl} {x4 : List Nat} (n1 : Nats h a1 x1) (n2 : Nats h a2 x2) (n3 : Nats h a3 x3) (n4 : Nats h a4 x4)  : Runs (go (.fn F.law06_PaillierScales [a1.v, a2.v, .agg [a3.v, a4.v]]) h) fun v h' => v = .bool (law06_PaillierScales' x1 x2 x3 x4) ∧ Grow h h' := by
  rw [u_law06_PaillierScales]
  refine Runs.new fun H5 b5 g5 => ?_
  refine Runs.step (show idx (some (Ref.new h.blks.size 0)) 2 0 1 = some ((Ref.new h.blks.size 0).add 0) from rfl) ?_
  refine Runs.step (AH.has.rd0 b5 rfl (asSl_v _)) ?_
  refine Runs.step (show idx (some (Ref.new h.blks.size 0)) 2 1 1 = some ((Ref.new h.blks.size 0).add 1) from rfl) ?_
  refine Runs.step (AH.has.rd b5 1 rfl (asSl_v _)) ?_
  refine Runs.new fun H6 b6 g6 => ?_
  obtain ⟨_, H7, e7, rfl, g7⟩ := law06_few_is (Seq.lit (E := El.nats) (rows := [[(a1).v], [(a2).v], [(a3).v], [(a4).v]]) (n := 4) b6 (.cons ⟨_, rfl, (n1.grow (g5.trans g6))⟩ (.cons ⟨_, rfl, (n2.grow (g5.trans g6))⟩ (.cons ⟨_, rfl, (n3.grow (g5.trans g6))⟩ (.cons ⟨_, rfl, (n4.grow (g5.trans g6))⟩ .nil)))) rfl) (by simp)
  refine Runs.step e7 ?_
  refine Runs.step (seen rfl) ?_
  refine Runs.cond (fun k8 => ?_) (fun k8 => ?_)
  · have z : law06_PaillierScales' x1 x2 x3 x4 = true := by unfold law06_PaillierScales'; exact (condT k8).trans rfl
    rw [z]
    have G9 := ((g5.trans g6).trans g7)
    exact Runs.ret ⟨rfl, G9⟩
  · obtain ⟨H9, e9, g9⟩ := awake06
    refine Runs.step e9 ?_
    refine Runs.step (seen rfl) ?_
    have G10 := (((g5.trans g6).trans g7).trans g9)
    have n1_11 := n1.grow G10
    have n2_12 := n2.grow G10
    have n3_13 := n3.grow G10
    obtain ⟨_, H14, e14, s14, rfl, n14, g14, o14⟩ := paillier_Scale_is n1_11 n2_12 n3_13
    refine Runs.step e14 ?_
    refine Runs.step rfl ?_
    refine Runs.step (seen (asSl_v _)) ?_
    refine Runs.step (seen (avInt_int _ _)) ?_
    obtain ⟨_, H15, e15, s15, rfl, n15, g15, o15⟩ := ref06_Scale_is (n1_11.grow g14) (n2_12.grow g14) (n3_13.grow g14)
    refine Runs.step e15 ?_
    refine Runs.step rfl ?_
    refine Runs.step (seen (asSl_v _)) ?_
    refine Runs.step (seen (avInt_int _ _)) ?_
    refine Runs.step (ref01_Same_spec (n14.grow g15) n15) ?_
    refine Runs.step (seen rfl) ?_
    have G17 := ((G10.trans g14).trans g15)
    have n4_18 := n4.grow G17
    obtain ⟨_, H19, e19, s19, rfl, n19, g19, o19⟩ := paillier_Again_is (n1_11.grow (g14.trans g15)) (n2_12.grow (g14.trans g15)) n4_18
    refine Runs.step e19 ?_
    refine Runs.step rfl ?_
    refine Runs.step (seen (asSl_v _)) ?_
    refine Runs.step (seen (avInt_int _ _)) ?_
    have G20 := ((g14.trans g15).trans g19)
    have n1_21 := n1_11.grow G20
    have n2_22 := n2_12.grow G20
    obtain ⟨_, H23, e23, s23, rfl, n23, g23, o23⟩ := ref06_Again_is n1_21 n2_22 (n4_18.grow g19)
    refine Runs.step e23 ?_
    refine Runs.step rfl ?_
    refine Runs.step (seen (asSl_v _)) ?_
    refine Runs.step (seen (avInt_int _ _)) ?_
    refine Runs.step (ref01_Same_spec (n19.grow g23) n23) ?_
    refine Runs.step (seen rfl) ?_
    refine Runs.cond (fun k25 => ?_) (fun k25 => ?_)
    · refine Runs.cond (fun k26 => ?_) (fun k26 => ?_)
      · refine Runs.cond (fun k27 => ?_) (fun k27 => ?_)
        · refine Runs.cond (fun k28 => ?_) (fun k28 => ?_)
          · have z : law06_PaillierScales' x1 x2 x3 x4 = decide (((againF x1 x2 x4).2) = ((againF x1 x2 x4).2)) := by unfold law06_PaillierScales'; exact (condF k8).trans ((condT k25).trans ((condT k26).trans ((condT k27).trans ((condT k28).trans rfl))))
            rw [z]
            have G29 := ((G17.trans g19).trans g23)
            exact Runs.ret ⟨rfl, G29⟩
          · have z : law06_PaillierScales' x1 x2 x3 x4 = false := by unfold law06_PaillierScales'; exact (condF k8).trans ((condT k25).trans ((condT k26).trans ((condT k27).trans ((condF k28).trans rfl))))
            rw [z]
            have G29 := ((G17.trans g19).trans g23)
            exact Runs.ret ⟨rfl, G29⟩
        · have z : law06_PaillierScales' x1 x2 x3 x4 = false := by unfold law06_PaillierScales'; exact (condF k8).trans ((condT k25).trans ((condT k26).trans ((condF k27).trans rfl)))
          rw [z]
          have G28 := ((G17.trans g19).trans g23)
          exact Runs.ret ⟨rfl, G28⟩
      · have z : law06_PaillierScales' x1 x2 x3 x4 = false := by unfold law06_PaillierScales'; exact (condF k8).trans ((condT k25).trans ((condF k26).trans rfl))
        rw [z]
        have G27 := ((G17.trans g19).trans g23)
        exact Runs.ret ⟨rfl, G27⟩
    · have z : law06_PaillierScales' x1 x2 x3 x4 = false := by unfold law06_PaillierScales'; exact (condF k8).trans ((condF k25).trans rfl)
      rw [z]
      have G26 := ((G17.trans g19).trans g23)
      exact Runs.ret ⟨rfl, G26⟩

end Go.Ab

/- Layer 6: the laws Encrypts, Sums, Scales. -/
set_option linter.unusedVariables false
set_option linter.unusedSimpArgs false
set_option maxRecDepth 10000
namespace Go.Ab
open Go.Proofs Go.Num

theorem nats2_of_arg6 {h : AH} {x : AV} (a : ArgV Pg h T.A2_api_Nat x) : ∃ (s t : Sl) (xs ys : List Nat), x = .agg [s.v, t.v] ∧ Nats h s xs ∧ Nats h t ys := by
  unfold ArgV at a
  rw [und_A2_api_Nat] at a
  obtain ⟨cs, rfl, t⟩ := a
  obtain ⟨hl, hf⟩ := t.array und_A2_api_Nat
  rw [cells_A2_api_Nat] at hl
  match cs, hl with
  | [x0, x1], _ =>
    have h0 := hf 0 (by omega)
    have h1 := hf 1 (by omega)
    simp [cells_api_Nat] at h0 h1
    obtain ⟨s1, xs, e0, n⟩ := nats_of_arg h0
    obtain ⟨s2, ys, e1, m⟩ := nats_of_arg h1
    cases e0; cases e1
    exact ⟨s1, s2, xs, ys, rfl, n, m⟩

theorem PaillierEncrypts_law (h : AH) {x0 x1 x2 : AV} (z0 : ArgV Pg h T.api_Nat x0) (z1 : ArgV Pg h T.api_Nat x1) (z2 : ArgV Pg h T.api_Nat x2) : ∃ h', go (.fn F.law06_PaillierEncrypts [x0, x1, x2]) h = some (.bool true, h') := by
  obtain ⟨s, xs, rfl, n⟩ := nat_of_arg z0
  obtain ⟨t, ys, rfl, m⟩ := nat_of_arg z1
  obtain ⟨u, zs, rfl, k⟩ := nat_of_arg z2
  obtain ⟨_, h', e, rfl, _⟩ := law06_PaillierEncrypts_spec n m k
  refine ⟨h', e.trans ?_⟩
  have : law06_PaillierEncrypts' xs ys zs = true := by
    unfold law06_PaillierEncrypts'
    refine cond_elim (fun _ => rfl) fun _ => ?_
    simp
  rw [this]

theorem PaillierSums_law (h : AH) {x0 x1 x2 : AV} (z0 : ArgV Pg h T.api_Nat x0) (z1 : ArgV Pg h T.A2_api_Nat x1) (z2 : ArgV Pg h T.api_Nat x2) : ∃ h', go (.fn F.law06_PaillierSums [x0, x1, x2]) h = some (.bool true, h') := by
  obtain ⟨s, xs, rfl, n⟩ := nat_of_arg z0
  obtain ⟨t, u, ys, zs, rfl, m, k⟩ := nats2_of_arg6 z1
  obtain ⟨w, ws, rfl, l⟩ := nat_of_arg z2
  obtain ⟨_, h', e, rfl, _⟩ := law06_PaillierSums_spec n m k l
  refine ⟨h', e.trans ?_⟩
  have : law06_PaillierSums' xs ys zs ws = true := by
    unfold law06_PaillierSums'
    refine cond_elim (fun _ => rfl) fun _ => ?_
    simp
  rw [this]

theorem PaillierScales_law (h : AH) {x0 x1 x2 : AV} (z0 : ArgV Pg h T.api_Nat x0) (z1 : ArgV Pg h T.api_Nat x1) (z2 : ArgV Pg h T.A2_api_Nat x2) : ∃ h', go (.fn F.law06_PaillierScales [x0, x1, x2]) h = some (.bool true, h') := by
  obtain ⟨s, xs, rfl, n⟩ := nat_of_arg z0
  obtain ⟨w, ws, rfl, l⟩ := nat_of_arg z1
  obtain ⟨t, u, ys, zs, rfl, m, k⟩ := nats2_of_arg6 z2
  obtain ⟨_, h', e, rfl, _⟩ := law06_PaillierScales_spec n l m k
  refine ⟨h', e.trans ?_⟩
  have : law06_PaillierScales' xs ws ys zs = true := by
    unfold law06_PaillierScales'
    refine cond_elim (fun _ => rfl) fun _ => ?_
    simp
  rw [this]

end Go.Ab
