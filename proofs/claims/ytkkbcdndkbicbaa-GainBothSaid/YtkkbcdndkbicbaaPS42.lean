/- Layer 3: Gcd, Floor: printed by wip/tools/walk.py. -/
import Derived.Test.YtkkbcdndkbicbaaPS32
import Derived.Test.YtkkbcdndkbicbaaPAbsM

set_option linter.unusedVariables false
set_option linter.unusedSimpArgs false
set_option maxRecDepth 10000
namespace Go.Ab
open Go.Proofs Go.Num

inductive modint_Gcd_St
  | fn (x1 : List Nat) (x2 : List Nat)
  | p4 (x1 : List Nat) (x2 : List Nat)

abbrev modint_Gcd_Res := List Nat × Int

noncomputable def modint_Gcd_fn' (x1 : List Nat) (x2 : List Nat) : Option (modint_Gcd_St ⊕ modint_Gcd_Res) :=
  cond (!(rt x1)) (some (.inr ([], 1))) (cond (!(rt x2)) (some (.inr ([], 1))) ((need (List.length x1 ≤ 8796093022208)).bind fun c7_0 => (need (List.length x2 ≤ 8796093022208)).bind fun c8_0 => some (.inl (.p4 x1 x2))))

noncomputable def modint_Gcd_p4' (x1 : List Nat) (x2 : List Nat) : Option (modint_Gcd_St ⊕ modint_Gcd_Res) :=
  cond (decide ((List.length x2 : Int) > 0)) (some (.inl (.p4 x2 ((divN x1 x2).2.1)))) (some (.inr (x1, 0)))

noncomputable def modint_Gcd_step : modint_Gcd_St → Option (modint_Gcd_St ⊕ modint_Gcd_Res)
  | .fn x1 x2 => modint_Gcd_fn' x1 x2
  | .p4 x1 x2 => modint_Gcd_p4' x1 x2

@[reducible] def modint_Gcd_post (h0 : AH) (r : modint_Gcd_Res) (v : AV) (h' : AH) : Prop := ∃ s1 : Sl, v = .tup [s1.v, .int .i64 r.2] ∧ Nats h' s1 r.1 ∧ Grow h0 h' ∧ Own h0 s1

def modint_Gcd_At (r : modint_Gcd_Res) : modint_Gcd_St → Prop
  | .fn x1 x2 => ∀ {h : AH} {a1 : Sl} {a2 : Sl}, Nats h a1 x1 → Nats h a2 x2 → Runs (go (.fn F.modint_Gcd [a1.v, a2.v]) h) (modint_Gcd_post h r)
  | .p4 x1 x2 => ∀ {h0 h : AH} {a1 : Sl} {a2 : Sl}, Grow h0 h → Nats h a1 x1 → Nats h a2 x2 → Own h0 a1 → Own h0 a2 → Runs (go (.pt F.modint_Gcd Td.modint_Gcd_4 [(0, a1.v), (1, a2.v)]) h) (modint_Gcd_post h0 r)

theorem modint_Gcd_fn_walk {r : modint_Gcd_Res} {o : modint_Gcd_St ⊕ modint_Gcd_Res} {x1 : List Nat} {x2 : List Nat} (e : modint_Gcd_fn' x1 x2 = some o) (good : GoodS (modint_Gcd_At r) r o) : modint_Gcd_At r (.fn x1 x2) := by
  intro h a1 a2 n1 n2
  rw [u_modint_Gcd]
  unfold modint_Gcd_fn' at e
  refine Runs.step (nat_Right_spec n1) ?_
  refine Runs.step (seen rfl) ?_
  refine Runs.cond (fun k4 => ?_) (fun k4 => ?_)
  · replace e := (condT k4).symm.trans e
    cases e
    cases good
    exact Runs.ret ⟨(⟨none, 0, .is 0⟩ : Sl), rfl, (Nats.nil _), (Grow.refl _), (Own.nil _)⟩
  · replace e := (condF k4).symm.trans e
    refine Runs.step (nat_Right_spec n2) ?_
    refine Runs.step (seen rfl) ?_
    refine Runs.cond (fun k6 => ?_) (fun k6 => ?_)
    · replace e := (condT k6).symm.trans e
      cases e
      cases good
      exact Runs.ret ⟨(⟨none, 0, .is 0⟩ : Sl), rfl, (Nats.nil _), (Grow.refl _), (Own.nil _)⟩
    · replace e := (condF k6).symm.trans e
      obtain ⟨c7_0, q7_0, e⟩ := Option.bind_eq_some_iff.1 e
      obtain ⟨s7, H7, e7, n7, g7, o7⟩ := clone_spec n1  c7_0.down
      refine Runs.step e7 ?_
      refine Runs.step (seen (asSl_v _)) ?_
      obtain ⟨c8_0, q8_0, e⟩ := Option.bind_eq_some_iff.1 e
      obtain ⟨s8, H8, e8, n8, g8, o8⟩ := clone_spec (n2.grow g7)  c8_0.down
      refine Runs.step e8 ?_
      refine Runs.step (seen (asSl_v _)) ?_
      cases e
      exact good (g7.trans g8) (n7.grow g8) n8 (o7.of_le (Grow.refl _)) (o8.of_le g7)

theorem modint_Gcd_p4_walk {r : modint_Gcd_Res} {o : modint_Gcd_St ⊕ modint_Gcd_Res} {x1 : List Nat} {x2 : List Nat} (e : modint_Gcd_p4' x1 x2 = some o) (good : GoodS (modint_Gcd_At r) r o) : modint_Gcd_At r (.p4 x1 x2) := by
  intro h0 h a1 a2 g0 n1 n2 ow1 ow2
  rw [p_modint_Gcd_4]
  unfold modint_Gcd_p4' at e
  rw [n2.len]
  refine Runs.cond (fun k3 => ?_) (fun k3 => ?_)
  · replace e := (condT k3).symm.trans e
    obtain ⟨s4, s4b, H4, e4, n4, n4b, g4, o4, o4b⟩ := nat_Div_spec n1 n2
    refine Runs.step e4 ?_
    refine Runs.step rfl ?_
    refine Runs.step (seen (asSl_v _)) ?_
    refine Runs.step (seen (asSl_v _)) ?_
    refine Runs.step (seen (avInt_int _ _)) ?_
    cases e
    exact good (g0.trans g4) (n2.grow g4) n4b (ow2.of_le (Grow.refl _)) (o4b.of_le g0)
  · replace e := (condF k3).symm.trans e
    cases e
    cases good
    exact Runs.ret ⟨a1, rfl, n1, g0, (ow1.of_le (Grow.refl _))⟩

theorem modint_Gcd_run {s : modint_Gcd_St} {r : modint_Gcd_Res} (it : Iter modint_Gcd_step s r) : modint_Gcd_At r s := Iter.ind (fun s o e good => by
  cases s with
  | fn x1 x2 => exact @modint_Gcd_fn_walk _ _ x1 x2 e good
  | p4 x1 x2 => exact @modint_Gcd_p4_walk _ _ x1 x2 e good
  ) it

theorem modint_Gcd_opt {h : AH} {a1 : Sl} {a2 : Sl} {x1 : List Nat} {x2 : List Nat} (n1 : Nats h a1 x1) (n2 : Nats h a2 x2) {r : modint_Gcd_Res} (q : runP modint_Gcd_step (.fn x1 x2) = some r) : Runs (go (.fn F.modint_Gcd [a1.v, a2.v]) h) (modint_Gcd_post h r) := modint_Gcd_run (runP_iter q) n1 n2

inductive ref03_Gcd_St
  | fn (x1 : List Nat) (x2 : List Nat)
  | p7 (x1 : List Nat) (x2 : List Nat)

abbrev ref03_Gcd_Res := List Nat × Int

noncomputable def ref03_Gcd_fn' (x1 : List Nat) (x2 : List Nat) : Option (ref03_Gcd_St ⊕ ref03_Gcd_Res) :=
  cond (!(rt x1)) (some (.inr ([], 1))) (cond (!(rt x2)) (some (.inr ([], 1))) ((need (List.length x1 ≤ 1073741824)).bind fun c8 => (need (List.length x2 ≤ 1073741824)).bind fun c10 => some (.inl (.p7 x1 x2))))

noncomputable def ref03_Gcd_p7' (x1 : List Nat) (x2 : List Nat) : Option (ref03_Gcd_St ⊕ ref03_Gcd_Res) :=
  cond (decide ((List.length x2 : Int) > 0)) (some (.inl (.p7 x2 ((divN x1 x2).2.1)))) (some (.inr (x1, 0)))

noncomputable def ref03_Gcd_step : ref03_Gcd_St → Option (ref03_Gcd_St ⊕ ref03_Gcd_Res)
  | .fn x1 x2 => ref03_Gcd_fn' x1 x2
  | .p7 x1 x2 => ref03_Gcd_p7' x1 x2

@[reducible] def ref03_Gcd_post (h0 : AH) (r : ref03_Gcd_Res) (v : AV) (h' : AH) : Prop := ∃ s1 : Sl, v = .tup [s1.v, .int .i64 r.2] ∧ Nats h' s1 r.1 ∧ Grow h0 h' ∧ Own h0 s1

def ref03_Gcd_At (r : ref03_Gcd_Res) : ref03_Gcd_St → Prop
  | .fn x1 x2 => ∀ {h : AH} {a1 : Sl} {a2 : Sl}, Nats h a1 x1 → Nats h a2 x2 → Runs (go (.fn F.ref03_Gcd [a1.v, a2.v]) h) (ref03_Gcd_post h r)
  | .p7 x1 x2 => ∀ {h0 h : AH} {a1 : Sl} {a2 : Sl}, Grow h0 h → Nats h a1 x1 → Nats h a2 x2 → Own h0 a1 → Own h0 a2 → Runs (go (.pt F.ref03_Gcd Td.ref03_Gcd_7 [(8, a1.v), (9, a2.v)]) h) (ref03_Gcd_post h0 r)

theorem ref03_Gcd_fn_walk {r : ref03_Gcd_Res} {o : ref03_Gcd_St ⊕ ref03_Gcd_Res} {x1 : List Nat} {x2 : List Nat} (e : ref03_Gcd_fn' x1 x2 = some o) (good : GoodS (ref03_Gcd_At r) r o) : ref03_Gcd_At r (.fn x1 x2) := by
  intro h a1 a2 n1 n2
  rw [u_ref03_Gcd]
  unfold ref03_Gcd_fn' at e
  refine Runs.step (ref01_Right_spec n1) ?_
  refine Runs.step (seen rfl) ?_
  refine Runs.step (ref01_Right_spec n2) ?_
  refine Runs.step (seen rfl) ?_
  refine Runs.cond (fun k5 => ?_) (fun k5 => ?_)
  · replace e := (condT k5).symm.trans e
    cases e
    cases good
    exact Runs.ret ⟨(⟨none, 0, .is 0⟩ : Sl), rfl, (Nats.nil _), (Grow.refl _), (Own.nil _)⟩
  · replace e := (condF k5).symm.trans e
    refine Runs.cond (fun k6 => ?_) (fun k6 => ?_)
    · replace e := (condT k6).symm.trans e
      cases e
      cases good
      exact Runs.ret ⟨(⟨none, 0, .is 0⟩ : Sl), rfl, (Nats.nil _), (Grow.refl _), (Own.nil _)⟩
    · replace e := (condF k6).symm.trans e
      refine Runs.new fun H7 b7 g7 => ?_
      refine Runs.step (appendArgs_nats (n1.grow g7)) ?_
      obtain ⟨c8, q8, e⟩ := Option.bind_eq_some_iff.1 e
      obtain ⟨s8, H8, e8, n8, g8, o8⟩ := append_empty b7 (n1.grow g7) g7 (Nat.le_refl _) c8.down
      refine Runs.step e8 ?_
      refine Runs.step (asSl_v _) ?_
      refine Runs.new fun H9 b9 g9 => ?_
      refine Runs.step (appendArgs_nats (n2.grow ((g7.trans g8).trans g9))) ?_
      obtain ⟨c10, q10, e⟩ := Option.bind_eq_some_iff.1 e
      obtain ⟨s10, H10, e10, n10, g10, o10⟩ := append_empty b9 (n2.grow ((g7.trans g8).trans g9)) g9 (Nat.le_refl _) c10.down
      refine Runs.step e10 ?_
      refine Runs.step (asSl_v _) ?_
      cases e
      exact good (((g7.trans g8).trans g9).trans g10) (n8.grow (g9.trans g10)) n10 (o8.of_le (Grow.refl _)) (o10.of_le (g7.trans g8))

theorem ref03_Gcd_p7_walk {r : ref03_Gcd_Res} {o : ref03_Gcd_St ⊕ ref03_Gcd_Res} {x1 : List Nat} {x2 : List Nat} (e : ref03_Gcd_p7' x1 x2 = some o) (good : GoodS (ref03_Gcd_At r) r o) : ref03_Gcd_At r (.p7 x1 x2) := by
  intro h0 h a1 a2 g0 n1 n2 ow1 ow2
  rw [p_ref03_Gcd_7]
  unfold ref03_Gcd_p7' at e
  rw [n2.len]
  refine Runs.cond (fun k3 => ?_) (fun k3 => ?_)
  · replace e := (condT k3).symm.trans e
    obtain ⟨s4, H4, e4, n4, g4, o4⟩ := ref01_Rest_spec n1 n2
    refine Runs.step e4 ?_
    refine Runs.step (seen (asSl_v _)) ?_
    cases e
    exact good (g0.trans g4) (n2.grow g4) n4 (ow2.of_le (Grow.refl _)) (o4.of_le g0)
  · replace e := (condF k3).symm.trans e
    cases e
    cases good
    exact Runs.ret ⟨a1, rfl, n1, g0, (ow1.of_le (Grow.refl _))⟩

theorem ref03_Gcd_run {s : ref03_Gcd_St} {r : ref03_Gcd_Res} (it : Iter ref03_Gcd_step s r) : ref03_Gcd_At r s := Iter.ind (fun s o e good => by
  cases s with
  | fn x1 x2 => exact @ref03_Gcd_fn_walk _ _ x1 x2 e good
  | p7 x1 x2 => exact @ref03_Gcd_p7_walk _ _ x1 x2 e good
  ) it

theorem ref03_Gcd_opt {h : AH} {a1 : Sl} {a2 : Sl} {x1 : List Nat} {x2 : List Nat} (n1 : Nats h a1 x1) (n2 : Nats h a2 x2) {r : ref03_Gcd_Res} (q : runP ref03_Gcd_step (.fn x1 x2) = some r) : Runs (go (.fn F.ref03_Gcd [a1.v, a2.v]) h) (ref03_Gcd_post h r) := ref03_Gcd_run (runP_iter q) n1 n2

inductive modint_Floor_St
  | fn (a1 : Bool) (x2 : List Nat) (a3 : Bool) (x4 : List Nat)
  | no

abbrev modint_Floor_Res := Bool × List Nat × Bool × List Nat × Int

noncomputable def modint_Floor_fn' (a1 : Bool) (x2 : List Nat) (a3 : Bool) (x4 : List Nat) : Option (modint_Floor_St ⊕ modint_Floor_Res) :=
  cond (!((rtI a1 x2 && rtI a3 x4))) (some (.inr (false, [], false, [], 1))) (cond (decide ((List.length x4 : Int) = 0)) (some (.inr (false, [], false, [], 3))) (cond (a3) (some (.inr (false, [], false, [], 1))) (cond (a1) (cond (decide ((List.length ((divN x2 x4).2.1) : Int) > 0)) ((u64P 1).bind fun p17 => cond (!decide (((addN ((divN x2 x4).1) (digs B p17)).2) = 0)) (some (.inr (false, [], false, [], ((addN ((divN x2 x4).1) (digs B p17)).2)))) (some (.inr ((((fromI a1 ((addN ((divN x2 x4).1) (digs B p17)).1)).1)), (fromI a1 ((addN ((divN x2 x4).1) (digs B p17)).1)).2, (((fromI false ((subN x4 ((divN x2 x4).2.1)).1)).1)), (fromI false ((subN x4 ((divN x2 x4).2.1)).1)).2, 0)))) (some (.inr ((((fromI a1 ((divN x2 x4).1)).1)), (fromI a1 ((divN x2 x4).1)).2, (((fromI false ((divN x2 x4).2.1)).1)), (fromI false ((divN x2 x4).2.1)).2, 0)))) (some (.inr ((((fromI a1 ((divN x2 x4).1)).1)), (fromI a1 ((divN x2 x4).1)).2, (((fromI false ((divN x2 x4).2.1)).1)), (fromI false ((divN x2 x4).2.1)).2, 0))))))

noncomputable def modint_Floor_step : modint_Floor_St → Option (modint_Floor_St ⊕ modint_Floor_Res)
  | .fn a1 x2 a3 x4 => modint_Floor_fn' a1 x2 a3 x4
  | .no => none

@[reducible] def modint_Floor_post (h0 : AH) (r : modint_Floor_Res) (v : AV) (h' : AH) : Prop := ∃ s1 : Sl, ∃ s2 : Sl, v = .tup [.agg [.bool r.1, s1.v], .agg [.bool r.2.2.1, s2.v], .int .i64 r.2.2.2.2] ∧ Nats h' s1 r.2.1 ∧ Nats h' s2 r.2.2.2.1 ∧ Grow h0 h' ∧ Own h0 s1 ∧ Own h0 s2

def modint_Floor_At (r : modint_Floor_Res) : modint_Floor_St → Prop
  | .fn a1 x2 a3 x4 => ∀ {h : AH} {a2 : Sl} {a4 : Sl}, Nats h a2 x2 → Nats h a4 x4 → Runs (go (.fn F.modint_Floor [.agg [.bool a1, a2.v], .agg [.bool a3, a4.v]]) h) (modint_Floor_post h r)
  | .no => True

theorem modint_Floor_fn_walk {r : modint_Floor_Res} {o : modint_Floor_St ⊕ modint_Floor_Res} {a1 : Bool} {x2 : List Nat} {a3 : Bool} {x4 : List Nat} (e : modint_Floor_fn' a1 x2 a3 x4 = some o) (good : GoodS (modint_Floor_At r) r o) : modint_Floor_At r (.fn a1 x2 a3 x4) := by
  intro h a2 a4 n2 n4
  rw [u_modint_Floor]
  unfold modint_Floor_fn' at e
  refine Runs.new fun H5 b5 g5 => ?_
  refine Runs.new fun H6 b6 g6 => ?_
  refine Runs.new fun H7 b7 g7 => ?_
  refine Runs.new fun H8 b8 g8 => ?_
  refine Runs.step (AH.has.rd (((g6.trans g7).trans g8).has b5) 0 rfl rfl) ?_
  refine Runs.step (AH.has.rd (((g6.trans g7).trans g8).has b5) 1 rfl (asSl_v _)) ?_
  refine Runs.step (AH.has.rd ((g7.trans g8).has b6) 0 rfl rfl) ?_
  refine Runs.step (AH.has.rd ((g7.trans g8).has b6) 1 rfl (asSl_v _)) ?_
  refine Runs.new fun H9 b9 g9 => ?_
  obtain ⟨H10, e10, g10⟩ := modint_right2_spec b9 (n2.grow ((((g5.trans g6).trans g7).trans g8).trans g9)) (n4.grow ((((g5.trans g6).trans g7).trans g8).trans g9))
  refine Runs.step e10 ?_
  refine Runs.step (seen rfl) ?_
  refine Runs.cond (fun k11 => ?_) (fun k11 => ?_)
  · replace e := (condT k11).symm.trans e
    refine Runs.puts (((g8.trans g9).trans g10).has b7) rfl fun H12 b12 u12 => ?_
    have b8_12 := AH.has.updr ((g9.trans g10).has b8) (Nat.ne_of_gt (Nat.lt_of_lt_of_le (b7).lt (Nat.le_refl _))) u12
    have b9_12 := AH.has.updr (g10.has b9) (Nat.ne_of_gt (Nat.lt_of_lt_of_le (g8.has b7).lt (Nat.le_refl _))) u12
    refine Runs.puts b8_12 rfl fun H13 b13 u13 => ?_
    have b12_13 := AH.has.updr b12 (Nat.ne_of_lt (Nat.lt_of_lt_of_le (b7).lt (Nat.le_refl _))) u13
    have b9_13 := AH.has.updr b9_12 (Nat.ne_of_gt (Nat.lt_of_lt_of_le (b8).lt (Nat.le_refl _))) u13
    refine Runs.step (AH.has.rd b12_13 0 rfl rfl) ?_
    refine Runs.step (AH.has.rd b12_13 1 rfl (asSl_v _)) ?_
    refine Runs.step (AH.has.rd b13 0 rfl rfl) ?_
    refine Runs.step (AH.has.rd b13 1 rfl (asSl_v _)) ?_
    cases e
    cases good
    exact Runs.ret ⟨(⟨none, 0, .is 0⟩ : Sl), (⟨none, 0, .is 0⟩ : Sl), rfl, (Nats.nil _), (Nats.nil _), (((((((g5.trans g6).trans g7).trans g8).trans g9).trans g10).updr (Nat.le_trans ((g5.trans g6)).size (Nat.le_refl _)) u12).updr (Nat.le_trans (((g5.trans g6).trans g7)).size (Nat.le_refl _)) u13), (Own.nil _), (Own.nil _)⟩
  · replace e := (condF k11).symm.trans e
    refine Runs.step (AH.has.rd ((((g7.trans g8).trans g9).trans g10).has b6) 1 rfl (asSl_v _)) ?_
    rw [(n4.grow (((((g5.trans g6).trans g7).trans g8).trans g9).trans g10)).len]
    refine Runs.cond (fun k12 => ?_) (fun k12 => ?_)
    · replace e := (condT k12).symm.trans e
      refine Runs.puts (((g8.trans g9).trans g10).has b7) rfl fun H13 b13 u13 => ?_
      have b8_13 := AH.has.updr ((g9.trans g10).has b8) (Nat.ne_of_gt (Nat.lt_of_lt_of_le (b7).lt (Nat.le_refl _))) u13
      have b9_13 := AH.has.updr (g10.has b9) (Nat.ne_of_gt (Nat.lt_of_lt_of_le (g8.has b7).lt (Nat.le_refl _))) u13
      refine Runs.puts b8_13 rfl fun H14 b14 u14 => ?_
      have b13_14 := AH.has.updr b13 (Nat.ne_of_lt (Nat.lt_of_lt_of_le (b7).lt (Nat.le_refl _))) u14
      have b9_14 := AH.has.updr b9_13 (Nat.ne_of_gt (Nat.lt_of_lt_of_le (b8).lt (Nat.le_refl _))) u14
      refine Runs.step (AH.has.rd b13_14 0 rfl rfl) ?_
      refine Runs.step (AH.has.rd b13_14 1 rfl (asSl_v _)) ?_
      refine Runs.step (AH.has.rd b14 0 rfl rfl) ?_
      refine Runs.step (AH.has.rd b14 1 rfl (asSl_v _)) ?_
      cases e
      cases good
      exact Runs.ret ⟨(⟨none, 0, .is 0⟩ : Sl), (⟨none, 0, .is 0⟩ : Sl), rfl, (Nats.nil _), (Nats.nil _), (((((((g5.trans g6).trans g7).trans g8).trans g9).trans g10).updr (Nat.le_trans ((g5.trans g6)).size (Nat.le_refl _)) u13).updr (Nat.le_trans (((g5.trans g6).trans g7)).size (Nat.le_refl _)) u14), (Own.nil _), (Own.nil _)⟩
    · replace e := (condF k12).symm.trans e
      refine Runs.step (AH.has.rd ((((g7.trans g8).trans g9).trans g10).has b6) 0 rfl rfl) ?_
      refine Runs.cond (fun k13 => ?_) (fun k13 => ?_)
      · replace e := (condT k13).symm.trans e
        refine Runs.puts (((g8.trans g9).trans g10).has b7) rfl fun H14 b14 u14 => ?_
        have b8_14 := AH.has.updr ((g9.trans g10).has b8) (Nat.ne_of_gt (Nat.lt_of_lt_of_le (b7).lt (Nat.le_refl _))) u14
        have b9_14 := AH.has.updr (g10.has b9) (Nat.ne_of_gt (Nat.lt_of_lt_of_le (g8.has b7).lt (Nat.le_refl _))) u14
        refine Runs.puts b8_14 rfl fun H15 b15 u15 => ?_
        have b14_15 := AH.has.updr b14 (Nat.ne_of_lt (Nat.lt_of_lt_of_le (b7).lt (Nat.le_refl _))) u15
        have b9_15 := AH.has.updr b9_14 (Nat.ne_of_gt (Nat.lt_of_lt_of_le (b8).lt (Nat.le_refl _))) u15
        refine Runs.step (AH.has.rd b14_15 0 rfl rfl) ?_
        refine Runs.step (AH.has.rd b14_15 1 rfl (asSl_v _)) ?_
        refine Runs.step (AH.has.rd b15 0 rfl rfl) ?_
        refine Runs.step (AH.has.rd b15 1 rfl (asSl_v _)) ?_
        cases e
        cases good
        exact Runs.ret ⟨(⟨none, 0, .is 0⟩ : Sl), (⟨none, 0, .is 0⟩ : Sl), rfl, (Nats.nil _), (Nats.nil _), (((((((g5.trans g6).trans g7).trans g8).trans g9).trans g10).updr (Nat.le_trans ((g5.trans g6)).size (Nat.le_refl _)) u14).updr (Nat.le_trans (((g5.trans g6).trans g7)).size (Nat.le_refl _)) u15), (Own.nil _), (Own.nil _)⟩
      · replace e := (condF k13).symm.trans e
        refine Runs.step (AH.has.rd (((((g6.trans g7).trans g8).trans g9).trans g10).has b5) 1 rfl (asSl_v _)) ?_
        refine Runs.step (AH.has.rd ((((g7.trans g8).trans g9).trans g10).has b6) 1 rfl (asSl_v _)) ?_
        obtain ⟨s14, s14b, H14, e14, n14, n14b, g14, o14, o14b⟩ := nat_Div_spec (n2.grow (((((g5.trans g6).trans g7).trans g8).trans g9).trans g10)) (n4.grow (((((g5.trans g6).trans g7).trans g8).trans g9).trans g10))
        refine Runs.step e14 ?_
        refine Runs.step rfl ?_
        refine Runs.step (seen (asSl_v _)) ?_
        refine Runs.step (seen (asSl_v _)) ?_
        rw [n14b.len]
        refine Runs.step (seen (avInt_int _ _)) ?_
        refine Runs.step (AH.has.rd ((((((g6.trans g7).trans g8).trans g9).trans g10).trans g14).has b5) 0 rfl rfl) ?_
        refine Runs.cond (fun k15 => ?_) (fun k15 => ?_)
        · replace e := (condT k15).symm.trans e
          refine Runs.cond (fun k16 => ?_) (fun k16 => ?_)
          · replace e := (condT k16).symm.trans e
            obtain ⟨p17, q17, e⟩ := Option.bind_eq_some_iff.1 e
            obtain ⟨s17, H17, e17, n17, g17, o17⟩ := nat_Of_opt q17
            refine Runs.step e17 ?_
            refine Runs.step (seen (asSl_v _)) ?_
            obtain ⟨s18, H18, e18, n18, g18, o18⟩ := nat_Add_spec (n14.grow g17) n17
            refine Runs.step e18 ?_
            refine Runs.step rfl ?_
            refine Runs.step (seen (asSl_v _)) ?_
            refine Runs.step (seen (avInt_int _ _)) ?_
            refine Runs.cond (fun k19 => ?_) (fun k19 => ?_)
            · replace e := (condT k19).symm.trans e
              refine Runs.puts ((((((g8.trans g9).trans g10).trans g14).trans g17).trans g18).has b7) rfl fun H20 b20 u20 => ?_
              have n14_20 := (n14.grow (g17.trans g18)).upda (Av.of_own o14 (((g8.trans g9).trans g10).has b7).lt) u20
              have n14b_20 := (n14b.grow (g17.trans g18)).upda (Av.of_own o14b (((g8.trans g9).trans g10).has b7).lt) u20
              have n17_20 := (n17.grow g18).upda (Av.of_own o17 ((((g8.trans g9).trans g10).trans g14).has b7).lt) u20
              have n18_20 := n18.upda (Av.of_own o18 (((((g8.trans g9).trans g10).trans g14).trans g17).has b7).lt) u20
              have b8_20 := AH.has.updr (((((g9.trans g10).trans g14).trans g17).trans g18).has b8) (Nat.ne_of_gt (Nat.lt_of_lt_of_le (b7).lt (Nat.le_refl _))) u20
              have b9_20 := AH.has.updr ((((g10.trans g14).trans g17).trans g18).has b9) (Nat.ne_of_gt (Nat.lt_of_lt_of_le (g8.has b7).lt (Nat.le_refl _))) u20
              refine Runs.puts b8_20 rfl fun H21 b21 u21 => ?_
              have n14_21 := n14_20.upda (Av.of_own o14 ((g9.trans g10).has b8).lt) u21
              have n14b_21 := n14b_20.upda (Av.of_own o14b ((g9.trans g10).has b8).lt) u21
              have n17_21 := n17_20.upda (Av.of_own o17 (((g9.trans g10).trans g14).has b8).lt) u21
              have n18_21 := n18_20.upda (Av.of_own o18 ((((g9.trans g10).trans g14).trans g17).has b8).lt) u21
              have b20_21 := AH.has.updr b20 (Nat.ne_of_lt (Nat.lt_of_lt_of_le (b7).lt (Nat.le_refl _))) u21
              have b9_21 := AH.has.updr b9_20 (Nat.ne_of_gt (Nat.lt_of_lt_of_le (b8).lt (Nat.le_refl _))) u21
              refine Runs.step (AH.has.rd b20_21 0 rfl rfl) ?_
              refine Runs.step (AH.has.rd b20_21 1 rfl (asSl_v _)) ?_
              refine Runs.step (AH.has.rd b21 0 rfl rfl) ?_
              refine Runs.step (AH.has.rd b21 1 rfl (asSl_v _)) ?_
              cases e
              cases good
              exact Runs.ret ⟨(⟨none, 0, .is 0⟩ : Sl), (⟨none, 0, .is 0⟩ : Sl), rfl, (Nats.nil _), (Nats.nil _), ((((((((((g5.trans g6).trans g7).trans g8).trans g9).trans g10).trans g14).trans g17).trans g18).updr (Nat.le_trans ((g5.trans g6)).size (Nat.le_refl _)) u20).updr (Nat.le_trans (((g5.trans g6).trans g7)).size (Nat.le_refl _)) u21), (Own.nil _), (Own.nil _)⟩
            · replace e := (condF k19).symm.trans e
              refine Runs.step (AH.has.rd (((((((g7.trans g8).trans g9).trans g10).trans g14).trans g17).trans g18).has b6) 1 rfl (asSl_v _)) ?_
              obtain ⟨s20, H20, e20, n20, g20, o20⟩ := nat_Sub_spec (n4.grow ((((((((g5.trans g6).trans g7).trans g8).trans g9).trans g10).trans g14).trans g17).trans g18)) (n14b.grow (g17.trans g18))
              refine Runs.step e20 ?_
              refine Runs.step rfl ?_
              refine Runs.step (seen (asSl_v _)) ?_
              refine Runs.step (seen (avInt_int _ _)) ?_
              refine Runs.step (AH.has.rd (((((((((g6.trans g7).trans g8).trans g9).trans g10).trans g14).trans g17).trans g18).trans g20).has b5) 0 rfl rfl) ?_
              obtain ⟨s21, H21, e21, n21, g21, o21⟩ := modint_From_spec (n18.grow g20) a1
              refine Runs.step e21 ?_
              refine Runs.step rfl ?_
              refine Runs.ifT rfl ?_
              refine Runs.step (seenAt rfl rfl) ?_
              refine Runs.step (seenAt rfl (asSl_v _)) ?_
              obtain ⟨s22, H22, e22, n22, g22, o22⟩ := modint_From_spec (n20.grow g21) false
              refine Runs.step e22 ?_
              refine Runs.step rfl ?_
              refine Runs.ifT rfl ?_
              refine Runs.step (seenAt rfl rfl) ?_
              refine Runs.step (seenAt rfl (asSl_v _)) ?_
              refine Runs.puts (((((((((g8.trans g9).trans g10).trans g14).trans g17).trans g18).trans g20).trans g21).trans g22).has b7) rfl fun H23 b23 u23 => ?_
              have n14_23 := (n14.grow ((((g17.trans g18).trans g20).trans g21).trans g22)).upda (Av.of_own o14 (((g8.trans g9).trans g10).has b7).lt) u23
              have n14b_23 := (n14b.grow ((((g17.trans g18).trans g20).trans g21).trans g22)).upda (Av.of_own o14b (((g8.trans g9).trans g10).has b7).lt) u23
              have n17_23 := (n17.grow (((g18.trans g20).trans g21).trans g22)).upda (Av.of_own o17 ((((g8.trans g9).trans g10).trans g14).has b7).lt) u23
              have n18_23 := (n18.grow ((g20.trans g21).trans g22)).upda (Av.of_own o18 (((((g8.trans g9).trans g10).trans g14).trans g17).has b7).lt) u23
              have n20_23 := (n20.grow (g21.trans g22)).upda (Av.of_own o20 ((((((g8.trans g9).trans g10).trans g14).trans g17).trans g18).has b7).lt) u23
              have n21_23 := (n21.grow g22).upda (Av.of_own o21 (((((((g8.trans g9).trans g10).trans g14).trans g17).trans g18).trans g20).has b7).lt) u23
              have n22_23 := n22.upda (Av.of_own o22 ((((((((g8.trans g9).trans g10).trans g14).trans g17).trans g18).trans g20).trans g21).has b7).lt) u23
              have b8_23 := AH.has.updr ((((((((g9.trans g10).trans g14).trans g17).trans g18).trans g20).trans g21).trans g22).has b8) (Nat.ne_of_gt (Nat.lt_of_lt_of_le (b7).lt (Nat.le_refl _))) u23
              have b9_23 := AH.has.updr (((((((g10.trans g14).trans g17).trans g18).trans g20).trans g21).trans g22).has b9) (Nat.ne_of_gt (Nat.lt_of_lt_of_le (g8.has b7).lt (Nat.le_refl _))) u23
              refine Runs.puts b8_23 rfl fun H24 b24 u24 => ?_
              have n14_24 := n14_23.upda (Av.of_own o14 ((g9.trans g10).has b8).lt) u24
              have n14b_24 := n14b_23.upda (Av.of_own o14b ((g9.trans g10).has b8).lt) u24
              have n17_24 := n17_23.upda (Av.of_own o17 (((g9.trans g10).trans g14).has b8).lt) u24
              have n18_24 := n18_23.upda (Av.of_own o18 ((((g9.trans g10).trans g14).trans g17).has b8).lt) u24
              have n20_24 := n20_23.upda (Av.of_own o20 (((((g9.trans g10).trans g14).trans g17).trans g18).has b8).lt) u24
              have n21_24 := n21_23.upda (Av.of_own o21 ((((((g9.trans g10).trans g14).trans g17).trans g18).trans g20).has b8).lt) u24
              have n22_24 := n22_23.upda (Av.of_own o22 (((((((g9.trans g10).trans g14).trans g17).trans g18).trans g20).trans g21).has b8).lt) u24
              have b23_24 := AH.has.updr b23 (Nat.ne_of_lt (Nat.lt_of_lt_of_le (b7).lt (Nat.le_refl _))) u24
              have b9_24 := AH.has.updr b9_23 (Nat.ne_of_gt (Nat.lt_of_lt_of_le (b8).lt (Nat.le_refl _))) u24
              refine Runs.step (AH.has.rd b23_24 0 rfl rfl) ?_
              refine Runs.step (AH.has.rd b23_24 1 rfl (asSl_v _)) ?_
              refine Runs.step (AH.has.rd b24 0 rfl rfl) ?_
              refine Runs.step (AH.has.rd b24 1 rfl (asSl_v _)) ?_
              cases e
              cases good
              exact Runs.ret ⟨s21, s22, rfl, n21_24, n22_24, (((((((((((((g5.trans g6).trans g7).trans g8).trans g9).trans g10).trans g14).trans g17).trans g18).trans g20).trans g21).trans g22).updr (Nat.le_trans ((g5.trans g6)).size (Nat.le_refl _)) u23).updr (Nat.le_trans (((g5.trans g6).trans g7)).size (Nat.le_refl _)) u24), (o21.of_le (((((((((g5.trans g6).trans g7).trans g8).trans g9).trans g10).trans g14).trans g17).trans g18).trans g20)), (o22.of_le ((((((((((g5.trans g6).trans g7).trans g8).trans g9).trans g10).trans g14).trans g17).trans g18).trans g20).trans g21))⟩
          · replace e := (condF k16).symm.trans e
            refine Runs.step (AH.has.rd ((((((g6.trans g7).trans g8).trans g9).trans g10).trans g14).has b5) 0 rfl rfl) ?_
            obtain ⟨s17, H17, e17, n17, g17, o17⟩ := modint_From_spec n14 a1
            refine Runs.step e17 ?_
            refine Runs.step rfl ?_
            refine Runs.ifT rfl ?_
            refine Runs.step (seenAt rfl rfl) ?_
            refine Runs.step (seenAt rfl (asSl_v _)) ?_
            obtain ⟨s18, H18, e18, n18, g18, o18⟩ := modint_From_spec (n14b.grow g17) false
            refine Runs.step e18 ?_
            refine Runs.step rfl ?_
            refine Runs.ifT rfl ?_
            refine Runs.step (seenAt rfl rfl) ?_
            refine Runs.step (seenAt rfl (asSl_v _)) ?_
            refine Runs.puts ((((((g8.trans g9).trans g10).trans g14).trans g17).trans g18).has b7) rfl fun H19 b19 u19 => ?_
            have n14_19 := (n14.grow (g17.trans g18)).upda (Av.of_own o14 (((g8.trans g9).trans g10).has b7).lt) u19
            have n14b_19 := (n14b.grow (g17.trans g18)).upda (Av.of_own o14b (((g8.trans g9).trans g10).has b7).lt) u19
            have n17_19 := (n17.grow g18).upda (Av.of_own o17 ((((g8.trans g9).trans g10).trans g14).has b7).lt) u19
            have n18_19 := n18.upda (Av.of_own o18 (((((g8.trans g9).trans g10).trans g14).trans g17).has b7).lt) u19
            have b8_19 := AH.has.updr (((((g9.trans g10).trans g14).trans g17).trans g18).has b8) (Nat.ne_of_gt (Nat.lt_of_lt_of_le (b7).lt (Nat.le_refl _))) u19
            have b9_19 := AH.has.updr ((((g10.trans g14).trans g17).trans g18).has b9) (Nat.ne_of_gt (Nat.lt_of_lt_of_le (g8.has b7).lt (Nat.le_refl _))) u19
            refine Runs.puts b8_19 rfl fun H20 b20 u20 => ?_
            have n14_20 := n14_19.upda (Av.of_own o14 ((g9.trans g10).has b8).lt) u20
            have n14b_20 := n14b_19.upda (Av.of_own o14b ((g9.trans g10).has b8).lt) u20
            have n17_20 := n17_19.upda (Av.of_own o17 (((g9.trans g10).trans g14).has b8).lt) u20
            have n18_20 := n18_19.upda (Av.of_own o18 ((((g9.trans g10).trans g14).trans g17).has b8).lt) u20
            have b19_20 := AH.has.updr b19 (Nat.ne_of_lt (Nat.lt_of_lt_of_le (b7).lt (Nat.le_refl _))) u20
            have b9_20 := AH.has.updr b9_19 (Nat.ne_of_gt (Nat.lt_of_lt_of_le (b8).lt (Nat.le_refl _))) u20
            refine Runs.step (AH.has.rd b19_20 0 rfl rfl) ?_
            refine Runs.step (AH.has.rd b19_20 1 rfl (asSl_v _)) ?_
            refine Runs.step (AH.has.rd b20 0 rfl rfl) ?_
            refine Runs.step (AH.has.rd b20 1 rfl (asSl_v _)) ?_
            cases e
            cases good
            exact Runs.ret ⟨s17, s18, rfl, n17_20, n18_20, ((((((((((g5.trans g6).trans g7).trans g8).trans g9).trans g10).trans g14).trans g17).trans g18).updr (Nat.le_trans ((g5.trans g6)).size (Nat.le_refl _)) u19).updr (Nat.le_trans (((g5.trans g6).trans g7)).size (Nat.le_refl _)) u20), (o17.of_le ((((((g5.trans g6).trans g7).trans g8).trans g9).trans g10).trans g14)), (o18.of_le (((((((g5.trans g6).trans g7).trans g8).trans g9).trans g10).trans g14).trans g17))⟩
        · replace e := (condF k15).symm.trans e
          refine Runs.step (AH.has.rd ((((((g6.trans g7).trans g8).trans g9).trans g10).trans g14).has b5) 0 rfl rfl) ?_
          obtain ⟨s16, H16, e16, n16, g16, o16⟩ := modint_From_spec n14 a1
          refine Runs.step e16 ?_
          refine Runs.step rfl ?_
          refine Runs.ifT rfl ?_
          refine Runs.step (seenAt rfl rfl) ?_
          refine Runs.step (seenAt rfl (asSl_v _)) ?_
          obtain ⟨s17, H17, e17, n17, g17, o17⟩ := modint_From_spec (n14b.grow g16) false
          refine Runs.step e17 ?_
          refine Runs.step rfl ?_
          refine Runs.ifT rfl ?_
          refine Runs.step (seenAt rfl rfl) ?_
          refine Runs.step (seenAt rfl (asSl_v _)) ?_
          refine Runs.puts ((((((g8.trans g9).trans g10).trans g14).trans g16).trans g17).has b7) rfl fun H18 b18 u18 => ?_
          have n14_18 := (n14.grow (g16.trans g17)).upda (Av.of_own o14 (((g8.trans g9).trans g10).has b7).lt) u18
          have n14b_18 := (n14b.grow (g16.trans g17)).upda (Av.of_own o14b (((g8.trans g9).trans g10).has b7).lt) u18
          have n16_18 := (n16.grow g17).upda (Av.of_own o16 ((((g8.trans g9).trans g10).trans g14).has b7).lt) u18
          have n17_18 := n17.upda (Av.of_own o17 (((((g8.trans g9).trans g10).trans g14).trans g16).has b7).lt) u18
          have b8_18 := AH.has.updr (((((g9.trans g10).trans g14).trans g16).trans g17).has b8) (Nat.ne_of_gt (Nat.lt_of_lt_of_le (b7).lt (Nat.le_refl _))) u18
          have b9_18 := AH.has.updr ((((g10.trans g14).trans g16).trans g17).has b9) (Nat.ne_of_gt (Nat.lt_of_lt_of_le (g8.has b7).lt (Nat.le_refl _))) u18
          refine Runs.puts b8_18 rfl fun H19 b19 u19 => ?_
          have n14_19 := n14_18.upda (Av.of_own o14 ((g9.trans g10).has b8).lt) u19
          have n14b_19 := n14b_18.upda (Av.of_own o14b ((g9.trans g10).has b8).lt) u19
          have n16_19 := n16_18.upda (Av.of_own o16 (((g9.trans g10).trans g14).has b8).lt) u19
          have n17_19 := n17_18.upda (Av.of_own o17 ((((g9.trans g10).trans g14).trans g16).has b8).lt) u19
          have b18_19 := AH.has.updr b18 (Nat.ne_of_lt (Nat.lt_of_lt_of_le (b7).lt (Nat.le_refl _))) u19
          have b9_19 := AH.has.updr b9_18 (Nat.ne_of_gt (Nat.lt_of_lt_of_le (b8).lt (Nat.le_refl _))) u19
          refine Runs.step (AH.has.rd b18_19 0 rfl rfl) ?_
          refine Runs.step (AH.has.rd b18_19 1 rfl (asSl_v _)) ?_
          refine Runs.step (AH.has.rd b19 0 rfl rfl) ?_
          refine Runs.step (AH.has.rd b19 1 rfl (asSl_v _)) ?_
          cases e
          cases good
          exact Runs.ret ⟨s16, s17, rfl, n16_19, n17_19, ((((((((((g5.trans g6).trans g7).trans g8).trans g9).trans g10).trans g14).trans g16).trans g17).updr (Nat.le_trans ((g5.trans g6)).size (Nat.le_refl _)) u18).updr (Nat.le_trans (((g5.trans g6).trans g7)).size (Nat.le_refl _)) u19), (o16.of_le ((((((g5.trans g6).trans g7).trans g8).trans g9).trans g10).trans g14)), (o17.of_le (((((((g5.trans g6).trans g7).trans g8).trans g9).trans g10).trans g14).trans g16))⟩

theorem modint_Floor_run {s : modint_Floor_St} {r : modint_Floor_Res} (it : Iter modint_Floor_step s r) : modint_Floor_At r s := Iter.ind (fun s o e good => by
  cases s with
  | fn a1 x2 a3 x4 => exact @modint_Floor_fn_walk _ _ a1 x2 a3 x4 e good
  | no => exact True.intro
  ) it

theorem modint_Floor_opt {h : AH} {a2 : Sl} {a4 : Sl} {a1 : Bool} {x2 : List Nat} {a3 : Bool} {x4 : List Nat} (n2 : Nats h a2 x2) (n4 : Nats h a4 x4) {r : modint_Floor_Res} (q : runP modint_Floor_step (.fn a1 x2 a3 x4) = some r) : Runs (go (.fn F.modint_Floor [.agg [.bool a1, a2.v], .agg [.bool a3, a4.v]]) h) (modint_Floor_post h r) := modint_Floor_run (runP_iter q) n2 n4

inductive ref03_Floor_St
  | fn (a1 : Bool) (x2 : List Nat) (a3 : Bool) (x4 : List Nat)
  | no

abbrev ref03_Floor_Res := Bool × List Nat × Bool × List Nat × Int

noncomputable def ref03_Floor_fn' (a1 : Bool) (x2 : List Nat) (a3 : Bool) (x4 : List Nat) : Option (ref03_Floor_St ⊕ ref03_Floor_Res) :=
  cond (!(rtI a1 x2)) (some (.inr (false, [], false, [], 1))) (cond (!(rtI a3 x4)) (some (.inr (false, [], false, [], 1))) (cond (decide ((List.length x4 : Int) = 0)) (some (.inr (false, [], false, [], 3))) (cond (a3) (some (.inr (false, [], false, [], 1))) (cond (!a1) (some (.inr ((((fromI false ((divN x2 x4).1)).1)), (fromI false ((divN x2 x4).1)).2, (((fromI false ((divN x2 x4).2.1)).1)), (fromI false ((divN x2 x4).2.1)).2, 0))) (cond (decide ((List.length ((divN x2 x4).2.1) : Int) = 0)) (some (.inr ((((fromI true ((divN x2 x4).1)).1)), (fromI true ((divN x2 x4).1)).2, false, [], 0))) ((u64P 1).bind fun p18 => cond (!decide (((addN ((divN x2 x4).1) (digs B p18)).2) = 0)) (some (.inr (false, [], false, [], ((addN ((divN x2 x4).1) (digs B p18)).2)))) (some (.inr ((((fromI true ((addN ((divN x2 x4).1) (digs B p18)).1)).1)), (fromI true ((addN ((divN x2 x4).1) (digs B p18)).1)).2, (((fromI false ((subN x4 ((divN x2 x4).2.1)).1)).1)), (fromI false ((subN x4 ((divN x2 x4).2.1)).1)).2, 0)))))))))

noncomputable def ref03_Floor_step : ref03_Floor_St → Option (ref03_Floor_St ⊕ ref03_Floor_Res)
  | .fn a1 x2 a3 x4 => ref03_Floor_fn' a1 x2 a3 x4
  | .no => none

@[reducible] def ref03_Floor_post (h0 : AH) (r : ref03_Floor_Res) (v : AV) (h' : AH) : Prop := ∃ s1 : Sl, ∃ s2 : Sl, v = .tup [.agg [.bool r.1, s1.v], .agg [.bool r.2.2.1, s2.v], .int .i64 r.2.2.2.2] ∧ Nats h' s1 r.2.1 ∧ Nats h' s2 r.2.2.2.1 ∧ Grow h0 h' ∧ Own h0 s1 ∧ Own h0 s2

def ref03_Floor_At (r : ref03_Floor_Res) : ref03_Floor_St → Prop
  | .fn a1 x2 a3 x4 => ∀ {h : AH} {a2 : Sl} {a4 : Sl}, Nats h a2 x2 → Nats h a4 x4 → Runs (go (.fn F.ref03_Floor [.agg [.bool a1, a2.v], .agg [.bool a3, a4.v]]) h) (ref03_Floor_post h r)
  | .no => True

theorem ref03_Floor_fn_walk {r : ref03_Floor_Res} {o : ref03_Floor_St ⊕ ref03_Floor_Res} {a1 : Bool} {x2 : List Nat} {a3 : Bool} {x4 : List Nat} (e : ref03_Floor_fn' a1 x2 a3 x4 = some o) (good : GoodS (ref03_Floor_At r) r o) : ref03_Floor_At r (.fn a1 x2 a3 x4) := by
  intro h a2 a4 n2 n4
  rw [u_ref03_Floor]
  unfold ref03_Floor_fn' at e
  refine Runs.new fun H5 b5 g5 => ?_
  refine Runs.new fun H6 b6 g6 => ?_
  refine Runs.new fun H7 b7 g7 => ?_
  refine Runs.new fun H8 b8 g8 => ?_
  refine Runs.step (AH.has.rd (((g6.trans g7).trans g8).has b5) 0 rfl rfl) ?_
  refine Runs.step (AH.has.rd (((g6.trans g7).trans g8).has b5) 1 rfl (asSl_v _)) ?_
  obtain ⟨H9, e9, g9⟩ := ref03_Right_spec (n2.grow (((g5.trans g6).trans g7).trans g8)) a1
  refine Runs.step e9 ?_
  refine Runs.step (seen rfl) ?_
  refine Runs.step (AH.has.rd (((g7.trans g8).trans g9).has b6) 0 rfl rfl) ?_
  refine Runs.step (AH.has.rd (((g7.trans g8).trans g9).has b6) 1 rfl (asSl_v _)) ?_
  obtain ⟨H10, e10, g10⟩ := ref03_Right_spec (n4.grow ((((g5.trans g6).trans g7).trans g8).trans g9)) a3
  refine Runs.step e10 ?_
  refine Runs.step (seen rfl) ?_
  refine Runs.cond (fun k11 => ?_) (fun k11 => ?_)
  · replace e := (condT k11).symm.trans e
    refine Runs.puts (((g8.trans g9).trans g10).has b7) rfl fun H12 b12 u12 => ?_
    have b8_12 := AH.has.updr ((g9.trans g10).has b8) (Nat.ne_of_gt (Nat.lt_of_lt_of_le (b7).lt (Nat.le_refl _))) u12
    refine Runs.puts b8_12 rfl fun H13 b13 u13 => ?_
    have b12_13 := AH.has.updr b12 (Nat.ne_of_lt (Nat.lt_of_lt_of_le (b7).lt (Nat.le_refl _))) u13
    refine Runs.step (AH.has.rd b12_13 0 rfl rfl) ?_
    refine Runs.step (AH.has.rd b12_13 1 rfl (asSl_v _)) ?_
    refine Runs.step (AH.has.rd b13 0 rfl rfl) ?_
    refine Runs.step (AH.has.rd b13 1 rfl (asSl_v _)) ?_
    cases e
    cases good
    exact Runs.ret ⟨(⟨none, 0, .is 0⟩ : Sl), (⟨none, 0, .is 0⟩ : Sl), rfl, (Nats.nil _), (Nats.nil _), (((((((g5.trans g6).trans g7).trans g8).trans g9).trans g10).updr (Nat.le_trans ((g5.trans g6)).size (Nat.le_refl _)) u12).updr (Nat.le_trans (((g5.trans g6).trans g7)).size (Nat.le_refl _)) u13), (Own.nil _), (Own.nil _)⟩
  · replace e := (condF k11).symm.trans e
    refine Runs.cond (fun k12 => ?_) (fun k12 => ?_)
    · replace e := (condT k12).symm.trans e
      refine Runs.puts (((g8.trans g9).trans g10).has b7) rfl fun H13 b13 u13 => ?_
      have b8_13 := AH.has.updr ((g9.trans g10).has b8) (Nat.ne_of_gt (Nat.lt_of_lt_of_le (b7).lt (Nat.le_refl _))) u13
      refine Runs.puts b8_13 rfl fun H14 b14 u14 => ?_
      have b13_14 := AH.has.updr b13 (Nat.ne_of_lt (Nat.lt_of_lt_of_le (b7).lt (Nat.le_refl _))) u14
      refine Runs.step (AH.has.rd b13_14 0 rfl rfl) ?_
      refine Runs.step (AH.has.rd b13_14 1 rfl (asSl_v _)) ?_
      refine Runs.step (AH.has.rd b14 0 rfl rfl) ?_
      refine Runs.step (AH.has.rd b14 1 rfl (asSl_v _)) ?_
      cases e
      cases good
      exact Runs.ret ⟨(⟨none, 0, .is 0⟩ : Sl), (⟨none, 0, .is 0⟩ : Sl), rfl, (Nats.nil _), (Nats.nil _), (((((((g5.trans g6).trans g7).trans g8).trans g9).trans g10).updr (Nat.le_trans ((g5.trans g6)).size (Nat.le_refl _)) u13).updr (Nat.le_trans (((g5.trans g6).trans g7)).size (Nat.le_refl _)) u14), (Own.nil _), (Own.nil _)⟩
    · replace e := (condF k12).symm.trans e
      refine Runs.step (AH.has.rd ((((g7.trans g8).trans g9).trans g10).has b6) 1 rfl (asSl_v _)) ?_
      rw [(n4.grow (((((g5.trans g6).trans g7).trans g8).trans g9).trans g10)).len]
      refine Runs.cond (fun k13 => ?_) (fun k13 => ?_)
      · replace e := (condT k13).symm.trans e
        refine Runs.puts (((g8.trans g9).trans g10).has b7) rfl fun H14 b14 u14 => ?_
        have b8_14 := AH.has.updr ((g9.trans g10).has b8) (Nat.ne_of_gt (Nat.lt_of_lt_of_le (b7).lt (Nat.le_refl _))) u14
        refine Runs.puts b8_14 rfl fun H15 b15 u15 => ?_
        have b14_15 := AH.has.updr b14 (Nat.ne_of_lt (Nat.lt_of_lt_of_le (b7).lt (Nat.le_refl _))) u15
        refine Runs.step (AH.has.rd b14_15 0 rfl rfl) ?_
        refine Runs.step (AH.has.rd b14_15 1 rfl (asSl_v _)) ?_
        refine Runs.step (AH.has.rd b15 0 rfl rfl) ?_
        refine Runs.step (AH.has.rd b15 1 rfl (asSl_v _)) ?_
        cases e
        cases good
        exact Runs.ret ⟨(⟨none, 0, .is 0⟩ : Sl), (⟨none, 0, .is 0⟩ : Sl), rfl, (Nats.nil _), (Nats.nil _), (((((((g5.trans g6).trans g7).trans g8).trans g9).trans g10).updr (Nat.le_trans ((g5.trans g6)).size (Nat.le_refl _)) u14).updr (Nat.le_trans (((g5.trans g6).trans g7)).size (Nat.le_refl _)) u15), (Own.nil _), (Own.nil _)⟩
      · replace e := (condF k13).symm.trans e
        refine Runs.step (AH.has.rd ((((g7.trans g8).trans g9).trans g10).has b6) 0 rfl rfl) ?_
        refine Runs.cond (fun k14 => ?_) (fun k14 => ?_)
        · replace e := (condT k14).symm.trans e
          refine Runs.puts (((g8.trans g9).trans g10).has b7) rfl fun H15 b15 u15 => ?_
          have b8_15 := AH.has.updr ((g9.trans g10).has b8) (Nat.ne_of_gt (Nat.lt_of_lt_of_le (b7).lt (Nat.le_refl _))) u15
          refine Runs.puts b8_15 rfl fun H16 b16 u16 => ?_
          have b15_16 := AH.has.updr b15 (Nat.ne_of_lt (Nat.lt_of_lt_of_le (b7).lt (Nat.le_refl _))) u16
          refine Runs.step (AH.has.rd b15_16 0 rfl rfl) ?_
          refine Runs.step (AH.has.rd b15_16 1 rfl (asSl_v _)) ?_
          refine Runs.step (AH.has.rd b16 0 rfl rfl) ?_
          refine Runs.step (AH.has.rd b16 1 rfl (asSl_v _)) ?_
          cases e
          cases good
          exact Runs.ret ⟨(⟨none, 0, .is 0⟩ : Sl), (⟨none, 0, .is 0⟩ : Sl), rfl, (Nats.nil _), (Nats.nil _), (((((((g5.trans g6).trans g7).trans g8).trans g9).trans g10).updr (Nat.le_trans ((g5.trans g6)).size (Nat.le_refl _)) u15).updr (Nat.le_trans (((g5.trans g6).trans g7)).size (Nat.le_refl _)) u16), (Own.nil _), (Own.nil _)⟩
        · replace e := (condF k14).symm.trans e
          refine Runs.step (AH.has.rd (((((g6.trans g7).trans g8).trans g9).trans g10).has b5) 1 rfl (asSl_v _)) ?_
          refine Runs.step (AH.has.rd ((((g7.trans g8).trans g9).trans g10).has b6) 1 rfl (asSl_v _)) ?_
          obtain ⟨s15, s15b, H15, e15, n15, n15b, g15, o15, o15b⟩ := ref01_Div_spec (n2.grow (((((g5.trans g6).trans g7).trans g8).trans g9).trans g10)) (n4.grow (((((g5.trans g6).trans g7).trans g8).trans g9).trans g10))
          refine Runs.step e15 ?_
          refine Runs.step rfl ?_
          refine Runs.step (seen (asSl_v _)) ?_
          refine Runs.step (seen (asSl_v _)) ?_
          rw [n15b.len]
          refine Runs.step (seen (avInt_int _ _)) ?_
          refine Runs.step (AH.has.rd ((((((g6.trans g7).trans g8).trans g9).trans g10).trans g15).has b5) 0 rfl rfl) ?_
          refine Runs.cond (fun k16 => ?_) (fun k16 => ?_)
          · replace e := (condT k16).symm.trans e
            obtain ⟨s17, H17, e17, n17, g17, o17⟩ := ref03_From_spec n15 false
            refine Runs.step e17 ?_
            refine Runs.step rfl ?_
            refine Runs.ifT rfl ?_
            refine Runs.step (seenAt rfl rfl) ?_
            refine Runs.step (seenAt rfl (asSl_v _)) ?_
            obtain ⟨s18, H18, e18, n18, g18, o18⟩ := ref03_From_spec (n15b.grow g17) false
            refine Runs.step e18 ?_
            refine Runs.step rfl ?_
            refine Runs.ifT rfl ?_
            refine Runs.step (seenAt rfl rfl) ?_
            refine Runs.step (seenAt rfl (asSl_v _)) ?_
            refine Runs.puts ((((((g8.trans g9).trans g10).trans g15).trans g17).trans g18).has b7) rfl fun H19 b19 u19 => ?_
            have n15_19 := (n15.grow (g17.trans g18)).upda (Av.of_own o15 (((g8.trans g9).trans g10).has b7).lt) u19
            have n15b_19 := (n15b.grow (g17.trans g18)).upda (Av.of_own o15b (((g8.trans g9).trans g10).has b7).lt) u19
            have n17_19 := (n17.grow g18).upda (Av.of_own o17 ((((g8.trans g9).trans g10).trans g15).has b7).lt) u19
            have n18_19 := n18.upda (Av.of_own o18 (((((g8.trans g9).trans g10).trans g15).trans g17).has b7).lt) u19
            have b8_19 := AH.has.updr (((((g9.trans g10).trans g15).trans g17).trans g18).has b8) (Nat.ne_of_gt (Nat.lt_of_lt_of_le (b7).lt (Nat.le_refl _))) u19
            refine Runs.puts b8_19 rfl fun H20 b20 u20 => ?_
            have n15_20 := n15_19.upda (Av.of_own o15 ((g9.trans g10).has b8).lt) u20
            have n15b_20 := n15b_19.upda (Av.of_own o15b ((g9.trans g10).has b8).lt) u20
            have n17_20 := n17_19.upda (Av.of_own o17 (((g9.trans g10).trans g15).has b8).lt) u20
            have n18_20 := n18_19.upda (Av.of_own o18 ((((g9.trans g10).trans g15).trans g17).has b8).lt) u20
            have b19_20 := AH.has.updr b19 (Nat.ne_of_lt (Nat.lt_of_lt_of_le (b7).lt (Nat.le_refl _))) u20
            refine Runs.step (AH.has.rd b19_20 0 rfl rfl) ?_
            refine Runs.step (AH.has.rd b19_20 1 rfl (asSl_v _)) ?_
            refine Runs.step (AH.has.rd b20 0 rfl rfl) ?_
            refine Runs.step (AH.has.rd b20 1 rfl (asSl_v _)) ?_
            cases e
            cases good
            exact Runs.ret ⟨s17, s18, rfl, n17_20, n18_20, ((((((((((g5.trans g6).trans g7).trans g8).trans g9).trans g10).trans g15).trans g17).trans g18).updr (Nat.le_trans ((g5.trans g6)).size (Nat.le_refl _)) u19).updr (Nat.le_trans (((g5.trans g6).trans g7)).size (Nat.le_refl _)) u20), (o17.of_le ((((((g5.trans g6).trans g7).trans g8).trans g9).trans g10).trans g15)), (o18.of_le (((((((g5.trans g6).trans g7).trans g8).trans g9).trans g10).trans g15).trans g17))⟩
          · replace e := (condF k16).symm.trans e
            refine Runs.cond (fun k17 => ?_) (fun k17 => ?_)
            · replace e := (condT k17).symm.trans e
              obtain ⟨s18, H18, e18, n18, g18, o18⟩ := ref03_From_spec n15 true
              refine Runs.step e18 ?_
              refine Runs.step rfl ?_
              refine Runs.ifT rfl ?_
              refine Runs.step (seenAt rfl rfl) ?_
              refine Runs.step (seenAt rfl (asSl_v _)) ?_
              refine Runs.puts (((((g8.trans g9).trans g10).trans g15).trans g18).has b7) rfl fun H19 b19 u19 => ?_
              have n15_19 := (n15.grow g18).upda (Av.of_own o15 (((g8.trans g9).trans g10).has b7).lt) u19
              have n15b_19 := (n15b.grow g18).upda (Av.of_own o15b (((g8.trans g9).trans g10).has b7).lt) u19
              have n18_19 := n18.upda (Av.of_own o18 ((((g8.trans g9).trans g10).trans g15).has b7).lt) u19
              have b8_19 := AH.has.updr ((((g9.trans g10).trans g15).trans g18).has b8) (Nat.ne_of_gt (Nat.lt_of_lt_of_le (b7).lt (Nat.le_refl _))) u19
              refine Runs.puts b8_19 rfl fun H20 b20 u20 => ?_
              have n15_20 := n15_19.upda (Av.of_own o15 ((g9.trans g10).has b8).lt) u20
              have n15b_20 := n15b_19.upda (Av.of_own o15b ((g9.trans g10).has b8).lt) u20
              have n18_20 := n18_19.upda (Av.of_own o18 (((g9.trans g10).trans g15).has b8).lt) u20
              have b19_20 := AH.has.updr b19 (Nat.ne_of_lt (Nat.lt_of_lt_of_le (b7).lt (Nat.le_refl _))) u20
              refine Runs.step (AH.has.rd b19_20 0 rfl rfl) ?_
              refine Runs.step (AH.has.rd b19_20 1 rfl (asSl_v _)) ?_
              refine Runs.step (AH.has.rd b20 0 rfl rfl) ?_
              refine Runs.step (AH.has.rd b20 1 rfl (asSl_v _)) ?_
              cases e
              cases good
              exact Runs.ret ⟨s18, (⟨none, 0, .is 0⟩ : Sl), rfl, n18_20, (Nats.nil _), (((((((((g5.trans g6).trans g7).trans g8).trans g9).trans g10).trans g15).trans g18).updr (Nat.le_trans ((g5.trans g6)).size (Nat.le_refl _)) u19).updr (Nat.le_trans (((g5.trans g6).trans g7)).size (Nat.le_refl _)) u20), (o18.of_le ((((((g5.trans g6).trans g7).trans g8).trans g9).trans g10).trans g15)), (Own.nil _)⟩
            · replace e := (condF k17).symm.trans e
              obtain ⟨p18, q18, e⟩ := Option.bind_eq_some_iff.1 e
              obtain ⟨s18, H18, e18, n18, g18, o18⟩ := ref01_Of_opt q18
              refine Runs.step e18 ?_
              refine Runs.step (seen (asSl_v _)) ?_
              obtain ⟨s19, H19, e19, n19, g19, o19⟩ := ref01_Add_spec (n15.grow g18) n18
              refine Runs.step e19 ?_
              refine Runs.step rfl ?_
              refine Runs.step (seen (asSl_v _)) ?_
              refine Runs.step (seen (avInt_int _ _)) ?_
              refine Runs.cond (fun k20 => ?_) (fun k20 => ?_)
              · replace e := (condT k20).symm.trans e
                refine Runs.puts ((((((g8.trans g9).trans g10).trans g15).trans g18).trans g19).has b7) rfl fun H21 b21 u21 => ?_
                have n15_21 := (n15.grow (g18.trans g19)).upda (Av.of_own o15 (((g8.trans g9).trans g10).has b7).lt) u21
                have n15b_21 := (n15b.grow (g18.trans g19)).upda (Av.of_own o15b (((g8.trans g9).trans g10).has b7).lt) u21
                have n18_21 := (n18.grow g19).upda (Av.of_own o18 ((((g8.trans g9).trans g10).trans g15).has b7).lt) u21
                have n19_21 := n19.upda (Av.of_own o19 (((((g8.trans g9).trans g10).trans g15).trans g18).has b7).lt) u21
                have b8_21 := AH.has.updr (((((g9.trans g10).trans g15).trans g18).trans g19).has b8) (Nat.ne_of_gt (Nat.lt_of_lt_of_le (b7).lt (Nat.le_refl _))) u21
                refine Runs.puts b8_21 rfl fun H22 b22 u22 => ?_
                have n15_22 := n15_21.upda (Av.of_own o15 ((g9.trans g10).has b8).lt) u22
                have n15b_22 := n15b_21.upda (Av.of_own o15b ((g9.trans g10).has b8).lt) u22
                have n18_22 := n18_21.upda (Av.of_own o18 (((g9.trans g10).trans g15).has b8).lt) u22
                have n19_22 := n19_21.upda (Av.of_own o19 ((((g9.trans g10).trans g15).trans g18).has b8).lt) u22
                have b21_22 := AH.has.updr b21 (Nat.ne_of_lt (Nat.lt_of_lt_of_le (b7).lt (Nat.le_refl _))) u22
                refine Runs.step (AH.has.rd b21_22 0 rfl rfl) ?_
                refine Runs.step (AH.has.rd b21_22 1 rfl (asSl_v _)) ?_
                refine Runs.step (AH.has.rd b22 0 rfl rfl) ?_
                refine Runs.step (AH.has.rd b22 1 rfl (asSl_v _)) ?_
                cases e
                cases good
                exact Runs.ret ⟨(⟨none, 0, .is 0⟩ : Sl), (⟨none, 0, .is 0⟩ : Sl), rfl, (Nats.nil _), (Nats.nil _), ((((((((((g5.trans g6).trans g7).trans g8).trans g9).trans g10).trans g15).trans g18).trans g19).updr (Nat.le_trans ((g5.trans g6)).size (Nat.le_refl _)) u21).updr (Nat.le_trans (((g5.trans g6).trans g7)).size (Nat.le_refl _)) u22), (Own.nil _), (Own.nil _)⟩
              · replace e := (condF k20).symm.trans e
                refine Runs.step (AH.has.rd (((((((g7.trans g8).trans g9).trans g10).trans g15).trans g18).trans g19).has b6) 1 rfl (asSl_v _)) ?_
                obtain ⟨s21, H21, e21, n21, g21, o21⟩ := ref01_Sub_spec (n4.grow ((((((((g5.trans g6).trans g7).trans g8).trans g9).trans g10).trans g15).trans g18).trans g19)) (n15b.grow (g18.trans g19))
                refine Runs.step e21 ?_
                refine Runs.step rfl ?_
                refine Runs.step (seen (asSl_v _)) ?_
                refine Runs.step (seen (avInt_int _ _)) ?_
                obtain ⟨s22, H22, e22, n22, g22, o22⟩ := ref03_From_spec (n19.grow g21) true
                refine Runs.step e22 ?_
                refine Runs.step rfl ?_
                refine Runs.ifT rfl ?_
                refine Runs.step (seenAt rfl rfl) ?_
                refine Runs.step (seenAt rfl (asSl_v _)) ?_
                obtain ⟨s23, H23, e23, n23, g23, o23⟩ := ref03_From_spec (n21.grow g22) false
                refine Runs.step e23 ?_
                refine Runs.step rfl ?_
                refine Runs.ifT rfl ?_
                refine Runs.step (seenAt rfl rfl) ?_
                refine Runs.step (seenAt rfl (asSl_v _)) ?_
                refine Runs.puts (((((((((g8.trans g9).trans g10).trans g15).trans g18).trans g19).trans g21).trans g22).trans g23).has b7) rfl fun H24 b24 u24 => ?_
                have n15_24 := (n15.grow ((((g18.trans g19).trans g21).trans g22).trans g23)).upda (Av.of_own o15 (((g8.trans g9).trans g10).has b7).lt) u24
                have n15b_24 := (n15b.grow ((((g18.trans g19).trans g21).trans g22).trans g23)).upda (Av.of_own o15b (((g8.trans g9).trans g10).has b7).lt) u24
                have n18_24 := (n18.grow (((g19.trans g21).trans g22).trans g23)).upda (Av.of_own o18 ((((g8.trans g9).trans g10).trans g15).has b7).lt) u24
                have n19_24 := (n19.grow ((g21.trans g22).trans g23)).upda (Av.of_own o19 (((((g8.trans g9).trans g10).trans g15).trans g18).has b7).lt) u24
                have n21_24 := (n21.grow (g22.trans g23)).upda (Av.of_own o21 ((((((g8.trans g9).trans g10).trans g15).trans g18).trans g19).has b7).lt) u24
                have n22_24 := (n22.grow g23).upda (Av.of_own o22 (((((((g8.trans g9).trans g10).trans g15).trans g18).trans g19).trans g21).has b7).lt) u24
                have n23_24 := n23.upda (Av.of_own o23 ((((((((g8.trans g9).trans g10).trans g15).trans g18).trans g19).trans g21).trans g22).has b7).lt) u24
                have b8_24 := AH.has.updr ((((((((g9.trans g10).trans g15).trans g18).trans g19).trans g21).trans g22).trans g23).has b8) (Nat.ne_of_gt (Nat.lt_of_lt_of_le (b7).lt (Nat.le_refl _))) u24
                refine Runs.puts b8_24 rfl fun H25 b25 u25 => ?_
                have n15_25 := n15_24.upda (Av.of_own o15 ((g9.trans g10).has b8).lt) u25
                have n15b_25 := n15b_24.upda (Av.of_own o15b ((g9.trans g10).has b8).lt) u25
                have n18_25 := n18_24.upda (Av.of_own o18 (((g9.trans g10).trans g15).has b8).lt) u25
                have n19_25 := n19_24.upda (Av.of_own o19 ((((g9.trans g10).trans g15).trans g18).has b8).lt) u25
                have n21_25 := n21_24.upda (Av.of_own o21 (((((g9.trans g10).trans g15).trans g18).trans g19).has b8).lt) u25
                have n22_25 := n22_24.upda (Av.of_own o22 ((((((g9.trans g10).trans g15).trans g18).trans g19).trans g21).has b8).lt) u25
                have n23_25 := n23_24.upda (Av.of_own o23 (((((((g9.trans g10).trans g15).trans g18).trans g19).trans g21).trans g22).has b8).lt) u25
                have b24_25 := AH.has.updr b24 (Nat.ne_of_lt (Nat.lt_of_lt_of_le (b7).lt (Nat.le_refl _))) u25
                refine Runs.step (AH.has.rd b24_25 0 rfl rfl) ?_
                refine Runs.step (AH.has.rd b24_25 1 rfl (asSl_v _)) ?_
                refine Runs.step (AH.has.rd b25 0 rfl rfl) ?_
                refine Runs.step (AH.has.rd b25 1 rfl (asSl_v _)) ?_
                cases e
                cases good
                exact Runs.ret ⟨s22, s23, rfl, n22_25, n23_25, (((((((((((((g5.trans g6).trans g7).trans g8).trans g9).trans g10).trans g15).trans g18).trans g19).trans g21).trans g22).trans g23).updr (Nat.le_trans ((g5.trans g6)).size (Nat.le_refl _)) u24).updr (Nat.le_trans (((g5.trans g6).trans g7)).size (Nat.le_refl _)) u25), (o22.of_le (((((((((g5.trans g6).trans g7).trans g8).trans g9).trans g10).trans g15).trans g18).trans g19).trans g21)), (o23.of_le ((((((((((g5.trans g6).trans g7).trans g8).trans g9).trans g10).trans g15).trans g18).trans g19).trans g21).trans g22))⟩

theorem ref03_Floor_run {s : ref03_Floor_St} {r : ref03_Floor_Res} (it : Iter ref03_Floor_step s r) : ref03_Floor_At r s := Iter.ind (fun s o e good => by
  cases s with
  | fn a1 x2 a3 x4 => exact @ref03_Floor_fn_walk _ _ a1 x2 a3 x4 e good
  | no => exact True.intro
  ) it

theorem ref03_Floor_opt {h : AH} {a2 : Sl} {a4 : Sl} {a1 : Bool} {x2 : List Nat} {a3 : Bool} {x4 : List Nat} (n2 : Nats h a2 x2) (n4 : Nats h a4 x4) {r : ref03_Floor_Res} (q : runP ref03_Floor_step (.fn a1 x2 a3 x4) = some r) : Runs (go (.fn F.ref03_Floor [.agg [.bool a1, a2.v], .agg [.bool a3, a4.v]]) h) (ref03_Floor_post h r) := ref03_Floor_run (runP_iter q) n2 n4

end Go.Ab

/- Layer 3: what Gcd and Floor answer. -/
set_option linter.unusedVariables false
set_option linter.unusedSimpArgs false
set_option maxRecDepth 10000
namespace Go.Ab
open Go.Proofs Go.Num

/-- The greatest common divisor of two numbers' limbs. -/
def gcdN (xs ys : List Nat) : List Nat × Int := if rt xs = true ∧ rt ys = true then (digs B (Nat.gcd (num B xs) (num B ys)), 0) else ([], 1)

theorem divN_rest {xs ys : List Nat} (hx : rt xs = true) (hy : rt ys = true) (h0 : ys ≠ []) : (divN xs ys).2.1 = digs B (num B xs % num B ys) := by
  simp [divN, hx, hy, h0]

theorem rt_digs {n : Nat} (h : n < B ^ 64) : rt (digs B n) = true := rt_iff.2 ⟨(digs_len B2 n 64).2 h, digs_trim B2 n⟩

theorem num_lt64 {xs : List Nat} (hl : ∀ x ∈ xs, x < B) (h : rt xs = true) : num B xs < B ^ 64 := by
  have h1 := num_lt B1 hl
  have h2 : B ^ xs.length ≤ B ^ 64 := Nat.pow_le_pow_right B1 (rt_iff.1 h).1
  omega

theorem modint_gcd_loop : ∀ (b a : Nat), a < B ^ 64 → b < B ^ 64 → Iter modint_Gcd_step (.p4 (digs B a) (digs B b)) (digs B (Nat.gcd a b), 0) := by
  intro b
  induction b using Nat.strongRecOn with
  | ind b ih =>
    intro a ha hb
    by_cases h0 : b = 0
    · subst h0
      refine .done ?_
      show modint_Gcd_p4' _ _ = _
      unfold modint_Gcd_p4'
      rw [digs_zero, Nat.gcd_zero_right]
      rfl
    · have hm := Nat.mod_lt a (show 0 < b by omega)
      have hne : digs B b ≠ [] := fun h => h0 ((digs_nil B2).1 h)
      have hl : (digs B b).length ≠ 0 := by simpa using hne
      refine .next (s' := .p4 (digs B b) (digs B (a % b))) ?_ (by
        have := ih (a % b) hm b hb (by omega)
        rwa [Nat.gcd_comm b, ← Nat.gcd_rec, Nat.gcd_comm b] at this)
      show modint_Gcd_p4' _ _ = _
      unfold modint_Gcd_p4'
      rw [condT (by rw [decide_eq_true_eq]; omega), divN_rest (rt_digs ha) (rt_digs hb) hne, num_digs B2, num_digs B2]

theorem ref03_gcd_loop : ∀ (b a : Nat), a < B ^ 64 → b < B ^ 64 → Iter ref03_Gcd_step (.p7 (digs B a) (digs B b)) (digs B (Nat.gcd a b), 0) := by
  intro b
  induction b using Nat.strongRecOn with
  | ind b ih =>
    intro a ha hb
    by_cases h0 : b = 0
    · subst h0
      refine .done ?_
      show ref03_Gcd_p7' _ _ = _
      unfold ref03_Gcd_p7'
      rw [digs_zero, Nat.gcd_zero_right]
      rfl
    · have hm := Nat.mod_lt a (show 0 < b by omega)
      have hne : digs B b ≠ [] := fun h => h0 ((digs_nil B2).1 h)
      have hl : (digs B b).length ≠ 0 := by simpa using hne
      refine .next (s' := .p7 (digs B b) (digs B (a % b))) ?_ (by
        have := ih (a % b) hm b hb (by omega)
        rwa [Nat.gcd_comm b, ← Nat.gcd_rec, Nat.gcd_comm b] at this)
      show ref03_Gcd_p7' _ _ = _
      unfold ref03_Gcd_p7'
      rw [condT (by rw [decide_eq_true_eq]; omega), divN_rest (rt_digs ha) (rt_digs hb) hne, num_digs B2, num_digs B2]

theorem modint_Gcd_iter {xs ys : List Nat} (lx : ∀ x ∈ xs, x < B) (ly : ∀ x ∈ ys, x < B) : Iter modint_Gcd_step (.fn xs ys) (gcdN xs ys) := by
  unfold gcdN
  cases hx : rt xs with
  | false =>
    refine .done ?_
    show modint_Gcd_fn' _ _ = _
    unfold modint_Gcd_fn'
    simp [hx]
  | true =>
    cases hy : rt ys with
    | false =>
      refine .done ?_
      show modint_Gcd_fn' _ _ = _
      unfold modint_Gcd_fn'
      simp [hx, hy]
    | true =>
      obtain ⟨lx64, tx⟩ := rt_iff.1 hx
      obtain ⟨ly64, ty⟩ := rt_iff.1 hy
      have key := modint_gcd_loop (num B ys) (num B xs) (num_lt64 lx hx) (num_lt64 ly hy)
      rw [digs_num B2 lx tx, digs_num B2 ly ty] at key
      simp only [and_self, if_true]
      refine .next ?_ key
      show modint_Gcd_fn' _ _ = _
      unfold modint_Gcd_fn'
      rw [hx, hy, need_of (by omega), Option.bind_some, need_of (by omega), Option.bind_some]
      rfl

theorem ref03_Gcd_iter {xs ys : List Nat} (lx : ∀ x ∈ xs, x < B) (ly : ∀ x ∈ ys, x < B) : Iter ref03_Gcd_step (.fn xs ys) (gcdN xs ys) := by
  unfold gcdN
  cases hx : rt xs with
  | false =>
    refine .done ?_
    show ref03_Gcd_fn' _ _ = _
    unfold ref03_Gcd_fn'
    simp [hx]
  | true =>
    cases hy : rt ys with
    | false =>
      refine .done ?_
      show ref03_Gcd_fn' _ _ = _
      unfold ref03_Gcd_fn'
      simp [hx, hy]
    | true =>
      obtain ⟨lx64, tx⟩ := rt_iff.1 hx
      obtain ⟨ly64, ty⟩ := rt_iff.1 hy
      have key := ref03_gcd_loop (num B ys) (num B xs) (num_lt64 lx hx) (num_lt64 ly hy)
      rw [digs_num B2 lx tx, digs_num B2 ly ty] at key
      simp only [and_self, if_true]
      refine .next ?_ key
      show ref03_Gcd_fn' _ _ = _
      unfold ref03_Gcd_fn'
      rw [hx, hy, need_of (by omega), Option.bind_some, need_of (by omega), Option.bind_some]
      rfl

theorem modint_Gcd_spec {h : AH} {s t : Sl} {xs ys : List Nat} (n : Nats h s xs) (m : Nats h t ys) : Runs (go (.fn F.modint_Gcd [s.v, t.v]) h) (modint_Gcd_post h (gcdN xs ys)) := modint_Gcd_run (modint_Gcd_iter n.lt m.lt) n m
theorem ref03_Gcd_spec {h : AH} {s t : Sl} {xs ys : List Nat} (n : Nats h s xs) (m : Nats h t ys) : Runs (go (.fn F.ref03_Gcd [s.v, t.v]) h) (ref03_Gcd_post h (gcdN xs ys)) := ref03_Gcd_run (ref03_Gcd_iter n.lt m.lt) n m

/-- The quotient, rounded down, and the rest of two whole numbers. -/
def floorI (p : Bool) (xs : List Nat) (q : Bool) (ys : List Nat) : Bool × List Nat × Bool × List Nat × Int :=
  cond (!(rtI p xs && rtI q ys)) (false, [], false, [], 1)
    (cond (decide (ys = [])) (false, [], false, [], 3)
      (cond q (false, [], false, [], 1)
        (cond (p && !decide ((divN xs ys).2.1 = []))
          (cond (decide ((addN (divN xs ys).1 [1]).2 = 0)) ((fromI true (addN (divN xs ys).1 [1]).1).1, (fromI true (addN (divN xs ys).1 [1]).1).2, (fromI false (subN ys (divN xs ys).2.1).1).1, (fromI false (subN ys (divN xs ys).2.1).1).2, 0) (false, [], false, [], (addN (divN xs ys).1 [1]).2))
          ((fromI p (divN xs ys).1).1, (fromI p (divN xs ys).1).2, (fromI false (divN xs ys).2.1).1, (fromI false (divN xs ys).2.1).2, 0))))

theorem digs_one : digs B 1 = [1] := by decide +kernel

theorem u64P_one : u64P 1 = some 1 := u64P_nat (n := 1) (by decide)

theorem len_zero {xs : List Nat} : decide ((List.length xs : Int) = 0) = decide (xs = []) := by
  rw [decide_eq_decide]
  cases xs
  · simp
  · simp
    omega

theorem len_pos' {xs : List Nat} : decide ((List.length xs : Int) > 0) = !decide (xs = []) := by
  cases xs
  · rfl
  · simp

theorem ref03_Same_need {h : AH} {s t : Sl} {xs ys : List Nat} (n : Nats h s xs) (m : Nats h t ys) (p q : Bool) (c : p = q ∧ xs = ys) : ∃ h', go (.fn F.ref03_Same [.agg [.bool p, s.v], .agg [.bool q, t.v]]) h = some (.bool true, h') ∧ Grow h h' := by
  obtain ⟨rfl, rfl⟩ := c
  exact ref03_Same_spec n m p
theorem ref01_Same_need {h : AH} {s t : Sl} {xs ys : List Nat} (n : Nats h s xs) (m : Nats h t ys) (c : xs = ys) : go (.fn F.ref01_Same [s.v, t.v]) h = some (.bool true, h) := by
  subst c
  exact ref01_Same_spec n m

theorem modint_Floor_iter (p : Bool) (xs : List Nat) (q : Bool) (ys : List Nat) : Iter modint_Floor_step (.fn p xs q ys) (floorI p xs q ys) := by
  refine .done ?_
  show modint_Floor_fn' _ _ _ _ = _
  unfold modint_Floor_fn' floorI
  rw [len_zero, len_pos', u64P_one]
  cases rtI p xs && rtI q ys
  · rfl
  · cases decide (ys = [])
    · cases q
      · cases p
        · rfl
        · cases decide ((divN xs ys).2.1 = [])
          · simp only [Bool.not_true, Bool.not_false, cond_true, cond_false, Bool.and_self, Option.bind_some, digs_one]
            cases decide ((addN (divN xs ys).1 [1]).2 = 0)
            · rfl
            · rfl
          · rfl
      · rfl
    · rfl

theorem ref03_Floor_iter (p : Bool) (xs : List Nat) (q : Bool) (ys : List Nat) : Iter ref03_Floor_step (.fn p xs q ys) (floorI p xs q ys) := by
  refine .done ?_
  show ref03_Floor_fn' _ _ _ _ = _
  unfold ref03_Floor_fn' floorI
  rw [len_zero, len_zero, u64P_one]
  cases rtI p xs
  · rfl
  · cases rtI q ys
    · rfl
    · cases decide (ys = [])
      · cases q
        · cases p
          · rfl
          · cases hr : decide ((divN xs ys).2.1 = [])
            · simp only [Bool.not_true, Bool.not_false, cond_true, cond_false, Bool.and_self, Option.bind_some, digs_one]
              cases decide ((addN (divN xs ys).1 [1]).2 = 0)
              · rfl
              · rfl
            · rw [decide_eq_true_eq] at hr
              rw [hr]
              rfl
        · rfl
      · rfl

theorem modint_Floor_spec {h : AH} {s t : Sl} {xs ys : List Nat} (n : Nats h s xs) (m : Nats h t ys) (p q : Bool) : Runs (go (.fn F.modint_Floor [.agg [.bool p, s.v], .agg [.bool q, t.v]]) h) (modint_Floor_post h (floorI p xs q ys)) := modint_Floor_run (modint_Floor_iter p xs q ys) n m
theorem ref03_Floor_spec {h : AH} {s t : Sl} {xs ys : List Nat} (n : Nats h s xs) (m : Nats h t ys) (p q : Bool) : Runs (go (.fn F.ref03_Floor [.agg [.bool p, s.v], .agg [.bool q, t.v]]) h) (ref03_Floor_post h (floorI p xs q ys)) := ref03_Floor_run (ref03_Floor_iter p xs q ys) n m

end Go.Ab

/- Layer 3: whole numbers as whole numbers. -/
set_option linter.unusedVariables false
set_option linter.unusedSimpArgs false
set_option maxRecDepth 10000
namespace Go.Ab
open Go.Proofs Go.Num

/-- A whole number's sign and limbs. -/
def intD (z : Int) : Bool × List Nat := (decide (z < 0), digs B z.natAbs)

theorem intD_zero : intD 0 = (false, []) := by simp [intD, digs_zero]

theorem fromI_nil (p : Bool) : fromI p [] = (false, []) := by simp [fromI]

theorem fromI_digs {n : Nat} (h : n < B ^ 64) (neg : Bool) : fromI neg (digs B n) = intD (if neg = true then -(n : Int) else (n : Int)) := by
  by_cases h0 : n = 0
  · subst h0
    rw [digs_zero, fromI_nil]
    cases neg <;> simp [intD, digs_zero]
  · have hne : digs B n ≠ [] := fun e => h0 ((digs_nil B2).1 e)
    unfold fromI intD
    rw [if_pos ⟨rt_digs h, hne⟩]
    cases neg
    · have e : ((n : Int)).natAbs = n := by omega
      have e2 : decide ((n : Int) < 0) = false := by rw [decide_eq_false_iff_not]; omega
      simp only [Bool.false_eq_true, if_false, e, e2]
    · have e : (-(n : Int)).natAbs = n := by omega
      have e2 : decide (-(n : Int) < 0) = true := by rw [decide_eq_true_eq]; omega
      simp only [if_true, e, e2]

theorem rtI_intD {z : Int} (h : z.natAbs < B ^ 64) : rtI (intD z).1 (intD z).2 = true := by
  unfold rtI intD
  dsimp only
  rw [rt_digs h, Bool.true_and]
  by_cases hz : z < 0
  · have hne : digs B z.natAbs ≠ [] := fun e => by
      have := (digs_nil B2).1 e
      omega
    rw [decide_eq_true hz]
    simp [hne]
  · rw [decide_eq_false hz]
    simp

theorem of_rtI {p : Bool} {xs : List Nat} (hl : ∀ x ∈ xs, x < B) (h : rtI p xs = true) : ∃ z : Int, p = (intD z).1 ∧ xs = (intD z).2 ∧ z.natAbs < B ^ 64 := by
  have hr := rtI_rt h
  have hn := num_lt64 hl hr
  have hd := digs_num B2 hl (rt_iff.1 hr).2
  unfold rtI at h
  rw [hr, Bool.true_and] at h
  cases p
  · refine ⟨(num B xs : Int), ?_, ?_, by omega⟩
    · show false = decide ((num B xs : Int) < 0)
      symm
      rw [decide_eq_false_iff_not]
      omega
    · show xs = digs B ((num B xs : Int)).natAbs
      rw [show ((num B xs : Int)).natAbs = num B xs from by omega, hd]
  · have hne : xs ≠ [] := by simpa using h
    have hp := num_pos B1 (rt_iff.1 hr).2 hne
    refine ⟨-(num B xs : Int), ?_, ?_, by omega⟩
    · show true = decide (-(num B xs : Int) < 0)
      symm
      rw [decide_eq_true_eq]
      omega
    · show xs = digs B (-(num B xs : Int)).natAbs
      rw [show (-(num B xs : Int)).natAbs = num B xs from by omega, hd]

theorem told_ok {n : Nat} (h : n < B ^ 64) : told n = (digs B n, 0) := by
  unfold told
  rw [if_pos h]
theorem told_long {n : Nat} (h : ¬ n < B ^ 64) : told n = ([], 4) := by
  unfold told
  rw [if_neg h]

theorem mul_intD {u v : Int} (hu : u.natAbs < B ^ 64) (hv : v.natAbs < B ^ 64) : modint_Mul' (intD u).1 (intD u).2 (intD v).1 (intD v).2 = if (u * v).natAbs < B ^ 64 then ((intD (u * v)).1, (intD (u * v)).2, 0) else (false, [], 4) := by
  unfold modint_Mul'
  rw [rtI_intD hu, rtI_intD hv]
  have e : mulN (intD u).2 (intD v).2 = told (u.natAbs * v.natAbs) := by
    unfold mulN intD
    dsimp only
    rw [if_pos ⟨rt_digs hu, rt_digs hv⟩, num_digs B2, num_digs B2]
  rw [e, Int.natAbs_mul]
  simp only [Bool.and_self, Bool.not_true, cond_false]
  by_cases h : u.natAbs * v.natAbs < B ^ 64
  · rw [if_pos h, told_ok h]
    dsimp only
    rw [fromI_digs h]
    have key : (if (!((intD u).1 == (intD v).1)) = true then -((u.natAbs * v.natAbs : Nat) : Int) else ((u.natAbs * v.natAbs : Nat) : Int)) = u * v := by
      unfold intD
      dsimp only
      rw [Int.natCast_mul]
      by_cases h1 : u < 0
      · by_cases h2 : v < 0
        · have e1 : ((u.natAbs : Nat) : Int) = -u := by omega
          have e2 : ((v.natAbs : Nat) : Int) = -v := by omega
          simp [h1, h2, e1, e2, Int.neg_mul, Int.mul_neg]
        · have e1 : ((u.natAbs : Nat) : Int) = -u := by omega
          have e2 : ((v.natAbs : Nat) : Int) = v := by omega
          simp [h1, h2, e1, e2, Int.neg_mul, Int.mul_neg]
      · by_cases h2 : v < 0
        · have e1 : ((u.natAbs : Nat) : Int) = u := by omega
          have e2 : ((v.natAbs : Nat) : Int) = -v := by omega
          simp [h1, h2, e1, e2, Int.neg_mul, Int.mul_neg]
        · have e1 : ((u.natAbs : Nat) : Int) = u := by omega
          have e2 : ((v.natAbs : Nat) : Int) = v := by omega
          simp [h1, h2, e1, e2, Int.neg_mul, Int.mul_neg]
    rw [key]
  · rw [if_neg h, told_long h]
    dsimp only
    rw [fromI_nil]

theorem add_intD {u v : Int} (hu : u.natAbs < B ^ 64) (hv : v.natAbs < B ^ 64) : modint_Add' (intD u).1 (intD u).2 (intD v).1 (intD v).2 = if (u + v).natAbs < B ^ 64 then ((intD (u + v)).1, (intD (u + v)).2, 0) else (false, [], 4) := by
  unfold modint_Add'
  rw [rtI_intD hu, rtI_intD hv]
  simp only [Bool.and_self, Bool.not_true, cond_false]
  have ea : addN (intD u).2 (intD v).2 = told (u.natAbs + v.natAbs) := by
    unfold addN intD
    dsimp only
    rw [if_pos ⟨rt_digs hu, rt_digs hv⟩, num_digs B2, num_digs B2]
  have es : ∀ {a b : Int}, a.natAbs < B ^ 64 → b.natAbs < B ^ 64 → b.natAbs ≤ a.natAbs → subN (intD a).2 (intD b).2 = (digs B (a.natAbs - b.natAbs), 0) := by
    intro a b ha hb hle
    unfold subN intD
    dsimp only
    rw [if_pos ⟨rt_digs ha, rt_digs hb⟩, num_digs B2, num_digs B2, if_neg (by omega)]
  have ec : cmpN (intD u).2 (intD v).2 = cmp u.natAbs v.natAbs := by
    unfold cmpN intD
    dsimp only
    rw [if_pos ⟨rt_digs hu, rt_digs hv⟩, num_digs B2, num_digs B2]
  rw [ea, ec]
  have s1 : (intD u).1 = decide (u < 0) := rfl
  have s2 : (intD v).1 = decide (v < 0) := rfl
  rw [s1, s2]
  by_cases hs : (u < 0 ↔ v < 0)
  · have hb : (decide (u < 0) == decide (v < 0)) = true := by simp [hs]
    rw [hb, cond_true]
    by_cases h : u.natAbs + v.natAbs < B ^ 64
    · rw [if_pos (by omega), told_ok h]
      dsimp only
      rw [fromI_digs h]
      have : (if decide (u < 0) = true then -((u.natAbs + v.natAbs : Nat) : Int) else ((u.natAbs + v.natAbs : Nat) : Int)) = u + v := by
        by_cases h1 : u < 0
        · simp only [h1, decide_true, if_true]; omega
        · simp only [h1, decide_false, Bool.false_eq_true, if_false]; omega
      rw [this]
    · rw [if_neg (by omega), told_long h]
      dsimp only
      rw [fromI_nil]
  · have hb : (decide (u < 0) == decide (v < 0)) = false := by
      by_cases h1 : u < 0 <;> by_cases h2 : v < 0 <;> simp_all
    rw [hb, cond_false, if_pos (by omega)]
    by_cases hc : u.natAbs < v.natAbs
    · rw [condT (by rw [decide_eq_true_eq, cmp_lt]; exact hc), es hv hu (by omega)]
      dsimp only
      rw [fromI_digs (by omega)]
      have : (if decide (v < 0) = true then -((v.natAbs - u.natAbs : Nat) : Int) else ((v.natAbs - u.natAbs : Nat) : Int)) = u + v := by
        by_cases h1 : v < 0
        · simp only [h1, decide_true, if_true]; omega
        · simp only [h1, decide_false, Bool.false_eq_true, if_false]; omega
      rw [this]
    · rw [condF (by rw [decide_eq_false_iff_not, cmp_lt]; exact hc), es hu hv (by omega)]
      dsimp only
      rw [fromI_digs (by omega)]
      have : (if decide (u < 0) = true then -((u.natAbs - v.natAbs : Nat) : Int) else ((u.natAbs - v.natAbs : Nat) : Int)) = u + v := by
        by_cases h1 : u < 0
        · simp only [h1, decide_true, if_true]; omega
        · simp only [h1, decide_false, Bool.false_eq_true, if_false]; omega
      rw [this]

theorem neg_intD {v : Int} (hv : v.natAbs < B ^ 64) : negI (intD v).1 (intD v).2 = intD (-v) := by
  unfold negI
  rw [if_pos (rtI_intD hv)]
  show fromI (!decide (v < 0)) (digs B v.natAbs) = _
  rw [fromI_digs hv]
  by_cases h1 : v < 0
  · have e : ((v.natAbs : Nat) : Int) = -v := by omega
    simp [h1, e]
  · have e : ((v.natAbs : Nat) : Int) = v := by omega
    simp [h1, e]

theorem sub_intD {u v : Int} (hu : u.natAbs < B ^ 64) (hv : v.natAbs < B ^ 64) : modint_Sub' (intD u).1 (intD u).2 (intD v).1 (intD v).2 = if (u - v).natAbs < B ^ 64 then ((intD (u - v)).1, (intD (u - v)).2, 0) else (false, [], 4) := by
  have e : modint_Sub' (intD u).1 (intD u).2 (intD v).1 (intD v).2 = modint_Add' (intD u).1 (intD u).2 (intD (-v)).1 (intD (-v)).2 := by
    unfold modint_Sub'
    rw [rtI_intD hu, rtI_intD hv, neg_intD hv]
    rfl
  rw [e, add_intD hu (by omega)]
  rfl

theorem cmp_intD {u v : Int} (hu : u.natAbs < B ^ 64) (hv : v.natAbs < B ^ 64) : cmpI (intD u).1 (intD u).2 (intD v).1 (intD v).2 = if u < v then -1 else if u = v then 0 else 1 := by
  unfold cmpI
  rw [if_pos ⟨rtI_intD hu, rtI_intD hv⟩]
  have ec : ∀ {a b : Int}, a.natAbs < B ^ 64 → b.natAbs < B ^ 64 → cmpN (intD a).2 (intD b).2 = cmp a.natAbs b.natAbs := by
    intro a b ha hb
    unfold cmpN intD
    dsimp only
    rw [if_pos ⟨rt_digs ha, rt_digs hb⟩, num_digs B2, num_digs B2]
  rw [ec hu hv, ec hv hu]
  have s1 : (intD u).1 = decide (u < 0) := rfl
  have s2 : (intD v).1 = decide (v < 0) := rfl
  rw [s1, s2]
  unfold cmp
  by_cases h1 : u < 0
  · by_cases h2 : v < 0
    · simp only [h1, h2, decide_true, if_true]
      by_cases h3 : u < v
      · rw [if_pos h3, if_pos (by omega)]
      · rw [if_neg h3, if_neg (by omega)]
        by_cases h4 : u = v
        · rw [if_pos h4, if_pos (by omega)]
        · rw [if_neg h4, if_neg (by omega)]
    · simp only [h1, h2, decide_true, decide_false, Bool.true_eq_false, if_false, if_true]
      rw [if_pos (by omega)]
  · by_cases h2 : v < 0
    · simp only [h1, h2, decide_true, decide_false, Bool.false_eq_true, if_false]
      rw [if_neg (by omega), if_neg (by omega)]
    · simp only [h1, h2, decide_false, Bool.false_eq_true, if_false, if_true]
      by_cases h3 : u < v
      · rw [if_pos h3, if_pos (by omega)]
      · rw [if_neg h3, if_neg (by omega)]
        by_cases h4 : u = v
        · rw [if_pos h4, if_pos (by omega)]
        · rw [if_neg h4, if_neg (by omega)]

theorem intD_of_nat (n : Nat) : intD (n : Int) = (false, digs B n) := by
  unfold intD
  have : decide ((n : Int) < 0) = false := by rw [decide_eq_false_iff_not]; omega
  rw [this]
  rfl

theorem floor_intD {u v : Int} (hu : u.natAbs < B ^ 64) (hv : v.natAbs < B ^ 64) (h0 : 0 < v) : floorI (intD u).1 (intD u).2 (intD v).1 (intD v).2 = ((intD (u / v)).1, (intD (u / v)).2, (intD (u % v)).1, (intD (u % v)).2, 0) := by
  obtain ⟨y, rfl⟩ : ∃ y : Nat, v = (y : Int) := ⟨v.toNat, by omega⟩
  have hy : y < B ^ 64 := by simpa using hv
  have hy0 : 0 < y := by omega
  have hne : (intD (y : Int)).2 ≠ [] := fun e => by
    have : y = 0 := by simpa [intD] using (digs_nil B2).1 e
    omega
  unfold floorI
  rw [rtI_intD hu, rtI_intD hv]
  have sy : (intD (y : Int)).1 = false := by rw [intD_of_nat]
  have dv : divN (intD u).2 (intD (y : Int)).2 = (digs B (u.natAbs / y), digs B (u.natAbs % y), 0) := by
    unfold divN
    rw [if_pos ⟨rtI_rt (rtI_intD hu), rtI_rt (rtI_intD hv)⟩, if_neg hne]
    simp only [intD, num_digs B2, Int.natAbs_natCast]
  have hQ : u.natAbs / y < B ^ 64 := Nat.lt_of_le_of_lt (Nat.div_le_self _ _) hu
  have hR : u.natAbs % y < B ^ 64 := Nat.lt_trans (Nat.mod_lt _ hy0) hy
  have dm := Nat.div_add_mod u.natAbs y
  have hm := Nat.mod_lt u.natAbs hy0
  rw [dv, sy]
  simp only [Bool.and_self, Bool.not_true, cond_false, hne, decide_false]
  have s1 : (intD u).1 = decide (u < 0) := rfl
  rw [s1]
  have hr0 : (digs B (u.natAbs % y) = []) ↔ u.natAbs % y = 0 := digs_nil B2
  by_cases hc : u < 0 ∧ u.natAbs % y ≠ 0
  · have b1 : (decide (u < 0) && !decide (digs B (u.natAbs % y) = [])) = true := by
      rw [Bool.and_eq_true, decide_eq_true_eq, Bool.not_eq_true', decide_eq_false_iff_not, hr0]
      exact hc
    rw [b1, cond_true]
    have h1 : [1] = digs B 1 := digs_one.symm
    have hq1 : u.natAbs / y + 1 < B ^ 64 := by
      have hy2 : 2 ≤ y := by
        rcases Nat.lt_or_ge y 2 with h | h
        · have : y = 1 := by omega
          subst this
          rw [Nat.mod_one] at hc
          exact absurd rfl hc.2
        · exact h
      have : u.natAbs / y ≤ u.natAbs / 2 := Nat.div_le_div_left hy2 (by omega)
      have hb : 2 < B ^ 64 := by decide +kernel
      omega
    have au : addN (digs B (u.natAbs / y)) [1] = (digs B (u.natAbs / y + 1), 0) := by
      unfold addN
      rw [h1, if_pos ⟨rt_digs hQ, rt_digs (by decide +kernel)⟩, num_digs B2, num_digs B2, told_ok hq1]
    have su : subN (intD (y : Int)).2 (digs B (u.natAbs % y)) = (digs B (y - u.natAbs % y), 0) := by
      rw [intD_of_nat]
      unfold subN
      rw [if_pos ⟨rt_digs hy, rt_digs hR⟩, num_digs B2, num_digs B2, if_neg (by omega)]
    rw [au, su]
    dsimp only
    rw [fromI_digs hq1, fromI_digs (by omega)]
    have e1 : u / (y : Int) = -((u.natAbs / y + 1 : Nat) : Int) := by
      have hu' : u = -((y * (u.natAbs / y) + u.natAbs % y : Nat) : Int) := by rw [dm]; omega
      generalize u.natAbs / y = q at *
      generalize u.natAbs % y = r at *
      rw [hu']
      rw [Int.ediv_eq_iff_of_pos (by omega)]
      constructor
      · rw [Int.natCast_add, Int.natCast_add, Int.natCast_mul, Int.neg_mul, Int.add_mul, Int.mul_comm (q : Int)]
        omega
      · rw [Int.natCast_add, Int.natCast_add, Int.natCast_mul, Int.neg_mul, Int.add_mul, Int.mul_comm (q : Int)]
        omega
    have e2 : u % (y : Int) = ((y - u.natAbs % y : Nat) : Int) := by
      have := Int.mul_ediv_add_emod u (y : Int)
      rw [e1] at this
      have dm' : ((y : Int) * ((u.natAbs / y : Nat) : Int)) + ((u.natAbs % y : Nat) : Int) = ((u.natAbs : Nat) : Int) := by
        rw [← Int.natCast_mul, ← Int.natCast_add, dm]
      rw [Int.natCast_add, Int.mul_neg, Int.mul_add] at this
      omega
    rw [e1, e2]
    rfl
  · have b1 : (decide (u < 0) && !decide (digs B (u.natAbs % y) = [])) = false := by
      rw [← Bool.not_eq_true, Bool.and_eq_true, decide_eq_true_eq, Bool.not_eq_true', decide_eq_false_iff_not, hr0]
      exact hc
    rw [b1, cond_false, fromI_digs hQ, fromI_digs hR]
    have dm' : ((y : Int) * ((u.natAbs / y : Nat) : Int)) + ((u.natAbs % y : Nat) : Int) = ((u.natAbs : Nat) : Int) := by
      rw [← Int.natCast_mul, ← Int.natCast_add, dm]
    by_cases hneg : u < 0
    · have hr : u.natAbs % y = 0 := by
        rcases Nat.eq_zero_or_pos (u.natAbs % y) with h | h
        · exact h
        · exact absurd ⟨hneg, by omega⟩ hc
      rw [hr] at dm' ⊢
      have hu' : u = (y : Int) * -((u.natAbs / y : Nat) : Int) := by
        rw [Int.mul_neg]
        omega
      have e1 : u / (y : Int) = -((u.natAbs / y : Nat) : Int) := by
        conv => lhs; rw [hu']
        exact Int.mul_ediv_cancel_left _ (by omega)
      have e2 : u % (y : Int) = 0 := by
        conv => lhs; rw [hu']
        exact Int.mul_emod_right _ _
      rw [e1, e2, if_pos (by simpa using hneg)]
      rfl
    · have hu' : u = ((u.natAbs : Nat) : Int) := by omega
      have e1 : u / (y : Int) = ((u.natAbs / y : Nat) : Int) := by
        conv => lhs; rw [hu']
        rfl
      have e2 : u % (y : Int) = ((u.natAbs % y : Nat) : Int) := by
        conv => lhs; rw [hu']
        rfl
      rw [e1, e2, if_neg (by simpa using hneg)]
      rfl

end Go.Ab

/- Layer 3: whole numbers of one limb; sizes. -/
set_option linter.unusedVariables false
set_option linter.unusedSimpArgs false
set_option maxRecDepth 10000
namespace Go.Ab
open Go.Proofs Go.Num

theorem floor_small {u v : Int} (hu : u.natAbs < B ^ 64) (h0 : 0 < v) : (u / v).natAbs < B ^ 64 ∧ (u / v).natAbs ≤ u.natAbs := by
  have h1 := Int.mul_ediv_add_emod u v
  have h2 := Int.emod_nonneg u (show v ≠ 0 by omega)
  have h3 := Int.emod_lt_of_pos u h0
  have key : (u / v).natAbs ≤ u.natAbs := by
    by_cases hn : u < 0
    · have hq : u / v < 0 := Int.ediv_neg_of_neg_of_pos hn h0
      have : u ≤ u / v := by
        have h4 : v * (u / v) ≤ 1 * (u / v) := Int.mul_le_mul_of_nonpos_right (by omega) (by omega)
        rcases Int.lt_or_le (u / v) u with h5 | h5
        · exfalso
          have h6 : u / v + 1 ≤ u := by omega
          have h7 : v * (u / v + 1) = v * (u / v) + v := by rw [Int.mul_add, Int.mul_one]
          have h8 : v * (u / v + 1) ≤ 1 * (u / v + 1) := Int.mul_le_mul_of_nonpos_right (by omega) (by omega)
          omega
        · exact h5
      omega
    · have hq : 0 ≤ u / v := Int.ediv_nonneg (by omega) (by omega)
      have h4 : 1 * (u / v) ≤ v * (u / v) := Int.mul_le_mul_of_nonneg_right (by omega) hq
      omega
  exact ⟨by omega, key⟩

theorem B64_big : 18446744073709551616 * 18446744073709551616 ≤ B ^ 64 := by
  have : B ^ 64 = B * B * B ^ 62 := by
    rw [show 64 = 2 + 62 from rfl, Nat.pow_add, Nat.pow_two]
  rw [this]
  have h : 1 ≤ B ^ 62 := Nat.pow_pos B1
  have := Nat.mul_le_mul_left (B * B) h
  rw [Nat.mul_one] at this
  exact this

theorem ofI_intD {n : Int} (h : n.natAbs < 18446744073709551616) : ofI n = intD n := by
  have hb : n.natAbs < B ^ 64 := by have := B64_big; omega
  unfold ofI
  rw [fromI_digs hb]
  by_cases h1 : n < 0
  · rw [decide_eq_true h1]
    have e : ((n.natAbs : Nat) : Int) = -n := by omega
    simp [e]
  · rw [decide_eq_false h1]
    have e : ((n.natAbs : Nat) : Int) = n := by omega
    simp [e]

theorem modint_Of_need (n : Int) {h : AH} (c : -9223372036854775808 ≤ n ∧ n ≤ 9223372036854775807) : ∃ (s' : Sl) (h' : AH), go (.fn F.modint_Of [.int .i64 n]) h = some (.agg [.bool (ofI n).1, s'.v], h') ∧ Nats h' s' (ofI n).2 ∧ Grow h h' ∧ Own h s' := modint_Of_spec c.1 c.2

theorem ref03_Of_need (n : Int) {h : AH} (c : -9223372036854775808 ≤ n ∧ n ≤ 9223372036854775807) : ∃ (s' : Sl) (h' : AH), go (.fn F.ref03_Of [.int .i64 n]) h = some (.agg [.bool (ofI n).1, s'.v], h') ∧ Nats h' s' (ofI n).2 ∧ Grow h h' ∧ Own h s' := ref03_Of_spec c.1 c.2

end Go.Ab

/- Layer 8: one. -/
set_option linter.unusedVariables false
set_option linter.unusedSimpArgs false
set_option maxRecDepth 10000
namespace Go.Ab
open Go.Proofs Go.Num

theorem ref01_Of_one {h : AH} : ∃ (s' : Sl) (h' : AH), go (.fn F.ref01_Of [.int .u64 1]) h = some (s'.v, h') ∧ Nats h' s' [1] ∧ Grow h h' ∧ Own h s' := by
  have := ref01_Of_spec (h := h) (x := 1) (by decide)
  rw [digs_one] at this
  exact this

end Go.Ab

/- Layer 8: Make, Right: printed by wip/tools/walk.py. -/
set_option linter.unusedVariables false
set_option linter.unusedSimpArgs false
set_option maxRecDepth 10000
namespace Go.Ab
open Go.Proofs Go.Num

def rational_Right' (a1 : Bool) (x2 : List Nat) (x3 : List Nat) : Bool :=
  cond (!(rtI a1 x2)) (false) (cond (!(rt x3)) (false) (cond (decide ((List.length x3 : Int) = 0)) (false) (cond (decide ((List.length x3 : Int) > 16)) (false) (cond (decide ((List.length x2 : Int) > 16)) (false) (decide ((cmpN ((gcdN x2 x3).1) [1]) = 0))))))

theorem rational_Right_spec {h : AH} {a2 : Sl} {x2 : List Nat} {a3 : Sl} {x3 : List Nat} (n2 : Nats h a2 x2) (n3 : Nats h a3 x3) (a1 : Bool) : Runs (go (.fn F.rational_Right [.agg [.bool a1, a2.v, a3.v]]) h) fun v h' => v = .bool (rational_Right' a1 x2 x3) ∧ Grow h h' := by
  rw [u_rational_Right]
  refine Runs.new fun H4 b4 g4 => ?_
  refine Runs.step (AH.has.rd b4 0 rfl rfl) ?_
  refine Runs.step (AH.has.rd b4 1 rfl (asSl_v _)) ?_
  obtain ⟨H5, e5, g5⟩ := modint_Right_spec (n2.grow g4) a1
  refine Runs.step e5 ?_
  refine Runs.step (seen rfl) ?_
  refine Runs.cond (fun k6 => ?_) (fun k6 => ?_)
  · have z : rational_Right' a1 x2 x3 = false := by unfold rational_Right'; exact (condT k6).trans rfl
    rw [z]
    exact Runs.ret ⟨rfl, (g4.trans g5)⟩
  · refine Runs.step (AH.has.rd (g5.has b4) 2 rfl (asSl_v _)) ?_
    refine Runs.step (nat_Right_spec (n3.grow (g4.trans g5))) ?_
    refine Runs.step (seen rfl) ?_
    refine Runs.cond (fun k8 => ?_) (fun k8 => ?_)
    · have z : rational_Right' a1 x2 x3 = false := by unfold rational_Right'; exact (condF k6).trans ((condT k8).trans rfl)
      rw [z]
      exact Runs.ret ⟨rfl, (g4.trans g5)⟩
    · refine Runs.step (AH.has.rd (g5.has b4) 2 rfl (asSl_v _)) ?_
      rw [(n3.grow (g4.trans g5)).len]
      refine Runs.cond (fun k9 => ?_) (fun k9 => ?_)
      · have z : rational_Right' a1 x2 x3 = false := by unfold rational_Right'; exact (condF k6).trans ((condF k8).trans ((condT k9).trans rfl))
        rw [z]
        exact Runs.ret ⟨rfl, (g4.trans g5)⟩
      · refine Runs.step (AH.has.rd (g5.has b4) 2 rfl (asSl_v _)) ?_
        rw [(n3.grow (g4.trans g5)).len]
        refine Runs.cond (fun k10 => ?_) (fun k10 => ?_)
        · have z : rational_Right' a1 x2 x3 = false := by unfold rational_Right'; exact (condF k6).trans ((condF k8).trans ((condF k9).trans ((condT k10).trans rfl)))
          rw [z]
          exact Runs.ret ⟨rfl, (g4.trans g5)⟩
        · refine Runs.step (AH.has.rd (g5.has b4) 1 rfl (asSl_v _)) ?_
          rw [(n2.grow (g4.trans g5)).len]
          refine Runs.cond (fun k11 => ?_) (fun k11 => ?_)
          · have z : rational_Right' a1 x2 x3 = false := by unfold rational_Right'; exact (condF k6).trans ((condF k8).trans ((condF k9).trans ((condF k10).trans ((condT k11).trans rfl))))
            rw [z]
            exact Runs.ret ⟨rfl, (g4.trans g5)⟩
          · refine Runs.step (AH.has.rd (g5.has b4) 1 rfl (asSl_v _)) ?_
            refine Runs.step (AH.has.rd (g5.has b4) 2 rfl (asSl_v _)) ?_
            obtain ⟨_, H12, e12, s12, rfl, n12, g12, o12⟩ := modint_Gcd_spec (n2.grow (g4.trans g5)) (n3.grow (g4.trans g5))
            refine Runs.step e12 ?_
            refine Runs.step rfl ?_
            refine Runs.step (seen (asSl_v _)) ?_
            refine Runs.step (seen (avInt_int _ _)) ?_
            refine Runs.new fun H13 b13 g13 => ?_
            obtain ⟨H14, e14, g14⟩ := nat_Cmp_spec (n12.grow g13) (Nats.of_has (xs := [1]) b13 (by decide) (by decide))
            refine Runs.step e14 ?_
            refine Runs.step (seen (avInt_int _ _)) ?_
            have z : rational_Right' a1 x2 x3 = decide ((cmpN ((gcdN x2 x3).1) [1]) = 0) := by unfold rational_Right'; exact (condF k6).trans ((condF k8).trans ((condF k9).trans ((condF k10).trans ((condF k11).trans rfl))))
            rw [z]
            have G15 := ((((g4.trans g5).trans g12).trans g13).trans g14)
            exact Runs.ret ⟨rfl, G15⟩

def ref08_Right' (a1 : Bool) (x2 : List Nat) (x3 : List Nat) : Bool :=
  cond (!(rtI a1 x2)) (false) (cond (!(rt x3)) (false) (cond (decide ((List.length x3 : Int) = 0)) (false) (cond (decide ((List.length x3 : Int) > 16)) (false) (cond (decide ((List.length x2 : Int) > 16)) (false) (decide ((cmpN ((gcdN x2 x3).1) [1]) = 0))))))

theorem ref08_Right_spec {h : AH} {a2 : Sl} {x2 : List Nat} {a3 : Sl} {x3 : List Nat} (n2 : Nats h a2 x2) (n3 : Nats h a3 x3) (a1 : Bool) : Runs (go (.fn F.ref08_Right [.agg [.bool a1, a2.v, a3.v]]) h) fun v h' => v = .bool (ref08_Right' a1 x2 x3) ∧ Grow h h' := by
  rw [u_ref08_Right]
  refine Runs.new fun H4 b4 g4 => ?_
  refine Runs.step (AH.has.rd b4 0 rfl rfl) ?_
  refine Runs.step (AH.has.rd b4 1 rfl (asSl_v _)) ?_
  obtain ⟨H5, e5, g5⟩ := ref03_Right_spec (n2.grow g4) a1
  refine Runs.step e5 ?_
  refine Runs.step (seen rfl) ?_
  refine Runs.step (AH.has.rd (g5.has b4) 2 rfl (asSl_v _)) ?_
  refine Runs.step (ref01_Right_spec (n3.grow (g4.trans g5))) ?_
  refine Runs.step (seen rfl) ?_
  refine Runs.cond (fun k7 => ?_) (fun k7 => ?_)
  · have z : ref08_Right' a1 x2 x3 = false := by unfold ref08_Right'; exact (condT k7).trans rfl
    rw [z]
    exact Runs.ret ⟨rfl, (g4.trans g5)⟩
  · refine Runs.cond (fun k8 => ?_) (fun k8 => ?_)
    · have z : ref08_Right' a1 x2 x3 = false := by unfold ref08_Right'; exact (condF k7).trans ((condT k8).trans rfl)
      rw [z]
      exact Runs.ret ⟨rfl, (g4.trans g5)⟩
    · refine Runs.step (AH.has.rd (g5.has b4) 2 rfl (asSl_v _)) ?_
      rw [(n3.grow (g4.trans g5)).len]
      refine Runs.cond (fun k9 => ?_) (fun k9 => ?_)
      · have z : ref08_Right' a1 x2 x3 = false := by unfold ref08_Right'; exact (condF k7).trans ((condF k8).trans ((condT k9).trans rfl))
        rw [z]
        exact Runs.ret ⟨rfl, (g4.trans g5)⟩
      · refine Runs.step (AH.has.rd (g5.has b4) 2 rfl (asSl_v _)) ?_
        rw [(n3.grow (g4.trans g5)).len]
        refine Runs.cond (fun k10 => ?_) (fun k10 => ?_)
        · have z : ref08_Right' a1 x2 x3 = false := by unfold ref08_Right'; exact (condF k7).trans ((condF k8).trans ((condF k9).trans ((condT k10).trans rfl)))
          rw [z]
          exact Runs.ret ⟨rfl, (g4.trans g5)⟩
        · refine Runs.step (AH.has.rd (g5.has b4) 1 rfl (asSl_v _)) ?_
          rw [(n2.grow (g4.trans g5)).len]
          refine Runs.cond (fun k11 => ?_) (fun k11 => ?_)
          · have z : ref08_Right' a1 x2 x3 = false := by unfold ref08_Right'; exact (condF k7).trans ((condF k8).trans ((condF k9).trans ((condF k10).trans ((condT k11).trans rfl))))
            rw [z]
            exact Runs.ret ⟨rfl, (g4.trans g5)⟩
          · refine Runs.step (AH.has.rd (g5.has b4) 1 rfl (asSl_v _)) ?_
            refine Runs.step (AH.has.rd (g5.has b4) 2 rfl (asSl_v _)) ?_
            obtain ⟨_, H12, e12, s12, rfl, n12, g12, o12⟩ := ref03_Gcd_spec (n2.grow (g4.trans g5)) (n3.grow (g4.trans g5))
            refine Runs.step e12 ?_
            refine Runs.step rfl ?_
            refine Runs.step (seen (asSl_v _)) ?_
            refine Runs.step (seen (avInt_int _ _)) ?_
            obtain ⟨s13, H13, e13, n13, g13, o13⟩ := ref01_Of_one
            refine Runs.step e13 ?_
            refine Runs.step (seen (asSl_v _)) ?_
            obtain ⟨H14, e14, g14⟩ := ref01_Cmp_spec (n12.grow g13) n13
            refine Runs.step e14 ?_
            refine Runs.step (seen (avInt_int _ _)) ?_
            have z : ref08_Right' a1 x2 x3 = decide ((cmpN ((gcdN x2 x3).1) [1]) = 0) := by unfold ref08_Right'; exact (condF k7).trans ((condF k8).trans ((condF k9).trans ((condF k10).trans ((condF k11).trans rfl))))
            rw [z]
            have G15 := ((((g4.trans g5).trans g12).trans g13).trans g14)
            exact Runs.ret ⟨rfl, G15⟩

def rational_Make' (a1 : Bool) (x2 : List Nat) (x3 : List Nat) : Bool × List Nat × List Nat × Int :=
  cond (!(rtI a1 x2)) ((false, [], [], 1)) (cond (!(rt x3)) ((false, [], [], 1)) (cond (decide ((List.length x3 : Int) = 0)) ((false, [], [], 3)) (cond (decide ((imax (List.length ((divN x2 ((gcdN x2 x3).1)).1) : Int) (List.length ((divN x3 ((gcdN x2 x3).1)).1) : Int)) > 16)) ((false, [], [], 4)) (((((fromI a1 ((divN x2 ((gcdN x2 x3).1)).1)).1)), (fromI a1 ((divN x2 ((gcdN x2 x3).1)).1)).2, (divN x3 ((gcdN x2 x3).1)).1, 0)))))

theorem rational_Make_spec {h : AH} {a2 : Sl} {x2 : List Nat} {a3 : Sl} {x3 : List Nat} (n2 : Nats h a2 x2) (n3 : Nats h a3 x3) (a1 : Bool) : Runs (go (.fn F.rational_Make [.agg [.bool a1, a2.v], a3.v]) h) fun v h' => ∃ s1 : Sl, ∃ s2 : Sl, v = .tup [.agg [.bool (rational_Make' a1 x2 x3).1, s1.v, s2.v], .int .i64 (rational_Make' a1 x2 x3).2.2.2] ∧ Nats h' s1 ((rational_Make' a1 x2 x3).2.1) ∧ Nats h' s2 ((rational_Make' a1 x2 x3).2.2.1) ∧ Grow h h' ∧ Own h s1 ∧ Own h s2 := by
  rw [u_rational_Make]
  rw [n3.len]
  refine Runs.new fun H4 b4 g4 => ?_
  refine Runs.new fun H5 b5 g5 => ?_
  refine Runs.step (AH.has.rd (g5.has b4) 0 rfl rfl) ?_
  refine Runs.step (AH.has.rd (g5.has b4) 1 rfl (asSl_v _)) ?_
  obtain ⟨H6, e6, g6⟩ := modint_Right_spec (n2.grow (g4.trans g5)) a1
  refine Runs.step e6 ?_
  refine Runs.step (seen rfl) ?_
  refine Runs.cond (fun k7 => ?_) (fun k7 => ?_)
  · refine Runs.puts (g6.has b5) rfl fun H8 b8 u8 => ?_
    refine Runs.step (AH.has.rd b8 0 rfl rfl) ?_
    refine Runs.step (AH.has.rd b8 1 rfl (asSl_v _)) ?_
    refine Runs.step (AH.has.rd b8 2 rfl (asSl_v _)) ?_
    have z : rational_Make' a1 x2 x3 = (false, [], [], 1) := by unfold rational_Make'; exact (condT k7).trans rfl
    rw [z]
    have G9 := (((g4.trans g5).trans g6).updr (Nat.le_trans (g4).size (Nat.le_refl _)) u8)
    exact Runs.ret ⟨(⟨none, 0, .is 0⟩ : Sl), (⟨none, 0, .is 0⟩ : Sl), rfl, (Nats.nil _), (Nats.nil _), G9, (Own.nil _), (Own.nil _)⟩
  · have G8 := ((g4.trans g5).trans g6)
    have n3_9 := n3.grow G8
    refine Runs.step (nat_Right_spec n3_9) ?_
    refine Runs.step (seen rfl) ?_
    refine Runs.cond (fun k11 => ?_) (fun k11 => ?_)
    · refine Runs.puts (g6.has b5) rfl fun H12 b12 u12 => ?_
      have n3_12 := n3_9.upda (Av.of_base n3 (Nat.le_trans (g4).size (Nat.le_refl _))) u12
      refine Runs.step (AH.has.rd b12 0 rfl rfl) ?_
      refine Runs.step (AH.has.rd b12 1 rfl (asSl_v _)) ?_
      refine Runs.step (AH.has.rd b12 2 rfl (asSl_v _)) ?_
      have z : rational_Make' a1 x2 x3 = (false, [], [], 1) := by unfold rational_Make'; exact (condF k7).trans ((condT k11).trans rfl)
      rw [z]
      have G13 := (G8.updr (Nat.le_trans (g4).size (Nat.le_refl _)) u12)
      exact Runs.ret ⟨(⟨none, 0, .is 0⟩ : Sl), (⟨none, 0, .is 0⟩ : Sl), rfl, (Nats.nil _), (Nats.nil _), G13, (Own.nil _), (Own.nil _)⟩
    · refine Runs.cond (fun k12 => ?_) (fun k12 => ?_)
      · refine Runs.puts (g6.has b5) rfl fun H13 b13 u13 => ?_
        have n3_13 := n3_9.upda (Av.of_base n3 (Nat.le_trans (g4).size (Nat.le_refl _))) u13
        refine Runs.step (AH.has.rd b13 0 rfl rfl) ?_
        refine Runs.step (AH.has.rd b13 1 rfl (asSl_v _)) ?_
        refine Runs.step (AH.has.rd b13 2 rfl (asSl_v _)) ?_
        have z : rational_Make' a1 x2 x3 = (false, [], [], 3) := by unfold rational_Make'; exact (condF k7).trans ((condF k11).trans ((condT k12).trans rfl))
        rw [z]
        have G14 := (G8.updr (Nat.le_trans (g4).size (Nat.le_refl _)) u13)
        exact Runs.ret ⟨(⟨none, 0, .is 0⟩ : Sl), (⟨none, 0, .is 0⟩ : Sl), rfl, (Nats.nil _), (Nats.nil _), G14, (Own.nil _), (Own.nil _)⟩
      · refine Runs.step (AH.has.rd ((g5.trans g6).has b4) 1 rfl (asSl_v _)) ?_
        have n2_13 := n2.grow G8
        obtain ⟨_, H14, e14, s14, rfl, n14, g14, o14⟩ := modint_Gcd_spec n2_13 n3_9
        refine Runs.step e14 ?_
        refine Runs.step rfl ?_
        refine Runs.step (seen (asSl_v _)) ?_
        refine Runs.step (seen (avInt_int _ _)) ?_
        have G15 := ((g5.trans g6).trans g14)
        have b4_16 := G15.has b4
        refine Runs.step (AH.has.rd b4_16 1 rfl (asSl_v _)) ?_
        obtain ⟨s17, s17b, H17, e17, n17, n17b, g17, o17, o17b⟩ := nat_Div_spec (n2_13.grow g14) n14
        refine Runs.step e17 ?_
        refine Runs.step rfl ?_
        refine Runs.step (seen (asSl_v _)) ?_
        rw [n17.len]
        refine Runs.step (seen (asSl_v _)) ?_
        refine Runs.step (seen (avInt_int _ _)) ?_
        obtain ⟨s18, s18b, H18, e18, n18, n18b, g18, o18, o18b⟩ := nat_Div_spec (n3_9.grow (g14.trans g17)) (n14.grow g17)
        refine Runs.step e18 ?_
        refine Runs.step rfl ?_
        refine Runs.step (seen (asSl_v _)) ?_
        rw [n18.len]
        refine Runs.step (seen (asSl_v _)) ?_
        refine Runs.step (seen (avInt_int _ _)) ?_
        refine Runs.cond (fun k19 => ?_) (fun k19 => ?_)
        · have G21 := (((g6.trans g14).trans g17).trans g18)
          have b5_22 := G21.has b5
          refine Runs.puts b5_22 rfl fun H20 b20 u20 => ?_
          have G23 := ((g14.trans g17).trans g18)
          have n2_24 := n2_13.grow G23
          have n2_20 := n2_24.upda (Av.of_base n2 (Nat.le_trans (g4).size (Nat.le_refl _))) u20
          have n3_25 := n3_9.grow G23
          have n3_20 := n3_25.upda (Av.of_base n3 (Nat.le_trans (g4).size (Nat.le_refl _))) u20
          have n14_20 := (n14.grow (g17.trans g18)).upda (Av.of_own o14 (g6.has b5).lt) u20
          have n17_20 := (n17.grow g18).upda (Av.of_own o17 ((g6.trans g14).has b5).lt) u20
          have n17b_20 := (n17b.grow g18).upda (Av.of_own o17b ((g6.trans g14).has b5).lt) u20
          have G26 := ((g6.trans g14).trans g17)
          have n18_20 := n18.upda (Av.of_own o18 (G26.has b5).lt) u20
          have n18b_20 := n18b.upda (Av.of_own o18b (G26.has b5).lt) u20
          have b4_20 := AH.has.updr ((g17.trans g18).has b4_16) (Nat.ne_of_lt (Nat.lt_of_lt_of_le (b4).lt (Nat.le_refl _))) u20
          refine Runs.step (AH.has.rd b20 0 rfl rfl) ?_
          refine Runs.step (AH.has.rd b20 1 rfl (asSl_v _)) ?_
          refine Runs.step (AH.has.rd b20 2 rfl (asSl_v _)) ?_
          have z : rational_Make' a1 x2 x3 = (false, [], [], 4) := by unfold rational_Make'; exact (condF k7).trans ((condF k11).trans ((condF k12).trans ((condT k19).trans rfl)))
          rw [z]
          have G27 := ((((G8.trans g14).trans g17).trans g18).updr (Nat.le_trans (g4).size (Nat.le_refl _)) u20)
          exact Runs.ret ⟨(⟨none, 0, .is 0⟩ : Sl), (⟨none, 0, .is 0⟩ : Sl), rfl, (Nats.nil _), (Nats.nil _), G27, (Own.nil _), (Own.nil _)⟩
        · refine Runs.step (AH.has.rd ((g17.trans g18).has b4_16) 0 rfl rfl) ?_
          obtain ⟨s20, H20, e20, n20, g20, o20⟩ := modint_From_spec (n17.grow g18) a1
          refine Runs.step e20 ?_
          refine Runs.step rfl ?_
          refine Runs.ifT rfl ?_
          refine Runs.step (seenAt rfl rfl) ?_
          refine Runs.step (seenAt rfl (asSl_v _)) ?_
          have G22 := ((((g6.trans g14).trans g17).trans g18).trans g20)
          have b5_23 := G22.has b5
          refine Runs.puts b5_23 rfl fun H21 b21 u21 => ?_
          have G24 := (((g14.trans g17).trans g18).trans g20)
          have n2_25 := n2_13.grow G24
          have n2_21 := n2_25.upda (Av.of_base n2 (Nat.le_trans (g4).size (Nat.le_refl _))) u21
          have n3_26 := n3_9.grow G24
          have n3_21 := n3_26.upda (Av.of_base n3 (Nat.le_trans (g4).size (Nat.le_refl _))) u21
          have G27 := ((g17.trans g18).trans g20)
          have n14_28 := n14.grow G27
          have n14_21 := n14_28.upda (Av.of_own o14 (g6.has b5).lt) u21
          have n17_21 := (n17.grow (g18.trans g20)).upda (Av.of_own o17 ((g6.trans g14).has b5).lt) u21
          have n17b_21 := (n17b.grow (g18.trans g20)).upda (Av.of_own o17b ((g6.trans g14).has b5).lt) u21
          have G29 := ((g6.trans g14).trans g17)
          have n18_21 := (n18.grow g20).upda (Av.of_own o18 (G29.has b5).lt) u21
          have n18b_21 := (n18b.grow g20).upda (Av.of_own o18b (G29.has b5).lt) u21
          have G30 := (G29.trans g18)
          have n20_21 := n20.upda (Av.of_own o20 (G30.has b5).lt) u21
          have b4_31 := G27.has b4_16
          have b4_21 := AH.has.updr b4_31 (Nat.ne_of_lt (Nat.lt_of_lt_of_le (b4).lt (Nat.le_refl _))) u21
          refine Runs.step (AH.has.rd b21 0 rfl rfl) ?_
          refine Runs.step (AH.has.rd b21 1 rfl (asSl_v _)) ?_
          refine Runs.step (AH.has.rd b21 2 rfl (asSl_v _)) ?_
          have z : rational_Make' a1 x2 x3 = ((((fromI a1 ((divN x2 ((gcdN x2 x3).1)).1)).1)), (fromI a1 ((divN x2 ((gcdN x2 x3).1)).1)).2, (divN x3 ((gcdN x2 x3).1)).1, 0) := by unfold rational_Make'; exact (condF k7).trans ((condF k11).trans ((condF k12).trans ((condF k19).trans rfl)))
          rw [z]
          have G32 := (((G8.trans g14).trans g17).trans g18)
          have G33 := ((G8.trans g14).trans g17)
          have G34 := ((G32.trans g20).updr (Nat.le_trans (g4).size (Nat.le_refl _)) u21)
          exact Runs.ret ⟨s20, s18, rfl, n20_21, n18_21, G34, (o20.of_le G32), (o18.of_le G33)⟩

def ref08_Make' (a1 : Bool) (x2 : List Nat) (x3 : List Nat) : Bool × List Nat × List Nat × Int :=
  cond (!(rtI a1 x2)) ((false, [], [], 1)) (cond (!(rt x3)) ((false, [], [], 1)) (cond (decide ((List.length x3 : Int) = 0)) ((false, [], [], 3)) (cond (decide ((List.length ((divN x2 ((gcdN x2 x3).1)).1) : Int) > 16)) ((false, [], [], 4)) (cond (decide ((List.length ((divN x3 ((gcdN x2 x3).1)).1) : Int) > 16)) ((false, [], [], 4)) (((((fromI a1 ((divN x2 ((gcdN x2 x3).1)).1)).1)), (fromI a1 ((divN x2 ((gcdN x2 x3).1)).1)).2, (divN x3 ((gcdN x2 x3).1)).1, 0))))))

theorem ref08_Make_spec {h : AH} {a2 : Sl} {x2 : List Nat} {a3 : Sl} {x3 : List Nat} (n2 : Nats h a2 x2) (n3 : Nats h a3 x3) (a1 : Bool) : Runs (go (.fn F.ref08_Make [.agg [.bool a1, a2.v], a3.v]) h) fun v h' => ∃ s1 : Sl, ∃ s2 : Sl, v = .tup [.agg [.bool (ref08_Make' a1 x2 x3).1, s1.v, s2.v], .int .i64 (ref08_Make' a1 x2 x3).2.2.2] ∧ Nats h' s1 ((ref08_Make' a1 x2 x3).2.1) ∧ Nats h' s2 ((ref08_Make' a1 x2 x3).2.2.1) ∧ Grow h h' ∧ Own h s1 ∧ Own h s2 := by
  rw [u_ref08_Make]
  rw [n3.len]
  refine Runs.new fun H4 b4 g4 => ?_
  refine Runs.new fun H5 b5 g5 => ?_
  refine Runs.step (AH.has.rd (g5.has b4) 0 rfl rfl) ?_
  refine Runs.step (AH.has.rd (g5.has b4) 1 rfl (asSl_v _)) ?_
  obtain ⟨H6, e6, g6⟩ := ref03_Right_spec (n2.grow (g4.trans g5)) a1
  refine Runs.step e6 ?_
  refine Runs.step (seen rfl) ?_
  have G7 := ((g4.trans g5).trans g6)
  have n3_8 := n3.grow G7
  refine Runs.step (ref01_Right_spec n3_8) ?_
  refine Runs.step (seen rfl) ?_
  refine Runs.cond (fun k10 => ?_) (fun k10 => ?_)
  · refine Runs.puts (g6.has b5) rfl fun H11 b11 u11 => ?_
    have n3_11 := n3_8.upda (Av.of_base n3 (Nat.le_trans (g4).size (Nat.le_refl _))) u11
    refine Runs.step (AH.has.rd b11 0 rfl rfl) ?_
    refine Runs.step (AH.has.rd b11 1 rfl (asSl_v _)) ?_
    refine Runs.step (AH.has.rd b11 2 rfl (asSl_v _)) ?_
    have z : ref08_Make' a1 x2 x3 = (false, [], [], 1) := by unfold ref08_Make'; exact (condT k10).trans rfl
    rw [z]
    have G12 := (G7.updr (Nat.le_trans (g4).size (Nat.le_refl _)) u11)
    exact Runs.ret ⟨(⟨none, 0, .is 0⟩ : Sl), (⟨none, 0, .is 0⟩ : Sl), rfl, (Nats.nil _), (Nats.nil _), G12, (Own.nil _), (Own.nil _)⟩
  · refine Runs.cond (fun k11 => ?_) (fun k11 => ?_)
    · refine Runs.puts (g6.has b5) rfl fun H12 b12 u12 => ?_
      have n3_12 := n3_8.upda (Av.of_base n3 (Nat.le_trans (g4).size (Nat.le_refl _))) u12
      refine Runs.step (AH.has.rd b12 0 rfl rfl) ?_
      refine Runs.step (AH.has.rd b12 1 rfl (asSl_v _)) ?_
      refine Runs.step (AH.has.rd b12 2 rfl (asSl_v _)) ?_
      have z : ref08_Make' a1 x2 x3 = (false, [], [], 1) := by unfold ref08_Make'; exact (condF k10).trans ((condT k11).trans rfl)
      rw [z]
      have G13 := (G7.updr (Nat.le_trans (g4).size (Nat.le_refl _)) u12)
      exact Runs.ret ⟨(⟨none, 0, .is 0⟩ : Sl), (⟨none, 0, .is 0⟩ : Sl), rfl, (Nats.nil _), (Nats.nil _), G13, (Own.nil _), (Own.nil _)⟩
    · refine Runs.cond (fun k12 => ?_) (fun k12 => ?_)
      · refine Runs.puts (g6.has b5) rfl fun H13 b13 u13 => ?_
        have n3_13 := n3_8.upda (Av.of_base n3 (Nat.le_trans (g4).size (Nat.le_refl _))) u13
        refine Runs.step (AH.has.rd b13 0 rfl rfl) ?_
        refine Runs.step (AH.has.rd b13 1 rfl (asSl_v _)) ?_
        refine Runs.step (AH.has.rd b13 2 rfl (asSl_v _)) ?_
        have z : ref08_Make' a1 x2 x3 = (false, [], [], 3) := by unfold ref08_Make'; exact (condF k10).trans ((condF k11).trans ((condT k12).trans rfl))
        rw [z]
        have G14 := (G7.updr (Nat.le_trans (g4).size (Nat.le_refl _)) u13)
        exact Runs.ret ⟨(⟨none, 0, .is 0⟩ : Sl), (⟨none, 0, .is 0⟩ : Sl), rfl, (Nats.nil _), (Nats.nil _), G14, (Own.nil _), (Own.nil _)⟩
      · refine Runs.step (AH.has.rd ((g5.trans g6).has b4) 1 rfl (asSl_v _)) ?_
        have n2_13 := n2.grow G7
        obtain ⟨_, H14, e14, s14, rfl, n14, g14, o14⟩ := ref03_Gcd_spec n2_13 n3_8
        refine Runs.step e14 ?_
        refine Runs.step rfl ?_
        refine Runs.step (seen (asSl_v _)) ?_
        refine Runs.step (seen (avInt_int _ _)) ?_
        have G15 := ((g5.trans g6).trans g14)
        have b4_16 := G15.has b4
        refine Runs.step (AH.has.rd b4_16 1 rfl (asSl_v _)) ?_
        obtain ⟨s17, s17b, H17, e17, n17, n17b, g17, o17, o17b⟩ := ref01_Div_spec (n2_13.grow g14) n14
        refine Runs.step e17 ?_
        refine Runs.step rfl ?_
        refine Runs.step (seen (asSl_v _)) ?_
        rw [n17.len]
        refine Runs.step (seen (asSl_v _)) ?_
        refine Runs.step (seen (avInt_int _ _)) ?_
        obtain ⟨s18, s18b, H18, e18, n18, n18b, g18, o18, o18b⟩ := ref01_Div_spec (n3_8.grow (g14.trans g17)) (n14.grow g17)
        refine Runs.step e18 ?_
        refine Runs.step rfl ?_
        refine Runs.step (seen (asSl_v _)) ?_
        rw [n18.len]
        refine Runs.step (seen (asSl_v _)) ?_
        refine Runs.step (seen (avInt_int _ _)) ?_
        refine Runs.cond (fun k19 => ?_) (fun k19 => ?_)
        · have G21 := (((g6.trans g14).trans g17).trans g18)
          have b5_22 := G21.has b5
          refine Runs.puts b5_22 rfl fun H20 b20 u20 => ?_
          have G23 := ((g14.trans g17).trans g18)
          have n2_24 := n2_13.grow G23
          have n2_20 := n2_24.upda (Av.of_base n2 (Nat.le_trans (g4).size (Nat.le_refl _))) u20
          have n3_25 := n3_8.grow G23
          have n3_20 := n3_25.upda (Av.of_base n3 (Nat.le_trans (g4).size (Nat.le_refl _))) u20
          have n14_20 := (n14.grow (g17.trans g18)).upda (Av.of_own o14 (g6.has b5).lt) u20
          have n17_20 := (n17.grow g18).upda (Av.of_own o17 ((g6.trans g14).has b5).lt) u20
          have n17b_20 := (n17b.grow g18).upda (Av.of_own o17b ((g6.trans g14).has b5).lt) u20
          have G26 := ((g6.trans g14).trans g17)
          have n18_20 := n18.upda (Av.of_own o18 (G26.has b5).lt) u20
          have n18b_20 := n18b.upda (Av.of_own o18b (G26.has b5).lt) u20
          have b4_20 := AH.has.updr ((g17.trans g18).has b4_16) (Nat.ne_of_lt (Nat.lt_of_lt_of_le (b4).lt (Nat.le_refl _))) u20
          refine Runs.step (AH.has.rd b20 0 rfl rfl) ?_
          refine Runs.step (AH.has.rd b20 1 rfl (asSl_v _)) ?_
          refine Runs.step (AH.has.rd b20 2 rfl (asSl_v _)) ?_
          have z : ref08_Make' a1 x2 x3 = (false, [], [], 4) := by unfold ref08_Make'; exact (condF k10).trans ((condF k11).trans ((condF k12).trans ((condT k19).trans rfl)))
          rw [z]
          have G27 := ((((G7.trans g14).trans g17).trans g18).updr (Nat.le_trans (g4).size (Nat.le_refl _)) u20)
          exact Runs.ret ⟨(⟨none, 0, .is 0⟩ : Sl), (⟨none, 0, .is 0⟩ : Sl), rfl, (Nats.nil _), (Nats.nil _), G27, (Own.nil _), (Own.nil _)⟩
        · refine Runs.cond (fun k20 => ?_) (fun k20 => ?_)
          · have G22 := (((g6.trans g14).trans g17).trans g18)
            have b5_23 := G22.has b5
            refine Runs.puts b5_23 rfl fun H21 b21 u21 => ?_
            have G24 := ((g14.trans g17).trans g18)
            have n2_25 := n2_13.grow G24
            have n2_21 := n2_25.upda (Av.of_base n2 (Nat.le_trans (g4).size (Nat.le_refl _))) u21
            have n3_26 := n3_8.grow G24
            have n3_21 := n3_26.upda (Av.of_base n3 (Nat.le_trans (g4).size (Nat.le_refl _))) u21
            have n14_21 := (n14.grow (g17.trans g18)).upda (Av.of_own o14 (g6.has b5).lt) u21
            have n17_21 := (n17.grow g18).upda (Av.of_own o17 ((g6.trans g14).has b5).lt) u21
            have n17b_21 := (n17b.grow g18).upda (Av.of_own o17b ((g6.trans g14).has b5).lt) u21
            have G27 := ((g6.trans g14).trans g17)
            have n18_21 := n18.upda (Av.of_own o18 (G27.has b5).lt) u21
            have n18b_21 := n18b.upda (Av.of_own o18b (G27.has b5).lt) u21
            have b4_21 := AH.has.updr ((g17.trans g18).has b4_16) (Nat.ne_of_lt (Nat.lt_of_lt_of_le (b4).lt (Nat.le_refl _))) u21
            refine Runs.step (AH.has.rd b21 0 rfl rfl) ?_
            refine Runs.step (AH.has.rd b21 1 rfl (asSl_v _)) ?_
            refine Runs.step (AH.has.rd b21 2 rfl (asSl_v _)) ?_
            have z : ref08_Make' a1 x2 x3 = (false, [], [], 4) := by unfold ref08_Make'; exact (condF k10).trans ((condF k11).trans ((condF k12).trans ((condF k19).trans ((condT k20).trans rfl))))
            rw [z]
            have G28 := ((((G7.trans g14).trans g17).trans g18).updr (Nat.le_trans (g4).size (Nat.le_refl _)) u21)
            exact Runs.ret ⟨(⟨none, 0, .is 0⟩ : Sl), (⟨none, 0, .is 0⟩ : Sl), rfl, (Nats.nil _), (Nats.nil _), G28, (Own.nil _), (Own.nil _)⟩
          · refine Runs.step (AH.has.rd ((g17.trans g18).has b4_16) 0 rfl rfl) ?_
            obtain ⟨s21, H21, e21, n21, g21, o21⟩ := ref03_From_spec (n17.grow g18) a1
            refine Runs.step e21 ?_
            refine Runs.step rfl ?_
            refine Runs.ifT rfl ?_
            refine Runs.step (seenAt rfl rfl) ?_
            refine Runs.step (seenAt rfl (asSl_v _)) ?_
            have G23 := ((((g6.trans g14).trans g17).trans g18).trans g21)
            have b5_24 := G23.has b5
            refine Runs.puts b5_24 rfl fun H22 b22 u22 => ?_
            have G25 := (((g14.trans g17).trans g18).trans g21)
            have n2_26 := n2_13.grow G25
            have n2_22 := n2_26.upda (Av.of_base n2 (Nat.le_trans (g4).size (Nat.le_refl _))) u22
            have n3_27 := n3_8.grow G25
            have n3_22 := n3_27.upda (Av.of_base n3 (Nat.le_trans (g4).size (Nat.le_refl _))) u22
            have G28 := ((g17.trans g18).trans g21)
            have n14_29 := n14.grow G28
            have n14_22 := n14_29.upda (Av.of_own o14 (g6.has b5).lt) u22
            have n17_22 := (n17.grow (g18.trans g21)).upda (Av.of_own o17 ((g6.trans g14).has b5).lt) u22
            have n17b_22 := (n17b.grow (g18.trans g21)).upda (Av.of_own o17b ((g6.trans g14).has b5).lt) u22
            have G30 := ((g6.trans g14).trans g17)
            have n18_22 := (n18.grow g21).upda (Av.of_own o18 (G30.has b5).lt) u22
            have n18b_22 := (n18b.grow g21).upda (Av.of_own o18b (G30.has b5).lt) u22
            have G31 := (G30.trans g18)
            have n21_22 := n21.upda (Av.of_own o21 (G31.has b5).lt) u22
            have b4_32 := G28.has b4_16
            have b4_22 := AH.has.updr b4_32 (Nat.ne_of_lt (Nat.lt_of_lt_of_le (b4).lt (Nat.le_refl _))) u22
            refine Runs.step (AH.has.rd b22 0 rfl rfl) ?_
            refine Runs.step (AH.has.rd b22 1 rfl (asSl_v _)) ?_
            refine Runs.step (AH.has.rd b22 2 rfl (asSl_v _)) ?_
            have z : ref08_Make' a1 x2 x3 = ((((fromI a1 ((divN x2 ((gcdN x2 x3).1)).1)).1)), (fromI a1 ((divN x2 ((gcdN x2 x3).1)).1)).2, (divN x3 ((gcdN x2 x3).1)).1, 0) := by unfold ref08_Make'; exact (condF k10).trans ((condF k11).trans ((condF k12).trans ((condF k19).trans ((condF k20).trans rfl))))
            rw [z]
            have G33 := (((G7.trans g14).trans g17).trans g18)
            have G34 := ((G7.trans g14).trans g17)
            have G35 := ((G33.trans g21).updr (Nat.le_trans (g4).size (Nat.le_refl _)) u22)
            exact Runs.ret ⟨s21, s18, rfl, n21_22, n18_22, G35, (o21.of_le G33), (o18.of_le G34)⟩

def rational_over' (a1 : Bool) (x2 : List Nat) (x3 : List Nat) (a4 : Bool) (x5 : List Nat) (x6 : List Nat) : Bool × List Nat :=
  (((((modint_Mul' a1 x2 ((fromI false x6).1) ((fromI false x6).2)).1))), (modint_Mul' a1 x2 ((fromI false x6).1) ((fromI false x6).2)).2.1)

theorem rational_over_spec {h : AH} {a2 : Sl} {x2 : List Nat} {a3 : Sl} {x3 : List Nat} {a5 : Sl} {x5 : List Nat} {a6 : Sl} {x6 : List Nat} (n2 : Nats h a2 x2) (n3 : Nats h a3 x3) (n5 : Nats h a5 x5) (n6 : Nats h a6 x6) (a1 : Bool) (a4 : Bool) : Runs (go (.fn F.rational_over [.agg [.bool a1, a2.v, a3.v], .agg [.bool a4, a5.v, a6.v]]) h) fun v h' => ∃ s1 : Sl, v = .agg [.bool (rational_over' a1 x2 x3 a4 x5 x6).1, s1.v] ∧ Nats h' s1 ((rational_over' a1 x2 x3 a4 x5 x6).2) ∧ Grow h h' ∧ Own h s1 := by
  rw [u_rational_over]
  refine Runs.new fun H7 b7 g7 => ?_
  refine Runs.new fun H8 b8 g8 => ?_
  refine Runs.new fun H9 b9 g9 => ?_
  refine Runs.new fun H10 b10 g10 => ?_
  have G11 := ((g8.trans g9).trans g10)
  have b7_12 := G11.has b7
  refine Runs.step (AH.has.rd b7_12 0 rfl rfl) ?_
  refine Runs.step (AH.has.rd b7_12 1 rfl (asSl_v _)) ?_
  refine Runs.step (AH.has.rd ((g9.trans g10).has b8) 2 rfl (asSl_v _)) ?_
  have G13 := (((g7.trans g8).trans g9).trans g10)
  have n6_14 := n6.grow G13
  obtain ⟨s15, H15, e15, n15, g15, o15⟩ := modint_From_spec n6_14 false
  refine Runs.step e15 ?_
  refine Runs.step rfl ?_
  refine Runs.ifT rfl ?_
  refine Runs.step (seenAt rfl rfl) ?_
  refine Runs.step (seenAt rfl (asSl_v _)) ?_
  refine Runs.when (g15.same b7_12 0 2) ?_
  refine Runs.when (g15.same b10 0 0) ?_
  have G16 := (G13.trans g15)
  have n2_17 := n2.grow G16
  obtain ⟨_, H18, e18, s18, rfl, n18, g18, o18⟩ := modint_Mul_spec n2_17 n15 a1 ((fromI false x6).1)
  refine Runs.step e18 ?_
  refine Runs.step rfl ?_
  refine Runs.step rfl ?_
  refine Runs.ifT rfl ?_
  refine Runs.step (seenAt rfl rfl) ?_
  refine Runs.step (seenAt rfl (asSl_v _)) ?_
  refine Runs.step (seen (avInt_int _ _)) ?_
  refine Runs.when (g18.same (g15.has b10) 0 0) ?_
  refine Runs.puts ((g15.trans g18).has b10) rfl fun H19 b19 u19 => ?_
  have G20 := ((g7.trans g8).trans g9)
  have n2_19 := (n2_17.grow g18).upda (Av.of_base n2 (Nat.le_trans (G20).size (Nat.le_refl _))) u19
  have n6_19 := (n6_14.grow (g15.trans g18)).upda (Av.of_base n6 (Nat.le_trans (G20).size (Nat.le_refl _))) u19
  have n15_19 := (n15.grow g18).upda (Av.of_own o15 (b10).lt) u19
  have n18_19 := n18.upda (Av.of_own o18 (g15.has b10).lt) u19
  have b7_19 := AH.has.updr ((g15.trans g18).has b7_12) (Nat.ne_of_lt (Nat.lt_of_lt_of_le ((g8.trans g9).has b7).lt (Nat.le_refl _))) u19
  refine Runs.step (AH.has.rd b19 0 rfl rfl) ?_
  refine Runs.step (AH.has.rd b19 1 rfl (asSl_v _)) ?_
  have G22 := (((g10.trans g15).trans g18).updr (Nat.le_refl _) u19)
  have b9_23 := G22.has b9
  refine Runs.puts b9_23 rfl fun H21 b21 u21 => ?_
  have n2_21 := n2_19.upda (Av.of_base n2 (Nat.le_trans ((g7.trans g8)).size (Nat.le_refl _))) u21
  have n6_21 := n6_19.upda (Av.of_base n6 (Nat.le_trans ((g7.trans g8)).size (Nat.le_refl _))) u21
  have n15_21 := n15_19.upda (Av.of_own o15 (g10.has b9).lt) u21
  have n18_21 := n18_19.upda (Av.of_own o18 ((g10.trans g15).has b9).lt) u21
  have b7_21 := AH.has.updr b7_19 (Nat.ne_of_lt (Nat.lt_of_lt_of_le (g8.has b7).lt (Nat.le_refl _))) u21
  have b19_21 := AH.has.updr b19 (Nat.ne_of_gt (Nat.lt_of_lt_of_le (b9).lt (Nat.le_refl _))) u21
  refine Runs.step (AH.has.rd b21 0 rfl rfl) ?_
  refine Runs.step (AH.has.rd b21 1 rfl (asSl_v _)) ?_
  have z : rational_over' a1 x2 x3 a4 x5 x6 = (((((modint_Mul' a1 x2 ((fromI false x6).1) ((fromI false x6).2)).1))), (modint_Mul' a1 x2 ((fromI false x6).1) ((fromI false x6).2)).2.1) := by unfold rational_over'; exact rfl
  rw [z]
  have G24 := (((G16.trans g18).updr (Nat.le_trans (G20).size (Nat.le_refl _)) u19).updr (Nat.le_trans ((g7.trans g8)).size (Nat.le_refl _)) u21)
  exact Runs.ret ⟨s18, rfl, n18_21, G24, (o18.of_le G16)⟩

def ref08_over' (a1 : Bool) (x2 : List Nat) (x3 : List Nat) (a4 : Bool) (x5 : List Nat) (x6 : List Nat) : Bool × List Nat :=
  (((((modint_Mul' a1 x2 ((fromI false x6).1) ((fromI false x6).2)).1))), (modint_Mul' a1 x2 ((fromI false x6).1) ((fromI false x6).2)).2.1)

theorem ref08_over_spec {h : AH} {a2 : Sl} {x2 : List Nat} {a3 : Sl} {x3 : List Nat} {a5 : Sl} {x5 : List Nat} {a6 : Sl} {x6 : List Nat} (n2 : Nats h a2 x2) (n3 : Nats h a3 x3) (n5 : Nats h a5 x5) (n6 : Nats h a6 x6) (a1 : Bool) (a4 : Bool) : Runs (go (.fn F.ref08_over [.agg [.bool a1, a2.v, a3.v], .agg [.bool a4, a5.v, a6.v]]) h) fun v h' => ∃ s1 : Sl, v = .agg [.bool (ref08_over' a1 x2 x3 a4 x5 x6).1, s1.v] ∧ Nats h' s1 ((ref08_over' a1 x2 x3 a4 x5 x6).2) ∧ Grow h h' ∧ Own h s1 := by
  rw [u_ref08_over]
  refine Runs.new fun H7 b7 g7 => ?_
  refine Runs.new fun H8 b8 g8 => ?_
  refine Runs.new fun H9 b9 g9 => ?_
  refine Runs.new fun H10 b10 g10 => ?_
  have G11 := ((g8.trans g9).trans g10)
  have b7_12 := G11.has b7
  refine Runs.step (AH.has.rd b7_12 0 rfl rfl) ?_
  refine Runs.step (AH.has.rd b7_12 1 rfl (asSl_v _)) ?_
  refine Runs.step (AH.has.rd ((g9.trans g10).has b8) 2 rfl (asSl_v _)) ?_
  have G13 := (((g7.trans g8).trans g9).trans g10)
  have n6_14 := n6.grow G13
  obtain ⟨s15, H15, e15, n15, g15, o15⟩ := ref03_From_spec n6_14 false
  refine Runs.step e15 ?_
  refine Runs.step rfl ?_
  refine Runs.ifT rfl ?_
  refine Runs.step (seenAt rfl rfl) ?_
  refine Runs.step (seenAt rfl (asSl_v _)) ?_
  refine Runs.when (g15.same b7_12 0 2) ?_
  refine Runs.when (g15.same b10 0 0) ?_
  have G16 := (G13.trans g15)
  have n2_17 := n2.grow G16
  obtain ⟨_, H18, e18, s18, rfl, n18, g18, o18⟩ := ref03_Mul_is n2_17 n15 a1 ((fromI false x6).1)
  refine Runs.step e18 ?_
  refine Runs.step rfl ?_
  refine Runs.step rfl ?_
  refine Runs.ifT rfl ?_
  refine Runs.step (seenAt rfl rfl) ?_
  refine Runs.step (seenAt rfl (asSl_v _)) ?_
  refine Runs.step (seen (avInt_int _ _)) ?_
  refine Runs.when (g18.same (g15.has b10) 0 0) ?_
  refine Runs.puts ((g15.trans g18).has b10) rfl fun H19 b19 u19 => ?_
  have G20 := ((g7.trans g8).trans g9)
  have n2_19 := (n2_17.grow g18).upda (Av.of_base n2 (Nat.le_trans (G20).size (Nat.le_refl _))) u19
  have n6_19 := (n6_14.grow (g15.trans g18)).upda (Av.of_base n6 (Nat.le_trans (G20).size (Nat.le_refl _))) u19
  have n15_19 := (n15.grow g18).upda (Av.of_own o15 (b10).lt) u19
  have n18_19 := n18.upda (Av.of_own o18 (g15.has b10).lt) u19
  have b7_19 := AH.has.updr ((g15.trans g18).has b7_12) (Nat.ne_of_lt (Nat.lt_of_lt_of_le ((g8.trans g9).has b7).lt (Nat.le_refl _))) u19
  refine Runs.step (AH.has.rd b19 0 rfl rfl) ?_
  refine Runs.step (AH.has.rd b19 1 rfl (asSl_v _)) ?_
  have G22 := (((g10.trans g15).trans g18).updr (Nat.le_refl _) u19)
  have b9_23 := G22.has b9
  refine Runs.puts b9_23 rfl fun H21 b21 u21 => ?_
  have n2_21 := n2_19.upda (Av.of_base n2 (Nat.le_trans ((g7.trans g8)).size (Nat.le_refl _))) u21
  have n6_21 := n6_19.upda (Av.of_base n6 (Nat.le_trans ((g7.trans g8)).size (Nat.le_refl _))) u21
  have n15_21 := n15_19.upda (Av.of_own o15 (g10.has b9).lt) u21
  have n18_21 := n18_19.upda (Av.of_own o18 ((g10.trans g15).has b9).lt) u21
  have b7_21 := AH.has.updr b7_19 (Nat.ne_of_lt (Nat.lt_of_lt_of_le (g8.has b7).lt (Nat.le_refl _))) u21
  have b19_21 := AH.has.updr b19 (Nat.ne_of_gt (Nat.lt_of_lt_of_le (b9).lt (Nat.le_refl _))) u21
  refine Runs.step (AH.has.rd b21 0 rfl rfl) ?_
  refine Runs.step (AH.has.rd b21 1 rfl (asSl_v _)) ?_
  have z : ref08_over' a1 x2 x3 a4 x5 x6 = (((((modint_Mul' a1 x2 ((fromI false x6).1) ((fromI false x6).2)).1))), (modint_Mul' a1 x2 ((fromI false x6).1) ((fromI false x6).2)).2.1) := by unfold ref08_over'; exact rfl
  rw [z]
  have G24 := (((G16.trans g18).updr (Nat.le_trans (G20).size (Nat.le_refl _)) u19).updr (Nat.le_trans ((g7.trans g8)).size (Nat.le_refl _)) u21)
  exact Runs.ret ⟨s18, rfl, n18_21, G24, (o18.of_le G16)⟩

theorem ref08_Right_eq : ref08_Right' = rational_Right' := rfl

theorem ref08_Right_is {h : AH} {a2 : Sl} {x2 : List Nat} {a3 : Sl} {x3 : List Nat} (n2 : Nats h a2 x2) (n3 : Nats h a3 x3) (a1 : Bool) : Runs (go (.fn F.ref08_Right [.agg [.bool a1, a2.v, a3.v]]) h) fun v h' => v = .bool (rational_Right' a1 x2 x3) ∧ Grow h h' := by
  rw [← ref08_Right_eq]
  exact ref08_Right_spec n2 n3 a1

theorem ref08_over_eq : ref08_over' = rational_over' := rfl

theorem ref08_over_is {h : AH} {a2 : Sl} {x2 : List Nat} {a3 : Sl} {x3 : List Nat} {a5 : Sl} {x5 : List Nat} {a6 : Sl} {x6 : List Nat} (n2 : Nats h a2 x2) (n3 : Nats h a3 x3) (n5 : Nats h a5 x5) (n6 : Nats h a6 x6) (a1 : Bool) (a4 : Bool) : Runs (go (.fn F.ref08_over [.agg [.bool a1, a2.v, a3.v], .agg [.bool a4, a5.v, a6.v]]) h) fun v h' => ∃ s1 : Sl, v = .agg [.bool (rational_over' a1 x2 x3 a4 x5 x6).1, s1.v] ∧ Nats h' s1 ((rational_over' a1 x2 x3 a4 x5 x6).2) ∧ Grow h h' ∧ Own h s1 := by
  rw [← ref08_over_eq]
  exact ref08_over_spec n2 n3 n5 n6 a1 a4

theorem ref08_Make_eq : ref08_Make' = rational_Make' := by
  funext p xs ys
  unfold ref08_Make' rational_Make'
  congr 3
  generalize ((divN xs (gcdN xs ys).fst).fst.length : Int) = u
  generalize ((divN ys (gcdN xs ys).fst).fst.length : Int) = v
  generalize (fromI p (divN xs (gcdN xs ys).fst).fst) = w
  have k : decide (imax u v > 16) = (decide (u > 16) || decide (v > 16)) := by
    rw [imax_eq, Bool.eq_iff_iff]
    simp only [Bool.or_eq_true, decide_eq_true_eq]
    omega
  rw [k]
  cases decide (u > 16) <;> cases decide (v > 16) <;> rfl

theorem ref08_Make_is {h : AH} {a2 : Sl} {x2 : List Nat} {a3 : Sl} {x3 : List Nat} (n2 : Nats h a2 x2) (n3 : Nats h a3 x3) (a1 : Bool) : Runs (go (.fn F.ref08_Make [.agg [.bool a1, a2.v], a3.v]) h) fun v h' => ∃ s1 : Sl, ∃ s2 : Sl, v = .tup [.agg [.bool (rational_Make' a1 x2 x3).1, s1.v, s2.v], .int .i64 (rational_Make' a1 x2 x3).2.2.2] ∧ Nats h' s1 ((rational_Make' a1 x2 x3).2.1) ∧ Nats h' s2 ((rational_Make' a1 x2 x3).2.2.1) ∧ Grow h h' ∧ Own h s1 ∧ Own h s2 := by
  rw [← ref08_Make_eq]
  exact ref08_Make_spec n2 n3 a1

end Go.Ab

/- Layer 8: fractions in rows; right. -/
set_option linter.unusedVariables false
set_option linter.unusedSimpArgs false
set_option maxRecDepth 10000
namespace Go.Ab
open Go.Proofs Go.Num

abbrev FRow := Bool × (Sl × List Nat) × (Sl × List Nat)

/-- Fractions in rows. -/
structure FRows (h : AH) (s : Sl) (rows : List FRow) : Prop where
  cells : Cells h s 3 (rows.flatMap fun p => [.bool p.1, p.2.1.1.v, p.2.2.1.v])
  num : ∀ p ∈ rows, Nats h p.2.1.1 p.2.1.2
  den : ∀ p ∈ rows, Nats h p.2.2.1 p.2.2.2
  short : rows.length ≤ 9223372036854775807

theorem FRows.grow {h h' : AH} (g : Grow h h') {s : Sl} {rows : List FRow} (n : FRows h s rows) : FRows h' s rows := ⟨n.cells.grow g, fun p hp => (n.num p hp).grow g, fun p hp => (n.den p hp).grow g, n.short⟩

theorem triples_get : ∀ (rows : List FRow) (i : Nat) (hi : i < rows.length),
    (rows.flatMap fun p => [AV.bool p.1, p.2.1.1.v, p.2.2.1.v])[i * 3]? = some (AV.bool rows[i].1) ∧ (rows.flatMap fun p => [AV.bool p.1, p.2.1.1.v, p.2.2.1.v])[i * 3 + 1]? = some rows[i].2.1.1.v ∧ (rows.flatMap fun p => [AV.bool p.1, p.2.1.1.v, p.2.2.1.v])[i * 3 + 2]? = some rows[i].2.2.1.v
  | [], i, hi => by simp at hi
  | p :: rows, 0, hi => by simp
  | p :: rows, i + 1, hi => by
    have := triples_get rows i (by simpa using hi)
    rw [show (i + 1) * 3 = i * 3 + 3 from by omega]
    simpa using this

theorem FRows.len {h : AH} {s : Sl} {rows : List FRow} (n : FRows h s rows) : s.len = rows.length := by
  have := n.cells.len
  have hl : (rows.flatMap fun p => [AV.bool p.1, p.2.1.1.v, p.2.2.1.v]).length = rows.length * 3 := by
    generalize rows = l
    induction l with
    | nil => rfl
    | cons a l ih => rw [List.flatMap_cons, List.length_append, ih]; simp; omega
  omega

theorem FRows.at {h : AH} {s : Sl} {rows : List FRow} (n : FRows h s rows) {i : Nat} (hi : i < rows.length) : ∃ r, idx s.ref s.len (i : Int) 3 = some r ∧ h.cell (r.add 0) = some (.bool rows[i].1) ∧ h.cell (r.add 1) = some rows[i].2.1.1.v ∧ h.cell (r.add 2) = some rows[i].2.2.1.v := by
  obtain ⟨p1, p2, p3⟩ := triples_get rows i hi
  obtain ⟨r, e1, e2⟩ := n.cells.get _ _ p1
  obtain ⟨r', e3, e4⟩ := n.cells.get _ _ p2
  obtain ⟨r'', e5, e6⟩ := n.cells.get _ _ p3
  rw [e1] at e3 e5
  cases e3
  cases e5
  refine ⟨r.add (i * 3), ?_, by simpa using e2, by rw [Ref.add_add]; exact e4, by rw [Ref.add_add]; exact e6⟩
  rw [e1, idx_some _ _ _ _ (by omega) (by rw [n.len]; omega)]
  simp

/-- One fraction in a new block. -/
theorem FRows.one {h : AH} {i : Nat} {a a' : Sl} {xs xs' : List Nat} {p : Bool} (c : h.has i [.bool p, a.v, a'.v] T.api_Frac) (n : Nats h a xs) (n' : Nats h a' xs') : FRows h ⟨some (.new i 0), 1, .is 1⟩ [(p, (a, xs), (a', xs'))] := ⟨Cells.of_has c rfl, fun r hr => by
    simp at hr
    subst hr
    exact n, fun r hr => by
    simp at hr
    subst hr
    exact n', by simp⟩

/-- Two of them. -/
theorem FRows.two {h : AH} {i : Nat} {a a' b b' : Sl} {xs xs' ys ys' : List Nat} {p q : Bool} (c : h.has i [.bool p, a.v, a'.v, .bool q, b.v, b'.v] T.api_Frac) (n : Nats h a xs) (n' : Nats h a' xs') (m : Nats h b ys) (m' : Nats h b' ys') :
    FRows h ⟨some (.new i 0), 2, .is 2⟩ [(p, (a, xs), (a', xs')), (q, (b, ys), (b', ys'))] := ⟨Cells.of_has c rfl, fun r hr => by
    simp at hr
    rcases hr with rfl | rfl
    · exact n
    · exact m, fun r hr => by
    simp at hr
    rcases hr with rfl | rfl
    · exact n'
    · exact m', by simp⟩

theorem rational_right_1_spec {h : AH} {s t : Sl} {xs ys : List Nat} (n : Nats h s xs) (m : Nats h t ys) (neg : Bool) : ∃ h', go (.fn F.rational_right_1 [.agg [.bool neg, s.v, t.v]]) h = some (.bool (!rational_Right' neg xs ys), h') ∧ Grow h h' := by
  rw [u_rational_right_1]
  simp only [newK_eq]
  have b0 := AH.has_push h [.bool neg, s.v, t.v] T.api_Frac
  have g0 := Grow.push h (.cells [.bool neg, s.v, t.v] T.api_Frac)
  generalize h.push (.cells [.bool neg, s.v, t.v] T.api_Frac) = h0 at *
  obtain ⟨_, h1, e1, rfl, g1⟩ := rational_Right_spec (n.grow g0) (m.grow g0) neg
  exact ⟨h1, by simp [b0.cell, e1], g0.trans g1⟩

theorem rational_right_loop {s : Sl} {rows : List FRow} : ∀ (k i : Nat), i + k = rows.length → ∀ {h : AH}, FRows h s rows →
    ∃ (j : Int) (h' : AH), go (.pt F.slices_IndexFunc_api_Frac_api_Frac Td.slices_IndexFunc_api_Frac_api_Frac_2 [(0, s.v), (1, .func (.func F.rational_right_1) [] []), (7, .int .i64 (rows.length : Int)), (8, .int .i64 (i : Int))]) h = some (.int .i64 j, h') ∧
      (j ≥ 0 ↔ (rows.drop i).all (fun p => rational_Right' p.1 p.2.1.2 p.2.2.2) = false) ∧ Grow h h'
  | 0, i, hi, h, n => by
    rw [p_slices_IndexFunc_api_Frac_api_Frac_2__rational_right_1, show decide ((i : Int) < (rows.length : Int)) = false from by rw [decide_eq_false_iff_not]; omega, List.drop_of_length_le (by omega)]
    exact ⟨-1, h, rfl, by simp, Grow.refl h⟩
  | k + 1, i, hi, h, n => by
    have hs := n.short
    obtain ⟨r, e1, e2, e3, e3'⟩ := n.at (i := i) (by omega)
    have hp := n.num rows[i] (List.getElem_mem _)
    have hq := n.den rows[i] (List.getElem_mem _)
    obtain ⟨h1, e4, g1⟩ := rational_right_1_spec hp hq rows[i].1
    rw [p_slices_IndexFunc_api_Frac_api_Frac_2__rational_right_1, show decide ((i : Int) < (rows.length : Int)) = true from by rw [decide_eq_true_eq]; omega, cond_true, e1]
    simp only [Option.bind_some, e2, e3, e3', asSl_v, asBool_bool, e4]
    rw [List.drop_eq_getElem_cons (by omega), List.all_cons, wrap_succ (by omega)]
    cases hr : rational_Right' rows[i].1 (rows[i].2.1.2) (rows[i].2.2.2) with
    | false => exact ⟨(i : Int), h1, rfl, by simp, g1⟩
    | true =>
      obtain ⟨j, h2, e5, e6, g2⟩ := rational_right_loop k (i + 1) (by omega) (n.grow g1)
      exact ⟨j, h2, e5, by simpa using e6, g1.trans g2⟩

theorem rational_right_spec {h : AH} {s : Sl} {rows : List FRow} (n : FRows h s rows) : ∃ h', go (.fn F.rational_right [s.v]) h = some (.bool (rows.all fun p => rational_Right' p.1 p.2.1.2 p.2.2.2), h') ∧ Grow h h' := by
  obtain ⟨j, h', e1, e2, g⟩ := rational_right_loop rows.length 0 (by omega) n
  refine ⟨h', ?_, g⟩
  rw [u_rational_right, u_slices_ContainsFunc_api_Frac_api_Frac__rational_right_1, u_slices_IndexFunc_api_Frac_api_Frac__rational_right_1, n.len]
  rw [show (0 : Int) = ((0 : Nat) : Int) from rfl, e1]
  simp only [Option.bind_some, avInt_int, asBool_bool]
  rw [List.drop_zero] at e2
  cases ha : rows.all fun p => rational_Right' p.1 p.2.1.2 p.2.2.2 with
  | false => rw [ha] at e2; simp at e2; simp; omega
  | true => rw [ha] at e2; simp at e2; simp; omega

theorem rational_right2_spec {h : AH} {i : Nat} {a a' b b' : Sl} {xs xs' ys ys' : List Nat} {p q : Bool} (c : h.has i [.bool p, a.v, a'.v, .bool q, b.v, b'.v] T.api_Frac) (n : Nats h a xs) (n' : Nats h a' xs') (m : Nats h b ys) (m' : Nats h b' ys') :
    ∃ h', go (.fn F.rational_right [(⟨some (.new i 0), 2, .is 2⟩ : Sl).v]) h = some (.bool (rational_Right' p xs xs' && rational_Right' q ys ys'), h') ∧ Grow h h' := by
  obtain ⟨h', e, g⟩ := rational_right_spec (FRows.two c n n' m m')
  exact ⟨h', by rw [e]; simp, g⟩

/-- Not too long for a test. -/
def fewF (xs ys : List Nat) : Bool := decide (xs.length ≤ 20) && decide (ys.length ≤ 20)

theorem few08_loop {h : AH} {s : Sl} {rows : List FRow} (n : FRows h s rows) : ∀ (k i : Nat), i + k = rows.length →
    go (.pt F.law08_few Td.law08_few_2 [(0, s.v), (3, .int .i64 (i : Int))]) h = some (.bool ((rows.drop i).all fun p => fewF p.2.1.2 p.2.2.2), h)
  | 0, i, hi => by
    rw [p_law08_few_2, n.len, show decide ((i : Int) < (rows.length : Int)) = false from by rw [decide_eq_false_iff_not]; omega, List.drop_of_length_le (by omega)]
    rfl
  | k + 1, i, hi => by
    have hs := n.short
    obtain ⟨r, e1, e2, e3, e4⟩ := n.at (i := i) (by omega)
    have hp := n.num rows[i] (List.getElem_mem _)
    have hq := n.den rows[i] (List.getElem_mem _)
    rw [p_law08_few_2, show decide ((i : Int) < (s.len : Int)) = true from by rw [decide_eq_true_eq, n.len]; omega, cond_true, e1]
    simp only [Option.bind_some, Ref.add_add, Nat.zero_add, e3, e4, asSl_v]
    rw [List.drop_eq_getElem_cons (by omega), List.all_cons, wrap_succ (by omega), few08_loop n k (i + 1) (by omega), hp.len, hq.len]
    unfold fewF
    by_cases h1 : (rows[i].2.1.2).length ≤ 20
    · rw [show decide (((rows[i].2.1.2).length : Int) > 20) = false from by rw [decide_eq_false_iff_not]; omega]
      by_cases h2 : (rows[i].2.2.2).length ≤ 20
      · rw [show decide (((rows[i].2.2.2).length : Int) > 20) = false from by rw [decide_eq_false_iff_not]; omega]
        simp [h1, h2]
      · rw [show decide (((rows[i].2.2.2).length : Int) > 20) = true from by rw [decide_eq_true_eq]; omega]
        simp [h1, h2]
    · rw [show decide (((rows[i].2.1.2).length : Int) > 20) = true from by rw [decide_eq_true_eq]; omega]
      simp [h1]

theorem few08_spec {h : AH} {s : Sl} {rows : List FRow} (n : FRows h s rows) : go (.fn F.law08_few [s.v]) h = some (.bool (rows.all fun p => fewF p.2.1.2 p.2.2.2), h) := by
  rw [u_law08_few]
  exact few08_loop n rows.length 0 (by omega)

theorem few08_1 {h : AH} {i : Nat} {a a' : Sl} {xs xs' : List Nat} {p : Bool} (c : h.has i [.bool p, a.v, a'.v] T.api_Frac) (n : Nats h a xs) (n' : Nats h a' xs') : go (.fn F.law08_few [(⟨some (.new i 0), 1, .is 1⟩ : Sl).v]) h = some (.bool (fewF xs xs'), h) := by
  rw [few08_spec (FRows.one c n n')]
  simp

theorem few08_2 {h : AH} {i : Nat} {a a' b b' : Sl} {xs xs' ys ys' : List Nat} {p q : Bool} (c : h.has i [.bool p, a.v, a'.v, .bool q, b.v, b'.v] T.api_Frac) (n : Nats h a xs) (n' : Nats h a' xs') (m : Nats h b ys) (m' : Nats h b' ys') :
    go (.fn F.law08_few [(⟨some (.new i 0), 2, .is 2⟩ : Sl).v]) h = some (.bool (fewF xs xs' && fewF ys ys'), h) := by
  rw [few08_spec (FRows.two c n n' m m')]
  simp

end Go.Ab
