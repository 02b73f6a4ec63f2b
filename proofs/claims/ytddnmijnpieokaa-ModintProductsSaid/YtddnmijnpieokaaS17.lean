/- Layer 1: the school product: printed by wip/tools/walk.py. -/
import Derived.Test.YtddnmijnpieokaaS17a
set_option linter.unusedVariables false
set_option linter.unusedSimpArgs false
set_option maxRecDepth 10000
namespace Go.Ab
open Go.Proofs Go.Num

inductive nat_school_St
  | fn (x1 : List Nat) (x2 : List Nat)
  | p3 (x1 : List Nat) (x2 : List Nat) (x3 : List Nat) (a4 : Int) (a5 : Int)
  | p7 (x1 : List Nat) (x2 : List Nat) (a3 : Int) (a4 : Int) (a5 : Int) (x6 : List Nat) (a7 : Int) (a8 : Int) (x9 : List Nat) (a10 : Int) (a11 : Int)

abbrev nat_school_Res := List Nat

def nat_school_fn' (x1 : List Nat) (x2 : List Nat) : Option (nat_school_St ⊕ nat_school_Res) :=
  (mkI (IntKind.wrap .i64 ((List.length x1 : Int) + (List.length x2 : Int))) (IntKind.wrap .i64 ((List.length x1 : Int) + (List.length x2 : Int)))).bind fun m1 => some (.inl (.p3 x2 (List.replicate m1 0) x1 (List.length x1 : Int) 0))

def nat_school_p3' (x1 : List Nat) (x2 : List Nat) (x3 : List Nat) (a4 : Int) (a5 : Int) : Option (nat_school_St ⊕ nat_school_Res) :=
  cond (decide (a5 < a4)) ((atI x3 a5).bind fun y2 => some (.inl (.p7 x1 x2 a5 ((y2 : Int)) 0 x3 a4 a5 x1 (List.length x1 : Int) 0))) (some (.inr (digs B (num B x2))))

def nat_school_p7' (x1 : List Nat) (x2 : List Nat) (a3 : Int) (a4 : Int) (a5 : Int) (x6 : List Nat) (a7 : Int) (a8 : Int) (x9 : List Nat) (a10 : Int) (a11 : Int) : Option (nat_school_St ⊕ nat_school_Res) :=
  cond (decide (a11 < a10)) ((atI x9 a11).bind fun y2 => (inI (List.length x2) (IntKind.wrap .i64 (a3 + a11))).bind fun j4 => (add64P ((mul64 a4 ((y2 : Int))).2) (((List.getD x2 j4 0 : Nat) : Int)) 0).bind fun p5 => (add64P (p5.1) a5 0).bind fun p6 => (inI (List.length x2) (IntKind.wrap .i64 (a3 + a11))).bind fun j7 => (u64P (p6.1)).bind fun w8 => some (.inl (.p7 x1 (List.set x2 j7 w8) a3 a4 (IntKind.wrap .u64 ((IntKind.wrap .u64 (((mul64 a4 ((y2 : Int))).1) + (p5.2))) + (p6.2))) x6 a7 a8 x9 a10 (IntKind.wrap .i64 (a11 + 1))))) ((inI (List.length x2) (IntKind.wrap .i64 (a3 + (List.length x1 : Int)))).bind fun j2 => (u64P a5).bind fun w3 => some (.inl (.p3 x1 (List.set x2 j2 w3) x6 a7 (IntKind.wrap .i64 (a8 + 1)))))

def nat_school_step : nat_school_St → Option (nat_school_St ⊕ nat_school_Res)
  | .fn x1 x2 => nat_school_fn' x1 x2
  | .p3 x1 x2 x3 a4 a5 => nat_school_p3' x1 x2 x3 a4 a5
  | .p7 x1 x2 a3 a4 a5 x6 a7 a8 x9 a10 a11 => nat_school_p7' x1 x2 a3 a4 a5 x6 a7 a8 x9 a10 a11

@[reducible] def nat_school_post (h0 : AH) (r : nat_school_Res) (v : AV) (h' : AH) : Prop := ∃ s1 : Sl, v = s1.v ∧ Nats h' s1 r ∧ Grow h0 h' ∧ Own h0 s1

def nat_school_At (r : nat_school_Res) : nat_school_St → Prop
  | .fn x1 x2 => ∀ {h : AH} {a1 : Sl} {a2 : Sl}, Nats h a1 x1 → Nats h a2 x2 → Runs (go (.fn F.nat_school [a1.v, a2.v]) h) (nat_school_post h r)
  | .p3 x1 x2 x3 a4 a5 => ∀ {h0 h : AH} {a1 : Sl} {a2 : Sl} {a3 : Sl} {i2 : Nat}, Grow h0 h → Nats h a1 x1 → Vec h a2 i2 x2 → Nats h a3 x3 → h0.blks.size ≤ i2 → Av a1 i2 x1 → Av a3 i2 x3 → Runs (go (.pt F.nat_school Td.nat_school_3 [(1, a1.v), (5, a2.v), (20, a3.v), (21, .int .i64 a4), (22, .int .i64 a5)]) h) (nat_school_post h0 r)
  | .p7 x1 x2 a3 a4 a5 x6 a7 a8 x9 a10 a11 => ∀ {h0 h : AH} {a1 : Sl} {a2 : Sl} {a6 : Sl} {a9 : Sl} {i2 : Nat}, Grow h0 h → Nats h a1 x1 → Vec h a2 i2 x2 → Nats h a6 x6 → Nats h a9 x9 → h0.blks.size ≤ i2 → Av a1 i2 x1 → Av a6 i2 x6 → Av a9 i2 x9 → Runs (go (.pt F.nat_school Td.nat_school_7 [(1, a1.v), (5, a2.v), (6, .int .i64 a3), (7, .int .u64 a4), (8, .int .u64 a5), (20, a6.v), (21, .int .i64 a7), (22, .int .i64 a8), (27, a9.v), (28, .int .i64 a10), (29, .int .i64 a11)]) h) (nat_school_post h0 r)

theorem nat_school_fn_walk {r : nat_school_Res} {o : nat_school_St ⊕ nat_school_Res} {x1 : List Nat} {x2 : List Nat} (e : nat_school_fn' x1 x2 = some o) (good : GoodS (nat_school_At r) r o) : nat_school_At r (.fn x1 x2) := by
  intro h a1 a2 n1 n2
  rw [u_nat_school]
  unfold nat_school_fn' at e
  rw [n1.len]
  rw [n2.len]
  obtain ⟨m1, q1, e⟩ := Option.bind_eq_some_iff.1 e
  refine Runs.mk q1 bytes_uint64 fun s1 H1 v1 g1 => ?_
  cases e
  exact good g1 (n2.grow g1) v1 (n1.grow g1) (Nat.le_refl _) (Av.of_base n2 (Nat.le_refl _)) (Av.of_base n1 (Nat.le_refl _))

theorem nat_school_p3_walk {r : nat_school_Res} {o : nat_school_St ⊕ nat_school_Res} {x1 : List Nat} {x2 : List Nat} {x3 : List Nat} {a4 : Int} {a5 : Int} (e : nat_school_p3' x1 x2 x3 a4 a5 = some o) (good : GoodS (nat_school_At r) r o) : nat_school_At r (.p3 x1 x2 x3 a4 a5) := by
  intro h0 h a1 a2 a3 i2 g0 n1 v2 n3 hi2 av1_2 av3_2
  rw [p_nat_school_3]
  unfold nat_school_p3' at e
  rw [n1.len]
  rw [n3.len]
  refine Runs.cond (fun k1 => ?_) (fun k1 => ?_)
  · replace e := (condT k1).symm.trans e
    obtain ⟨y2, q2, e⟩ := Option.bind_eq_some_iff.1 e
    obtain ⟨r2, j2, l2⟩ := n3.atI q2
    refine Runs.step j2 ?_
    refine Runs.step (rdc l2 (avInt_int _ _)) ?_
    cases e
    exact good g0 n1 v2 n3 n1 hi2 av1_2 av3_2 av1_2
  · replace e := (condF k1).symm.trans e
    obtain ⟨s2, e2, n2, o2⟩ := nat_trim_spec v2.nats
    refine Runs.step e2 ?_
    refine Runs.step (seen (asSl_v _)) ?_
    cases e
    cases good
    exact Runs.ret ⟨s2, rfl, n2, g0, ((o2 _ (v2.own hi2)).of_le (Grow.refl _))⟩

theorem nat_school_p7_walk {r : nat_school_Res} {o : nat_school_St ⊕ nat_school_Res} {x1 : List Nat} {x2 : List Nat} {a3 : Int} {a4 : Int} {a5 : Int} {x6 : List Nat} {a7 : Int} {a8 : Int} {x9 : List Nat} {a10 : Int} {a11 : Int} (e : nat_school_p7' x1 x2 a3 a4 a5 x6 a7 a8 x9 a10 a11 = some o) (good : GoodS (nat_school_At r) r o) : nat_school_At r (.p7 x1 x2 a3 a4 a5 x6 a7 a8 x9 a10 a11) := by
  intro h0 h a1 a2 a6 a9 i2 g0 n1 v2 n6 n9 hi2 av1_2 av6_2 av9_2
  rw [p_nat_school_7]
  unfold nat_school_p7' at e
  rw [n1.len]
  rw [v2.nats.len]
  rw [n9.len]
  refine Runs.cond (fun k1 => ?_) (fun k1 => ?_)
  · replace e := (condT k1).symm.trans e
    obtain ⟨y2, q2, e⟩ := Option.bind_eq_some_iff.1 e
    obtain ⟨r2, j2, l2⟩ := n9.atI q2
    refine Runs.step j2 ?_
    refine Runs.step (rdc l2 (avInt_int _ _)) ?_
    refine Runs.step (math_bits_Mul64_spec a4 ((y2 : Int))) ?_
    refine Runs.step rfl ?_
    refine Runs.step (seen (avInt_int _ _)) ?_
    refine Runs.step (seen (avInt_int _ _)) ?_
    obtain ⟨j4, q4, e⟩ := Option.bind_eq_some_iff.1 e
    refine Runs.step (v2.idx q4) ?_
    refine Runs.step (v2.rd q4 (avInt_int _ _)) ?_
    obtain ⟨p5, q5, e⟩ := Option.bind_eq_some_iff.1 e
    refine Runs.step (prim_add64 q5) ?_
    refine Runs.step rfl ?_
    refine Runs.step (seen (avInt_int _ _)) ?_
    refine Runs.step (seen (avInt_int _ _)) ?_
    obtain ⟨p6, q6, e⟩ := Option.bind_eq_some_iff.1 e
    refine Runs.step (prim_add64 q6) ?_
    refine Runs.step rfl ?_
    refine Runs.step (seen (avInt_int _ _)) ?_
    refine Runs.step (seen (avInt_int _ _)) ?_
    obtain ⟨j7, q7, e⟩ := Option.bind_eq_some_iff.1 e
    refine Runs.step (v2.idx q7) ?_
    obtain ⟨w8, z8, e⟩ := Option.bind_eq_some_iff.1 e
    refine Runs.vput v2 q7 z8 fun H8 v8 u8 => ?_
    have n1_8 := n1.upda av1_2 u8
    have n6_8 := n6.upda av6_2 u8
    have n9_8 := n9.upda av9_2 u8
    cases e
    exact good (g0.updr hi2 u8) n1_8 v8 n6_8 n9_8 hi2 av1_2 av6_2 av9_2
  · replace e := (condF k1).symm.trans e
    obtain ⟨j2, q2, e⟩ := Option.bind_eq_some_iff.1 e
    refine Runs.step (v2.idx q2) ?_
    obtain ⟨w3, z3, e⟩ := Option.bind_eq_some_iff.1 e
    refine Runs.vput v2 q2 z3 fun H3 v3 u3 => ?_
    have n1_3 := n1.upda av1_2 u3
    have n6_3 := n6.upda av6_2 u3
    have n9_3 := n9.upda av9_2 u3
    cases e
    exact good (g0.updr hi2 u3) n1_3 v3 n6_3 hi2 av1_2 av6_2

theorem nat_school_run {s : nat_school_St} {r : nat_school_Res} (it : Iter nat_school_step s r) : nat_school_At r s := Iter.ind (fun s o e good => by
  cases s with
  | fn x1 x2 => exact nat_school_fn_walk e good
  | p3 x1 x2 x3 a4 a5 => exact nat_school_p3_walk e good
  | p7 x1 x2 a3 a4 a5 x6 a7 a8 x9 a10 a11 => exact nat_school_p7_walk e good
  ) it

end Go.Ab
