/- Layer 1: the document's product: printed by wip/tools/walk.py. -/
import Derived.Test.YtddnmijnpieokaaS18
set_option linter.unusedVariables false
set_option linter.unusedSimpArgs false
set_option maxRecDepth 10000
namespace Go.Ab
open Go.Proofs Go.Num

inductive ref01_mul_St
  | fn (x1 : List Nat) (x2 : List Nat)
  | p3 (x1 : List Nat) (x2 : List Nat) (x3 : List Nat) (a4 : Int)
  | p7 (x1 : List Nat) (x2 : List Nat) (x3 : List Nat) (a4 : Int) (a5 : Int) (a6 : Int)

abbrev ref01_mul_Res := List Nat

noncomputable def ref01_mul_fn' (x1 : List Nat) (x2 : List Nat) : Option (ref01_mul_St ⊕ ref01_mul_Res) :=
  (mkI (IntKind.wrap .i64 ((List.length x1 : Int) + (List.length x2 : Int))) (IntKind.wrap .i64 ((List.length x1 : Int) + (List.length x2 : Int)))).bind fun m1 => some (.inl (.p3 x1 x2 (List.replicate m1 0) 0))

noncomputable def ref01_mul_p3' (x1 : List Nat) (x2 : List Nat) (x3 : List Nat) (a4 : Int) : Option (ref01_mul_St ⊕ ref01_mul_Res) :=
  cond (decide (a4 < (List.length x1 : Int))) (some (.inl (.p7 x1 x2 x3 a4 0 0))) ((need (∀ x ∈ x3, x < D)).bind fun c2_0 => some (.inr (digs D (num D x3))))

noncomputable def ref01_mul_p7' (x1 : List Nat) (x2 : List Nat) (x3 : List Nat) (a4 : Int) (a5 : Int) (a6 : Int) : Option (ref01_mul_St ⊕ ref01_mul_Res) :=
  cond (decide (a6 < (List.length x2 : Int))) ((inI (List.length x3) (IntKind.wrap .i64 (a4 + a6))).bind fun j2 => (atI x1 a4).bind fun y3 => (atI x2 a6).bind fun y4 => (inI (List.length x3) (IntKind.wrap .i64 (a4 + a6))).bind fun j5 => (u64P (Int.tmod (IntKind.wrap .u64 ((IntKind.wrap .u64 ((((List.getD x3 j2 0 : Nat) : Int)) + (IntKind.wrap .u64 (((y3 : Int)) * ((y4 : Int)))))) + a5)) 65536)).bind fun w6 => some (.inl (.p7 x1 x2 (List.set x3 j5 w6) a4 (IntKind.wrap .u64 (Int.tdiv (IntKind.wrap .u64 ((IntKind.wrap .u64 ((((List.getD x3 j2 0 : Nat) : Int)) + (IntKind.wrap .u64 (((y3 : Int)) * ((y4 : Int)))))) + a5)) 65536)) (IntKind.wrap .i64 (a6 + 1))))) ((inI (List.length x3) (IntKind.wrap .i64 (a4 + (List.length x2 : Int)))).bind fun j2 => (u64P a5).bind fun w3 => some (.inl (.p3 x1 x2 (List.set x3 j2 w3) (IntKind.wrap .i64 (a4 + 1)))))

noncomputable def ref01_mul_step : ref01_mul_St → Option (ref01_mul_St ⊕ ref01_mul_Res)
  | .fn x1 x2 => ref01_mul_fn' x1 x2
  | .p3 x1 x2 x3 a4 => ref01_mul_p3' x1 x2 x3 a4
  | .p7 x1 x2 x3 a4 a5 a6 => ref01_mul_p7' x1 x2 x3 a4 a5 a6

@[reducible] def ref01_mul_post (h0 : AH) (r : ref01_mul_Res) (v : AV) (h' : AH) : Prop := ∃ s1 : Sl, v = s1.v ∧ Nats h' s1 r ∧ Grow h0 h' ∧ Own h0 s1

def ref01_mul_At (r : ref01_mul_Res) : ref01_mul_St → Prop
  | .fn x1 x2 => ∀ {h : AH} {a1 : Sl} {a2 : Sl}, Nats h a1 x1 → Nats h a2 x2 → Runs (go (.fn F.ref01_mul [a1.v, a2.v]) h) (ref01_mul_post h r)
  | .p3 x1 x2 x3 a4 => ∀ {h0 h : AH} {a1 : Sl} {a2 : Sl} {a3 : Sl} {i3 : Nat}, Grow h0 h → Nats h a1 x1 → Nats h a2 x2 → Vec h a3 i3 x3 → h0.blks.size ≤ i3 → Av a1 i3 x1 → Av a2 i3 x2 → Runs (go (.pt F.ref01_mul Td.ref01_mul_3 [(0, a1.v), (1, a2.v), (5, a3.v), (6, .int .i64 a4)]) h) (ref01_mul_post h0 r)
  | .p7 x1 x2 x3 a4 a5 a6 => ∀ {h0 h : AH} {a1 : Sl} {a2 : Sl} {a3 : Sl} {i3 : Nat}, Grow h0 h → Nats h a1 x1 → Nats h a2 x2 → Vec h a3 i3 x3 → h0.blks.size ≤ i3 → Av a1 i3 x1 → Av a2 i3 x2 → Runs (go (.pt F.ref01_mul Td.ref01_mul_7 [(0, a1.v), (1, a2.v), (5, a3.v), (6, .int .i64 a4), (7, .int .u64 a5), (8, .int .i64 a6)]) h) (ref01_mul_post h0 r)

theorem ref01_mul_fn_walk {r : ref01_mul_Res} {o : ref01_mul_St ⊕ ref01_mul_Res} {x1 : List Nat} {x2 : List Nat} (e : ref01_mul_fn' x1 x2 = some o) (good : GoodS (ref01_mul_At r) r o) : ref01_mul_At r (.fn x1 x2) := by
  intro h a1 a2 n1 n2
  rw [u_ref01_mul]
  unfold ref01_mul_fn' at e
  rw [n1.len]
  rw [n2.len]
  obtain ⟨m1, q1, e⟩ := Option.bind_eq_some_iff.1 e
  refine Runs.mk q1 bytes_uint64 fun s1 H1 v1 g1 => ?_
  cases e
  exact good g1 (n1.grow g1) (n2.grow g1) v1 (Nat.le_refl _) (Av.of_base n1 (Nat.le_refl _)) (Av.of_base n2 (Nat.le_refl _))

theorem ref01_mul_p3_walk {r : ref01_mul_Res} {o : ref01_mul_St ⊕ ref01_mul_Res} {x1 : List Nat} {x2 : List Nat} {x3 : List Nat} {a4 : Int} (e : ref01_mul_p3' x1 x2 x3 a4 = some o) (good : GoodS (ref01_mul_At r) r o) : ref01_mul_At r (.p3 x1 x2 x3 a4) := by
  intro h0 h a1 a2 a3 i3 g0 n1 n2 v3 hi3 av1_3 av2_3
  rw [p_ref01_mul_3]
  unfold ref01_mul_p3' at e
  rw [n1.len]
  refine Runs.cond (fun k1 => ?_) (fun k1 => ?_)
  · replace e := (condT k1).symm.trans e
    cases e
    exact good g0 n1 n2 v3 hi3 av1_3 av2_3
  · replace e := (condF k1).symm.trans e
    obtain ⟨c2_0, q2_0, e⟩ := Option.bind_eq_some_iff.1 e
    obtain ⟨s2, e2, n2, o2⟩ := ref01_cut_spec v3.nats  c2_0.down
    refine Runs.step e2 ?_
    refine Runs.step (seen (asSl_v _)) ?_
    cases e
    cases good
    exact Runs.ret ⟨s2, rfl, n2, g0, ((o2 _ (v3.own hi3)).of_le (Grow.refl _))⟩

theorem ref01_mul_p7_walk {r : ref01_mul_Res} {o : ref01_mul_St ⊕ ref01_mul_Res} {x1 : List Nat} {x2 : List Nat} {x3 : List Nat} {a4 : Int} {a5 : Int} {a6 : Int} (e : ref01_mul_p7' x1 x2 x3 a4 a5 a6 = some o) (good : GoodS (ref01_mul_At r) r o) : ref01_mul_At r (.p7 x1 x2 x3 a4 a5 a6) := by
  intro h0 h a1 a2 a3 i3 g0 n1 n2 v3 hi3 av1_3 av2_3
  rw [p_ref01_mul_7]
  unfold ref01_mul_p7' at e
  rw [n1.len]
  rw [n2.len]
  rw [v3.nats.len]
  refine Runs.cond (fun k1 => ?_) (fun k1 => ?_)
  · replace e := (condT k1).symm.trans e
    obtain ⟨j2, q2, e⟩ := Option.bind_eq_some_iff.1 e
    refine Runs.step (v3.idx q2) ?_
    refine Runs.step (v3.rd q2 (avInt_int _ _)) ?_
    obtain ⟨y3, q3, e⟩ := Option.bind_eq_some_iff.1 e
    obtain ⟨r3, j3, l3⟩ := n1.atI q3
    refine Runs.step j3 ?_
    refine Runs.step (rdc l3 (avInt_int _ _)) ?_
    obtain ⟨y4, q4, e⟩ := Option.bind_eq_some_iff.1 e
    obtain ⟨r4, j4, l4⟩ := n2.atI q4
    refine Runs.step j4 ?_
    refine Runs.step (rdc l4 (avInt_int _ _)) ?_
    obtain ⟨j5, q5, e⟩ := Option.bind_eq_some_iff.1 e
    refine Runs.step (v3.idx q5) ?_
    obtain ⟨w6, z6, e⟩ := Option.bind_eq_some_iff.1 e
    refine Runs.vput v3 q5 z6 fun H6 v6 u6 => ?_
    have n1_6 := n1.upda av1_3 u6
    have n2_6 := n2.upda av2_3 u6
    cases e
    exact good (g0.updr hi3 u6) n1_6 n2_6 v6 hi3 av1_3 av2_3
  · replace e := (condF k1).symm.trans e
    obtain ⟨j2, q2, e⟩ := Option.bind_eq_some_iff.1 e
    refine Runs.step (v3.idx q2) ?_
    obtain ⟨w3, z3, e⟩ := Option.bind_eq_some_iff.1 e
    refine Runs.vput v3 q2 z3 fun H3 v3 u3 => ?_
    have n1_3 := n1.upda av1_3 u3
    have n2_3 := n2.upda av2_3 u3
    cases e
    exact good (g0.updr hi3 u3) n1_3 n2_3 v3 hi3 av1_3 av2_3

theorem ref01_mul_run {s : ref01_mul_St} {r : ref01_mul_Res} (it : Iter ref01_mul_step s r) : ref01_mul_At r s := Iter.ind (fun s o e good => by
  cases s with
  | fn x1 x2 => exact ref01_mul_fn_walk e good
  | p3 x1 x2 x3 a4 => exact ref01_mul_p3_walk e good
  | p7 x1 x2 x3 a4 a5 a6 => exact ref01_mul_p7_walk e good
  ) it

end Go.Ab
