/- Layer 1: into: printed by wip/tools/walk.py. -/
import Derived.Test.YtddnmijnpieokaaS20
set_option linter.unusedVariables false
set_option linter.unusedSimpArgs false
set_option maxRecDepth 10000
namespace Go.Ab
open Go.Proofs Go.Num

inductive nat_into_St
  | fn (x1 : List Nat) (x2 : List Nat) (a3 : Int)
  | p2 (x1 : List Nat) (x2 : List Nat) (a3 : Int) (a4 : Int) (a5 : Int)

abbrev nat_into_Res := List Nat

noncomputable def nat_into_fn' (x1 : List Nat) (x2 : List Nat) (a3 : Int) : Option (nat_into_St ⊕ nat_into_Res) :=
  some (.inl (.p2 x1 x2 a3 0 a3))

noncomputable def nat_into_p2' (x1 : List Nat) (x2 : List Nat) (a3 : Int) (a4 : Int) (a5 : Int) : Option (nat_into_St ⊕ nat_into_Res) :=
  cond (decide (a5 < (List.length x1 : Int))) (cond (decide ((IntKind.wrap .i64 (a5 - a3)) < (List.length x2 : Int))) (cond (decide ((IntKind.wrap .i64 (a5 - a3)) < (List.length x2 : Int))) ((atI x2 (IntKind.wrap .i64 (a5 - a3))).bind fun y4 => (inI (List.length x1) a5).bind fun j5 => (add64P (((List.getD x1 j5 0 : Nat) : Int)) ((y4 : Int)) a4).bind fun p6 => (inI (List.length x1) a5).bind fun j7 => (u64P (p6.1)).bind fun w8 => some (.inl (.p2 (List.set x1 j7 w8) x2 a3 (p6.2) (IntKind.wrap .i64 (a5 + 1))))) ((inI (List.length x1) a5).bind fun j4 => (add64P (((List.getD x1 j4 0 : Nat) : Int)) 0 a4).bind fun p5 => (inI (List.length x1) a5).bind fun j6 => (u64P (p5.1)).bind fun w7 => some (.inl (.p2 (List.set x1 j6 w7) x2 a3 (p5.2) (IntKind.wrap .i64 (a5 + 1)))))) (cond (decide (a4 > 0)) (cond (decide ((IntKind.wrap .i64 (a5 - a3)) < (List.length x2 : Int))) ((atI x2 (IntKind.wrap .i64 (a5 - a3))).bind fun y5 => (inI (List.length x1) a5).bind fun j6 => (add64P (((List.getD x1 j6 0 : Nat) : Int)) ((y5 : Int)) a4).bind fun p7 => (inI (List.length x1) a5).bind fun j8 => (u64P (p7.1)).bind fun w9 => some (.inl (.p2 (List.set x1 j8 w9) x2 a3 (p7.2) (IntKind.wrap .i64 (a5 + 1))))) ((inI (List.length x1) a5).bind fun j5 => (add64P (((List.getD x1 j5 0 : Nat) : Int)) 0 a4).bind fun p6 => (inI (List.length x1) a5).bind fun j7 => (u64P (p6.1)).bind fun w8 => some (.inl (.p2 (List.set x1 j7 w8) x2 a3 (p6.2) (IntKind.wrap .i64 (a5 + 1)))))) (some (.inr x1)))) (some (.inr x1))

noncomputable def nat_into_step : nat_into_St → Option (nat_into_St ⊕ nat_into_Res)
  | .fn x1 x2 a3 => nat_into_fn' x1 x2 a3
  | .p2 x1 x2 a3 a4 a5 => nat_into_p2' x1 x2 a3 a4 a5

@[reducible] def nat_into_post (h0 : AH) (a : Sl) (i : Nat) (r : nat_into_Res) (v : AV) (h' : AH) : Prop := v = .tup [] ∧ Vec h' a i r ∧ Upd h0 h' i

def nat_into_At (r : nat_into_Res) : nat_into_St → Prop
  | .fn x1 x2 a3 => ∀ {h : AH} {a1 : Sl} {a2 : Sl} {i1 : Nat}, Vec h a1 i1 x1 → Nats h a2 x2 → Av a2 i1 x2 → Runs (go (.fn F.nat_into [a1.v, a2.v, .int .i64 a3]) h) (nat_into_post h a1 i1 r)
  | .p2 x1 x2 a3 a4 a5 => ∀ {h0 h : AH} {a1 : Sl} {a2 : Sl} {i1 : Nat}, Upd h0 h i1 → Vec h a1 i1 x1 → Nats h a2 x2 → Av a2 i1 x2 → Runs (go (.pt F.nat_into Td.nat_into_2 [(0, a1.v), (1, a2.v), (2, .int .i64 a3), (6, .int .u64 a4), (7, .int .i64 a5)]) h) (nat_into_post h0 a1 i1 r)

theorem nat_into_fn_walk {r : nat_into_Res} {o : nat_into_St ⊕ nat_into_Res} {x1 : List Nat} {x2 : List Nat} {a3 : Int} (e : nat_into_fn' x1 x2 a3 = some o) (good : GoodS (nat_into_At r) r o) : nat_into_At r (.fn x1 x2 a3) := by
  intro h a1 a2 i1 v1 n2 av2_1
  rw [u_nat_into]
  unfold nat_into_fn' at e
  cases e
  exact good ((Grow.refl _).toUpd _) v1 n2 av2_1

theorem nat_into_p2_walk {r : nat_into_Res} {o : nat_into_St ⊕ nat_into_Res} {x1 : List Nat} {x2 : List Nat} {a3 : Int} {a4 : Int} {a5 : Int} (e : nat_into_p2' x1 x2 a3 a4 a5 = some o) (good : GoodS (nat_into_At r) r o) : nat_into_At r (.p2 x1 x2 a3 a4 a5) := by
  intro h0 h a1 a2 i1 g0 v1 n2 av2_1
  rw [p_nat_into_2]
  unfold nat_into_p2' at e
  rw [v1.nats.len]
  rw [n2.len]
  refine Runs.cond (fun k1 => ?_) (fun k1 => ?_)
  · replace e := (condT k1).symm.trans e
    refine Runs.cond (fun k2 => ?_) (fun k2 => ?_)
    · replace e := (condT k2).symm.trans e
      refine Runs.cond (fun k3 => ?_) (fun k3 => ?_)
      · replace e := (condT k3).symm.trans e
        obtain ⟨y4, q4, e⟩ := Option.bind_eq_some_iff.1 e
        obtain ⟨r4, j4, l4⟩ := n2.atI q4
        refine Runs.step j4 ?_
        refine Runs.step (rdc l4 (avInt_int _ _)) ?_
        obtain ⟨j5, q5, e⟩ := Option.bind_eq_some_iff.1 e
        refine Runs.step (v1.idx q5) ?_
        refine Runs.step (v1.rd q5 (avInt_int _ _)) ?_
        obtain ⟨p6, q6, e⟩ := Option.bind_eq_some_iff.1 e
        refine Runs.step (prim_add64 q6) ?_
        refine Runs.step rfl ?_
        refine Runs.step (seen (avInt_int _ _)) ?_
        refine Runs.step (seen (avInt_int _ _)) ?_
        obtain ⟨j7, q7, e⟩ := Option.bind_eq_some_iff.1 e
        refine Runs.step (v1.idx q7) ?_
        obtain ⟨w8, z8, e⟩ := Option.bind_eq_some_iff.1 e
        refine Runs.vput v1 q7 z8 fun H8 v8 u8 => ?_
        have n2_8 := n2.upda av2_1 u8
        cases e
        exact good (g0.trans u8) v8 n2_8 av2_1
      · replace e := (condF k3).symm.trans e
        obtain ⟨j4, q4, e⟩ := Option.bind_eq_some_iff.1 e
        refine Runs.step (v1.idx q4) ?_
        refine Runs.step (v1.rd q4 (avInt_int _ _)) ?_
        obtain ⟨p5, q5, e⟩ := Option.bind_eq_some_iff.1 e
        refine Runs.step (prim_add64 q5) ?_
        refine Runs.step rfl ?_
        refine Runs.step (seen (avInt_int _ _)) ?_
        refine Runs.step (seen (avInt_int _ _)) ?_
        obtain ⟨j6, q6, e⟩ := Option.bind_eq_some_iff.1 e
        refine Runs.step (v1.idx q6) ?_
        obtain ⟨w7, z7, e⟩ := Option.bind_eq_some_iff.1 e
        refine Runs.vput v1 q6 z7 fun H7 v7 u7 => ?_
        have n2_7 := n2.upda av2_1 u7
        cases e
        exact good (g0.trans u7) v7 n2_7 av2_1
    · replace e := (condF k2).symm.trans e
      refine Runs.cond (fun k3 => ?_) (fun k3 => ?_)
      · replace e := (condT k3).symm.trans e
        refine Runs.cond (fun k4 => ?_) (fun k4 => ?_)
        · replace e := (condT k4).symm.trans e
          obtain ⟨y5, q5, e⟩ := Option.bind_eq_some_iff.1 e
          obtain ⟨r5, j5, l5⟩ := n2.atI q5
          refine Runs.step j5 ?_
          refine Runs.step (rdc l5 (avInt_int _ _)) ?_
          obtain ⟨j6, q6, e⟩ := Option.bind_eq_some_iff.1 e
          refine Runs.step (v1.idx q6) ?_
          refine Runs.step (v1.rd q6 (avInt_int _ _)) ?_
          obtain ⟨p7, q7, e⟩ := Option.bind_eq_some_iff.1 e
          refine Runs.step (prim_add64 q7) ?_
          refine Runs.step rfl ?_
          refine Runs.step (seen (avInt_int _ _)) ?_
          refine Runs.step (seen (avInt_int _ _)) ?_
          obtain ⟨j8, q8, e⟩ := Option.bind_eq_some_iff.1 e
          refine Runs.step (v1.idx q8) ?_
          obtain ⟨w9, z9, e⟩ := Option.bind_eq_some_iff.1 e
          refine Runs.vput v1 q8 z9 fun H9 v9 u9 => ?_
          have n2_9 := n2.upda av2_1 u9
          cases e
          exact good (g0.trans u9) v9 n2_9 av2_1
        · replace e := (condF k4).symm.trans e
          obtain ⟨j5, q5, e⟩ := Option.bind_eq_some_iff.1 e
          refine Runs.step (v1.idx q5) ?_
          refine Runs.step (v1.rd q5 (avInt_int _ _)) ?_
          obtain ⟨p6, q6, e⟩ := Option.bind_eq_some_iff.1 e
          refine Runs.step (prim_add64 q6) ?_
          refine Runs.step rfl ?_
          refine Runs.step (seen (avInt_int _ _)) ?_
          refine Runs.step (seen (avInt_int _ _)) ?_
          obtain ⟨j7, q7, e⟩ := Option.bind_eq_some_iff.1 e
          refine Runs.step (v1.idx q7) ?_
          obtain ⟨w8, z8, e⟩ := Option.bind_eq_some_iff.1 e
          refine Runs.vput v1 q7 z8 fun H8 v8 u8 => ?_
          have n2_8 := n2.upda av2_1 u8
          cases e
          exact good (g0.trans u8) v8 n2_8 av2_1
      · replace e := (condF k3).symm.trans e
        cases e
        cases good
        exact Runs.ret ⟨rfl, v1, g0⟩
  · replace e := (condF k1).symm.trans e
    cases e
    cases good
    exact Runs.ret ⟨rfl, v1, g0⟩

theorem nat_into_run {s : nat_into_St} {r : nat_into_Res} (it : Iter nat_into_step s r) : nat_into_At r s := Iter.ind (fun s o e good => by
  cases s with
  | fn x1 x2 a3 => exact nat_into_fn_walk e good
  | p2 x1 x2 a3 a4 a5 => exact nat_into_p2_walk e good
  ) it

end Go.Ab
