/- Layer 3: the law of order. -/
import Derived.Test.YtddnmijnpieokaaS7
set_option linter.unusedVariables false
set_option linter.unusedSimpArgs false
set_option maxRecDepth 10000
namespace Go.Ab
open Go.Proofs Go.Num

theorem ModintCompares_spec {h : AH} {s t : Sl} {xs ys : List Nat} (n : Nats h s xs) (m : Nats h t ys) (p q : Bool) :
    ∃ h', go (.fn F.law03_ModintCompares [.agg [.bool p, s.v], .agg [.bool q, t.v]]) h = some (.bool true, h') := by
  rw [u_law03_ModintCompares]
  simp only [newK_eq]
  have b0 := AH.has_push h [.bool p, s.v] T.api_Int
  have g0 := Grow.push h (.cells [.bool p, s.v] T.api_Int)
  generalize h.push (.cells [.bool p, s.v] T.api_Int) = h0 at *
  have c1 := AH.has_push h0 [.bool q, t.v] T.api_Int
  have g1 := Grow.push h0 (.cells [.bool q, t.v] T.api_Int)
  generalize h0.push (.cells [.bool q, t.v] T.api_Int) = hh1 at *
  have b1 := g1.has b0
  simp only [Ref.add_new, Nat.zero_add, b1.cell, c1.cell, List.getElem?_cons_zero, List.getElem?_cons_succ, Option.bind_some, asBool_bool, asSl_v]
  have n1 := n.grow (g0.trans g1)
  have m1 := m.grow (g0.trans g1)
  have rw1 := Rows.two n1 m1
  have g2 := Grow.push hh1 (.cells [s.v, t.v] T.api_Nat)
  generalize hh1.push (.cells [s.v, t.v] T.api_Nat) = hh2 at *
  rw [few_spec rw1]
  simp only [Option.bind_some, asBool_bool]
  refine cond_elim_ex (z := fun h' => some (AV.bool true, h')) (fun _ => ⟨_, rfl⟩) fun _ => ?_
  have b2 := g2.has b1
  have c2 := g2.has c1
  have m2 := m1.grow g2
  have n2 := n1.grow g2
  obtain ⟨s3, hh3, e3, n3, g3, o3⟩ := modint_Neg_spec n2 p
  have g4 := Grow.push hh3 (.cells nilI T.api_Int)
  have b4 := AH.has_push hh3 nilI T.api_Int
  simp only [b2.cell, e3, Option.bind_some, asAgg_agg, List.length_cons, List.length_nil, Nat.reduceAdd, Nat.beq_refl, cond_true, List.getElem?_cons_zero, List.getElem?_cons_succ, asBool_bool, asSl_v, newK_eq]
  generalize hh3.push (.cells nilI T.api_Int) = hh4 at *
  rw [b4.puts_all (vs := [.bool (negI p xs).1, s3.v]) rfl]
  simp only [Option.bind_some]
  have g5 := g4.upd (Nat.le_refl hh3.blks.size) [.bool (negI p xs).1, s3.v] T.api_Int
  have b5 := AH.has_upd b4 [.bool (negI p xs).1, s3.v] T.api_Int
  have n5 := n3.grow g5
  generalize hh4.upd hh3.blks.size [.bool (negI p xs).1, s3.v] T.api_Int = hh5 at *
  have g35 := g3.trans g5
  obtain ⟨s6, hh6, e6, n6, g6, o6⟩ := ref03_Neg_spec (n2.grow g35) p
  have n6' := n5.grow g6
  obtain ⟨hh7, e7, g7⟩ := ref03_Same_spec n6' n6 (negI p xs).1
  simp only [b5.cell, (g35.has b2).cell, e6, Option.bind_some, asAgg_agg, List.length_cons, List.length_nil, Nat.reduceAdd, Nat.beq_refl, cond_true, List.getElem?_cons_zero, List.getElem?_cons_succ, asBool_bool, asSl_v]
  rw [whenK_of (g6.same b5 0 2)]
  simp only [cond_true, e7, Option.bind_some, asBool_bool]
  have gA := g35.trans (g6.trans g7)
  have g8 := Grow.push hh7 (.cells [u64 1] T.uint64)
  have one : Nats (hh7.push (.cells [u64 1] T.uint64)) ⟨some (.new hh7.blks.size 0), 1, .is 1⟩ [1] := ⟨Cells.of_has (AH.has_push hh7 [u64 1] T.uint64) rfl, by simp, by simp⟩
  obtain ⟨hh9, e9, g9⟩ := modint_Cmp_spec one (Nats.nil _) false false
  have k1 : cmpI false [1] false [] = 1 := by decide +kernel
  rw [k1] at e9
  rw [show (AV.int .u64 1) = u64 1 from rfl, e9]
  simp only [Option.bind_some, avInt_int, decide_true, cond_true]
  have gB := gA.trans (g8.trans g9)
  have b9 := gB.has b2
  have c9 := gB.has c2
  have n9 := n2.grow gB
  have m9 := m2.grow gB
  obtain ⟨hh10, e10, g10⟩ := modint_Cmp_spec n9 m9 p q
  obtain ⟨hh11, e11, g11⟩ := ref03_Cmp_spec (n9.grow g10) (m9.grow g10) p q
  simp only [b9.cell, c9.cell, List.getElem?_cons_zero, List.getElem?_cons_succ, Option.bind_some, asBool_bool, asSl_v, e10, avInt_int]
  rw [whenK_of (g10.same c9 0 2), whenK_of (g10.same b9 0 2), e11]
  simp only [Option.bind_some, avInt_int, decide_true]
  exact ⟨_, rfl⟩

theorem ModintCompares_law (h : AH) {x0 x1 : AV} (z0 : ArgV Pg h T.api_Int x0) (z1 : ArgV Pg h T.api_Int x1) : ∃ h', go (.fn F.law03_ModintCompares [x0, x1]) h = some (.bool true, h') := by
  obtain ⟨p, s, xs, rfl, n⟩ := apiInt_of_arg z0
  obtain ⟨q, t, ys, rfl, m⟩ := apiInt_of_arg z1
  exact ModintCompares_spec n m p q

end Go.Ab
