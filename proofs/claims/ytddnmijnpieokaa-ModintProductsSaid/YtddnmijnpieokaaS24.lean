/- Layer 1: Mul. -/
import Derived.Test.YtddnmijnpieokaaS23
set_option linter.unusedVariables false
set_option linter.unusedSimpArgs false
set_option maxRecDepth 10000
namespace Go.Ab
open Go.Proofs Go.Num

theorem nat_product_spec {h : AH} {s t : Sl} {xs ys : List Nat} (n : Nats h s xs) (m : Nats h t ys) (hl : xs.length + ys.length < 268435456) : ∃ (s' : Sl) (h' : AH), go (.fn F.nat_product [s.v, t.v]) h = some (s'.v, h') ∧ Nats h' s' (digs B (num B xs * num B ys)) ∧ Grow h h' ∧ Own h s' := by
  have key : Runs (go (.fn F.nat_product [s.v, t.v]) h) fun v h' => ∃ s' : Sl, v = s'.v ∧ Nats h' s' (digs B (num B xs * num B ys)) ∧ Grow h h' ∧ Own h s' := by
    rw [u_nat_product]
    refine Runs.new fun H3 b3 g3 => ?_
    refine Runs.puts b3 rfl fun H4 b4 u4 => ?_
    have gA := g3.updr (Nat.le_refl _) u4
    have c4 : H4.cell (.new h.blks.size 0) = some (halvesV (.new h.blks.size 0)) := b4.cell 0
    refine Runs.step c4 ?_
    obtain ⟨_, H6, e6, s6, rfl, n6, g6, o6⟩ := product_1_spec 268435456 hl (Nat.le_refl _) (n.grow gA) (m.grow gA) c4
    refine Runs.step ((callV_halves _ _ _ _).trans e6) ?_
    refine Runs.step (seen (asSl_v _)) ?_
    exact Runs.ret ⟨s6, rfl, n6, gA.trans g6, o6.of_le gA⟩
  obtain ⟨_, h', e, s', rfl, k⟩ := key
  exact ⟨s', h', e, k⟩

/-- The product of two numbers' limbs. -/
def mulN (xs ys : List Nat) : List Nat × Int := if rt xs = true ∧ rt ys = true then told (num B xs * num B ys) else ([], 1)

theorem nat_Mul_spec {h : AH} {s t : Sl} {xs ys : List Nat} (n : Nats h s xs) (m : Nats h t ys) : ∃ (s' : Sl) (h' : AH), go (.fn F.nat_Mul [s.v, t.v]) h = some (.tup [s'.v, .int .i64 (mulN xs ys).2], h') ∧ Nats h' s' (mulN xs ys).1 ∧ Grow h h' ∧ Own h s' := by
  rw [u_nat_Mul]
  simp only [newK_eq]
  have r := Rows.two n m
  have g := Grow.push h (.cells [s.v, t.v] T.api_Nat)
  generalize h.push (.cells [s.v, t.v] T.api_Nat) = h0 at *
  rw [nat_right_spec r]
  simp only [Option.bind_some, asBool_bool, List.all_cons, List.all_nil, Bool.and_true]
  cases hx : rt xs with
  | false => exact ⟨⟨none, 0, .is 0⟩, h0, by simp [mulN, hx], by simpa [mulN, hx] using Nats.nil h0, g, Own.nil h⟩
  | true =>
    cases hy : rt ys with
    | false => exact ⟨⟨none, 0, .is 0⟩, h0, by simp [mulN, hx, hy], by simpa [mulN, hx, hy] using Nats.nil h0, g, Own.nil h⟩
    | true =>
      simp only [Bool.and_self, Bool.not_true, cond_false]
      have lx := (rt_iff.1 hx).1
      have ly := (rt_iff.1 hy).1
      rw [show mulN xs ys = told (num B xs * num B ys) from by simp [mulN, hx, hy]]
      obtain ⟨s1, h1, e1, n1, g1, o1⟩ := nat_product_spec (n.grow g) (m.grow g) (by omega)
      obtain ⟨s2, e2, n2, o2⟩ := nat_told_spec n1
      rw [num_digs B2] at e2 n2
      refine ⟨s2, h1, ?_, n2, g.trans g1, o2 _ (o1.of_le g)⟩
      simp only [e1, e2, Option.bind_some, asSl_v, asTup2_tup, avInt_int]

theorem ref01_Mul_spec {h : AH} {s t : Sl} {xs ys : List Nat} (n : Nats h s xs) (m : Nats h t ys) : ∃ (s' : Sl) (h' : AH), go (.fn F.ref01_Mul [s.v, t.v]) h = some (.tup [s'.v, .int .i64 (mulN xs ys).2], h') ∧ Nats h' s' (mulN xs ys).1 ∧ Grow h h' ∧ Own h s' := by
  rw [u_ref01_Mul, ref01_Right_spec n, Option.bind_some, Option.bind_some, asBool_bool, Option.bind_some, ref01_Right_spec m, Option.bind_some, Option.bind_some, asBool_bool, Option.bind_some]
  cases hx : rt xs with
  | false => exact ⟨⟨none, 0, .is 0⟩, h, by simp [mulN, hx], by simpa [mulN, hx] using Nats.nil h, Grow.refl h, Own.nil h⟩
  | true =>
    cases hy : rt ys with
    | false => exact ⟨⟨none, 0, .is 0⟩, h, by simp [mulN, hx, hy], by simpa [mulN, hx, hy] using Nats.nil h, Grow.refl h, Own.nil h⟩
    | true =>
      simp only [Bool.not_true, cond_false]
      have lx := (rt_iff.1 hx).1
      have ly := (rt_iff.1 hy).1
      rw [show mulN xs ys = told (num B xs * num B ys) from by simp [mulN, hx, hy]]
      obtain ⟨d1, h1, e1, n1, g1, o1⟩ := ref01_In_spec n (by omega)
      obtain ⟨d2, h2, e2, n2, g2, o2⟩ := ref01_In_spec (m.grow g1) (by omega)
      have k1 := digsD_len n.lt lx
      have k2 := digsD_len m.lt ly
      obtain ⟨d3, h3, e3, n3, g3, o3⟩ := ref01_mul_spec (n1.grow g2) n2 (digs_lt D2 _) (digs_lt D2 _) (by omega)
      rw [num_digs D2, num_digs D2] at n3
      have k3 : (digs D (num B xs * num B ys)).length ≤ 536870912 := by
        have h1 := (digs_len D2 (num B xs) _).1 (Nat.le_refl _)
        have h2 := (digs_len D2 (num B ys) _).1 (Nat.le_refl _)
        have : (digs D (num B xs * num B ys)).length ≤ (digs D (num B xs)).length + (digs D (num B ys)).length := by
          rw [digs_len D2, Nat.pow_add]
          exact Nat.mul_lt_mul_of_lt_of_lt h1 h2
        omega
      obtain ⟨d4, h4, e4, n4, g4, o4⟩ := ref01_told_spec n3 (digs_lt D2 _) (digs_trim D2 _) k3
      rw [num_digs D2] at e4 n4
      refine ⟨d4, h4, ?_, n4, g1.trans (g2.trans (g3.trans g4)), o4.of_le (g1.trans (g2.trans g3))⟩
      simp only [e1, e2, e3, e4, Option.bind_some, asSl_v, asTup2_tup, avInt_int]

end Go.Ab
