/- Layer 1, the document's: sums and differences of numbers. -/
import Derived.Test.YtddnmijnpieokaaS13
set_option linter.unusedVariables false
set_option linter.unusedSimpArgs false
set_option maxRecDepth 10000
namespace Go.Ab
open Go.Proofs Go.Num

theorem digsD_len {xs : List Nat} (hx : ∀ x ∈ xs, x < 18446744073709551616) (hl : xs.length ≤ 64) : (digs D (num B xs)).length ≤ 256 := by
  rw [digs_len D2]
  have h1 := num_lt (b := B) (by decide) hx
  have h2 : B ^ xs.length ≤ B ^ 64 := Nat.pow_le_pow_right (by decide) hl
  have h3 : B ^ 64 = D ^ 256 := by decide +kernel
  omega

theorem ref01_Add_spec {h : AH} {s t : Sl} {xs ys : List Nat} (n : Nats h s xs) (m : Nats h t ys) : ∃ (s' : Sl) (h' : AH), go (.fn F.ref01_Add [s.v, t.v]) h = some (.tup [s'.v, .int .i64 (addN xs ys).2], h') ∧ Nats h' s' (addN xs ys).1 ∧ Grow h h' ∧ Own h s' := by
  rw [u_ref01_Add, ref01_Right_spec n, Option.bind_some, Option.bind_some, asBool_bool, Option.bind_some, ref01_Right_spec m, Option.bind_some, Option.bind_some, asBool_bool, Option.bind_some]
  cases hx : rt xs with
  | false => exact ⟨⟨none, 0, .is 0⟩, h, by simp [addN, hx], by simpa [addN, hx] using Nats.nil h, Grow.refl h, Own.nil h⟩
  | true =>
    cases hy : rt ys with
    | false => exact ⟨⟨none, 0, .is 0⟩, h, by simp [addN, hy], by simpa [addN, hy] using Nats.nil h, Grow.refl h, Own.nil h⟩
    | true =>
      simp only [Bool.not_true, cond_false]
      rw [show addN xs ys = told (num B xs + num B ys) from by simp [addN, hx, hy]]
      have lx := (rt_iff.1 hx).1
      have ly := (rt_iff.1 hy).1
      obtain ⟨d1, h1, e1, n1, g1, o1⟩ := ref01_In_spec n (by omega)
      obtain ⟨d2, h2, e2, n2, g2, o2⟩ := ref01_In_spec (m.grow g1) (by omega)
      have k1 := digsD_len n.lt lx
      have k2 := digsD_len m.lt ly
      obtain ⟨d3, h3, e3, n3, g3, o3⟩ := ref01_add_spec (n1.grow g2) n2 (digs_lt D2 _) (digs_lt D2 _) (by omega) (by omega)
      rw [num_digs D2, num_digs D2] at n3
      have k3 : (digs D (num B xs + num B ys)).length ≤ 536870912 := by
        have := digs_add_len D2 (num B xs) (num B ys)
        omega
      obtain ⟨d4, h4, e4, n4, g4, o4⟩ := ref01_told_spec n3 (digs_lt D2 _) (digs_trim D2 _) k3
      rw [num_digs D2] at e4 n4
      refine ⟨d4, h4, ?_, n4, g1.trans (g2.trans (g3.trans g4)), o4.of_le (g1.trans (g2.trans g3))⟩
      simp only [e1, e2, e3, e4, Option.bind_some, asSl_v, asTup2_tup, avInt_int]

theorem ref01_Sub_spec {h : AH} {s t : Sl} {xs ys : List Nat} (n : Nats h s xs) (m : Nats h t ys) : ∃ (s' : Sl) (h' : AH), go (.fn F.ref01_Sub [s.v, t.v]) h = some (.tup [s'.v, .int .i64 (subN xs ys).2], h') ∧ Nats h' s' (subN xs ys).1 ∧ Grow h h' ∧ Own h s' := by
  rw [u_ref01_Sub, ref01_Right_spec n, Option.bind_some, Option.bind_some, asBool_bool, Option.bind_some, ref01_Right_spec m, Option.bind_some, Option.bind_some, asBool_bool, Option.bind_some]
  cases hx : rt xs with
  | false => exact ⟨⟨none, 0, .is 0⟩, h, by simp [subN, hx], by simpa [subN, hx] using Nats.nil h, Grow.refl h, Own.nil h⟩
  | true =>
    cases hy : rt ys with
    | false => exact ⟨⟨none, 0, .is 0⟩, h, by simp [subN, hy], by simpa [subN, hy] using Nats.nil h, Grow.refl h, Own.nil h⟩
    | true =>
      simp only [Bool.not_true, cond_false]
      have lx := (rt_iff.1 hx).1
      have ly := (rt_iff.1 hy).1
      obtain ⟨d1, h1, e1, n1, g1, o1⟩ := ref01_In_spec n (by omega)
      obtain ⟨d2, h2, e2, n2, g2, o2⟩ := ref01_In_spec (m.grow g1) (by omega)
      have k1 := digsD_len n.lt lx
      have k2 := digsD_len m.lt ly
      have ec := ref01_compare_spec (n1.grow g2) n2 (digs_lt D2 _) (digs_lt D2 _) (digs_trim D2 _) (digs_trim D2 _)
      rw [num_digs D2, num_digs D2] at ec
      simp only [e1, e2, ec, Option.bind_some, asSl_v, avInt_int]
      by_cases hc : num B xs < num B ys
      · rw [show subN xs ys = ([], 2) from by simp [subN, hx, hy, hc]]
        rw [show decide (cmp (num B xs) (num B ys) < 0) = true from by rw [decide_eq_true_eq]; simp [cmp, hc]]
        exact ⟨⟨none, 0, .is 0⟩, h2, rfl, Nats.nil _, g1.trans g2, Own.nil h⟩
      · rw [show subN xs ys = told (num B xs - num B ys) from by rw [told_small n.lt lx]; simp [subN, hx, hy, hc]]
        rw [show decide (cmp (num B xs) (num B ys) < 0) = false from by rw [decide_eq_false_iff_not]; unfold cmp; rw [if_neg hc]; split <;> omega]
        simp only [cond_false]
        have hlen : (digs D (num B ys)).length ≤ (digs D (num B xs)).length := by
          rw [digs_len D2]
          have := (digs_len D2 (num B xs) _).1 (Nat.le_refl _)
          omega
        obtain ⟨d3, h3, e3, n3, g3, o3⟩ := ref01_sub_spec (n1.grow g2) n2 (digs_lt D2 _) (digs_lt D2 _) (by omega) hlen (by rw [num_digs D2, num_digs D2]; omega)
        rw [num_digs D2, num_digs D2] at n3
        have k3 : (digs D (num B xs - num B ys)).length ≤ 536870912 := by
          have : (digs D (num B xs - num B ys)).length ≤ 256 := by
            rw [digs_len D2] at k1 ⊢
            omega
          omega
        obtain ⟨d4, h4, e4, n4, g4, o4⟩ := ref01_told_spec n3 (digs_lt D2 _) (digs_trim D2 _) k3
        rw [num_digs D2] at e4 n4
        refine ⟨d4, h4, ?_, n4, g1.trans (g2.trans (g3.trans g4)), o4.of_le (g1.trans (g2.trans g3))⟩
        simp only [e3, e4, Option.bind_some, asSl_v, asTup2_tup, avInt_int]

end Go.Ab
