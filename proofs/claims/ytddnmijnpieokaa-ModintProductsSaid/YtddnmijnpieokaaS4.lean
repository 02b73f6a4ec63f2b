/- Layers 1 and 3: small numbers, sameness; the first law of layer 3. -/
import Derived.Test.YtddnmijnpieokaaS3
set_option linter.unusedVariables false
set_option linter.unusedSimpArgs false
set_option maxRecDepth 10000
namespace Go.Ab
open Go.Proofs Go.Num

/-- Small, of limbs. -/
def smallN (xs : List Nat) : Nat × Bool := if rt xs = true ∧ xs.length ≤ 1 then (xs.getD 0 0, true) else (0, false)

theorem nat_Small_spec {h : AH} {s : Sl} {xs : List Nat} (n : Nats h s xs) : go (.fn F.nat_Small [s.v]) h = some (.tup [.int .u64 ((smallN xs).1 : Int), .bool (smallN xs).2], h) := by
  rw [u_nat_Small, nat_Right_spec n]
  have hl := n.len
  simp only [Option.bind_some, asBool_bool]
  cases hrt : rt xs with
  | false => simp [smallN, hrt]
  | true =>
    simp only [Bool.not_true, cond_false]
    by_cases h1 : xs.length ≤ 1
    · rw [show decide ((s.len : Int) > 1) = false from by rw [decide_eq_false_iff_not]; omega, cond_false]
      simp only [smallN, hrt, h1, and_self, if_true]
      by_cases h0 : xs.length = 0
      · rw [show decide ((s.len : Int) = 0) = true from by rw [decide_eq_true_eq]; omega, cond_true, List.length_eq_zero_iff.1 h0]
        rfl
      · rw [show decide ((s.len : Int) = 0) = false from by rw [decide_eq_false_iff_not]; omega, cond_false]
        obtain ⟨r, e1, e2⟩ := n.at (i := 0) (by omega)
        rw [show idx s.ref s.len 0 1 = some r from e1]
        simp only [Option.bind_some, e2, avInt_int]
        rw [getD_lt (by omega)]
    · rw [show decide ((s.len : Int) > 1) = true from by rw [decide_eq_true_eq]; omega]
      simp [smallN, h1]

theorem ref01_Small_spec {h : AH} {s : Sl} {xs : List Nat} (n : Nats h s xs) : go (.fn F.ref01_Small [s.v]) h = some (.tup [.int .u64 ((smallN xs).1 : Int), .bool (smallN xs).2], h) := by
  rw [u_ref01_Small, ref01_Right_spec n]
  have hl := n.len
  simp only [Option.bind_some, asBool_bool]
  cases hrt : rt xs with
  | false => simp [smallN, hrt]
  | true =>
    simp only [Bool.not_true, cond_false]
    by_cases h1 : xs.length ≤ 1
    · rw [show decide ((s.len : Int) > 1) = false from by rw [decide_eq_false_iff_not]; omega, cond_false]
      simp only [smallN, hrt, h1, and_self, if_true]
      by_cases h0 : xs.length = 0
      · rw [show decide ((s.len : Int) = 0) = true from by rw [decide_eq_true_eq]; omega, cond_true, List.length_eq_zero_iff.1 h0]
        rfl
      · rw [show decide ((s.len : Int) = 0) = false from by rw [decide_eq_false_iff_not]; omega, cond_false]
        obtain ⟨r, e1, e2⟩ := n.at (i := 0) (by omega)
        rw [show idx s.ref s.len 0 1 = some r from e1]
        simp only [Option.bind_some, e2, avInt_int]
        rw [getD_lt (by omega)]
    · rw [show decide ((s.len : Int) > 1) = true from by rw [decide_eq_true_eq]; omega]
      simp [smallN, h1]

/-- May the parts be a whole number? -/
def rtI (neg : Bool) (xs : List Nat) : Bool := rt xs && (!neg || decide (xs ≠ []))

theorem modint_Right_spec {h : AH} {s : Sl} {xs : List Nat} (n : Nats h s xs) (neg : Bool) : ∃ h', go (.fn F.modint_Right [.agg [.bool neg, s.v]]) h = some (.bool (rtI neg xs), h') ∧ Grow h h' := by
  rw [u_modint_Right]
  simp only [newK_eq]
  have b0 := AH.has_push h [.bool neg, s.v] T.api_Int
  have g0 := Grow.push h (.cells [.bool neg, s.v] T.api_Int)
  have n0 := n.grow g0
  have hl := n.len
  generalize h.push (.cells [.bool neg, s.v] T.api_Int) = h0 at *
  refine ⟨h0, ?_, g0⟩
  simp [b0.cell, nat_Right_spec n0, rtI]
  cases rt xs <;> cases neg <;> simp [hl]
  cases xs <;> simp

theorem ref03_Right_spec {h : AH} {s : Sl} {xs : List Nat} (n : Nats h s xs) (neg : Bool) : ∃ h', go (.fn F.ref03_Right [.agg [.bool neg, s.v]]) h = some (.bool (rtI neg xs), h') ∧ Grow h h' := by
  rw [u_ref03_Right]
  simp only [newK_eq]
  have b0 := AH.has_push h [.bool neg, s.v] T.api_Int
  have g0 := Grow.push h (.cells [.bool neg, s.v] T.api_Int)
  have n0 := n.grow g0
  have hl := n.len
  generalize h.push (.cells [.bool neg, s.v] T.api_Int) = h0 at *
  refine ⟨h0, ?_, g0⟩
  simp [b0.cell, ref01_Right_spec n0, rtI]
  cases rt xs <;> cases neg <;> simp [hl]
  cases xs <;> simp

/-- Small, of a whole number. -/
def smallI (neg : Bool) (xs : List Nat) : Int × Bool :=
  if rtI neg xs = true ∧ (smallN xs).2 = true ∧ (smallN xs).1 ≤ (if neg = true then 9223372036854775808 else 9223372036854775807) then ((if neg = true then -((smallN xs).1 : Int) else ((smallN xs).1 : Int)), true) else (0, false)

theorem modint_Small_spec {h : AH} {s : Sl} {xs : List Nat} (n : Nats h s xs) (neg : Bool) : ∃ h', go (.fn F.modint_Small [.agg [.bool neg, s.v]]) h = some (.tup [.int .i64 (smallI neg xs).1, .bool (smallI neg xs).2], h') ∧ Grow h h' := by
  rw [u_modint_Small]
  simp only [newK_eq]
  have b0 := AH.has_push h [.bool neg, s.v] T.api_Int
  have g0 := Grow.push h (.cells [.bool neg, s.v] T.api_Int)
  have n0 := n.grow g0
  generalize h.push (.cells [.bool neg, s.v] T.api_Int) = h0 at *
  obtain ⟨h1, e1, g1⟩ := modint_Right_spec n0 neg
  have b1 := g1.has b0
  refine ⟨h1, ?_, g0.trans g1⟩
  have hb : (smallN xs).1 < 18446744073709551616 := by
    unfold smallN
    split
    · rename_i hx
      rcases Nat.eq_zero_or_pos xs.length with h0' | h0'
      · rw [List.length_eq_zero_iff.1 h0']; decide
      · rw [getD_lt h0']; exact n.lt _ (List.getElem_mem _)
    · decide
  have w1 : IntKind.wrap .u64 (9223372036854775807 + 1) = 9223372036854775808 := by rw [wrapU]; rfl
  cases neg with
  | true =>
    simp only [Ref.add_new, Nat.zero_add, b0.cell, b1.cell, List.getElem?_cons_zero, List.getElem?_cons_succ, Option.bind_some, asBool_bool, asSl_v, nat_Small_spec n0, asTup2_tup, avInt_int, cond_true, e1, w1]
    unfold smallI
    cases rtI true xs <;> cases (smallN xs).2 <;> simp
    by_cases hle : (smallN xs).1 ≤ 9223372036854775808
    · rw [show decide (9223372036854775808 < ((smallN xs).1 : Int)) = false from by rw [decide_eq_false_iff_not]; omega]
      simp only [cond_false, hle, if_true]
      congr 3
      rw [wrapU]
      simp [IntKind.wrap, IntKind.bits, IntKind.signed]
      omega
    · rw [show decide (9223372036854775808 < ((smallN xs).1 : Int)) = true from by rw [decide_eq_true_eq]; omega]
      simp [hle]
  | false =>
    simp only [Ref.add_new, Nat.zero_add, b0.cell, b1.cell, List.getElem?_cons_zero, List.getElem?_cons_succ, Option.bind_some, asBool_bool, asSl_v, nat_Small_spec n0, asTup2_tup, avInt_int, cond_false, e1]
    unfold smallI
    cases rtI false xs <;> cases (smallN xs).2 <;> simp
    by_cases hle : (smallN xs).1 ≤ 9223372036854775807
    · rw [show decide (9223372036854775807 < ((smallN xs).1 : Int)) = false from by rw [decide_eq_false_iff_not]; omega]
      simp only [cond_false, hle, if_true]
      rw [wrap64 (by omega) (by omega)]
    · rw [show decide (9223372036854775807 < ((smallN xs).1 : Int)) = true from by rw [decide_eq_true_eq]; omega]
      simp [hle]

theorem ref03_Small_spec {h : AH} {s : Sl} {xs : List Nat} (n : Nats h s xs) (neg : Bool) : ∃ h', go (.fn F.ref03_Small [.agg [.bool neg, s.v]]) h = some (.tup [.int .i64 (smallI neg xs).1, .bool (smallI neg xs).2], h') ∧ Grow h h' := by
  rw [u_ref03_Small]
  simp only [newK_eq]
  have b0 := AH.has_push h [.bool neg, s.v] T.api_Int
  have g0 := Grow.push h (.cells [.bool neg, s.v] T.api_Int)
  have n0 := n.grow g0
  generalize h.push (.cells [.bool neg, s.v] T.api_Int) = h0 at *
  obtain ⟨h1, e1, g1⟩ := ref03_Right_spec n0 neg
  have b1 := g1.has b0
  have n1 := n0.grow g1
  refine ⟨h1, ?_, g0.trans g1⟩
  have hb : (smallN xs).1 < 18446744073709551616 := by
    unfold smallN
    split
    · rename_i hx
      rcases Nat.eq_zero_or_pos xs.length with h0' | h0'
      · rw [List.length_eq_zero_iff.1 h0']; decide
      · rw [getD_lt h0']; exact n.lt _ (List.getElem_mem _)
    · decide
  have hz : neg = true → rtI neg xs = true → (smallN xs).2 = true → 1 ≤ (smallN xs).1 := by
    rintro rfl h1 h2
    unfold smallN at h2 ⊢
    split at h2
    · rename_i hx
      rw [if_pos hx]
      simp only [rtI, Bool.not_true, Bool.false_or, Bool.and_eq_true, decide_eq_true_eq] at h1
      obtain ⟨hr, hne⟩ := h1
      have ht := (rt_iff.1 hr).2 hne
      rw [List.getLast_eq_getElem] at ht
      have hl : xs.length = 1 := by
        have : xs.length ≠ 0 := fun e => hne (List.length_eq_zero_iff.1 e)
        omega
      rw [getD_lt (by omega)]
      have : xs[xs.length - 1]'(by omega) = xs[0]'(by omega) := by congr 1; omega
      omega
    · cases h2
  cases neg with
  | true =>
    simp only [Ref.add_new, Nat.zero_add, b0.cell, b1.cell, List.getElem?_cons_zero, List.getElem?_cons_succ, Option.bind_some, asBool_bool, asSl_v, ref01_Small_spec n1, asTup2_tup, avInt_int, cond_true, e1, Bool.not_true, cond_false]
    unfold smallI
    have hz := hz rfl
    cases hr : rtI true xs <;> cases h2 : (smallN xs).2 <;> simp
    have hz := hz hr h2
    by_cases hle : (smallN xs).1 ≤ 9223372036854775808
    · rw [show decide (9223372036854775808 < ((smallN xs).1 : Int)) = false from by rw [decide_eq_false_iff_not]; omega]
      simp only [cond_false, hle, if_true]
      congr 3
      rw [wrapU, Int.emod_eq_of_lt (by omega) (by omega), wrap64 (n := ((smallN xs).1 : Int) - 1) (by omega) (by omega), wrap64 (n := -(((smallN xs).1 : Int) - 1)) (by omega) (by omega), wrap64 (by omega) (by omega)]
      rw [show -(((smallN xs).1 : Int) - 1) - 1 = -((smallN xs).1 : Int) from by omega]
    · rw [show decide (9223372036854775808 < ((smallN xs).1 : Int)) = true from by rw [decide_eq_true_eq]; omega]
      simp [hle]
  | false =>
    simp only [Ref.add_new, Nat.zero_add, b0.cell, b1.cell, List.getElem?_cons_zero, List.getElem?_cons_succ, Option.bind_some, asBool_bool, asSl_v, ref01_Small_spec n1, asTup2_tup, avInt_int, cond_false, e1, Bool.not_false, cond_true]
    unfold smallI
    cases rtI false xs <;> cases (smallN xs).2 <;> simp
    by_cases hle : (smallN xs).1 ≤ 9223372036854775807
    · rw [show decide (9223372036854775807 < ((smallN xs).1 : Int)) = false from by rw [decide_eq_false_iff_not]; omega]
      simp only [cond_false, hle, if_true]
      rw [wrap64 (by omega) (by omega)]
    · rw [show decide (9223372036854775807 < ((smallN xs).1 : Int)) = true from by rw [decide_eq_true_eq]; omega]
      simp [hle]

/-! ### Sameness -/
theorem ref01_Same_loop {h : AH} {s t : Sl} {xs : List Nat} (n : Nats h s xs) (m : Nats h t xs) : ∀ (k i : Nat), i + k = xs.length →
    go (.pt F.ref01_Same Td.ref01_Same_4 [(0, s.v), (1, t.v), (5, .int .i64 (i : Int))]) h = some (.bool true, h)
  | 0, i, hi => by
    rw [p_ref01_Same_4, n.len, show decide ((i : Int) < (xs.length : Int)) = false from by rw [decide_eq_false_iff_not]; omega]
    rfl
  | k + 1, i, hi => by
    have hs := n.short
    obtain ⟨r, e1, e2⟩ := n.at (i := i) (by omega)
    obtain ⟨q, e3, e4⟩ := m.at (i := i) (by omega)
    rw [p_ref01_Same_4, show decide ((i : Int) < (s.len : Int)) = true from by rw [decide_eq_true_eq, n.len]; omega, cond_true, e1, e3]
    simp only [Option.bind_some, e2, e4, avInt_int, decide_true, Bool.not_true, cond_false]
    rw [wrap_succ (by omega)]
    exact ref01_Same_loop n m k (i + 1) (by omega)

/-- The same limbs are the same. -/
theorem ref01_Same_spec {h : AH} {s t : Sl} {xs : List Nat} (n : Nats h s xs) (m : Nats h t xs) : go (.fn F.ref01_Same [s.v, t.v]) h = some (.bool true, h) := by
  rw [u_ref01_Same, n.len, m.len]
  simp only [decide_true, Bool.not_true, cond_false]
  exact ref01_Same_loop n m xs.length 0 (by omega)

theorem ref03_Same_spec {h : AH} {s t : Sl} {xs : List Nat} (n : Nats h s xs) (m : Nats h t xs) (neg : Bool) : ∃ h', go (.fn F.ref03_Same [.agg [.bool neg, s.v], .agg [.bool neg, t.v]]) h = some (.bool true, h') ∧ Grow h h' := by
  rw [u_ref03_Same]
  simp only [newK_eq]
  have b0 := AH.has_push h [.bool neg, s.v] T.api_Int
  have g0 := Grow.push h (.cells [.bool neg, s.v] T.api_Int)
  generalize h.push (.cells [.bool neg, s.v] T.api_Int) = h0 at *
  have b1 := AH.has_push h0 [.bool neg, t.v] T.api_Int
  have g1 := Grow.push h0 (.cells [.bool neg, t.v] T.api_Int)
  generalize h0.push (.cells [.bool neg, t.v] T.api_Int) = h1 at *
  have n1 := n.grow (g0.trans g1)
  have m1 := m.grow (g0.trans g1)
  refine ⟨h1, ?_, g0.trans g1⟩
  simp [b1.cell, (g1.has b0).cell, ref01_Same_spec n1 m1]

end Go.Ab
