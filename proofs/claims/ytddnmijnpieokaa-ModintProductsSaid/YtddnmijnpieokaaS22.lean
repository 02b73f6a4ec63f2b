/- Layer 1: what 'into' answers. -/
import Derived.Test.YtddnmijnpieokaaS21
set_option linter.unusedVariables false
set_option linter.unusedSimpArgs false
set_option maxRecDepth 10000
namespace Go.Ab
open Go.Proofs Go.Num

theorem getD_of {xs : List Nat} {i : Nat} (h : i < xs.length) : List.getD xs i 0 = xs[i] := getD_lt h

theorem into_step {o xs : List Nat} {at' i c : Nat} (ho : o.length ≤ 4611686018427387904) (hx : xs.length ≤ 4611686018427387904) (h1 : i < o.length) (h2 : at' ≤ i) (hc : c ≤ 1) (hs : i - at' < xs.length ∨ 0 < c) :
    nat_into_step (.p2 o xs (at' : Int) (c : Int) (i : Int)) = some (.inl (.p2 (o.set i ((xs.getD (i - at') 0 + o[i] + c) % 18446744073709551616)) xs (at' : Int) (((xs.getD (i - at') 0 + o[i] + c) / 18446744073709551616 : Nat) : Int) ((i + 1 : Nat) : Int))) := by
  show nat_into_p2' _ _ _ _ _ = _
  unfold nat_into_p2'
  have e0 : IntKind.wrap .i64 ((i : Int) - (at' : Int)) = ((i - at' : Nat) : Int) := by rw [wrap64 (by omega) (by omega)]; omega
  have hm : ∀ n : Nat, n % 18446744073709551616 < 18446744073709551616 := fun n => Nat.mod_lt n (by omega)
  rw [condT (by rw [decide_eq_true_eq]; omega), e0]
  by_cases hk : i - at' < xs.length
  · have a1 := add64P_nat o[i] xs[i - at'] hc
    rw [condT (by rw [decide_eq_true_eq]; omega), condT (by rw [decide_eq_true_eq]; omega), atI_nat hk, Option.bind_some, inI_nat h1, Option.bind_some, getD_of h1, a1, Option.bind_some, Option.bind_some]
    dsimp only
    rw [u64P_nat (hm _), Option.bind_some, wrap_succ (by omega), getD_of hk, Nat.add_comm o[i]]
  · have hc' : 0 < c := by omega
    have a1 := add64P_nat o[i] 0 hc
    rw [show ((0 : Nat) : Int) = 0 from rfl] at a1
    rw [condF (by rw [decide_eq_false_iff_not]; omega), condT (by rw [decide_eq_true_eq]; omega), condF (by rw [decide_eq_false_iff_not]; omega), inI_nat h1, Option.bind_some, getD_of h1, a1, Option.bind_some, Option.bind_some]
    dsimp only
    rw [u64P_nat (hm _), Option.bind_some, wrap_succ (by omega), show xs.getD (i - at') 0 = 0 from by simp [List.getD, List.getElem?_eq_none (Nat.le_of_not_lt hk)]]
    rw [Nat.add_comm o[i]]

theorem into_loop {xs : List Nat} {at' T : Nat} (lx : ∀ x ∈ xs, x < B) (hx : xs.length ≤ 4611686018427387904) :
    ∀ (d i : Nat) (o : List Nat) (c : Nat), i + d = o.length → at' ≤ i → o.length ≤ 4611686018427387904 → (∀ y ∈ o, y < B) → c ≤ 1 → num B o + c * B ^ i = T + B ^ at' * num B (xs.take (i - at')) → T + B ^ at' * num B xs < B ^ o.length →
      ∃ r, Iter nat_into_step (.p2 o xs (at' : Int) (c : Int) (i : Int)) r ∧ r.length = o.length ∧ (∀ y ∈ r, y < B) ∧ num B r = T + B ^ at' * num B xs
  | 0, i, o, c, hi, hat, ho, to, hc, inv, bound => by
    have hi : i = o.length := by omega
    subst hi
    have hxs : num B xs = num B (xs.take (o.length - at')) + B ^ (xs.take (o.length - at')).length * num B (xs.drop (o.length - at')) := by
      rw [← num_append, List.take_append_drop]
    have hc0 : c = 0 := by
      rcases Nat.eq_zero_or_pos c with e | e
      · exact e
      · have : c = 1 := by omega
        subst this
        have : B ^ at' * num B (xs.take (o.length - at')) ≤ B ^ at' * num B xs := Nat.mul_le_mul_left _ (by omega)
        omega
    subst hc0
    have hd : num B (xs.take (o.length - at')) = num B xs := by
      by_cases hl : xs.length ≤ o.length - at'
      · rw [List.take_of_length_le hl]
      · rw [List.length_take, Nat.min_eq_left (by omega)] at hxs
        rw [hxs]
        rcases Nat.eq_zero_or_pos (num B (xs.drop (o.length - at'))) with e | e
        · rw [e]; omega
        · exfalso
          have h1 : B ^ (o.length - at') ≤ num B xs := by
            have : B ^ (o.length - at') * 1 ≤ B ^ (o.length - at') * num B (xs.drop (o.length - at')) := Nat.mul_le_mul_left _ e
            omega
          have h2 : B ^ at' * B ^ (o.length - at') ≤ B ^ at' * num B xs := Nat.mul_le_mul_left _ h1
          rw [← Nat.pow_add, show at' + (o.length - at') = o.length from by omega] at h2
          omega
    refine ⟨o, .done ?_, rfl, to, ?_⟩
    · show nat_into_p2' _ _ _ _ _ = _
      unfold nat_into_p2'
      rw [condF (by rw [decide_eq_false_iff_not]; omega)]
    · rw [← hd]
      omega
  | d + 1, i, o, c, hi, hat, ho, to, hc, inv, bound => by
    have h1 : i < o.length := by omega
    by_cases hs : i - at' < xs.length ∨ 0 < c
    · have hm := Nat.mod_lt (xs.getD (i - at') 0 + o[i] + c) (show 0 < 18446744073709551616 by omega)
      have hy : xs.getD (i - at') 0 < 18446744073709551616 := by
        by_cases hk : i - at' < xs.length
        · rw [getD_of hk]; exact lx _ (List.getElem_mem _)
        · rw [show xs.getD (i - at') 0 = 0 from by simp [List.getD, List.getElem?_eq_none (Nat.le_of_not_lt hk)]]
          omega
      have hoi : o[i] < 18446744073709551616 := to _ (List.getElem_mem _)
      obtain ⟨r, it, r1, r2, r3⟩ := into_loop (T := T) (at' := at') lx hx d (i + 1) (o.set i ((xs.getD (i - at') 0 + o[i] + c) % 18446744073709551616)) ((xs.getD (i - at') 0 + o[i] + c) / 18446744073709551616) (by simp; omega) (by omega) (by simpa using ho) (set_lt to hm) (by omega) (by
        have k1 := num_set (b := B) h1 ((xs.getD (i - at') 0 + o[i] + c) % 18446744073709551616)
        have k2 := row_alg k1 (Nat.div_add_mod' (xs.getD (i - at') 0 + o[i] + c) 18446744073709551616).symm inv
        rw [Nat.pow_succ, k2, show i + 1 - at' = i - at' + 1 from by omega, num_take_getD, Nat.mul_add, ← Nat.mul_assoc, ← Nat.pow_add, show at' + (i - at') = i from by omega]
        omega) (by simpa using bound)
      exact ⟨r, .next (into_step ho hx h1 hat hc hs) it, by simpa using r1, r2, r3⟩
    · have hc0 : c = 0 := by omega
      subst hc0
      rw [List.take_of_length_le (by omega)] at inv
      refine ⟨o, .done ?_, rfl, to, by omega⟩
      show nat_into_p2' _ _ _ _ _ = _
      unfold nat_into_p2'
      have e0 : IntKind.wrap .i64 ((i : Int) - (at' : Int)) = ((i - at' : Nat) : Int) := by rw [wrap64 (by omega) (by omega)]; omega
      rw [condT (by rw [decide_eq_true_eq]; omega), e0, condF (by rw [decide_eq_false_iff_not]; omega), condF (by rw [decide_eq_false_iff_not]; omega)]

theorem nat_into_spec {h : AH} {s t : Sl} {i : Nat} {o xs : List Nat} (v : Vec h s i o) (m : Nats h t xs) (av : Av t i xs) {at' : Nat} (hat : at' ≤ o.length) (ho : o.length ≤ 4611686018427387904) (hx : xs.length ≤ 4611686018427387904) (bound : num B o + B ^ at' * num B xs < B ^ o.length) :
    ∃ (h' : AH) (r : List Nat), go (.fn F.nat_into [s.v, t.v, .int .i64 (at' : Int)]) h = some (.tup [], h') ∧ Vec h' s i r ∧ Upd h h' i ∧ r.length = o.length ∧ num B r = num B o + B ^ at' * num B xs := by
  obtain ⟨r, it, r1, r2, r3⟩ := into_loop (T := num B o) (at' := at') m.lt hx (o.length - at') at' o 0 (by omega) (Nat.le_refl _) ho v.lt (by omega) (by simp [num]) bound
  obtain ⟨_, h', e, rfl, v', u⟩ := nat_into_run (.next (s := .fn o xs (at' : Int)) rfl it) v m av
  exact ⟨h', r, e, v', u, r1, r3⟩

end Go.Ab
