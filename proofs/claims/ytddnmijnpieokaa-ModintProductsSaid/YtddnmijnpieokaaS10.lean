/- Layer 1: differences. -/
import Derived.Test.YtddnmijnpieokaaS9
set_option linter.unusedVariables false
set_option linter.unusedSimpArgs false
set_option maxRecDepth 10000
namespace Go.Ab
open Go.Proofs Go.Num

theorem prim_sub_eq (x y c : Int) : prim "math/bits.Sub64" [.int .u64 x, .int .u64 y, .int .u64 c] = cond (decide (0 ≤ x ∧ 0 ≤ y ∧ y < 18446744073709551616 ∧ 0 ≤ c ∧ c ≤ 1)) (some (AV.tup [.int .u64 ((x - y - c) % 18446744073709551616), .int .u64 (cond (decide (x < y + c)) 1 0)])) none := by
  unfold prim
  have s1 : ("math/bits.Sub64" == "math/bits.Add64") = false := by decide +kernel
  rw [s1]
  rfl

theorem prim_sub {x y c : Nat} (hx : x < B) (hy : y < B) (hc : c ≤ 1) : ∃ z w : Nat, prim "math/bits.Sub64" [u64 x, u64 y, u64 c] = some (.tup [u64 z, u64 w]) ∧ z < B ∧ w ≤ 1 ∧ z + y + c = x + B * w := by
  have hx : x < 18446744073709551616 := hx
  have hy : y < 18446744073709551616 := hy
  have e : prim "math/bits.Sub64" [u64 x, u64 y, u64 c] = cond (decide (0 ≤ (x : Int) ∧ 0 ≤ (y : Int) ∧ (y : Int) < 18446744073709551616 ∧ 0 ≤ (c : Int) ∧ (c : Int) ≤ 1)) (some (AV.tup [.int .u64 (((x : Int) - y - c) % 18446744073709551616), .int .u64 (cond (decide ((x : Int) < y + c)) 1 0)])) none := prim_sub_eq _ _ _
  rw [e, show decide (0 ≤ (x : Int) ∧ 0 ≤ (y : Int) ∧ (y : Int) < 18446744073709551616 ∧ 0 ≤ (c : Int) ∧ (c : Int) ≤ 1) = true from by rw [decide_eq_true_eq]; omega, cond_true]
  obtain ⟨z, hz⟩ : ∃ z : Nat, ((x : Int) - y - c) % 18446744073709551616 = (z : Int) := ⟨_, (Int.toNat_of_nonneg (Int.emod_nonneg _ (by decide))).symm⟩
  rw [hz]
  by_cases h : x < y + c
  · rw [show decide ((x : Int) < y + c) = true from by rw [decide_eq_true_eq]; omega]
    have k1 : z < 18446744073709551616 := by omega
    have k2 : z + y + c = x + 18446744073709551616 * 1 := by omega
    exact ⟨z, 1, rfl, k1, by omega, k2⟩
  · rw [show decide ((x : Int) < y + c) = false from by rw [decide_eq_false_iff_not]; omega]
    have k1 : z < 18446744073709551616 := by omega
    have k2 : z + y + c = x + 18446744073709551616 * 0 := by omega
    exact ⟨z, 0, rfl, k1, by omega, k2⟩

theorem sub_step {b p c x y z w zs ys xs : Nat} (inv : zs + ys = xs + p * c) (heq : z + y + c = x + b * w) : zs + p * z + (ys + p * y) = xs + p * x + p * b * w := by
  have := congrArg (fun q => p * q) heq
  simp only [Nat.mul_add] at this
  rw [Nat.mul_assoc]
  omega

theorem nat_less_loop {h : AH} {s t : Sl} {xs ys : List Nat} (n : Nats h s xs) (m : Nats h t ys) (hl : ys.length ≤ xs.length) (hs : xs.length < 4611686018427387904) {j : Nat} (hj : h.blks.size ≤ j) :
    ∀ (k i : Nat), i + k = xs.length → ∀ {hi : AH} {zs : List Nat} {c : Nat}, Grow h hi → hi.has j (zs.map u64) T.uint64 → zs.length = xs.length → (∀ z ∈ zs, z < 18446744073709551616) → c ≤ 1 →
      num B (zs.take i) + num B (ys.take i) = num B (xs.take i) + B ^ i * c →
      ∃ (h' : AH) (zs' : List Nat) (c' : Nat), go (.pt F.nat_less Td.nat_less_4 [(0, s.v), (1, t.v), (5, Sl.v ⟨some (.new j 0), xs.length, .is xs.length⟩), (6, u64 c), (13, .int .i64 (xs.length : Int)), (14, .int .i64 (i : Int))]) hi =
        some (Sl.v ⟨some (.new j 0), xs.length, .is xs.length⟩, h') ∧ Grow h h' ∧ h'.has j (zs'.map u64) T.uint64 ∧ zs'.length = xs.length ∧ (∀ z ∈ zs', z < 18446744073709551616) ∧ num B zs' + num B ys = num B xs + B ^ xs.length * c'
  | 0, i, hik, hi, zs, c, g, b, hz, hlt, hc, inv => by
    rw [p_nat_less_4, show decide ((i : Int) < (xs.length : Int)) = false from by rw [decide_eq_false_iff_not]; omega, cond_false]
    have : i = xs.length := by omega
    subst this
    rw [List.take_of_length_le (by omega), List.take_of_length_le hl, List.take_length] at inv
    exact ⟨hi, zs, c, rfl, g, b, hz, hlt, inv⟩
  | k + 1, i, hik, hi, zs, c, g, b, hz, hlt, hc, inv => by
    have n' := n.grow g
    have m' := m.grow g
    obtain ⟨r, e1, e2⟩ := n'.at (i := i) (by omega)
    have hx : xs.getD i 0 < B := nats_getD_lt n.lt i
    have hy : ys.getD i 0 < B := nats_getD_lt m.lt i
    obtain ⟨z, w, pa, hzB, hw, heq⟩ := prim_sub hx hy hc
    have next : ∃ (h' : AH) (zs' : List Nat) (c' : Nat), go (.pt F.nat_less Td.nat_less_4 [(0, s.v), (1, t.v), (5, Sl.v ⟨some (.new j 0), xs.length, .is xs.length⟩), (6, u64 w), (13, .int .i64 (xs.length : Int)), (14, .int .i64 ((i + 1 : Nat) : Int))]) (hi.upd j ((zs.set i z).map u64) T.uint64) =
        some (Sl.v ⟨some (.new j 0), xs.length, .is xs.length⟩, h') ∧ Grow h h' ∧ h'.has j (zs'.map u64) T.uint64 ∧ zs'.length = xs.length ∧ (∀ z ∈ zs', z < 18446744073709551616) ∧ num B zs' + num B ys = num B xs + B ^ xs.length * c' := by
      refine nat_less_loop n m hl hs hj k (i + 1) (by omega) (g.upd hj _ _) (AH.has_upd b _ _) (by simpa using hz) (fun y hym => ?_) hw ?_
      · rcases List.mem_or_eq_of_mem_set hym with h1 | rfl
        · exact hlt y h1
        · exact hzB
      · rw [num_take_set B zs _ (by omega), num_take_getD B xs i, num_take_getD B ys i, Nat.pow_succ]
        exact sub_step inv heq
    rw [p_nat_less_4, show decide ((i : Int) < (xs.length : Int)) = true from by rw [decide_eq_true_eq]; omega, cond_true, m.len, wrap_succ (by omega)]
    generalize prim "math/bits.Sub64" = f at pa ⊢
    have put : idx (some (.new j 0)) xs.length (i : Int) 1 = some (.new j i) := by
      rw [idx_some _ _ _ _ (by omega) (by omega)]
      simp
    by_cases hi2 : i < ys.length
    · obtain ⟨q, e3, e4⟩ := m'.at (i := i) hi2
      rw [show decide ((i : Int) < (ys.length : Int)) = true from by rw [decide_eq_true_eq]; omega, cond_true]
      rw [← m.len, e3, e1]
      rw [Option.bind_some, e4, Option.bind_some, avInt_int, Option.bind_some, Option.bind_some, e2, Option.bind_some, avInt_int, Option.bind_some]
      have ex : ((xs[i] : Nat) : Int) = ((xs.getD i 0 : Nat) : Int) := by rw [getD_lt (by omega)]
      have ey : ((ys[i] : Nat) : Int) = ((ys.getD i 0 : Nat) : Int) := by rw [getD_lt hi2]
      rw [ex, ey]
      simp only [u64] at pa ⊢
      rw [pa]
      simp only [Option.map_some, Option.bind_some, asTup2_tup, avInt_int, put]
      rw [show hi.puts (.new j i) [AV.int .u64 ((z : Nat) : Int)] = _ from put_u64 b _ (by omega)]
      exact next
    · have hy0 : ys.getD i 0 = 0 := by simp [List.getD, List.getElem?_eq_none (show ys.length ≤ i by omega)]
      rw [show decide ((i : Int) < (ys.length : Int)) = false from by rw [decide_eq_false_iff_not]; omega, cond_false, e1]
      simp only [Option.bind_some, e2, avInt_int]
      have ex : ((xs[i] : Nat) : Int) = ((xs.getD i 0 : Nat) : Int) := by rw [getD_lt (by omega)]
      rw [ex]
      simp only [u64] at pa ⊢
      rw [hy0] at pa
      rw [show (AV.int .u64 0) = AV.int .u64 ((0 : Nat) : Int) from rfl, pa]
      simp only [Option.map_some, Option.bind_some, asTup2_tup, avInt_int, put]
      rw [show hi.puts (.new j i) [AV.int .u64 ((z : Nat) : Int)] = _ from put_u64 b _ (by omega)]
      exact next

/-- A difference that is not below 0. -/
theorem nat_less_spec {h : AH} {s t : Sl} {xs ys : List Nat} (n : Nats h s xs) (m : Nats h t ys) (hx : xs.length ≤ 1073741824) (hl : ys.length ≤ xs.length) (hle : num B ys ≤ num B xs) :
    ∃ (s' : Sl) (h' : AH) (zs : List Nat), go (.fn F.nat_less [s.v, t.v]) h = some (s'.v, h') ∧ Nats h' s' zs ∧ Grow h h' ∧ Own h s' ∧ num B zs = num B xs - num B ys ∧ zs.length = xs.length := by
  rw [u_nat_less, n.len, make_u64 rfl (by omega)]
  simp only [Option.bind_some]
  have g0 := Grow.push h (.cells ((List.replicate xs.length 0).map u64) T.uint64)
  have b0 := AH.has_push h ((List.replicate xs.length 0).map u64) T.uint64
  obtain ⟨h', zs, c, e1, g1, b1, l1, lt1, v1⟩ := nat_less_loop n m hl (by omega) (Nat.le_refl h.blks.size) xs.length 0 (by omega) (c := 0) g0 b0 (by simp) (by simp) (by omega) (by simp [num])
  have hb := num_lt (b := B) (by decide) lt1
  rw [l1] at hb
  have c0 : c = 0 := by
    rcases Nat.eq_zero_or_pos c with h0 | h0
    · exact h0
    · have : B ^ xs.length * 1 ≤ B ^ xs.length * c := Nat.mul_le_mul_left _ h0
      omega
  rw [c0, Nat.mul_zero, Nat.add_zero] at v1
  refine ⟨_, h', zs, e1, ⟨Cells.of_has b1 (by simp [l1]), lt1, by omega⟩, g1, fun r hr => ?_, by omega, l1⟩
  cases hr
  exact ⟨_, _, rfl, Nat.le_refl _⟩

/-- A difference. -/
def subN (xs ys : List Nat) : List Nat × Int := if rt xs = true ∧ rt ys = true then (if num B xs < num B ys then ([], 2) else (digs B (num B xs - num B ys), 0)) else ([], 1)

theorem len_le_of_num {xs ys : List Nat} (hx : ∀ x ∈ xs, x < 18446744073709551616) (hy : ∀ x ∈ ys, x < 18446744073709551616) (ty : Trim ys) (h : num B ys ≤ num B xs) : ys.length ≤ xs.length := by
  rcases Nat.lt_or_ge xs.length ys.length with h1 | h1
  · have := num_le_len B2 hx hy ty h1
    omega
  · exact h1

theorem told_small {xs ys : List Nat} (hx : ∀ x ∈ xs, x < 18446744073709551616) (h : xs.length ≤ 64) : told (num B xs - num B ys) = (digs B (num B xs - num B ys), 0) := by
  have h1 := num_lt (b := B) (by decide) hx
  have h2 : B ^ xs.length ≤ B ^ 64 := Nat.pow_le_pow_right (by decide) h
  unfold told
  rw [if_pos (by omega)]

theorem nat_Sub_spec {h : AH} {s t : Sl} {xs ys : List Nat} (n : Nats h s xs) (m : Nats h t ys) : ∃ (s' : Sl) (h' : AH), go (.fn F.nat_Sub [s.v, t.v]) h = some (.tup [s'.v, .int .i64 (subN xs ys).2], h') ∧ Nats h' s' (subN xs ys).1 ∧ Grow h h' ∧ Own h s' := by
  rw [u_nat_Sub]
  simp only [newK_eq]
  have r := Rows.two n m
  have g := Grow.push h (.cells [s.v, t.v] T.api_Nat)
  generalize h.push (.cells [s.v, t.v] T.api_Nat) = h0 at *
  rw [nat_right_spec r]
  simp only [Option.bind_some, asBool_bool, List.all_cons, List.all_nil, Bool.and_true]
  by_cases hb : rt xs = true ∧ rt ys = true
  · simp only [hb.1, hb.2, Bool.and_self, Bool.not_true, cond_false]
    have lx := rt_iff.1 hb.1
    have ly := rt_iff.1 hb.2
    rw [nat_compare_spec (n.grow g) (m.grow g) lx.2 ly.2]
    simp only [Option.bind_some, avInt_int]
    by_cases hc : num B xs < num B ys
    · rw [show subN xs ys = ([], 2) from by simp [subN, hb, hc]]
      rw [show decide (cmp (num B xs) (num B ys) < 0) = true from by rw [decide_eq_true_eq]; simp [cmp, hc]]
      exact ⟨⟨none, 0, .is 0⟩, h0, rfl, Nats.nil _, g, Own.nil h⟩
    · rw [show subN xs ys = told (num B xs - num B ys) from by rw [told_small n.lt lx.1]; simp [subN, hb, hc]]
      rw [show decide (cmp (num B xs) (num B ys) < 0) = false from by rw [decide_eq_false_iff_not]; unfold cmp; rw [if_neg hc]; split <;> omega]
      simp only [cond_false]
      obtain ⟨s1, h1, zs, e1, n1, g1, o1, v1, _⟩ := nat_less_spec (n.grow g) (m.grow g) (by omega) (len_le_of_num n.lt m.lt ly.2 (by omega)) (by omega)
      obtain ⟨s2, e2, n2, o2⟩ := nat_told_spec n1
      rw [v1] at e2 n2
      simp only [e1, e2, Option.bind_some, asSl_v, asTup2_tup, avInt_int]
      exact ⟨s2, h1, rfl, n2, g.trans g1, (o2 h0 o1).of_le g⟩
  · rw [show subN xs ys = ([], 1) from by simp only [subN, if_neg hb]]
    have : (rt xs && rt ys) = false := by
      cases hx : rt xs <;> cases hy : rt ys <;> simp_all
    rw [this]
    exact ⟨⟨none, 0, .is 0⟩, h0, rfl, Nats.nil _, g, Own.nil h⟩

end Go.Ab
