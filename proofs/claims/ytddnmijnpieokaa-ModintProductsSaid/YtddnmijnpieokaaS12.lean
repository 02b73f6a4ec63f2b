/- Layer 1, the document's: differences, answers. -/
import Derived.Test.YtddnmijnpieokaaS11
set_option linter.unusedVariables false
set_option linter.unusedSimpArgs false
set_option maxRecDepth 10000
namespace Go.Ab
open Go.Proofs Go.Num

theorem sub_digit {x y c : Nat} (hx : x < 65536) (hy : y < 65536) (hc : c ≤ 1) : ∃ z w : Nat, z < 65536 ∧ w ≤ 1 ∧ z + y + c = x + 65536 * w ∧
    Int.tmod (IntKind.wrap .u64 ((IntKind.wrap .u64 ((IntKind.wrap .u64 (65536 + (x : Int))) - (y : Int))) - (c : Int))) 65536 = (z : Int) ∧
    IntKind.wrap .u64 (1 - (IntKind.wrap .u64 (Int.tdiv (IntKind.wrap .u64 ((IntKind.wrap .u64 ((IntKind.wrap .u64 (65536 + (x : Int))) - (y : Int))) - (c : Int))) 65536))) = (w : Int) := by
  have e : IntKind.wrap .u64 ((IntKind.wrap .u64 ((IntKind.wrap .u64 (65536 + (x : Int))) - (y : Int))) - (c : Int)) = 65536 + (x : Int) - y - c := by
    rw [wrapU, wrapU, wrapU]
    omega
  rw [e]
  have p : 0 ≤ 65536 + (x : Int) - y - c := by omega
  rw [Int.tmod_eq_emod_of_nonneg p, Int.tdiv_eq_ediv_of_nonneg p]
  by_cases h : x < y + c
  · exact ⟨(65536 + (x : Int) - y - c).toNat, 1, by omega, by omega, by omega, by omega, by rw [wrapU, wrapU]; omega⟩
  · exact ⟨((x : Int) - y - c).toNat, 0, by omega, by omega, by omega, by omega, by rw [wrapU, wrapU]; omega⟩

theorem ref01_sub_loop {h : AH} {s t : Sl} {xs ys : List Nat} (n : Nats h s xs) (m : Nats h t ys) (hx : ∀ x ∈ xs, x < D) (hy : ∀ x ∈ ys, x < D) (lx : xs.length ≤ 1073741824) (lyx : ys.length ≤ xs.length) (hle : num D ys ≤ num D xs) :
    ∀ (k i : Nat), i + k = xs.length → ∀ {hi : AH} {d : Sl} {ds : List Nat} {c : Nat}, Mine h hi d T.uint64 1 (ds.map u64) → ds.length = i → (∀ z ∈ ds, z < D) → c ≤ 1 → num D ds + num D (ys.take i) = num D (xs.take i) + D ^ i * c →
      ∃ (s' : Sl) (h' : AH), go (.pt F.ref01_sub Td.ref01_sub_4 [(0, s.v), (1, t.v), (5, d.v), (6, u64 c), (7, .int .i64 (i : Int))]) hi = some (s'.v, h') ∧ Nats h' s' (digs D (num D xs - num D ys)) ∧ Grow h h' ∧ Own h s'
  | 0, i, hik, hi, d, ds, c, M, hl, hd, hc, inv => by
    have i1 : i = xs.length := by omega
    rw [p_ref01_sub_4, n.len, show decide ((i : Int) < (xs.length : Int)) = false from by rw [decide_eq_false_iff_not]; omega, cond_false]
    have N : Nats hi d ds := ⟨M.cells, fun z hz => by have : z < 65536 := hd z hz; omega, by omega⟩
    obtain ⟨s', e2, n2, o2⟩ := ref01_cut_spec N hd
    have v : num D ds = num D xs - num D ys := by
      rw [List.take_of_length_le (by omega), List.take_of_length_le (by omega)] at inv
      have b := num_lt (b := D) (by decide) hd
      rw [hl] at b
      have c0 : c = 0 := by
        rcases Nat.eq_zero_or_pos c with h0 | h0
        · exact h0
        · have : D ^ i * 1 ≤ D ^ i * c := Nat.mul_le_mul_left _ h0
          omega
      rw [c0, Nat.mul_zero] at inv
      omega
    rw [v] at n2
    refine ⟨s', hi, ?_, n2, M.grow, o2 h M.own_of⟩
    rw [e2, Option.bind_some, Option.bind_some, asSl_v, Option.bind_some]
  | k + 1, i, hik, hi, d, ds, c, M, hl, hd, hc, inv => by
    have n' := n.grow M.grow
    have m' := m.grow M.grow
    obtain ⟨r, e1, e2⟩ := n'.at (i := i) (by omega)
    have x1 : xs.getD i 0 < 65536 := digit_lt hx i
    have y1 : ys.getD i 0 < 65536 := digit_lt hy i
    obtain ⟨z, w, hz, hw, heq, q1, q2⟩ := sub_digit x1 y1 hc
    obtain ⟨d', h', a1, M'⟩ := M.append_one z (by omega) (fun l hh => go (.pt F.ref01_sub Td.ref01_sub_4 [(0, s.v), (1, t.v), (5, l.v), (6, u64 w), (7, .int .i64 ((i + 1 : Nat) : Int))]) hh)
    obtain ⟨s', h2, a2, r2⟩ := ref01_sub_loop n m hx hy lx lyx hle k (i + 1) (by omega) M' (by simp [hl]) (fun y hym => by
      rcases List.mem_append.1 hym with h1 | h1
      · exact hd y h1
      · simp at h1; subst h1; exact hz) hw (by
      rw [num_append, hl, num_take_getD D xs i, num_take_getD D ys i, Nat.pow_succ]
      simp only [num, Nat.mul_zero, Nat.add_zero]
      exact sub_step inv heq)
    refine ⟨s', h2, ?_, r2⟩
    have ex : ((xs[i] : Nat) : Int) = ((xs.getD i 0 : Nat) : Int) := by rw [getD_lt (by omega)]
    rw [p_ref01_sub_4, n.len, show decide ((i : Int) < (xs.length : Int)) = true from by rw [decide_eq_true_eq]; omega, cond_true, ← n.len, e1, Option.bind_some, e2, Option.bind_some, avInt_int, Option.bind_some,
      ref01_digit_spec m' i, Option.bind_some, Option.bind_some, avInt_int, Option.bind_some, whenK_of (show SameAt hi hi r 1 from fun _ _ => rfl), ex, q1, q2, wrap_succ (by omega), newK_eq]
    exact a1.trans a2

theorem ref01_sub_spec {h : AH} {s t : Sl} {xs ys : List Nat} (n : Nats h s xs) (m : Nats h t ys) (hx : ∀ x ∈ xs, x < D) (hy : ∀ x ∈ ys, x < D) (lx : xs.length ≤ 1073741824) (lyx : ys.length ≤ xs.length) (hle : num D ys ≤ num D xs) :
    ∃ (s' : Sl) (h' : AH), go (.fn F.ref01_sub [s.v, t.v]) h = some (s'.v, h') ∧ Nats h' s' (digs D (num D xs - num D ys)) ∧ Grow h h' ∧ Own h s' := by
  rw [u_ref01_sub]
  exact ref01_sub_loop n m hx hy lx lyx hle xs.length 0 (by omega) (ds := []) (c := 0) (Mine.nil h T.uint64 1) rfl (by simp) (by omega) (by simp [num])

end Go.Ab
