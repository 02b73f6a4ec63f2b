/- Layer 1, the document's: sums, differences, answers. -/
import Derived.Test.YtddnmijnpieokaaS10
set_option linter.unusedVariables false
set_option linter.unusedSimpArgs false
set_option maxRecDepth 10000
namespace Go.Ab
open Go.Proofs Go.Num

theorem wrapU_nat {n : Nat} (h : n < 18446744073709551616) : IntKind.wrap .u64 (n : Int) = (n : Int) := by
  rw [wrapU, Int.emod_eq_of_lt (by omega) (by omega)]

theorem ref01_digit_spec {h : AH} {s : Sl} {xs : List Nat} (n : Nats h s xs) (i : Nat) : go (.fn F.ref01_digit [s.v, .int .i64 (i : Int)]) h = some (u64 (xs.getD i 0), h) := by
  rw [u_ref01_digit, n.len]
  by_cases hi : i < xs.length
  · obtain ⟨r, e1, e2⟩ := n.at (i := i) hi
    rw [n.len] at e1
    rw [show decide ((i : Int) < (xs.length : Int)) = true from by rw [decide_eq_true_eq]; omega, cond_true, e1, Option.bind_some, e2, Option.bind_some, avInt_int, Option.bind_some, getD_lt hi]
  · rw [show decide ((i : Int) < (xs.length : Int)) = false from by rw [decide_eq_false_iff_not]; omega, cond_false]
    simp [List.getD, List.getElem?_eq_none (show xs.length ≤ i by omega)]

/-- One limb more, out of a slice of one. -/
theorem Mine.append_one {h0 h : AH} {d : Sl} {ds : List Nat} (M : Mine h0 h d T.uint64 1 (ds.map u64)) (x : Nat) (hl : ds.length < 8796093022208) {R : Type} (k : Sl → AH → Option R) :
    ∃ (d' : Sl) (h' : AH), ((appendArgs Pg T.uint64 (Sl.v ⟨some (.new h.blks.size 0), 1, .is 1⟩) (h.push (.cells [u64 x] T.uint64))).bind fun p => (appendH Pg d p.1 p.2 T.uint64 1 (h.push (.cells [u64 x] T.uint64))).bind fun q => (AV.asSl q.1).bind fun l => k l q.2) = k d' h' ∧ Mine h0 h' d' T.uint64 1 ((ds ++ [x]).map u64) := by
  have c : Cells (h.push (.cells [u64 x] T.uint64)) ⟨some (.new h.blks.size 0), 1, .is 1⟩ (Pg.cellsOf T.uint64) [u64 x] := by
    rw [cells_uint64]
    exact Cells.of_has (AH.has_push h [u64 x] T.uint64) rfl
  obtain ⟨d', h', e1, e2⟩ := (M.grow' (Grow.push h (.cells [u64 x] T.uint64))).push_u64 x hl
  refine ⟨d', h', ?_, e2⟩
  rw [appendArgs_of c, Option.bind_some, e1, Option.bind_some, asSl_v, Option.bind_some]

theorem digit_lt {xs : List Nat} (h : ∀ x ∈ xs, x < D) (i : Nat) : xs.getD i 0 < D := by
  show _ < 65536
  by_cases hi : i < xs.length
  · rw [getD_lt hi]; exact h _ (List.getElem_mem _)
  · simp [List.getD, List.getElem?_eq_none (show xs.length ≤ i by omega)]

theorem add_step {b p c x y q w zs ys xs : Nat} (inv : zs + p * c = xs + ys) (heq : q + b * w = x + y + c) : zs + p * q + p * b * w = xs + p * x + (ys + p * y) := by
  have := congrArg (fun q => p * q) heq
  simp only [Nat.mul_add] at this
  rw [Nat.mul_assoc]
  omega

theorem ref01_add_loop {h : AH} {s t : Sl} {xs ys : List Nat} (n : Nats h s xs) (m : Nats h t ys) (hx : ∀ x ∈ xs, x < D) (hy : ∀ x ∈ ys, x < D) (lx : xs.length ≤ 1073741824) (ly : ys.length ≤ 1073741824) :
    ∀ (k i : Nat), i + k = max xs.length ys.length → ∀ {hi : AH} {d : Sl} {ds : List Nat} {c : Nat}, Mine h hi d T.uint64 1 (ds.map u64) → ds.length = i → (∀ z ∈ ds, z < D) → c ≤ 1 → num D ds + D ^ i * c = num D (xs.take i) + num D (ys.take i) →
      ∃ (s' : Sl) (h' : AH), go (.pt F.ref01_add Td.ref01_add_4 [(0, s.v), (1, t.v), (5, d.v), (6, u64 c), (7, .int .i64 (i : Int))]) hi = some (s'.v, h') ∧ Nats h' s' (digs D (num D xs + num D ys)) ∧ Grow h h' ∧ Own h s'
  | 0, i, hik, hi, d, ds, c, M, hl, hd, hc, inv => by
    have i1 : xs.length ≤ i := by omega
    have i2 : ys.length ≤ i := by omega
    rw [p_ref01_add_4, n.len, m.len, show decide ((i : Int) < (xs.length : Int)) = false from by rw [decide_eq_false_iff_not]; omega, cond_false, show decide ((i : Int) < (ys.length : Int)) = false from by rw [decide_eq_false_iff_not]; omega, cond_false]
    simp only [newK_eq]
    obtain ⟨d', h', e1, M'⟩ := M.append_one c (by omega) (fun l hh => (go (.fn F.ref01_cut [l.v]) hh).bind fun q26 => ((some q26.1).bind AV.asSl).bind fun l27 => some (l27.v, q26.2))
    have hd' : ∀ z ∈ ds ++ [c], z < D := fun z hz => by
      rcases List.mem_append.1 hz with h1 | h1
      · exact hd z h1
      · simp at h1; subst h1; show _ < 65536; omega
    have N : Nats h' d' (ds ++ [c]) := ⟨M'.cells, fun z hz => by have : z < 65536 := hd' z hz; omega, by simp; omega⟩
    obtain ⟨s', e2, n2, o2⟩ := ref01_cut_spec N hd'
    have v : num D (ds ++ [c]) = num D xs + num D ys := by
      rw [num_append, hl]
      simp only [num, Nat.mul_zero, Nat.add_zero]
      rw [inv, List.take_of_length_le i1, List.take_of_length_le i2]
    rw [v] at n2
    refine ⟨s', h', ?_, n2, M'.grow, o2 h M'.own_of⟩
    refine Eq.trans e1 ?_
    simp only [e2, Option.bind_some, asSl_v]
  | k + 1, i, hik, hi, d, ds, c, M, hl, hd, hc, inv => by
    have n' := n.grow M.grow
    have m' := m.grow M.grow
    have x1 : xs.getD i 0 < 65536 := digit_lt hx i
    have y1 : ys.getD i 0 < 65536 := digit_lt hy i
    have hsum : IntKind.wrap .u64 (IntKind.wrap .u64 (((xs.getD i 0 : Nat) : Int) + ((ys.getD i 0 : Nat) : Int)) + (c : Int)) = ((xs.getD i 0 + ys.getD i 0 + c : Nat) : Int) := by
      rw [← Int.natCast_add, wrapU_nat (by omega), ← Int.natCast_add, wrapU_nat (by omega)]
    have hmod : Int.tmod ((xs.getD i 0 + ys.getD i 0 + c : Nat) : Int) 65536 = (((xs.getD i 0 + ys.getD i 0 + c) % 65536 : Nat) : Int) := by
      rw [Int.tmod_eq_emod_of_nonneg (by omega)]; omega
    have hdiv : IntKind.wrap .u64 (Int.tdiv ((xs.getD i 0 + ys.getD i 0 + c : Nat) : Int) 65536) = (((xs.getD i 0 + ys.getD i 0 + c) / 65536 : Nat) : Int) := by
      rw [Int.tdiv_eq_ediv_of_nonneg (by omega), ← wrapU_nat (n := (xs.getD i 0 + ys.getD i 0 + c) / 65536) (by omega)]
      congr 1
    obtain ⟨d', h', e1, M'⟩ := M.append_one ((xs.getD i 0 + ys.getD i 0 + c) % 65536) (by omega) (fun l hh => go (.pt F.ref01_add Td.ref01_add_4 [(0, s.v), (1, t.v), (5, l.v), (6, u64 ((xs.getD i 0 + ys.getD i 0 + c) / 65536)), (7, .int .i64 ((i + 1 : Nat) : Int))]) hh)
    obtain ⟨s', h2, e2, r⟩ := ref01_add_loop n m hx hy lx ly k (i + 1) (by omega) M' (by simp [hl]) (fun z hz => by
      rcases List.mem_append.1 hz with h1 | h1
      · exact hd z h1
      · simp at h1; subst h1; exact Nat.mod_lt _ (by decide)) (c := (xs.getD i 0 + ys.getD i 0 + c) / 65536) (by omega) (by
      rw [num_append, hl, num_take_getD D xs i, num_take_getD D ys i, Nat.pow_succ]
      simp only [num, Nat.mul_zero, Nat.add_zero]
      exact add_step inv (Nat.mod_add_div _ _))
    refine ⟨s', h2, ?_, r⟩
    rw [p_ref01_add_4, n.len, m.len]
    have dx := ref01_digit_spec n' i
    have dy := ref01_digit_spec m' i
    by_cases h1 : i < xs.length
    · rw [show decide ((i : Int) < (xs.length : Int)) = true from by rw [decide_eq_true_eq]; omega, cond_true, dx, Option.bind_some, Option.bind_some, avInt_int, Option.bind_some, dy, Option.bind_some, Option.bind_some, avInt_int, Option.bind_some, hsum, hmod, hdiv, wrap_succ (by omega), newK_eq]
      exact e1.trans e2
    · rw [show decide ((i : Int) < (xs.length : Int)) = false from by rw [decide_eq_false_iff_not]; omega, cond_false, show decide ((i : Int) < (ys.length : Int)) = true from by rw [decide_eq_true_eq]; omega, cond_true, dx, Option.bind_some, Option.bind_some, avInt_int, Option.bind_some, dy, Option.bind_some, Option.bind_some, avInt_int, Option.bind_some, hsum, hmod, hdiv, wrap_succ (by omega), newK_eq]
      exact e1.trans e2

theorem ref01_add_spec {h : AH} {s t : Sl} {xs ys : List Nat} (n : Nats h s xs) (m : Nats h t ys) (hx : ∀ x ∈ xs, x < D) (hy : ∀ x ∈ ys, x < D) (lx : xs.length ≤ 1073741824) (ly : ys.length ≤ 1073741824) :
    ∃ (s' : Sl) (h' : AH), go (.fn F.ref01_add [s.v, t.v]) h = some (s'.v, h') ∧ Nats h' s' (digs D (num D xs + num D ys)) ∧ Grow h h' ∧ Own h s' := by
  rw [u_ref01_add]
  exact ref01_add_loop n m hx hy lx ly (max xs.length ys.length) 0 (by omega) (ds := []) (c := 0) (Mine.nil h T.uint64 1) rfl (by simp) (by omega) (by simp [num])

end Go.Ab
