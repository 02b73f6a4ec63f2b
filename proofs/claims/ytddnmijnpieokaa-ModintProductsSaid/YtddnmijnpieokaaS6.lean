/- Layer 1: order; the document's digits. -/
import Derived.Test.YtddnmijnpieokaaS5
set_option linter.unusedVariables false
set_option linter.unusedSimpArgs false
set_option maxRecDepth 10000
namespace Go.Ab
open Go.Proofs Go.Num

theorem num_take_lt {b : Nat} (hb : 1 ≤ b) {xs : List Nat} (hx : ∀ x ∈ xs, x < b) {k : Nat} (hk : k ≤ xs.length) : num b (xs.take k) < b ^ k := by
  have := num_lt (b := b) hb (xs := xs.take k) fun x h => hx x (List.mem_of_mem_take h)
  rwa [List.length_take, Nat.min_eq_left hk] at this

theorem cmp_take {b : Nat} (hb : 1 ≤ b) {xs ys : List Nat} (hx : ∀ x ∈ xs, x < b) (hy : ∀ x ∈ ys, x < b) {k : Nat} (h1 : k < xs.length) (h2 : k < ys.length) :
    cmp (num b (xs.take (k + 1))) (num b (ys.take (k + 1))) = if xs[k] < ys[k] then -1 else if xs[k] = ys[k] then cmp (num b (xs.take k)) (num b (ys.take k)) else 1 := by
  rw [num_take_succ b h1, num_take_succ b h2]
  exact cmp_top (num_take_lt hb hx (by omega)) (num_take_lt hb hy (by omega))

theorem cmp_len {b : Nat} (hb : 2 ≤ b) {xs ys : List Nat} (hx : ∀ x ∈ xs, x < b) (hy : ∀ x ∈ ys, x < b) (tx : Trim xs) (ty : Trim ys) (h : xs.length ≠ ys.length) : cmp (num b xs) (num b ys) = if xs.length < ys.length then -1 else 1 := by
  rcases Nat.lt_or_ge xs.length ys.length with h1 | h1
  · have := num_le_len hb hx hy ty h1
    simp [cmp, this, h1]
  · have := num_le_len hb hy hx tx (by omega)
    rw [if_neg (by omega)]
    unfold cmp
    rw [if_neg (by omega), if_neg (by omega)]

theorem nat_compare_loop {h : AH} {s t : Sl} {xs ys : List Nat} (n : Nats h s xs) (m : Nats h t ys) (hl : xs.length = ys.length) : ∀ (k : Nat), k ≤ xs.length →
    go (.pt F.nat_compare Td.nat_compare_6 [(0, s.v), (1, t.v), (5, .int .i64 ((k : Int) - 1))]) h = some (.int .i64 (cmp (num B (xs.take k)) (num B (ys.take k))), h)
  | 0, hk => by
    rw [p_nat_compare_6]
    rfl
  | k + 1, hk => by
    have hs := n.short
    obtain ⟨r, e1, e2⟩ := n.at (i := k) (by omega)
    obtain ⟨q, e3, e4⟩ := m.at (i := k) (by omega)
    rw [p_nat_compare_6, show (((k + 1 : Nat) : Int) - 1) = (k : Int) from by omega, show decide ((k : Int) ≥ 0) = true from by rw [decide_eq_true_eq]; omega]
    simp only [cond_true, e1, e3, e2, e4, Option.bind_some, avInt_int]
    rw [cmp_take (by decide) n.lt m.lt (by omega) (by omega), wrap64 (n := (k : Int) - 1) (by omega) (by omega), nat_compare_loop n m hl k (by omega)]
    by_cases h1 : xs[k] = ys[k]'(by omega)
    · rw [show decide (((xs[k] : Nat) : Int) = ((ys[k]'(by omega) : Nat) : Int)) = true from by rw [decide_eq_true_eq]; omega]
      simp [h1]
    · rw [show decide (((xs[k] : Nat) : Int) = ((ys[k]'(by omega) : Nat) : Int)) = false from by rw [decide_eq_false_iff_not]; omega]
      by_cases h2 : xs[k] < ys[k]'(by omega)
      · rw [show decide (((xs[k] : Nat) : Int) < ((ys[k]'(by omega) : Nat) : Int)) = true from by rw [decide_eq_true_eq]; omega]
        simp [h2]
      · rw [show decide (((xs[k] : Nat) : Int) < ((ys[k]'(by omega) : Nat) : Int)) = false from by rw [decide_eq_false_iff_not]; omega]
        simp [h1, h2]

theorem nat_compare_spec {h : AH} {s t : Sl} {xs ys : List Nat} (n : Nats h s xs) (m : Nats h t ys) (tx : Trim xs) (ty : Trim ys) : go (.fn F.nat_compare [s.v, t.v]) h = some (.int .i64 (cmp (num B xs) (num B ys)), h) := by
  have hs := n.short
  have ht := m.short
  rw [u_nat_compare, n.len, m.len]
  by_cases hl : xs.length = ys.length
  · rw [show decide ((xs.length : Int) = (ys.length : Int)) = true from by rw [decide_eq_true_eq]; omega]
    simp only [Bool.not_true, cond_false]
    rw [wrap64 (by omega) (by omega), nat_compare_loop n m hl xs.length (Nat.le_refl _), List.take_length, hl, List.take_length]
  · rw [show decide ((xs.length : Int) = (ys.length : Int)) = false from by rw [decide_eq_false_iff_not]; omega, cmp_len B2 n.lt m.lt tx ty hl]
    by_cases h1 : xs.length < ys.length
    · rw [show decide ((xs.length : Int) < (ys.length : Int)) = true from by rw [decide_eq_true_eq]; omega]
      simp [h1]
    · rw [show decide ((xs.length : Int) < (ys.length : Int)) = false from by rw [decide_eq_false_iff_not]; omega]
      simp [h1]

/-! ### The document's digits -/
@[reducible] def D : Nat := 65536
theorem D2 : 2 ≤ D := by decide

theorem ref01_compare_loop {h : AH} {s t : Sl} {xs ys : List Nat} (n : Nats h s xs) (m : Nats h t ys) (hx : ∀ x ∈ xs, x < D) (hy : ∀ x ∈ ys, x < D) (hl : xs.length = ys.length) : ∀ (k : Nat), k ≤ xs.length →
    go (.pt F.ref01_compare Td.ref01_compare_6 [(0, s.v), (1, t.v), (5, .int .i64 ((k : Int) - 1))]) h = some (.int .i64 (cmp (num D (xs.take k)) (num D (ys.take k))), h)
  | 0, hk => by
    rw [p_ref01_compare_6]
    rfl
  | k + 1, hk => by
    have hs := n.short
    obtain ⟨r, e1, e2⟩ := n.at (i := k) (by omega)
    obtain ⟨q, e3, e4⟩ := m.at (i := k) (by omega)
    rw [p_ref01_compare_6, show (((k + 1 : Nat) : Int) - 1) = (k : Int) from by omega, show decide ((k : Int) ≥ 0) = true from by rw [decide_eq_true_eq]; omega]
    simp only [cond_true, e1, e3, e2, e4, Option.bind_some, avInt_int]
    rw [cmp_take (by decide) hx hy (by omega) (by omega), wrap64 (n := (k : Int) - 1) (by omega) (by omega), ref01_compare_loop n m hx hy hl k (by omega)]
    by_cases h2 : xs[k] < ys[k]'(by omega)
    · rw [show decide (((xs[k] : Nat) : Int) < ((ys[k]'(by omega) : Nat) : Int)) = true from by rw [decide_eq_true_eq]; omega]
      simp [h2]
    · rw [show decide (((xs[k] : Nat) : Int) < ((ys[k]'(by omega) : Nat) : Int)) = false from by rw [decide_eq_false_iff_not]; omega]
      by_cases h1 : xs[k] = ys[k]'(by omega)
      · rw [show decide (((xs[k] : Nat) : Int) > ((ys[k]'(by omega) : Nat) : Int)) = false from by rw [decide_eq_false_iff_not]; omega]
        simp [h1]
      · rw [show decide (((xs[k] : Nat) : Int) > ((ys[k]'(by omega) : Nat) : Int)) = true from by rw [decide_eq_true_eq]; omega]
        simp [h1, h2]

theorem ref01_compare_spec {h : AH} {s t : Sl} {xs ys : List Nat} (n : Nats h s xs) (m : Nats h t ys) (hx : ∀ x ∈ xs, x < D) (hy : ∀ x ∈ ys, x < D) (tx : Trim xs) (ty : Trim ys) : go (.fn F.ref01_compare [s.v, t.v]) h = some (.int .i64 (cmp (num D xs) (num D ys)), h) := by
  have hs := n.short
  have ht := m.short
  rw [u_ref01_compare, n.len, m.len]
  by_cases hl : xs.length = ys.length
  · rw [show decide ((xs.length : Int) = (ys.length : Int)) = true from by rw [decide_eq_true_eq]; omega]
    simp only [Bool.not_true, cond_false]
    rw [wrap64 (by omega) (by omega), ref01_compare_loop n m hx hy hl xs.length (Nat.le_refl _), List.take_length, hl, List.take_length]
  · rw [show decide ((xs.length : Int) = (ys.length : Int)) = false from by rw [decide_eq_false_iff_not]; omega, cmp_len D2 hx hy tx ty hl]
    by_cases h1 : xs.length < ys.length
    · rw [show decide ((xs.length : Int) < (ys.length : Int)) = true from by rw [decide_eq_true_eq]; omega]
      simp [h1]
    · rw [show decide ((xs.length : Int) < (ys.length : Int)) = false from by rw [decide_eq_false_iff_not]; omega]
      simp [h1]

theorem ref01_cut_loop {h : AH} {s : Sl} {xs : List Nat} (n : Nats h s xs) (hx : ∀ x ∈ xs, x < D) : ∀ (k : Nat), k ≤ xs.length → (∀ i, k ≤ i → (hi : i < xs.length) → xs[i] = 0) →
    ∃ s', go (.pt F.ref01_cut Td.ref01_cut_2 [(0, s.v), (3, .int .i64 (k : Int))]) h = some (s'.v, h) ∧ Nats h s' (digs D (num D xs)) ∧ ∀ h0, Own h0 s → Own h0 s'
  | 0, hk, hz => by
    rw [p_ref01_cut_2]
    obtain ⟨s', e1, e2, e3⟩ := n.cut (l := 0) (n := 0) (Nat.le_refl _) hk
    have := take_digs D2 hx hz hk (.inl rfl)
    simp at e1
    simp only [Int.natCast_zero, gt_iff_lt, Int.lt_irrefl, decide_false, cond_false, e1, Option.bind_some]
    refine ⟨s', rfl, ?_, e3⟩
    rw [← this]
    simpa using e2
  | k + 1, hk, hz => by
    rw [p_ref01_cut_2]
    obtain ⟨r, e1, e2⟩ := n.at (i := k) (by omega)
    have hs := n.short
    rw [wrap_pred (by omega)]
    rw [show (decide (((k + 1 : Nat) : Int) > 0)) = true from by rw [decide_eq_true_eq]; omega]
    simp only [cond_true, e1, e2, Option.bind_some, avInt_int]
    by_cases hx0 : xs[k] = 0
    · rw [hx0, show (decide (((0 : Nat) : Int) = 0)) = true from rfl, cond_true]
      refine ref01_cut_loop n hx k (by omega) fun i hi hil => ?_
      rcases Nat.lt_or_ge k i with h1 | h1
      · exact hz i (by omega) hil
      · have : i = k := by omega
        subst this
        exact hx0
    · obtain ⟨s', e3, e4, e5⟩ := n.cut (l := 0) (n := k + 1) (by omega) hk
      have ht := take_digs D2 hx hz hk (.inr ⟨by omega, by simpa using hx0⟩)
      rw [show (decide (((xs[k] : Nat) : Int) = 0)) = false from by rw [decide_eq_false_iff_not]; omega]
      simp only [cond_false]
      rw [show cutSl s 0 ((k + 1 : Nat) : Int) 1 = some s' from e3]
      refine ⟨s', rfl, ?_, e5⟩
      rw [← ht]
      simpa using e4

theorem ref01_cut_spec {h : AH} {s : Sl} {xs : List Nat} (n : Nats h s xs) (hx : ∀ x ∈ xs, x < D) : ∃ s', go (.fn F.ref01_cut [s.v]) h = some (s'.v, h) ∧ Nats h s' (digs D (num D xs)) ∧ ∀ h0, Own h0 s → Own h0 s' := by
  rw [u_ref01_cut, n.len]
  exact ref01_cut_loop n hx xs.length (Nat.le_refl _) fun i h1 h2 => by omega

/-- Limbs in a slice that grows in one's own hands. -/
theorem Mine.push_u64 {h0 h : AH} {s : Sl} {ds : List Nat} (M : Mine h0 h s T.uint64 1 (ds.map u64)) (x : Nat) (hl : ds.length < 8796093022208) :
    ∃ s' h', appendH Pg s [u64 x] 1 T.uint64 1 h = some (s'.v, h') ∧ Mine h0 h' s' T.uint64 1 ((ds ++ [x]).map u64) := by
  have : s.len = ds.length := by simpa using M.cells.len
  obtain ⟨s', h', e1, e2, e3, e4⟩ := M.append (n := 1) (cs := [u64 x]) (by omega) rfl (growOk_u64 (by rw [this]; omega))
  exact ⟨s', h', e1, by simpa using e3⟩

theorem ref01_In_inner {h0 : AH} {s : Sl} (i : Nat) : ∀ (k j : Nat), j + k = 4 → ∀ {h : AH} {d : Sl} {ds : List Nat} {x : Nat}, Mine h0 h d T.uint64 1 (ds.map u64) → ds.length < 1099511627776 + j → x < B →
    ∃ d' h', go (.pt F.ref01_In Td.ref01_In_7 [(0, s.v), (3, d.v), (4, .int .i64 (i : Int)), (5, .int .u64 (x : Int)), (6, .int .i64 (j : Int))]) h =
      go (.pt F.ref01_In Td.ref01_In_3 [(0, s.v), (3, Sl.v d'), (4, .int .i64 (IntKind.wrap .i64 ((i : Int) + 1)))]) h' ∧ Mine h0 h' d' T.uint64 1 ((ds ++ (dig4 x).take k).map u64)
  | 0, j, hj, h, d, ds, x, M, hl, hx => by
    rw [p_ref01_In_7, show decide ((j : Int) < 4) = false from by rw [decide_eq_false_iff_not]; omega]
    exact ⟨d, h, rfl, by simpa using M⟩
  | k + 1, j, hj, h, d, ds, x, M, hl, hx => by
    rw [p_ref01_In_7, show decide ((j : Int) < 4) = true from by rw [decide_eq_true_eq]; omega, cond_true]
    simp only [newK_eq]
    have w1 : Int.tmod (x : Int) 65536 = ((x % 65536 : Nat) : Int) := by rw [Int.tmod_eq_emod_of_nonneg (by omega)]; omega
    have w2 : IntKind.wrap .u64 (Int.tdiv (x : Int) 65536) = ((x / 65536 : Nat) : Int) := by
      rw [Int.tdiv_eq_ediv_of_nonneg (by omega), wrapU]
      have : x < 18446744073709551616 := hx
      omega
    have c : Cells (h.push (.cells [u64 (x % 65536)] T.uint64)) ⟨some (.new h.blks.size 0), 1, .is 1⟩ (Pg.cellsOf T.uint64) [u64 (x % 65536)] := by
      rw [cells_uint64]
      exact Cells.of_has (AH.has_push h [u64 (x % 65536)] T.uint64) rfl
    rw [w1, w2, appendArgs_of c]
    simp only [Option.bind_some]
    obtain ⟨s', h', e1, e2⟩ := (M.grow' (Grow.push h (.cells [u64 (x % 65536)] T.uint64))).push_u64 (x % 65536) (by omega)
    rw [e1]
    simp only [Option.bind_some, asSl_v]
    rw [wrap_succ (by omega)]
    obtain ⟨d', h2, e3, e4⟩ := ref01_In_inner i k (j + 1) (by omega) (x := x / 65536) e2 (by simp; omega) (by have : x < 18446744073709551616 := hx; show _ < 18446744073709551616; omega)
    refine ⟨d', h2, e3, ?_⟩
    have : (dig4 x).take (k + 1) = x % 65536 :: (dig4 (x / 65536)).take k := by
      match k, hj with
      | 0, _ => rfl
      | 1, _ => rfl
      | 2, _ => rfl
      | 3, _ => rfl
      | k + 4, hj => omega
    rw [this]
    simpa using e4

theorem ref01_In_loop {h0 : AH} {s : Sl} {xs : List Nat} (n : Nats h0 s xs) (hx : xs.length ≤ 1073741824) : ∀ (k i : Nat), i + k = xs.length → ∀ {h : AH} {d : Sl}, Mine h0 h d T.uint64 1 (((xs.take i).flatMap dig4).map u64) →
    ∃ (d' : Sl) (h' : AH), go (.pt F.ref01_In Td.ref01_In_3 [(0, s.v), (3, d.v), (4, .int .i64 (i : Int))]) h = some (d'.v, h') ∧ Nats h' d' (digs D (num B xs)) ∧ Grow h0 h' ∧ Own h0 d'
  | 0, i, hi, h, d, M => by
    rw [p_ref01_In_3, n.len, show decide ((i : Int) < (xs.length : Int)) = false from by rw [decide_eq_false_iff_not]; omega, cond_false]
    rw [List.take_of_length_le (by omega)] at M
    have hlen : ∀ (l : List Nat), (l.flatMap dig4).length = l.length * 4 := by
      intro l
      induction l with
      | nil => rfl
      | cons a l ih => rw [List.flatMap_cons, List.length_append, ih]; simp [dig4]; omega
    have hlt : ∀ x ∈ xs.flatMap dig4, x < D := by
      intro x hxm
      obtain ⟨y, _, hy⟩ := List.mem_flatMap.1 hxm
      simp [dig4] at hy
      show x < 65536
      omega
    have N : Nats h d (xs.flatMap dig4) := ⟨M.cells, fun x hxm => by have : x < 65536 := hlt x hxm; omega, by rw [hlen]; omega⟩
    obtain ⟨s', e1, e2, e3⟩ := ref01_cut_spec N hlt
    rw [e1]
    simp only [Option.bind_some, asSl_v]
    refine ⟨s', h, rfl, ?_, M.grow, e3 h0 M.own_of⟩
    rwa [num_flat (c := B) (k := 4) (by decide) fun x hxm => num_four (n.lt x hxm)] at e2
  | k + 1, i, hi, h, d, M => by
    have n' := n.grow M.grow
    obtain ⟨r, e1, e2⟩ := n'.at (i := i) (by omega)
    rw [p_ref01_In_3, show decide ((i : Int) < (s.len : Int)) = true from by rw [decide_eq_true_eq, n.len]; omega, cond_true, e1]
    simp only [Option.bind_some, e2, avInt_int]
    have hlen : ((xs.take i).flatMap dig4).length = (xs.take i).length * 4 := by
      generalize xs.take i = l
      induction l with
      | nil => rfl
      | cons a l ih => rw [List.flatMap_cons, List.length_append, ih]; simp [dig4]; omega
    obtain ⟨d', h', e3, e4⟩ := ref01_In_inner (s := s) i 4 0 (by omega) (x := xs[i]'(by omega)) M (by rw [hlen, List.length_take]; omega) (n.lt _ (List.getElem_mem _))
    rw [show (0 : Int) = ((0 : Nat) : Int) from rfl, e3, wrap_succ (by omega)]
    refine ref01_In_loop n hx k (i + 1) (by omega) ?_
    rw [List.take_succ_eq_append_getElem (by omega), List.flatMap_append]
    simpa [dig4] using e4

theorem ref01_In_spec {h : AH} {s : Sl} {xs : List Nat} (n : Nats h s xs) (hx : xs.length ≤ 1073741824) : ∃ (d' : Sl) (h' : AH), go (.fn F.ref01_In [s.v]) h = some (d'.v, h') ∧ Nats h' d' (digs D (num B xs)) ∧ Grow h h' ∧ Own h d' := by
  rw [u_ref01_In]
  exact ref01_In_loop n hx xs.length 0 (by omega) (Mine.nil h T.uint64 1)

end Go.Ab
