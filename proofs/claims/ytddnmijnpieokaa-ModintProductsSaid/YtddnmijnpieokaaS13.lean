/- Layer 1, the document's: digits as limbs. -/
import Derived.Test.YtddnmijnpieokaaS12
set_option linter.unusedVariables false
set_option linter.unusedSimpArgs false
set_option maxRecDepth 10000
namespace Go.Ab
open Go.Proofs Go.Num

theorem trim_drop {xs : List Nat} (h : Trim xs) : ∀ (k : Nat), Trim (xs.drop k)
  | 0 => by simpa using h
  | k + 1 => by
    cases xs with
    | nil => simp [Trim]
    | cons x xs => exact trim_drop h.tail k

theorem num_split (b : Nat) (xs : List Nat) (k : Nat) : num b xs = num b (xs.take k) + b ^ (xs.take k).length * num b (xs.drop k) := by
  rw [← num_append, List.take_append_drop]

/-- Four digits are a limb. -/
theorem digs_four {ds : List Nat} (hd : ∀ z ∈ ds, z < D) (ht : Trim ds) (hne : ds ≠ []) : digs B (num D ds) = num D (ds.take 4) :: digs B (num D (ds.drop 4)) := by
  have hn : num D ds ≠ 0 := fun e => hne (num_zero (by decide) ht e)
  have lt := num_lt (b := D) (by decide) (xs := ds.take 4) fun x h => hd x (List.mem_of_mem_take h)
  have le : D ^ (ds.take 4).length ≤ D ^ 4 := Nat.pow_le_pow_right (by decide) (by rw [List.length_take]; omega)
  have hB : D ^ 4 = B := by decide
  have ltB : num D (ds.take 4) < B := by omega
  rw [digs_pos B2 hn, num_split D ds 4]
  by_cases h4 : 4 ≤ ds.length
  · rw [List.length_take, Nat.min_eq_left h4, hB, Nat.add_mul_mod_self_left, Nat.mod_eq_of_lt ltB, Nat.add_mul_div_left _ _ (by decide), Nat.div_eq_of_lt ltB, Nat.zero_add]
  · rw [List.drop_of_length_le (by omega)]
    simp only [num, Nat.mul_zero, Nat.add_zero]
    rw [Nat.mod_eq_of_lt ltB, Nat.div_eq_of_lt ltB]

theorem num_at (b : Nat) (ds : List Nat) (i k : Nat) : num b ((ds.drop i).drop k) = ds.getD (i + k) 0 + b * num b ((ds.drop i).drop (k + 1)) := by
  rw [List.drop_drop, List.drop_drop, show i + (k + 1) = i + k + 1 from by omega]
  by_cases h : i + k < ds.length
  · rw [List.drop_eq_getElem_cons h, num, getD_lt h]
  · rw [List.drop_of_length_le (by omega), List.drop_of_length_le (by omega)]
    simp [num, List.getD, List.getElem?_eq_none (show ds.length ≤ i + k by omega)]

theorem num_one (b : Nat) (ds : List Nat) (i k : Nat) (hk : k < 4) : num b (((ds.drop i).take 4).drop k) = ds.getD (i + k) 0 + b * num b (((ds.drop i).take 4).drop (k + 1)) := by
  have e := num_at b ((ds.drop i).take 4) 0 k
  rw [List.drop_zero, Nat.zero_add] at e
  rw [e]
  congr 1
  simp only [List.getD, List.getElem?_take, List.getElem?_drop, if_pos hk]

theorem ref01_Out_inner {h0 : AH} {s : Sl} {ds : List Nat} (n : Nats h0 s ds) (hd : ∀ z ∈ ds, z < D) {i : Nat} (hi : i ≤ 1073741824) : ∀ (k : Nat), k ≤ 4 → ∀ {h : AH} {o : Sl} {os : List Nat}, Mine h0 h o T.uint64 1 (os.map u64) → os.length ≤ 1073741824 →
    ∃ (o' : Sl) (h' : AH), go (.pt F.ref01_Out Td.ref01_Out_7 [(0, s.v), (4, o.v), (5, .int .i64 (i : Int)), (6, u64 (num D (((ds.drop i).take 4).drop k))), (7, .int .i64 ((k : Int) - 1))]) h =
      go (.pt F.ref01_Out Td.ref01_Out_3 [(0, s.v), (4, o'.v), (5, .int .i64 ((i + 4 : Nat) : Int))]) h' ∧ Mine h0 h' o' T.uint64 1 ((os ++ [num D ((ds.drop i).take 4)]).map u64)
  | 0, hk, h, o, os, M, hl => by
    rw [p_ref01_Out_7, show decide (((0 : Nat) : Int) - 1 ≥ 0) = false from rfl, cond_false, List.drop_zero, newK_eq, wrap64 (n := (i : Int) + 4) (by omega) (by omega), show (i : Int) + 4 = ((i + 4 : Nat) : Int) from by omega]
    exact M.append_one (num D ((ds.drop i).take 4)) (by omega) (fun l hh => go (.pt F.ref01_Out Td.ref01_Out_3 [(0, s.v), (4, l.v), (5, .int .i64 ((i + 4 : Nat) : Int))]) hh)
  | k + 1, hk, h, o, os, M, hl => by
    have n' := n.grow M.grow
    have IH := ref01_Out_inner n hd hi k (by omega) M hl
    have e := num_one D ds i k (by omega)
    have lt : num D (((ds.drop i).take 4).drop k) < 18446744073709551616 := by
      have h1 := num_lt (b := D) (by decide) (xs := ((ds.drop i).take 4).drop k) fun x hx => hd x (List.mem_of_mem_drop (List.mem_of_mem_take (List.mem_of_mem_drop hx)))
      have h2 : D ^ (((ds.drop i).take 4).drop k).length ≤ D ^ 4 := Nat.pow_le_pow_right (by decide) (by simp; omega)
      have h3 : D ^ 4 = 18446744073709551616 := by decide
      omega
    have e' : ds.getD (i + k) 0 + 65536 * num D (((ds.drop i).take 4).drop (k + 1)) = num D (((ds.drop i).take 4).drop k) := e.symm
    generalize hy : num D (((ds.drop i).take 4).drop (k + 1)) = y at *
    generalize hz : num D (((ds.drop i).take 4).drop k) = z at *
    rw [p_ref01_Out_7, n.len, show ((k + 1 : Nat) : Int) - 1 = (k : Int) from by omega, show decide ((k : Int) ≥ 0) = true from by rw [decide_eq_true_eq]; omega, cond_true, wrap64 (n := (i : Int) + (k : Int)) (by omega) (by omega), wrap64 (n := (k : Int) - 1) (by omega) (by omega), show (i : Int) + (k : Int) = ((i + k : Nat) : Int) from by omega]
    have w1 : IntKind.wrap .u64 ((y : Int) * 65536) = ((65536 * y : Nat) : Int) := by rw [wrapU]; omega
    rw [w1]
    by_cases hik : i + k < ds.length
    · obtain ⟨r, e1, e2⟩ := n'.at (i := i + k) hik
      rw [n.len] at e1
      have ex : ((ds[i + k] : Nat) : Int) = ((ds.getD (i + k) 0 : Nat) : Int) := by rw [getD_lt hik]
      have w2 : IntKind.wrap .u64 (((65536 * y : Nat) : Int) + ((ds.getD (i + k) 0 : Nat) : Int)) = (z : Int) := by rw [wrapU]; omega
      rw [show decide (((i + k : Nat) : Int) < (ds.length : Int)) = true from by rw [decide_eq_true_eq]; omega, cond_true, e1, Option.bind_some, e2, Option.bind_some, avInt_int, Option.bind_some, ex, w2]
      exact IH
    · have e0 : ds.getD (i + k) 0 = 0 := by simp [List.getD, List.getElem?_eq_none (show ds.length ≤ i + k by omega)]
      rw [e0, Nat.zero_add] at e'
      rw [show decide (((i + k : Nat) : Int) < (ds.length : Int)) = false from by rw [decide_eq_false_iff_not]; omega, cond_false, e']
      exact IH

theorem ref01_Out_loop {h0 : AH} {s : Sl} {ds : List Nat} (n : Nats h0 s ds) (hd : ∀ z ∈ ds, z < D) (ht : Trim ds) (hl : ds.length ≤ 536870912) : ∀ (f i : Nat), ds.length ≤ i + 4 * f → i ≤ ds.length + 4 → ∀ {h : AH} {o : Sl} {os : List Nat}, Mine h0 h o T.uint64 1 (os.map u64) → os.length ≤ i → (∀ z ∈ os, z < 18446744073709551616) → os ++ digs B (num D (ds.drop i)) = digs B (num D ds) →
    ∃ (o' : Sl) (h' : AH), go (.pt F.ref01_Out Td.ref01_Out_3 [(0, s.v), (4, o.v), (5, .int .i64 (i : Int))]) h = some (.tup [o'.v, .bool (decide ((digs B (num D ds)).length ≤ 64))], h') ∧ Nats h' o' (digs B (num D ds)) ∧ Grow h0 h' ∧ Own h0 o'
  | f, i, hf, hi4, h, o, os, M, hos, hlt, inv => by
    by_cases hi : i < ds.length
    · match f, hf with
      | 0, hf => omega
      | f + 1, hf =>
        rw [p_ref01_Out_3, n.len, show decide ((i : Int) < (ds.length : Int)) = true from by rw [decide_eq_true_eq]; omega, cond_true]
        obtain ⟨o', h', e1, M'⟩ := ref01_Out_inner n hd (i := i) (by omega) 4 (by omega) M (by omega)
        have hz : num D (((ds.drop i).take 4).drop 4) = 0 := by rw [List.drop_of_length_le (by rw [List.length_take]; omega)]; rfl
        rw [hz] at e1
        have hne : ds.drop i ≠ [] := by
          intro e
          have := congrArg List.length e
          simp at this
          omega
        have d4 := digs_four (fun z hz => hd z (List.mem_of_mem_drop hz)) (trim_drop ht i) hne
        rw [List.drop_drop] at d4
        obtain ⟨o2, h2, e2, r2⟩ := ref01_Out_loop n hd ht hl f (i + 4) (by omega) (by omega) M' (by simp; omega) (fun z hz => by
          rcases List.mem_append.1 hz with h1 | h1
          · exact hlt z h1
          · have := digs_lt B2 (num D (ds.drop i))
            rw [d4] at this
            simp at h1
            subst h1
            exact this _ (by simp)) (by rw [← inv, d4]; simp)
        exact ⟨o2, h2, e1.trans e2, r2⟩
    · rw [p_ref01_Out_3, n.len, show decide ((i : Int) < (ds.length : Int)) = false from by rw [decide_eq_false_iff_not]; omega, cond_false]
      rw [List.drop_of_length_le (by omega), show num D ([] : List Nat) = 0 from rfl, digs_zero, List.append_nil] at inv
      have N : Nats h o (digs B (num D ds)) := by
        rw [← inv]
        exact ⟨M.cells, hlt, by omega⟩
      refine ⟨o, h, ?_, N, M.grow, M.own_of⟩
      rw [N.len, show decide (((digs B (num D ds)).length : Int) ≤ 64) = decide ((digs B (num D ds)).length ≤ 64) from by rw [decide_eq_decide]; omega]

theorem ref01_Out_spec {h : AH} {s : Sl} {ds : List Nat} (n : Nats h s ds) (hd : ∀ z ∈ ds, z < D) (ht : Trim ds) (hl : ds.length ≤ 536870912) : ∃ (o' : Sl) (h' : AH), go (.fn F.ref01_Out [s.v]) h = some (.tup [o'.v, .bool (decide ((digs B (num D ds)).length ≤ 64))], h') ∧ Nats h' o' (digs B (num D ds)) ∧ Grow h h' ∧ Own h o' := by
  rw [u_ref01_Out]
  exact ref01_Out_loop n hd ht hl ds.length 0 (by omega) (by omega) (os := []) (Mine.nil h T.uint64 1) (by simp) (by simp) (by simp)

theorem ref01_told_spec {h : AH} {s : Sl} {ds : List Nat} (n : Nats h s ds) (hd : ∀ z ∈ ds, z < D) (ht : Trim ds) (hl : ds.length ≤ 536870912) : ∃ (o' : Sl) (h' : AH), go (.fn F.ref01_told [s.v]) h = some (.tup [o'.v, .int .i64 (told (num D ds)).2], h') ∧ Nats h' o' (told (num D ds)).1 ∧ Grow h h' ∧ Own h o' := by
  rw [u_ref01_told]
  obtain ⟨o', h', e1, n1, g1, o1⟩ := ref01_Out_spec n hd ht hl
  rw [e1]
  simp only [Option.bind_some, asTup2_tup, asSl_v, asBool_bool]
  unfold told
  by_cases hn : num D ds < B ^ 64
  · have := (digs_len B2 (num D ds) 64).2 hn
    rw [if_pos hn, show decide ((digs B (num D ds)).length ≤ 64) = true from decide_eq_true this]
    exact ⟨o', h', rfl, n1, g1, o1⟩
  · have : ¬ (digs B (num D ds)).length ≤ 64 := fun h => hn ((digs_len B2 _ _).1 h)
    rw [if_neg hn, show decide ((digs B (num D ds)).length ≤ 64) = false from decide_eq_false this]
    exact ⟨⟨none, 0, .is 0⟩, h', rfl, Nats.nil _, g1, Own.nil h⟩

end Go.Ab
