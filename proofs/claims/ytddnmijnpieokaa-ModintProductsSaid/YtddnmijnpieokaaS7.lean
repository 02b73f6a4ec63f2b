/- Layers 1 and 3: whether all may be; order; the opposite. -/
import Derived.Test.YtddnmijnpieokaaS6
set_option linter.unusedVariables false
set_option linter.unusedSimpArgs false
set_option maxRecDepth 10000
namespace Go.Ab
open Go.Proofs Go.Num

theorem Rows.grow {h h' : AH} (g : Grow h h') {s : Sl} {rows : List (Sl × List Nat)} (n : Rows h s rows) : Rows h' s rows := ⟨n.cells.grow g, fun p hp => (n.each p hp).grow g, n.short⟩

theorem nat_right_1_spec {h : AH} {s : Sl} {xs : List Nat} (n : Nats h s xs) : go (.fn F.nat_right_1 [s.v]) h = some (.bool (!rt xs), h) := by
  rw [u_nat_right_1, nat_Right_spec n]
  rfl

theorem nat_right_loop {h : AH} {s : Sl} {rows : List (Sl × List Nat)} (n : Rows h s rows) : ∀ (k i : Nat), i + k = rows.length →
    ∃ j : Int, go (.pt F.slices_IndexFunc_api_Nat_api_Nat Td.slices_IndexFunc_api_Nat_api_Nat_2 [(0, s.v), (1, .func (.func F.nat_right_1) [] []), (7, .int .i64 (rows.length : Int)), (8, .int .i64 (i : Int))]) h = some (.int .i64 j, h) ∧
      (j ≥ 0 ↔ (rows.drop i).all (fun p => rt p.2) = false)
  | 0, i, hi => by
    rw [p_slices_IndexFunc_api_Nat_api_Nat_2__nat_right_1, show decide ((i : Int) < (rows.length : Int)) = false from by rw [decide_eq_false_iff_not]; omega, List.drop_of_length_le (by omega)]
    exact ⟨-1, rfl, by simp⟩
  | k + 1, i, hi => by
    have hs := n.short
    obtain ⟨r, e1, e2⟩ := n.at (i := i) (by omega)
    have hp := n.each rows[i] (List.getElem_mem _)
    rw [p_slices_IndexFunc_api_Nat_api_Nat_2__nat_right_1, show decide ((i : Int) < (rows.length : Int)) = true from by rw [decide_eq_true_eq]; omega, cond_true, e1]
    simp only [Option.bind_some, e2, asSl_v, nat_right_1_spec hp, asBool_bool]
    rw [List.drop_eq_getElem_cons (by omega), List.all_cons, wrap_succ (by omega)]
    cases hr : rt (rows[i].2) with
    | false => exact ⟨(i : Int), rfl, by simp⟩
    | true =>
      obtain ⟨j, e3, e4⟩ := nat_right_loop n k (i + 1) (by omega)
      exact ⟨j, e3, by simpa using e4⟩

theorem nat_right_spec {h : AH} {s : Sl} {rows : List (Sl × List Nat)} (n : Rows h s rows) : go (.fn F.nat_right [s.v]) h = some (.bool (rows.all fun p => rt p.2), h) := by
  obtain ⟨j, e1, e2⟩ := nat_right_loop n rows.length 0 (by omega)
  rw [u_nat_right, u_slices_ContainsFunc_api_Nat_api_Nat__nat_right_1, u_slices_IndexFunc_api_Nat_api_Nat__nat_right_1, n.len]
  rw [show (0 : Int) = ((0 : Nat) : Int) from rfl, e1]
  simp only [Option.bind_some, avInt_int, asBool_bool]
  rw [List.drop_zero] at e2
  cases ha : rows.all fun p => rt p.2 with
  | false => rw [ha] at e2; simp at e2; simp; omega
  | true => rw [ha] at e2; simp at e2; simp; omega

/-- The order of two limbs' numbers, 0 where one may not be. -/
def cmpN (xs ys : List Nat) : Int := if rt xs = true ∧ rt ys = true then cmp (num B xs) (num B ys) else 0

theorem nat_Cmp_spec {h : AH} {s t : Sl} {xs ys : List Nat} (n : Nats h s xs) (m : Nats h t ys) : ∃ h', go (.fn F.nat_Cmp [s.v, t.v]) h = some (.int .i64 (cmpN xs ys), h') ∧ Grow h h' := by
  rw [u_nat_Cmp]
  simp only [newK_eq]
  have r := Rows.two n m
  have g := Grow.push h (.cells [s.v, t.v] T.api_Nat)
  generalize h.push (.cells [s.v, t.v] T.api_Nat) = h0 at *
  refine ⟨h0, ?_, g⟩
  rw [nat_right_spec r]
  simp only [Option.bind_some, asBool_bool, List.all_cons, List.all_nil, Bool.and_true]
  cases hx : rt xs with
  | false => simp [cmpN, hx]
  | true =>
    cases hy : rt ys with
    | false => simp [cmpN, hy]
    | true =>
      simp only [Bool.and_self, Bool.not_true, cond_false]
      rw [nat_compare_spec (n.grow g) (m.grow g) (rt_iff.1 hx).2 (rt_iff.1 hy).2]
      simp [cmpN, hx, hy]

theorem ref01_Cmp_spec {h : AH} {s t : Sl} {xs ys : List Nat} (n : Nats h s xs) (m : Nats h t ys) : ∃ h', go (.fn F.ref01_Cmp [s.v, t.v]) h = some (.int .i64 (cmpN xs ys), h') ∧ Grow h h' := by
  rw [u_ref01_Cmp, ref01_Right_spec n]
  simp only [Option.bind_some, asBool_bool]
  rw [ref01_Right_spec m]
  simp only [Option.bind_some, asBool_bool]
  cases hx : rt xs with
  | false => exact ⟨h, by simp [cmpN, hx], Grow.refl h⟩
  | true =>
    cases hy : rt ys with
    | false => exact ⟨h, by simp [cmpN, hy], Grow.refl h⟩
    | true =>
      simp only [Bool.not_true, cond_false]
      have lx := (rt_iff.1 hx).1
      have ly := (rt_iff.1 hy).1
      obtain ⟨d1, h1, e1, n1, g1, o1⟩ := ref01_In_spec n (by omega)
      obtain ⟨d2, h2, e2, n2, g2, o2⟩ := ref01_In_spec (m.grow g1) (by omega)
      refine ⟨h2, ?_, g1.trans g2⟩
      simp only [e1, Option.bind_some, asSl_v, e2]
      rw [ref01_compare_spec (n1.grow g2) n2 (digs_lt D2 _) (digs_lt D2 _) (digs_trim D2 _) (digs_trim D2 _), num_digs D2, num_digs D2]
      simp [cmpN, hx, hy]

/-! ### Whole numbers in rows -/
structure IRows (h : AH) (s : Sl) (rows : List (Bool × Sl × List Nat)) : Prop where
  cells : Cells h s 2 (rows.flatMap fun p => [.bool p.1, p.2.1.v])
  each : ∀ p ∈ rows, Nats h p.2.1 p.2.2
  short : rows.length ≤ 9223372036854775807

theorem IRows.grow {h h' : AH} (g : Grow h h') {s : Sl} {rows : List (Bool × Sl × List Nat)} (n : IRows h s rows) : IRows h' s rows := ⟨n.cells.grow g, fun p hp => (n.each p hp).grow g, n.short⟩

theorem pairs_get : ∀ (rows : List (Bool × Sl × List Nat)) (i : Nat) (hi : i < rows.length),
    (rows.flatMap fun p => [AV.bool p.1, p.2.1.v])[i * 2]? = some (AV.bool rows[i].1) ∧ (rows.flatMap fun p => [AV.bool p.1, p.2.1.v])[i * 2 + 1]? = some rows[i].2.1.v
  | [], i, hi => by simp at hi
  | p :: rows, 0, hi => by simp
  | p :: rows, i + 1, hi => by
    have := pairs_get rows i (by simpa using hi)
    rw [show (i + 1) * 2 = i * 2 + 2 from by omega]
    simpa using this

theorem IRows.len {h : AH} {s : Sl} {rows : List (Bool × Sl × List Nat)} (n : IRows h s rows) : s.len = rows.length := by
  have := n.cells.len
  have hl : (rows.flatMap fun p => [AV.bool p.1, p.2.1.v]).length = rows.length * 2 := by
    generalize rows = l
    induction l with
    | nil => rfl
    | cons a l ih => rw [List.flatMap_cons, List.length_append, ih]; simp; omega
  omega

theorem IRows.at {h : AH} {s : Sl} {rows : List (Bool × Sl × List Nat)} (n : IRows h s rows) {i : Nat} (hi : i < rows.length) : ∃ r, idx s.ref s.len (i : Int) 2 = some r ∧ h.cell (r.add 0) = some (.bool rows[i].1) ∧ h.cell (r.add 1) = some rows[i].2.1.v := by
  obtain ⟨p1, p2⟩ := pairs_get rows i hi
  obtain ⟨r, e1, e2⟩ := n.cells.get _ _ p1
  obtain ⟨r', e3, e4⟩ := n.cells.get _ _ p2
  rw [e1] at e3
  cases e3
  refine ⟨r.add (i * 2), ?_, by simpa using e2, by rw [Ref.add_add]; exact e4⟩
  rw [e1, idx_some _ _ _ _ (by omega) (by rw [n.len]; omega)]
  simp

theorem modint_right_1_spec {h : AH} {s : Sl} {xs : List Nat} (n : Nats h s xs) (neg : Bool) : ∃ h', go (.fn F.modint_right_1 [.agg [.bool neg, s.v]]) h = some (.bool (!rtI neg xs), h') ∧ Grow h h' := by
  rw [u_modint_right_1]
  simp only [newK_eq]
  have b0 := AH.has_push h [.bool neg, s.v] T.api_Int
  have g0 := Grow.push h (.cells [.bool neg, s.v] T.api_Int)
  generalize h.push (.cells [.bool neg, s.v] T.api_Int) = h0 at *
  obtain ⟨h1, e1, g1⟩ := modint_Right_spec (n.grow g0) neg
  exact ⟨h1, by simp [b0.cell, e1], g0.trans g1⟩

theorem modint_right_loop {s : Sl} {rows : List (Bool × Sl × List Nat)} : ∀ (k i : Nat), i + k = rows.length → ∀ {h : AH}, IRows h s rows →
    ∃ (j : Int) (h' : AH), go (.pt F.slices_IndexFunc_api_Int_api_Int Td.slices_IndexFunc_api_Int_api_Int_2 [(0, s.v), (1, .func (.func F.modint_right_1) [] []), (7, .int .i64 (rows.length : Int)), (8, .int .i64 (i : Int))]) h = some (.int .i64 j, h') ∧
      (j ≥ 0 ↔ (rows.drop i).all (fun p => rtI p.1 p.2.2) = false) ∧ Grow h h'
  | 0, i, hi, h, n => by
    rw [p_slices_IndexFunc_api_Int_api_Int_2__modint_right_1, show decide ((i : Int) < (rows.length : Int)) = false from by rw [decide_eq_false_iff_not]; omega, List.drop_of_length_le (by omega)]
    exact ⟨-1, h, rfl, by simp, Grow.refl h⟩
  | k + 1, i, hi, h, n => by
    have hs := n.short
    obtain ⟨r, e1, e2, e3⟩ := n.at (i := i) (by omega)
    have hp := n.each rows[i] (List.getElem_mem _)
    obtain ⟨h1, e4, g1⟩ := modint_right_1_spec hp rows[i].1
    rw [p_slices_IndexFunc_api_Int_api_Int_2__modint_right_1, show decide ((i : Int) < (rows.length : Int)) = true from by rw [decide_eq_true_eq]; omega, cond_true, e1]
    simp only [Option.bind_some, e2, e3, asSl_v, asBool_bool, e4]
    rw [List.drop_eq_getElem_cons (by omega), List.all_cons, wrap_succ (by omega)]
    cases hr : rtI rows[i].1 (rows[i].2.2) with
    | false => exact ⟨(i : Int), h1, rfl, by simp, g1⟩
    | true =>
      obtain ⟨j, h2, e5, e6, g2⟩ := modint_right_loop k (i + 1) (by omega) (n.grow g1)
      exact ⟨j, h2, e5, by simpa using e6, g1.trans g2⟩

theorem modint_right_spec {h : AH} {s : Sl} {rows : List (Bool × Sl × List Nat)} (n : IRows h s rows) : ∃ h', go (.fn F.modint_right [s.v]) h = some (.bool (rows.all fun p => rtI p.1 p.2.2), h') ∧ Grow h h' := by
  obtain ⟨j, h', e1, e2, g⟩ := modint_right_loop rows.length 0 (by omega) n
  refine ⟨h', ?_, g⟩
  rw [u_modint_right, u_slices_ContainsFunc_api_Int_api_Int__modint_right_1, u_slices_IndexFunc_api_Int_api_Int__modint_right_1, n.len]
  rw [show (0 : Int) = ((0 : Nat) : Int) from rfl, e1]
  simp only [Option.bind_some, avInt_int, asBool_bool]
  rw [List.drop_zero] at e2
  cases ha : rows.all fun p => rtI p.1 p.2.2 with
  | false => rw [ha] at e2; simp at e2; simp; omega
  | true => rw [ha] at e2; simp at e2; simp; omega

/-- Two of them, in a new block. -/
theorem IRows.two {h : AH} {a b : Sl} {xs ys : List Nat} (n : Nats h a xs) (m : Nats h b ys) (p q : Bool) : IRows (h.push (.cells [.bool p, a.v, .bool q, b.v] T.api_Int)) ⟨some (.new h.blks.size 0), 2, .is 2⟩ [(p, a, xs), (q, b, ys)] := by
  refine ⟨Cells.of_has (AH.has_push _ _ _) rfl, fun r hr => ?_, by simp⟩
  have g := Grow.push h (.cells [.bool p, a.v, .bool q, b.v] T.api_Int)
  simp at hr
  rcases hr with rfl | rfl
  · exact n.grow g
  · exact m.grow g

/-- The order of two whole numbers, 0 where one may not be. -/
def cmpI (p : Bool) (xs : List Nat) (q : Bool) (ys : List Nat) : Int :=
  if rtI p xs = true ∧ rtI q ys = true then (if p = q then (if p = true then cmpN ys xs else cmpN xs ys) else if p = true then -1 else 1) else 0

theorem modint_Cmp_spec {h : AH} {s t : Sl} {xs ys : List Nat} (n : Nats h s xs) (m : Nats h t ys) (p q : Bool) : ∃ h', go (.fn F.modint_Cmp [.agg [.bool p, s.v], .agg [.bool q, t.v]]) h = some (.int .i64 (cmpI p xs q ys), h') ∧ Grow h h' := by
  rw [u_modint_Cmp]
  simp only [newK_eq]
  have b0 := AH.has_push h [.bool p, s.v] T.api_Int
  have g0 := Grow.push h (.cells [.bool p, s.v] T.api_Int)
  generalize h.push (.cells [.bool p, s.v] T.api_Int) = h0 at *
  have c1 := AH.has_push h0 [.bool q, t.v] T.api_Int
  have g1 := Grow.push h0 (.cells [.bool q, t.v] T.api_Int)
  generalize h0.push (.cells [.bool q, t.v] T.api_Int) = h1 at *
  have b1 := g1.has b0
  simp only [Ref.add_new, Nat.zero_add, b1.cell, c1.cell, List.getElem?_cons_zero, List.getElem?_cons_succ, Option.bind_some, asBool_bool, asSl_v]
  have n1 := n.grow (g0.trans g1)
  have m1 := m.grow (g0.trans g1)
  have r2 := IRows.two n1 m1 p q
  have g2 := Grow.push h1 (.cells [.bool p, s.v, .bool q, t.v] T.api_Int)
  generalize h1.push (.cells [.bool p, s.v, .bool q, t.v] T.api_Int) = h2 at *
  obtain ⟨h3, e3, g3⟩ := modint_right_spec r2
  have g23 := g2.trans g3
  have b3 := g23.has b1
  have c3 := g23.has c1
  have n3 := n1.grow g23
  have m3 := m1.grow g23
  have gg := (g0.trans g1).trans g23
  obtain ⟨h4, e4, g4⟩ := nat_Cmp_spec n3 m3
  obtain ⟨h5, e5, g5⟩ := nat_Cmp_spec m3 n3
  rw [e3]
  simp only [Option.bind_some, asBool_bool, List.all_cons, List.all_nil, Bool.and_true, b3.cell, c3.cell, List.getElem?_cons_zero, List.getElem?_cons_succ, asSl_v, e4, e5, avInt_int]
  cases hx : rtI p xs with
  | false => exact ⟨h3, by simp [cmpI, hx], gg⟩
  | true =>
    cases hy : rtI q ys with
    | false => exact ⟨h3, by simp [cmpI, hy], gg⟩
    | true =>
      cases p <;> cases q
      · exact ⟨h4, by simp [cmpI, hx, hy], gg.trans g4⟩
      · exact ⟨h3, by simp [cmpI, hx, hy], gg⟩
      · exact ⟨h3, by simp [cmpI, hx, hy], gg⟩
      · exact ⟨h5, by simp [cmpI, hx, hy], gg.trans g5⟩

theorem ref03_Cmp_spec {h : AH} {s t : Sl} {xs ys : List Nat} (n : Nats h s xs) (m : Nats h t ys) (p q : Bool) : ∃ h', go (.fn F.ref03_Cmp [.agg [.bool p, s.v], .agg [.bool q, t.v]]) h = some (.int .i64 (cmpI p xs q ys), h') ∧ Grow h h' := by
  rw [u_ref03_Cmp]
  simp only [newK_eq]
  have b0 := AH.has_push h [.bool p, s.v] T.api_Int
  have g0 := Grow.push h (.cells [.bool p, s.v] T.api_Int)
  generalize h.push (.cells [.bool p, s.v] T.api_Int) = h0 at *
  have c1 := AH.has_push h0 [.bool q, t.v] T.api_Int
  have g1 := Grow.push h0 (.cells [.bool q, t.v] T.api_Int)
  generalize h0.push (.cells [.bool q, t.v] T.api_Int) = h1 at *
  have b1 := g1.has b0
  have n1 := n.grow (g0.trans g1)
  have m1 := m.grow (g0.trans g1)
  obtain ⟨h2, e2, g2⟩ := ref03_Right_spec n1 p
  obtain ⟨h3, e3, g3⟩ := ref03_Right_spec (m1.grow g2) q
  have g23 := g2.trans g3
  have b3 := g23.has b1
  have c3 := g23.has c1
  have n3 := n1.grow g23
  have m3 := m1.grow g23
  have gg := (g0.trans g1).trans g23
  obtain ⟨h4, e4, g4⟩ := ref01_Cmp_spec n3 m3
  obtain ⟨h5, e5, g5⟩ := ref01_Cmp_spec m3 n3
  simp only [Ref.add_new, Nat.zero_add, b1.cell, (g2.has c1).cell, b3.cell, c3.cell, List.getElem?_cons_zero, List.getElem?_cons_succ, Option.bind_some, asBool_bool, asSl_v, e2, e3, e4, e5, avInt_int]
  cases hx : rtI p xs with
  | false => exact ⟨h3, by simp [cmpI, hx], gg⟩
  | true =>
    cases hy : rtI q ys with
    | false => exact ⟨h3, by simp [cmpI, hy], gg⟩
    | true =>
      cases p <;> cases q
      · exact ⟨h4, by simp [cmpI, hx, hy], gg.trans g4⟩
      · exact ⟨h3, by simp [cmpI, hx, hy], gg⟩
      · exact ⟨h3, by simp [cmpI, hx, hy], gg⟩
      · exact ⟨h5, by simp [cmpI, hx, hy], gg.trans g5⟩

/-- The opposite. -/
def negI (neg : Bool) (xs : List Nat) : Bool × List Nat := if rtI neg xs = true then fromI (!neg) xs else (false, [])

theorem modint_Neg_spec {h : AH} {s : Sl} {xs : List Nat} (n : Nats h s xs) (neg : Bool) : ∃ (s' : Sl) (h' : AH), go (.fn F.modint_Neg [.agg [.bool neg, s.v]]) h = some (.agg [.bool (negI neg xs).1, s'.v], h') ∧ Nats h' s' (negI neg xs).2 ∧ Grow h h' ∧ Own h s' := by
  rw [u_modint_Neg]
  simp only [newK_eq]
  have b0 := AH.has_push h [.bool neg, s.v] T.api_Int
  have g0 := Grow.push h (.cells [.bool neg, s.v] T.api_Int)
  generalize h.push (.cells [.bool neg, s.v] T.api_Int) = h0 at *
  have c1 := AH.has_push h0 nilI T.api_Int
  have g1 := Grow.push h0 (.cells nilI T.api_Int)
  generalize h0.push (.cells nilI T.api_Int) = h1 at *
  have b1 := g1.has b0
  have n1 := n.grow (g0.trans g1)
  obtain ⟨h2, e2, g2⟩ := modint_Right_spec n1 neg
  have c2 := g2.has c1
  have b2 := g2.has b1
  have g02 := (g0.trans g1).trans g2
  obtain ⟨s3, h3, e3, n3, g3, o3⟩ := modint_From_spec (n1.grow g2) (!neg)
  have c3 := g3.has c2
  simp only [Ref.add_new, Nat.zero_add, b1.cell, b2.cell, List.getElem?_cons_zero, List.getElem?_cons_succ, Option.bind_some, asBool_bool, asSl_v, e2]
  cases hr : rtI neg xs with
  | false =>
    rw [show negI neg xs = (false, []) from by simp [negI, hr]]
    refine ⟨⟨none, 0, .is 0⟩, h2.upd h0.blks.size nilI T.api_Int, ?_, Nats.nil _, g02.upd g0.size _ _, Own.nil h⟩
    simp [c2.puts_all, AH.cell_upd c2]
  | true =>
    rw [show negI neg xs = fromI (!neg) xs from by simp [negI, hr]]
    refine ⟨s3, h3.upd h0.blks.size [.bool (fromI (!neg) xs).1, s3.v] T.api_Int, ?_, n3.upd o3 c2.lt _ _, (g02.trans g3).upd g0.size _ _, o3.of_le g02⟩
    simp [e3, c3.puts_all, AH.cell_upd c3]

theorem ref03_Neg_spec {h : AH} {s : Sl} {xs : List Nat} (n : Nats h s xs) (neg : Bool) : ∃ (s' : Sl) (h' : AH), go (.fn F.ref03_Neg [.agg [.bool neg, s.v]]) h = some (.agg [.bool (negI neg xs).1, s'.v], h') ∧ Nats h' s' (negI neg xs).2 ∧ Grow h h' ∧ Own h s' := by
  rw [u_ref03_Neg]
  simp only [newK_eq]
  have b0 := AH.has_push h [.bool neg, s.v] T.api_Int
  have g0 := Grow.push h (.cells [.bool neg, s.v] T.api_Int)
  generalize h.push (.cells [.bool neg, s.v] T.api_Int) = h0 at *
  have c1 := AH.has_push h0 nilI T.api_Int
  have g1 := Grow.push h0 (.cells nilI T.api_Int)
  generalize h0.push (.cells nilI T.api_Int) = h1 at *
  have b1 := g1.has b0
  have n1 := n.grow (g0.trans g1)
  obtain ⟨h2, e2, g2⟩ := ref03_Right_spec n1 neg
  have c2 := g2.has c1
  have b2 := g2.has b1
  have g02 := (g0.trans g1).trans g2
  obtain ⟨s3, h3, e3, n3, g3, o3⟩ := ref03_From_spec (n1.grow g2) (!neg)
  have c3 := g3.has c2
  simp only [Ref.add_new, Nat.zero_add, b1.cell, b2.cell, List.getElem?_cons_zero, List.getElem?_cons_succ, Option.bind_some, asBool_bool, asSl_v, e2]
  cases hr : rtI neg xs with
  | false =>
    rw [show negI neg xs = (false, []) from by simp [negI, hr]]
    refine ⟨⟨none, 0, .is 0⟩, h2.upd h0.blks.size nilI T.api_Int, ?_, Nats.nil _, g02.upd g0.size _ _, Own.nil h⟩
    simp [c2.puts_all, AH.cell_upd c2]
  | true =>
    rw [show negI neg xs = fromI (!neg) xs from by simp [negI, hr]]
    refine ⟨s3, h3.upd h0.blks.size [.bool (fromI (!neg) xs).1, s3.v] T.api_Int, ?_, n3.upd o3 c2.lt _ _, (g02.trans g3).upd g0.size _ _, o3.of_le g02⟩
    simp [e3, c3.puts_all, AH.cell_upd c3]

end Go.Ab
