/- Layer 3: the law of rights. -/
import Derived.Test.YtddnmijnpieokaaS4
set_option linter.unusedVariables false
set_option linter.unusedSimpArgs false
set_option maxRecDepth 10000
namespace Go.Ab
open Go.Proofs Go.Num

/-! ### Not too many limbs -/
/-- A list of numbers' limbs, each in its slice. -/
structure Rows (h : AH) (s : Sl) (rows : List (Sl × List Nat)) : Prop where
  cells : Cells h s 1 (rows.map fun p => p.1.v)
  each : ∀ p ∈ rows, Nats h p.1 p.2
  short : rows.length ≤ 9223372036854775807

theorem Rows.len {h : AH} {s : Sl} {rows : List (Sl × List Nat)} (n : Rows h s rows) : s.len = rows.length := by
  have := n.cells.len
  simpa using this

theorem Rows.at {h : AH} {s : Sl} {rows : List (Sl × List Nat)} (n : Rows h s rows) {i : Nat} (hi : i < rows.length) : ∃ r, idx s.ref s.len (i : Int) 1 = some r ∧ h.cell r = some (rows[i].1).v := by
  obtain ⟨r, e1, e2⟩ := n.cells.get i (rows[i].1).v (by simp [hi])
  refine ⟨r.add i, ?_, e2⟩
  rw [e1, idx_some _ _ _ _ (by omega) (by rw [n.len]; omega)]
  simp

theorem few_loop {h : AH} {s : Sl} {rows : List (Sl × List Nat)} (n : Rows h s rows) : ∀ (k i : Nat), i + k = rows.length →
    go (.pt F.law03_few Td.law03_few_2 [(0, s.v), (3, .int .i64 (i : Int))]) h = some (.bool ((rows.drop i).all fun p => decide (p.2.length ≤ 70)), h)
  | 0, i, hi => by
    rw [p_law03_few_2, n.len, show decide ((i : Int) < (rows.length : Int)) = false from by rw [decide_eq_false_iff_not]; omega, List.drop_of_length_le (by omega)]
    rfl
  | k + 1, i, hi => by
    have hs := n.short
    obtain ⟨r, e1, e2⟩ := n.at (i := i) (by omega)
    have hp := n.each rows[i] (List.getElem_mem _)
    rw [p_law03_few_2, show decide ((i : Int) < (s.len : Int)) = true from by rw [decide_eq_true_eq, n.len]; omega, cond_true, e1]
    simp only [Option.bind_some, e2, asSl_v]
    rw [List.drop_eq_getElem_cons (by omega), List.all_cons, wrap_succ (by omega), few_loop n k (i + 1) (by omega), hp.len]
    by_cases h70 : (rows[i].2).length ≤ 70
    · rw [show decide (((rows[i].2).length : Int) > 70) = false from by rw [decide_eq_false_iff_not]; omega]
      simp [h70]
    · rw [show decide (((rows[i].2).length : Int) > 70) = true from by rw [decide_eq_true_eq]; omega]
      simp [h70]

theorem few_spec {h : AH} {s : Sl} {rows : List (Sl × List Nat)} (n : Rows h s rows) : go (.fn F.law03_few [s.v]) h = some (.bool (rows.all fun p => decide (p.2.length ≤ 70)), h) := by
  rw [u_law03_few]
  exact few_loop n rows.length 0 (by omega)

/-- Two of them, in a new block. -/
theorem Rows.two {h : AH} {a b : Sl} {xs ys : List Nat} (n : Nats h a xs) (m : Nats h b ys) : Rows (h.push (.cells [a.v, b.v] T.api_Nat)) ⟨some (.new h.blks.size 0), 2, .is 2⟩ [(a, xs), (b, ys)] := by
  refine ⟨Cells.of_has (AH.has_push _ _ _) rfl, fun p hp => ?_, by simp⟩
  have g := Grow.push h (.cells [a.v, b.v] T.api_Nat)
  simp at hp
  rcases hp with rfl | rfl
  · exact n.grow g
  · exact m.grow g

theorem ModintRights_spec {h : AH} {s t : Sl} {xs ys : List Nat} (n : Nats h s xs) (m : Nats h t ys) (neg neg' : Bool) {x : Int} (h1 : -9223372036854775808 ≤ x) (h2 : x ≤ 9223372036854775807) :
    ∃ h', go (.fn F.law03_ModintRights [.agg [.bool neg, s.v], .int .i64 x, .agg [.bool neg', t.v]]) h = some (.bool true, h') := by
  rw [u_law03_ModintRights]
  simp only [newK_eq]
  have b0 := AH.has_push h [.bool neg, s.v] T.api_Int
  have g0 := Grow.push h (.cells [.bool neg, s.v] T.api_Int)
  generalize h.push (.cells [.bool neg, s.v] T.api_Int) = h0 at *
  have c1 := AH.has_push h0 [.bool neg', t.v] T.api_Int
  have g1 := Grow.push h0 (.cells [.bool neg', t.v] T.api_Int)
  generalize h0.push (.cells [.bool neg', t.v] T.api_Int) = hh1 at *
  have b1 := g1.has b0
  simp only [Ref.add_new, Nat.zero_add, b1.cell, c1.cell, List.getElem?_cons_zero, List.getElem?_cons_succ, Option.bind_some, asBool_bool, asSl_v]
  have n1 := n.grow (g0.trans g1)
  have m1 := m.grow (g0.trans g1)
  have rw1 := Rows.two n1 m1
  have g2 := Grow.push hh1 (.cells [s.v, t.v] T.api_Nat)
  generalize hh1.push (.cells [s.v, t.v] T.api_Nat) = hh2 at *
  rw [few_spec rw1]
  simp only [Option.bind_some, asBool_bool]
  refine cond_elim_ex (z := fun h' => some (AV.bool true, h')) (fun _ => ⟨_, rfl⟩) fun _ => ?_
  have a2 := g2.has b1
  have m2 := m1.grow g2
  have n2 := n1.grow g2
  -- Of
  obtain ⟨s3, hh3, e3, n3, g3, o3⟩ := modint_Of_spec (h := hh2) h1 h2
  have g4 := Grow.push hh3 (.cells nilI T.api_Int)
  have b4 := AH.has_push hh3 nilI T.api_Int
  have n4 := n3.grow g4
  simp only [e3, Option.bind_some, asAgg_agg, List.length_cons, List.length_nil, Nat.reduceAdd, Nat.beq_refl, cond_true, List.getElem?_cons_zero, List.getElem?_cons_succ, asBool_bool, asSl_v, newK_eq]
  generalize hh3.push (.cells nilI T.api_Int) = hh4 at *
  rw [b4.puts_all (vs := [.bool (ofI x).1, s3.v]) rfl]
  simp only [Option.bind_some]
  have g5 := g4.upd (Nat.le_refl hh3.blks.size) [.bool (ofI x).1, s3.v] T.api_Int
  have b5 := AH.has_upd b4 [.bool (ofI x).1, s3.v] T.api_Int
  have n5 := n3.grow g5
  generalize hh4.upd hh3.blks.size [.bool (ofI x).1, s3.v] T.api_Int = hh5 at *
  obtain ⟨s6, hh6, e6, n6, g6, o6⟩ := ref03_Of_spec (h := hh5) h1 h2
  have n6' := n5.grow g6
  obtain ⟨hh7, e7, g7⟩ := ref03_Same_spec n6' n6 (ofI x).1
  simp only [b5.cell, e6, Option.bind_some, asAgg_agg, List.length_cons, List.length_nil, Nat.reduceAdd, Nat.beq_refl, cond_true, List.getElem?_cons_zero, List.getElem?_cons_succ, asBool_bool, asSl_v]
  rw [whenK_of (g6.same b5 0 2)]
  simp only [cond_true, e7, Option.bind_some, asBool_bool]
  -- From
  have gA := g3.trans (g5.trans (g6.trans g7))
  have m7 := m2.grow gA
  obtain ⟨s8, hh8, e8, n8, g8, o8⟩ := modint_From_spec m7 neg'
  have g9 := Grow.push hh8 (.cells nilI T.api_Int)
  have b9 := AH.has_push hh8 nilI T.api_Int
  simp only [e8, Option.bind_some, asAgg_agg, List.length_cons, List.length_nil, Nat.reduceAdd, Nat.beq_refl, cond_true, List.getElem?_cons_zero, List.getElem?_cons_succ, asBool_bool, asSl_v, newK_eq]
  generalize hh8.push (.cells nilI T.api_Int) = hh9 at *
  rw [b9.puts_all (vs := [.bool (fromI neg' ys).1, s8.v]) rfl]
  simp only [Option.bind_some]
  have g10 := g9.upd (Nat.le_refl hh8.blks.size) [.bool (fromI neg' ys).1, s8.v] T.api_Int
  have b10 := AH.has_upd b9 [.bool (fromI neg' ys).1, s8.v] T.api_Int
  have n10 := n8.grow g10
  generalize hh9.upd hh8.blks.size [.bool (fromI neg' ys).1, s8.v] T.api_Int = hh10 at *
  obtain ⟨s11, hh11, e11, n11, g11, o11⟩ := ref03_From_spec (m7.grow (g8.trans g10)) neg'
  obtain ⟨hh12, e12, g12⟩ := ref03_Same_spec (n10.grow g11) n11 (fromI neg' ys).1
  simp only [b10.cell, e11, Option.bind_some, asAgg_agg, List.length_cons, List.length_nil, Nat.reduceAdd, Nat.beq_refl, cond_true, List.getElem?_cons_zero, List.getElem?_cons_succ, asBool_bool, asSl_v]
  rw [whenK_of (g11.same b10 0 2)]
  simp only [cond_true, e12, Option.bind_some, asBool_bool]
  -- Small
  have gB := gA.trans (g8.trans (g10.trans (g11.trans g12)))
  have a12 := gB.has a2
  have n12 := n2.grow gB
  obtain ⟨hh13, e13, g13⟩ := modint_Small_spec n12 neg
  obtain ⟨hh14, e14, g14⟩ := ref03_Small_spec (n12.grow g13) neg
  obtain ⟨s15, hh15, e15, n15, g15, o15⟩ := modint_Of_spec (h := hh14) (n := 1) (by decide) (by decide)
  obtain ⟨hh16, e16, g16⟩ := modint_Small_spec n15 (ofI 1).1
  have gC := g13.trans (g14.trans (g15.trans g16))
  have n16 := n12.grow gC
  obtain ⟨hh17, e17, g17⟩ := modint_Right_spec n16 neg
  obtain ⟨hh18, e18, g18⟩ := ref03_Right_spec (n16.grow g17) neg
  have one : smallI (ofI 1).1 (ofI 1).2 = (1, true) := by decide +kernel
  rw [one] at e16
  simp only [a12.cell, (g13.has a12).cell, (gC.has a12).cell, ((gC.trans g17).has a12).cell, e13, e14, e15, e16, e17, e18, Option.bind_some, asTup2_tup, avInt_int, asAgg_agg, List.length_cons, List.length_nil, Nat.reduceAdd, Nat.beq_refl, cond_true, List.getElem?_cons_zero, List.getElem?_cons_succ, asBool_bool, asSl_v, decide_true, beq_self_eq_true, cond_true]
  rw [whenK_of (g17.same (gC.has a12) 0 2)]
  exact ⟨_, rfl⟩

/-! ### Arguments -/
theorem nats_of_arg {h : AH} {cs : List AV} (a : ArgT Pg h T.api_Nat cs) : ∃ (s : Sl) (xs : List Nat), cs = [s.v] ∧ Nats h s xs := by
  rcases a.slice und_api_Nat with rfl | ⟨ad, len, cap, rfl, h1, h2, h3⟩
  · exact ⟨⟨none, 0, .is 0⟩, [], rfl, Nats.nil h⟩
  · rw [cells_uint64] at h3
    have key : ∀ i, i < len → ∃ x : Nat, h.cell (.old (ad.add i)) = some (u64 x) ∧ x < 18446744073709551616 := by
      intro i hi
      obtain ⟨es, e1, e2⟩ := h3 i hi
      obtain ⟨x, rfl, hw⟩ := e2.int und_uint64
      rw [Nat.mul_one] at e1
      have hx : 0 ≤ x ∧ x < 18446744073709551616 := by
        have : 0 ≤ x ∧ x ≤ 18446744073709551615 := by simpa [Lit.wf, IntKind.has, IntKind.min, IntKind.max, IntKind.bits, IntKind.signed] using hw
        omega
      refine ⟨x.toNat, ?_, by omega⟩
      show _ = some (AV.int .u64 ((x.toNat : Nat) : Int))
      rw [show ((x.toNat : Nat) : Int) = x from by omega]
      simp only [AH.gets, Option.bind_eq_some_iff, Option.map_eq_some_iff] at e1
      obtain ⟨v, e3, l, e4, e5⟩ := e1
      simp only [List.cons.injEq] at e5
      rw [e3, e5.1]
    have mk : ∀ n, n ≤ len → ∃ xs : List Nat, xs.length = n ∧ ∀ (i : Nat) (hi : i < xs.length), h.cell (.old (ad.add i)) = some (u64 xs[i]) ∧ xs[i] < 18446744073709551616 := by
      intro n
      induction n with
      | zero => exact fun _ => ⟨[], rfl, fun i hi => by simp at hi⟩
      | succ n ih =>
        intro hn
        obtain ⟨xs, hl, hx⟩ := ih (by omega)
        obtain ⟨x, k1, k2⟩ := key n (by omega)
        refine ⟨xs ++ [x], by simp [hl], fun i hi => ?_⟩
        simp only [List.length_append, List.length_singleton] at hi
        by_cases hin : i < xs.length
        · rw [List.getElem_append_left hin]
          exact hx i hin
        · have : i = n := by omega
          subst this
          rw [List.getElem_append_right (by omega)]
          simp only [hl, Nat.sub_self, List.getElem_singleton]
          exact ⟨k1, k2⟩
    obtain ⟨xs, hl, hx⟩ := mk len (Nat.le_refl _)
    refine ⟨⟨some (.old ad), len, .is cap⟩, xs, rfl, ⟨⟨h1, by simp [hl], fun i v hv => ?_⟩, fun x hx' => ?_, ?_⟩⟩
    · rw [List.getElem?_map, Option.map_eq_some_iff] at hv
      obtain ⟨x, e1, rfl⟩ := hv
      obtain ⟨hi, rfl⟩ := List.getElem?_eq_some_iff.1 e1
      exact ⟨_, rfl, (hx i hi).1⟩
    · obtain ⟨i, hi, rfl⟩ := List.getElem_of_mem hx'
      exact (hx i hi).2
    · have : maxLen = 9223372036854775807 := by decide
      omega

theorem nat_of_arg {h : AH} {x : AV} (a : ArgV Pg h T.api_Nat x) : ∃ (s : Sl) (xs : List Nat), x = s.v ∧ Nats h s xs := by
  unfold ArgV at a
  rw [und_api_Nat] at a
  obtain ⟨s, xs, e, n⟩ := nats_of_arg a
  cases e
  exact ⟨s, xs, rfl, n⟩

theorem apiInt_of_arg {h : AH} {x : AV} (a : ArgV Pg h T.api_Int x) : ∃ (neg : Bool) (s : Sl) (xs : List Nat), x = .agg [.bool neg, s.v] ∧ Nats h s xs := by
  unfold ArgV at a
  rw [und_api_Int] at a
  obtain ⟨cs, rfl, t⟩ := a
  obtain ⟨hl, hf⟩ := t.struct und_api_Int
  rw [cells_api_Int] at hl
  match cs, hl with
  | [x0, x1], _ =>
    simp [cells_bool, cells_api_Nat] at hf
    obtain ⟨h0, h1⟩ := hf
    obtain ⟨b, e0⟩ := h0.bool und_bool
    obtain ⟨s, xs, e1, n⟩ := nats_of_arg h1
    cases e0; cases e1
    exact ⟨b, s, xs, rfl, n⟩

theorem i64_of_arg {h : AH} {x : AV} (a : ArgV Pg h T.int64 x) : ∃ n, x = .int .i64 n ∧ -9223372036854775808 ≤ n ∧ n ≤ 9223372036854775807 := by
  unfold ArgV at a
  rw [und_int64] at a
  obtain ⟨n, e, w⟩ := a.int und_int64
  cases e
  refine ⟨n, rfl, ?_⟩
  simpa [Lit.wf, IntKind.has, IntKind.min, IntKind.max, IntKind.bits, IntKind.signed] using w

theorem ModintRights_law (h : AH) {x0 x1 x2 : AV} (z0 : ArgV Pg h T.api_Int x0) (z1 : ArgV Pg h T.int64 x1) (z2 : ArgV Pg h T.api_Int x2) : ∃ h', go (.fn F.law03_ModintRights [x0, x1, x2]) h = some (.bool true, h') := by
  obtain ⟨neg, s, xs, rfl, n⟩ := apiInt_of_arg z0
  obtain ⟨x, rfl, h1, h2⟩ := i64_of_arg z1
  obtain ⟨neg', t, ys, rfl, m⟩ := apiInt_of_arg z2
  exact ModintRights_spec n m neg neg' h1 h2

end Go.Ab
