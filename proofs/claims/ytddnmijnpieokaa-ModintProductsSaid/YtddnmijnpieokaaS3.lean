/- Layers 1 and 3: from and to small numbers; whole numbers. -/
import Derived.Test.YtddnmijnpieokaaS2
set_option linter.unusedVariables false
set_option linter.unusedSimpArgs false
set_option maxRecDepth 10000
namespace Go.Ab
open Go.Proofs Go.Num

theorem growOk_u64 {n : Nat} (h : n ≤ 8796093022208) : growOk Pg n T.uint64 1 = true := by
  unfold growOk
  rw [zero_uint64, bytes_uint64]
  have h1 : n * 8 ≤ mostBytes := by simp only [mostBytes]; omega
  have h2 : n ≤ mostBytes := by simp only [mostBytes]; omega
  simp [h1, h2]

theorem clone_spec {h : AH} {s : Sl} {xs : List Nat} (n : Nats h s xs) (hl : xs.length ≤ 8796093022208) : ∃ s' h', go (.fn F.slices_Clone_api_Nat_uint64 [s.v]) h = some (s'.v, h') ∧ Nats h' s' xs ∧ Grow h h' ∧ Own h s' := by
  rw [u_slices_Clone_api_Nat_uint64]
  cases hr : s.ref with
  | none =>
    have : xs = [] := by
      cases xs with
      | nil => rfl
      | cons x xs =>
        obtain ⟨r, e1, _⟩ := n.cells.get 0 (u64 x) rfl
        rw [hr] at e1
        cases e1
    subst this
    exact ⟨_, _, rfl, Nats.nil h, Grow.refl h, Own.nil h⟩
  | some r =>
    simp only [Option.isNone_some, cond_false, newK_eq]
    have n1 := n.grow (Grow.push h (.cells [] T.uint64))
    have c1 := n1.cells
    rw [← cells_uint64] at c1
    rw [appendArgs_of c1, n.len]
    simp only [Option.bind_some]
    have own : ∀ (m : Nat) (c : Cap), Own h ⟨some (.new h.blks.size 0), m, c⟩ := fun m c r hr => by cases hr; exact ⟨_, _, rfl, Nat.le_refl _⟩
    cases xs with
    | nil =>
      obtain ⟨s', e1, e2, e3⟩ := append_none (P := Pg) (elem := T.uint64) (m := 1) (by omega) (Cells.of_has (n := 1) (m := 0) (AH.has_push h [] T.uint64) rfl)
      simp only [List.map_nil, List.length_nil, e1, Option.bind_some, asSl_v]
      exact ⟨s', _, rfl, ⟨e2, by simp, by simp⟩, Grow.push _ _, e3 h (own 0 (.is 0))⟩
    | cons x xs =>
      rw [append_new (c := 0) rfl (by simp) (growOk_u64 (by simpa using hl)) (Cells.of_has (n := 1) (m := 0) (AH.has_push h [] T.uint64) rfl)]
      simp only [Option.bind_some, asSl_v]
      refine ⟨_, _, rfl, ⟨⟨rfl, by simp, fun i v hv => ⟨_, rfl, by rw [Ref.add_new, Nat.zero_add, AH.cell_push]; exact hv⟩⟩, n.lt, n.short⟩, (Grow.push _ _).trans (Grow.push _ _), fun r hr => ?_⟩
      cases hr
      exact ⟨_, _, rfl, by simp⟩

/-- What 'From' tells. -/
def fromI (neg : Bool) (xs : List Nat) : Bool × List Nat := if rt xs = true ∧ xs ≠ [] then (neg, xs) else (false, [])

/-- A whole number's parts, in a heap that has grown from another. -/
def IntAt (h h' : AH) (v : AV) (p : Bool × List Nat) : Prop := ∃ s : Sl, v = .agg [.bool p.1, s.v] ∧ Nats h' s p.2 ∧ Own h s

@[reducible] def nilI : List AV := [.bool false, (⟨none, 0, .is 0⟩ : Sl).v]

theorem modint_From_spec {h : AH} {s : Sl} {xs : List Nat} (n : Nats h s xs) (neg : Bool) : ∃ (s' : Sl) (h' : AH), go (.fn F.modint_From [.bool neg, s.v]) h = some (.agg [.bool (fromI neg xs).1, s'.v], h') ∧ Nats h' s' (fromI neg xs).2 ∧ Grow h h' ∧ Own h s' := by
  rw [u_modint_From]
  simp only [newK_eq]
  have b0 := AH.has_push h nilI T.api_Int
  have g0 := Grow.push h (.cells nilI T.api_Int)
  have n0 := n.grow g0
  rw [nat_Right_spec n0]
  simp only [Option.bind_some, asBool_bool, Ref.add_new, Nat.zero_add]
  generalize h.push (.cells nilI T.api_Int) = h0 at *
  cases hrt : rt xs with
  | false =>
    rw [show fromI neg xs = (false, []) from by simp [fromI, hrt]]
    refine ⟨⟨none, 0, .is 0⟩, h0.upd h.blks.size nilI T.api_Int, ?_, Nats.nil _, g0.upd (Nat.le_refl _) _ _, Own.nil h⟩
    simp [b0.puts_all, AH.cell_upd b0]
  | true =>
    by_cases hx : xs = []
    · rw [show fromI neg xs = (false, []) from by simp [fromI, hx]]
      have : s.len = 0 := by rw [n.len, hx]; rfl
      refine ⟨⟨none, 0, .is 0⟩, h0.upd h.blks.size nilI T.api_Int, ?_, Nats.nil _, g0.upd (Nat.le_refl _) _ _, Own.nil h⟩
      simp [b0.puts_all, AH.cell_upd b0, this]
    · rw [show fromI neg xs = (neg, xs) from by simp [fromI, hx, hrt]]
      have : s.len ≠ 0 := by rw [n.len]; simpa using hx
      have h64 := (rt_iff.1 hrt).1
      obtain ⟨s', h', e1, e2, e3, e4⟩ := clone_spec n0 (by omega)
      have b1 := e3.has b0
      refine ⟨s', h'.upd h.blks.size [.bool neg, s'.v] T.api_Int, ?_, ?_, (g0.trans e3).upd (Nat.le_refl _) _ _, fun r hr => ?_⟩
      · simp [e1, b1.puts_all, AH.cell_upd b1, this]
      · exact e2.upd e4 b0.lt _ _
      · exact e4.of_le g0 r hr

theorem ref03_From_spec {h : AH} {s : Sl} {xs : List Nat} (n : Nats h s xs) (neg : Bool) : ∃ (s' : Sl) (h' : AH), go (.fn F.ref03_From [.bool neg, s.v]) h = some (.agg [.bool (fromI neg xs).1, s'.v], h') ∧ Nats h' s' (fromI neg xs).2 ∧ Grow h h' ∧ Own h s' := by
  rw [u_ref03_From]
  simp only [newK_eq]
  have b0 := AH.has_push h nilI T.api_Int
  have g0 := Grow.push h (.cells nilI T.api_Int)
  have n0 := n.grow g0
  rw [ref01_Right_spec n0]
  simp only [Option.bind_some, asBool_bool, Ref.add_new, Nat.zero_add]
  generalize h.push (.cells nilI T.api_Int) = h0 at *
  cases hrt : rt xs with
  | false =>
    rw [show fromI neg xs = (false, []) from by simp [fromI, hrt]]
    refine ⟨⟨none, 0, .is 0⟩, h0.upd h.blks.size nilI T.api_Int, ?_, Nats.nil _, g0.upd (Nat.le_refl _) _ _, Own.nil h⟩
    simp [b0.puts_all, AH.cell_upd b0]
  | true =>
    by_cases hx : xs = []
    · rw [show fromI neg xs = (false, []) from by simp [fromI, hx]]
      have : s.len = 0 := by rw [n.len, hx]; rfl
      refine ⟨⟨none, 0, .is 0⟩, h0.upd h.blks.size nilI T.api_Int, ?_, Nats.nil _, g0.upd (Nat.le_refl _) _ _, Own.nil h⟩
      simp [b0.puts_all, AH.cell_upd b0, this]
    · rw [show fromI neg xs = (neg, xs) from by simp [fromI, hx, hrt]]
      have hl : s.len ≠ 0 := by rw [n.len]; simpa using hx
      have h64 := (rt_iff.1 hrt).1
      have g1 := Grow.push h0 (.cells [] T.uint64)
      have c1 := (n0.grow g1).cells
      rw [← cells_uint64] at c1
      have hpos : 0 < xs.length := by cases xs; exact absurd rfl hx; simp
      rw [appendArgs_of c1, n.len]
      simp only [Option.bind_some]
      rw [append_new (c := 0) rfl (by simpa using hpos) (growOk_u64 (by simp; omega)) (Cells.of_has (n := 1) (m := 0) (AH.has_push h0 [] T.uint64) rfl)]
      simp only [Option.bind_some, asSl_v, AH.push_size, List.nil_append, Nat.zero_add]
      have g2 := g1.trans (Grow.push (h0.push (.cells [] T.uint64)) (.cells (xs.map u64) T.uint64))
      have b1 := g2.has b0
      have n2 : Nats ((h0.push (.cells [] T.uint64)).push (.cells (xs.map u64) T.uint64)) ⟨some (.new (h0.blks.size + 1) 0), xs.length, .opn 1⟩ xs :=
        ⟨⟨rfl, by simp, fun i v hv => ⟨_, rfl, by
          have := AH.cell_push (h0.push (.cells [] T.uint64)) (xs.map u64) T.uint64 i
          rw [AH.push_size] at this
          rw [Ref.add_new, Nat.zero_add, this]; exact hv⟩⟩, n.lt, n.short⟩
      have o2 : Own h0 ⟨some (.new (h0.blks.size + 1) 0), xs.length, .opn 1⟩ := fun r hr => by cases hr; exact ⟨_, _, rfl, by omega⟩
      generalize (h0.push (.cells [] T.uint64)).push (.cells (xs.map u64) T.uint64) = h2 at *
      refine ⟨_, h2.upd h.blks.size [.bool neg, Sl.v ⟨some (.new (h0.blks.size + 1) 0), xs.length, .opn 1⟩] T.api_Int, ?_, n2.upd o2 b0.lt _ _, (g0.trans g2).upd (Nat.le_refl _) _ _, o2.of_le g0⟩
      have hl' : ¬ (xs = []) := hx
      simp [b1.puts_all, AH.cell_upd b1, hl', hx]

theorem nat_Of_spec {h : AH} {x : Nat} (hx : x < B) : ∃ (s' : Sl) (h' : AH), go (.fn F.nat_Of [.int .u64 (x : Int)]) h = some (s'.v, h') ∧ Nats h' s' (digs B x) ∧ Grow h h' ∧ Own h s' := by
  rw [u_nat_Of]
  simp only [newK_eq]
  have n0 : Nats (h.push (.cells [u64 x] T.uint64)) ⟨some (.new h.blks.size 0), 1, .is 1⟩ [x] := ⟨Cells.of_has (AH.has_push h [u64 x] T.uint64) rfl, by simpa using hx, by simp⟩
  obtain ⟨s', e1, e2, e3⟩ := nat_trim_spec n0
  rw [e1]
  simp only [Option.bind_some, asSl_v]
  refine ⟨s', _, rfl, by simpa [num] using e2, Grow.push _ _, e3 h fun r hr => by cases hr; exact ⟨_, _, rfl, Nat.le_refl _⟩⟩

theorem ref01_Of_spec {h : AH} {x : Nat} (hx : x < B) : ∃ (s' : Sl) (h' : AH), go (.fn F.ref01_Of [.int .u64 (x : Int)]) h = some (s'.v, h') ∧ Nats h' s' (digs B x) ∧ Grow h h' ∧ Own h s' := by
  rw [u_ref01_Of]
  by_cases h0 : x = 0
  · subst h0
    rw [digs_zero]
    exact ⟨_, _, rfl, Nats.nil h, Grow.refl h, Own.nil h⟩
  · have hd : digs B x = [x] := by
      rw [digs_pos B2 h0, Nat.mod_eq_of_lt hx, Nat.div_eq_of_lt hx, digs_zero]
    rw [hd]
    rw [show decide ((x : Int) = 0) = false from by rw [decide_eq_false_iff_not]; omega]
    refine ⟨_, _, rfl, ⟨Cells.of_has (AH.has_push h [u64 x] T.uint64) rfl, by simpa using hx, by simp⟩, Grow.push _ _, fun r hr => by cases hr; exact ⟨_, _, rfl, Nat.le_refl _⟩⟩

/-- What 'Of' tells. -/
def ofI (n : Int) : Bool × List Nat := fromI (decide (n < 0)) (digs B n.natAbs)

theorem modint_Of_spec {h : AH} {n : Int} (h1 : -9223372036854775808 ≤ n) (h2 : n ≤ 9223372036854775807) : ∃ (s' : Sl) (h' : AH), go (.fn F.modint_Of [.int .i64 n]) h = some (.agg [.bool (ofI n).1, s'.v], h') ∧ Nats h' s' (ofI n).2 ∧ Grow h h' ∧ Own h s' := by
  rw [u_modint_Of]
  simp only [newK_eq]
  have b0 := AH.has_push h nilI T.api_Int
  have g0 := Grow.push h (.cells nilI T.api_Int)
  generalize h.push (.cells nilI T.api_Int) = h0 at *
  have key : ∀ (neg : Bool) (x : Nat), x < B → fromI neg (digs B x) = ofI n → ∃ (s' : Sl) (h' : AH),
      ((go (.fn F.nat_Of [.int .u64 (x : Int)]) h0).bind fun q3 =>
        ((some q3.1).bind AV.asSl).bind fun l4 =>
        (go (.fn F.modint_From [.bool neg, l4.v]) q3.2).bind fun q5 =>
        (AV.asAgg q5.1).bind fun cs6 =>
        cond (Nat.beq cs6.length 2) (
        ((cs6[0]?).bind AV.asBool).bind fun b7 =>
        ((cs6[1]?).bind AV.asSl).bind fun l8 =>
        (q5.2.puts (.new h.blks.size 0) [.bool b7, l8.v]).bind fun h9 =>
        ((h9.cell ((Ref.new h.blks.size 0).add 0)).bind AV.asBool).bind fun b10 =>
        ((h9.cell ((Ref.new h.blks.size 0).add 1)).bind AV.asSl).bind fun l11 =>
        some (AV.agg [.bool b10, l11.v], h9)) none) = some (AV.agg [.bool (ofI n).1, s'.v], h') ∧ Nats h' s' (ofI n).2 ∧ Grow h h' ∧ Own h s' := by
    intro neg x hx he
    obtain ⟨s1, hh1, e1, n1, g1, o1⟩ := nat_Of_spec (h := h0) hx
    obtain ⟨s2, hh2, e2, n2, g2, o2⟩ := modint_From_spec n1 neg
    rw [he] at e2 n2
    have b2 := (g1.trans g2).has b0
    refine ⟨s2, hh2.upd h.blks.size [.bool (ofI n).1, s2.v] T.api_Int, ?_, n2.upd o2 (g1.has b0).lt _ _, (g0.trans (g1.trans g2)).upd (Nat.le_refl _) _ _, o2.of_le (g0.trans g1)⟩
    simp [e1, e2, b2.puts_all, AH.cell_upd b2]
  by_cases hn : n < 0
  · rw [show decide (n < 0) = true from decide_eq_true hn, cond_true]
    have hx : IntKind.wrap .u64 (0 - IntKind.wrap .u64 n) = ((n.natAbs : Nat) : Int) := by
      rw [wrapU, wrapU]
      omega
    rw [hx]
    exact key true n.natAbs (by show _ < 18446744073709551616; omega) (by simp [ofI, hn])
  · rw [show decide (n < 0) = false from decide_eq_false hn, cond_false]
    have hx : IntKind.wrap .u64 n = ((n.natAbs : Nat) : Int) := by
      rw [wrapU]
      omega
    rw [hx]
    exact key false n.natAbs (by show _ < 18446744073709551616; omega) (by simp [ofI, hn])

theorem ref03_Of_spec {h : AH} {n : Int} (h1 : -9223372036854775808 ≤ n) (h2 : n ≤ 9223372036854775807) : ∃ (s' : Sl) (h' : AH), go (.fn F.ref03_Of [.int .i64 n]) h = some (.agg [.bool (ofI n).1, s'.v], h') ∧ Nats h' s' (ofI n).2 ∧ Grow h h' ∧ Own h s' := by
  rw [u_ref03_Of]
  simp only [newK_eq]
  have b0 := AH.has_push h nilI T.api_Int
  have g0 := Grow.push h (.cells nilI T.api_Int)
  generalize h.push (.cells nilI T.api_Int) = h0 at *
  have key : ∀ (neg : Bool) (x : Nat), x < B → fromI neg (digs B x) = ofI n → ∃ (s' : Sl) (h' : AH),
      ((go (.fn F.ref01_Of [.int .u64 (x : Int)]) h0).bind fun q3 =>
        ((some q3.1).bind AV.asSl).bind fun l4 =>
        (go (.fn F.ref03_From [.bool neg, l4.v]) q3.2).bind fun q5 =>
        (AV.asAgg q5.1).bind fun cs6 =>
        cond (Nat.beq cs6.length 2) (
        ((cs6[0]?).bind AV.asBool).bind fun b7 =>
        ((cs6[1]?).bind AV.asSl).bind fun l8 =>
        (q5.2.puts (.new h.blks.size 0) [.bool b7, l8.v]).bind fun h9 =>
        ((h9.cell ((Ref.new h.blks.size 0).add 0)).bind AV.asBool).bind fun b10 =>
        ((h9.cell ((Ref.new h.blks.size 0).add 1)).bind AV.asSl).bind fun l11 =>
        some (AV.agg [.bool b10, l11.v], h9)) none) = some (AV.agg [.bool (ofI n).1, s'.v], h') ∧ Nats h' s' (ofI n).2 ∧ Grow h h' ∧ Own h s' := by
    intro neg x hx he
    obtain ⟨s1, hh1, e1, n1, g1, o1⟩ := ref01_Of_spec (h := h0) hx
    obtain ⟨s2, hh2, e2, n2, g2, o2⟩ := ref03_From_spec n1 neg
    rw [he] at e2 n2
    have b2 := (g1.trans g2).has b0
    refine ⟨s2, hh2.upd h.blks.size [.bool (ofI n).1, s2.v] T.api_Int, ?_, n2.upd o2 (g1.has b0).lt _ _, (g0.trans (g1.trans g2)).upd (Nat.le_refl _) _ _, o2.of_le (g0.trans g1)⟩
    simp [e1, e2, b2.puts_all, AH.cell_upd b2]
  by_cases hn : n < 0
  · rw [show decide (n < 0) = true from decide_eq_true hn, cond_true]
    have hx : IntKind.wrap .u64 ((IntKind.wrap .u64 (IntKind.wrap .i64 (0 - (IntKind.wrap .i64 (n + 1))))) + 1) = ((n.natAbs : Nat) : Int) := by
      rw [wrap64 (n := n + 1) (by omega) (by omega), wrap64 (by omega) (by omega), wrapU, wrapU]
      omega
    rw [hx]
    exact key true n.natAbs (by show _ < 18446744073709551616; omega) (by simp [ofI, hn])
  · rw [show decide (n < 0) = false from decide_eq_false hn, cond_false]
    have hx : IntKind.wrap .u64 n = ((n.natAbs : Nat) : Int) := by
      rw [wrapU]
      omega
    rw [hx]
    exact key false n.natAbs (by show _ < 18446744073709551616; omega) (by simp [ofI, hn])

end Go.Ab
