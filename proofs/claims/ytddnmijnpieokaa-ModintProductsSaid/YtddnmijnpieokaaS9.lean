/- Layer 1: sums and differences. -/
import Derived.Test.YtddnmijnpieokaaS7
set_option linter.unusedVariables false
set_option linter.unusedSimpArgs false
set_option maxRecDepth 10000
namespace Go.Ab
open Go.Proofs Go.Num

theorem num_take_getD (b : Nat) (ys : List Nat) (k : Nat) : num b (ys.take (k + 1)) = num b (ys.take k) + b ^ k * ys.getD k 0 := by
  by_cases h : k < ys.length
  · rw [num_take_succ b h, getD_lt h]
  · rw [List.take_of_length_le (by omega), List.take_of_length_le (by omega)]
    simp [List.getD, List.getElem?_eq_none (show ys.length ≤ k by omega)]

theorem take_set (zs : List Nat) {i : Nat} (v : Nat) (h : i < zs.length) : (zs.set i v).take (i + 1) = zs.take i ++ [v] := by
  apply List.ext_getElem?
  intro j
  rw [List.getElem?_take]
  by_cases hi : j < i
  · rw [if_pos (by omega), List.getElem?_set_ne (by omega), List.getElem?_append_left (by simp; omega), List.getElem?_take, if_pos hi]
  · by_cases hi2 : j = i
    · subst hi2
      rw [if_pos (by omega), List.getElem?_set_self h, List.getElem?_append_right (by simp; omega)]
      simp [Nat.min_eq_left (show j ≤ zs.length by omega)]
    · rw [if_neg (by omega), List.getElem?_eq_none (by simp; omega)]

theorem num_take_set (b : Nat) (zs : List Nat) {i : Nat} (v : Nat) (h : i < zs.length) : num b ((zs.set i v).take (i + 1)) = num b (zs.take i) + b ^ i * v := by
  rw [take_set zs v h, num_append]
  simp [num, Nat.min_eq_left (Nat.le_of_lt h)]

/-- A limb is written into a block of limbs. -/
theorem put_u64 {h : AH} {j i : Nat} {zs : List Nat} (b : h.has j (zs.map u64) T.uint64) (v : Nat) (hi : i < zs.length) : h.puts (.new j i) [u64 v] = some (h.upd j ((zs.set i v).map u64) T.uint64) := by
  simp only [AH.puts]
  rw [b.put (by simpa using hi)]
  simp [List.map_set]

theorem prim_add {x y c : Nat} (hx : x < B) (hy : y < B) (hc : c ≤ 1) : prim "math/bits.Add64" [u64 x, u64 y, u64 c] = some (.tup [u64 ((x + y + c) % B), u64 ((x + y + c) / B)]) := by
  show cond (decide (0 ≤ (x : Int) ∧ 0 ≤ (y : Int) ∧ 0 ≤ (c : Int) ∧ (c : Int) ≤ 1)) (some (AV.tup [.int .u64 (((x : Int) + y + c) % 18446744073709551616), .int .u64 (((x : Int) + y + c) / 18446744073709551616)])) none = _
  rw [show decide (0 ≤ (x : Int) ∧ 0 ≤ (y : Int) ∧ 0 ≤ (c : Int) ∧ (c : Int) ≤ 1) = true from by rw [decide_eq_true_eq]; omega]
  rfl

theorem nats_getD_lt {xs : List Nat} (h : ∀ x ∈ xs, x < 18446744073709551616) (i : Nat) : xs.getD i 0 < B := by
  show _ < 18446744073709551616
  by_cases hi : i < xs.length
  · rw [getD_lt hi]; exact h _ (List.getElem_mem _)
  · simp [List.getD, List.getElem?_eq_none (show xs.length ≤ i by omega)]

theorem nat_sum_loop {h : AH} {s t : Sl} {xs ys : List Nat} (n : Nats h s xs) (m : Nats h t ys) (hl : ys.length ≤ xs.length) (hs : xs.length < 4611686018427387904) {j : Nat} (hj : h.blks.size ≤ j) :
    ∀ (k i : Nat), i + k = xs.length → ∀ {hi : AH} {zs : List Nat} {c : Nat}, Grow h hi → hi.has j (zs.map u64) T.uint64 → zs.length = xs.length + 1 → (∀ z ∈ zs, z < 18446744073709551616) → c ≤ 1 →
      num B (zs.take i) + B ^ i * c = num B (xs.take i) + num B (ys.take i) →
      ∃ (h' : AH) (zs' : List Nat), go (.pt F.nat_sum Td.nat_sum_6 [(0, s.v), (1, t.v), (5, Sl.v ⟨some (.new j 0), xs.length + 1, .is (xs.length + 1)⟩), (6, u64 c), (21, .int .i64 (xs.length : Int)), (22, .int .i64 (i : Int))]) hi =
        some (Sl.v ⟨some (.new j 0), xs.length + 1, .is (xs.length + 1)⟩, h') ∧ Grow h h' ∧ h'.has j (zs'.map u64) T.uint64 ∧ zs'.length = xs.length + 1 ∧ (∀ z ∈ zs', z < 18446744073709551616) ∧ num B zs' = num B xs + num B ys
  | 0, i, hik, hi, zs, c, g, b, hz, hlt, hc, inv => by
    rw [p_nat_sum_6, show decide ((i : Int) < (xs.length : Int)) = false from by rw [decide_eq_false_iff_not]; omega, cond_false, n.len]
    rw [idx_some _ _ _ _ (by omega) (by show (xs.length : Int) < ((xs.length + 1 : Nat) : Int); omega)]
    simp only [Option.bind_some, Int.toNat_natCast, Nat.mul_one, Ref.add_new, Nat.zero_add]
    rw [put_u64 b c (by omega)]
    refine ⟨_, zs.set xs.length c, rfl, g.upd hj _ _, AH.has_upd b _ _, by simpa using hz, fun z hzm => ?_, ?_⟩
    · rcases List.mem_or_eq_of_mem_set hzm with h1 | rfl
      · exact hlt z h1
      · omega
    · have e := num_take_set B zs c (i := xs.length) (by omega)
      rw [List.take_of_length_le (by simp; omega)] at e
      have : i = xs.length := by omega
      subst this
      rw [e, inv, List.take_length, List.take_of_length_le hl]
  | k + 1, i, hik, hi, zs, c, g, b, hz, hlt, hc, inv => by
    have n' := n.grow g
    have m' := m.grow g
    obtain ⟨r, e1, e2⟩ := n'.at (i := i) (by omega)
    have hx : xs.getD i 0 < B := nats_getD_lt n.lt i
    have hy : ys.getD i 0 < B := nats_getD_lt m.lt i
    have next : ∃ (h' : AH) (zs' : List Nat), go (.pt F.nat_sum Td.nat_sum_6 [(0, s.v), (1, t.v), (5, Sl.v ⟨some (.new j 0), xs.length + 1, .is (xs.length + 1)⟩), (6, u64 ((xs.getD i 0 + ys.getD i 0 + c) / B)), (21, .int .i64 (xs.length : Int)), (22, .int .i64 ((i + 1 : Nat) : Int))]) (hi.upd j ((zs.set i ((xs.getD i 0 + ys.getD i 0 + c) % B)).map u64) T.uint64) =
        some (Sl.v ⟨some (.new j 0), xs.length + 1, .is (xs.length + 1)⟩, h') ∧ Grow h h' ∧ h'.has j (zs'.map u64) T.uint64 ∧ zs'.length = xs.length + 1 ∧ (∀ z ∈ zs', z < 18446744073709551616) ∧ num B zs' = num B xs + num B ys := by
      refine nat_sum_loop n m hl hs hj k (i + 1) (by omega) (g.upd hj _ _) (AH.has_upd b _ _) (by simpa using hz) (fun z hzm => ?_) ?_ ?_
      · rcases List.mem_or_eq_of_mem_set hzm with h1 | rfl
        · exact hlt z h1
        · exact Nat.mod_lt _ (by decide)
      · have h1 : xs.getD i 0 < 18446744073709551616 := hx
        have h2 : ys.getD i 0 < 18446744073709551616 := hy
        show (xs.getD i 0 + ys.getD i 0 + c) / 18446744073709551616 ≤ 1
        omega
      · rw [num_take_set B zs _ (by omega), num_take_getD B xs i, num_take_getD B ys i]
        have e := Nat.mod_add_div (xs.getD i 0 + ys.getD i 0 + c) B
        generalize hq : (xs.getD i 0 + ys.getD i 0 + c) % B = q at *
        generalize hw : (xs.getD i 0 + ys.getD i 0 + c) / B = w at *
        rw [Nat.pow_succ, Nat.mul_assoc, Nat.add_assoc, ← Nat.mul_add, e, Nat.mul_add, Nat.mul_add]
        omega
    rw [p_nat_sum_6, show decide ((i : Int) < (xs.length : Int)) = true from by rw [decide_eq_true_eq]; omega, cond_true, m.len, wrap_succ (by omega)]
    have put : idx (some (.new j 0)) (xs.length + 1) (i : Int) 1 = some (.new j i) := by
      rw [idx_some _ _ _ _ (by omega) (by omega)]
      simp
    by_cases hi2 : i < ys.length
    · obtain ⟨q, e3, e4⟩ := m'.at (i := i) hi2
      rw [show decide ((i : Int) < (ys.length : Int)) = true from by rw [decide_eq_true_eq]; omega, cond_true]
      rw [← m.len, e3, e1]
      simp only [Option.bind_some, e2, e4, avInt_int]
      have ex : ((xs[i] : Nat) : Int) = ((xs.getD i 0 : Nat) : Int) := by rw [getD_lt (by omega)]
      have ey : ((ys[i] : Nat) : Int) = ((ys.getD i 0 : Nat) : Int) := by rw [getD_lt hi2]
      rw [ex, ey]
      have pa := prim_add hx hy hc
      simp only [u64] at pa ⊢
      rw [pa]
      simp only [Option.map_some, Option.bind_some, asTup2_tup, avInt_int, put]
      rw [show hi.puts (.new j i) [AV.int .u64 (((xs.getD i 0 + ys.getD i 0 + c) % B : Nat) : Int)] = _ from put_u64 b _ (by omega)]
      exact next
    · have hy0 : ys.getD i 0 = 0 := by simp [List.getD, List.getElem?_eq_none (show ys.length ≤ i by omega)]
      rw [show decide ((i : Int) < (ys.length : Int)) = false from by rw [decide_eq_false_iff_not]; omega, cond_false, e1]
      simp only [Option.bind_some, e2, avInt_int]
      have ex : ((xs[i] : Nat) : Int) = ((xs.getD i 0 : Nat) : Int) := by rw [getD_lt (by omega)]
      rw [ex]
      have pa := prim_add hx hy hc
      simp only [u64] at pa ⊢
      rw [hy0] at pa
      rw [show (AV.int .u64 0) = AV.int .u64 ((0 : Nat) : Int) from rfl, pa]
      simp only [Option.map_some, Option.bind_some, asTup2_tup, avInt_int, put]
      rw [hy0] at next
      rw [show hi.puts (.new j i) [AV.int .u64 (((xs.getD i 0 + 0 + c) % B : Nat) : Int)] = _ from put_u64 b _ (by omega)]
      exact next

theorem make_u64 {h : AH} {l : Int} {n : Nat} (hl : l = (n : Int)) (hn : n ≤ 8796093022207) : makeSliceH l l T.uint64 (Pg.bytesOf T.uint64) [.int .u64 0] h = some (⟨some (.new h.blks.size 0), n, .is n⟩, h.push (.cells ((List.replicate n 0).map u64) T.uint64)) := by
  rw [bytes_uint64, makeSliceH_of hl hl (by omega) (by omega), repC_one]
  simp
  rfl

theorem num_rep0 (b n : Nat) : num b (List.replicate n 0) = 0 := by
  have := num_noughts b [] n
  simpa [num] using this

theorem nat_sum_spec {h : AH} {s t : Sl} {xs ys : List Nat} (n : Nats h s xs) (m : Nats h t ys) (hx : xs.length ≤ 1073741824) (hy : ys.length ≤ 1073741824) :
    ∃ (s' : Sl) (h' : AH) (zs : List Nat), go (.fn F.nat_sum [s.v, t.v]) h = some (s'.v, h') ∧ Nats h' s' zs ∧ Grow h h' ∧ Own h s' ∧ num B zs = num B xs + num B ys ∧ zs.length = max xs.length ys.length + 1 := by
  have key : ∀ {s t : Sl} {xs ys : List Nat}, Nats h s xs → Nats h t ys → xs.length ≤ 1073741824 → ys.length ≤ xs.length → ∃ (s' : Sl) (h' : AH) (zs : List Nat),
      ((makeSliceH (IntKind.wrap .i64 ((s.len : Int) + 1)) (IntKind.wrap .i64 ((s.len : Int) + 1)) T.uint64 (Pg.bytesOf T.uint64) [.int .u64 0] h).bind fun q4 =>
      go (.pt F.nat_sum Td.nat_sum_6 [(0, s.v), (1, t.v), (5, q4.1.v), (6, .int .u64 0), (21, .int .i64 (s.len : Int)), (22, .int .i64 0)]) q4.2) = some (s'.v, h') ∧ Nats h' s' zs ∧ Grow h h' ∧ Own h s' ∧ num B zs = num B xs + num B ys ∧ zs.length = xs.length + 1 := by
    intro s t xs ys n m hx hle
    rw [n.len, wrap_succ (by omega), make_u64 rfl (by omega)]
    simp only [Option.bind_some]
    have g0 := Grow.push h (.cells ((List.replicate (xs.length + 1) 0).map u64) T.uint64)
    have b0 := AH.has_push h ((List.replicate (xs.length + 1) 0).map u64) T.uint64
    obtain ⟨h', zs, e1, g1, b1, l1, lt1, v1⟩ := nat_sum_loop n m hle (by omega) (Nat.le_refl h.blks.size) xs.length 0 (by omega) (c := 0) g0 b0 (by simp) (by simp) (by omega) (by simp [num])
    refine ⟨_, h', zs, e1, ⟨Cells.of_has b1 (by simp [l1]), lt1, by omega⟩, g1, fun r hr => ?_, v1, l1⟩
    cases hr
    exact ⟨_, _, rfl, Nat.le_refl _⟩
  rw [u_nat_sum]
  by_cases hlt : xs.length < ys.length
  · rw [show decide ((s.len : Int) < (t.len : Int)) = true from by rw [decide_eq_true_eq, n.len, m.len]; omega, cond_true]
    obtain ⟨s', h', zs, e1, e2, e3, e4, e5, e6⟩ := key m n hy (by omega)
    exact ⟨s', h', zs, e1, e2, e3, e4, by rw [e5]; omega, by rw [e6]; omega⟩
  · rw [show decide ((s.len : Int) < (t.len : Int)) = false from by rw [decide_eq_false_iff_not, n.len, m.len]; omega, cond_false]
    obtain ⟨s', h', zs, e1, e2, e3, e4, e5, e6⟩ := key n m hx (by omega)
    exact ⟨s', h', zs, e1, e2, e3, e4, e5, by rw [e6]; omega⟩

/-- An answer, if it is not too long. -/
def told (n : Nat) : List Nat × Int := if n < B ^ 64 then (digs B n, 0) else ([], 4)

theorem nat_told_spec {h : AH} {s : Sl} {xs : List Nat} (n : Nats h s xs) : ∃ s' : Sl, go (.fn F.nat_told [s.v]) h = some (.tup [s'.v, .int .i64 (told (num B xs)).2], h) ∧ Nats h s' (told (num B xs)).1 ∧ ∀ h0, Own h0 s → Own h0 s' := by
  obtain ⟨s', e1, n1, o1⟩ := nat_trim_spec n
  rw [u_nat_told, e1]
  simp only [Option.bind_some, asSl_v]
  unfold told
  by_cases hn : num B xs < B ^ 64
  · have := (digs_len B2 (num B xs) 64).2 hn
    rw [if_pos hn, show decide ((s'.len : Int) > 64) = false from by rw [decide_eq_false_iff_not, n1.len]; omega]
    exact ⟨s', rfl, n1, o1⟩
  · have : ¬ (digs B (num B xs)).length ≤ 64 := fun h => hn ((digs_len B2 _ _).1 h)
    rw [if_neg hn, show decide ((s'.len : Int) > 64) = true from by rw [decide_eq_true_eq, n1.len]; omega]
    exact ⟨⟨none, 0, .is 0⟩, rfl, Nats.nil h, fun h0 _ => Own.nil h0⟩

/-- A sum. -/
def addN (xs ys : List Nat) : List Nat × Int := if rt xs = true ∧ rt ys = true then told (num B xs + num B ys) else ([], 1)

theorem nat_Add_spec {h : AH} {s t : Sl} {xs ys : List Nat} (n : Nats h s xs) (m : Nats h t ys) : ∃ (s' : Sl) (h' : AH), go (.fn F.nat_Add [s.v, t.v]) h = some (.tup [s'.v, .int .i64 (addN xs ys).2], h') ∧ Nats h' s' (addN xs ys).1 ∧ Grow h h' ∧ Own h s' := by
  rw [u_nat_Add]
  simp only [newK_eq]
  have r := Rows.two n m
  have g := Grow.push h (.cells [s.v, t.v] T.api_Nat)
  generalize h.push (.cells [s.v, t.v] T.api_Nat) = h0 at *
  rw [nat_right_spec r]
  simp only [Option.bind_some, asBool_bool, List.all_cons, List.all_nil, Bool.and_true]
  by_cases hb : rt xs = true ∧ rt ys = true
  · rw [show addN xs ys = told (num B xs + num B ys) from by simp [addN, hb]]
    simp only [hb.1, hb.2, Bool.and_self, Bool.not_true, cond_false]
    have lx := (rt_iff.1 hb.1).1
    have ly := (rt_iff.1 hb.2).1
    obtain ⟨s1, h1, zs, e1, n1, g1, o1, v1, _⟩ := nat_sum_spec (n.grow g) (m.grow g) (by omega) (by omega)
    obtain ⟨s2, e2, n2, o2⟩ := nat_told_spec n1
    rw [v1] at e2 n2
    simp only [e1, e2, Option.bind_some, asSl_v, asTup2_tup, avInt_int]
    exact ⟨s2, h1, rfl, n2, g.trans g1, (o2 h0 o1).of_le g⟩
  · rw [show addN xs ys = ([], 1) from by simp only [addN, if_neg hb]]
    have : (rt xs && rt ys) = false := by
      cases hx : rt xs <;> cases hy : rt ys <;> simp_all
    rw [this]
    exact ⟨⟨none, 0, .is 0⟩, h0, rfl, Nats.nil _, g, Own.nil h⟩

end Go.Ab
