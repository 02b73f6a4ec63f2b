/- Layer 1: the long product. -/
import Derived.Test.YtddnmijnpieokaaS23a
set_option linter.unusedVariables false
set_option linter.unusedSimpArgs false
set_option maxRecDepth 10000
namespace Go.Ab
open Go.Proofs Go.Num

theorem B1 : 1 ≤ B := by decide

theorem split_num (b : Nat) (xs : List Nat) (n : Nat) : num b xs = num b (xs.take (min n xs.length)) + b ^ n * num b (xs.drop (min n xs.length)) := by
  have e : num b xs = num b (xs.take (min n xs.length) ++ xs.drop (min n xs.length)) := by rw [List.take_append_drop]
  rw [num_append, List.length_take] at e
  by_cases h : n ≤ xs.length
  · rw [e, show min (min n xs.length) xs.length = n from by omega]
  · have : xs.drop (min n xs.length) = [] := List.drop_of_length_le (by omega)
    rw [this] at e ⊢
    simpa [num] using e

theorem digs_mono {a c : Nat} (h : a ≤ c) : (digs B a).length ≤ (digs B c).length := by
  rw [digs_len B2]
  exact Nat.lt_of_le_of_lt h ((digs_len B2 c _).1 (Nat.le_refl _))

theorem digs_of_len {xs : List Nat} (h : ∀ x ∈ xs, x < B) : (digs B (num B xs)).length ≤ xs.length := by
  rw [digs_len B2]
  exact num_lt B1 h

theorem karatsuba (P al ah bl bh : Nat) : (al + P * ah) * (bl + P * bh) = al * bl + P * ((al + ah) * (bl + bh) - al * bl - ah * bh) + P * P * (ah * bh) := by
  have e : (al + ah) * (bl + bh) - al * bl - ah * bh = al * bh + ah * bl := by
    rw [Nat.add_mul, Nat.mul_add, Nat.mul_add]
    omega
  rw [e, Nat.add_mul, Nat.mul_add, Nat.mul_add, Nat.mul_add]
  have e1 : al * (P * bh) = P * (al * bh) := Nat.mul_left_comm _ _ _
  have e2 : P * ah * bl = P * (ah * bl) := Nat.mul_assoc _ _ _
  have e3 : P * ah * (P * bh) = P * P * (ah * bh) := Nat.mul_mul_mul_comm _ _ _ _
  rw [e1, e2, e3]
  omega

set_option maxHeartbeats 2000000 in
theorem product_1_spec : ∀ (N : Nat) {h : AH} {s t : Sl} {xs ys : List Nat} {p : Ref}, xs.length + ys.length < N → N ≤ 268435456 → Nats h s xs → Nats h t ys → h.cell p = some (halvesV p) →
    Runs (go (.fn F.nat_product_1 [s.v, t.v, .ptr (some p)]) h) fun v h' => ∃ s' : Sl, v = s'.v ∧ Nats h' s' (digs B (num B xs * num B ys)) ∧ Grow h h' ∧ Own h s'
  | 0, _, _, _, _, _, _, hN, _, _, _, _ => by omega
  | N + 1, h, s, t, xs, ys, p, hN, hM, ns, nt, c => by
    rw [u_nat_product_1, ns.len, nt.len]
    refine Runs.cond (fun k1 => ?_) (fun k1 => ?_)
    · obtain ⟨s4, h4, e4, n4, g4, o4⟩ := nat_school_spec ns nt (by omega)
      refine Runs.step e4 ?_
      refine Runs.step (seen (asSl_v _)) ?_
      exact Runs.ret ⟨s4, rfl, n4, g4, o4⟩
    refine Runs.cond (fun k2 => ?_) (fun k2 => ?_)
    · obtain ⟨s4, h4, e4, n4, g4, o4⟩ := nat_school_spec ns nt (by omega)
      refine Runs.step e4 ?_
      refine Runs.step (seen (asSl_v _)) ?_
      exact Runs.ret ⟨s4, rfl, n4, g4, o4⟩
    rw [decide_eq_false_iff_not] at k1 k2
    obtain ⟨n, hn⟩ : ∃ n, n = (max xs.length ys.length + 1) / 2 := ⟨_, rfl⟩
    have hw : IntKind.wrap .i64 (Int.tdiv (IntKind.wrap .i64 ((imax (xs.length : Int) (ys.length : Int)) + 1)) 2) = (n : Int) := by
      rw [imax_eq, show max (xs.length : Int) (ys.length : Int) = ((max xs.length ys.length : Nat) : Int) from by omega, wrap_succ (by omega)]
      show IntKind.wrap .i64 (((max xs.length ys.length + 1) / 2 : Nat) : Int) = _
      rw [← hn, wrap_nat (by omega)]
    rw [hw]
    -- the two halves of each
    have lax : (xs.take (min n xs.length)).length = min n xs.length := by simp
    have lbx : (ys.take (min n ys.length)).length = min n ys.length := by simp
    have tax : ∀ x ∈ xs.take (min n xs.length), x < B := fun x hx => ns.lt x (List.mem_of_mem_take hx)
    have tbx : ∀ x ∈ ys.take (min n ys.length), x < B := fun x hx => nt.lt x (List.mem_of_mem_take hx)
    have tah : ∀ x ∈ xs.drop (min n xs.length), x < B := fun x hx => ns.lt x (List.mem_of_mem_drop hx)
    have tbh : ∀ x ∈ ys.drop (min n ys.length), x < B := fun x hx => nt.lt x (List.mem_of_mem_drop hx)
    have lah : (xs.drop (min n xs.length)).length = xs.length - min n xs.length := by simp
    have lbh : (ys.drop (min n ys.length)).length = ys.length - min n ys.length := by simp
    have da := digs_of_len tax
    have db := digs_of_len tbx
    have dah := digs_of_len tah
    have dbh := digs_of_len tbh
    have ea := split_num B xs n
    have eb := split_num B ys n
    generalize hal : num B (xs.take (min n xs.length)) = al at *
    generalize hah : num B (xs.drop (min n xs.length)) = ah at *
    generalize hbl : num B (ys.take (min n ys.length)) = bl at *
    generalize hbh : num B (ys.drop (min n ys.length)) = bh at *
    -- the box of n
    refine Runs.new fun H8 b8 g8 => ?_
    refine Runs.puts b8 rfl fun H9 b9 u9 => ?_
    have gA := g8.updr (Nat.le_refl _) u9
    have c9 := gA.cell_some c
    have k9 : H9.cell (.new h.blks.size 0) = some (.int .i64 (n : Int)) := b9.cell 0
    have ns9 := ns.grow gA
    have nt9 := nt.grow gA
    refine Runs.step c9 ?_
    refine Runs.step c9 ?_
    obtain ⟨s12, e12, n12⟩ := product_low ns9 k9
    obtain ⟨s14, e14, n14⟩ := product_low nt9 k9
    rw [hal] at n12
    rw [hbl] at n14
    refine Runs.step e12 ?_
    refine Runs.step (seen (asSl_v _)) ?_
    refine Runs.when ((Grow.refl _).same_cell c9) ?_
    refine Runs.when ((Grow.refl _).same_cell c9) ?_
    refine Runs.step e14 ?_
    refine Runs.step (seen (asSl_v _)) ?_
    refine Runs.when ((Grow.refl _).same_cell c9) ?_
    refine Runs.when ((Grow.refl _).same_cell c9) ?_
    obtain ⟨_, H16, e16, s16, rfl, n16, g16, o16⟩ := product_1_spec N (by omega) (by omega) n12 n14 c9
    rw [num_digs B2, num_digs B2] at n16
    refine Runs.step ((callV_halves p _ _ _).trans e16) ?_
    refine Runs.step (seen (asSl_v _)) ?_
    refine Runs.when (g16.same_cell c9) ?_
    have c16 := g16.cell_some c9
    have k16 := g16.cell_some k9
    obtain ⟨s18, e18, n18⟩ := product_high (ns9.grow g16) k16
    obtain ⟨s20, e20, n20⟩ := product_high (nt9.grow g16) k16
    refine Runs.step e18 ?_
    refine Runs.step (seen (asSl_v _)) ?_
    refine Runs.when ((Grow.refl _).same_cell c16) ?_
    refine Runs.step e20 ?_
    refine Runs.step (seen (asSl_v _)) ?_
    refine Runs.when ((Grow.refl _).same_cell c16) ?_
    obtain ⟨_, H22, e22, s22, rfl, n22, g22, o22⟩ := product_1_spec N (by omega) (by omega) n18 n20 c16
    rw [hah, hbh] at n22
    refine Runs.step ((callV_halves p _ _ _).trans e22) ?_
    refine Runs.step (seen (asSl_v _)) ?_
    have c22 := g22.cell_some c16
    have k22 := g22.cell_some k16
    have gB := g16.trans g22
    refine Runs.step c22 ?_
    -- the sums
    obtain ⟨s25, e25, n25⟩ := product_low (ns9.grow gB) k22
    obtain ⟨s27, e27, n27⟩ := product_high (ns9.grow gB) k22
    rw [hal] at n25
    refine Runs.step e25 ?_
    refine Runs.step (seen (asSl_v _)) ?_
    refine Runs.when ((Grow.refl _).same_cell c22) ?_
    refine Runs.step e27 ?_
    refine Runs.step (seen (asSl_v _)) ?_
    refine Runs.when ((Grow.refl _).same_cell c22) ?_
    obtain ⟨s29, H29, zs, e29, n29, g29, o29, v29, l29⟩ := nat_sum_spec n25 n27 (by omega) (by omega)
    rw [num_digs B2, hah] at v29
    refine Runs.step e29 ?_
    refine Runs.step (seen (asSl_v _)) ?_
    refine Runs.when (g29.same_cell c22) ?_
    have c29 := g29.cell_some c22
    have k29 := g29.cell_some k22
    obtain ⟨s31, e31, n31, _⟩ := nat_trim_spec n29
    rw [v29] at n31
    refine Runs.step e31 ?_
    refine Runs.step (seen (asSl_v _)) ?_
    refine Runs.when ((Grow.refl _).same_cell c29) ?_
    obtain ⟨s33, e33, n33⟩ := product_low (nt9.grow (gB.trans g29)) k29
    obtain ⟨s35, e35, n35⟩ := product_high (nt9.grow (gB.trans g29)) k29
    rw [hbl] at n33
    refine Runs.step e33 ?_
    refine Runs.step (seen (asSl_v _)) ?_
    refine Runs.when ((Grow.refl _).same_cell c29) ?_
    refine Runs.step e35 ?_
    refine Runs.step (seen (asSl_v _)) ?_
    refine Runs.when ((Grow.refl _).same_cell c29) ?_
    obtain ⟨s37, H37, ws, e37, n37, g37, o37, v37, l37⟩ := nat_sum_spec n33 n35 (by omega) (by omega)
    rw [num_digs B2, hbh] at v37
    refine Runs.step e37 ?_
    refine Runs.step (seen (asSl_v _)) ?_
    refine Runs.when (g37.same_cell c29) ?_
    have c37 := g37.cell_some c29
    have k37 := g37.cell_some k29
    obtain ⟨s39, e39, n39, _⟩ := nat_trim_spec n37
    rw [v37] at n39
    refine Runs.step e39 ?_
    refine Runs.step (seen (asSl_v _)) ?_
    refine Runs.when ((Grow.refl _).same_cell c37) ?_
    have q1 := digs_add_len B2 al ah
    have q2 := digs_add_len B2 bl bh
    obtain ⟨_, H41, e41, s41, rfl, n41, g41, o41⟩ := product_1_spec N (by omega) (by omega) (n31.grow g37) n39 c37
    rw [num_digs B2, num_digs B2] at n41
    refine Runs.step ((callV_halves p _ _ _).trans e41) ?_
    refine Runs.step (seen (asSl_v _)) ?_
    -- the differences
    have mm : al * bl + ah * bh ≤ (al + ah) * (bl + bh) := by
      rw [Nat.add_mul, Nat.mul_add, Nat.mul_add]
      omega
    have gC := g22.trans (g29.trans (g37.trans g41))
    have lm : (digs B ((al + ah) * (bl + bh))).length ≤ 2 * n + 2 := by
      rw [digs_len B2]
      have h1 := (digs_len B2 (al + ah) (n + 1)).1 (by omega)
      have h2 := (digs_len B2 (bl + bh) (n + 1)).1 (by omega)
      rw [show 2 * n + 2 = (n + 1) + (n + 1) from by omega, Nat.pow_add]
      exact Nat.mul_lt_mul_of_lt_of_lt h1 h2
    obtain ⟨s43, H43, us, e43, n43, g43, o43, v43, l43⟩ := nat_less_spec n41 (n16.grow gC) (by omega) (digs_mono (by omega)) (by rw [num_digs B2, num_digs B2]; omega)
    rw [num_digs B2, num_digs B2] at v43
    refine Runs.step e43 ?_
    refine Runs.step (seen (asSl_v _)) ?_
    obtain ⟨s45, e45, n45, _⟩ := nat_trim_spec n43
    rw [v43] at n45
    refine Runs.step e45 ?_
    refine Runs.step (seen (asSl_v _)) ?_
    have gD := (g29.trans (g37.trans g41)).trans g43
    have l45 := digs_mono (a := (al + ah) * (bl + bh) - al * bl) (c := (al + ah) * (bl + bh)) (by omega)
    obtain ⟨s47, H47, rs, e47, n47, g47, o47, v47, l47⟩ := nat_less_spec n45 (n22.grow gD) (by omega) (digs_mono (by omega)) (by rw [num_digs B2, num_digs B2]; omega)
    rw [num_digs B2, num_digs B2] at v47
    refine Runs.step e47 ?_
    refine Runs.step (seen (asSl_v _)) ?_
    obtain ⟨s49, e49, n49, _⟩ := nat_trim_spec n47
    rw [v47] at n49
    refine Runs.step e49 ?_
    refine Runs.step (seen (asSl_v _)) ?_
    -- all together
    have gE : Grow H9 H47 := (g16.trans gC).trans (g43.trans g47)
    have n16' := n16.grow ((gC.trans g43).trans g47)
    have n22' := n22.grow (gD.trans g47)
    have b47 := gE.has b9
    rw [show IntKind.wrap .i64 ((IntKind.wrap .i64 ((xs.length : Int) + (ys.length : Int))) + 1) = ((xs.length + ys.length + 1 : Nat) : Int) from by
      rw [← Int.natCast_add, wrap_nat (by omega), wrap_succ (by omega)]]
    refine Runs.mk (mkI_nat (by omega)) bytes_uint64 fun s51 H51 v51 g51 => ?_
    have total := karatsuba (B ^ n) al ah bl bh
    rw [← ea, ← eb] at total
    generalize hm : (al + ah) * (bl + bh) - al * bl - ah * bh = m at *
    have lt : num B xs * num B ys < B ^ (xs.length + ys.length) := by
      rw [Nat.pow_add]
      exact Nat.mul_lt_mul_of_lt_of_lt (num_lt B1 ns.lt) (num_lt B1 nt.lt)
    have lt1 : num B xs * num B ys < B ^ (xs.length + ys.length + 1) := Nat.lt_of_lt_of_le lt (Nat.pow_le_pow_right B1 (by omega))
    have lp : (digs B (al * bl)).length ≤ xs.length + ys.length := by
      rw [digs_len B2]
      omega
    obtain ⟨H52, e52, v52, u52⟩ := copy_vec (n16'.grow g51) v51 (by simp; omega)
    refine Runs.step e52 ?_
    have i47 := b47.lt
    have ne : h.blks.size ≠ H47.blks.size := Nat.ne_of_lt i47
    have b52 := AH.has.updr (g51.has b47) ne u52
    refine Runs.step (AH.has.rd0 b52 rfl (avInt_int _ _)) ?_
    have av49 := Av.of_base n49 (Nat.le_refl _)
    have av22 := Av.of_base n22' (Nat.le_refl _)
    have w0 : num B (digs B (al * bl) ++ (List.replicate (xs.length + ys.length + 1) 0).drop (digs B (al * bl)).length) = al * bl := by
      rw [List.drop_replicate, num_noughts, num_digs B2]
    have lw0 : (digs B (al * bl) ++ (List.replicate (xs.length + ys.length + 1) 0).drop (digs B (al * bl)).length).length = xs.length + ys.length + 1 := by
      simp
      omega
    generalize digs B (al * bl) ++ (List.replicate (xs.length + ys.length + 1) 0).drop (digs B (al * bl)).length = o0 at *
    have lmm := digs_mono (a := m) (c := (al + ah) * (bl + bh)) (by omega)
    obtain ⟨H54, o1, e54, v54, u54, l54, w54⟩ := nat_into_spec v52 ((n49.grow g51).upda av49 u52) av49 (at' := n) (by omega) (by omega) (by omega) (by rw [w0, num_digs B2, lw0]; omega)
    refine Runs.step e54 ?_
    refine Runs.step rfl ?_
    have b54 := AH.has.updr b52 ne u54
    refine Runs.step (AH.has.rd0 b54 rfl (avInt_int _ _)) ?_
    rw [show IntKind.wrap .i64 (2 * (n : Int)) = ((2 * n : Nat) : Int) from by rw [wrap64 (by omega) (by omega)]; omega]
    have pp : B ^ (2 * n) = B ^ n * B ^ n := by rw [← Nat.pow_add]; congr 1; omega
    have lq : (digs B (ah * bh)).length ≤ xs.length + ys.length := by
      rw [digs_len B2]
      have : 1 * (ah * bh) ≤ B ^ n * B ^ n * (ah * bh) := Nat.mul_le_mul_right _ (Nat.mul_pos (Nat.pow_pos B1) (Nat.pow_pos B1))
      omega
    rw [w0, num_digs B2] at w54
    obtain ⟨H56, o2, e56, v56, u56, l56, w56⟩ := nat_into_spec v54 (((n22'.grow g51).upda av22 u52).upda av22 u54) av22 (at' := 2 * n) (by omega) (by omega) (by omega) (by rw [w54, num_digs B2, l54, lw0, pp]; omega)
    rw [num_digs B2, w54, pp, ← total] at w56
    refine Runs.step e56 ?_
    refine Runs.step rfl ?_
    obtain ⟨s57, e57, n57, o57⟩ := nat_trim_spec v56.nats
    rw [w56] at n57
    refine Runs.step e57 ?_
    refine Runs.step (seen (asSl_v _)) ?_
    have gF : Grow h H47 := gA.trans gE
    refine Runs.ret ⟨s57, rfl, n57, (((gF.trans g51).updr gF.size u52).updr gF.size u54).updr gF.size u56, o57 _ (v56.own gF.size)⟩

end Go.Ab
