/- squeezed -/
import Derived.Test.YtpmbjekomcldmaaGreatPS2
import Derived.Test.YtpmbjekomcldmaaGreatPAbsQ

set_option linter.unusedVariables false
set_option linter.unusedSimpArgs false
set_option maxRecDepth 10000
namespace Go.Ab
open Go.Proofs Go.Num
theorem B1 : 1 ≤ B := by decide
theorem kx5 (b : Nat) (xs : List Nat) (n : Nat) : num b xs = num b (xs.take (min n xs.length)) + b ^ n * num b (xs.drop (min n xs.length)) := by
 have e : num b xs = num b (xs.take (min n xs.length) ++ xs.drop (min n xs.length)) := by rw [List.take_append_drop]
 rw [kcg, List.length_take] at e
 by_cases h : n ≤ xs.length
 ·rw [e, show min (min n xs.length) xs.length = n from by omega]
 ·have : xs.drop (min n xs.length) = [] := List.drop_of_length_le (by omega)
  rw [this] at e ⊢
  simpa [num] using e
theorem kmv {a c : Nat} (h : a ≤ c) : (digs B a).length ≤ (digs B c).length := by
 rw [kx B2]
 exact Nat.lt_of_le_of_lt h ((kx B2 c _).1 (Nat.le_refl _))
theorem kj2 {xs : List Nat} (h : ∀ x ∈ xs, x < B) : (digs B (num B xs)).length ≤ xs.length := by
 rw [kx B2]
 exact num_lt B1 h
theorem kbeh (P al ah bl bh : Nat) : (al + P * ah) * (bl + P * bh) = al * bl + P * ((al + ah) * (bl + bh) - al * bl - ah * bh) + P * P * (ah * bh) := by
 have e : (al + ah) * (bl + bh) - al * bl - ah * bh = al * bh + ah * bl := by
  rw [Nat.add_mul, Nat.mul_add, Nat.mul_add]
  omega
 rw [e, Nat.add_mul, Nat.mul_add, Nat.mul_add, Nat.mul_add]
 have e1 : al * (P * bh) = P * (al * bh) := Nat.mul_left_comm _ _ _
 have e2 : P * ah * bl = P * (ah * bl) := Nat.mul_assoc _ _ _
 have e3 : P * ah * (P * bh) = P * P * (ah * bh) := Nat.mul_mul_mul_comm _ _ _ _
 rw [e1, e2, e3]
 omega
set_option maxHeartbeats 2000000 in
theorem knm : ∀ (N : Nat) {h : AH} {s t : Sl} {xs ys : List Nat} {p : Ref}, xs.length + ys.length < N → N ≤ 268435456 → Nats h s xs → Nats h t ys → h.cell p = some (ktj p) →
  Runs (go (.fn F.kl8 [s.v, t.v, .ptr (some p)]) h) fun v h' => ∃ s' : Sl, v = s'.v ∧ Nats h' s' (digs B (num B xs * num B ys)) ∧ Grow h h' ∧ Own h s'
 | 0, _, _, _, _, _, _, hN, _, _, _, _ => by omega
 | N + 1, h, s, t, xs, ys, p, hN, hM, ns, nt, c => by
  rw [kba9, ns.len, nt.len]
  refine Runs.cond (fun k1 => ?_) (fun k1 => ?_)
  ·obtain ⟨s4, h4, e4, n4, g4, o4⟩ := ksf ns nt (by omega)
   refine Runs.step e4 ?_
   refine Runs.step (seen (asSl_v _)) ?_
   exact Runs.ret ⟨s4, rfl, n4, g4, o4⟩
  refine Runs.cond (fun k2 => ?_) (fun k2 => ?_)
  ·obtain ⟨s4, h4, e4, n4, g4, o4⟩ := ksf ns nt (by omega)
   refine Runs.step e4 ?_
   refine Runs.step (seen (asSl_v _)) ?_
   exact Runs.ret ⟨s4, rfl, n4, g4, o4⟩
  rw [decide_eq_false_iff_not] at k1 k2
  obtain ⟨n, hn⟩ : ∃ n, n = (max xs.length ys.length + 1) / 2 := ⟨_, rfl⟩
  have hw : IntKind.wrap .i64 (Int.tdiv (IntKind.wrap .i64 ((imax (xs.length : Int) (ys.length : Int)) + 1)) 2) = (n : Int) := by
   rw [kbbs, show max (xs.length : Int) (ys.length : Int) = ((max xs.length ys.length : Nat) : Int) from by omega, kw (by omega)]
   show IntKind.wrap .i64 (((max xs.length ys.length + 1) / 2 : Nat) : Int) = _
   rw [← hn, kbg (by omega)]
  rw [hw]
  have lax : (xs.take (min n xs.length)).length = min n xs.length := by simp
  have lbx : (ys.take (min n ys.length)).length = min n ys.length := by simp
  have tax : ∀ x ∈ xs.take (min n xs.length), x < B := fun x hx => ns.lt x (List.mem_of_mem_take hx)
  have tbx : ∀ x ∈ ys.take (min n ys.length), x < B := fun x hx => nt.lt x (List.mem_of_mem_take hx)
  have tah : ∀ x ∈ xs.drop (min n xs.length), x < B := fun x hx => ns.lt x (List.mem_of_mem_drop hx)
  have tbh : ∀ x ∈ ys.drop (min n ys.length), x < B := fun x hx => nt.lt x (List.mem_of_mem_drop hx)
  have lah : (xs.drop (min n xs.length)).length = xs.length - min n xs.length := by simp
  have lbh : (ys.drop (min n ys.length)).length = ys.length - min n ys.length := by simp
  have da := kj2 tax
  have db := kj2 tbx
  have dah := kj2 tah
  have dbh := kj2 tbh
  have ea := kx5 B xs n
  have eb := kx5 B ys n
  generalize hal : num B (xs.take (min n xs.length)) = al at *
  generalize hah : num B (xs.drop (min n xs.length)) = ah at *
  generalize hbl : num B (ys.take (min n ys.length)) = bl at *
  generalize hbh : num B (ys.drop (min n ys.length)) = bh at *
  refine Runs.new fun H8 b8 g8 => ?_
  refine Runs.puts b8 rfl fun H9 b9 u9 => ?_
  have gA := g8.updr (Nat.le_refl _) u9
  have c9 := gA.cell_some c
  have k9 : H9.cell (.new h.blks.size 0) = some (.int .i64 (n : Int)) := b9.cell 0
  have ns9 := ns.grow gA
  have nt9 := nt.grow gA
  refine Runs.step c9 ?_
  refine Runs.step c9 ?_
  obtain ⟨s12, e12, n12⟩ := knw ns9 k9
  obtain ⟨s14, e14, n14⟩ := knw nt9 k9
  rw [hal] at n12
  rw [hbl] at n14
  refine Runs.step e12 ?_
  refine Runs.step (seen (asSl_v _)) ?_
  refine Runs.when ((Grow.refl _).same_cell c9) ?_
  refine Runs.when ((Grow.refl _).same_cell c9) ?_
  refine Runs.step e14 ?_
  refine Runs.step (seen (asSl_v _)) ?_
  refine Runs.when ((Grow.refl _).same_cell c9) ?_
  refine Runs.when ((Grow.refl _).same_cell c9) ?_
  obtain ⟨_, H16, e16, s16, rfl, n16, g16, o16⟩ := knm N (by omega) (by omega) n12 n14 c9
  rw [kf B2, kf B2] at n16
  refine Runs.step ((knt p _ _ _).trans e16) ?_
  refine Runs.step (seen (asSl_v _)) ?_
  refine Runs.when (g16.same_cell c9) ?_
  have c16 := g16.cell_some c9
  have k16 := g16.cell_some k9
  obtain ⟨s18, e18, n18⟩ := kny (ns9.grow g16) k16
  obtain ⟨s20, e20, n20⟩ := kny (nt9.grow g16) k16
  refine Runs.step e18 ?_
  refine Runs.step (seen (asSl_v _)) ?_
  refine Runs.when ((Grow.refl _).same_cell c16) ?_
  refine Runs.step e20 ?_
  refine Runs.step (seen (asSl_v _)) ?_
  refine Runs.when ((Grow.refl _).same_cell c16) ?_
  obtain ⟨_, H22, e22, s22, rfl, n22, g22, o22⟩ := knm N (by omega) (by omega) n18 n20 c16
  rw [hah, hbh] at n22
  refine Runs.step ((knt p _ _ _).trans e22) ?_
  refine Runs.step (seen (asSl_v _)) ?_
  have c22 := g22.cell_some c16
  have k22 := g22.cell_some k16
  have gB := g16.trans g22
  refine Runs.step c22 ?_
  obtain ⟨s25, e25, n25⟩ := knw (ns9.grow gB) k22
  obtain ⟨s27, e27, n27⟩ := kny (ns9.grow gB) k22
  rw [hal] at n25
  refine Runs.step e25 ?_
  refine Runs.step (seen (asSl_v _)) ?_
  refine Runs.when ((Grow.refl _).same_cell c22) ?_
  refine Runs.step e27 ?_
  refine Runs.step (seen (asSl_v _)) ?_
  refine Runs.when ((Grow.refl _).same_cell c22) ?_
  obtain ⟨s29, H29, zs, e29, n29, g29, o29, v29, l29⟩ := kqy n25 n27 (by omega) (by omega)
  rw [kf B2, hah] at v29
  refine Runs.step e29 ?_
  refine Runs.step (seen (asSl_v _)) ?_
  refine Runs.when (g29.same_cell c22) ?_
  have c29 := g29.cell_some c22
  have k29 := g29.cell_some k22
  obtain ⟨s31, e31, n31, _⟩ := kc8 n29
  rw [v29] at n31
  refine Runs.step e31 ?_
  refine Runs.step (seen (asSl_v _)) ?_
  refine Runs.when ((Grow.refl _).same_cell c29) ?_
  obtain ⟨s33, e33, n33⟩ := knw (nt9.grow (gB.trans g29)) k29
  obtain ⟨s35, e35, n35⟩ := kny (nt9.grow (gB.trans g29)) k29
  rw [hbl] at n33
  refine Runs.step e33 ?_
  refine Runs.step (seen (asSl_v _)) ?_
  refine Runs.when ((Grow.refl _).same_cell c29) ?_
  refine Runs.step e35 ?_
  refine Runs.step (seen (asSl_v _)) ?_
  refine Runs.when ((Grow.refl _).same_cell c29) ?_
  obtain ⟨s37, H37, ws, e37, n37, g37, o37, v37, l37⟩ := kqy n33 n35 (by omega) (by omega)
  rw [kf B2, hbh] at v37
  refine Runs.step e37 ?_
  refine Runs.step (seen (asSl_v _)) ?_
  refine Runs.when (g37.same_cell c29) ?_
  have c37 := g37.cell_some c29
  have k37 := g37.cell_some k29
  obtain ⟨s39, e39, n39, _⟩ := kc8 n37
  rw [v37] at n39
  refine Runs.step e39 ?_
  refine Runs.step (seen (asSl_v _)) ?_
  refine Runs.when ((Grow.refl _).same_cell c37) ?_
  have q1 := kr0 B2 al ah
  have q2 := kr0 B2 bl bh
  obtain ⟨_, H41, e41, s41, rfl, n41, g41, o41⟩ := knm N (by omega) (by omega) (n31.grow g37) n39 c37
  rw [kf B2, kf B2] at n41
  refine Runs.step ((knt p _ _ _).trans e41) ?_
  refine Runs.step (seen (asSl_v _)) ?_
  have mm : al * bl + ah * bh ≤ (al + ah) * (bl + bh) := by
   rw [Nat.add_mul, Nat.mul_add, Nat.mul_add]
   omega
  have gC := g22.trans (g29.trans (g37.trans g41))
  have lm : (digs B ((al + ah) * (bl + bh))).length ≤ 2 * n + 2 := by
   rw [kx B2]
   have h1 := (kx B2 (al + ah) (n + 1)).1 (by omega)
   have h2 := (kx B2 (bl + bh) (n + 1)).1 (by omega)
   rw [show 2 * n + 2 = (n + 1) + (n + 1) from by omega, Nat.pow_add]
   exact Nat.mul_lt_mul_of_lt_of_lt h1 h2
  obtain ⟨s43, H43, us, e43, n43, g43, o43, v43, l43⟩ := kpf n41 (n16.grow gC) (by omega) (kmv (by omega)) (by rw [kf B2, kf B2]; omega)
  rw [kf B2, kf B2] at v43
  refine Runs.step e43 ?_
  refine Runs.step (seen (asSl_v _)) ?_
  obtain ⟨s45, e45, n45, _⟩ := kc8 n43
  rw [v43] at n45
  refine Runs.step e45 ?_
  refine Runs.step (seen (asSl_v _)) ?_
  have gD := (g29.trans (g37.trans g41)).trans g43
  have l45 := kmv (a := (al + ah) * (bl + bh) - al * bl) (c := (al + ah) * (bl + bh)) (by omega)
  obtain ⟨s47, H47, rs, e47, n47, g47, o47, v47, l47⟩ := kpf n45 (n22.grow gD) (by omega) (kmv (by omega)) (by rw [kf B2, kf B2]; omega)
  rw [kf B2, kf B2] at v47
  refine Runs.step e47 ?_
  refine Runs.step (seen (asSl_v _)) ?_
  obtain ⟨s49, e49, n49, _⟩ := kc8 n47
  rw [v47] at n49
  refine Runs.step e49 ?_
  refine Runs.step (seen (asSl_v _)) ?_
  have gE : Grow H9 H47 := (g16.trans gC).trans (g43.trans g47)
  have n16' := n16.grow ((gC.trans g43).trans g47)
  have n22' := n22.grow (gD.trans g47)
  have b47 := gE.has b9
  rw [show IntKind.wrap .i64 ((IntKind.wrap .i64 ((xs.length : Int) + (ys.length : Int))) + 1) = ((xs.length + ys.length + 1 : Nat) : Int) from by
   rw [← Int.natCast_add, kbg (by omega), kw (by omega)]]
  refine Runs.mk (kd2 (by omega)) kc2 fun s51 H51 v51 g51 => ?_
  have total := kbeh (B ^ n) al ah bl bh
  rw [← ea, ← eb] at total
  generalize hm : (al + ah) * (bl + bh) - al * bl - ah * bh = m at *
  have lt : num B xs * num B ys < B ^ (xs.length + ys.length) := by
   rw [Nat.pow_add]
   exact Nat.mul_lt_mul_of_lt_of_lt (num_lt B1 ns.lt) (num_lt B1 nt.lt)
  have lt1 : num B xs * num B ys < B ^ (xs.length + ys.length + 1) := Nat.lt_of_lt_of_le lt (Nat.pow_le_pow_right B1 (by omega))
  have lp : (digs B (al * bl)).length ≤ xs.length + ys.length := by
   rw [kx B2]
   omega
  obtain ⟨H52, e52, v52, u52⟩ := kbd9 (n16'.grow g51) v51 (by simp; omega)
  refine Runs.step e52 ?_
  have i47 := b47.lt
  have ne : h.blks.size ≠ H47.blks.size := Nat.ne_of_lt i47
  have b52 := AH.has.updr (g51.has b47) ne u52
  refine Runs.step (AH.has.rd0 b52 rfl (kb _ _)) ?_
  have av49 := Av.of_base n49 (Nat.le_refl _)
  have av22 := Av.of_base n22' (Nat.le_refl _)
  have w0 : num B (digs B (al * bl) ++ (List.replicate (xs.length + ys.length + 1) 0).drop (digs B (al * bl)).length) = al * bl := by
   rw [List.drop_replicate, kex, kf B2]
  have lw0 : (digs B (al * bl) ++ (List.replicate (xs.length + ys.length + 1) 0).drop (digs B (al * bl)).length).length = xs.length + ys.length + 1 := by
   simp
   omega
  generalize digs B (al * bl) ++ (List.replicate (xs.length + ys.length + 1) 0).drop (digs B (al * bl)).length = o0 at *
  have lmm := kmv (a := m) (c := (al + ah) * (bl + bh)) (by omega)
  obtain ⟨H54, o1, e54, v54, u54, l54, w54⟩ := kzn v52 ((n49.grow g51).upda av49 u52) av49 (at' := n) (by omega) (by omega) (by omega) (by rw [w0, kf B2, lw0]; omega)
  refine Runs.step e54 ?_
  refine Runs.step rfl ?_
  have b54 := AH.has.updr b52 ne u54
  refine Runs.step (AH.has.rd0 b54 rfl (kb _ _)) ?_
  rw [show IntKind.wrap .i64 (2 * (n : Int)) = ((2 * n : Nat) : Int) from by rw [wrap64 (by omega) (by omega)]; omega]
  have pp : B ^ (2 * n) = B ^ n * B ^ n := by rw [← Nat.pow_add]; congr 1; omega
  have lq : (digs B (ah * bh)).length ≤ xs.length + ys.length := by
   rw [kx B2]
   have : 1 * (ah * bh) ≤ B ^ n * B ^ n * (ah * bh) := Nat.mul_le_mul_right _ (Nat.mul_pos (Nat.pow_pos B1) (Nat.pow_pos B1))
   omega
  rw [w0, kf B2] at w54
  obtain ⟨H56, o2, e56, v56, u56, l56, w56⟩ := kzn v54 (((n22'.grow g51).upda av22 u52).upda av22 u54) av22 (at' := 2 * n) (by omega) (by omega) (by omega) (by rw [w54, kf B2, l54, lw0, pp]; omega)
  rw [kf B2, w54, pp, ← total] at w56
  refine Runs.step e56 ?_
  refine Runs.step rfl ?_
  obtain ⟨s57, e57, n57, o57⟩ := kc8 v56.nats
  rw [w56] at n57
  refine Runs.step e57 ?_
  refine Runs.step (seen (asSl_v _)) ?_
  have gF : Grow h H47 := gA.trans gE
  refine Runs.ret ⟨s57, rfl, n57, (((gF.trans g51).updr gF.size u52).updr gF.size u54).updr gF.size u56, o57 _ (v56.own gF.size)⟩
end Go.Ab

/- squeezed -/
set_option linter.unusedVariables false
set_option linter.unusedSimpArgs false
set_option maxRecDepth 10000
namespace Go.Ab
open Go.Proofs Go.Num
theorem kbaw {h : AH} {s t : Sl} {xs ys : List Nat} (n : Nats h s xs) (m : Nats h t ys) (hl : xs.length + ys.length < 268435456) : ∃ (s' : Sl) (h' : AH), go (.fn F.kpg [s.v, t.v]) h = some (s'.v, h') ∧ Nats h' s' (digs B (num B xs * num B ys)) ∧ Grow h h' ∧ Own h s' := by
 have key : Runs (go (.fn F.kpg [s.v, t.v]) h) fun v h' => ∃ s' : Sl, v = s'.v ∧ Nats h' s' (digs B (num B xs * num B ys)) ∧ Grow h h' ∧ Own h s' := by
  rw [k01]
  refine Runs.new fun H3 b3 g3 => ?_
  refine Runs.puts b3 rfl fun H4 b4 u4 => ?_
  have gA := g3.updr (Nat.le_refl _) u4
  have c4 : H4.cell (.new h.blks.size 0) = some (ktj (.new h.blks.size 0)) := b4.cell 0
  refine Runs.step c4 ?_
  obtain ⟨_, H6, e6, s6, rfl, n6, g6, o6⟩ := knm 268435456 hl (Nat.le_refl _) (n.grow gA) (m.grow gA) c4
  refine Runs.step ((knt _ _ _ _).trans e6) ?_
  refine Runs.step (seen (asSl_v _)) ?_
  exact Runs.ret ⟨s6, rfl, n6, gA.trans g6, o6.of_le gA⟩
 obtain ⟨_, h', e, s', rfl, k⟩ := key
 exact ⟨s', h', e, k⟩
def mulN (xs ys : List Nat) : List Nat × Int := if rt xs = true ∧ rt ys = true then told (num B xs * num B ys) else ([], 1)
theorem ken {h : AH} {s t : Sl} {xs ys : List Nat} (n : Nats h s xs) (m : Nats h t ys) : ∃ (s' : Sl) (h' : AH), go (.fn F.kdp [s.v, t.v]) h = some (.tup [s'.v, .int .i64 (mulN xs ys).2], h') ∧ Nats h' s' (mulN xs ys).1 ∧ Grow h h' ∧ Own h s' := by
 rw [k8y]
 simp only [kb3]
 have r := Rows.two n m
 have g := Grow.push h (.cells [s.v, t.v] T.ku)
 generalize h.push (.cells [s.v, t.v] T.ku) = h0 at *
 rw [kkt r]
 simp only [Option.bind_some, kcf, List.all_cons, List.all_nil, Bool.and_true]
 cases hx : rt xs with
 | false => exact ⟨⟨none, 0, .is 0⟩, h0, by simp [mulN, hx], by simpa [mulN, hx] using Nats.nil h0, g, Own.nil h⟩
 | true =>
  cases hy : rt ys with
  | false => exact ⟨⟨none, 0, .is 0⟩, h0, by simp [mulN, hx, hy], by simpa [mulN, hx, hy] using Nats.nil h0, g, Own.nil h⟩
  | true =>
   simp only [Bool.and_self, Bool.not_true, cond_false]
   have lx := (rt_iff.1 hx).1
   have ly := (rt_iff.1 hy).1
   rw [show mulN xs ys = told (num B xs * num B ys) from by simp [mulN, hx, hy]]
   obtain ⟨s1, h1, e1, n1, g1, o1⟩ := kbaw (n.grow g) (m.grow g) (by omega)
   obtain ⟨s2, e2, n2, o2⟩ := ktx n1
   rw [kf B2] at e2 n2
   refine ⟨s2, h1, ?_, n2, g.trans g1, o2 _ (o1.of_le g)⟩
   simp only [e1, e2, Option.bind_some, asSl_v, kd5, kb]
theorem kwn {h : AH} {s t : Sl} {xs ys : List Nat} (n : Nats h s xs) (m : Nats h t ys) : ∃ (s' : Sl) (h' : AH), go (.fn F.km6 [s.v, t.v]) h = some (.tup [s'.v, .int .i64 (mulN xs ys).2], h') ∧ Nats h' s' (mulN xs ys).1 ∧ Grow h h' ∧ Own h s' := by
 rw [k6u, kjg n, Option.bind_some, Option.bind_some, kcf, Option.bind_some, kjg m, Option.bind_some, Option.bind_some, kcf, Option.bind_some]
 cases hx : rt xs with
 | false => exact ⟨⟨none, 0, .is 0⟩, h, by simp [mulN, hx], by simpa [mulN, hx] using Nats.nil h, Grow.refl h, Own.nil h⟩
 | true =>
  cases hy : rt ys with
  | false => exact ⟨⟨none, 0, .is 0⟩, h, by simp [mulN, hx, hy], by simpa [mulN, hx, hy] using Nats.nil h, Grow.refl h, Own.nil h⟩
  | true =>
   simp only [Bool.not_true, cond_false]
   have lx := (rt_iff.1 hx).1
   have ly := (rt_iff.1 hy).1
   rw [show mulN xs ys = told (num B xs * num B ys) from by simp [mulN, hx, hy]]
   obtain ⟨d1, h1, e1, n1, g1, o1⟩ := kjl n (by omega)
   obtain ⟨d2, h2, e2, n2, g2, o2⟩ := kjl (m.grow g1) (by omega)
   have k1 := kix n.lt lx
   have k2 := kix m.lt ly
   obtain ⟨d3, h3, e3, n3, g3, o3⟩ := ks5 (n1.grow g2) n2 (kz D2 _) (kz D2 _) (by omega)
   rw [kf D2, kf D2] at n3
   have k3 : (digs D (num B xs * num B ys)).length ≤ 536870912 := by
    have h1 := (kx D2 (num B xs) _).1 (Nat.le_refl _)
    have h2 := (kx D2 (num B ys) _).1 (Nat.le_refl _)
    have : (digs D (num B xs * num B ys)).length ≤ (digs D (num B xs)).length + (digs D (num B ys)).length := by
     rw [kx D2, Nat.pow_add]
     exact Nat.mul_lt_mul_of_lt_of_lt h1 h2
    omega
   obtain ⟨d4, h4, e4, n4, g4, o4⟩ := kt5 n3 (kz D2 _) (kcq D2 _) k3
   rw [kf D2] at e4 n4
   refine ⟨d4, h4, ?_, n4, g1.trans (g2.trans (g3.trans g4)), o4.of_le (g1.trans (g2.trans g3))⟩
   simp only [e1, e2, e3, e4, Option.bind_some, asSl_v, kd5, kb]
end Go.Ab

/- squeezed -/
set_option linter.unusedVariables false
set_option linter.unusedSimpArgs false
set_option maxRecDepth 10000
namespace Go.Ab
open Go.Proofs Go.Num
def kba (a1 : Bool) (x2 : List Nat) (a3 : Bool) (x4 : List Nat) : Bool × List Nat × Int :=
 cond (!((rtI a1 x2 && rtI a3 x4))) ((false, [], 1)) (((((fromI (!(a1 == a3)) ((mulN x2 x4).1)).1)), (fromI (!(a1 == a3)) ((mulN x2 x4).1)).2, ((mulN x2 x4).2)))
theorem kxv {h : AH} {a2 : Sl} {x2 : List Nat} {a4 : Sl} {x4 : List Nat} (n2 : Nats h a2 x2) (n4 : Nats h a4 x4) (a1 : Bool) (a3 : Bool) : Runs (go (.fn F.kng [.agg [.bool a1, a2.v], .agg [.bool a3, a4.v]]) h) fun v h' => ∃ s1 : Sl, v = .tup [.agg [.bool (kba a1 x2 a3 x4).1, s1.v], .int .i64 (kba a1 x2 a3 x4).2.2] ∧ Nats h' s1 ((kba a1 x2 a3 x4).2.1) ∧ Grow h h' ∧ Own h s1 := by
 rw [k6h]
 refine Runs.new fun H5 b5 g5 => ?_
 refine Runs.new fun H6 b6 g6 => ?_
 refine Runs.new fun H7 b7 g7 => ?_
 refine Runs.step (AH.has.rd ((g6.trans g7).has b5) 0 rfl rfl) ?_
 refine Runs.step (AH.has.rd ((g6.trans g7).has b5) 1 rfl (asSl_v _)) ?_
 refine Runs.step (AH.has.rd (g7.has b6) 0 rfl rfl) ?_
 refine Runs.step (AH.has.rd (g7.has b6) 1 rfl (asSl_v _)) ?_
 refine Runs.new fun H8 b8 g8 => ?_
 obtain ⟨H9, e9, g9⟩ := km2 b8 (n2.grow (((g5.trans g6).trans g7).trans g8)) (n4.grow (((g5.trans g6).trans g7).trans g8))
 refine Runs.step e9 ?_
 refine Runs.step (seen rfl) ?_
 refine Runs.cond (fun k10 => ?_) (fun k10 => ?_)
 ·refine Runs.puts ((g8.trans g9).has b7) rfl fun H11 b11 u11 => ?_
  have b8_11 := AH.has.updr (g9.has b8) (Nat.ne_of_gt (Nat.lt_of_lt_of_le (b7).lt (Nat.le_refl _))) u11
  refine Runs.step (AH.has.rd b11 0 rfl rfl) ?_
  refine Runs.step (AH.has.rd b11 1 rfl (asSl_v _)) ?_
  have z : kba a1 x2 a3 x4 = (false, [], 1) := by unfold kba; exact (condT k10).trans rfl
  rw [z]
  exact Runs.ret ⟨(⟨none, 0, .is 0⟩ : Sl), rfl, (Nats.nil _), (((((g5.trans g6).trans g7).trans g8).trans g9).updr (Nat.le_trans ((g5.trans g6)).size (Nat.le_refl _)) u11), (Own.nil _)⟩
 ·refine Runs.step (AH.has.rd ((((g6.trans g7).trans g8).trans g9).has b5) 1 rfl (asSl_v _)) ?_
  refine Runs.step (AH.has.rd (((g7.trans g8).trans g9).has b6) 1 rfl (asSl_v _)) ?_
  obtain ⟨s11, H11, e11, n11, g11, o11⟩ := ken (n2.grow ((((g5.trans g6).trans g7).trans g8).trans g9)) (n4.grow ((((g5.trans g6).trans g7).trans g8).trans g9))
  refine Runs.step e11 ?_
  refine Runs.step rfl ?_
  refine Runs.step (seen (asSl_v _)) ?_
  refine Runs.step (seen (kb _ _)) ?_
  refine Runs.step (AH.has.rd (((((g6.trans g7).trans g8).trans g9).trans g11).has b5) 0 rfl rfl) ?_
  refine Runs.step (AH.has.rd ((((g7.trans g8).trans g9).trans g11).has b6) 0 rfl rfl) ?_
  obtain ⟨s12, H12, e12, n12, g12, o12⟩ := kb0 n11 (!(a1 == a3))
  refine Runs.step e12 ?_
  refine Runs.step rfl ?_
  refine Runs.ifT rfl ?_
  refine Runs.step (seenAt rfl rfl) ?_
  refine Runs.step (seenAt rfl (asSl_v _)) ?_
  refine Runs.puts ((((g8.trans g9).trans g11).trans g12).has b7) rfl fun H13 b13 u13 => ?_
  have n11_13 := (n11.grow g12).upda (Av.of_own o11 ((g8.trans g9).has b7).lt) u13
  have n12_13 := n12.upda (Av.of_own o12 (((g8.trans g9).trans g11).has b7).lt) u13
  have b8_13 := AH.has.updr (((g9.trans g11).trans g12).has b8) (Nat.ne_of_gt (Nat.lt_of_lt_of_le (b7).lt (Nat.le_refl _))) u13
  refine Runs.step (AH.has.rd b13 0 rfl rfl) ?_
  refine Runs.step (AH.has.rd b13 1 rfl (asSl_v _)) ?_
  have z : kba a1 x2 a3 x4 = ((((fromI (!(a1 == a3)) ((mulN x2 x4).1)).1)), (fromI (!(a1 == a3)) ((mulN x2 x4).1)).2, ((mulN x2 x4).2)) := by unfold kba; exact (condF k10).trans rfl
  rw [z]
  exact Runs.ret ⟨s12, rfl, n12_13, (((((((g5.trans g6).trans g7).trans g8).trans g9).trans g11).trans g12).updr (Nat.le_trans ((g5.trans g6)).size (Nat.le_refl _)) u13), (o12.of_le (((((g5.trans g6).trans g7).trans g8).trans g9).trans g11))⟩
end Go.Ab

/- squeezed -/
set_option linter.unusedVariables false
set_option linter.unusedSimpArgs false
set_option maxRecDepth 10000
namespace Go.Ab
open Go.Proofs Go.Num
def Bl (x n : Nat) : Prop := x < 2 ^ n ∧ (n = 0 ∨ 2 ^ (n - 1) ≤ x)
def bl (i : Nat) : Nat := if i = 0 then 0 else Nat.log2 i + 1
theorem k7q : ∀ i : Nat, i < 256 → (lit1[i]?).map (·.toNat) = some (bl i) := by decide +kernel
theorem bl_Bl (i : Nat) : Bl i (bl i) := by
 unfold bl Bl
 by_cases h : i = 0
 ·subst h
  simp
 ·rw [if_neg h]
  refine ⟨Nat.lt_log2_self, .inr ?_⟩
  simpa using Nat.log2_self_le h
theorem k55 {i : Nat} (h : i < 256) : ∃ b : UInt8, lit1[i]? = some b ∧ Bl i b.toNat := by
 have e := k7q i h
 rw [Option.map_eq_some_iff] at e
 obtain ⟨b, e1, e2⟩ := e
 exact ⟨b, e1, by rw [e2]; exact bl_Bl i⟩
theorem Bl.up {x k n : Nat} (b : Bl (x / 2 ^ k) n) (h : 0 < x / 2 ^ k) : Bl x (k + n) := by
 obtain ⟨h1, h2⟩ := b
 have p : 0 < 2 ^ k := Nat.pow_pos (by decide)
 refine ⟨?_, .inr ?_⟩
 ·rw [Nat.pow_add, Nat.mul_comm]
  exact (Nat.div_lt_iff_lt_mul p).1 h1
 ·rcases h2 with rfl | h2
  ·rw [Nat.pow_zero] at h1
   omega
  ·by_cases hn : n = 0
   ·subst hn
    rw [Nat.pow_zero] at h1
    omega
   ·rw [show k + n - 1 = k + (n - 1) from by omega, Nat.pow_add, Nat.mul_comm]
    exact (Nat.le_div_iff_mul_le p).1 h2
theorem Bl.le {x n : Nat} (b : Bl x n) {m : Nat} (h : x < 2 ^ m) : n ≤ m := by
 rcases b.2 with h1 | h1
 ·omega
 ·rcases Nat.lt_or_ge m n with h2 | h2
  ·have : 2 ^ m ≤ 2 ^ (n - 1) := Nat.pow_le_pow_right (by decide) (by omega)
   omega
  ·exact h2
theorem wrap8 {n : Nat} (h : n < 256) : IntKind.wrap .u8 (n : Int) = (n : Int) := by
 simp [IntKind.wrap, IntKind.bits, IntKind.signed]
 omega
theorem kfs {x : Nat} (hx : x < 256) {P : AV → AH → Prop} {h : AH} {K : Int → Int} (H : ∀ n : Nat, Bl x n → n ≤ 8 → P (.int .i64 (K (n : Int))) h) :
  Runs (cond (decide (0 ≤ (IntKind.wrap .u8 (x : Int)))) ((lit1[Int.toNat (IntKind.wrap .u8 (x : Int))]?).bind fun b => some (.int .i64 (K (IntKind.wrap .i64 (b.toNat : Int))), h)) none) P := by
 rw [wrap8 hx, Int.toNat_natCast]
 obtain ⟨b, e1, e2⟩ := k55 hx
 refine Runs.ifT (by rw [decide_eq_true_eq]; omega) ?_
 refine Runs.step e1 ?_
 have := e2.le (m := 8) hx
 rw [kbg (by omega)]
 exact Runs.ret (H _ e2 this)
theorem kyj {x : Nat} (hx : x < 18446744073709551616) {h : AH} : ∃ n : Nat, go (.fn F.kf3 [.int .u64 (x : Int)]) h = some (.int .i64 (n : Int), h) ∧ Bl x n := by
 have key : Runs (go (.fn F.kf3 [.int .u64 (x : Int)]) h) fun v h' => ∃ n : Nat, v = .int .i64 (n : Int) ∧ h' = h ∧ Bl x n := by
  rw [kbdu]
  have s32 : ishr .u64 (x : Int) 32 = ((x / 2 ^ 32 : Nat) : Int) := kbx x 32
  have s16 : ishr .u64 (x : Int) 16 = ((x / 2 ^ 16 : Nat) : Int) := kbx x 16
  have s8 : ishr .u64 (x : Int) 8 = ((x / 2 ^ 8 : Nat) : Int) := kbx x 8
  have s3216 : ishr .u64 ((x / 2 ^ 32 : Nat) : Int) 16 = ((x / 2 ^ 32 / 2 ^ 16 : Nat) : Int) := kbx _ 16
  have s328 : ishr .u64 ((x / 2 ^ 32 : Nat) : Int) 8 = ((x / 2 ^ 32 / 2 ^ 8 : Nat) : Int) := kbx _ 8
  have s168 : ishr .u64 ((x / 2 ^ 16 : Nat) : Int) 8 = ((x / 2 ^ 16 / 2 ^ 8 : Nat) : Int) := kbx _ 8
  have s32168 : ishr .u64 ((x / 2 ^ 32 / 2 ^ 16 : Nat) : Int) 8 = ((x / 2 ^ 32 / 2 ^ 16 / 2 ^ 8 : Nat) : Int) := kbx _ 8
  rw [s32, s3216, s32168, s328, s16, s168, s8]
  refine Runs.cond (fun k1 => ?_) (fun k1 => ?_)
  ·rw [decide_eq_true_eq] at k1
   refine Runs.cond (fun k2 => ?_) (fun k2 => ?_)
   ·rw [decide_eq_true_eq] at k2
    refine Runs.cond (fun k3 => ?_) (fun k3 => ?_)
    ·rw [decide_eq_true_eq] at k3
     refine kfs (K := fun n => IntKind.wrap .i64 ((IntKind.wrap .i64 ((IntKind.wrap .i64 (32 + 16)) + 8)) + n)) (by omega) fun n b hn => ⟨32 + (16 + (8 + n)), ?_, rfl, ((b.up (by omega)).up (by omega)).up (by omega)⟩
     rw [show (IntKind.wrap .i64 ((IntKind.wrap .i64 (32 + 16)) + 8)) = 56 from by decide, wrap64 (by omega) (by omega)]
     congr 1
     omega
    ·rw [decide_eq_false_iff_not] at k3
     refine kfs (K := fun n => IntKind.wrap .i64 ((IntKind.wrap .i64 (32 + 16)) + n)) (by omega) fun n b hn => ⟨32 + (16 + n), ?_, rfl, (b.up (by omega)).up (by omega)⟩
     rw [show (IntKind.wrap .i64 (32 + 16)) = 48 from by decide, wrap64 (by omega) (by omega)]
     congr 1
     omega
   ·rw [decide_eq_false_iff_not] at k2
    refine Runs.cond (fun k3 => ?_) (fun k3 => ?_)
    ·rw [decide_eq_true_eq] at k3
     refine kfs (K := fun n => IntKind.wrap .i64 ((IntKind.wrap .i64 (32 + 8)) + n)) (by omega) fun n b hn => ⟨32 + (8 + n), ?_, rfl, (b.up (by omega)).up (by omega)⟩
     rw [show (IntKind.wrap .i64 (32 + 8)) = 40 from by decide, wrap64 (by omega) (by omega)]
     congr 1
     omega
    ·rw [decide_eq_false_iff_not] at k3
     refine kfs (K := fun n => IntKind.wrap .i64 (32 + n)) (by omega) fun n b hn => ⟨32 + n, ?_, rfl, b.up (by omega)⟩
     rw [wrap64 (by omega) (by omega)]
     congr 1
  ·rw [decide_eq_false_iff_not] at k1
   refine Runs.cond (fun k2 => ?_) (fun k2 => ?_)
   ·rw [decide_eq_true_eq] at k2
    refine Runs.cond (fun k3 => ?_) (fun k3 => ?_)
    ·rw [decide_eq_true_eq] at k3
     refine kfs (K := fun n => IntKind.wrap .i64 ((IntKind.wrap .i64 ((IntKind.wrap .i64 (0 + 16)) + 8)) + n)) (by omega) fun n b hn => ⟨16 + (8 + n), ?_, rfl, (b.up (by omega)).up (by omega)⟩
     rw [show (IntKind.wrap .i64 ((IntKind.wrap .i64 (0 + 16)) + 8)) = 24 from by decide, wrap64 (by omega) (by omega)]
     congr 1
     omega
    ·rw [decide_eq_false_iff_not] at k3
     refine kfs (K := fun n => IntKind.wrap .i64 ((IntKind.wrap .i64 (0 + 16)) + n)) (by omega) fun n b hn => ⟨16 + n, ?_, rfl, b.up (by omega)⟩
     rw [show (IntKind.wrap .i64 (0 + 16)) = 16 from by decide, wrap64 (by omega) (by omega)]
     congr 1
   ·rw [decide_eq_false_iff_not] at k2
    refine Runs.cond (fun k3 => ?_) (fun k3 => ?_)
    ·rw [decide_eq_true_eq] at k3
     refine kfs (K := fun n => IntKind.wrap .i64 ((IntKind.wrap .i64 (0 + 8)) + n)) (by omega) fun n b hn => ⟨8 + n, ?_, rfl, b.up (by omega)⟩
     rw [show (IntKind.wrap .i64 (0 + 8)) = 8 from by decide, wrap64 (by omega) (by omega)]
     congr 1
    ·rw [decide_eq_false_iff_not] at k3
     refine kfs (K := fun n => IntKind.wrap .i64 (0 + n)) (by omega) fun n b hn => ⟨n, ?_, rfl, b⟩
     rw [wrap64 (by omega) (by omega)]
     congr 1
     omega
 obtain ⟨_, _, e, n, rfl, rfl, b⟩ := key
 exact ⟨n, e, b⟩
end Go.Ab

/- squeezed -/
set_option linter.unusedVariables false
set_option linter.unusedSimpArgs false
set_option maxRecDepth 10000
namespace Go.Ab
open Go.Proofs Go.Num
theorem Bl.uniq {x n m : Nat} (a : Bl x n) (b : Bl x m) : n = m := Nat.le_antisymm (a.le b.1) (b.le a.1)
theorem kwa (a : Int) {h : AH} (ha : 0 ≤ a ∧ a < 18446744073709551616) : go (.fn F.kpb [.int .u64 a]) h = some (.int .i64 ((64 - bl a.toNat : Nat) : Int), h) := by
 obtain ⟨x, rfl⟩ : ∃ x : Nat, a = (x : Int) := ⟨a.toNat, by omega⟩
 obtain ⟨l, e, b⟩ := kyj (x := x) (by omega) (h := h)
 have hl := b.le (m := 64) (show x < 2 ^ 64 by omega)
 have := b.uniq (bl_Bl x)
 subst this
 rw [kbc3, e, Option.bind_some, Option.bind_some, kb, Option.bind_some, Int.toNat_natCast, wrap64 (by omega) (by omega)]
 rw [show (64 : Int) - (bl x : Int) = ((64 - bl x : Nat) : Int) from by omega]
theorem kuo {x : Nat} (hx : x < 18446744073709551616) (h0 : 0 < x) : 64 - bl x ≤ 63 ∧ 9223372036854775808 ≤ x * 2 ^ (64 - bl x) ∧ x * 2 ^ (64 - bl x) < 18446744073709551616 := by
 have b := bl_Bl x
 generalize bl x = l at b
 have hl := b.le (m := 64) (show x < 2 ^ 64 by omega)
 have hl1 : 1 ≤ l := by
  rcases Nat.eq_zero_or_pos l with e | e
  ·subst e
   have := b.1
   rw [Nat.pow_zero] at this
   omega
  ·exact e
 refine ⟨by omega, ?_, ?_⟩
 ·rcases b.2 with h1 | h1
  ·omega
  ·have h2 : 2 ^ (l - 1) * 2 ^ (64 - l) ≤ x * 2 ^ (64 - l) := Nat.mul_le_mul_right _ h1
   rw [← Nat.pow_add, show l - 1 + (64 - l) = 63 from by omega] at h2
   exact h2
 ·have h2 : x * 2 ^ (64 - l) < 2 ^ l * 2 ^ (64 - l) := Nat.mul_lt_mul_of_pos_right b.1 (Nat.pow_pos (by decide))
  rw [← Nat.pow_add, show l + (64 - l) = 64 from by omega] at h2
  exact h2
theorem kjw (x n : Nat) (hn : n ≤ 64) : ishl .u64 (x : Int) (n : Int) = ((x * 2 ^ n % 18446744073709551616 : Nat) : Int) := by
 unfold ishl
 rw [Int.toNat_natCast, show IntKind.bits .u64 = 64 from rfl, Nat.min_eq_left hn, wrapU]
 have : (x : Int) * (2 : Int) ^ n = ((x * 2 ^ n : Nat) : Int) := by simp
 rw [this]
 rfl
theorem kqg {a c s : Nat} (h : a * 2 ^ s < 18446744073709551616) (hc : c < 2 ^ s) (hs : s ≤ 64) : ior .u64 ((a * 2 ^ s : Nat) : Int) (c : Int) = ((a * 2 ^ s + c : Nat) : Int) := by
 have p : 0 < 2 ^ s := Nat.pow_pos (by decide)
 have hc' : c < 18446744073709551616 := show c < 2 ^ 64 from Nat.lt_of_lt_of_le hc (Nat.pow_le_pow_right (by decide) hs)
 have hsum : a * 2 ^ s + c < 18446744073709551616 := by
  have e : 2 ^ (64 - s) * 2 ^ s = 18446744073709551616 := by rw [← Nat.pow_add, show 64 - s + s = 64 from by omega]
  have h1 : a < 2 ^ (64 - s) := Nat.lt_of_mul_lt_mul_right (a := 2 ^ s) (by rw [e]; exact h)
  have h2 : (a + 1) * 2 ^ s ≤ 2 ^ (64 - s) * 2 ^ s := Nat.mul_le_mul_right _ h1
  rw [e, Nat.add_mul, Nat.one_mul] at h2
  omega
 unfold ior
 rw [show IntKind.bits .u64 = 64 from rfl, wrapU]
 have e1 : BitVec.ofInt 64 ((a * 2 ^ s : Nat) : Int) = BitVec.ofNat 64 (a * 2 ^ s) := rfl
 have e2 : BitVec.ofInt 64 (c : Int) = BitVec.ofNat 64 c := rfl
 have e3 := Nat.shiftLeft_add_eq_or_of_lt hc a
 rw [Nat.shiftLeft_eq] at e3
 rw [e1, e2, BitVec.toNat_or, BitVec.toNat_ofNat, BitVec.toNat_ofNat, Nat.mod_eq_of_lt (show a * 2 ^ s < 2 ^ 64 from h), Nat.mod_eq_of_lt (show c < 2 ^ 64 from hc'), ← e3]
 omega
end Go.Ab

/- squeezed -/
set_option linter.unusedVariables false
set_option linter.unusedSimpArgs false
set_option maxRecDepth 10000
namespace Go.Ab
open Go.Proofs Go.Num
inductive kb8
 | fn (a1 : Int) (a2 : Int) (a3 : Int)
 | p3 (a1 : Int) (a2 : Int) (a3 : Int)
 | p17 (a1 : Int) (a2 : Int) (a3 : Int) (a4 : Int) (a5 : Int) (a6 : Int) (a7 : Int) (a8 : Int) (a9 : Int)
 | p24 (a1 : Int) (a2 : Int) (a3 : Int) (a4 : Int) (a5 : Int) (a6 : Int) (a7 : Int) (a8 : Int) (a9 : Int)
abbrev kbl := Int × Int
noncomputable def kk9 (a1 : Int) (a2 : Int) (a3 : Int) : Option (kb8 ⊕ kbl) :=
 cond (decide (a3 = 0)) (none) (some (.inl (.p3 a1 a2 a3)))
noncomputable def kgw (a1 : Int) (a2 : Int) (a3 : Int) : Option (kb8 ⊕ kbl) :=
 cond (decide (a3 ≤ a1)) (none) (cond (decide (a1 = 0)) (cond (decide (a3 = 0)) (none) (cond (decide (a3 = 0)) (none) (some (.inr (IntKind.wrap .u64 (Int.tdiv a2 a3), Int.tmod a2 a3))))) ((need (0 ≤ a3 ∧ a3 < 18446744073709551616)).bind fun c6_0 => cond (decide ((IntKind.wrap .u64 (((64 - bl (Int.toNat a3) : Nat) : Int))) < 0)) (none) (cond (decide ((IntKind.wrap .u64 (((64 - bl (Int.toNat a3) : Nat) : Int))) < 0)) (none) (cond (decide ((IntKind.wrap .u64 (64 - (IntKind.wrap .u64 (((64 - bl (Int.toNat a3) : Nat) : Int))))) < 0)) (none) (cond (decide ((IntKind.wrap .u64 (((64 - bl (Int.toNat a3) : Nat) : Int))) < 0)) (none) (cond (decide ((ishr .u64 (ishl .u64 a3 (IntKind.wrap .u64 (((64 - bl (Int.toNat a3) : Nat) : Int)))) 32) = 0)) (none) (some (.inl (.p17 (ishl .u64 a3 (IntKind.wrap .u64 (((64 - bl (Int.toNat a3) : Nat) : Int)))) (IntKind.wrap .u64 (((64 - bl (Int.toNat a3) : Nat) : Int))) (ishr .u64 (ishl .u64 a3 (IntKind.wrap .u64 (((64 - bl (Int.toNat a3) : Nat) : Int)))) 32) (iand .u64 (ishl .u64 a3 (IntKind.wrap .u64 (((64 - bl (Int.toNat a3) : Nat) : Int)))) 4294967295) (ior .u64 (ishl .u64 a1 (IntKind.wrap .u64 (((64 - bl (Int.toNat a3) : Nat) : Int)))) (ishr .u64 a2 (IntKind.wrap .u64 (64 - (IntKind.wrap .u64 (((64 - bl (Int.toNat a3) : Nat) : Int))))))) (ishr .u64 (ishl .u64 a2 (IntKind.wrap .u64 (((64 - bl (Int.toNat a3) : Nat) : Int)))) 32) (iand .u64 (ishl .u64 a2 (IntKind.wrap .u64 (((64 - bl (Int.toNat a3) : Nat) : Int)))) 4294967295) (IntKind.wrap .u64 (Int.tdiv (ior .u64 (ishl .u64 a1 (IntKind.wrap .u64 (((64 - bl (Int.toNat a3) : Nat) : Int)))) (ishr .u64 a2 (IntKind.wrap .u64 (64 - (IntKind.wrap .u64 (((64 - bl (Int.toNat a3) : Nat) : Int))))))) (ishr .u64 (ishl .u64 a3 (IntKind.wrap .u64 (((64 - bl (Int.toNat a3) : Nat) : Int)))) 32))) (IntKind.wrap .u64 ((ior .u64 (ishl .u64 a1 (IntKind.wrap .u64 (((64 - bl (Int.toNat a3) : Nat) : Int)))) (ishr .u64 a2 (IntKind.wrap .u64 (64 - (IntKind.wrap .u64 (((64 - bl (Int.toNat a3) : Nat) : Int))))))) - (IntKind.wrap .u64 ((IntKind.wrap .u64 (Int.tdiv (ior .u64 (ishl .u64 a1 (IntKind.wrap .u64 (((64 - bl (Int.toNat a3) : Nat) : Int)))) (ishr .u64 a2 (IntKind.wrap .u64 (64 - (IntKind.wrap .u64 (((64 - bl (Int.toNat a3) : Nat) : Int))))))) (ishr .u64 (ishl .u64 a3 (IntKind.wrap .u64 (((64 - bl (Int.toNat a3) : Nat) : Int)))) 32))) * (ishr .u64 (ishl .u64 a3 (IntKind.wrap .u64 (((64 - bl (Int.toNat a3) : Nat) : Int)))) 32))))))))))))))
noncomputable def ke4 (a1 : Int) (a2 : Int) (a3 : Int) (a4 : Int) (a5 : Int) (a6 : Int) (a7 : Int) (a8 : Int) (a9 : Int) : Option (kb8 ⊕ kbl) :=
 cond (decide (a8 ≥ 4294967296)) (cond (decide ((IntKind.wrap .u64 (a9 + a3)) ≥ 4294967296)) (cond (decide (a3 = 0)) (none) (some (.inl (.p24 a1 a2 a3 a4 a7 (IntKind.wrap .u64 (a8 - 1)) (IntKind.wrap .u64 ((IntKind.wrap .u64 ((IntKind.wrap .u64 ((IntKind.wrap .u64 (a5 * 4294967296)) + a6)) - (IntKind.wrap .u64 ((IntKind.wrap .u64 (a8 - 1)) * a1)))) - (IntKind.wrap .u64 ((IntKind.wrap .u64 (Int.tdiv (IntKind.wrap .u64 ((IntKind.wrap .u64 ((IntKind.wrap .u64 (a5 * 4294967296)) + a6)) - (IntKind.wrap .u64 ((IntKind.wrap .u64 (a8 - 1)) * a1)))) a3)) * a3)))) (IntKind.wrap .u64 ((IntKind.wrap .u64 ((IntKind.wrap .u64 (a5 * 4294967296)) + a6)) - (IntKind.wrap .u64 ((IntKind.wrap .u64 (a8 - 1)) * a1)))) (IntKind.wrap .u64 (Int.tdiv (IntKind.wrap .u64 ((IntKind.wrap .u64 ((IntKind.wrap .u64 (a5 * 4294967296)) + a6)) - (IntKind.wrap .u64 ((IntKind.wrap .u64 (a8 - 1)) * a1)))) a3)))))) (some (.inl (.p17 a1 a2 a3 a4 a5 a6 a7 (IntKind.wrap .u64 (a8 - 1)) (IntKind.wrap .u64 (a9 + a3)))))) (cond (decide ((IntKind.wrap .u64 (a8 * a4)) > (IntKind.wrap .u64 ((IntKind.wrap .u64 (4294967296 * a9)) + a6)))) (cond (decide ((IntKind.wrap .u64 (a9 + a3)) ≥ 4294967296)) (cond (decide (a3 = 0)) (none) (some (.inl (.p24 a1 a2 a3 a4 a7 (IntKind.wrap .u64 (a8 - 1)) (IntKind.wrap .u64 ((IntKind.wrap .u64 ((IntKind.wrap .u64 ((IntKind.wrap .u64 (a5 * 4294967296)) + a6)) - (IntKind.wrap .u64 ((IntKind.wrap .u64 (a8 - 1)) * a1)))) - (IntKind.wrap .u64 ((IntKind.wrap .u64 (Int.tdiv (IntKind.wrap .u64 ((IntKind.wrap .u64 ((IntKind.wrap .u64 (a5 * 4294967296)) + a6)) - (IntKind.wrap .u64 ((IntKind.wrap .u64 (a8 - 1)) * a1)))) a3)) * a3)))) (IntKind.wrap .u64 ((IntKind.wrap .u64 ((IntKind.wrap .u64 (a5 * 4294967296)) + a6)) - (IntKind.wrap .u64 ((IntKind.wrap .u64 (a8 - 1)) * a1)))) (IntKind.wrap .u64 (Int.tdiv (IntKind.wrap .u64 ((IntKind.wrap .u64 ((IntKind.wrap .u64 (a5 * 4294967296)) + a6)) - (IntKind.wrap .u64 ((IntKind.wrap .u64 (a8 - 1)) * a1)))) a3)))))) (some (.inl (.p17 a1 a2 a3 a4 a5 a6 a7 (IntKind.wrap .u64 (a8 - 1)) (IntKind.wrap .u64 (a9 + a3)))))) (cond (decide (a3 = 0)) (none) (some (.inl (.p24 a1 a2 a3 a4 a7 a8 (IntKind.wrap .u64 ((IntKind.wrap .u64 ((IntKind.wrap .u64 ((IntKind.wrap .u64 (a5 * 4294967296)) + a6)) - (IntKind.wrap .u64 (a8 * a1)))) - (IntKind.wrap .u64 ((IntKind.wrap .u64 (Int.tdiv (IntKind.wrap .u64 ((IntKind.wrap .u64 ((IntKind.wrap .u64 (a5 * 4294967296)) + a6)) - (IntKind.wrap .u64 (a8 * a1)))) a3)) * a3)))) (IntKind.wrap .u64 ((IntKind.wrap .u64 ((IntKind.wrap .u64 (a5 * 4294967296)) + a6)) - (IntKind.wrap .u64 (a8 * a1)))) (IntKind.wrap .u64 (Int.tdiv (IntKind.wrap .u64 ((IntKind.wrap .u64 ((IntKind.wrap .u64 (a5 * 4294967296)) + a6)) - (IntKind.wrap .u64 (a8 * a1)))) a3)))))))
noncomputable def ke1 (a1 : Int) (a2 : Int) (a3 : Int) (a4 : Int) (a5 : Int) (a6 : Int) (a7 : Int) (a8 : Int) (a9 : Int) : Option (kb8 ⊕ kbl) :=
 cond (decide (a9 ≥ 4294967296)) (cond (decide ((IntKind.wrap .u64 (a7 + a3)) ≥ 4294967296)) (cond (decide (a2 < 0)) (none) (some (.inr (IntKind.wrap .u64 ((IntKind.wrap .u64 (a6 * 4294967296)) + (IntKind.wrap .u64 (a9 - 1))), ishr .u64 (IntKind.wrap .u64 ((IntKind.wrap .u64 ((IntKind.wrap .u64 (a8 * 4294967296)) + a5)) - (IntKind.wrap .u64 ((IntKind.wrap .u64 (a9 - 1)) * a1)))) a2)))) (some (.inl (.p24 a1 a2 a3 a4 a5 a6 (IntKind.wrap .u64 (a7 + a3)) a8 (IntKind.wrap .u64 (a9 - 1)))))) (cond (decide ((IntKind.wrap .u64 (a9 * a4)) > (IntKind.wrap .u64 ((IntKind.wrap .u64 (4294967296 * a7)) + a5)))) (cond (decide ((IntKind.wrap .u64 (a7 + a3)) ≥ 4294967296)) (cond (decide (a2 < 0)) (none) (some (.inr (IntKind.wrap .u64 ((IntKind.wrap .u64 (a6 * 4294967296)) + (IntKind.wrap .u64 (a9 - 1))), ishr .u64 (IntKind.wrap .u64 ((IntKind.wrap .u64 ((IntKind.wrap .u64 (a8 * 4294967296)) + a5)) - (IntKind.wrap .u64 ((IntKind.wrap .u64 (a9 - 1)) * a1)))) a2)))) (some (.inl (.p24 a1 a2 a3 a4 a5 a6 (IntKind.wrap .u64 (a7 + a3)) a8 (IntKind.wrap .u64 (a9 - 1)))))) (cond (decide (a2 < 0)) (none) (some (.inr (IntKind.wrap .u64 ((IntKind.wrap .u64 (a6 * 4294967296)) + a9), ishr .u64 (IntKind.wrap .u64 ((IntKind.wrap .u64 ((IntKind.wrap .u64 (a8 * 4294967296)) + a5)) - (IntKind.wrap .u64 (a9 * a1)))) a2)))))
noncomputable def keh : kb8 → Option (kb8 ⊕ kbl)
 | .fn a1 a2 a3 => kk9 a1 a2 a3
 | .p3 a1 a2 a3 => kgw a1 a2 a3
 | .p17 a1 a2 a3 a4 a5 a6 a7 a8 a9 => ke4 a1 a2 a3 a4 a5 a6 a7 a8 a9
 | .p24 a1 a2 a3 a4 a5 a6 a7 a8 a9 => ke1 a1 a2 a3 a4 a5 a6 a7 a8 a9
@[reducible] def kof (h0 : AH) (r : kbl) (v : AV) (h' : AH) : Prop := v = .tup [.int .u64 r.1, .int .u64 r.2] ∧ Grow h0 h'
def keu (r : kbl) : kb8 → Prop
 | .fn a1 a2 a3 => ∀ {h : AH}, Runs (go (.fn F.kbn [.int .u64 a1, .int .u64 a2, .int .u64 a3]) h) (kof h r)
 | .p3 a1 a2 a3 => ∀ {h0 h : AH}, Grow h0 h → Runs (go (.pt F.kbn Td.kr7 [(0, .int .u64 a1), (1, .int .u64 a2), (2, .int .u64 a3)]) h) (kof h0 r)
 | .p17 a1 a2 a3 a4 a5 a6 a7 a8 a9 => ∀ {h0 h : AH}, Grow h0 h → Runs (go (.pt F.kbn Td.kjs [(2, .int .u64 a1), (8, .int .u64 a2), (9, .int .u64 a3), (10, .int .u64 a4), (11, .int .u64 a5), (13, .int .u64 a6), (14, .int .u64 a7), (15, .int .u64 a8), (16, .int .u64 a9)]) h) (kof h0 r)
 | .p24 a1 a2 a3 a4 a5 a6 a7 a8 a9 => ∀ {h0 h : AH}, Grow h0 h → Runs (go (.pt F.kbn Td.kgj [(2, .int .u64 a1), (8, .int .u64 a2), (9, .int .u64 a3), (10, .int .u64 a4), (14, .int .u64 a5), (15, .int .u64 a6), (16, .int .u64 a7), (17, .int .u64 a8), (18, .int .u64 a9)]) h) (kof h0 r)
theorem kbag {r : kbl} {o : kb8 ⊕ kbl} {a1 : Int} {a2 : Int} {a3 : Int} (e : kk9 a1 a2 a3 = some o) (good : GoodS (keu r) r o) : keu r (.fn a1 a2 a3) := by
 intro h
 rw [k4h]
 unfold kk9 at e
 refine Runs.cond (fun k4 => ?_) (fun k4 => ?_)
 ·replace e := (condT k4).symm.trans e
  cases e
 ·replace e := (condF k4).symm.trans e
  cases e
  exact good (Grow.refl _)
theorem k3f {r : kbl} {o : kb8 ⊕ kbl} {a1 : Int} {a2 : Int} {a3 : Int} (e : kgw a1 a2 a3 = some o) (good : GoodS (keu r) r o) : keu r (.p3 a1 a2 a3) := by
 intro h0 h g0
 rw [k0s]
 unfold kgw at e
 refine Runs.cond (fun k4 => ?_) (fun k4 => ?_)
 ·replace e := (condT k4).symm.trans e
  cases e
 ·replace e := (condF k4).symm.trans e
  refine Runs.cond (fun k5 => ?_) (fun k5 => ?_)
  ·replace e := (condT k5).symm.trans e
   refine Runs.cond (fun k6 => ?_) (fun k6 => ?_)
   ·replace e := (condT k6).symm.trans e
    cases e
   ·replace e := (condF k6).symm.trans e
    refine Runs.cond (fun k7 => ?_) (fun k7 => ?_)
    ·replace e := (condT k7).symm.trans e
     cases e
    ·replace e := (condF k7).symm.trans e
     cases e
     cases good
     exact Runs.ret ⟨rfl, g0⟩
  ·replace e := (condF k5).symm.trans e
   obtain ⟨c6_0, q6_0, e⟩ := Option.bind_eq_some_iff.1 e
   refine Runs.step (kwa a3  c6_0.down) ?_
   refine Runs.step (seen (kb _ _)) ?_
   refine Runs.cond (fun k7 => ?_) (fun k7 => ?_)
   ·replace e := (condT k7).symm.trans e
    cases e
   ·replace e := (condF k7).symm.trans e
    refine Runs.cond (fun k8 => ?_) (fun k8 => ?_)
    ·replace e := (condT k8).symm.trans e
     cases e
    ·replace e := (condF k8).symm.trans e
     refine Runs.cond (fun k9 => ?_) (fun k9 => ?_)
     ·replace e := (condT k9).symm.trans e
      cases e
     ·replace e := (condF k9).symm.trans e
      refine Runs.cond (fun k10 => ?_) (fun k10 => ?_)
      ·replace e := (condT k10).symm.trans e
       cases e
      ·replace e := (condF k10).symm.trans e
       refine Runs.cond (fun k11 => ?_) (fun k11 => ?_)
       ·replace e := (condT k11).symm.trans e
        cases e
       ·replace e := (condF k11).symm.trans e
        cases e
        exact good g0
theorem k4s {r : kbl} {o : kb8 ⊕ kbl} {a1 : Int} {a2 : Int} {a3 : Int} {a4 : Int} {a5 : Int} {a6 : Int} {a7 : Int} {a8 : Int} {a9 : Int} (e : ke4 a1 a2 a3 a4 a5 a6 a7 a8 a9 = some o) (good : GoodS (keu r) r o) : keu r (.p17 a1 a2 a3 a4 a5 a6 a7 a8 a9) := by
 intro h0 h g0
 rw [k65]
 unfold ke4 at e
 refine Runs.cond (fun k10 => ?_) (fun k10 => ?_)
 ·replace e := (condT k10).symm.trans e
  refine Runs.cond (fun k11 => ?_) (fun k11 => ?_)
  ·replace e := (condT k11).symm.trans e
   refine Runs.cond (fun k12 => ?_) (fun k12 => ?_)
   ·replace e := (condT k12).symm.trans e
    cases e
   ·replace e := (condF k12).symm.trans e
    cases e
    exact good g0
  ·replace e := (condF k11).symm.trans e
   cases e
   exact good g0
 ·replace e := (condF k10).symm.trans e
  refine Runs.cond (fun k11 => ?_) (fun k11 => ?_)
  ·replace e := (condT k11).symm.trans e
   refine Runs.cond (fun k12 => ?_) (fun k12 => ?_)
   ·replace e := (condT k12).symm.trans e
    refine Runs.cond (fun k13 => ?_) (fun k13 => ?_)
    ·replace e := (condT k13).symm.trans e
     cases e
    ·replace e := (condF k13).symm.trans e
     cases e
     exact good g0
   ·replace e := (condF k12).symm.trans e
    cases e
    exact good g0
  ·replace e := (condF k11).symm.trans e
   refine Runs.cond (fun k12 => ?_) (fun k12 => ?_)
   ·replace e := (condT k12).symm.trans e
    cases e
   ·replace e := (condF k12).symm.trans e
    cases e
    exact good g0
theorem kbcb {r : kbl} {o : kb8 ⊕ kbl} {a1 : Int} {a2 : Int} {a3 : Int} {a4 : Int} {a5 : Int} {a6 : Int} {a7 : Int} {a8 : Int} {a9 : Int} (e : ke1 a1 a2 a3 a4 a5 a6 a7 a8 a9 = some o) (good : GoodS (keu r) r o) : keu r (.p24 a1 a2 a3 a4 a5 a6 a7 a8 a9) := by
 intro h0 h g0
 rw [kbe7]
 unfold ke1 at e
 refine Runs.cond (fun k10 => ?_) (fun k10 => ?_)
 ·replace e := (condT k10).symm.trans e
  refine Runs.cond (fun k11 => ?_) (fun k11 => ?_)
  ·replace e := (condT k11).symm.trans e
   refine Runs.cond (fun k12 => ?_) (fun k12 => ?_)
   ·replace e := (condT k12).symm.trans e
    cases e
   ·replace e := (condF k12).symm.trans e
    cases e
    cases good
    exact Runs.ret ⟨rfl, g0⟩
  ·replace e := (condF k11).symm.trans e
   cases e
   exact good g0
 ·replace e := (condF k10).symm.trans e
  refine Runs.cond (fun k11 => ?_) (fun k11 => ?_)
  ·replace e := (condT k11).symm.trans e
   refine Runs.cond (fun k12 => ?_) (fun k12 => ?_)
   ·replace e := (condT k12).symm.trans e
    refine Runs.cond (fun k13 => ?_) (fun k13 => ?_)
    ·replace e := (condT k13).symm.trans e
     cases e
    ·replace e := (condF k13).symm.trans e
     cases e
     cases good
     exact Runs.ret ⟨rfl, g0⟩
   ·replace e := (condF k12).symm.trans e
    cases e
    exact good g0
  ·replace e := (condF k11).symm.trans e
   refine Runs.cond (fun k12 => ?_) (fun k12 => ?_)
   ·replace e := (condT k12).symm.trans e
    cases e
   ·replace e := (condF k12).symm.trans e
    cases e
    cases good
    exact Runs.ret ⟨rfl, g0⟩
theorem kbc1 {s : kb8} {r : kbl} (it : Iter keh s r) : keu r s := Iter.ind (fun s o e good => by
 cases s with
 | fn a1 a2 a3 => exact @kbag _ _ a1 a2 a3 e good
 | p3 a1 a2 a3 => exact @k3f _ _ a1 a2 a3 e good
 | p17 a1 a2 a3 a4 a5 a6 a7 a8 a9 => exact @k4s _ _ a1 a2 a3 a4 a5 a6 a7 a8 a9 e good
 | p24 a1 a2 a3 a4 a5 a6 a7 a8 a9 => exact @kbcb _ _ a1 a2 a3 a4 a5 a6 a7 a8 a9 e good
 ) it
end Go.Ab

/- squeezed -/
set_option linter.unusedVariables false
set_option linter.unusedSimpArgs false
set_option maxRecDepth 10000
namespace Go.Ab
open Go.Proofs Go.Num
theorem kr6 (a c : Nat) : Int.tdiv (a : Int) (c : Int) = ((a / c : Nat) : Int) := rfl
theorem k8d (a c : Nat) : Int.tmod (a : Int) (c : Int) = ((a % c : Nat) : Int) := rfl
def st24 (a1 a2 a3 a4 a5 a6 a7 q : Int) : kb8 :=
 .p24 a1 a2 a3 a4 a7 q (IntKind.wrap .u64 ((IntKind.wrap .u64 ((IntKind.wrap .u64 ((IntKind.wrap .u64 (a5 * 4294967296)) + a6)) - (IntKind.wrap .u64 (q * a1)))) - (IntKind.wrap .u64 ((IntKind.wrap .u64 (Int.tdiv (IntKind.wrap .u64 ((IntKind.wrap .u64 ((IntKind.wrap .u64 (a5 * 4294967296)) + a6)) - (IntKind.wrap .u64 (q * a1)))) a3)) * a3)))) (IntKind.wrap .u64 ((IntKind.wrap .u64 ((IntKind.wrap .u64 (a5 * 4294967296)) + a6)) - (IntKind.wrap .u64 (q * a1)))) (IntKind.wrap .u64 (Int.tdiv (IntKind.wrap .u64 ((IntKind.wrap .u64 ((IntKind.wrap .u64 (a5 * 4294967296)) + a6)) - (IntKind.wrap .u64 (q * a1)))) a3))
theorem un_eq {u32 u1 q v : Nat} (hq : q = (u32 * 4294967296 + u1) / v) (hv0 : 0 < v) (hv : v < 18446744073709551616) : IntKind.wrap .u64 ((IntKind.wrap .u64 ((IntKind.wrap .u64 ((u32 : Int) * 4294967296)) + (u1 : Int))) - (IntKind.wrap .u64 ((q : Int) * (v : Int)))) = (((u32 * 4294967296 + u1) % v : Nat) : Int) := by
 have h1 := Nat.div_add_mod (u32 * 4294967296 + u1) v
 have h2 := Nat.mod_lt (u32 * 4294967296 + u1) hv0
 rw [← hq, Nat.mul_comm] at h1
 rw [wrapU, wrapU, wrapU, wrapU, ← Int.natCast_mul]
 generalize q * v = t at *
 generalize (u32 * 4294967296 + u1) % v = m at *
 omega
theorem kbe1 {s v v1 v0 u32 u1 u0 q : Nat} (hq : q = (u32 * 4294967296 + u1) / v) (hv0 : 0 < v) (hv : v < 18446744073709551616) (h1 : 0 < v1) :
  st24 v s v1 v0 u32 u1 u0 q = .p24 v s v1 v0 u0 q (((u32 * 4294967296 + u1) % v % v1 : Nat) : Int) (((u32 * 4294967296 + u1) % v : Nat) : Int) (((u32 * 4294967296 + u1) % v / v1 : Nat) : Int) := by
 unfold st24
 rw [un_eq hq hv0 hv, kr6]
 have h2 := Nat.mod_lt (u32 * 4294967296 + u1) hv0
 generalize (u32 * 4294967296 + u1) % v = m at *
 have h3 := Nat.div_le_self m v1
 rw [kb7 (n := m / v1) (by omega), ← Int.natCast_mul]
 have h4 := Nat.div_add_mod m v1
 rw [Nat.mul_comm] at h4
 have h5 := Nat.mod_lt m h1
 rw [wrapU, wrapU]
 have e : ((m : Int) - ((m / v1 * v1 : Nat) : Int) % 18446744073709551616) % 18446744073709551616 = ((m % v1 : Nat) : Int) := by
  generalize m / v1 * v1 = t at *
  generalize m % v1 = z at *
  omega
 rw [e]
theorem div17 {s v v1 v0 u32 u1 u0 : Nat} {res : kbl} (hv : v = v1 * 4294967296 + v0) (h1 : 0 < v1) (h1' : v1 < 4294967296) (h0 : v0 < 4294967296) (hu : u32 < v) (hu1 : u1 < 4294967296)
  (K : Iter keh (st24 v s v1 v0 u32 u1 u0 (((u32 * 4294967296 + u1) / v : Nat) : Int)) res) :
  ∀ (q r : Nat), q * v1 + r = u32 → (u32 * 4294967296 + u1) / v ≤ q → r < 4294967296 → q < 8589934592 → Iter keh (.p17 v s v1 v0 u32 u1 u0 q r) res
 | q, r, e, hge, hr, hq => by
  have hv' : v < 18446744073709551616 := by omega
  have less : (4294967296 ≤ q ∨ 4294967296 * r + u1 < q * v0) → ∃ o, Iter keh o res ∧
    cond (decide ((IntKind.wrap .u64 ((r : Int) + (v1 : Int))) ≥ 4294967296)) (cond (decide ((v1 : Int) = 0)) none (some (Sum.inl (β := kbl) (st24 v s v1 v0 u32 u1 u0 (IntKind.wrap .u64 ((q : Int) - 1)))))) (some (.inl (.p17 v s v1 v0 u32 u1 u0 (IntKind.wrap .u64 ((q : Int) - 1)) (IntKind.wrap .u64 ((r : Int) + (v1 : Int)))))) = some (.inl o) := by
   intro t
   obtain ⟨k1, k2⟩ := kn_hi hv hu hu1 rfl e hge t
   obtain ⟨p, rfl⟩ : ∃ p, q = p + 1 := ⟨q - 1, by omega⟩
   rw [Nat.add_sub_cancel] at k1
   have e' : p * v1 + (r + v1) = u32 := by
    rw [Nat.add_mul, Nat.one_mul] at e
    omega
   have w1 : IntKind.wrap .u64 (((p + 1 : Nat) : Int) - 1) = (p : Int) := by rw [wrapU]; omega
   have w2 : IntKind.wrap .u64 ((r : Int) + (v1 : Int)) = ((r + v1 : Nat) : Int) := by rw [wrapU]; omega
   rw [w1, w2]
   by_cases ho : 4294967296 ≤ r + v1
   ·have := kn_lo hv hu rfl e' k1 (kn_out hv h0 hu e' ho)
    rw [this] at K
    refine ⟨_, K, ?_⟩
    rw [condT (by rw [decide_eq_true_eq]; omega), condF (by rw [decide_eq_false_iff_not]; omega)]
   ·refine ⟨_, div17 hv h1 h1' h0 hu hu1 K p (r + v1) e' k1 (by omega) (by omega), ?_⟩
    rw [condF (by rw [decide_eq_false_iff_not]; omega)]
  by_cases c1 : 4294967296 ≤ q
  ·obtain ⟨o, k1, k2⟩ := less (.inl c1)
   refine .next ?_ k1
   show ke4 _ _ _ _ _ _ _ _ _ = _
   unfold ke4
   rw [condT (by rw [decide_eq_true_eq]; omega)]
   exact k2
  ·have m1 : q * v0 ≤ 4294967295 * 4294967295 := Nat.mul_le_mul (by omega) (by omega)
   have w3 : IntKind.wrap .u64 ((q : Int) * (v0 : Int)) = ((q * v0 : Nat) : Int) := by
    rw [← Int.natCast_mul]
    exact kb7 (by omega)
   have w4 : IntKind.wrap .u64 ((IntKind.wrap .u64 (4294967296 * (r : Int))) + (u1 : Int)) = ((4294967296 * r + u1 : Nat) : Int) := by
    rw [wrapU, wrapU]
    omega
   by_cases c2 : 4294967296 * r + u1 < q * v0
   ·obtain ⟨o, k1, k2⟩ := less (.inr c2)
    refine .next ?_ k1
    show ke4 _ _ _ _ _ _ _ _ _ = _
    unfold ke4
    rw [condF (by rw [decide_eq_false_iff_not]; omega), w3, w4, condT (by rw [decide_eq_true_eq]; omega)]
    exact k2
   ·have := kn_lo hv hu rfl e hge (by omega)
    rw [this] at K
    refine .next ?_ K
    show ke4 _ _ _ _ _ _ _ _ _ = _
    unfold ke4
    rw [condF (by rw [decide_eq_false_iff_not]; omega), w3, w4, condF (by rw [decide_eq_false_iff_not]; omega), condF (by rw [decide_eq_false_iff_not]; omega)]
    rfl
termination_by q => q
def fin24 (a1 a2 a5 a6 a8 q : Int) : Option (kb8 ⊕ kbl) :=
 cond (decide (a2 < 0)) none (some (.inr (IntKind.wrap .u64 ((IntKind.wrap .u64 (a6 * 4294967296)) + q), ishr .u64 (IntKind.wrap .u64 ((IntKind.wrap .u64 ((IntKind.wrap .u64 (a8 * 4294967296)) + a5)) - (IntKind.wrap .u64 (q * a1)))) a2)))
theorem div24 {s v v1 v0 u32 u1 q1 : Nat} {res : kbl} (hv : v = v1 * 4294967296 + v0) (h1 : 0 < v1) (h1' : v1 < 4294967296) (h0 : v0 < 4294967296) (hu : u32 < v) (hu1 : u1 < 4294967296)
  (K : fin24 v s u1 q1 u32 (((u32 * 4294967296 + u1) / v : Nat) : Int) = some (.inr res)) :
  ∀ (q r : Nat), q * v1 + r = u32 → (u32 * 4294967296 + u1) / v ≤ q → r < 4294967296 → q < 8589934592 → Iter keh (.p24 v s v1 v0 u1 q1 r u32 q) res
 | q, r, e, hge, hr, hq => by
  have hv' : v < 18446744073709551616 := by omega
  have less : (4294967296 ≤ q ∨ 4294967296 * r + u1 < q * v0) → ∃ o, (o = Sum.inr res ∨ ∃ st, o = .inl st ∧ Iter keh st res) ∧
    cond (decide ((IntKind.wrap .u64 ((r : Int) + (v1 : Int))) ≥ 4294967296)) (fin24 v s u1 q1 u32 (IntKind.wrap .u64 ((q : Int) - 1))) (some (.inl (.p24 v s v1 v0 u1 q1 (IntKind.wrap .u64 ((r : Int) + (v1 : Int))) u32 (IntKind.wrap .u64 ((q : Int) - 1))))) = some o := by
   intro t
   obtain ⟨k1, k2⟩ := kn_hi hv hu hu1 rfl e hge t
   obtain ⟨p, rfl⟩ : ∃ p, q = p + 1 := ⟨q - 1, by omega⟩
   rw [Nat.add_sub_cancel] at k1
   have e' : p * v1 + (r + v1) = u32 := by
    rw [Nat.add_mul, Nat.one_mul] at e
    omega
   have w1 : IntKind.wrap .u64 (((p + 1 : Nat) : Int) - 1) = (p : Int) := by rw [wrapU]; omega
   have w2 : IntKind.wrap .u64 ((r : Int) + (v1 : Int)) = ((r + v1 : Nat) : Int) := by rw [wrapU]; omega
   rw [w1, w2]
   by_cases ho : 4294967296 ≤ r + v1
   ·have := kn_lo hv hu rfl e' k1 (kn_out hv h0 hu e' ho)
    rw [this] at K
    refine ⟨.inr res, .inl rfl, ?_⟩
    rw [condT (by rw [decide_eq_true_eq]; omega)]
    exact K
   ·refine ⟨_, .inr ⟨_, rfl, div24 hv h1 h1' h0 hu hu1 K p (r + v1) e' k1 (by omega) (by omega)⟩, ?_⟩
    rw [condF (by rw [decide_eq_false_iff_not]; omega)]
  have go_on : ∀ {st : kb8} {o : kb8 ⊕ kbl}, (o = Sum.inr res ∨ ∃ st, o = .inl st ∧ Iter keh st res) → keh st = some o → Iter keh st res := by
   intro st o h e
   rcases h with rfl | ⟨st', rfl, it⟩
   ·exact .done e
   ·exact .next e it
  by_cases c1 : 4294967296 ≤ q
  ·obtain ⟨o, k1, k2⟩ := less (.inl c1)
   refine go_on k1 ?_
   show ke1 _ _ _ _ _ _ _ _ _ = _
   unfold ke1
   rw [condT (by rw [decide_eq_true_eq]; omega)]
   exact k2
  ·have m1 : q * v0 ≤ 4294967295 * 4294967295 := Nat.mul_le_mul (by omega) (by omega)
   have w3 : IntKind.wrap .u64 ((q : Int) * (v0 : Int)) = ((q * v0 : Nat) : Int) := by
    rw [← Int.natCast_mul]
    exact kb7 (by omega)
   have w4 : IntKind.wrap .u64 ((IntKind.wrap .u64 (4294967296 * (r : Int))) + (u1 : Int)) = ((4294967296 * r + u1 : Nat) : Int) := by
    rw [wrapU, wrapU]
    omega
   by_cases c2 : 4294967296 * r + u1 < q * v0
   ·obtain ⟨o, k1, k2⟩ := less (.inr c2)
    refine go_on k1 ?_
    show ke1 _ _ _ _ _ _ _ _ _ = _
    unfold ke1
    rw [condF (by rw [decide_eq_false_iff_not]; omega), w3, w4, condT (by rw [decide_eq_true_eq]; omega)]
    exact k2
   ·have := kn_lo hv hu rfl e hge (by omega)
    rw [this] at K
    refine .done ?_
    show ke1 _ _ _ _ _ _ _ _ _ = _
    unfold ke1
    rw [condF (by rw [decide_eq_false_iff_not]; omega), w3, w4, condF (by rw [decide_eq_false_iff_not]; omega)]
    exact K
termination_by q => q
end Go.Ab

/- squeezed -/
set_option linter.unusedVariables false
set_option linter.unusedSimpArgs false
set_option maxRecDepth 10000
namespace Go.Ab
open Go.Proofs Go.Num
theorem kban {hi lo y s : Nat} (hy : y * 2 ^ s < 18446744073709551616) (hlo : lo < 18446744073709551616) (hhi : hi < y) (hs : s ≤ 63) :
  hi * 2 ^ s + lo / 2 ^ (64 - s) < y * 2 ^ s ∧ (hi * 2 ^ s + lo / 2 ^ (64 - s)) * 18446744073709551616 + lo * 2 ^ s % 18446744073709551616 = (hi * 18446744073709551616 + lo) * 2 ^ s ∧ lo / 2 ^ (64 - s) < 2 ^ s ∧ hi * 2 ^ s < 18446744073709551616 := by
 have p : 0 < 2 ^ s := Nat.pow_pos (by decide)
 have e : 2 ^ (64 - s) * 2 ^ s = 18446744073709551616 := by rw [← Nat.pow_add, show 64 - s + s = 64 from by omega]
 have k1 : lo / 2 ^ (64 - s) < 2 ^ s := by
  rw [Nat.div_lt_iff_lt_mul (Nat.pow_pos (by decide)), Nat.mul_comm, e]
  exact hlo
 have k2 : (hi + 1) * 2 ^ s ≤ y * 2 ^ s := Nat.mul_le_mul_right _ hhi
 rw [Nat.add_mul, Nat.one_mul] at k2
 refine ⟨by omega, ?_, k1, by omega⟩
 have k3 : lo * 2 ^ s / 18446744073709551616 = lo / 2 ^ (64 - s) := by
  rw [← e, Nat.mul_div_mul_right _ _ p]
 have k4 := Nat.div_add_mod (lo * 2 ^ s) 18446744073709551616
 rw [k3] at k4
 have k5 : hi * 18446744073709551616 * 2 ^ s = hi * 2 ^ s * 18446744073709551616 := Nat.mul_right_comm _ _ _
 rw [Nat.add_mul, Nat.add_mul, k5]
 omega
theorem k6i {z1 z2 : Nat} (h : z1 * 4294967296 + z2 < 18446744073709551616) : IntKind.wrap .u64 ((IntKind.wrap .u64 ((z1 : Int) * 4294967296)) + (z2 : Int)) = ((z1 * 4294967296 + z2 : Nat) : Int) := by
 rw [wrapU, wrapU]
 omega
theorem kbaj {hi lo y : Nat} (hy : y < 18446744073709551616) (hlo : lo < 18446744073709551616) (hhi : hi < y) :
  Iter keh (.fn hi lo y) ((((hi * 18446744073709551616 + lo) / y : Nat) : Int), (((hi * 18446744073709551616 + lo) % y : Nat) : Int)) := by
 refine .next (s' := .p3 hi lo y) ?_ ?_
 ·show kk9 _ _ _ = _
  unfold kk9
  rw [condF (by rw [decide_eq_false_iff_not]; omega)]
 by_cases h0 : hi = 0
 ·subst h0
  refine .done ?_
  show kgw _ _ _ = _
  unfold kgw
  have hd := Nat.div_le_self lo y
  rw [condF (by rw [decide_eq_false_iff_not]; omega), condT (by rfl), condF (by rw [decide_eq_false_iff_not]; omega), condF (by rw [decide_eq_false_iff_not]; omega), kr6, k8d, kb7 (by omega), Nat.zero_mul, Nat.zero_add]
 obtain ⟨hs, hb1, hb2⟩ := kuo hy (by omega)
 have hs64 : 64 - bl y ≤ 64 := by omega
 obtain ⟨p1, p2, p3, p4⟩ := kban hb2 hlo hhi hs
 have ws : IntKind.wrap .u64 ((64 - bl (Int.toNat (y : Int)) : Nat) : Int) = ((64 - bl y : Nat) : Int) := by rw [Int.toNat_natCast]; exact kb7 (by omega)
 have wt : IntKind.wrap .u64 (64 - ((64 - bl y : Nat) : Int)) = ((64 - (64 - bl y) : Nat) : Int) := by rw [wrapU]; omega
 generalize hsd : 64 - bl y = s at *
 have ey : ishl .u64 (y : Int) (s : Int) = ((y * 2 ^ s : Nat) : Int) := by rw [kjw _ _ hs64, Nat.mod_eq_of_lt hb2]
 have eh : ishl .u64 (hi : Int) (s : Int) = ((hi * 2 ^ s : Nat) : Int) := by rw [kjw _ _ hs64, Nat.mod_eq_of_lt p4]
 have el : ishl .u64 (lo : Int) (s : Int) = ((lo * 2 ^ s % 18446744073709551616 : Nat) : Int) := kjw _ _ hs64
 have er : ishr .u64 (lo : Int) ((64 - s : Nat) : Int) = ((lo / 2 ^ (64 - s) : Nat) : Int) := by rw [kbx, Nat.min_eq_left (by omega)]
 have eo := kqg p4 p3 hs64
 generalize hu32 : hi * 2 ^ s + lo / 2 ^ (64 - s) = u32 at *
 have hl10 := Nat.mod_lt (lo * 2 ^ s) (show 0 < 18446744073709551616 by omega)
 generalize hl : lo * 2 ^ s % 18446744073709551616 = l10 at *
 generalize hv : y * 2 ^ s = v at *
 have e32 : ∀ x : Nat, ishr .u64 (x : Int) 32 = ((x / 4294967296 : Nat) : Int) := fun x => kbx x 32
 have tot : u32 * 18446744073709551616 + l10 = (u32 * 4294967296 + l10 / 4294967296) * 4294967296 + l10 % 4294967296 := by omega
 have hvv : v = v / 4294967296 * 4294967296 + v % 4294967296 := by omega
 have hv0 : 0 < v := by omega
 have hv1 : 0 < v / 4294967296 := by omega
 have hv1' : v / 4294967296 < 4294967296 := by omega
 have hm0 : v % 4294967296 < 4294967296 := by omega
 have hu1 : l10 / 4294967296 < 4294967296 := by omega
 have hu0 : l10 % 4294967296 < 4294967296 := by omega
 have first : u32 / (v / 4294967296) < 8589934592 := by
  rw [Nat.div_lt_iff_lt_mul hv1]
  omega
 have hm := Nat.mod_lt (u32 * 4294967296 + l10 / 4294967296) hv0
 have first2 : (u32 * 4294967296 + l10 / 4294967296) % v / (v / 4294967296) < 8589934592 := by
  rw [Nat.div_lt_iff_lt_mul hv1]
  omega
 have td := k40 (w := u32 * 4294967296 + l10 / 4294967296) hv0 hu0
 rw [← tot, p2] at td
 have p := Nat.pow_pos (a := 2) (n := s) (by decide)
 rw [← hv, Nat.mul_div_mul_right _ _ p, Nat.mul_mod_mul_right, hv] at td
 refine .next (s' := .p17 v s (v / 4294967296 : Nat) (v % 4294967296 : Nat) u32 (l10 / 4294967296 : Nat) (l10 % 4294967296 : Nat) (u32 / (v / 4294967296) : Nat) (u32 % (v / 4294967296) : Nat)) ?_ ?_
 ·show kgw _ _ _ = _
  unfold kgw
  rw [condF (by rw [decide_eq_false_iff_not]; omega), condF (by rw [decide_eq_false_iff_not]; omega), ki (by omega), Option.bind_some, ws, wt, ey, eh, el, er, eo, e32, e32, kju (show v < _ by omega), kju (show l10 < _ by omega),
   condF (by rw [decide_eq_false_iff_not]; omega), condF (by rw [decide_eq_false_iff_not]; omega), condF (by rw [decide_eq_false_iff_not]; omega), condF (by rw [decide_eq_false_iff_not]; omega), condF (by rw [decide_eq_false_iff_not]; omega), kr6]
  have d1 := Nat.div_add_mod u32 (v / 4294967296)
  have d2 := Nat.div_le_self u32 (v / 4294967296)
  rw [Nat.mul_comm] at d1
  rw [kb7 (n := u32 / (v / 4294967296)) (by omega), ← Int.natCast_mul]
  generalize u32 / (v / 4294967296) * (v / 4294967296) = z at *
  generalize u32 % (v / 4294967296) = z2 at *
  rw [kb7 (n := z) (by omega), show (u32 : Int) - (z : Int) = (z2 : Int) from by omega, kb7 (by omega)]
 ·refine div17 hvv hv1 hv1' hm0 p1 hu1 ?_ _ _ (by rw [Nat.mul_comm]; exact Nat.div_add_mod _ _) (kv4 hv1 hvv p1 hu1 rfl (by omega)) (Nat.lt_trans (Nat.mod_lt _ hv1) hv1') first
  rw [kbe1 rfl hv0 (by omega) hv1]
  refine div24 hvv hv1 hv1' hm0 hm hu0 ?_ _ _ (by rw [Nat.mul_comm]; exact Nat.div_add_mod _ _) (kv4 hv1 hvv hm hu0 rfl (by omega)) (Nat.lt_trans (Nat.mod_lt _ hv1) hv1') first2
  unfold fin24
  rw [condF (by rw [decide_eq_false_iff_not]; omega), un_eq rfl hv0 (by omega), ← td.2, kbx, Nat.min_eq_left hs64, Nat.mul_div_cancel _ p]
  have hq : (hi * 18446744073709551616 + lo) / y < 18446744073709551616 := by
   rw [Nat.div_lt_iff_lt_mul (by omega)]
   have : (hi + 1) * 18446744073709551616 ≤ y * 18446744073709551616 := Nat.mul_le_mul_right _ hhi
   omega
  have w : IntKind.wrap .u64 ((IntKind.wrap .u64 ((((u32 * 4294967296 + l10 / 4294967296) / v : Nat) : Int) * 4294967296)) + ((((u32 * 4294967296 + l10 / 4294967296) % v * 4294967296 + l10 % 4294967296) / v : Nat) : Int)) = (((hi * 18446744073709551616 + lo) / y : Nat) : Int) := by
   rw [td.1] at hq ⊢
   exact k6i hq
  rw [w]
theorem kbby {hi lo y : Nat} (hy : y < 18446744073709551616) (hlo : lo < 18446744073709551616) (hhi : hi < y) {h : AH} : ∃ h', go (.fn F.kbn [.int .u64 (hi : Int), .int .u64 (lo : Int), .int .u64 (y : Int)]) h = some (.tup [.int .u64 (((hi * 18446744073709551616 + lo) / y : Nat) : Int), .int .u64 (((hi * 18446744073709551616 + lo) % y : Nat) : Int)], h') ∧ Grow h h' := by
 obtain ⟨_, h', e, rfl, g⟩ := kbc1 (kbaj hy hlo hhi) (h := h)
 exact ⟨h', e, g⟩
end Go.Ab

/- squeezed -/
set_option linter.unusedVariables false
set_option linter.unusedSimpArgs false
set_option maxRecDepth 10000
namespace Go.Ab
open Go.Proofs Go.Num
def div64P (h l d : Int) : Option (Int × Int) := if 0 ≤ l ∧ l < 18446744073709551616 ∧ 0 ≤ h ∧ h < d ∧ d < 18446744073709551616 then some ((h * 18446744073709551616 + l) / d, (h * 18446744073709551616 + l) % d) else none
theorem kwq {hi lo y : Nat} (hy : y < 18446744073709551616) (hlo : lo < 18446744073709551616) (hhi : hi < y) : div64P (hi : Int) (lo : Int) (y : Int) = some ((((hi * 18446744073709551616 + lo) / y : Nat) : Int), (((hi * 18446744073709551616 + lo) % y : Nat) : Int)) := by
 unfold div64P
 rw [if_pos (by omega)]
 rfl
theorem kyw {a b c : Int} {p : Int × Int} {h : AH} (q : div64P a b c = some p) : ∃ h', go (.fn F.kbn [.int .u64 a, .int .u64 b, .int .u64 c]) h = some (.tup [.int .u64 p.1, .int .u64 p.2], h') ∧ Grow h h' := by
 unfold div64P at q
 split at q
 ·rename_i hc
  cases q
  obtain ⟨hi, rfl⟩ : ∃ x : Nat, a = (x : Int) := ⟨a.toNat, by omega⟩
  obtain ⟨lo, rfl⟩ : ∃ x : Nat, b = (x : Int) := ⟨b.toNat, by omega⟩
  obtain ⟨y, rfl⟩ : ∃ x : Nat, c = (x : Int) := ⟨c.toNat, by omega⟩
  exact kbby (by omega) (by omega) (by omega)
 ·cases q
end Go.Ab

/- squeezed -/
set_option linter.unusedVariables false
set_option linter.unusedSimpArgs false
set_option maxRecDepth 10000
namespace Go.Ab
open Go.Proofs Go.Num
inductive kf6
 | fn (x1 : List Nat) (a2 : Int)
 | p4 (x1 : List Nat) (a2 : Int) (x3 : List Nat) (a4 : Int) (a5 : Int)
abbrev kec := List Nat × Int
noncomputable def klr (x1 : List Nat) (a2 : Int) : Option (kf6 ⊕ kec) :=
 (mkI (List.length x1 : Int) (List.length x1 : Int)).bind fun m3 => some (.inl (.p4 x1 a2 (List.replicate m3 0) 0 (IntKind.wrap .i64 ((List.length x1 : Int) - 1))))
noncomputable def kg6 (x1 : List Nat) (a2 : Int) (x3 : List Nat) (a4 : Int) (a5 : Int) : Option (kf6 ⊕ kec) :=
 cond (decide (a5 ≥ 0)) ((atI x1 a5).bind fun y7 => (div64P a4 ((y7 : Int)) a2).bind fun p8 => (inI (List.length x3) a5).bind fun j9 => (u64P (p8.1)).bind fun w10 => some (.inl (.p4 x1 a2 (List.set x3 j9 w10) (p8.2) (IntKind.wrap .i64 (a5 - 1))))) (some (.inr (digs B (num B x3), a4)))
noncomputable def krt : kf6 → Option (kf6 ⊕ kec)
 | .fn x1 a2 => klr x1 a2
 | .p4 x1 a2 x3 a4 a5 => kg6 x1 a2 x3 a4 a5
@[reducible] def kwp (h0 : AH) (r : kec) (v : AV) (h' : AH) : Prop := ∃ s1 : Sl, v = .tup [s1.v, .int .u64 r.2] ∧ Nats h' s1 r.1 ∧ Grow h0 h' ∧ Own h0 s1
def klp (r : kec) : kf6 → Prop
 | .fn x1 a2 => ∀ {h : AH} {a1 : Sl}, Nats h a1 x1 → Runs (go (.fn F.ke8 [a1.v, .int .u64 a2]) h) (kwp h r)
 | .p4 x1 a2 x3 a4 a5 => ∀ {h0 h : AH} {a1 : Sl} {a3 : Sl} {i3 : Nat}, Grow h0 h → Nats h a1 x1 → Vec h a3 i3 x3 → h0.blks.size ≤ i3 → Av a1 i3 x1 → Runs (go (.pt F.ke8 Td.ko1 [(0, a1.v), (1, .int .u64 a2), (6, a3.v), (7, .int .u64 a4), (8, .int .i64 a5)]) h) (kwp h0 r)
theorem k8g {r : kec} {o : kf6 ⊕ kec} {x1 : List Nat} {a2 : Int} (e : klr x1 a2 = some o) (good : GoodS (klp r) r o) : klp r (.fn x1 a2) := by
 intro h a1 n1
 rw [k8l]
 unfold klr at e
 rw [n1.len]
 obtain ⟨m3, q3, e⟩ := Option.bind_eq_some_iff.1 e
 refine Runs.mk q3 kc2 fun s3 H3 v3 g3 => ?_
 cases e
 exact good g3 (n1.grow g3) v3 (Nat.le_refl _) (Av.of_base n1 (Nat.le_refl _))
theorem k6k {r : kec} {o : kf6 ⊕ kec} {x1 : List Nat} {a2 : Int} {x3 : List Nat} {a4 : Int} {a5 : Int} (e : kg6 x1 a2 x3 a4 a5 = some o) (good : GoodS (klp r) r o) : klp r (.p4 x1 a2 x3 a4 a5) := by
 intro h0 h a1 a3 i3 g0 n1 v3 hi3 av1_3
 rw [kbes]
 unfold kg6 at e
 rw [n1.len]
 rw [v3.nats.len]
 refine Runs.cond (fun k6 => ?_) (fun k6 => ?_)
 ·replace e := (condT k6).symm.trans e
  obtain ⟨y7, q7, e⟩ := Option.bind_eq_some_iff.1 e
  obtain ⟨r7, j7, l7⟩ := n1.atI q7
  refine Runs.step j7 ?_
  refine Runs.step (rdc l7 (kb _ _)) ?_
  obtain ⟨p8, q8, e⟩ := Option.bind_eq_some_iff.1 e
  obtain ⟨H8, e8, g8⟩ := kyw q8
  refine Runs.step e8 ?_
  refine Runs.step rfl ?_
  refine Runs.step (seen (kb _ _)) ?_
  refine Runs.step (seen (kb _ _)) ?_
  obtain ⟨j9, q9, e⟩ := Option.bind_eq_some_iff.1 e
  refine Runs.step ((v3.grow g8).idx rfl q9) ?_
  obtain ⟨w10, z10, e⟩ := Option.bind_eq_some_iff.1 e
  refine Runs.vput (v3.grow g8) rfl q9 z10 fun H10 v10 u10 => ?_
  have n1_10 := (n1.grow g8).upda av1_3 u10
  cases e
  exact good ((g0.trans g8).updr hi3 u10) n1_10 v10 hi3 av1_3
 ·replace e := (condF k6).symm.trans e
  obtain ⟨s7, e7, n7, o7⟩ := kc8 v3.nats
  refine Runs.step e7 ?_
  refine Runs.step (seen (asSl_v _)) ?_
  cases e
  cases good
  exact Runs.ret ⟨s7, rfl, n7, g0, ((o7 _ (v3.own hi3)).of_le (Grow.refl _))⟩
theorem k2b {s : kf6} {r : kec} (it : Iter krt s r) : klp r s := Iter.ind (fun s o e good => by
 cases s with
 | fn x1 a2 => exact @k8g _ _ x1 a2 e good
 | p4 x1 a2 x3 a4 a5 => exact @k6k _ _ x1 a2 x3 a4 a5 e good
 ) it
inductive kfo
 | fn (x1 : List Nat) (a2 : Int)
 | p3 (a1 : Int) (x2 : List Nat) (x3 : List Nat) (a4 : Int) (a5 : Int)
abbrev kdl := List Nat
noncomputable def kkr (x1 : List Nat) (a2 : Int) : Option (kfo ⊕ kdl) :=
 (mkI (IntKind.wrap .i64 ((List.length x1 : Int) + 1)) (IntKind.wrap .i64 ((List.length x1 : Int) + 1))).bind fun m3 => some (.inl (.p3 a2 (List.replicate m3 0) x1 (List.length x1 : Int) 0))
noncomputable def kfa (a1 : Int) (x2 : List Nat) (x3 : List Nat) (a4 : Int) (a5 : Int) : Option (kfo ⊕ kdl) :=
 cond (decide (a5 < a4)) ((atI x3 a5).bind fun y7 => (inI (List.length x2) a5).bind fun j8 => cond (decide (a1 < 0)) (none) ((inI (List.length x2) a5).bind fun j10 => (u64P (ior .u64 (((List.getD x2 j8 0 : Nat) : Int)) (ishl .u64 ((y7 : Int)) a1))).bind fun w11 => cond (decide (a1 > 0)) (cond (decide ((IntKind.wrap .u64 (64 - a1)) < 0)) (none) ((inI (List.length x2) (IntKind.wrap .i64 (a5 + 1))).bind fun j14 => (u64P (ishr .u64 ((y7 : Int)) (IntKind.wrap .u64 (64 - a1)))).bind fun w15 => some (.inl (.p3 a1 (List.set (List.set x2 j10 w11) j14 w15) x3 a4 (IntKind.wrap .i64 (a5 + 1)))))) (some (.inl (.p3 a1 (List.set x2 j10 w11) x3 a4 (IntKind.wrap .i64 (a5 + 1))))))) (some (.inr x2))
noncomputable def ki8 : kfo → Option (kfo ⊕ kdl)
 | .fn x1 a2 => kkr x1 a2
 | .p3 a1 x2 x3 a4 a5 => kfa a1 x2 x3 a4 a5
@[reducible] def ks2 (h0 : AH) (r : kdl) (v : AV) (h' : AH) : Prop := ∃ s1 : Sl, ∃ j1 : Nat, v = s1.v ∧ Vec h' s1 j1 r ∧ Grow h0 h' ∧ h0.blks.size ≤ j1
def kk0 (r : kdl) : kfo → Prop
 | .fn x1 a2 => ∀ {h : AH} {a1 : Sl}, Nats h a1 x1 → Runs (go (.fn F.kee [a1.v, .int .u64 a2]) h) (ks2 h r)
 | .p3 a1 x2 x3 a4 a5 => ∀ {h0 h : AH} {a2 : Sl} {a3 : Sl} {i2 : Nat}, Grow h0 h → Vec h a2 i2 x2 → Nats h a3 x3 → h0.blks.size ≤ i2 → Av a3 i2 x3 → Runs (go (.pt F.kee Td.kla [(1, .int .u64 a1), (5, a2.v), (12, a3.v), (13, .int .i64 a4), (14, .int .i64 a5)]) h) (ks2 h0 r)
theorem k1y {r : kdl} {o : kfo ⊕ kdl} {x1 : List Nat} {a2 : Int} (e : kkr x1 a2 = some o) (good : GoodS (kk0 r) r o) : kk0 r (.fn x1 a2) := by
 intro h a1 n1
 rw [k4t]
 unfold kkr at e
 rw [n1.len]
 obtain ⟨m3, q3, e⟩ := Option.bind_eq_some_iff.1 e
 refine Runs.mk q3 kc2 fun s3 H3 v3 g3 => ?_
 cases e
 exact good g3 v3 (n1.grow g3) (Nat.le_refl _) (Av.of_base n1 (Nat.le_refl _))
theorem kbc0 {r : kdl} {o : kfo ⊕ kdl} {a1 : Int} {x2 : List Nat} {x3 : List Nat} {a4 : Int} {a5 : Int} (e : kfa a1 x2 x3 a4 a5 = some o) (good : GoodS (kk0 r) r o) : kk0 r (.p3 a1 x2 x3 a4 a5) := by
 intro h0 h a2 a3 i2 g0 v2 n3 hi2 av3_2
 rw [k5a]
 unfold kfa at e
 rw [v2.nats.len]
 rw [n3.len]
 refine Runs.cond (fun k6 => ?_) (fun k6 => ?_)
 ·replace e := (condT k6).symm.trans e
  obtain ⟨y7, q7, e⟩ := Option.bind_eq_some_iff.1 e
  obtain ⟨r7, j7, l7⟩ := n3.atI q7
  refine Runs.step j7 ?_
  refine Runs.step (rdc l7 (kb _ _)) ?_
  obtain ⟨j8, q8, e⟩ := Option.bind_eq_some_iff.1 e
  refine Runs.step (v2.idx rfl q8) ?_
  refine Runs.step (v2.rd rfl q8 (kb _ _)) ?_
  refine Runs.cond (fun k9 => ?_) (fun k9 => ?_)
  ·replace e := (condT k9).symm.trans e
   cases e
  ·replace e := (condF k9).symm.trans e
   obtain ⟨j10, q10, e⟩ := Option.bind_eq_some_iff.1 e
   refine Runs.step (v2.idx rfl q10) ?_
   obtain ⟨w11, z11, e⟩ := Option.bind_eq_some_iff.1 e
   refine Runs.vput v2 rfl q10 z11 fun H11 v11 u11 => ?_
   have n3_11 := n3.upda av3_2 u11
   refine Runs.cond (fun k12 => ?_) (fun k12 => ?_)
   ·replace e := (condT k12).symm.trans e
    refine Runs.cond (fun k13 => ?_) (fun k13 => ?_)
    ·replace e := (condT k13).symm.trans e
     cases e
    ·replace e := (condF k13).symm.trans e
     obtain ⟨j14, q14, e⟩ := Option.bind_eq_some_iff.1 e
     refine Runs.step (v11.idx (by simp only [List.length_set]) q14) ?_
     obtain ⟨w15, z15, e⟩ := Option.bind_eq_some_iff.1 e
     refine Runs.vput v11 (by simp only [List.length_set]) q14 z15 fun H15 v15 u15 => ?_
     have n3_15 := n3_11.upda av3_2 u15
     cases e
     exact good ((g0.updr hi2 u11).updr hi2 u15) v15 n3_15 hi2 av3_2
   ·replace e := (condF k12).symm.trans e
    cases e
    exact good (g0.updr hi2 u11) v11 n3_11 hi2 av3_2
 ·replace e := (condF k6).symm.trans e
  cases e
  cases good
  exact Runs.ret ⟨a2, i2, rfl, v2, g0, hi2⟩
theorem k1s {s : kfo} {r : kdl} (it : Iter ki8 s r) : kk0 r s := Iter.ind (fun s o e good => by
 cases s with
 | fn x1 a2 => exact @k1y _ _ x1 a2 e good
 | p3 a1 x2 x3 a4 a5 => exact @kbc0 _ _ a1 x2 x3 a4 a5 e good
 ) it
theorem kvi {h : AH} {a1 : Sl} {x1 : List Nat} {a2 : Int} (n1 : Nats h a1 x1) {r : kdl} (q : runP ki8 (.fn x1 a2) = some r) : Runs (go (.fn F.kee [a1.v, .int .u64 a2]) h) (ks2 h r) := k1s (kbz q) n1
inductive kem
 | fn (a1 : Int) (a2 : Int) (a3 : Int) (a4 : Int) (a5 : Int)
 | p4 (a1 : Int) (a2 : Int) (a3 : Int) (a4 : Int) (a5 : Int)
abbrev kdt := Int
noncomputable def khy (a1 : Int) (a2 : Int) (a3 : Int) (a4 : Int) (a5 : Int) : Option (kem ⊕ kdt) :=
 cond (decide (a1 ≥ a4)) (some (.inr 18446744073709551615)) ((div64P a1 a2 a4).bind fun p7 => some (.inl (.p4 a3 a4 a5 (p7.1) (p7.2))))
noncomputable def kep (a1 : Int) (a2 : Int) (a3 : Int) (a4 : Int) (a5 : Int) : Option (kem ⊕ kdt) :=
 cond (decide (((mul64 a4 a3).1) < a5)) (some (.inr a4)) (cond (decide (((mul64 a4 a3).1) = a5)) (cond (decide (((mul64 a4 a3).2) ≤ a1)) (some (.inr a4)) (cond (decide ((IntKind.wrap .u64 (a5 + a2)) < a5)) (some (.inr (IntKind.wrap .u64 (a4 - 1)))) (some (.inl (.p4 a1 a2 a3 (IntKind.wrap .u64 (a4 - 1)) (IntKind.wrap .u64 (a5 + a2))))))) (cond (decide ((IntKind.wrap .u64 (a5 + a2)) < a5)) (some (.inr (IntKind.wrap .u64 (a4 - 1)))) (some (.inl (.p4 a1 a2 a3 (IntKind.wrap .u64 (a4 - 1)) (IntKind.wrap .u64 (a5 + a2)))))))
noncomputable def kij : kem → Option (kem ⊕ kdt)
 | .fn a1 a2 a3 a4 a5 => khy a1 a2 a3 a4 a5
 | .p4 a1 a2 a3 a4 a5 => kep a1 a2 a3 a4 a5
@[reducible] def kr5 (h0 : AH) (r : kdt) (v : AV) (h' : AH) : Prop := v = .int .u64 r ∧ Grow h0 h'
def kkx (r : kdt) : kem → Prop
 | .fn a1 a2 a3 a4 a5 => ∀ {h : AH}, Runs (go (.fn F.ke9 [.int .u64 a1, .int .u64 a2, .int .u64 a3, .int .u64 a4, .int .u64 a5]) h) (kr5 h r)
 | .p4 a1 a2 a3 a4 a5 => ∀ {h0 h : AH}, Grow h0 h → Runs (go (.pt F.ke9 Td.kk3 [(2, .int .u64 a1), (3, .int .u64 a2), (4, .int .u64 a3), (11, .int .u64 a4), (12, .int .u64 a5)]) h) (kr5 h0 r)
theorem kba0 {r : kdt} {o : kem ⊕ kdt} {a1 : Int} {a2 : Int} {a3 : Int} {a4 : Int} {a5 : Int} (e : khy a1 a2 a3 a4 a5 = some o) (good : GoodS (kkx r) r o) : kkx r (.fn a1 a2 a3 a4 a5) := by
 intro h
 rw [k25]
 unfold khy at e
 refine Runs.cond (fun k6 => ?_) (fun k6 => ?_)
 ·replace e := (condT k6).symm.trans e
  cases e
  cases good
  exact Runs.ret ⟨rfl, (Grow.refl _)⟩
 ·replace e := (condF k6).symm.trans e
  obtain ⟨p7, q7, e⟩ := Option.bind_eq_some_iff.1 e
  obtain ⟨H7, e7, g7⟩ := kyw q7
  refine Runs.step e7 ?_
  refine Runs.step rfl ?_
  refine Runs.step (seen (kb _ _)) ?_
  refine Runs.step (seen (kb _ _)) ?_
  cases e
  exact good g7
theorem k0y {r : kdt} {o : kem ⊕ kdt} {a1 : Int} {a2 : Int} {a3 : Int} {a4 : Int} {a5 : Int} (e : kep a1 a2 a3 a4 a5 = some o) (good : GoodS (kkx r) r o) : kkx r (.p4 a1 a2 a3 a4 a5) := by
 intro h0 h g0
 rw [kbd3]
 unfold kep at e
 refine Runs.step (kr2 a4 a3) ?_
 refine Runs.step rfl ?_
 refine Runs.step (seen (kb _ _)) ?_
 refine Runs.step (seen (kb _ _)) ?_
 refine Runs.cond (fun k7 => ?_) (fun k7 => ?_)
 ·replace e := (condT k7).symm.trans e
  cases e
  cases good
  exact Runs.ret ⟨rfl, g0⟩
 ·replace e := (condF k7).symm.trans e
  refine Runs.cond (fun k8 => ?_) (fun k8 => ?_)
  ·replace e := (condT k8).symm.trans e
   refine Runs.cond (fun k9 => ?_) (fun k9 => ?_)
   ·replace e := (condT k9).symm.trans e
    cases e
    cases good
    exact Runs.ret ⟨rfl, g0⟩
   ·replace e := (condF k9).symm.trans e
    refine Runs.cond (fun k10 => ?_) (fun k10 => ?_)
    ·replace e := (condT k10).symm.trans e
     cases e
     cases good
     exact Runs.ret ⟨rfl, g0⟩
    ·replace e := (condF k10).symm.trans e
     cases e
     exact good g0
  ·replace e := (condF k8).symm.trans e
   refine Runs.cond (fun k9 => ?_) (fun k9 => ?_)
   ·replace e := (condT k9).symm.trans e
    cases e
    cases good
    exact Runs.ret ⟨rfl, g0⟩
   ·replace e := (condF k9).symm.trans e
    cases e
    exact good g0
theorem k0g {s : kem} {r : kdt} (it : Iter kij s r) : kkx r s := Iter.ind (fun s o e good => by
 cases s with
 | fn a1 a2 a3 a4 a5 => exact @kba0 _ _ a1 a2 a3 a4 a5 e good
 | p4 a1 a2 a3 a4 a5 => exact @k0y _ _ a1 a2 a3 a4 a5 e good
 ) it
theorem k3d {h : AH}  {a1 : Int} {a2 : Int} {a3 : Int} {a4 : Int} {a5 : Int}  {r : kdt} (q : runP kij (.fn a1 a2 a3 a4 a5) = some r) : Runs (go (.fn F.ke9 [.int .u64 a1, .int .u64 a2, .int .u64 a3, .int .u64 a4, .int .u64 a5]) h) (kr5 h r) := k0g (kbz q)
end Go.Ab

/- squeezed -/
set_option linter.unusedVariables false
set_option linter.unusedSimpArgs false
set_option maxRecDepth 10000
namespace Go.Ab
open Go.Proofs Go.Num
def padD (b : Nat) : Nat → Nat → List Nat
 | 0, _ => []
 | k + 1, n => n % b :: padD b k (n / b)
theorem ksz (b : Nat) : ∀ k n, (padD b k n).length = k
 | 0, _ => rfl
 | k + 1, n => by simp [padD, ksz b k]
theorem kxq {b : Nat} (hb : 0 < b) : ∀ k n, ∀ x ∈ padD b k n, x < b
 | 0, _ => by simp [padD]
 | k + 1, n => by
  intro x hx
  rcases List.mem_cons.1 hx with rfl | hx
  ·exact Nat.mod_lt _ hb
  ·exact kxq hb k _ x hx
theorem kuh {b : Nat} (hb : 0 < b) : ∀ (k n : Nat), n < b ^ k → num b (padD b k n) = n
 | 0, n, h => by
  rw [Nat.pow_zero] at h
  have : n = 0 := by omega
  subst this
  rfl
 | k + 1, n, h => by
  rw [padD, num, kuh hb k (n / b) (by rw [Nat.div_lt_iff_lt_mul hb, ← Nat.pow_succ]; exact h)]
  exact Nat.mod_add_div n b
theorem kvc {b : Nat} (hb : 0 < b) : ∀ {zs : List Nat}, (∀ x ∈ zs, x < b) → padD b zs.length (num b zs) = zs
 | [], _ => rfl
 | z :: zs, h => by
  have hz := h z (by simp)
  rw [List.length_cons, padD, num, Nat.add_mul_mod_self_left, Nat.mod_eq_of_lt hz, Nat.add_mul_div_left _ _ hb, Nat.div_eq_of_lt hz, Nat.zero_add, kvc hb fun x hx => h x (by simp [hx])]
theorem Sl.v_inj {s t : Sl} (e : s.v = t.v) : s = t := by
 cases s; cases t
 simp only [Sl.v, AV.slice.injEq] at e
 simp only [Sl.mk.injEq]
 exact e
theorem kw1 {h : AH} {s : Sl} {xs : List Nat} (n : Nats h s xs) {i : Nat} (b : InB s i) : ∀ (k : Nat), k ≤ xs.length → ∃ s', go (.pt F.kbi Td.kku [(0, s.v), (3, .int .i64 (k : Int))]) h = some (s'.v, h) ∧ InB s' i
 | 0, hk => by
  rw [ko6]
  obtain ⟨s', e1, _, _⟩ := n.cut (l := 0) (n := 0) (Nat.le_refl _) hk
  have b' := b.cut e1
  simp at e1
  simp only [Int.natCast_zero, gt_iff_lt, Int.lt_irrefl, decide_false, cond_false, e1, Option.bind_some]
  exact ⟨s', rfl, b'⟩
 | k + 1, hk => by
  rw [ko6]
  obtain ⟨r, e1, e2⟩ := n.at (i := k) (by omega)
  have hs := n.short
  rw [kkl (by omega)]
  rw [show (decide (((k + 1 : Nat) : Int) > 0)) = true from by rw [decide_eq_true_eq]; omega]
  simp only [cond_true, e1, e2, Option.bind_some, kb]
  by_cases hx : xs[k] = 0
  ·rw [hx, show (decide (((0 : Nat) : Int) = 0)) = true from rfl, cond_true]
   exact kw1 n b k (by omega)
  ·obtain ⟨s', e3, _, _⟩ := n.cut (l := 0) (n := k + 1) (by omega) hk
   rw [show (decide (((xs[k] : Nat) : Int) = 0)) = false from by rw [decide_eq_false_iff_not]; omega]
   simp only [cond_false]
   rw [show cutSl s 0 ((k + 1 : Nat) : Int) 1 = some s' from e3]
   exact ⟨s', rfl, b.cut e3⟩
theorem kns {h : AH} {s : Sl} {i : Nat} {xs : List Nat} (v : Vec h s i xs) : ∃ s', go (.fn F.kbi [s.v]) h = some (s'.v, h) ∧ Nats h s' (digs B (num B xs)) ∧ InB s' i := by
 obtain ⟨s', e, n, _⟩ := kc8 v.nats
 obtain ⟨s2, e2, b⟩ := kw1 v.nats v.inB xs.length (Nat.le_refl _)
 rw [ksr, v.len, e2] at e
 have : s2 = s' := Sl.v_inj (Prod.mk.inj (Option.some.inj e)).1
 subst this
 exact ⟨s2, by rw [ksr, v.len, e2], n, b⟩
theorem B0 : 0 < B := by decide
theorem kqh {a : Int} {x : Nat} {h : AH} (q : u64P a = some x) : ∃ (s' : Sl) (h' : AH), go (.fn F.kfc [.int .u64 a]) h = some (s'.v, h') ∧ Nats h' s' (digs B x) ∧ Grow h h' ∧ Own h s' := by
 obtain ⟨rfl, hx⟩ := kmn q
 exact kzq hx
theorem k3n {h : AH} {s t : Sl} {xs ys : List Nat} (n : Nats h s xs) (m : Nats h t ys) (c : xs.length ≤ 1073741824 ∧ ys.length ≤ xs.length ∧ num B ys ≤ num B xs) :
  ∃ (s' : Sl) (h' : AH), go (.fn F.kct [s.v, t.v]) h = some (s'.v, h') ∧ Nats h' s' (padD B xs.length (num B xs - num B ys)) ∧ Grow h h' ∧ Own h s' := by
 obtain ⟨s', h', zs, e, n', g, o, v, l⟩ := kpf n m c.1 c.2.1 c.2.2
 refine ⟨s', h', e, ?_, g, o⟩
 rw [← v, ← l, kvc B0 n'.lt]
 exact n'
end Go.Ab

/- squeezed -/
set_option linter.unusedVariables false
set_option linter.unusedSimpArgs false
set_option maxRecDepth 10000
namespace Go.Ab
open Go.Proofs Go.Num
inductive kdb
 | fn (x1 : List Nat) (x2 : List Nat)
 | p6 (a1 : Int) (x2 : List Nat) (x3 : List Nat) (a4 : Int) (x5 : List Nat) (a6 : Int)
 | p10 (a1 : Int) (x2 : List Nat) (x3 : List Nat) (a4 : Int) (x5 : List Nat) (a6 : Int) (a7 : Int) (x8 : Nat × Nat)
 | p18 (a1 : Int) (x2 : List Nat) (x3 : List Nat) (x4 : List Nat) (a5 : Int) (a6 : Int)
abbrev kb6 := List Nat × List Nat
noncomputable def klb (x1 : List Nat) (x2 : List Nat) : Option (kdb ⊕ kb6) :=
 (atI x2 (IntKind.wrap .i64 ((List.length x2 : Int) - 1))).bind fun y3 => (need (0 ≤ ((y3 : Int)) ∧ ((y3 : Int)) < 18446744073709551616)).bind fun c4_0 => (runP ki8 (.fn x1 (IntKind.wrap .u64 (((64 - bl (Int.toNat ((y3 : Int))) : Nat) : Int))))).bind fun p5 => (runP ki8 (.fn x2 (IntKind.wrap .u64 (((64 - bl (Int.toNat ((y3 : Int))) : Nat) : Int))))).bind fun p6 => (mkI (IntKind.wrap .i64 ((List.length p5 : Int) - (List.length (digs B (num B p6)) : Int))) (IntKind.wrap .i64 ((List.length p5 : Int) - (List.length (digs B (num B p6)) : Int)))).bind fun m8 => some (.inl (.p6 (IntKind.wrap .u64 (((64 - bl (Int.toNat ((y3 : Int))) : Nat) : Int))) p5 (digs B (num B p6)) (List.length (digs B (num B p6)) : Int) (List.replicate m8 0) (IntKind.wrap .i64 ((List.length (List.replicate m8 0) : Int) - 1))))
noncomputable def khb (a1 : Int) (x2 : List Nat) (x3 : List Nat) (a4 : Int) (x5 : List Nat) (a6 : Int) : Option (kdb ⊕ kb6) :=
 cond (decide (a6 ≥ 0)) ((inI (List.length x2) (IntKind.wrap .i64 (a6 + a4))).bind fun j8 => (inI (List.length x2) (IntKind.wrap .i64 ((IntKind.wrap .i64 (a6 + a4)) - 1))).bind fun j9 => (inI (List.length x2) (IntKind.wrap .i64 ((IntKind.wrap .i64 (a6 + a4)) - 2))).bind fun j10 => (atI x3 (IntKind.wrap .i64 (a4 - 1))).bind fun y11 => (atI x3 (IntKind.wrap .i64 (a4 - 2))).bind fun y12 => (runP kij (.fn (((List.getD x2 j8 0 : Nat) : Int)) (((List.getD x2 j9 0 : Nat) : Int)) (((List.getD x2 j10 0 : Nat) : Int)) ((y11 : Int)) ((y12 : Int)))).bind fun p13 => (cutP (List.length x2) a6 (IntKind.wrap .i64 ((IntKind.wrap .i64 (a6 + a4)) + 1))).bind fun p14 => some (.inl (.p10 a1 x2 x3 a4 x5 a6 p13 (p14.1, p14.2)))) ((mkI (List.length (digs B (num B x2)) : Int) (List.length (digs B (num B x2)) : Int)).bind fun m9 => some (.inl (.p18 a1 x5 (digs B (num B x2)) (List.replicate m9 0) (List.length (digs B (num B x2)) : Int) 0)))
noncomputable def khw (a1 : Int) (x2 : List Nat) (x3 : List Nat) (a4 : Int) (x5 : List Nat) (a6 : Int) (a7 : Int) (x8 : Nat × Nat) : Option (kdb ⊕ kb6) :=
 (u64P a7).bind fun p9 => (need (List.length x3 + List.length (digs B p9) ≤ 8796093022208)).bind fun c10_0 => (need (List.length (List.take x8.2 (List.drop x8.1 x2)) ≤ 8796093022208)).bind fun c11_0 => (need (Trim (digs B (num B (List.take x8.2 (List.drop x8.1 x2)))))).bind fun c13_0 => (need (Trim (digs B (num B x3 * num B (digs B p9))))).bind fun c13_1 => cond (decide ((cmp (num B (digs B (num B (List.take x8.2 (List.drop x8.1 x2))))) (num B (digs B (num B x3 * num B (digs B p9))))) ≥ 0)) ((need (List.length (List.take x8.2 (List.drop x8.1 x2)) ≤ 1073741824 ∧ List.length (digs B (num B x3 * num B (digs B p9))) ≤ List.length (List.take x8.2 (List.drop x8.1 x2)) ∧ num B (digs B (num B x3 * num B (digs B p9))) ≤ num B (List.take x8.2 (List.drop x8.1 x2)))).bind fun c15_0 => (setW x2 x8.1 x8.2 (padD B (List.length (List.take x8.2 (List.drop x8.1 x2))) (num B (List.take x8.2 (List.drop x8.1 x2)) - num B (digs B (num B x3 * num B (digs B p9)))))).bind fun y16 => (inI (List.length x5) a6).bind fun j17 => (u64P a7).bind fun w18 => some (.inl (.p6 a1 y16 x3 a4 (List.set x5 j17 w18) (IntKind.wrap .i64 (a6 - 1))))) (some (.inl (.p10 a1 x2 x3 a4 x5 a6 (IntKind.wrap .u64 (a7 - 1)) (x8.1, x8.2))))
noncomputable def kdz (a1 : Int) (x2 : List Nat) (x3 : List Nat) (x4 : List Nat) (a5 : Int) (a6 : Int) : Option (kdb ⊕ kb6) :=
 cond (decide (a6 < a5)) ((atI x3 a6).bind fun y8 => cond (decide (a1 < 0)) (none) ((inI (List.length x4) a6).bind fun j10 => (u64P (ishr .u64 ((y8 : Int)) a1)).bind fun w11 => cond (decide (a1 > 0)) (cond (decide ((IntKind.wrap .i64 (a6 + 1)) < (List.length x3 : Int))) ((inI (List.length x4) a6).bind fun j14 => (atI x3 (IntKind.wrap .i64 (a6 + 1))).bind fun y15 => cond (decide ((IntKind.wrap .u64 (64 - a1)) < 0)) (none) ((inI (List.length x4) a6).bind fun j17 => (u64P (ior .u64 (((List.getD (List.set x4 j10 w11) j14 0 : Nat) : Int)) (ishl .u64 ((y15 : Int)) (IntKind.wrap .u64 (64 - a1))))).bind fun w18 => some (.inl (.p18 a1 x2 x3 (List.set (List.set x4 j10 w11) j17 w18) a5 (IntKind.wrap .i64 (a6 + 1)))))) (some (.inl (.p18 a1 x2 x3 (List.set x4 j10 w11) a5 (IntKind.wrap .i64 (a6 + 1)))))) (some (.inl (.p18 a1 x2 x3 (List.set x4 j10 w11) a5 (IntKind.wrap .i64 (a6 + 1))))))) (some (.inr (digs B (num B x2), digs B (num B x4))))
noncomputable def kid : kdb → Option (kdb ⊕ kb6)
 | .fn x1 x2 => klb x1 x2
 | .p6 a1 x2 x3 a4 x5 a6 => khb a1 x2 x3 a4 x5 a6
 | .p10 a1 x2 x3 a4 x5 a6 a7 x8 => khw a1 x2 x3 a4 x5 a6 a7 x8
 | .p18 a1 x2 x3 x4 a5 a6 => kdz a1 x2 x3 x4 a5 a6
@[reducible] def kmt (h0 : AH) (r : kb6) (v : AV) (h' : AH) : Prop := ∃ s1 : Sl, ∃ s2 : Sl, v = .tup [s1.v, s2.v] ∧ Nats h' s1 r.1 ∧ Nats h' s2 r.2 ∧ Grow h0 h' ∧ Own h0 s1 ∧ Own h0 s2
def kfd (r : kb6) : kdb → Prop
 | .fn x1 x2 => ∀ {h : AH} {a1 : Sl} {a2 : Sl}, Nats h a1 x1 → Nats h a2 x2 → Runs (go (.fn F.kb1 [a1.v, a2.v]) h) (kmt h r)
 | .p6 a1 x2 x3 a4 x5 a6 => ∀ {h0 h : AH} {a2 : Sl} {a3 : Sl} {a5 : Sl} {i2 : Nat} {i5 : Nat}, Grow h0 h → Vec h a2 i2 x2 → Nats h a3 x3 → Vec h a5 i5 x5 → h0.blks.size ≤ i2 → h0.blks.size ≤ i5 → Av a3 i2 x3 → Av a3 i5 x3 → i2 ≠ i5 → Runs (go (.pt F.kb1 Td.kne [(6, .int .u64 a1), (7, a2.v), (8, a3.v), (9, .int .i64 a4), (10, a5.v), (11, .int .i64 a6)]) h) (kmt h0 r)
 | .p10 a1 x2 x3 a4 x5 a6 a7 x8 => ∀ {h0 h : AH} {a2 : Sl} {a3 : Sl} {a5 : Sl} {a8 : Sl} {i2 : Nat} {i5 : Nat}, Grow h0 h → Vec h a2 i2 x2 → Nats h a3 x3 → Vec h a5 i5 x5 → h0.blks.size ≤ i2 → h0.blks.size ≤ i5 → Win a8 i2 x8.1 x8.2 → x8.1 + x8.2 ≤ List.length x2 → Av a3 i2 x3 → Av a3 i5 x3 → i2 ≠ i5 → Runs (go (.pt F.kb1 Td.kmc [(6, .int .u64 a1), (7, a2.v), (8, a3.v), (9, .int .i64 a4), (10, a5.v), (11, .int .i64 a6), (12, .int .u64 a7), (13, a8.v)]) h) (kmt h0 r)
 | .p18 a1 x2 x3 x4 a5 a6 => ∀ {h0 h : AH} {a2 : Sl} {a3 : Sl} {a4 : Sl} {i2 : Nat} {i4 : Nat}, Grow h0 h → Vec h a2 i2 x2 → Nats h a3 x3 → Vec h a4 i4 x4 → h0.blks.size ≤ i2 → h0.blks.size ≤ i4 → Av a3 i2 x3 → Av a3 i4 x3 → i2 ≠ i4 → Runs (go (.pt F.kb1 Td.ki3 [(6, .int .u64 a1), (10, a2.v), (15, a3.v), (16, a4.v), (112, .int .i64 a5), (113, .int .i64 a6)]) h) (kmt h0 r)
theorem k1w {r : kb6} {o : kdb ⊕ kb6} {x1 : List Nat} {x2 : List Nat} (e : klb x1 x2 = some o) (good : GoodS (kfd r) r o) : kfd r (.fn x1 x2) := by
 intro h a1 a2 n1 n2
 rw [k5o]
 unfold klb at e
 rw [n2.len]
 obtain ⟨y3, q3, e⟩ := Option.bind_eq_some_iff.1 e
 obtain ⟨r3, j3, l3⟩ := n2.atI q3
 refine Runs.step j3 ?_
 refine Runs.step (rdc l3 (kb _ _)) ?_
 obtain ⟨c4_0, q4_0, e⟩ := Option.bind_eq_some_iff.1 e
 refine Runs.step (kwa ((y3 : Int))  c4_0.down) ?_
 refine Runs.step (seen (kb _ _)) ?_
 obtain ⟨p5, q5, e⟩ := Option.bind_eq_some_iff.1 e
 obtain ⟨_, H5, e5, s5, j5, rfl, n5, g5, o5⟩ := kvi n1 q5
 refine Runs.step e5 ?_
 refine Runs.step (seen (asSl_v _)) ?_
 rw [n5.nats.len]
 obtain ⟨p6, q6, e⟩ := Option.bind_eq_some_iff.1 e
 obtain ⟨_, H6, e6, s6, j6, rfl, n6, g6, o6⟩ := kvi (n2.grow g5) q6
 refine Runs.step e6 ?_
 refine Runs.step (seen (asSl_v _)) ?_
 obtain ⟨s7, e7, n7, i7⟩ := kns n6
 refine Runs.step e7 ?_
 refine Runs.step (seen (asSl_v _)) ?_
 rw [n7.len]
 obtain ⟨m8, q8, e⟩ := Option.bind_eq_some_iff.1 e
 refine Runs.mk q8 kc2 fun s8 H8 v8 g8 => ?_
 rw [v8.nats.len]
 cases e
 exact good ((g5.trans g6).trans g8) (n5.grow (g6.trans g8)) (n7.grow g8) v8 o5 (Nat.le_trans ((g5.trans g6)).size (Nat.le_refl _)) (Av.of_in i7 (Nat.ne_of_gt (Nat.lt_of_lt_of_le (n5).inn o6))) (Av.of_in i7 (Nat.ne_of_lt (Nat.lt_of_lt_of_le (n6).inn (Nat.le_refl _)))) (Nat.ne_of_lt (Nat.lt_of_lt_of_le ((n5.grow g6)).inn (Nat.le_refl _)))
theorem kbb8 {r : kb6} {o : kdb ⊕ kb6} {a1 : Int} {x2 : List Nat} {x3 : List Nat} {a4 : Int} {x5 : List Nat} {a6 : Int} (e : khb a1 x2 x3 a4 x5 a6 = some o) (good : GoodS (kfd r) r o) : kfd r (.p6 a1 x2 x3 a4 x5 a6) := by
 intro h0 h a2 a3 a5 i2 i5 g0 v2 n3 v5 hi2 hi5 av3_2 av3_5 ne2_5
 rw [k5f]
 unfold khb at e
 rw [v2.nats.len]
 rw [n3.len]
 refine Runs.cond (fun k7 => ?_) (fun k7 => ?_)
 ·replace e := (condT k7).symm.trans e
  obtain ⟨j8, q8, e⟩ := Option.bind_eq_some_iff.1 e
  refine Runs.step (v2.idx rfl q8) ?_
  refine Runs.step (v2.rd rfl q8 (kb _ _)) ?_
  obtain ⟨j9, q9, e⟩ := Option.bind_eq_some_iff.1 e
  refine Runs.step (v2.idx rfl q9) ?_
  refine Runs.step (v2.rd rfl q9 (kb _ _)) ?_
  obtain ⟨j10, q10, e⟩ := Option.bind_eq_some_iff.1 e
  refine Runs.step (v2.idx rfl q10) ?_
  refine Runs.step (v2.rd rfl q10 (kb _ _)) ?_
  obtain ⟨y11, q11, e⟩ := Option.bind_eq_some_iff.1 e
  obtain ⟨r11, j11, l11⟩ := n3.atI q11
  refine Runs.step j11 ?_
  refine Runs.step (rdc l11 (kb _ _)) ?_
  obtain ⟨y12, q12, e⟩ := Option.bind_eq_some_iff.1 e
  obtain ⟨r12, j12, l12⟩ := n3.atI q12
  refine Runs.step j12 ?_
  refine Runs.step (rdc l12 (kb _ _)) ?_
  obtain ⟨p13, q13, e⟩ := Option.bind_eq_some_iff.1 e
  obtain ⟨_, H13, e13, rfl, g13⟩ := k3d q13
  refine Runs.step e13 ?_
  refine Runs.step (seen (kb _ _)) ?_
  obtain ⟨p14, q14, e⟩ := Option.bind_eq_some_iff.1 e
  obtain ⟨s14, e14, w14⟩ := (v2.grow g13).cutW rfl q14
  refine Runs.step e14 ?_
  cases e
  exact good (g0.trans g13) (v2.grow g13) (n3.grow g13) (v5.grow g13) hi2 hi5 w14 (kmx q14).2.2.2 av3_2 av3_5 ne2_5
 ·replace e := (condF k7).symm.trans e
  obtain ⟨s8, e8, n8, i8⟩ := kns v2
  refine Runs.step e8 ?_
  refine Runs.step (seen (asSl_v _)) ?_
  rw [n8.len]
  obtain ⟨m9, q9, e⟩ := Option.bind_eq_some_iff.1 e
  refine Runs.mk q9 kc2 fun s9 H9 v9 g9 => ?_
  cases e
  exact good (g0.trans g9) (v5.grow g9) (n8.grow g9) v9 hi5 (Nat.le_trans (g0).size (Nat.le_refl _)) (Av.of_in i8 ne2_5) (Av.of_in i8 (Nat.ne_of_lt (Nat.lt_of_lt_of_le (v2).inn (Nat.le_refl _)))) (Nat.ne_of_lt (Nat.lt_of_lt_of_le (v5).inn (Nat.le_refl _)))
theorem k48 {r : kb6} {o : kdb ⊕ kb6} {a1 : Int} {x2 : List Nat} {x3 : List Nat} {a4 : Int} {x5 : List Nat} {a6 : Int} {a7 : Int} {x8 : Nat × Nat} (e : khw a1 x2 x3 a4 x5 a6 a7 x8 = some o) (good : GoodS (kfd r) r o) : kfd r (.p10 a1 x2 x3 a4 x5 a6 a7 x8) := by
 intro h0 h a2 a3 a5 a8 i2 i5 g0 v2 n3 v5 hi2 hi5 w8 wl8 av3_2 av3_5 ne2_5
 rw [k2j]
 unfold khw at e
 rw [v5.nats.len]
 obtain ⟨p9, q9, e⟩ := Option.bind_eq_some_iff.1 e
 obtain ⟨s9, H9, e9, n9, g9, o9⟩ := kqh q9
 refine Runs.step e9 ?_
 refine Runs.step (seen (asSl_v _)) ?_
 obtain ⟨c10_0, q10_0, e⟩ := Option.bind_eq_some_iff.1 e
 obtain ⟨s10, H10, e10, n10, g10, o10⟩ := ksf (n3.grow g9) n9  c10_0.down
 refine Runs.step e10 ?_
 refine Runs.step (seen (asSl_v _)) ?_
 obtain ⟨c11_0, q11_0, e⟩ := Option.bind_eq_some_iff.1 e
 obtain ⟨s11, H11, e11, n11, g11, o11⟩ := khz (w8.nats (v2.grow (g9.trans g10)) wl8)  c11_0.down
 refine Runs.step e11 ?_
 refine Runs.step (seen (asSl_v _)) ?_
 obtain ⟨s12, e12, n12, o12⟩ := kc8 n11
 refine Runs.step e12 ?_
 refine Runs.step (seen (asSl_v _)) ?_
 obtain ⟨c13_0, q13_0, e⟩ := Option.bind_eq_some_iff.1 e
 obtain ⟨c13_1, q13_1, e⟩ := Option.bind_eq_some_iff.1 e
 refine Runs.step (kmf n12 (n10.grow g11)  c13_0.down c13_1.down) ?_
 refine Runs.step (seen (kb _ _)) ?_
 refine Runs.cond (fun k14 => ?_) (fun k14 => ?_)
 ·replace e := (condT k14).symm.trans e
  obtain ⟨c15_0, q15_0, e⟩ := Option.bind_eq_some_iff.1 e
  obtain ⟨s15, H15, e15, n15, g15, o15⟩ := k3n (w8.nats (v2.grow ((g9.trans g10).trans g11)) wl8) (n10.grow g11)  c15_0.down
  refine Runs.step e15 ?_
  refine Runs.step (seen (asSl_v _)) ?_
  obtain ⟨y16, q16, e⟩ := Option.bind_eq_some_iff.1 e
  have hl16 := kxt q16
  obtain ⟨H16, e16, v16, u16⟩ := (v2.grow (((g9.trans g10).trans g11).trans g15)).copyW w8 n15 q16
  refine Runs.step e16 ?_
  have n3_16 := (n3.grow (((g9.trans g10).trans g11).trans g15)).upda av3_2 u16
  have n9_16 := (n9.grow ((g10.trans g11).trans g15)).upda (Av.of_own o9 (v2).inn) u16
  have n10_16 := (n10.grow (g11.trans g15)).upda (Av.of_own o10 ((v2.grow g9)).inn) u16
  have n11_16 := (n11.grow g15).upda (Av.of_own o11 ((v2.grow (g9.trans g10))).inn) u16
  have n12_16 := (n12.grow g15).upda (Av.of_own (o12 _ o11) ((v2.grow (g9.trans g10))).inn) u16
  have n15_16 := n15.upda (Av.of_own o15 ((v2.grow ((g9.trans g10).trans g11))).inn) u16
  have v5_16 := (v5.grow (((g9.trans g10).trans g11).trans g15)).updr (Ne.symm ne2_5) u16
  obtain ⟨j17, q17, e⟩ := Option.bind_eq_some_iff.1 e
  refine Runs.step (v5_16.idx rfl q17) ?_
  obtain ⟨w18, z18, e⟩ := Option.bind_eq_some_iff.1 e
  refine Runs.vput v5_16 rfl q17 z18 fun H18 v18 u18 => ?_
  have n3_18 := n3_16.upda av3_5 u18
  have n9_18 := n9_16.upda (Av.of_own o9 (v5).inn) u18
  have n10_18 := n10_16.upda (Av.of_own o10 ((v5.grow g9)).inn) u18
  have n11_18 := n11_16.upda (Av.of_own o11 ((v5.grow (g9.trans g10))).inn) u18
  have n12_18 := n12_16.upda (Av.of_own (o12 _ o11) ((v5.grow (g9.trans g10))).inn) u18
  have n15_18 := n15_16.upda (Av.of_own o15 ((v5.grow ((g9.trans g10).trans g11))).inn) u18
  have v16_18 := v16.updr ne2_5 u18
  cases e
  exact good ((((((g0.trans g9).trans g10).trans g11).trans g15).updr hi2 u16).updr hi5 u18) v16_18 n3_18 v18 hi2 hi5 av3_2 av3_5 ne2_5
 ·replace e := (condF k14).symm.trans e
  cases e
  exact good (((g0.trans g9).trans g10).trans g11) (v2.grow ((g9.trans g10).trans g11)) (n3.grow ((g9.trans g10).trans g11)) (v5.grow ((g9.trans g10).trans g11)) hi2 hi5 w8 wl8 av3_2 av3_5 ne2_5
theorem kz2 {r : kb6} {o : kdb ⊕ kb6} {a1 : Int} {x2 : List Nat} {x3 : List Nat} {x4 : List Nat} {a5 : Int} {a6 : Int} (e : kdz a1 x2 x3 x4 a5 a6 = some o) (good : GoodS (kfd r) r o) : kfd r (.p18 a1 x2 x3 x4 a5 a6) := by
 intro h0 h a2 a3 a4 i2 i4 g0 v2 n3 v4 hi2 hi4 av3_2 av3_4 ne2_4
 rw [k6g]
 unfold kdz at e
 rw [n3.len]
 rw [v4.nats.len]
 refine Runs.cond (fun k7 => ?_) (fun k7 => ?_)
 ·replace e := (condT k7).symm.trans e
  obtain ⟨y8, q8, e⟩ := Option.bind_eq_some_iff.1 e
  obtain ⟨r8, j8, l8⟩ := n3.atI q8
  refine Runs.step j8 ?_
  refine Runs.step (rdc l8 (kb _ _)) ?_
  refine Runs.cond (fun k9 => ?_) (fun k9 => ?_)
  ·replace e := (condT k9).symm.trans e
   cases e
  ·replace e := (condF k9).symm.trans e
   obtain ⟨j10, q10, e⟩ := Option.bind_eq_some_iff.1 e
   refine Runs.step (v4.idx rfl q10) ?_
   obtain ⟨w11, z11, e⟩ := Option.bind_eq_some_iff.1 e
   refine Runs.vput v4 rfl q10 z11 fun H11 v11 u11 => ?_
   have n3_11 := n3.upda av3_4 u11
   have v2_11 := v2.updr ne2_4 u11
   refine Runs.cond (fun k12 => ?_) (fun k12 => ?_)
   ·replace e := (condT k12).symm.trans e
    refine Runs.cond (fun k13 => ?_) (fun k13 => ?_)
    ·replace e := (condT k13).symm.trans e
     obtain ⟨j14, q14, e⟩ := Option.bind_eq_some_iff.1 e
     refine Runs.step (v11.idx (by simp only [List.length_set]) q14) ?_
     refine Runs.step (v11.rd (by simp only [List.length_set]) q14 (kb _ _)) ?_
     obtain ⟨y15, q15, e⟩ := Option.bind_eq_some_iff.1 e
     obtain ⟨r15, j15, l15⟩ := n3_11.atI q15
     refine Runs.step j15 ?_
     refine Runs.step (rdc l15 (kb _ _)) ?_
     refine Runs.cond (fun k16 => ?_) (fun k16 => ?_)
     ·replace e := (condT k16).symm.trans e
      cases e
     ·replace e := (condF k16).symm.trans e
      obtain ⟨j17, q17, e⟩ := Option.bind_eq_some_iff.1 e
      refine Runs.step (v11.idx (by simp only [List.length_set]) q17) ?_
      obtain ⟨w18, z18, e⟩ := Option.bind_eq_some_iff.1 e
      refine Runs.vput v11 (by simp only [List.length_set]) q17 z18 fun H18 v18 u18 => ?_
      have n3_18 := n3_11.upda av3_4 u18
      have v2_18 := v2_11.updr ne2_4 u18
      cases e
      exact good ((g0.updr hi4 u11).updr hi4 u18) v2_18 n3_18 v18 hi2 hi4 av3_2 av3_4 ne2_4
    ·replace e := (condF k13).symm.trans e
     cases e
     exact good (g0.updr hi4 u11) v2_11 n3_11 v11 hi2 hi4 av3_2 av3_4 ne2_4
   ·replace e := (condF k12).symm.trans e
    cases e
    exact good (g0.updr hi4 u11) v2_11 n3_11 v11 hi2 hi4 av3_2 av3_4 ne2_4
 ·replace e := (condF k7).symm.trans e
  obtain ⟨s8, e8, n8, i8⟩ := kns v2
  refine Runs.step e8 ?_
  refine Runs.step (seen (asSl_v _)) ?_
  obtain ⟨s9, e9, n9, i9⟩ := kns v4
  refine Runs.step e9 ?_
  refine Runs.step (seen (asSl_v _)) ?_
  cases e
  cases good
  exact Runs.ret ⟨s8, s9, rfl, n8, n9, g0, ((i8.own hi2).of_le (Grow.refl _)), ((i9.own hi4).of_le (Grow.refl _))⟩
theorem kbej {s : kdb} {r : kb6} (it : Iter kid s r) : kfd r s := Iter.ind (fun s o e good => by
 cases s with
 | fn x1 x2 => exact @k1w _ _ x1 x2 e good
 | p6 a1 x2 x3 a4 x5 a6 => exact @kbb8 _ _ a1 x2 x3 a4 x5 a6 e good
 | p10 a1 x2 x3 a4 x5 a6 a7 x8 => exact @k48 _ _ a1 x2 x3 a4 x5 a6 a7 x8 e good
 | p18 a1 x2 x3 x4 a5 a6 => exact @kz2 _ _ a1 x2 x3 x4 a5 a6 e good
 ) it
end Go.Ab

/- squeezed -/
set_option linter.unusedVariables false
set_option linter.unusedSimpArgs false
set_option maxRecDepth 10000
namespace Go.Ab
open Go.Proofs Go.Num
theorem k2h {d q r r' x Q R : Nat} (h1 : r * 18446744073709551616 + x = q * d + r') (h2 : R = d * Q + r) : x + 18446744073709551616 * R = d * (q + 18446744073709551616 * Q) + r' := by
 rw [h2, Nat.mul_add, Nat.mul_add]
 have e1 : 18446744073709551616 * (d * Q) = d * (18446744073709551616 * Q) := Nat.mul_left_comm _ _ _
 rw [e1, Nat.mul_comm d q]
 omega
theorem kq0 {o : List Nat} {i w : Nat} (h : i < o.length) : (o.set i w).drop i = w :: o.drop (i + 1) := by
 rw [List.drop_eq_getElem_cons (by simpa using h), List.getElem_set_self, List.drop_set_of_lt (by omega)]
theorem kzi {xs : List Nat} {d : Nat} (lx : ∀ x ∈ xs, x < B) (hd : d < B) (hd0 : 0 < d) (hl : xs.length ≤ 8796093022208) :
  ∀ (i : Nat) (o : List Nat) (r : Nat), i ≤ xs.length → o.length = xs.length → r < d → num B (xs.drop i) = d * num B (o.drop i) + r →
   Iter krt (.p4 xs d o r ((i : Int) - 1)) (digs B (num B xs / d), ((num B xs % d : Nat) : Int))
 | 0, o, r, hi, lo, hr, e => by
  refine .done ?_
  show kg6 _ _ _ _ _ = _
  unfold kg6
  rw [List.drop_zero, List.drop_zero] at e
  rw [condF (by rw [decide_eq_false_iff_not]; omega), e, Nat.mul_add_div hd0, Nat.div_eq_of_lt hr, Nat.add_zero, Nat.mul_add_mod, Nat.mod_eq_of_lt hr]
 | i + 1, o, r, hi, lo, hr, e => by
  have hi' : i < xs.length := by omega
  have hio : i < o.length := by omega
  have hx := lx xs[i] (List.getElem_mem _)
  have hd' : d < 18446744073709551616 := hd
  have hx' : xs[i] < 18446744073709551616 := hx
  have hq : (r * 18446744073709551616 + xs[i]) / d < 18446744073709551616 := by
   rw [Nat.div_lt_iff_lt_mul hd0]
   have : (r + 1) * 18446744073709551616 ≤ d * 18446744073709551616 := Nat.mul_le_mul_right _ hr
   omega
  refine .next (s' := .p4 xs d (o.set i ((r * 18446744073709551616 + xs[i]) / d)) ((r * 18446744073709551616 + xs[i]) % d : Nat) ((i : Int) - 1)) ?_ (kzi lx hd hd0 hl i _ _ (by omega) (by simpa using lo) (Nat.mod_lt _ hd0) ?_)
  ·show kg6 _ _ _ _ _ = _
   unfold kg6
   rw [condT (by rw [decide_eq_true_eq]; omega), show ((i + 1 : Nat) : Int) - 1 = (i : Int) from by omega, kbm hi', Option.bind_some, kwq hd' hx' hr, Option.bind_some, kbh hio, Option.bind_some]
   dsimp only
   rw [kbc hq, Option.bind_some, wrap64 (by omega) (by omega)]
  ·rw [kq0 hio, List.drop_eq_getElem_cons hi']
   simp only [num]
   have dm := Nat.div_add_mod (r * 18446744073709551616 + xs[i]) d
   rw [Nat.mul_comm d] at dm
   exact k2h dm.symm e
theorem k0o {xs : List Nat} {d : Nat} (lx : ∀ x ∈ xs, x < B) (hd : d < B) (hd0 : 0 < d) (hl : xs.length ≤ 8796093022208) : Iter krt (.fn xs d) (digs B (num B xs / d), ((num B xs % d : Nat) : Int)) := by
 refine .next (s' := .p4 xs d (List.replicate xs.length 0) ((0 : Nat) : Int) ((xs.length : Int) - 1)) ?_ (kzi lx hd hd0 hl xs.length _ _ (Nat.le_refl _) (by simp) hd0 (by simp [num]))
 show klr _ _ = _
 unfold klr
 rw [kd2 hl, Option.bind_some, wrap64 (by omega) (by omega)]
 rfl
theorem k61 {h : AH} {s : Sl} {xs : List Nat} (n : Nats h s xs) {d : Nat} (hd : d < B) (hd0 : 0 < d) (hl : xs.length ≤ 8796093022208) : ∃ (s' : Sl) (h' : AH), go (.fn F.ke8 [s.v, .int .u64 (d : Int)]) h = some (.tup [s'.v, .int .u64 ((num B xs % d : Nat) : Int)], h') ∧ Nats h' s' (digs B (num B xs / d)) ∧ Grow h h' ∧ Own h s' := by
 obtain ⟨_, h', e, s', rfl, n', g, o⟩ := k2b (k0o n.lt hd hd0 hl) n
 exact ⟨s', h', e, n', g, o⟩
theorem ku9 (a b : Int) : ior .u64 a b = ior .u64 b a := by
 unfold ior
 rw [BitVec.or_comm]
theorem k41 {x n : Nat} (hx : x < 18446744073709551616) (hn : n ≤ 63) : x * 2 ^ n % 18446744073709551616 = x % 2 ^ (64 - n) * 2 ^ n ∧ x * 2 ^ n / 18446744073709551616 = x / 2 ^ (64 - n) ∧ x / 2 ^ (64 - n) < 2 ^ n ∧ x % 2 ^ (64 - n) * 2 ^ n < 18446744073709551616 := by
 have p : 0 < 2 ^ n := Nat.pow_pos (by decide)
 have p2 : 0 < 2 ^ (64 - n) := Nat.pow_pos (by decide)
 have e : 2 ^ (64 - n) * 2 ^ n = 18446744073709551616 := by rw [← Nat.pow_add, show 64 - n + n = 64 from by omega]
 refine ⟨?_, ?_, ?_, ?_⟩
 ·rw [← e, Nat.mul_mod_mul_right]
 ·rw [← e, Nat.mul_div_mul_right _ _ p]
 ·rw [Nat.div_lt_iff_lt_mul p2, Nat.mul_comm, e]
  exact hx
 ·have := Nat.mul_lt_mul_of_pos_right (Nat.mod_lt x p2) p
  rw [e] at this
  exact this
theorem up_alg {P c l hgh t n0 n1 n2 X : Nat} (h1 : n1 + P * c = n0 + P * (l + c)) (h2 : n2 + P * 18446744073709551616 * 0 = n1 + P * 18446744073709551616 * hgh) (ht : t = hgh * 18446744073709551616 + l) (h3 : n0 = X) : n2 = X + P * t := by
 rw [Nat.mul_add] at h1
 rw [ht, Nat.mul_add, Nat.mul_comm hgh, ← Nat.mul_assoc]
 omega
theorem ks1 {xs : List Nat} {n : Nat} (lx : ∀ x ∈ xs, x < B) (hn : n ≤ 63) (hl : xs.length < 8796093022208) :
  ∀ (d i : Nat) (o : List Nat), i + d = xs.length → o.length = xs.length + 1 → (∀ y ∈ o, y < B) → Empty o (i + 1) → (∀ h : i < o.length, o[i] < 2 ^ n) → num B o = num B (xs.take i) * 2 ^ n →
   ∃ r, Iter ki8 (.p3 n o xs xs.length i) r ∧ r.length = xs.length + 1 ∧ (∀ y ∈ r, y < B) ∧ num B r = num B xs * 2 ^ n
 | 0, i, o, hi, lo, to, zo, ho, e => by
  have hi : i = xs.length := by omega
  subst hi
  rw [List.take_length] at e
  refine ⟨o, .done ?_, lo, to, e⟩
  show kfa _ _ _ _ _ = _
  unfold kfa
  rw [condF (by rw [decide_eq_false_iff_not]; omega)]
 | d + 1, i, o, hi, lo, to, zo, ho, e => by
  have hi' : i < xs.length := by omega
  have hio : i < o.length := by omega
  have hx : xs[i] < 18446744073709551616 := lx xs[i] (List.getElem_mem _)
  have hc := ho hio
  obtain ⟨u1, u2, u3, u4⟩ := k41 hx hn
  have shl : ishl .u64 (xs[i] : Int) (n : Int) = ((xs[i] % 2 ^ (64 - n) * 2 ^ n : Nat) : Int) := by rw [kjw _ _ (by omega), u1]
  have io : ior .u64 (o[i] : Int) ((xs[i] % 2 ^ (64 - n) * 2 ^ n : Nat) : Int) = ((xs[i] % 2 ^ (64 - n) * 2 ^ n + o[i] : Nat) : Int) := by rw [ku9, kqg u4 hc (by omega)]
  have hw : xs[i] % 2 ^ (64 - n) * 2 ^ n + o[i] < 18446744073709551616 := by
   have p : 0 < 2 ^ n := Nat.pow_pos (by decide)
   have p2 : 0 < 2 ^ (64 - n) := Nat.pow_pos (by decide)
   have e : 2 ^ (64 - n) * 2 ^ n = 18446744073709551616 := by rw [← Nat.pow_add, show 64 - n + n = 64 from by omega]
   have := Nat.mul_le_mul_right (2 ^ n) (Nat.mod_lt xs[i] p2)
   rw [e, Nat.succ_mul] at this
   omega
  generalize hlw : xs[i] % 2 ^ (64 - n) * 2 ^ n = l at *
  have hset : i + 1 < (o.set i (l + o[i])).length := by simp; omega
  have h1 := kh2 (b := B) hio (l + o[i])
  have hz : (o.set i (l + o[i]))[i + 1] = 0 := by
   rw [List.getElem_set_ne (by omega)]
   exact zo _ (by omega) (by omega)
  have htot : xs[i] * 2 ^ n = xs[i] / 2 ^ (64 - n) * 18446744073709551616 + l := by
   have := Nat.div_add_mod (xs[i] * 2 ^ n) 18446744073709551616
   rw [u2, u1, Nat.mul_comm] at this
   exact this.symm
  have htake : num B (xs.take (i + 1)) * 2 ^ n = num B (xs.take i) * 2 ^ n + B ^ i * (xs[i] * 2 ^ n) := by
   rw [kch B hi', Nat.add_mul, Nat.mul_assoc]
  have hB : xs[i] / 2 ^ (64 - n) < 18446744073709551616 := Nat.lt_of_le_of_lt (Nat.div_le_self _ _) hx
  by_cases hn0 : n = 0
  ·
   have hh : xs[i] / 2 ^ (64 - n) = 0 := by
    subst hn0
    rw [Nat.pow_zero] at u3
    omega
   obtain ⟨r, it, r1, r2, r3⟩ := ks1 lx hn hl d (i + 1) (o.set i (l + o[i])) (by omega) (by simpa using lo) (set_lt to hw) (by intro t ht hk; rw [List.getElem_set_ne (by omega)]; exact zo t (by simpa using ht) (by omega)) (by intro ht; rw [hz]; exact Nat.pow_pos (by decide)) (by
    rw [htake, htot, hh]
    exact up_alg (hgh := 0) h1 (by omega) rfl e)
   refine ⟨r, .next ?_ it, r1, r2, r3⟩
   show kfa _ _ _ _ _ = _
   unfold kfa
   rw [condT (by rw [decide_eq_true_eq]; omega), kbm hi', Option.bind_some, kbh hio, Option.bind_some, condF (by rw [decide_eq_false_iff_not]; omega), Option.bind_some, kdi hio, shl, io, kbc hw, Option.bind_some, condF (by rw [decide_eq_false_iff_not]; omega), kw (by omega)]
  ·have h2 := kh2 (b := B) hset (xs[i] / 2 ^ (64 - n))
   rw [hz] at h2
   obtain ⟨r, it, r1, r2, r3⟩ := ks1 lx hn hl d (i + 1) ((o.set i (l + o[i])).set (i + 1) (xs[i] / 2 ^ (64 - n))) (by omega) (by simpa using lo) (set_lt (set_lt to hw) hB) (by intro t ht hk; rw [List.getElem_set_ne (by omega), List.getElem_set_ne (by omega)]; exact zo t (by simpa using ht) (by omega)) (by intro ht; rw [List.getElem_set_self]; exact u3) (by
    rw [htake]
    rw [Nat.pow_succ] at h2
    exact up_alg h1 h2 htot e)
   refine ⟨r, .next ?_ it, r1, r2, r3⟩
   have sh2 : ishr .u64 (xs[i] : Int) ((64 - n : Nat) : Int) = ((xs[i] / 2 ^ (64 - n) : Nat) : Int) := by rw [kbx, Nat.min_eq_left (by omega)]
   have w64 : IntKind.wrap .u64 (64 - (n : Int)) = ((64 - n : Nat) : Int) := by rw [wrapU]; omega
   show kfa _ _ _ _ _ = _
   unfold kfa
   rw [condT (by rw [decide_eq_true_eq]; omega), kbm hi', Option.bind_some, kbh hio, Option.bind_some, condF (by rw [decide_eq_false_iff_not]; omega), Option.bind_some, kdi hio, shl, io, kbc hw, Option.bind_some, condT (by rw [decide_eq_true_eq]; omega), w64, condF (by rw [decide_eq_false_iff_not]; omega), kw (by omega), kbh (by omega), Option.bind_some, sh2, kbc hB, Option.bind_some]
theorem kzv {xs : List Nat} {n : Nat} (lx : ∀ x ∈ xs, x < B) (hn : n ≤ 63) (hl : xs.length < 8796093022208) : ∃ r, Iter ki8 (.fn xs n) r ∧ r.length = xs.length + 1 ∧ (∀ y ∈ r, y < B) ∧ num B r = num B xs * 2 ^ n := by
 obtain ⟨r, it, k⟩ := ks1 lx hn hl xs.length 0 (List.replicate (xs.length + 1) 0) (by omega) (by simp) (fun y hy => by rw [List.eq_of_mem_replicate hy]; exact B0) (fun t ht hk => by simp) (fun ht => by simp; exact Nat.pow_pos (by decide)) (by
  have := kex B [] (xs.length + 1)
  simpa [num] using this)
 refine ⟨r, .next ?_ it, k⟩
 show kkr _ _ = _
 unfold kkr
 rw [kw (by omega), kd2 (by omega), Option.bind_some]
 rfl
end Go.Ab

/- squeezed -/
set_option linter.unusedVariables false
set_option linter.unusedSimpArgs false
set_option maxRecDepth 10000
namespace Go.Ab
open Go.Proofs Go.Num
theorem kn_hi2 {b v1 v0 W r0 q r : Nat} (hv : 0 < v1 * b + v0) (e : q * v1 + r = W) (t : b * r + r0 < q * v0) : (W * b + r0) / (v1 * b + v0) ≤ q - 1 ∧ 1 ≤ q := by
 have h1 : (W * b + r0) / (v1 * b + v0) < q := by
  rw [Nat.div_lt_iff_lt_mul hv, kn_mul (v := v1 * b + v0) rfl, ← e, Nat.add_mul, Nat.mul_comm r b]
  omega
 generalize (W * b + r0) / (v1 * b + v0) = k at *
 omega
theorem ky9 {d1 d0 W r0 : Nat} (h1 : d1 < 18446744073709551616) (h1' : 0 < d1) (h0 : d0 < 18446744073709551616) (hr : r0 < 18446744073709551616) :
  ∀ (q r : Nat), q * d1 + r = W → q < 18446744073709551616 → r < 18446744073709551616 → (W * 18446744073709551616 + r0) / (d1 * 18446744073709551616 + d0) ≤ q →
   ∃ g : Nat, Iter kij (.p4 r0 d1 d0 q r) (g : Int) ∧ g < 18446744073709551616 ∧ (W * 18446744073709551616 + r0) / (d1 * 18446744073709551616 + d0) ≤ g
 | q, r, e, hq, hrr, hge => by
  have hm : mul64 (q : Int) (d0 : Int) = (((q * d0 / 18446744073709551616 : Nat) : Int), ((q * d0 % 18446744073709551616 : Nat) : Int)) := kr1 hq h0
  by_cases c1 : q * d0 / 18446744073709551616 < r
  ·refine ⟨q, .done ?_, hq, hge⟩
   show kep _ _ _ _ _ = _
   unfold kep
   rw [hm]
   dsimp only
   rw [condT (by rw [decide_eq_true_eq]; omega)]
  by_cases c2 : q * d0 / 18446744073709551616 = r ∧ q * d0 % 18446744073709551616 ≤ r0
  ·refine ⟨q, .done ?_, hq, hge⟩
   show kep _ _ _ _ _ = _
   unfold kep
   rw [hm]
   dsimp only
   rw [condF (by rw [decide_eq_false_iff_not]; omega), condT (by rw [decide_eq_true_eq]; omega), condT (by rw [decide_eq_true_eq]; omega)]
  have t : 18446744073709551616 * r + r0 < q * d0 := by
   generalize q * d0 = t at *
   omega
  obtain ⟨k1, k2⟩ := kn_hi2 (by omega) e t
  obtain ⟨p, rfl⟩ : ∃ p, q = p + 1 := ⟨q - 1, by omega⟩
  rw [Nat.add_sub_cancel] at k1
  have e' : p * d1 + (r + d1) = W := by
   rw [Nat.add_mul, Nat.one_mul] at e
   omega
  have w1 : IntKind.wrap .u64 (((p + 1 : Nat) : Int) - 1) = (p : Int) := by rw [wrapU]; omega
  have step : ∀ o, cond (decide ((IntKind.wrap .u64 ((r : Int) + (d1 : Int))) < (r : Int))) (some (Sum.inr (α := kem) (p : Int))) (some (.inl (.p4 r0 d1 d0 p (IntKind.wrap .u64 ((r : Int) + (d1 : Int)))))) = o → kij (.p4 r0 d1 d0 ((p + 1 : Nat) : Int) r) = o := by
   intro o ho
   show kep _ _ _ _ _ = _
   unfold kep
   rw [hm]
   dsimp only
   rw [w1, condF (by rw [decide_eq_false_iff_not]; omega)]
   refine kbw (fun _ => ?_) fun _ => ho
   rw [condF (by rw [decide_eq_false_iff_not]; rename_i h; rw [decide_eq_true_eq] at h; omega)]
   exact ho
  by_cases ho : r + d1 < 18446744073709551616
  ·have w2 : IntKind.wrap .u64 ((r : Int) + (d1 : Int)) = ((r + d1 : Nat) : Int) := by rw [wrapU]; omega
   obtain ⟨g, it, k3, k4⟩ := ky9 h1 h1' h0 hr p (r + d1) e' (by omega) ho k1
   refine ⟨g, .next (step _ ?_) it, k3, k4⟩
   rw [w2, condF (by rw [decide_eq_false_iff_not]; omega)]
  ·have w2 : IntKind.wrap .u64 ((r : Int) + (d1 : Int)) = ((r + d1 - 18446744073709551616 : Nat) : Int) := by rw [wrapU]; omega
   refine ⟨p, .done (step _ ?_), by omega, k1⟩
   rw [w2, condT (by rw [decide_eq_true_eq]; omega)]
termination_by q => q
theorem kbc5 {r2 r1 r0 d1 d0 : Nat} (h2 : r2 < 18446744073709551616) (hr1 : r1 < 18446744073709551616) (hr : r0 < 18446744073709551616) (h1 : d1 < 18446744073709551616) (h1' : 0 < d1) (h0 : d0 < 18446744073709551616) :
  ∃ g : Nat, Iter kij (.fn r2 r1 r0 d1 d0) (g : Int) ∧ g < 18446744073709551616 ∧ (g = 18446744073709551615 ∨ ((r2 * 18446744073709551616 + r1) * 18446744073709551616 + r0) / (d1 * 18446744073709551616 + d0) ≤ g) := by
 by_cases hc : d1 ≤ r2
 ·refine ⟨18446744073709551615, .done ?_, by omega, .inl rfl⟩
  show khy _ _ _ _ _ = _
  unfold khy
  rw [condT (by rw [decide_eq_true_eq]; omega)]
  rfl
 ·have hr2 : r2 < d1 := by omega
  have hq : (r2 * 18446744073709551616 + r1) / d1 < 18446744073709551616 := by
   rw [Nat.div_lt_iff_lt_mul h1']
   have : (r2 + 1) * 18446744073709551616 ≤ d1 * 18446744073709551616 := Nat.mul_le_mul_right _ hr2
   omega
  have hm := Nat.mod_lt (r2 * 18446744073709551616 + r1) h1'
  have first : ((r2 * 18446744073709551616 + r1) * 18446744073709551616 + r0) / (d1 * 18446744073709551616 + d0) ≤ (r2 * 18446744073709551616 + r1) / d1 := by
   rw [Nat.le_div_iff_mul_le h1']
   have h3 := Nat.div_mul_le_self ((r2 * 18446744073709551616 + r1) * 18446744073709551616 + r0) (d1 * 18446744073709551616 + d0)
   rw [kn_mul (v := d1 * 18446744073709551616 + d0) rfl] at h3
   have h4 : ((r2 * 18446744073709551616 + r1) * 18446744073709551616 + r0) / (d1 * 18446744073709551616 + d0) * d1 * 18446744073709551616 < (r2 * 18446744073709551616 + r1 + 1) * 18446744073709551616 := by
    rw [Nat.add_mul _ 1]
    omega
   have := Nat.lt_of_mul_lt_mul_right h4
   omega
  obtain ⟨g, it, k3, k4⟩ := ky9 h1 h1' h0 hr ((r2 * 18446744073709551616 + r1) / d1) ((r2 * 18446744073709551616 + r1) % d1) (by rw [Nat.mul_comm]; exact Nat.div_add_mod _ _) hq (by omega) first
  refine ⟨g, .next ?_ it, k3, .inr k4⟩
  show khy _ _ _ _ _ = _
  unfold khy
  rw [condF (by rw [decide_eq_false_iff_not]; omega), kwq h1 hr1 hr2, Option.bind_some]
end Go.Ab

/- squeezed -/
set_option linter.unusedVariables false
set_option linter.unusedSimpArgs false
set_option maxRecDepth 10000
namespace Go.Ab
open Go.Proofs Go.Num
theorem kly {s : Nat} (hs : s ≤ 64) : 2 ^ (64 - s) * 2 ^ s = 18446744073709551616 := by rw [← Nat.pow_add, show 64 - s + s = 64 from by omega]
theorem k9j {s : Nat} (hs : s ≤ 64) (t : List Nat) : num B t % 2 ^ s = t.getD 0 0 % 2 ^ s := by
 cases t with
 | nil => rfl
 | cons x t =>
  show (x + B * num B t) % 2 ^ s = x % 2 ^ s
  have e : B * num B t = 2 ^ s * (2 ^ (64 - s) * num B t) := by
   rw [← Nat.mul_assoc, Nat.mul_comm (2 ^ s), kly hs]
  rw [e, Nat.add_mul_mod_self_left]
theorem k38 {s x : Nat} (hs : s ≤ 64) (t : List Nat) : (x + B * num B t) / 2 ^ s = (t.getD 0 0 % 2 ^ s * 2 ^ (64 - s) + x / 2 ^ s) + B * (num B t / 2 ^ s) := by
 have p : 0 < 2 ^ s := Nat.pow_pos (by decide)
 have hm := k9j hs t
 have dm := Nat.div_add_mod (num B t) (2 ^ s)
 rw [hm] at dm
 generalize t.getD 0 0 % 2 ^ s = z at *
 generalize num B t / 2 ^ s = q at *
 have e : x + B * num B t = x + 2 ^ s * (B * q + 2 ^ (64 - s) * z) := by
  rw [← dm, Nat.mul_add, Nat.mul_add, Nat.mul_left_comm B, ← Nat.mul_assoc (2 ^ s) (2 ^ (64 - s)), Nat.mul_comm (2 ^ s) (2 ^ (64 - s)), kly hs]
 rw [e, Nat.add_mul_div_left _ _ p, Nat.mul_comm (2 ^ (64 - s))]
 omega
theorem k7m {s x z : Nat} (hs : s ≤ 64) (hx : x < 18446744073709551616) : z % 2 ^ s * 2 ^ (64 - s) + x / 2 ^ s < 18446744073709551616 ∧ x / 2 ^ s < 2 ^ (64 - s) ∧ z % 2 ^ s * 2 ^ (64 - s) < 18446744073709551616 := by
 have p : 0 < 2 ^ s := Nat.pow_pos (by decide)
 have e := kly hs
 have h1 : x / 2 ^ s < 2 ^ (64 - s) := by rw [Nat.div_lt_iff_lt_mul p, e]; exact hx
 have h2 := Nat.mul_le_mul_right (2 ^ (64 - s)) (Nat.mod_lt z p)
 rw [Nat.mul_comm (2 ^ s), e, Nat.succ_mul] at h2
 generalize x / 2 ^ s = f at *
 omega
theorem kmu {q L : List Nat} {s : Nat} (lL : ∀ x ∈ L, x < B) (hs : s ≤ 63) (hl : L.length ≤ 8796093022208) :
  ∀ (d i : Nat) (o : List Nat), i + d = L.length → o.length = L.length → num B (o.take i) + B ^ i * (num B (L.drop i) / 2 ^ s) = num B L / 2 ^ s →
   Iter kid (.p18 s q L o L.length i) (digs B (num B q), digs B (num B L / 2 ^ s))
 | 0, i, o, hi, lo, e => by
  have hi : i = L.length := by omega
  subst hi
  refine .done ?_
  show kdz _ _ _ _ _ _ = _
  unfold kdz
  rw [condF (by rw [decide_eq_false_iff_not]; omega)]
  rw [List.take_of_length_le (by omega), List.drop_of_length_le (by omega)] at e
  simp only [num, Nat.zero_div, Nat.mul_zero, Nat.add_zero] at e
  rw [e]
 | d + 1, i, o, hi, lo, e => by
  have hi' : i < L.length := by omega
  have hio : i < o.length := by omega
  have hx : L[i] < 18446744073709551616 := lL L[i] (List.getElem_mem _)
  obtain ⟨w1, w2, w3⟩ := k7m (z := (L.drop (i + 1)).getD 0 0) (show s ≤ 64 by omega) hx
  have hg : (L.drop (i + 1)).getD 0 0 = L.getD (i + 1) 0 := by simp [List.getD]
  have inv : ∀ w, w = (L.drop (i + 1)).getD 0 0 % 2 ^ s * 2 ^ (64 - s) + L[i] / 2 ^ s → num B ((o.set i w).take (i + 1)) + B ^ (i + 1) * (num B (L.drop (i + 1)) / 2 ^ s) = num B L / 2 ^ s := by
   intro w hw
   rw [List.drop_eq_getElem_cons hi'] at e
   simp only [num] at e
   rw [k38 (by omega), ← hw] at e
   rw [kch B (by simpa using hio), List.getElem_set_self, List.take_set_of_le (Nat.le_refl i), Nat.pow_succ, Nat.mul_assoc]
   rw [Nat.mul_add] at e
   omega
  have sr : ishr .u64 (L[i] : Int) (s : Int) = ((L[i] / 2 ^ s : Nat) : Int) := by rw [kbx, Nat.min_eq_left (by omega)]
  have hL0 : L[i] / 2 ^ s < 18446744073709551616 := Nat.lt_of_le_of_lt (Nat.div_le_self _ _) hx
  by_cases hs0 : s = 0
  ·subst hs0
   refine .next (s' := .p18 ((0 : Nat) : Int) q L (o.set i (L[i] / 2 ^ 0)) L.length ((i + 1 : Nat) : Int)) ?_ (kmu lL hs hl d (i + 1) _ (by omega) (by simpa using lo) (inv _ (by rw [Nat.pow_zero, Nat.mod_one]; omega)))
   show kdz _ _ _ _ _ _ = _
   unfold kdz
   rw [condT (by rw [decide_eq_true_eq]; omega), kbm hi', Option.bind_some, condF (by rfl), kbh hio, Option.bind_some, sr, kbc hL0, Option.bind_some, condF (by rfl), kw (by omega)]
  by_cases hl1 : i + 1 < L.length
  ·have hg' : L.getD (i + 1) 0 = L[i + 1] := kdi hl1
   rw [hg, hg'] at w1 w3 inv
   refine .next (s' := .p18 s q L (o.set i (L[i + 1] % 2 ^ s * 2 ^ (64 - s) + L[i] / 2 ^ s)) L.length ((i + 1 : Nat) : Int)) ?_ (kmu lL hs hl d (i + 1) _ (by omega) (by simpa using lo) (inv _ rfl))
   show kdz _ _ _ _ _ _ = _
   unfold kdz
   have w64 : IntKind.wrap .u64 (64 - (s : Int)) = ((64 - s : Nat) : Int) := by rw [wrapU]; omega
   have sl : ishl .u64 (L[i + 1] : Int) ((64 - s : Nat) : Int) = ((L[i + 1] % 2 ^ s * 2 ^ (64 - s) : Nat) : Int) := by
    rw [kjw _ _ (by omega)]
    congr 1
    rw [← kly (show s ≤ 64 by omega), Nat.mul_comm (2 ^ (64 - s)) (2 ^ s), Nat.mul_mod_mul_right]
   have io : ior .u64 ((L[i] / 2 ^ s : Nat) : Int) ((L[i + 1] % 2 ^ s * 2 ^ (64 - s) : Nat) : Int) = ((L[i + 1] % 2 ^ s * 2 ^ (64 - s) + L[i] / 2 ^ s : Nat) : Int) := by rw [ku9, kqg w3 w2 (by omega)]
   have hio2 : i < (o.set i (L[i] / 2 ^ s)).length := by simpa using hio
   rw [condT (by rw [decide_eq_true_eq]; omega), kbm hi', Option.bind_some, condF (by rw [decide_eq_false_iff_not]; omega), kbh hio, Option.bind_some, sr, kbc hL0, Option.bind_some, condT (by rw [decide_eq_true_eq]; omega), kw (by omega), condT (by rw [decide_eq_true_eq]; omega), Option.bind_some, kbm hl1, Option.bind_some, w64, condF (by rw [decide_eq_false_iff_not]; omega), Option.bind_some, kdi hio2, List.getElem_set_self, sl, io, kbc w1, Option.bind_some, List.set_set]
  ·have hg' : L.getD (i + 1) 0 = 0 := by simp [List.getD, List.getElem?_eq_none (Nat.le_of_not_lt hl1)]
   rw [hg, hg'] at inv
   refine .next (s' := .p18 s q L (o.set i (L[i] / 2 ^ s)) L.length ((i + 1 : Nat) : Int)) ?_ (kmu lL hs hl d (i + 1) _ (by omega) (by simpa using lo) (inv _ (by rw [Nat.zero_mod]; omega)))
   show kdz _ _ _ _ _ _ = _
   unfold kdz
   rw [condT (by rw [decide_eq_true_eq]; omega), kbm hi', Option.bind_some, condF (by rw [decide_eq_false_iff_not]; omega), kbh hio, Option.bind_some, sr, kbc hL0, Option.bind_some, condT (by rw [decide_eq_true_eq]; omega), kw (by omega), condF (by rw [decide_eq_false_iff_not]; omega)]
theorem cmp_ge {a b : Nat} : cmp a b ≥ 0 ↔ b ≤ a := by
 unfold cmp
 by_cases h : a < b
 ·rw [if_pos h]; omega
 ·rw [if_neg h]
  by_cases h2 : a = b
  ·rw [if_pos h2]; omega
  ·rw [if_neg h2]; omega
theorem kba3 {xs ys : List Nat} {lo n : Nat} (h : lo + n ≤ xs.length) (hy : ys.length = n) : setW xs lo n ys = some (xs.take lo ++ ys ++ xs.drop (lo + n)) := by
 unfold setW
 rw [if_pos ⟨h, hy⟩]
theorem kzm {s : Int} {r d q : List Nat} {j : Nat} {res : kb6} (hr : ∀ x ∈ r, x < B) (hd : ∀ x ∈ d, x < B) (hj : j < q.length) (hw : j + (d.length + 1) ≤ r.length) (hrl : r.length ≤ 1073741823) (hql : q.length ≤ 1073741823) (hd0 : 0 < num B d)
  (K : Iter kid (.p6 s (r.take j ++ padD B (d.length + 1) (num B ((r.drop j).take (d.length + 1)) % num B d) ++ r.drop (j + (d.length + 1))) d d.length (q.set j (num B ((r.drop j).take (d.length + 1)) / num B d)) ((j : Int) - 1)) res) :
  ∀ g : Nat, g < 18446744073709551616 → num B ((r.drop j).take (d.length + 1)) / num B d ≤ g → Iter kid (.p10 s r d d.length q j g (j, d.length + 1)) res
 | g, hg, hge => by
  have lw : ((r.drop j).take (d.length + 1)).length = d.length + 1 := by simp; omega
  have tw : ∀ x ∈ (r.drop j).take (d.length + 1), x < B := fun x hx => hr x (List.mem_of_mem_drop (List.mem_of_mem_take hx))
  have hP := num_lt B1 tw
  rw [lw] at hP
  have lg : (digs B g).length ≤ 1 := by
   rw [kx B2, Nat.pow_one]
   exact hg
  by_cases hc : num B d * g ≤ num B ((r.drop j).take (d.length + 1))
  ·have hq : num B ((r.drop j).take (d.length + 1)) / num B d = g := Nat.le_antisymm hge (by rw [Nat.le_div_iff_mul_le hd0, Nat.mul_comm]; exact hc)
   have hm : num B ((r.drop j).take (d.length + 1)) - num B d * g = num B ((r.drop j).take (d.length + 1)) % num B d := by
    have := Nat.div_add_mod (num B ((r.drop j).take (d.length + 1))) (num B d)
    rw [hq] at this
    omega
   rw [hq] at K
   refine .next ?_ K
   show khw _ _ _ _ _ _ _ _ = _
   unfold khw
   have lp : (digs B (num B d * g)).length ≤ d.length + 1 := by
    rw [kx B2]
    omega
   rw [kbc hg, Option.bind_some, ki (by omega), Option.bind_some, ki (by rw [lw]; omega), Option.bind_some, ki (kcq B2 _), Option.bind_some, ki (kcq B2 _), Option.bind_some]
   dsimp only
   rw [kf B2, kf B2, kf B2, condT (by rw [decide_eq_true_eq, cmp_ge]; exact hc), ki (by rw [lw]; exact ⟨by omega, lp, hc⟩), Option.bind_some, lw, hm, kba3 (by omega) (ksz _ _ _), Option.bind_some, kbh hj, Option.bind_some, Option.bind_some, wrap64 (by omega) (by omega)]
  ·obtain ⟨p, rfl⟩ : ∃ p, g = p + 1 := ⟨g - 1, by
    rcases Nat.eq_zero_or_pos g with e | e
    ·subst e; rw [Nat.mul_zero] at hc; omega
    ·omega⟩
   have hlt : num B ((r.drop j).take (d.length + 1)) / num B d < p + 1 := by
    rw [Nat.div_lt_iff_lt_mul hd0, Nat.mul_comm]
    omega
   refine .next (s' := .p10 s r d d.length q j p (j, d.length + 1)) ?_ (kzm hr hd hj hw hrl hql hd0 K p (by omega) (by omega))
   show khw _ _ _ _ _ _ _ _ = _
   unfold khw
   rw [kbc hg, Option.bind_some, ki (by omega), Option.bind_some, ki (by rw [lw]; omega), Option.bind_some, ki (kcq B2 _), Option.bind_some, ki (kcq B2 _), Option.bind_some]
   dsimp only
   rw [kf B2, kf B2, kf B2, condF (by rw [decide_eq_false_iff_not, cmp_ge]; exact hc), show IntKind.wrap .u64 (((p + 1 : Nat) : Int) - 1) = (p : Int) from by rw [wrapU]; omega]
termination_by g => g
end Go.Ab

/- squeezed -/
set_option linter.unusedVariables false
set_option linter.unusedSimpArgs false
set_option maxRecDepth 10000
namespace Go.Ab
open Go.Proofs Go.Num
theorem k2i {b : Nat} {zs : List Nat} {n : Nat} (h : zs.length = n + 2) : num b zs = num b (zs.take n) + b ^ n * (zs[n + 1] * b + zs[n]) := by
 have e : num b zs = num b (zs.take (n + 1 + 1)) := by rw [List.take_of_length_le (by omega)]
 rw [e, kch b (by omega), kch b (by omega), Nat.pow_succ, Nat.mul_add, Nat.mul_assoc, Nat.mul_comm b]
 omega
theorem k8c {b : Nat} {zs : List Nat} {n : Nat} (h : zs.length = n + 3) : num b zs = num b (zs.take n) + b ^ n * ((zs[n + 2] * b + zs[n + 1]) * b + zs[n]) := by
 have e : num b zs = num b (zs.take (n + 1 + 1 + 1)) := by rw [List.take_of_length_le (by omega)]
 rw [e, kch b (by omega), kch b (by omega), kch b (by omega)]
 have e1 : b ^ (n + 1) * zs[n + 1] = b ^ n * (zs[n + 1] * b) := by rw [Nat.pow_succ, Nat.mul_assoc, Nat.mul_comm b]
 have e2 : b ^ (n + 1 + 1) * zs[n + 1 + 1] = b ^ n * (zs[n + 2] * b * b) := by rw [Nat.pow_succ, Nat.pow_succ, Nat.mul_assoc, Nat.mul_assoc, Nat.mul_comm b, Nat.mul_comm b]
 rw [e1, e2, Nat.add_mul, Nat.mul_add, Nat.mul_add]
 omega
theorem top_le {E T D p e : Nat} (hp : p < E) (hD : 0 < D) : (p + E * T) / (e + E * D) ≤ T / D := by
 have hE : 0 < E := by omega
 have hv : 0 < e + E * D := by have := Nat.mul_pos hE hD; omega
 have h1 : T < (T / D + 1) * D := by rw [Nat.mul_comm]; exact Nat.lt_mul_div_succ T hD
 have h2 : E * (T + 1) ≤ E * ((T / D + 1) * D) := Nat.mul_le_mul_left _ h1
 rw [Nat.mul_add, Nat.mul_one] at h2
 have h3 : (p + E * T) / (e + E * D) < T / D + 1 := by
  rw [Nat.div_lt_iff_lt_mul hv, Nat.mul_add, Nat.mul_left_comm _ E D]
  omega
 omega
theorem kbb2 {dn P low Bj X Qh n1 : Nat} (h1 : n1 + dn * (Bj * 18446744073709551616) * Qh = X) (h2 : n1 = low + Bj * P) : low + Bj * (P % dn) + dn * Bj * (P / dn + 18446744073709551616 * Qh) = X := by
 have dm := Nat.div_add_mod P dn
 have e1 : Bj * P = Bj * (dn * (P / dn)) + Bj * (P % dn) := by rw [← Nat.mul_add, dm]
 have e2 : dn * Bj * (P / dn) = Bj * (dn * (P / dn)) := by rw [Nat.mul_comm dn Bj, Nat.mul_assoc]
 have e3 : dn * (Bj * 18446744073709551616) * Qh = dn * Bj * (18446744073709551616 * Qh) := by rw [← Nat.mul_assoc dn, Nat.mul_assoc (dn * Bj)]
 rw [Nat.mul_add, e2, ← e3]
 omega
theorem kv6 {s X m k : Nat} {d : List Nat} (hs : s ≤ 63) (hk : d.length = k + 2) (hd : ∀ x ∈ d, x < B) (ht : Trim d) (hm : m ≤ 536870911) (hk2 : k ≤ 536870000) :
  ∀ (i : Nat) (r q : List Nat), i ≤ m → r.length = m + (k + 2) → q.length = m → (∀ x ∈ r, x < B) → num B r + num B d * B ^ i * num B (q.drop i) = X → num B r < num B d * B ^ i →
   Iter kid (.p6 s r d d.length q ((i : Int) - 1)) (digs B (X / num B d), digs B (X % num B d / 2 ^ s))
 | 0, r, q, hi, lr, lq, tr, e, lt => by
  rw [List.drop_zero, Nat.pow_zero, Nat.mul_one] at e
  rw [Nat.pow_zero, Nat.mul_one] at lt
  have hd0 : 0 < num B d := by omega
  have hq : X / num B d = num B q := by rw [← e, Nat.add_mul_div_left _ _ hd0, Nat.div_eq_of_lt lt, Nat.zero_add]
  have hr : X % num B d = num B r := by rw [← e, Nat.add_mul_mod_self_left, Nat.mod_eq_of_lt lt]
  rw [hq, hr]
  have hl := kj2 tr
  have key := kmu (q := q) (kz B2 (num B r)) hs (by omega) (digs B (num B r)).length 0 (List.replicate (digs B (num B r)).length 0) (by omega) (by simp) (by simp [num])
  rw [kf B2] at key
  refine .next ?_ key
  show khb _ _ _ _ _ _ = _
  unfold khb
  rw [condF (by rw [decide_eq_false_iff_not]; omega), kd2 (by omega), Option.bind_some]
  rfl
 | j + 1, r, q, hi, lr, lq, tr, e, lt => by
  have hd0 : 0 < num B d := by
   rcases Nat.eq_zero_or_pos (num B d) with h | h
   ·rw [h, Nat.zero_mul] at lt; omega
   ·exact h
  have hdB := num_lt B1 hd
  rw [hk] at hdB
  have lw : ((r.drop j).take (d.length + 1)).length = k + 3 := by simp; omega
  have tw : ∀ x ∈ (r.drop j).take (d.length + 1), x < B := fun x hx => tr x (List.mem_of_mem_drop (List.mem_of_mem_take hx))
  have ltake : (r.take j).length = j := by simp; omega
  have er : num B r = num B (r.take j) + B ^ j * num B ((r.drop j).take (d.length + 1)) + B ^ (j + (d.length + 1)) * num B (r.drop (j + (d.length + 1))) := by
   have e1 : num B r = num B (r.take j ++ ((r.drop j).take (d.length + 1) ++ (r.drop j).drop (d.length + 1))) := by rw [List.take_append_drop, List.take_append_drop]
   rw [kcg, kcg, ltake, lw, List.drop_drop] at e1
   have e3 : j + (k + 3) = j + (d.length + 1) := by omega
   rw [e1, Nat.mul_add (B ^ j), ← Nat.mul_assoc (B ^ j), ← Nat.pow_add, e3]
   omega
  have hlow := num_lt (b := B) B1 (xs := r.take j) fun x hx => tr x (List.mem_of_mem_take hx)
  rw [ltake] at hlow
  have hrest : num B (r.drop (j + (d.length + 1))) = 0 := by
   rcases Nat.eq_zero_or_pos (num B (r.drop (j + (d.length + 1)))) with h | h
   ·exact h
   ·exfalso
    have h1 : B ^ (j + (d.length + 1)) * 1 ≤ B ^ (j + (d.length + 1)) * num B (r.drop (j + (d.length + 1))) := Nat.mul_le_mul_left _ h
    have h2 : num B d * B ^ (j + 1) ≤ B ^ (k + 2) * B ^ (j + 1) := Nat.mul_le_mul_right _ (by omega)
    rw [← Nat.pow_add, show k + 2 + (j + 1) = j + (d.length + 1) from by omega] at h2
    omega
  rw [hrest, Nat.mul_zero, Nat.add_zero] at er
  have hP : num B ((r.drop j).take (d.length + 1)) < num B d * B := by
   have h1 : B ^ j * num B ((r.drop j).take (d.length + 1)) < B ^ j * (num B d * B) := by
    have : num B d * B ^ (j + 1) = B ^ j * (num B d * B) := by rw [Nat.pow_succ, Nat.mul_left_comm]
    omega
   exact Nat.lt_of_mul_lt_mul_left h1
  have hq : num B ((r.drop j).take (d.length + 1)) / num B d < 18446744073709551616 := by
   rw [Nat.div_lt_iff_lt_mul hd0, Nat.mul_comm]
   exact hP
  have i2 : j + (k + 2) < r.length := by omega
  have i1 : j + (k + 1) < r.length := by omega
  have i0 : j + k < r.length := by omega
  have g2 : ((r.drop j).take (d.length + 1))[k + 2] = r[j + (k + 2)] := by simp
  have g1 : ((r.drop j).take (d.length + 1))[k + 1] = r[j + (k + 1)] := by simp
  have g0 : ((r.drop j).take (d.length + 1))[k] = r[j + k] := by simp
  have top := k8c (b := B) lw
  rw [g2, g1, g0] at top
  have topd := k2i (b := B) hk
  have hd1 : 0 < d[k + 1] := by
   have hne : d ≠ [] := by intro h; rw [h] at hk; simp at hk
   have := ht hne
   rw [List.getLast_eq_getElem] at this
   have e : d.length - 1 = k + 1 := by omega
   simp only [e] at this
   omega
  have lpt : (((r.drop j).take (d.length + 1)).take k).length = k := by simp; omega
  have hpt := num_lt (b := B) B1 (xs := ((r.drop j).take (d.length + 1)).take k) fun x hx => tw x (List.mem_of_mem_take hx)
  rw [lpt] at hpt
  have tl := top_le (E := B ^ k) (T := (r[j + (k + 2)] * B + r[j + (k + 1)]) * B + r[j + k]) (D := d[k + 1] * B + d[k]) (e := num B (d.take k)) hpt (by have : 1 * B ≤ d[k + 1] * B := Nat.mul_le_mul_right _ hd1; have := B0; omega)
  rw [← top, ← topd] at tl
  obtain ⟨g, itg, hg1, hg2⟩ := kbc5 (r2 := r[j + (k + 2)]) (r1 := r[j + (k + 1)]) (r0 := r[j + k]) (d1 := d[k + 1]) (d0 := d[k]) (tr _ (List.getElem_mem _)) (tr _ (List.getElem_mem _)) (tr _ (List.getElem_mem _)) (hd _ (List.getElem_mem _)) hd1 (hd _ (List.getElem_mem _))
  have hge : num B ((r.drop j).take (d.length + 1)) / num B d ≤ g := by
   rcases hg2 with h | h
   ·omega
   ·exact Nat.le_trans tl h
  have hmod := Nat.mod_lt (num B ((r.drop j).take (d.length + 1))) hd0
  have hpd : num B (padD B (d.length + 1) (num B ((r.drop j).take (d.length + 1)) % num B d)) = num B ((r.drop j).take (d.length + 1)) % num B d := by
   refine kuh B0 _ _ ?_
   have : B ^ (k + 2) ≤ B ^ (d.length + 1) := Nat.pow_le_pow_right B1 (by omega)
   omega
  have nr : num B (r.take j ++ padD B (d.length + 1) (num B ((r.drop j).take (d.length + 1)) % num B d) ++ r.drop (j + (d.length + 1))) = num B (r.take j) + B ^ j * (num B ((r.drop j).take (d.length + 1)) % num B d) := by
   rw [kcg, kcg, hrest, Nat.mul_zero, Nat.add_zero, ltake, hpd]
  have hjq : j < q.length := by omega
  have IH := kv6 (s := s) (X := X) hs hk hd ht hm hk2 j (r.take j ++ padD B (d.length + 1) (num B ((r.drop j).take (d.length + 1)) % num B d) ++ r.drop (j + (d.length + 1))) (q.set j (num B ((r.drop j).take (d.length + 1)) / num B d)) (by omega) (by simp [ksz]; omega) (by simpa using lq) (by
    intro x hx
    rcases List.mem_append.1 hx with hx | hx
    ·rcases List.mem_append.1 hx with hx | hx
     ·exact tr x (List.mem_of_mem_take hx)
     ·exact kxq B0 _ _ x hx
    ·exact tr x (List.mem_of_mem_drop hx)) (by
    rw [nr, kq0 hjq]
    simp only [num]
    rw [Nat.pow_succ] at e
    exact kbb2 e er) (by
    rw [nr]
    have : B ^ j * (num B ((r.drop j).take (d.length + 1)) % num B d + 1) ≤ B ^ j * num B d := Nat.mul_le_mul_left _ hmod
    rw [Nat.mul_add, Nat.mul_one, Nat.mul_comm _ (num B d)] at this
    omega)
  refine .next (s' := .p10 s r d d.length q j g (j, d.length + 1)) ?_ (kzm tr hd hjq (by omega) (by omega) (by omega) hd0 IH g hg1 hge)
  show khb _ _ _ _ _ _ = _
  unfold khb
  have w0 : IntKind.wrap .i64 ((j : Int) + (d.length : Int)) = ((j + (k + 2) : Nat) : Int) := by rw [wrap64 (by omega) (by omega)]; omega
  rw [condT (by rw [decide_eq_true_eq]; omega), show ((j + 1 : Nat) : Int) - 1 = (j : Int) from by omega, w0]
  rw [show IntKind.wrap .i64 (((j + (k + 2) : Nat) : Int) - 1) = ((j + (k + 1) : Nat) : Int) from by rw [wrap64 (by omega) (by omega)]; omega]
  rw [show IntKind.wrap .i64 (((j + (k + 2) : Nat) : Int) - 2) = ((j + k : Nat) : Int) from by rw [wrap64 (by omega) (by omega)]; omega]
  rw [show IntKind.wrap .i64 ((d.length : Int) - 1) = ((k + 1 : Nat) : Int) from by rw [wrap64 (by omega) (by omega)]; omega]
  rw [show IntKind.wrap .i64 ((d.length : Int) - 2) = (k : Int) from by rw [wrap64 (by omega) (by omega)]; omega]
  rw [show IntKind.wrap .i64 (((j + (k + 2) : Nat) : Int) + 1) = ((j + (d.length + 1) : Nat) : Int) from by rw [wrap64 (by omega) (by omega)]; omega]
  rw [kbh i2, Option.bind_some, kbh i1, Option.bind_some, kbh i0, Option.bind_some, kbm (by omega), Option.bind_some, kbm (by omega), Option.bind_some, kdi i2, kdi i1, kdi i0, kbp itg, Option.bind_some, kui (by omega) (by omega), Option.bind_some]
end Go.Ab

/- squeezed -/
set_option linter.unusedVariables false
set_option linter.unusedSimpArgs false
set_option maxRecDepth 10000
namespace Go.Ab
open Go.Proofs Go.Num
theorem kba5 {xs ys : List Nat} (lx : ∀ x ∈ xs, x < B) (ly : ∀ x ∈ ys, x < B) (ty : Trim ys) (hy : 2 ≤ ys.length) (hxl : xs.length ≤ 64) (hle : ys.length ≤ xs.length) :
  Iter kid (.fn xs ys) (digs B (num B xs / num B ys), digs B (num B xs % num B ys)) := by
 obtain ⟨k, hk⟩ : ∃ k, ys.length = k + 2 := ⟨ys.length - 2, by omega⟩
 have hky : k + 1 < ys.length := by omega
 have hy0 : 0 < ys[k + 1] := by
  have hne : ys ≠ [] := by intro h; rw [h] at hk; simp at hk
  have := ty hne
  rw [List.getLast_eq_getElem] at this
  have e : ys.length - 1 = k + 1 := by omega
  simp only [e] at this
  omega
 have hyB : ys[k + 1] < 18446744073709551616 := ly _ (List.getElem_mem _)
 obtain ⟨hs, hb1, hb2⟩ := kuo hyB hy0
 obtain ⟨r, itr, lr, tr, vr⟩ := kzv (n := 64 - bl ys[k + 1]) lx hs (by omega)
 obtain ⟨p, itp, lp, tp, vp⟩ := kzv (n := 64 - bl ys[k + 1]) ly hs (by omega)
 have hs' : 64 - bl ys[k + 1] ≤ 63 := hs
 generalize hsd : 64 - bl ys[k + 1] = s at *
 have ps : 0 < 2 ^ s := Nat.pow_pos (by decide)
 have e64 := kly (show s ≤ 64 by omega)
 have eys : num B ys = num B (ys.take (k + 1)) + B ^ (k + 1) * ys[k + 1] := by
  have : num B ys = num B (ys.take (k + 1 + 1)) := by rw [List.take_of_length_le (by omega)]
  rw [this, kch B hky]
 have hlow := num_lt (b := B) B1 (xs := ys.take (k + 1)) fun x hx => ly x (List.mem_of_mem_take hx)
 have hl1 : (ys.take (k + 1)).length = k + 1 := by simp; omega
 rw [hl1] at hlow
 have y1 : ys[k + 1] + 1 ≤ 2 ^ (64 - s) := by
  have : ys[k + 1] < 2 ^ (64 - s) := Nat.lt_of_mul_lt_mul_right (a := 2 ^ s) (by rw [e64]; exact hb2)
  omega
 have up : num B ys * 2 ^ s < B ^ (k + 2) := by
  have h1 : num B ys < B ^ (k + 1) * (ys[k + 1] + 1) := by rw [Nat.mul_add, Nat.mul_one]; omega
  have h2 : B ^ (k + 1) * (ys[k + 1] + 1) ≤ B ^ (k + 1) * 2 ^ (64 - s) := Nat.mul_le_mul_left _ y1
  have h3 : num B ys * 2 ^ s < B ^ (k + 1) * 2 ^ (64 - s) * 2 ^ s := Nat.mul_lt_mul_of_pos_right (by omega) ps
  rw [Nat.mul_assoc, e64] at h3
  exact h3
 have lo : B ^ (k + 1) * 9223372036854775808 ≤ num B ys * 2 ^ s := by
  have h1 : B ^ (k + 1) * ys[k + 1] ≤ num B ys := by omega
  have h2 := Nat.mul_le_mul_right (2 ^ s) h1
  rw [Nat.mul_assoc] at h2
  exact Nat.le_trans (Nat.mul_le_mul_left _ hb1) h2
 have ld : (digs B (num B p)).length = k + 2 := by
  rw [vp]
  refine Nat.le_antisymm ((kx B2 _ _).2 up) ?_
  rcases Nat.lt_or_ge (digs B (num B ys * 2 ^ s)).length (k + 2) with h | h
  ·have := (kx B2 (num B ys * 2 ^ s) (k + 1)).1 (by omega)
   omega
  ·exact h
 have hX : num B r < num B p * B ^ (xs.length + 1 - (k + 2)) := by
  rw [vr, vp]
  have h1 : num B xs * 2 ^ s < B ^ xs.length * 2 ^ s := Nat.mul_lt_mul_of_pos_right (num_lt B1 lx) ps
  have h2 : B ^ xs.length * 2 ^ s ≤ B ^ xs.length * 9223372036854775808 := Nat.mul_le_mul_left _ (show 2 ^ s ≤ 2 ^ 63 from Nat.pow_le_pow_right (by decide) hs')
  have h3 := Nat.mul_le_mul_right (B ^ (xs.length + 1 - (k + 2))) lo
  rw [Nat.mul_right_comm, ← Nat.pow_add, show k + 1 + (xs.length + 1 - (k + 2)) = xs.length from by omega] at h3
  omega
 have key := kv6 (s := s) (X := num B xs * 2 ^ s) (m := xs.length + 1 - (k + 2)) (k := k) (d := digs B (num B p)) hs' ld (kz B2 _) (kcq B2 _) (by omega) (by omega) (xs.length + 1 - (k + 2)) r (List.replicate (xs.length + 1 - (k + 2)) 0) (Nat.le_refl _) (by rw [lr]; omega) (by simp) tr (by simp [num, vr]) (by rw [kf B2]; exact hX)
 rw [kf B2, vp, Nat.mul_div_mul_right _ _ ps, Nat.mul_mod_mul_right, Nat.mul_div_cancel _ ps] at key
 refine .next ?_ key
 show klb _ _ = _
 unfold klb
 have w1 : IntKind.wrap .i64 ((ys.length : Int) - 1) = ((k + 1 : Nat) : Int) := by rw [wrap64 (by omega) (by omega)]; omega
 have w2 : IntKind.wrap .u64 ((s : Nat) : Int) = (s : Int) := kb7 (by omega)
 have w3 : IntKind.wrap .i64 ((r.length : Int) - ((digs B (num B p)).length : Int)) = ((xs.length + 1 - (k + 2) : Nat) : Int) := by rw [lr, ld, wrap64 (by omega) (by omega)]; omega
 rw [w1, kbm hky, Option.bind_some, ki (by omega), Option.bind_some, Int.toNat_natCast, hsd, w2, kbp itr, Option.bind_some, kbp itp, Option.bind_some, w3, kd2 (by omega), Option.bind_some, ← vp, List.length_replicate, wrap64 (by omega) (by omega)]
theorem k1t {h : AH} {s t : Sl} {xs ys : List Nat} (n : Nats h s xs) (m : Nats h t ys) (ty : Trim ys) (hy : 2 ≤ ys.length) (hxl : xs.length ≤ 64) (hle : ys.length ≤ xs.length) :
  ∃ (a b : Sl) (h' : AH), go (.fn F.kb1 [s.v, t.v]) h = some (.tup [a.v, b.v], h') ∧ Nats h' a (digs B (num B xs / num B ys)) ∧ Nats h' b (digs B (num B xs % num B ys)) ∧ Grow h h' ∧ Own h a ∧ Own h b := by
 obtain ⟨_, h', e, a, b, rfl, k⟩ := kbej (kba5 n.lt m.lt ty hy hxl hle) n m
 exact ⟨a, b, h', e, k⟩
end Go.Ab

/- squeezed -/
set_option linter.unusedVariables false
set_option linter.unusedSimpArgs false
set_option maxRecDepth 10000
namespace Go.Ab
open Go.Proofs Go.Num
theorem kbfc {h : AH} {i : Nat} {a b : Sl} {xs ys : List Nat} (c : h.has i [a.v, b.v] T.ku) (n : Nats h a xs) (m : Nats h b ys) : go (.fn F.kgf [(⟨some (.new i 0), 2, .is 2⟩ : Sl).v]) h = some (.bool (rt xs && rt ys), h) := by
 have r : Rows h ⟨some (.new i 0), 2, .is 2⟩ [(a, xs), (b, ys)] := ⟨Cells.of_has c rfl, fun p hp => by
  simp at hp
  rcases hp with rfl | rfl
  ·exact n
  ·exact m, by simp⟩
 rw [kkt r]
 simp
theorem k89 {h : AH} {s : Sl} {xs : List Nat} (n : Nats h s xs) (d : Int) (c : 0 < d ∧ d < 18446744073709551616 ∧ xs.length ≤ 8796093022208) : ∃ (s' : Sl) (h' : AH), go (.fn F.ke8 [s.v, .int .u64 d]) h = some (.tup [s'.v, .int .u64 ((num B xs % d.toNat : Nat) : Int)], h') ∧ Nats h' s' (digs B (num B xs / d.toNat)) ∧ Grow h h' ∧ Own h s' := by
 obtain ⟨x, rfl⟩ : ∃ x : Nat, d = (x : Int) := ⟨d.toNat, by omega⟩
 rw [Int.toNat_natCast]
 exact k61 n (show x < 18446744073709551616 by omega) (by omega) c.2.2
theorem Nats.of_has1 {h : AH} {i : Nat} {e : TypeId} {v : Int} {x : Nat} (b : h.has i [.int .u64 v] e) (z : u64P v = some x) : Nats h ⟨some (.new i 0), 1, .is 1⟩ [x] := by
 obtain ⟨rfl, hx⟩ := kmn z
 exact Nats.of_has (xs := [x]) b (by simpa using hx) (by simp)
theorem k0i {h : AH} {s : Sl} {xs : List Nat} (n : Nats h s xs) : kcb Pg T.kc s.v h = some (xs.map u64, xs.length) := by
 have c := n.cells
 rw [← kit] at c
 rw [kkf c, n.len]
theorem k5e {h h0 : AH} {i : Nat} {e : TypeId} {v : Int} {x : Nat} {s : Sl} {xs : List Nat} (b : h.has i [.int .u64 v] e) (z : u64P v = some x) (n : Nats h s xs) (g0 : Grow h0 h) (hi : h0.blks.size ≤ i) (hl : xs.length ≤ 1073741824) :
  ∃ (s' : Sl) (h' : AH), kbd Pg (⟨some (.new i 0), 1, .is 1⟩ : Sl) (xs.map u64) xs.length T.kc 1 h = some (s'.v, h') ∧ Nats h' s' (x :: xs) ∧ Grow h h' ∧ Own h0 s' := by
 have n1 := Nats.of_has1 b z
 obtain ⟨rfl, hx⟩ := kmn z
 cases xs with
 | nil =>
  obtain ⟨s', e1, c, o⟩ := ku7 (P := Pg) (elem := T.kc) (m := 1) (by omega) n1.cells
  exact ⟨s', h, e1, ⟨c, by simpa using hx, by simp⟩, Grow.refl h, o h0 fun r hr => by cases hr; exact ⟨_, _, rfl, hi⟩⟩
 | cons y ys =>
  refine ⟨_, _, kmh (c := 1) rfl (by simp) (kr8 (by simp at hl ⊢; omega)) n1.cells, ⟨⟨rfl, by simp; omega, fun k w hw => ⟨_, rfl, ?_⟩⟩, ?_, ?_⟩, Grow.push _ _, fun r hr => ?_⟩
  ·have := AH.cell_push h ([u64 x] ++ (y :: ys).map u64) T.kc k
   rw [Ref.add_new, Nat.zero_add]
   rw [List.map_cons, List.map_nil]
   rw [this]
   simpa using hw
  ·intro w hw
   rcases List.mem_cons.1 hw with rfl | hw
   ·exact hx
   ·exact n.lt w hw
  ·have := n.short
   simp at hl ⊢
   omega
  ·cases hr
   exact ⟨_, _, rfl, g0.size⟩
end Go.Ab
