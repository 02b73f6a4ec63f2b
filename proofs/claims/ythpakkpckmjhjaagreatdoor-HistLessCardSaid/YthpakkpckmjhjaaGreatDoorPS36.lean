/- squeezed -/
import Derived.Test.YthpakkpckmjhjaaGreatDoorPS20
import Derived.Test.YthpakkpckmjhjaaGreatDoorPS2
import Derived.Test.YthpakkpckmjhjaaGreatDoorPAbsP

set_option linter.unusedVariables false
set_option linter.unusedSimpArgs false
set_option maxRecDepth 10000
namespace Go.Ab
open Go.Proofs Go.Num
theorem kz0 {b : Nat} {zs : List Nat} {n : Nat} (h : zs.length = n + 2) : num b zs = num b (zs.take n) + b ^ n * (zs[n + 1] * b + zs[n]) := by
 have e : num b zs = num b (zs.take (n + 1 + 1)) := by rw [List.take_of_length_le (by omega)]
 rw [e, kcc b (by omega), kcc b (by omega), Nat.pow_succ, Nat.mul_add, Nat.mul_assoc, Nat.mul_comm b]
 omega
theorem k8e {b : Nat} {zs : List Nat} {n : Nat} (h : zs.length = n + 3) : num b zs = num b (zs.take n) + b ^ n * ((zs[n + 2] * b + zs[n + 1]) * b + zs[n]) := by
 have e : num b zs = num b (zs.take (n + 1 + 1 + 1)) := by rw [List.take_of_length_le (by omega)]
 rw [e, kcc b (by omega), kcc b (by omega), kcc b (by omega)]
 have e1 : b ^ (n + 1) * zs[n + 1] = b ^ n * (zs[n + 1] * b) := by rw [Nat.pow_succ, Nat.mul_assoc, Nat.mul_comm b]
 have e2 : b ^ (n + 1 + 1) * zs[n + 1 + 1] = b ^ n * (zs[n + 2] * b * b) := by rw [Nat.pow_succ, Nat.pow_succ, Nat.mul_assoc, Nat.mul_assoc, Nat.mul_comm b, Nat.mul_comm b]
 rw [e1, e2, Nat.add_mul, Nat.mul_add, Nat.mul_add]
 omega
theorem top_le {E T D p e : Nat} (hp : p < E) (hD : 0 < D) : (p + E * T) / (e + E * D) ≤ T / D := by
 have hE : 0 < E := by omega
 have hv : 0 < e + E * D := by have := Nat.mul_pos hE hD; omega
 have h1 : T < (T / D + 1) * D := by rw [Nat.mul_comm]; exact Nat.lt_mul_div_succ T hD
 have h2 : E * (T + 1) ≤ E * ((T / D + 1) * D) := Nat.mul_le_mul_left _ h1
 rw [Nat.mul_add, Nat.mul_one] at h2
 have h3 : (p + E * T) / (e + E * D) < T / D + 1 := by
  rw [Nat.div_lt_iff_lt_mul hv, Nat.mul_add, Nat.mul_left_comm _ E D]
  omega
 omega
theorem k8i {dn P low Bj X Qh n1 : Nat} (h1 : n1 + dn * (Bj * 18446744073709551616) * Qh = X) (h2 : n1 = low + Bj * P) : low + Bj * (P % dn) + dn * Bj * (P / dn + 18446744073709551616 * Qh) = X := by
 have dm := Nat.div_add_mod P dn
 have e1 : Bj * P = Bj * (dn * (P / dn)) + Bj * (P % dn) := by rw [← Nat.mul_add, dm]
 have e2 : dn * Bj * (P / dn) = Bj * (dn * (P / dn)) := by rw [Nat.mul_comm dn Bj, Nat.mul_assoc]
 have e3 : dn * (Bj * 18446744073709551616) * Qh = dn * Bj * (18446744073709551616 * Qh) := by rw [← Nat.mul_assoc dn, Nat.mul_assoc (dn * Bj)]
 rw [Nat.mul_add, e2, ← e3]
 omega
theorem kuk {s X m k : Nat} {d : List Nat} (hs : s ≤ 63) (hk : d.length = k + 2) (hd : ∀ x ∈ d, x < B) (ht : Trim d) (hm : m ≤ 536870911) (hk2 : k ≤ 536870000) :
  ∀ (i : Nat) (r q : List Nat), i ≤ m → r.length = m + (k + 2) → q.length = m → (∀ x ∈ r, x < B) → num B r + num B d * B ^ i * num B (q.drop i) = X → num B r < num B d * B ^ i →
   Iter khv (.p6 s r d d.length q ((i : Int) - 1)) (digs B (X / num B d), digs B (X % num B d / 2 ^ s))
 | 0, r, q, hi, lr, lq, tr, e, lt => by
  rw [List.drop_zero, Nat.pow_zero, Nat.mul_one] at e
  rw [Nat.pow_zero, Nat.mul_one] at lt
  have hd0 : 0 < num B d := by omega
  have hq : X / num B d = num B q := by rw [← e, Nat.add_mul_div_left _ _ hd0, Nat.div_eq_of_lt lt, Nat.zero_add]
  have hr : X % num B d = num B r := by rw [← e, Nat.add_mul_mod_self_left, Nat.mod_eq_of_lt lt]
  rw [hq, hr]
  have hl := kjj tr
  have key := knr (q := q) (kv B2 (num B r)) hs (by omega) (digs B (num B r)).length 0 (List.replicate (digs B (num B r)).length 0) (by omega) (by simp) (by simp [num])
  rw [kg B2] at key
  refine .next ?_ key
  show khd _ _ _ _ _ _ = _
  unfold khd
  rw [condF (by rw [decide_eq_false_iff_not]; omega), kd4 (by omega), Option.bind_some]
  rfl
 | j + 1, r, q, hi, lr, lq, tr, e, lt => by
  have hd0 : 0 < num B d := by
   rcases Nat.eq_zero_or_pos (num B d) with h | h
   ·rw [h, Nat.zero_mul] at lt; omega
   ·exact h
  have hdB := num_lt B1 hd
  rw [hk] at hdB
  have lw : ((r.drop j).take (d.length + 1)).length = k + 3 := by simp; omega
  have tw : ∀ x ∈ (r.drop j).take (d.length + 1), x < B := fun x hx => tr x (List.mem_of_mem_drop (List.mem_of_mem_take hx))
  have ltake : (r.take j).length = j := by simp; omega
  have er : num B r = num B (r.take j) + B ^ j * num B ((r.drop j).take (d.length + 1)) + B ^ (j + (d.length + 1)) * num B (r.drop (j + (d.length + 1))) := by
   have e1 : num B r = num B (r.take j ++ ((r.drop j).take (d.length + 1) ++ (r.drop j).drop (d.length + 1))) := by rw [List.take_append_drop, List.take_append_drop]
   rw [kce, kce, ltake, lw, List.drop_drop] at e1
   have e3 : j + (k + 3) = j + (d.length + 1) := by omega
   rw [e1, Nat.mul_add (B ^ j), ← Nat.mul_assoc (B ^ j), ← Nat.pow_add, e3]
   omega
  have hlow := num_lt (b := B) B1 (xs := r.take j) fun x hx => tr x (List.mem_of_mem_take hx)
  rw [ltake] at hlow
  have hrest : num B (r.drop (j + (d.length + 1))) = 0 := by
   rcases Nat.eq_zero_or_pos (num B (r.drop (j + (d.length + 1)))) with h | h
   ·exact h
   ·exfalso
    have h1 : B ^ (j + (d.length + 1)) * 1 ≤ B ^ (j + (d.length + 1)) * num B (r.drop (j + (d.length + 1))) := Nat.mul_le_mul_left _ h
    have h2 : num B d * B ^ (j + 1) ≤ B ^ (k + 2) * B ^ (j + 1) := Nat.mul_le_mul_right _ (by omega)
    rw [← Nat.pow_add, show k + 2 + (j + 1) = j + (d.length + 1) from by omega] at h2
    omega
  rw [hrest, Nat.mul_zero, Nat.add_zero] at er
  have hP : num B ((r.drop j).take (d.length + 1)) < num B d * B := by
   have h1 : B ^ j * num B ((r.drop j).take (d.length + 1)) < B ^ j * (num B d * B) := by
    have : num B d * B ^ (j + 1) = B ^ j * (num B d * B) := by rw [Nat.pow_succ, Nat.mul_left_comm]
    omega
   exact Nat.lt_of_mul_lt_mul_left h1
  have hq : num B ((r.drop j).take (d.length + 1)) / num B d < 18446744073709551616 := by
   rw [Nat.div_lt_iff_lt_mul hd0, Nat.mul_comm]
   exact hP
  have i2 : j + (k + 2) < r.length := by omega
  have i1 : j + (k + 1) < r.length := by omega
  have i0 : j + k < r.length := by omega
  have g2 : ((r.drop j).take (d.length + 1))[k + 2] = r[j + (k + 2)] := by simp
  have g1 : ((r.drop j).take (d.length + 1))[k + 1] = r[j + (k + 1)] := by simp
  have g0 : ((r.drop j).take (d.length + 1))[k] = r[j + k] := by simp
  have top := k8e (b := B) lw
  rw [g2, g1, g0] at top
  have topd := kz0 (b := B) hk
  have hd1 : 0 < d[k + 1] := by
   have hne : d ≠ [] := by intro h; rw [h] at hk; simp at hk
   have := ht hne
   rw [List.getLast_eq_getElem] at this
   have e : d.length - 1 = k + 1 := by omega
   simp only [e] at this
   omega
  have lpt : (((r.drop j).take (d.length + 1)).take k).length = k := by simp; omega
  have hpt := num_lt (b := B) B1 (xs := ((r.drop j).take (d.length + 1)).take k) fun x hx => tw x (List.mem_of_mem_take hx)
  rw [lpt] at hpt
  have tl := top_le (E := B ^ k) (T := (r[j + (k + 2)] * B + r[j + (k + 1)]) * B + r[j + k]) (D := d[k + 1] * B + d[k]) (e := num B (d.take k)) hpt (by have : 1 * B ≤ d[k + 1] * B := Nat.mul_le_mul_right _ hd1; have := B0; omega)
  rw [← top, ← topd] at tl
  obtain ⟨g, itg, hg1, hg2⟩ := k6i (r2 := r[j + (k + 2)]) (r1 := r[j + (k + 1)]) (r0 := r[j + k]) (d1 := d[k + 1]) (d0 := d[k]) (tr _ (List.getElem_mem _)) (tr _ (List.getElem_mem _)) (tr _ (List.getElem_mem _)) (hd _ (List.getElem_mem _)) hd1 (hd _ (List.getElem_mem _))
  have hge : num B ((r.drop j).take (d.length + 1)) / num B d ≤ g := by
   rcases hg2 with h | h
   ·omega
   ·exact Nat.le_trans tl h
  have hmod := Nat.mod_lt (num B ((r.drop j).take (d.length + 1))) hd0
  have hpd : num B (padD B (d.length + 1) (num B ((r.drop j).take (d.length + 1)) % num B d)) = num B ((r.drop j).take (d.length + 1)) % num B d := by
   refine kuo B0 _ _ ?_
   have : B ^ (k + 2) ≤ B ^ (d.length + 1) := Nat.pow_le_pow_right B1 (by omega)
   omega
  have nr : num B (r.take j ++ padD B (d.length + 1) (num B ((r.drop j).take (d.length + 1)) % num B d) ++ r.drop (j + (d.length + 1))) = num B (r.take j) + B ^ j * (num B ((r.drop j).take (d.length + 1)) % num B d) := by
   rw [kce, kce, hrest, Nat.mul_zero, Nat.add_zero, ltake, hpd]
  have hjq : j < q.length := by omega
  have IH := kuk (s := s) (X := X) hs hk hd ht hm hk2 j (r.take j ++ padD B (d.length + 1) (num B ((r.drop j).take (d.length + 1)) % num B d) ++ r.drop (j + (d.length + 1))) (q.set j (num B ((r.drop j).take (d.length + 1)) / num B d)) (by omega) (by simp [kpm]; omega) (by simpa using lq) (by
    intro x hx
    rcases List.mem_append.1 hx with hx | hx
    ·rcases List.mem_append.1 hx with hx | hx
     ·exact tr x (List.mem_of_mem_take hx)
     ·exact ksq B0 _ _ x hx
    ·exact tr x (List.mem_of_mem_drop hx)) (by
    rw [nr, kq0 hjq]
    simp only [num]
    rw [Nat.pow_succ] at e
    exact k8i e er) (by
    rw [nr]
    have : B ^ j * (num B ((r.drop j).take (d.length + 1)) % num B d + 1) ≤ B ^ j * num B d := Nat.mul_le_mul_left _ hmod
    rw [Nat.mul_add, Nat.mul_one, Nat.mul_comm _ (num B d)] at this
    omega)
  refine .next (s' := .p10 s r d d.length q j g (j, d.length + 1)) ?_ (ksn tr hd hjq (by omega) (by omega) (by omega) hd0 IH g hg1 hge)
  show khd _ _ _ _ _ _ = _
  unfold khd
  have w0 : IntKind.wrap .i64 ((j : Int) + (d.length : Int)) = ((j + (k + 2) : Nat) : Int) := by rw [wrap64 (by omega) (by omega)]; omega
  rw [condT (by rw [decide_eq_true_eq]; omega), show ((j + 1 : Nat) : Int) - 1 = (j : Int) from by omega, w0]
  rw [show IntKind.wrap .i64 (((j + (k + 2) : Nat) : Int) - 1) = ((j + (k + 1) : Nat) : Int) from by rw [wrap64 (by omega) (by omega)]; omega]
  rw [show IntKind.wrap .i64 (((j + (k + 2) : Nat) : Int) - 2) = ((j + k : Nat) : Int) from by rw [wrap64 (by omega) (by omega)]; omega]
  rw [show IntKind.wrap .i64 ((d.length : Int) - 1) = ((k + 1 : Nat) : Int) from by rw [wrap64 (by omega) (by omega)]; omega]
  rw [show IntKind.wrap .i64 ((d.length : Int) - 2) = (k : Int) from by rw [wrap64 (by omega) (by omega)]; omega]
  rw [show IntKind.wrap .i64 (((j + (k + 2) : Nat) : Int) + 1) = ((j + (d.length + 1) : Nat) : Int) from by rw [wrap64 (by omega) (by omega)]; omega]
  rw [ku i2, Option.bind_some, ku i1, Option.bind_some, ku i0, Option.bind_some, kbg (by omega), Option.bind_some, kbg (by omega), Option.bind_some, kdr i2, kdr i1, kdr i0, ke3 itg, Option.bind_some, kwb (by omega) (by omega), Option.bind_some]
end Go.Ab

/- squeezed -/
set_option linter.unusedVariables false
set_option linter.unusedSimpArgs false
set_option maxRecDepth 10000
namespace Go.Ab
open Go.Proofs Go.Num
theorem k4c {xs ys : List Nat} (lx : ∀ x ∈ xs, x < B) (ly : ∀ x ∈ ys, x < B) (ty : Trim ys) (hy : 2 ≤ ys.length) (hxl : xs.length ≤ 64) (hle : ys.length ≤ xs.length) :
  Iter khv (.fn xs ys) (digs B (num B xs / num B ys), digs B (num B xs % num B ys)) := by
 obtain ⟨k, hk⟩ : ∃ k, ys.length = k + 2 := ⟨ys.length - 2, by omega⟩
 have hky : k + 1 < ys.length := by omega
 have hy0 : 0 < ys[k + 1] := by
  have hne : ys ≠ [] := by intro h; rw [h] at hk; simp at hk
  have := ty hne
  rw [List.getLast_eq_getElem] at this
  have e : ys.length - 1 = k + 1 := by omega
  simp only [e] at this
  omega
 have hyB : ys[k + 1] < 18446744073709551616 := ly _ (List.getElem_mem _)
 obtain ⟨hs, hb1, hb2⟩ := ktr hyB hy0
 obtain ⟨r, itr, lr, tr, vr⟩ := kuf (n := 64 - bl ys[k + 1]) lx hs (by omega)
 obtain ⟨p, itp, lp, tp, vp⟩ := kuf (n := 64 - bl ys[k + 1]) ly hs (by omega)
 have hs' : 64 - bl ys[k + 1] ≤ 63 := hs
 generalize hsd : 64 - bl ys[k + 1] = s at *
 have ps : 0 < 2 ^ s := Nat.pow_pos (by decide)
 have e64 := kix (show s ≤ 64 by omega)
 have eys : num B ys = num B (ys.take (k + 1)) + B ^ (k + 1) * ys[k + 1] := by
  have : num B ys = num B (ys.take (k + 1 + 1)) := by rw [List.take_of_length_le (by omega)]
  rw [this, kcc B hky]
 have hlow := num_lt (b := B) B1 (xs := ys.take (k + 1)) fun x hx => ly x (List.mem_of_mem_take hx)
 have hl1 : (ys.take (k + 1)).length = k + 1 := by simp; omega
 rw [hl1] at hlow
 have y1 : ys[k + 1] + 1 ≤ 2 ^ (64 - s) := by
  have : ys[k + 1] < 2 ^ (64 - s) := Nat.lt_of_mul_lt_mul_right (a := 2 ^ s) (by rw [e64]; exact hb2)
  omega
 have up : num B ys * 2 ^ s < B ^ (k + 2) := by
  have h1 : num B ys < B ^ (k + 1) * (ys[k + 1] + 1) := by rw [Nat.mul_add, Nat.mul_one]; omega
  have h2 : B ^ (k + 1) * (ys[k + 1] + 1) ≤ B ^ (k + 1) * 2 ^ (64 - s) := Nat.mul_le_mul_left _ y1
  have h3 : num B ys * 2 ^ s < B ^ (k + 1) * 2 ^ (64 - s) * 2 ^ s := Nat.mul_lt_mul_of_pos_right (by omega) ps
  rw [Nat.mul_assoc, e64] at h3
  exact h3
 have lo : B ^ (k + 1) * 9223372036854775808 ≤ num B ys * 2 ^ s := by
  have h1 : B ^ (k + 1) * ys[k + 1] ≤ num B ys := by omega
  have h2 := Nat.mul_le_mul_right (2 ^ s) h1
  rw [Nat.mul_assoc] at h2
  exact Nat.le_trans (Nat.mul_le_mul_left _ hb1) h2
 have ld : (digs B (num B p)).length = k + 2 := by
  rw [vp]
  refine Nat.le_antisymm ((kq B2 _ _).2 up) ?_
  rcases Nat.lt_or_ge (digs B (num B ys * 2 ^ s)).length (k + 2) with h | h
  ·have := (kq B2 (num B ys * 2 ^ s) (k + 1)).1 (by omega)
   omega
  ·exact h
 have hX : num B r < num B p * B ^ (xs.length + 1 - (k + 2)) := by
  rw [vr, vp]
  have h1 : num B xs * 2 ^ s < B ^ xs.length * 2 ^ s := Nat.mul_lt_mul_of_pos_right (num_lt B1 lx) ps
  have h2 : B ^ xs.length * 2 ^ s ≤ B ^ xs.length * 9223372036854775808 := Nat.mul_le_mul_left _ (show 2 ^ s ≤ 2 ^ 63 from Nat.pow_le_pow_right (by decide) hs')
  have h3 := Nat.mul_le_mul_right (B ^ (xs.length + 1 - (k + 2))) lo
  rw [Nat.mul_right_comm, ← Nat.pow_add, show k + 1 + (xs.length + 1 - (k + 2)) = xs.length from by omega] at h3
  omega
 have key := kuk (s := s) (X := num B xs * 2 ^ s) (m := xs.length + 1 - (k + 2)) (k := k) (d := digs B (num B p)) hs' ld (kv B2 _) (kb1 B2 _) (by omega) (by omega) (xs.length + 1 - (k + 2)) r (List.replicate (xs.length + 1 - (k + 2)) 0) (Nat.le_refl _) (by rw [lr]; omega) (by simp) tr (by simp [num, vr]) (by rw [kg B2]; exact hX)
 rw [kg B2, vp, Nat.mul_div_mul_right _ _ ps, Nat.mul_mod_mul_right, Nat.mul_div_cancel _ ps] at key
 refine .next ?_ key
 show kis _ _ = _
 unfold kis
 have w1 : IntKind.wrap .i64 ((ys.length : Int) - 1) = ((k + 1 : Nat) : Int) := by rw [wrap64 (by omega) (by omega)]; omega
 have w2 : IntKind.wrap .u64 ((s : Nat) : Int) = (s : Int) := kb9 (by omega)
 have w3 : IntKind.wrap .i64 ((r.length : Int) - ((digs B (num B p)).length : Int)) = ((xs.length + 1 - (k + 2) : Nat) : Int) := by rw [lr, ld, wrap64 (by omega) (by omega)]; omega
 rw [w1, kbg hky, Option.bind_some, ki (by omega), Option.bind_some, Int.toNat_natCast, hsd, w2, ke3 itr, Option.bind_some, ke3 itp, Option.bind_some, w3, kd4 (by omega), Option.bind_some, ← vp, List.length_replicate, wrap64 (by omega) (by omega)]
theorem k3s {h : AH} {s t : Sl} {xs ys : List Nat} (n : Nats h s xs) (m : Nats h t ys) (ty : Trim ys) (hy : 2 ≤ ys.length) (hxl : xs.length ≤ 64) (hle : ys.length ≤ xs.length) :
  ∃ (a b : Sl) (h' : AH), go (.fn F.kbz [s.v, t.v]) h = some (.tup [a.v, b.v], h') ∧ Nats h' a (digs B (num B xs / num B ys)) ∧ Nats h' b (digs B (num B xs % num B ys)) ∧ Grow h h' ∧ Own h a ∧ Own h b := by
 obtain ⟨_, h', e, a, b, rfl, k⟩ := k7c (k4c n.lt m.lt ty hy hxl hle) n m
 exact ⟨a, b, h', e, k⟩
end Go.Ab

/- squeezed -/
set_option linter.unusedVariables false
set_option linter.unusedSimpArgs false
set_option maxRecDepth 10000
namespace Go.Ab
open Go.Proofs Go.Num
theorem kxd {h : AH} {i : Nat} {a b : Sl} {xs ys : List Nat} (c : h.has i [a.v, b.v] T.kw) (n : Nats h a xs) (m : Nats h b ys) : go (.fn F.kfo [(⟨some (.new i 0), 2, .is 2⟩ : Sl).v]) h = some (.bool (rt xs && rt ys), h) := by
 have r : Rows h ⟨some (.new i 0), 2, .is 2⟩ [(a, xs), (b, ys)] := ⟨Cells.of_has c rfl, fun p hp => by
  simp at hp
  rcases hp with rfl | rfl
  ·exact n
  ·exact m, by simp⟩
 rw [kka r]
 simp
theorem k2q {h : AH} {s : Sl} {xs : List Nat} (n : Nats h s xs) (d : Int) (c : 0 < d ∧ d < 18446744073709551616 ∧ xs.length ≤ 8796093022208) : ∃ (s' : Sl) (h' : AH), go (.fn F.ker [s.v, .int .u64 d]) h = some (.tup [s'.v, .int .u64 ((num B xs % d.toNat : Nat) : Int)], h') ∧ Nats h' s' (digs B (num B xs / d.toNat)) ∧ Grow h h' ∧ Own h s' := by
 obtain ⟨x, rfl⟩ : ∃ x : Nat, d = (x : Int) := ⟨d.toNat, by omega⟩
 rw [Int.toNat_natCast]
 exact k83 n (show x < 18446744073709551616 by omega) (by omega) c.2.2
theorem Nats.of_has1 {h : AH} {i : Nat} {e : TypeId} {v : Int} {x : Nat} (b : h.has i [.int .u64 v] e) (z : u64P v = some x) : Nats h ⟨some (.new i 0), 1, .is 1⟩ [x] := by
 obtain ⟨rfl, hx⟩ := kki z
 exact Nats.of_has (xs := [x]) b (by simpa using hx) (by simp)
theorem kl3 {h : AH} {s : Sl} {xs : List Nat} (n : Nats h s xs) : kbf Pg T.ke s.v h = some (xs.map u64, xs.length) := by
 have c := n.cells
 rw [← khw] at c
 rw [khk c, n.len]
theorem kx6 {h h0 : AH} {i : Nat} {e : TypeId} {v : Int} {x : Nat} {s : Sl} {xs : List Nat} (b : h.has i [.int .u64 v] e) (z : u64P v = some x) (n : Nats h s xs) (g0 : Grow h0 h) (hi : h0.blks.size ≤ i) (hl : xs.length ≤ 1073741824) :
  ∃ (s' : Sl) (h' : AH), kp Pg (⟨some (.new i 0), 1, .is 1⟩ : Sl) (xs.map u64) xs.length T.ke 1 h = some (s'.v, h') ∧ Nats h' s' (x :: xs) ∧ Grow h h' ∧ Own h0 s' := by
 have n1 := Nats.of_has1 b z
 obtain ⟨rfl, hx⟩ := kki z
 cases xs with
 | nil =>
  obtain ⟨s', e1, c, o⟩ := kqf (P := Pg) (elem := T.ke) (m := 1) (by omega) n1.cells
  exact ⟨s', h, e1, ⟨c, by simpa using hx, by simp⟩, Grow.refl h, o h0 fun r hr => by cases hr; exact ⟨_, _, rfl, hi⟩⟩
 | cons y ys =>
  refine ⟨_, _, kfy (c := 1) rfl (by simp) (kkt (by simp at hl ⊢; omega)) n1.cells, ⟨⟨rfl, by simp; omega, fun k w hw => ⟨_, rfl, ?_⟩⟩, ?_, ?_⟩, Grow.push _ _, fun r hr => ?_⟩
  ·have := AH.cell_push h ([u64 x] ++ (y :: ys).map u64) T.ke k
   rw [Ref.add_new, Nat.zero_add]
   rw [List.map_cons, List.map_nil]
   rw [this]
   simpa using hw
  ·intro w hw
   rcases List.mem_cons.1 hw with rfl | hw
   ·exact hx
   ·exact n.lt w hw
  ·have := n.short
   simp at hl ⊢
   omega
  ·cases hr
   exact ⟨_, _, rfl, g0.size⟩
end Go.Ab

/- squeezed -/
set_option linter.unusedVariables false
set_option linter.unusedSimpArgs false
set_option maxRecDepth 10000
namespace Go.Ab
open Go.Proofs Go.Num
inductive kh3
 | fn (x1 : List Nat) (x2 : List Nat)
 | no
abbrev kg7 := List Nat × List Nat × Int
noncomputable def kjg (x1 : List Nat) (x2 : List Nat) : Option (kh3 ⊕ kg7) :=
 cond (!((rt x1 && rt x2))) (some (.inr ([], [], 1))) (cond (decide ((List.length x2 : Int) = 0)) (some (.inr ([], [], 3))) ((need (Trim x1)).bind fun c7_0 => (need (Trim x2)).bind fun c7_1 => cond (decide ((cmp (num B x1) (num B x2)) < 0)) ((need (List.length x1 ≤ 8796093022208)).bind fun c9_0 => some (.inr ([], x1, 0))) (cond (decide ((List.length x2 : Int) = 1)) ((atI x2 0).bind fun y10 => (need (0 < ((y10 : Int)) ∧ ((y10 : Int)) < 18446744073709551616 ∧ List.length x1 ≤ 8796093022208)).bind fun c11_0 => (u64P (((num B x1 % Int.toNat ((y10 : Int)) : Nat) : Int))).bind fun p12 => some (.inr (digs B (num B x1 / Int.toNat ((y10 : Int))), digs B p12, 0))) ((need (Trim x2)).bind fun c10_0 => (need (2 ≤ List.length x2)).bind fun c10_1 => (need (List.length x1 ≤ 64)).bind fun c10_2 => (need (List.length x2 ≤ List.length x1)).bind fun c10_3 => some (.inr (digs B (num B x1 / num B x2), digs B (num B x1 % num B x2), 0))))))
noncomputable def ksi : kh3 → Option (kh3 ⊕ kg7)
 | .fn x1 x2 => kjg x1 x2
 | .no => none
@[reducible] def k6w (h0 : AH) (r : kg7) (v : AV) (h' : AH) : Prop := ∃ s1 : Sl, ∃ s2 : Sl, v = .tup [s1.v, s2.v, .int .i64 r.2.2] ∧ Nats h' s1 r.1 ∧ Nats h' s2 r.2.1 ∧ Grow h0 h' ∧ Own h0 s1 ∧ Own h0 s2
def kq1 (r : kg7) : kh3 → Prop
 | .fn x1 x2 => ∀ {h : AH} {a1 : Sl} {a2 : Sl}, Nats h a1 x1 → Nats h a2 x2 → Runs (go (.fn F.kfn [a1.v, a2.v]) h) (k6w h r)
 | .no => True
theorem ky2 {r : kg7} {o : kh3 ⊕ kg7} {x1 : List Nat} {x2 : List Nat} (e : kjg x1 x2 = some o) (good : GoodS (kq1 r) r o) : kq1 r (.fn x1 x2) := by
 intro h a1 a2 n1 n2
 rw [kbce]
 unfold kjg at e
 rw [n2.len]
 refine Runs.new fun H3 b3 g3 => ?_
 refine Runs.step (kxd b3 (n1.grow g3) (n2.grow g3)) ?_
 refine Runs.step (seen rfl) ?_
 refine Runs.cond (fun k5 => ?_) (fun k5 => ?_)
 ·replace e := (condT k5).symm.trans e
  cases e
  cases good
  exact Runs.ret ⟨(⟨none, 0, .is 0⟩ : Sl), (⟨none, 0, .is 0⟩ : Sl), rfl, (Nats.nil _), (Nats.nil _), g3, (Own.nil _), (Own.nil _)⟩
 ·replace e := (condF k5).symm.trans e
  refine Runs.cond (fun k6 => ?_) (fun k6 => ?_)
  ·replace e := (condT k6).symm.trans e
   cases e
   cases good
   exact Runs.ret ⟨(⟨none, 0, .is 0⟩ : Sl), (⟨none, 0, .is 0⟩ : Sl), rfl, (Nats.nil _), (Nats.nil _), g3, (Own.nil _), (Own.nil _)⟩
  ·replace e := (condF k6).symm.trans e
   obtain ⟨c7_0, q7_0, e⟩ := Option.bind_eq_some_iff.1 e
   obtain ⟨c7_1, q7_1, e⟩ := Option.bind_eq_some_iff.1 e
   refine Runs.step (klp (n1.grow g3) (n2.grow g3)  c7_0.down c7_1.down) ?_
   refine Runs.step (seen (kb _ _)) ?_
   refine Runs.cond (fun k8 => ?_) (fun k8 => ?_)
   ·replace e := (condT k8).symm.trans e
    obtain ⟨c9_0, q9_0, e⟩ := Option.bind_eq_some_iff.1 e
    obtain ⟨s9, H9, e9, n9, g9, o9⟩ := ki6 (n1.grow g3)  c9_0.down
    refine Runs.step e9 ?_
    refine Runs.step (seen (asSl_v _)) ?_
    cases e
    cases good
    exact Runs.ret ⟨(⟨none, 0, .is 0⟩ : Sl), s9, rfl, (Nats.nil _), n9, (g3.trans g9), (Own.nil _), (o9.of_le g3)⟩
   ·replace e := (condF k8).symm.trans e
    refine Runs.cond (fun k9 => ?_) (fun k9 => ?_)
    ·replace e := (condT k9).symm.trans e
     obtain ⟨y10, q10, e⟩ := Option.bind_eq_some_iff.1 e
     obtain ⟨r10, j10, l10⟩ := (n2.grow g3).atI q10
     refine Runs.step j10 ?_
     refine Runs.step (rdc l10 (kb _ _)) ?_
     obtain ⟨c11_0, q11_0, e⟩ := Option.bind_eq_some_iff.1 e
     obtain ⟨s11, H11, e11, n11, g11, o11⟩ := k2q (n1.grow g3) ((y10 : Int))  c11_0.down
     refine Runs.step e11 ?_
     refine Runs.step rfl ?_
     refine Runs.step (seen (asSl_v _)) ?_
     refine Runs.step (seen (kb _ _)) ?_
     obtain ⟨p12, q12, e⟩ := Option.bind_eq_some_iff.1 e
     obtain ⟨s12, H12, e12, n12, g12, o12⟩ := ko7 q12
     refine Runs.step e12 ?_
     refine Runs.step (seen (asSl_v _)) ?_
     cases e
     cases good
     exact Runs.ret ⟨s11, s12, rfl, (n11.grow g12), n12, ((g3.trans g11).trans g12), (o11.of_le g3), (o12.of_le (g3.trans g11))⟩
    ·replace e := (condF k9).symm.trans e
     obtain ⟨c10_0, q10_0, e⟩ := Option.bind_eq_some_iff.1 e
     obtain ⟨c10_1, q10_1, e⟩ := Option.bind_eq_some_iff.1 e
     obtain ⟨c10_2, q10_2, e⟩ := Option.bind_eq_some_iff.1 e
     obtain ⟨c10_3, q10_3, e⟩ := Option.bind_eq_some_iff.1 e
     obtain ⟨s10, s10b, H10, e10, n10, n10b, g10, o10, o10b⟩ := k3s (n1.grow g3) (n2.grow g3)  c10_0.down c10_1.down c10_2.down c10_3.down
     refine Runs.step e10 ?_
     refine Runs.step rfl ?_
     refine Runs.step (seen (asSl_v _)) ?_
     refine Runs.step (seen (asSl_v _)) ?_
     cases e
     cases good
     exact Runs.ret ⟨s10, s10b, rfl, n10, n10b, (g3.trans g10), (o10.of_le g3), (o10b.of_le g3)⟩
theorem k89 {s : kh3} {r : kg7} (it : Iter ksi s r) : kq1 r s := Iter.ind (fun s o e good => by
 cases s with
 | fn x1 x2 => exact @ky2 _ _ x1 x2 e good
 | no => exact True.intro
 ) it
inductive kde
 | fn (x1 : List Nat) (x2 : List Nat)
 | p4 (x1 : List Nat) (x2 : List Nat) (x3 : List Nat) (x4 : List Nat) (a5 : Int)
 | p9 (x1 : List Nat) (x2 : List Nat) (x3 : List Nat) (x4 : List Nat) (a5 : Int) (a6 : Int) (a7 : Int)
abbrev kca := List Nat × List Nat
noncomputable def kjt (x1 : List Nat) (x2 : List Nat) : Option (kde ⊕ kca) :=
 (mkI (List.length x1 : Int) (List.length x1 : Int)).bind fun m3 => some (.inl (.p4 x1 x2 (List.replicate m3 0) [] (IntKind.wrap .i64 ((List.length x1 : Int) - 1))))
noncomputable def kf6 (x1 : List Nat) (x2 : List Nat) (x3 : List Nat) (x4 : List Nat) (a5 : Int) : Option (kde ⊕ kca) :=
 cond (decide (a5 ≥ 0)) ((atI x1 a5).bind fun y7 => (u64P ((y7 : Int))).bind fun w10 => (need (List.length x4 ≤ 1073741824)).bind fun c9 => (need (∀ x ∈ (w10 :: x4), x < D)).bind fun c11_0 => some (.inl (.p9 x1 x2 x3 (digs D (num D (w10 :: x4))) a5 0 65535))) ((need (∀ x ∈ x3, x < D)).bind fun c7_0 => some (.inr (digs D (num D x3), x4)))
noncomputable def kgs (x1 : List Nat) (x2 : List Nat) (x3 : List Nat) (x4 : List Nat) (a5 : Int) (a6 : Int) (a7 : Int) : Option (kde ⊕ kca) :=
 cond (decide (a6 < a7)) ((u64P (IntKind.wrap .u64 (Int.tdiv (IntKind.wrap .u64 ((IntKind.wrap .u64 (a6 + a7)) + 1)) 2))).bind fun w10 => (need (∀ x ∈ x2, x < D)).bind fun c11_0 => (need (∀ x ∈ [w10], x < D)).bind fun c11_1 => (need (List.length x2 + List.length [w10] ≤ 8796093022208)).bind fun c11_2 => (need (∀ x ∈ (digs D (num D x2 * num D [w10])), x < D)).bind fun c12_0 => (need (∀ x ∈ x4, x < D)).bind fun c12_1 => (need (Trim (digs D (num D x2 * num D [w10])))).bind fun c12_2 => (need (Trim x4)).bind fun c12_3 => cond (decide ((cmp (num D (digs D (num D x2 * num D [w10]))) (num D x4)) ≤ 0)) (some (.inl (.p9 x1 x2 x3 x4 a5 (IntKind.wrap .u64 (Int.tdiv (IntKind.wrap .u64 ((IntKind.wrap .u64 (a6 + a7)) + 1)) 2)) a7))) (some (.inl (.p9 x1 x2 x3 x4 a5 a6 (IntKind.wrap .u64 ((IntKind.wrap .u64 (Int.tdiv (IntKind.wrap .u64 ((IntKind.wrap .u64 (a6 + a7)) + 1)) 2)) - 1)))))) ((inI (List.length x3) a5).bind fun j9 => (u64P a6).bind fun w10 => (u64P a6).bind fun w12 => (need (∀ x ∈ x2, x < D)).bind fun c13_0 => (need (∀ x ∈ [w12], x < D)).bind fun c13_1 => (need (List.length x2 + List.length [w12] ≤ 8796093022208)).bind fun c13_2 => (need (∀ x ∈ x4, x < D)).bind fun c14_0 => (need (∀ x ∈ (digs D (num D x2 * num D [w12])), x < D)).bind fun c14_1 => (need (List.length x4 ≤ 1073741824)).bind fun c14_2 => (need (List.length (digs D (num D x2 * num D [w12])) ≤ List.length x4)).bind fun c14_3 => (need (num D (digs D (num D x2 * num D [w12])) ≤ num D x4)).bind fun c14_4 => some (.inl (.p4 x1 x2 (List.set x3 j9 w10) (digs D (num D x4 - num D (digs D (num D x2 * num D [w12])))) (IntKind.wrap .i64 (a5 - 1)))))
noncomputable def kia : kde → Option (kde ⊕ kca)
 | .fn x1 x2 => kjt x1 x2
 | .p4 x1 x2 x3 x4 a5 => kf6 x1 x2 x3 x4 a5
 | .p9 x1 x2 x3 x4 a5 a6 a7 => kgs x1 x2 x3 x4 a5 a6 a7
@[reducible] def kqi (h0 : AH) (r : kca) (v : AV) (h' : AH) : Prop := ∃ s1 : Sl, ∃ s2 : Sl, v = .tup [s1.v, s2.v] ∧ Nats h' s1 r.1 ∧ Nats h' s2 r.2 ∧ Grow h0 h' ∧ Own h0 s1 ∧ Own h0 s2
def kgg (r : kca) : kde → Prop
 | .fn x1 x2 => ∀ {h : AH} {a1 : Sl} {a2 : Sl}, Nats h a1 x1 → Nats h a2 x2 → Runs (go (.fn F.kcn [a1.v, a2.v]) h) (kqi h r)
 | .p4 x1 x2 x3 x4 a5 => ∀ {h0 h : AH} {a1 : Sl} {a2 : Sl} {a3 : Sl} {a4 : Sl} {i3 : Nat}, Grow h0 h → Nats h a1 x1 → Nats h a2 x2 → Vec h a3 i3 x3 → Nats h a4 x4 → h0.blks.size ≤ i3 → Av a1 i3 x1 → Av a2 i3 x2 → Av a4 i3 x4 → Own h0 a4 → Runs (go (.pt F.kcn Td.kmv [(0, a1.v), (1, a2.v), (6, a3.v), (7, a4.v), (8, .int .i64 a5)]) h) (kqi h0 r)
 | .p9 x1 x2 x3 x4 a5 a6 a7 => ∀ {h0 h : AH} {a1 : Sl} {a2 : Sl} {a3 : Sl} {a4 : Sl} {i3 : Nat}, Grow h0 h → Nats h a1 x1 → Nats h a2 x2 → Vec h a3 i3 x3 → Nats h a4 x4 → h0.blks.size ≤ i3 → Av a1 i3 x1 → Av a2 i3 x2 → Av a4 i3 x4 → Own h0 a4 → Runs (go (.pt F.kcn Td.ki8 [(0, a1.v), (1, a2.v), (6, a3.v), (7, a4.v), (8, .int .i64 a5), (9, .int .u64 a6), (10, .int .u64 a7)]) h) (kqi h0 r)
theorem k39 {r : kca} {o : kde ⊕ kca} {x1 : List Nat} {x2 : List Nat} (e : kjt x1 x2 = some o) (good : GoodS (kgg r) r o) : kgg r (.fn x1 x2) := by
 intro h a1 a2 n1 n2
 rw [k8m]
 unfold kjt at e
 rw [n1.len]
 obtain ⟨m3, q3, e⟩ := Option.bind_eq_some_iff.1 e
 refine Runs.mk q3 kc8 fun s3 H3 v3 g3 => ?_
 cases e
 exact good g3 (n1.grow g3) (n2.grow g3) v3 (Nats.nil _) (Nat.le_refl _) (Av.of_base n1 (Nat.le_refl _)) (Av.of_base n2 (Nat.le_refl _)) (Av.nil _ _) (Own.nil _)
theorem k9x {r : kca} {o : kde ⊕ kca} {x1 : List Nat} {x2 : List Nat} {x3 : List Nat} {x4 : List Nat} {a5 : Int} (e : kf6 x1 x2 x3 x4 a5 = some o) (good : GoodS (kgg r) r o) : kgg r (.p4 x1 x2 x3 x4 a5) := by
 intro h0 h a1 a2 a3 a4 i3 g0 n1 n2 v3 n4 hi3 av1_3 av2_3 av4_3 ow4
 rw [kyn]
 unfold kf6 at e
 rw [n1.len]
 refine Runs.cond (fun k6 => ?_) (fun k6 => ?_)
 ·replace e := (condT k6).symm.trans e
  obtain ⟨y7, q7, e⟩ := Option.bind_eq_some_iff.1 e
  obtain ⟨r7, j7, l7⟩ := n1.atI q7
  refine Runs.step j7 ?_
  refine Runs.step (rdc l7 (kb _ _)) ?_
  refine Runs.new fun H8 b8 g8 => ?_
  refine Runs.step (kl3 (n4.grow g8)) ?_
  obtain ⟨w10, z10, e⟩ := Option.bind_eq_some_iff.1 e
  obtain ⟨c9, q9, e⟩ := Option.bind_eq_some_iff.1 e
  obtain ⟨s9, H9, e9, n9, g9, o9⟩ := kx6 b8 z10 (n4.grow g8) g8 (Nat.le_refl _) c9.down
  refine Runs.step e9 ?_
  refine Runs.step (asSl_v _) ?_
  obtain ⟨c11_0, q11_0, e⟩ := Option.bind_eq_some_iff.1 e
  obtain ⟨s11, e11, n11, o11⟩ := kh5 n9  c11_0.down
  refine Runs.step e11 ?_
  refine Runs.step (seen (asSl_v _)) ?_
  cases e
  exact good ((g0.trans g8).trans g9) (n1.grow (g8.trans g9)) (n2.grow (g8.trans g9)) (v3.grow (g8.trans g9)) n11 hi3 av1_3 av2_3 (Av.of_own (o11 _ o9) (v3).inn) ((o11 _ o9).of_le g0)
 ·replace e := (condF k6).symm.trans e
  obtain ⟨c7_0, q7_0, e⟩ := Option.bind_eq_some_iff.1 e
  obtain ⟨s7, e7, n7, o7⟩ := kh5 v3.nats  c7_0.down
  refine Runs.step e7 ?_
  refine Runs.step (seen (asSl_v _)) ?_
  cases e
  cases good
  exact Runs.ret ⟨s7, a4, rfl, n7, n4, g0, ((o7 _ (v3.own hi3)).of_le (Grow.refl _)), (ow4.of_le (Grow.refl _))⟩
theorem kbci {r : kca} {o : kde ⊕ kca} {x1 : List Nat} {x2 : List Nat} {x3 : List Nat} {x4 : List Nat} {a5 : Int} {a6 : Int} {a7 : Int} (e : kgs x1 x2 x3 x4 a5 a6 a7 = some o) (good : GoodS (kgg r) r o) : kgg r (.p9 x1 x2 x3 x4 a5 a6 a7) := by
 intro h0 h a1 a2 a3 a4 i3 g0 n1 n2 v3 n4 hi3 av1_3 av2_3 av4_3 ow4
 rw [k63]
 unfold kgs at e
 rw [v3.nats.len]
 refine Runs.cond (fun k8 => ?_) (fun k8 => ?_)
 ·replace e := (condT k8).symm.trans e
  refine Runs.new fun H9 b9 g9 => ?_
  obtain ⟨w10, z10, e⟩ := Option.bind_eq_some_iff.1 e
  obtain ⟨c11_0, q11_0, e⟩ := Option.bind_eq_some_iff.1 e
  obtain ⟨c11_1, q11_1, e⟩ := Option.bind_eq_some_iff.1 e
  obtain ⟨c11_2, q11_2, e⟩ := Option.bind_eq_some_iff.1 e
  obtain ⟨s11, H11, e11, n11, g11, o11⟩ := kqx (n2.grow g9) (Nats.of_has1 b9 z10)  c11_0.down c11_1.down c11_2.down
  refine Runs.step e11 ?_
  refine Runs.step (seen (asSl_v _)) ?_
  obtain ⟨c12_0, q12_0, e⟩ := Option.bind_eq_some_iff.1 e
  obtain ⟨c12_1, q12_1, e⟩ := Option.bind_eq_some_iff.1 e
  obtain ⟨c12_2, q12_2, e⟩ := Option.bind_eq_some_iff.1 e
  obtain ⟨c12_3, q12_3, e⟩ := Option.bind_eq_some_iff.1 e
  refine Runs.step (kqe n11 (n4.grow (g9.trans g11))  c12_0.down c12_1.down c12_2.down c12_3.down) ?_
  refine Runs.step (seen (kb _ _)) ?_
  refine Runs.cond (fun k13 => ?_) (fun k13 => ?_)
  ·replace e := (condT k13).symm.trans e
   cases e
   exact good ((g0.trans g9).trans g11) (n1.grow (g9.trans g11)) (n2.grow (g9.trans g11)) (v3.grow (g9.trans g11)) (n4.grow (g9.trans g11)) hi3 av1_3 av2_3 av4_3 (ow4.of_le (Grow.refl _))
  ·replace e := (condF k13).symm.trans e
   cases e
   exact good ((g0.trans g9).trans g11) (n1.grow (g9.trans g11)) (n2.grow (g9.trans g11)) (v3.grow (g9.trans g11)) (n4.grow (g9.trans g11)) hi3 av1_3 av2_3 av4_3 (ow4.of_le (Grow.refl _))
 ·replace e := (condF k8).symm.trans e
  obtain ⟨j9, q9, e⟩ := Option.bind_eq_some_iff.1 e
  refine Runs.step (v3.idx rfl q9) ?_
  obtain ⟨w10, z10, e⟩ := Option.bind_eq_some_iff.1 e
  refine Runs.vput v3 rfl q9 z10 fun H10 v10 u10 => ?_
  have n1_10 := n1.upda av1_3 u10
  have n2_10 := n2.upda av2_3 u10
  have n4_10 := n4.upda av4_3 u10
  refine Runs.new fun H11 b11 g11 => ?_
  obtain ⟨w12, z12, e⟩ := Option.bind_eq_some_iff.1 e
  obtain ⟨c13_0, q13_0, e⟩ := Option.bind_eq_some_iff.1 e
  obtain ⟨c13_1, q13_1, e⟩ := Option.bind_eq_some_iff.1 e
  obtain ⟨c13_2, q13_2, e⟩ := Option.bind_eq_some_iff.1 e
  obtain ⟨s13, H13, e13, n13, g13, o13⟩ := kqx (n2_10.grow g11) (Nats.of_has1 b11 z12)  c13_0.down c13_1.down c13_2.down
  refine Runs.step e13 ?_
  refine Runs.step (seen (asSl_v _)) ?_
  obtain ⟨c14_0, q14_0, e⟩ := Option.bind_eq_some_iff.1 e
  obtain ⟨c14_1, q14_1, e⟩ := Option.bind_eq_some_iff.1 e
  obtain ⟨c14_2, q14_2, e⟩ := Option.bind_eq_some_iff.1 e
  obtain ⟨c14_3, q14_3, e⟩ := Option.bind_eq_some_iff.1 e
  obtain ⟨c14_4, q14_4, e⟩ := Option.bind_eq_some_iff.1 e
  obtain ⟨s14, H14, e14, n14, g14, o14⟩ := kxc (n4_10.grow (g11.trans g13)) n13  c14_0.down c14_1.down c14_2.down c14_3.down c14_4.down
  refine Runs.step e14 ?_
  refine Runs.step (seen (asSl_v _)) ?_
  cases e
  exact good ((((g0.updr hi3 u10).trans g11).trans g13).trans g14) (n1_10.grow ((g11.trans g13).trans g14)) (n2_10.grow ((g11.trans g13).trans g14)) (v10.grow ((g11.trans g13).trans g14)) n14 hi3 av1_3 av2_3 (Av.of_own o14 ((v10.grow (g11.trans g13))).inn) (o14.of_le (((g0.updr hi3 u10).trans g11).trans g13))
theorem k8t {s : kde} {r : kca} (it : Iter kia s r) : kgg r s := Iter.ind (fun s o e good => by
 cases s with
 | fn x1 x2 => exact @k39 _ _ x1 x2 e good
 | p4 x1 x2 x3 x4 a5 => exact @k9x _ _ x1 x2 x3 x4 a5 e good
 | p9 x1 x2 x3 x4 a5 a6 a7 => exact @kbci _ _ x1 x2 x3 x4 a5 a6 a7 e good
 ) it
end Go.Ab

/- squeezed -/
set_option linter.unusedVariables false
set_option linter.unusedSimpArgs false
set_option maxRecDepth 10000
namespace Go.Ab
open Go.Proofs Go.Num
def divN (xs ys : List Nat) : List Nat × List Nat × Int :=
 if rt xs = true ∧ rt ys = true then (if ys = [] then ([], [], 3) else (digs B (num B xs / num B ys), digs B (num B xs % num B ys), 0)) else ([], [], 1)
theorem kpd {b : Nat} (hb : 1 ≤ b) {xs : List Nat} (t : Trim xs) (h : xs ≠ []) : 0 < num b xs := by
 rcases Nat.eq_zero_or_pos (num b xs) with e | e
 ·exact absurd (knz hb t e) h
 ·exact e
theorem cmp_lt {a b : Nat} : cmp a b < 0 ↔ a < b := by
 unfold cmp
 by_cases h : a < b
 ·rw [if_pos h]; omega
 ·rw [if_neg h]
  by_cases h2 : a = b
  ·rw [if_pos h2]; omega
  ·rw [if_neg h2]; omega
theorem cmp_le {a b : Nat} : cmp a b ≤ 0 ↔ a ≤ b := by
 unfold cmp
 by_cases h : a < b
 ·rw [if_pos h]; omega
 ·rw [if_neg h]
  by_cases h2 : a = b
  ·rw [if_pos h2]; omega
  ·rw [if_neg h2]; omega
theorem k3r {xs ys : List Nat} (lx : ∀ x ∈ xs, x < B) (ly : ∀ x ∈ ys, x < B) : Iter ksi (.fn xs ys) (divN xs ys) := by
 refine .done ?_
 show kjg _ _ = _
 unfold kjg divN
 cases hx : rt xs with
 | false => simp
 | true =>
  cases hy : rt ys with
  | false => simp
  | true =>
   obtain ⟨lx64, tx⟩ := rt_iff.1 hx
   obtain ⟨ly64, ty⟩ := rt_iff.1 hy
   simp only [Bool.and_self, Bool.not_true, cond_false, and_self, if_true]
   by_cases h0 : ys = []
   ·subst h0
    rfl
   ·have hl : ys.length ≠ 0 := by simpa using h0
    have hp := kpd B1 ty h0
    rw [if_neg h0, condF (by rw [decide_eq_false_iff_not]; omega), ki tx, Option.bind_some, ki ty, Option.bind_some]
    by_cases hc : num B xs < num B ys
    ·rw [condT (by rw [decide_eq_true_eq, cmp_lt]; exact hc), ki (by omega), Option.bind_some, Nat.div_eq_of_lt hc, Nat.mod_eq_of_lt hc, kbh, kdz B2 lx tx]
    ·rw [condF (by rw [decide_eq_false_iff_not, cmp_lt]; exact hc)]
     by_cases h1 : ys.length = 1
     ·obtain ⟨y, rfl⟩ := List.length_eq_one_iff.1 h1
      have hy : y < 18446744073709551616 := ly y (by simp)
      have e : num B [y] = y := by simp [num]
      rw [e] at hp ⊢
      have hm := Nat.mod_lt (num B xs) hp
      have a0 := kbg (xs := [y]) (i := 0) (by simp)
      rw [show ((0 : Nat) : Int) = 0 from rfl] at a0
      rw [condT (by rw [decide_eq_true_eq]; omega), a0, Option.bind_some]
      rw [List.getElem_cons_zero, ki ⟨by omega, by omega, by omega⟩, Option.bind_some, Int.toNat_natCast, kz (by omega), Option.bind_some]
     ·have hle := kve lx ly ty (Nat.le_of_not_lt hc)
      rw [condF (by rw [decide_eq_false_iff_not]; omega), Option.bind_some, ki (by omega), Option.bind_some, ki lx64, Option.bind_some, ki hle, Option.bind_some]
theorem ki5 {h : AH} {s t : Sl} {xs ys : List Nat} (n : Nats h s xs) (m : Nats h t ys) : ∃ (a b : Sl) (h' : AH), go (.fn F.kfn [s.v, t.v]) h = some (.tup [a.v, b.v, .int .i64 (divN xs ys).2.2], h') ∧ Nats h' a (divN xs ys).1 ∧ Nats h' b (divN xs ys).2.1 ∧ Grow h h' ∧ Own h a ∧ Own h b := by
 obtain ⟨_, h', e, a, b, rfl, k⟩ := k89 (k3r n.lt m.lt) n m
 exact ⟨a, b, h', e, k⟩
theorem kqy {a c : Nat} (h : a ≤ c) : (digs D a).length ≤ (digs D c).length := by
 rw [kq D2]
 exact Nat.lt_of_le_of_lt h ((kq D2 c _).1 (Nat.le_refl _))
theorem k6g {xs ys q : List Nat} {R j : Nat} {res : kca} (ly : ∀ y ∈ ys, y < D) (hl : ys.length ≤ 536870912) (hy : 0 < num D ys) (hR : (digs D R).length ≤ 1073741824) (hj : j < q.length)
  (K : Iter kia (.p4 xs ys (q.set j (R / num D ys)) (digs D (R % num D ys)) (IntKind.wrap .i64 ((j : Int) - 1))) res) :
  ∀ (n low high : Nat), high - low = n → low ≤ R / num D ys → R / num D ys ≤ high → high < 65536 → Iter kia (.p9 xs ys q (digs D R) j low high) res := by
 intro n
 induction n using Nat.strongRecOn with
 | ind n ih =>
  intro low high hn h1 h2 h3
  have tR := kb1 D2 R
  have lR := kv D2 R
  by_cases hc : low < high
  ·have hm : IntKind.wrap .u64 (Int.tdiv (IntKind.wrap .u64 ((IntKind.wrap .u64 ((low : Int) + (high : Int))) + 1)) 2) = (((low + high + 1) / 2 : Nat) : Int) := by
    rw [← Int.natCast_add, kb9 (by omega), show (((low + high : Nat) : Int) + 1) = ((low + high + 1 : Nat) : Int) from by omega, kb9 (by omega)]
    rw [show Int.tdiv ((low + high + 1 : Nat) : Int) 2 = (((low + high + 1) / 2 : Nat) : Int) from rfl, kb9 (by omega)]
   obtain ⟨mid, hmid⟩ : ∃ mid, mid = (low + high + 1) / 2 := ⟨_, rfl⟩
   have e1 : num D [mid] = mid := by simp [num]
   have lm : ∀ x ∈ [mid], x < D := by
    intro x hx
    rw [List.mem_singleton.1 hx]
    exact show mid < 65536 by omega
   have unf : ∀ o, cond (decide (num D ys * mid ≤ R)) (some (Sum.inl (β := kca) (kde.p9 xs ys q (digs D R) j mid high))) (some (.inl (.p9 xs ys q (digs D R) j low (IntKind.wrap .u64 ((mid : Int) - 1))))) = o → kia (.p9 xs ys q (digs D R) j low high) = o := by
    intro o ho
    show kgs _ _ _ _ _ _ _ = _
    unfold kgs
    rw [condT (by rw [decide_eq_true_eq]; omega), hm, ← hmid, kz (by omega), Option.bind_some, ki ly, Option.bind_some, ki lm, Option.bind_some, ki (by simp; omega), Option.bind_some, ki (kv D2 _), Option.bind_some, ki lR, Option.bind_some, ki (kb1 D2 _), Option.bind_some, ki tR, Option.bind_some, kg D2, kg D2, e1]
    rw [← ho]
    congr 1
    rw [decide_eq_decide]
    exact cmp_le
   by_cases hle : num D ys * mid ≤ R
   ·have hq : mid ≤ R / num D ys := by rw [Nat.le_div_iff_mul_le hy, Nat.mul_comm]; exact hle
    refine .next (unf _ ?_) (ih (high - mid) (by omega) mid high rfl hq h2 h3)
    rw [condT (by rw [decide_eq_true_eq]; exact hle)]
   ·have hq : R / num D ys < mid := by rw [Nat.div_lt_iff_lt_mul hy, Nat.mul_comm]; omega
    refine .next (unf _ ?_) (ih (mid - 1 - low) (by omega) low (mid - 1) rfl h1 (by omega) (by omega))
    rw [condF (by rw [decide_eq_false_iff_not]; exact hle), show IntKind.wrap .u64 ((mid : Int) - 1) = ((mid - 1 : Nat) : Int) from by rw [wrapU]; omega]
  ·have hq : R / num D ys = low := by omega
   rw [hq] at K
   have e1 : num D [low] = low := by simp [num]
   have lm : ∀ x ∈ [low], x < D := by
    intro x hx
    rw [List.mem_singleton.1 hx]
    exact show low < 65536 by omega
   have hml : num D ys * low ≤ R := by rw [← hq]; exact Nat.mul_div_le R _
   have hmod : R - num D ys * low = R % num D ys := by
    have := Nat.div_add_mod R (num D ys)
    rw [hq] at this
    omega
   refine .next ?_ K
   show kgs _ _ _ _ _ _ _ = _
   unfold kgs
   rw [condF (by rw [decide_eq_false_iff_not]; omega), ku hj, Option.bind_some, kz (by omega), Option.bind_some, Option.bind_some, ki ly, Option.bind_some, ki lm, Option.bind_some, ki (by simp; omega), Option.bind_some, ki lR, Option.bind_some, ki (kv D2 _), Option.bind_some, ki hR, Option.bind_some, e1, kg D2, kg D2, ki (kqy hml), Option.bind_some, ki hml, Option.bind_some, hmod]
theorem kuu {xs ys : List Nat} (lx : ∀ x ∈ xs, x < D) (ly : ∀ y ∈ ys, y < D) (hl : ys.length ≤ 536870912) (hxl : xs.length ≤ 536870912) (hy : 0 < num D ys) :
  ∀ (i : Nat) (q : List Nat) (r : Nat), i ≤ xs.length → q.length = xs.length → (∀ x ∈ q, x < D) → r < num D ys → num D (xs.drop i) = num D ys * num D (q.drop i) + r →
   Iter kia (.p4 xs ys q (digs D r) ((i : Int) - 1)) (digs D (num D xs / num D ys), digs D (num D xs % num D ys))
 | 0, q, r, hi, lq, tq, hr, e => by
  rw [List.drop_zero, List.drop_zero] at e
  refine .done ?_
  show kf6 _ _ _ _ _ = _
  unfold kf6
  rw [condF (by rw [decide_eq_false_iff_not]; omega), ki tq, Option.bind_some, e, Nat.mul_add_div hy, Nat.div_eq_of_lt hr, Nat.add_zero, Nat.mul_add_mod, Nat.mod_eq_of_lt hr]
 | j + 1, q, r, hi, lq, tq, hr, e => by
  have hj : j < xs.length := by omega
  have hjq : j < q.length := by omega
  have hx : xs[j] < 65536 := lx _ (List.getElem_mem _)
  have hR : (xs[j] + D * r) / num D ys < D := by
   rw [Nat.div_lt_iff_lt_mul hy]
   have : D * (r + 1) ≤ D * num D ys := Nat.mul_le_mul_left _ hr
   rw [Nat.mul_add, Nat.mul_one] at this
   have h2 : xs[j] < D := hx
   omega
  have lr : (digs D r).length ≤ ys.length := by
   rw [kq D2]
   exact Nat.lt_trans hr (num_lt (by decide) ly)
  have lR : (digs D (xs[j] + D * r)).length ≤ 1073741824 := by
   have : (digs D (xs[j] + D * r)).length ≤ ys.length + 1 := by
    rw [kq D2, Nat.pow_succ]
    have h1 : D * (r + 1) ≤ D * D ^ ys.length := Nat.mul_le_mul_left _ (Nat.lt_trans hr (num_lt (by decide) ly))
    rw [Nat.mul_add, Nat.mul_one, Nat.mul_comm D (D ^ ys.length)] at h1
    have h2 : xs[j] < D := hx
    omega
   omega
  have lcons : ∀ x ∈ xs[j] :: digs D r, x < D := by
   intro x hx'
   rcases List.mem_cons.1 hx' with rfl | h
   ·exact hx
   ·exact kv D2 r x h
  have hmod := Nat.mod_lt (xs[j] + D * r) hy
  have IH := kuu lx ly hl hxl hy j (q.set j ((xs[j] + D * r) / num D ys)) ((xs[j] + D * r) % num D ys) (by omega) (by simpa using lq) (set_lt tq hR) hmod (by
   rw [kq0 hjq, List.drop_eq_getElem_cons hj]
   simp only [num]
   have dm := Nat.div_add_mod (xs[j] + D * r) (num D ys)
   rw [e, Nat.mul_add D, Nat.mul_add (num D ys), Nat.mul_left_comm D]
   omega)
  refine .next (s' := .p9 xs ys q (digs D (xs[j] + D * r)) (j : Int) ((0 : Nat) : Int) ((65535 : Nat) : Int)) ?_ (k6g ly hl hy lR hjq (by rw [wrap64 (by omega) (by omega)]; exact IH) _ 0 65535 rfl (Nat.zero_le _) (by have : (xs[j] + D * r) / num D ys < 65536 := hR; omega) (by omega))
  show kf6 _ _ _ _ _ = _
  unfold kf6
  rw [condT (by rw [decide_eq_true_eq]; omega), show ((j + 1 : Nat) : Int) - 1 = (j : Int) from by omega, kbg hj, Option.bind_some, kz (by omega), Option.bind_some, ki (by omega), Option.bind_some, ki lcons, Option.bind_some]
  simp only [num, kg D2]
  rfl
theorem kxt {xs ys : List Nat} (lx : ∀ x ∈ xs, x < D) (ly : ∀ y ∈ ys, y < D) (hl : ys.length ≤ 536870912) (hxl : xs.length ≤ 536870912) (hy : 0 < num D ys) : Iter kia (.fn xs ys) (digs D (num D xs / num D ys), digs D (num D xs % num D ys)) := by
 have key := kuu lx ly hl hxl hy xs.length (List.replicate xs.length 0) 0 (Nat.le_refl _) (by simp) (fun x hx => by rw [List.eq_of_mem_replicate hx]; decide) hy (by simp [num])
 rw [kbh] at key
 refine .next ?_ key
 show kjt _ _ = _
 unfold kjt
 rw [kd4 (by omega), Option.bind_some, wrap64 (by omega) (by omega)]
theorem k5e {h : AH} {s t : Sl} {xs ys : List Nat} (n : Nats h s xs) (m : Nats h t ys) (lx : ∀ x ∈ xs, x < D) (ly : ∀ y ∈ ys, y < D) (hxl : xs.length ≤ 536870912) (hl : ys.length ≤ 536870912) (hy : 0 < num D ys) :
  ∃ (a b : Sl) (h' : AH), go (.fn F.kcn [s.v, t.v]) h = some (.tup [a.v, b.v], h') ∧ Nats h' a (digs D (num D xs / num D ys)) ∧ Nats h' b (digs D (num D xs % num D ys)) ∧ Grow h h' ∧ Own h a ∧ Own h b := by
 obtain ⟨_, h', e, a, b, rfl, k⟩ := k8t (kxt lx ly hl hxl hy) n m
 exact ⟨a, b, h', e, k⟩
end Go.Ab

/- squeezed -/
set_option linter.unusedVariables false
set_option linter.unusedSimpArgs false
set_option maxRecDepth 10000
namespace Go.Ab
open Go.Proofs Go.Num
inductive kio
 | fn (x1 : List Nat) (x2 : List Nat)
 | no
abbrev kgz := List Nat × List Nat × Int
noncomputable def kkx (x1 : List Nat) (x2 : List Nat) : Option (kio ⊕ kgz) :=
 cond (!(rt x1)) (some (.inr ([], [], 1))) (cond (!(rt x2)) (some (.inr ([], [], 1))) (cond (decide ((List.length x2 : Int) = 0)) (some (.inr ([], [], 3))) ((need (List.length x1 ≤ 1073741824)).bind fun c8_0 => (need (List.length x2 ≤ 1073741824)).bind fun c9_0 => (need (∀ x ∈ (digs D (num B x1)), x < D)).bind fun c10_0 => (need (∀ x ∈ (digs D (num B x2)), x < D)).bind fun c10_1 => (need (List.length (digs D (num B x1)) ≤ 536870912)).bind fun c10_2 => (need (List.length (digs D (num B x2)) ≤ 536870912)).bind fun c10_3 => (need (0 < num D (digs D (num B x2)))).bind fun c10_4 => (need (∀ x ∈ (digs D (num D (digs D (num B x1)) / num D (digs D (num B x2)))), x < D)).bind fun c11_0 => (need (Trim (digs D (num D (digs D (num B x1)) / num D (digs D (num B x2)))))).bind fun c11_1 => (need (List.length (digs D (num D (digs D (num B x1)) / num D (digs D (num B x2)))) ≤ 536870912)).bind fun c11_2 => (need (∀ x ∈ (digs D (num D (digs D (num B x1)) % num D (digs D (num B x2)))), x < D)).bind fun c12_0 => (need (Trim (digs D (num D (digs D (num B x1)) % num D (digs D (num B x2)))))).bind fun c12_1 => (need (List.length (digs D (num D (digs D (num B x1)) % num D (digs D (num B x2)))) ≤ 536870912)).bind fun c12_2 => some (.inr (digs B (num D (digs D (num D (digs D (num B x1)) / num D (digs D (num B x2))))), digs B (num D (digs D (num D (digs D (num B x1)) % num D (digs D (num B x2))))), 0)))))
noncomputable def kvf : kio → Option (kio ⊕ kgz)
 | .fn x1 x2 => kkx x1 x2
 | .no => none
@[reducible] def k4q (h0 : AH) (r : kgz) (v : AV) (h' : AH) : Prop := ∃ s1 : Sl, ∃ s2 : Sl, v = .tup [s1.v, s2.v, .int .i64 r.2.2] ∧ Nats h' s1 r.1 ∧ Nats h' s2 r.2.1 ∧ Grow h0 h' ∧ Own h0 s1 ∧ Own h0 s2
def kpl (r : kgz) : kio → Prop
 | .fn x1 x2 => ∀ {h : AH} {a1 : Sl} {a2 : Sl}, Nats h a1 x1 → Nats h a2 x2 → Runs (go (.fn F.khy [a1.v, a2.v]) h) (k4q h r)
 | .no => True
theorem kyu {r : kgz} {o : kio ⊕ kgz} {x1 : List Nat} {x2 : List Nat} (e : kkx x1 x2 = some o) (good : GoodS (kpl r) r o) : kpl r (.fn x1 x2) := by
 intro h a1 a2 n1 n2
 rw [kbb8]
 unfold kkx at e
 rw [n2.len]
 refine Runs.step (kbr n1) ?_
 refine Runs.step (seen rfl) ?_
 refine Runs.step (kbr n2) ?_
 refine Runs.step (seen rfl) ?_
 refine Runs.cond (fun k5 => ?_) (fun k5 => ?_)
 ·replace e := (condT k5).symm.trans e
  cases e
  cases good
  exact Runs.ret ⟨(⟨none, 0, .is 0⟩ : Sl), (⟨none, 0, .is 0⟩ : Sl), rfl, (Nats.nil _), (Nats.nil _), (Grow.refl _), (Own.nil _), (Own.nil _)⟩
 ·replace e := (condF k5).symm.trans e
  refine Runs.cond (fun k6 => ?_) (fun k6 => ?_)
  ·replace e := (condT k6).symm.trans e
   cases e
   cases good
   exact Runs.ret ⟨(⟨none, 0, .is 0⟩ : Sl), (⟨none, 0, .is 0⟩ : Sl), rfl, (Nats.nil _), (Nats.nil _), (Grow.refl _), (Own.nil _), (Own.nil _)⟩
  ·replace e := (condF k6).symm.trans e
   refine Runs.cond (fun k7 => ?_) (fun k7 => ?_)
   ·replace e := (condT k7).symm.trans e
    cases e
    cases good
    exact Runs.ret ⟨(⟨none, 0, .is 0⟩ : Sl), (⟨none, 0, .is 0⟩ : Sl), rfl, (Nats.nil _), (Nats.nil _), (Grow.refl _), (Own.nil _), (Own.nil _)⟩
   ·replace e := (condF k7).symm.trans e
    obtain ⟨c8_0, q8_0, e⟩ := Option.bind_eq_some_iff.1 e
    obtain ⟨s8, H8, e8, n8, g8, o8⟩ := kd9 n1  c8_0.down
    refine Runs.step e8 ?_
    refine Runs.step (seen (asSl_v _)) ?_
    obtain ⟨c9_0, q9_0, e⟩ := Option.bind_eq_some_iff.1 e
    obtain ⟨s9, H9, e9, n9, g9, o9⟩ := kd9 (n2.grow g8)  c9_0.down
    refine Runs.step e9 ?_
    refine Runs.step (seen (asSl_v _)) ?_
    obtain ⟨c10_0, q10_0, e⟩ := Option.bind_eq_some_iff.1 e
    obtain ⟨c10_1, q10_1, e⟩ := Option.bind_eq_some_iff.1 e
    obtain ⟨c10_2, q10_2, e⟩ := Option.bind_eq_some_iff.1 e
    obtain ⟨c10_3, q10_3, e⟩ := Option.bind_eq_some_iff.1 e
    obtain ⟨c10_4, q10_4, e⟩ := Option.bind_eq_some_iff.1 e
    obtain ⟨s10, s10b, H10, e10, n10, n10b, g10, o10, o10b⟩ := k5e (n8.grow g9) n9  c10_0.down c10_1.down c10_2.down c10_3.down c10_4.down
    refine Runs.step e10 ?_
    refine Runs.step rfl ?_
    refine Runs.step (seen (asSl_v _)) ?_
    refine Runs.step (seen (asSl_v _)) ?_
    obtain ⟨c11_0, q11_0, e⟩ := Option.bind_eq_some_iff.1 e
    obtain ⟨c11_1, q11_1, e⟩ := Option.bind_eq_some_iff.1 e
    obtain ⟨c11_2, q11_2, e⟩ := Option.bind_eq_some_iff.1 e
    obtain ⟨s11, H11, e11, n11, g11, o11⟩ := kqq n10  c11_0.down c11_1.down c11_2.down
    refine Runs.step e11 ?_
    refine Runs.step rfl ?_
    refine Runs.step (seen (asSl_v _)) ?_
    refine Runs.step (seen rfl) ?_
    obtain ⟨c12_0, q12_0, e⟩ := Option.bind_eq_some_iff.1 e
    obtain ⟨c12_1, q12_1, e⟩ := Option.bind_eq_some_iff.1 e
    obtain ⟨c12_2, q12_2, e⟩ := Option.bind_eq_some_iff.1 e
    obtain ⟨s12, H12, e12, n12, g12, o12⟩ := kqq (n10b.grow g11)  c12_0.down c12_1.down c12_2.down
    refine Runs.step e12 ?_
    refine Runs.step rfl ?_
    refine Runs.step (seen (asSl_v _)) ?_
    refine Runs.step (seen rfl) ?_
    cases e
    cases good
    exact Runs.ret ⟨s11, s12, rfl, (n11.grow g12), n12, ((((g8.trans g9).trans g10).trans g11).trans g12), (o11.of_le ((g8.trans g9).trans g10)), (o12.of_le (((g8.trans g9).trans g10).trans g11))⟩
theorem k2f {s : kio} {r : kgz} (it : Iter kvf s r) : kpl r s := Iter.ind (fun s o e good => by
 cases s with
 | fn x1 x2 => exact @kyu _ _ x1 x2 e good
 | no => exact True.intro
 ) it
end Go.Ab

/- squeezed -/
set_option linter.unusedVariables false
set_option linter.unusedSimpArgs false
set_option maxRecDepth 10000
namespace Go.Ab
open Go.Proofs Go.Num
theorem ky0 {xs ys : List Nat} (lx : ∀ x ∈ xs, x < B) (ly : ∀ x ∈ ys, x < B) : Iter kvf (.fn xs ys) (divN xs ys) := by
 refine .done ?_
 show kkx _ _ = _
 unfold kkx divN
 cases hx : rt xs with
 | false => simp
 | true =>
  cases hy : rt ys with
  | false => simp
  | true =>
   obtain ⟨lx64, tx⟩ := rt_iff.1 hx
   obtain ⟨ly64, ty⟩ := rt_iff.1 hy
   simp only [Bool.not_true, cond_false, and_self, if_true]
   by_cases h0 : ys = []
   ·subst h0
    rfl
   ·have hl : ys.length ≠ 0 := by simpa using h0
    have hp := kpd B1 ty h0
    have k1 := kf5 lx lx64
    have k2 := kf5 ly ly64
    have k3 := kqy (Nat.div_le_self (num B xs) (num B ys))
    have k4 := kqy (Nat.mod_le (num B xs) (num B ys))
    rw [if_neg h0, condF (by rw [decide_eq_false_iff_not]; omega), ki (by omega), Option.bind_some, ki (by omega), Option.bind_some, ki (kv D2 _), Option.bind_some, ki (kv D2 _), Option.bind_some, ki (by omega), Option.bind_some, ki (by omega), Option.bind_some]
    rw [ki (by rw [kg D2]; exact hp), Option.bind_some, ki (kv D2 _), Option.bind_some, ki (kb1 D2 _), Option.bind_some, ki (by simp only [kg D2]; omega), Option.bind_some, ki (kv D2 _), Option.bind_some, ki (kb1 D2 _), Option.bind_some, ki (by simp only [kg D2]; omega), Option.bind_some]
    simp only [kg D2]
theorem koq {h : AH} {s t : Sl} {xs ys : List Nat} (n : Nats h s xs) (m : Nats h t ys) : ∃ (a b : Sl) (h' : AH), go (.fn F.khy [s.v, t.v]) h = some (.tup [a.v, b.v, .int .i64 (divN xs ys).2.2], h') ∧ Nats h' a (divN xs ys).1 ∧ Nats h' b (divN xs ys).2.1 ∧ Grow h h' ∧ Own h a ∧ Own h b := by
 obtain ⟨_, h', e, a, b, rfl, k⟩ := k2f (ky0 n.lt m.lt) n m
 exact ⟨a, b, h', e, k⟩
theorem kpz {h : AH} {s t : Sl} {xs ys : List Nat} (n : Nats h s xs) (m : Nats h t ys) : ∃ (b : Sl) (h' : AH), go (.fn F.kiz [s.v, t.v]) h = some (b.v, h') ∧ Nats h' b (divN xs ys).2.1 ∧ Grow h h' ∧ Own h b := by
 obtain ⟨a, b, h', e, na, nb, g, oa, ob⟩ := koq n m
 refine ⟨b, h', ?_, nb, g, ob⟩
 rw [kz3, e]
 simp only [Option.bind_some, k45, asSl_v, kb]
theorem kpe {a : Int} {x : Nat} {h : AH} (q : u64P a = some x) : ∃ (s' : Sl) (h' : AH), go (.fn F.kdd [.int .u64 a]) h = some (s'.v, h') ∧ Nats h' s' (digs B x) ∧ Grow h h' ∧ Own h s' := by
 obtain ⟨rfl, hx⟩ := kki q
 exact kpx hx
theorem kri {h h0 : AH} {i : Nat} {e : TypeId} {s : Sl} {xs : List Nat} (b : h.has i [] e) (n : Nats h s xs) (g0 : Grow h0 h) (hi : h0.blks.size ≤ i) (hl : xs.length ≤ 1073741824) :
  ∃ (s' : Sl) (h' : AH), kp Pg (⟨some (.new i 0), 0, .is 0⟩ : Sl) (xs.map u64) xs.length T.ke 1 h = some (s'.v, h') ∧ Nats h' s' xs ∧ Grow h h' ∧ Own h0 s' := by
 have n1 : Nats h ⟨some (.new i 0), 0, .is 0⟩ [] := ⟨Cells.of_has (n := 1) (m := 0) b rfl, by simp, by simp⟩
 cases xs with
 | nil =>
  obtain ⟨s', e1, c, o⟩ := kqf (P := Pg) (elem := T.ke) (m := 1) (by omega) n1.cells
  exact ⟨s', h, e1, ⟨c, by simp, by simp⟩, Grow.refl h, o h0 fun r hr => by cases hr; exact ⟨_, _, rfl, hi⟩⟩
 | cons y ys =>
  refine ⟨_, _, kfy (c := 0) rfl (by simp) (kkt (by simp at hl ⊢; omega)) n1.cells, ⟨⟨rfl, by simp, fun k w hw => ⟨_, rfl, ?_⟩⟩, n.lt, n.short⟩, Grow.push _ _, fun r hr => ?_⟩
  ·have := AH.cell_push h ([] ++ (y :: ys).map u64) T.ke k
   rw [Ref.add_new, Nat.zero_add]
   rw [List.map_nil, this]
   exact hw
  ·cases hr
   exact ⟨_, _, rfl, g0.size⟩
end Go.Ab

/- squeezed -/
set_option linter.unusedVariables false
set_option linter.unusedSimpArgs false
set_option maxRecDepth 10000
namespace Go.Ab
open Go.Proofs Go.Num
inductive kfk
 | fn (x1 : List Nat) (x2 : List Nat)
 | p4 (x1 : List Nat) (x2 : List Nat)
abbrev keb := List Nat × Int
noncomputable def ke0 (x1 : List Nat) (x2 : List Nat) : Option (kfk ⊕ keb) :=
 cond (!(rt x1)) (some (.inr ([], 1))) (cond (!(rt x2)) (some (.inr ([], 1))) ((need (List.length x1 ≤ 8796093022208)).bind fun c7_0 => (need (List.length x2 ≤ 8796093022208)).bind fun c8_0 => some (.inl (.p4 x1 x2))))
noncomputable def khc (x1 : List Nat) (x2 : List Nat) : Option (kfk ⊕ keb) :=
 cond (decide ((List.length x2 : Int) > 0)) (some (.inl (.p4 x2 ((divN x1 x2).2.1)))) (some (.inr (x1, 0)))
noncomputable def ko9 : kfk → Option (kfk ⊕ keb)
 | .fn x1 x2 => ke0 x1 x2
 | .p4 x1 x2 => khc x1 x2
@[reducible] def kq6 (h0 : AH) (r : keb) (v : AV) (h' : AH) : Prop := ∃ s1 : Sl, v = .tup [s1.v, .int .i64 r.2] ∧ Nats h' s1 r.1 ∧ Grow h0 h' ∧ Own h0 s1
def kjy (r : keb) : kfk → Prop
 | .fn x1 x2 => ∀ {h : AH} {a1 : Sl} {a2 : Sl}, Nats h a1 x1 → Nats h a2 x2 → Runs (go (.fn F.kf4 [a1.v, a2.v]) h) (kq6 h r)
 | .p4 x1 x2 => ∀ {h0 h : AH} {a1 : Sl} {a2 : Sl}, Grow h0 h → Nats h a1 x1 → Nats h a2 x2 → Own h0 a1 → Own h0 a2 → Runs (go (.pt F.kf4 Td.kls [(0, a1.v), (1, a2.v)]) h) (kq6 h0 r)
theorem k9w {r : keb} {o : kfk ⊕ keb} {x1 : List Nat} {x2 : List Nat} (e : ke0 x1 x2 = some o) (good : GoodS (kjy r) r o) : kjy r (.fn x1 x2) := by
 intro h a1 a2 n1 n2
 rw [kzj]
 unfold ke0 at e
 refine Runs.step (kdg n1) ?_
 refine Runs.step (seen rfl) ?_
 refine Runs.cond (fun k4 => ?_) (fun k4 => ?_)
 ·replace e := (condT k4).symm.trans e
  cases e
  cases good
  exact Runs.ret ⟨(⟨none, 0, .is 0⟩ : Sl), rfl, (Nats.nil _), (Grow.refl _), (Own.nil _)⟩
 ·replace e := (condF k4).symm.trans e
  refine Runs.step (kdg n2) ?_
  refine Runs.step (seen rfl) ?_
  refine Runs.cond (fun k6 => ?_) (fun k6 => ?_)
  ·replace e := (condT k6).symm.trans e
   cases e
   cases good
   exact Runs.ret ⟨(⟨none, 0, .is 0⟩ : Sl), rfl, (Nats.nil _), (Grow.refl _), (Own.nil _)⟩
  ·replace e := (condF k6).symm.trans e
   obtain ⟨c7_0, q7_0, e⟩ := Option.bind_eq_some_iff.1 e
   obtain ⟨s7, H7, e7, n7, g7, o7⟩ := ki6 n1  c7_0.down
   refine Runs.step e7 ?_
   refine Runs.step (seen (asSl_v _)) ?_
   obtain ⟨c8_0, q8_0, e⟩ := Option.bind_eq_some_iff.1 e
   obtain ⟨s8, H8, e8, n8, g8, o8⟩ := ki6 (n2.grow g7)  c8_0.down
   refine Runs.step e8 ?_
   refine Runs.step (seen (asSl_v _)) ?_
   cases e
   exact good (g7.trans g8) (n7.grow g8) n8 (o7.of_le (Grow.refl _)) (o8.of_le g7)
theorem k0j {r : keb} {o : kfk ⊕ keb} {x1 : List Nat} {x2 : List Nat} (e : khc x1 x2 = some o) (good : GoodS (kjy r) r o) : kjy r (.p4 x1 x2) := by
 intro h0 h a1 a2 g0 n1 n2 ow1 ow2
 rw [kxe]
 unfold khc at e
 rw [n2.len]
 refine Runs.cond (fun k3 => ?_) (fun k3 => ?_)
 ·replace e := (condT k3).symm.trans e
  obtain ⟨s4, s4b, H4, e4, n4, n4b, g4, o4, o4b⟩ := ki5 n1 n2
  refine Runs.step e4 ?_
  refine Runs.step rfl ?_
  refine Runs.step (seen (asSl_v _)) ?_
  refine Runs.step (seen (asSl_v _)) ?_
  refine Runs.step (seen (kb _ _)) ?_
  cases e
  exact good (g0.trans g4) (n2.grow g4) n4b (ow2.of_le (Grow.refl _)) (o4b.of_le g0)
 ·replace e := (condF k3).symm.trans e
  cases e
  cases good
  exact Runs.ret ⟨a1, rfl, n1, g0, (ow1.of_le (Grow.refl _))⟩
theorem kbap {s : kfk} {r : keb} (it : Iter ko9 s r) : kjy r s := Iter.ind (fun s o e good => by
 cases s with
 | fn x1 x2 => exact @k9w _ _ x1 x2 e good
 | p4 x1 x2 => exact @k0j _ _ x1 x2 e good
 ) it
inductive kf0
 | fn (x1 : List Nat) (x2 : List Nat)
 | p7 (x1 : List Nat) (x2 : List Nat)
abbrev kdw := List Nat × Int
noncomputable def keh (x1 : List Nat) (x2 : List Nat) : Option (kf0 ⊕ kdw) :=
 cond (!(rt x1)) (some (.inr ([], 1))) (cond (!(rt x2)) (some (.inr ([], 1))) ((need (List.length x1 ≤ 1073741824)).bind fun c8 => (need (List.length x2 ≤ 1073741824)).bind fun c10 => some (.inl (.p7 x1 x2))))
noncomputable def kg0 (x1 : List Nat) (x2 : List Nat) : Option (kf0 ⊕ kdw) :=
 cond (decide ((List.length x2 : Int) > 0)) (some (.inl (.p7 x2 ((divN x1 x2).2.1)))) (some (.inr (x1, 0)))
noncomputable def kob : kf0 → Option (kf0 ⊕ kdw)
 | .fn x1 x2 => keh x1 x2
 | .p7 x1 x2 => kg0 x1 x2
@[reducible] def kql (h0 : AH) (r : kdw) (v : AV) (h' : AH) : Prop := ∃ s1 : Sl, v = .tup [s1.v, .int .i64 r.2] ∧ Nats h' s1 r.1 ∧ Grow h0 h' ∧ Own h0 s1
def ki9 (r : kdw) : kf0 → Prop
 | .fn x1 x2 => ∀ {h : AH} {a1 : Sl} {a2 : Sl}, Nats h a1 x1 → Nats h a2 x2 → Runs (go (.fn F.kfd [a1.v, a2.v]) h) (kql h r)
 | .p7 x1 x2 => ∀ {h0 h : AH} {a1 : Sl} {a2 : Sl}, Grow h0 h → Nats h a1 x1 → Nats h a2 x2 → Own h0 a1 → Own h0 a2 → Runs (go (.pt F.kfd Td.kk1 [(8, a1.v), (9, a2.v)]) h) (kql h0 r)
theorem kzb {r : kdw} {o : kf0 ⊕ kdw} {x1 : List Nat} {x2 : List Nat} (e : keh x1 x2 = some o) (good : GoodS (ki9 r) r o) : ki9 r (.fn x1 x2) := by
 intro h a1 a2 n1 n2
 rw [k25]
 unfold keh at e
 refine Runs.step (kbr n1) ?_
 refine Runs.step (seen rfl) ?_
 refine Runs.step (kbr n2) ?_
 refine Runs.step (seen rfl) ?_
 refine Runs.cond (fun k5 => ?_) (fun k5 => ?_)
 ·replace e := (condT k5).symm.trans e
  cases e
  cases good
  exact Runs.ret ⟨(⟨none, 0, .is 0⟩ : Sl), rfl, (Nats.nil _), (Grow.refl _), (Own.nil _)⟩
 ·replace e := (condF k5).symm.trans e
  refine Runs.cond (fun k6 => ?_) (fun k6 => ?_)
  ·replace e := (condT k6).symm.trans e
   cases e
   cases good
   exact Runs.ret ⟨(⟨none, 0, .is 0⟩ : Sl), rfl, (Nats.nil _), (Grow.refl _), (Own.nil _)⟩
  ·replace e := (condF k6).symm.trans e
   refine Runs.new fun H7 b7 g7 => ?_
   refine Runs.step (kl3 (n1.grow g7)) ?_
   obtain ⟨c8, q8, e⟩ := Option.bind_eq_some_iff.1 e
   obtain ⟨s8, H8, e8, n8, g8, o8⟩ := kri b7 (n1.grow g7) g7 (Nat.le_refl _) c8.down
   refine Runs.step e8 ?_
   refine Runs.step (asSl_v _) ?_
   refine Runs.new fun H9 b9 g9 => ?_
   refine Runs.step (kl3 (n2.grow ((g7.trans g8).trans g9))) ?_
   obtain ⟨c10, q10, e⟩ := Option.bind_eq_some_iff.1 e
   obtain ⟨s10, H10, e10, n10, g10, o10⟩ := kri b9 (n2.grow ((g7.trans g8).trans g9)) g9 (Nat.le_refl _) c10.down
   refine Runs.step e10 ?_
   refine Runs.step (asSl_v _) ?_
   cases e
   exact good (((g7.trans g8).trans g9).trans g10) (n8.grow (g9.trans g10)) n10 (o8.of_le (Grow.refl _)) (o10.of_le (g7.trans g8))
theorem k9y {r : kdw} {o : kf0 ⊕ kdw} {x1 : List Nat} {x2 : List Nat} (e : kg0 x1 x2 = some o) (good : GoodS (ki9 r) r o) : ki9 r (.p7 x1 x2) := by
 intro h0 h a1 a2 g0 n1 n2 ow1 ow2
 rw [k7q]
 unfold kg0 at e
 rw [n2.len]
 refine Runs.cond (fun k3 => ?_) (fun k3 => ?_)
 ·replace e := (condT k3).symm.trans e
  obtain ⟨s4, H4, e4, n4, g4, o4⟩ := kpz n1 n2
  refine Runs.step e4 ?_
  refine Runs.step (seen (asSl_v _)) ?_
  cases e
  exact good (g0.trans g4) (n2.grow g4) n4 (ow2.of_le (Grow.refl _)) (o4.of_le g0)
 ·replace e := (condF k3).symm.trans e
  cases e
  cases good
  exact Runs.ret ⟨a1, rfl, n1, g0, (ow1.of_le (Grow.refl _))⟩
theorem k1l {s : kf0} {r : kdw} (it : Iter kob s r) : ki9 r s := Iter.ind (fun s o e good => by
 cases s with
 | fn x1 x2 => exact @kzb _ _ x1 x2 e good
 | p7 x1 x2 => exact @k9y _ _ x1 x2 e good
 ) it
inductive khs
 | fn (a1 : Bool) (x2 : List Nat) (a3 : Bool) (x4 : List Nat)
 | no
abbrev kgl := Bool × List Nat × Bool × List Nat × Int
noncomputable def kkc (a1 : Bool) (x2 : List Nat) (a3 : Bool) (x4 : List Nat) : Option (khs ⊕ kgl) :=
 cond (!((rtI a1 x2 && rtI a3 x4))) (some (.inr (false, [], false, [], 1))) (cond (decide ((List.length x4 : Int) = 0)) (some (.inr (false, [], false, [], 3))) (cond (a3) (some (.inr (false, [], false, [], 1))) (cond (a1) (cond (decide ((List.length ((divN x2 x4).2.1) : Int) > 0)) ((u64P 1).bind fun p17 => cond (!decide (((addN ((divN x2 x4).1) (digs B p17)).2) = 0)) (some (.inr (false, [], false, [], ((addN ((divN x2 x4).1) (digs B p17)).2)))) (some (.inr ((((fromI a1 ((addN ((divN x2 x4).1) (digs B p17)).1)).1)), (fromI a1 ((addN ((divN x2 x4).1) (digs B p17)).1)).2, (((fromI false ((subN x4 ((divN x2 x4).2.1)).1)).1)), (fromI false ((subN x4 ((divN x2 x4).2.1)).1)).2, 0)))) (some (.inr ((((fromI a1 ((divN x2 x4).1)).1)), (fromI a1 ((divN x2 x4).1)).2, (((fromI false ((divN x2 x4).2.1)).1)), (fromI false ((divN x2 x4).2.1)).2, 0)))) (some (.inr ((((fromI a1 ((divN x2 x4).1)).1)), (fromI a1 ((divN x2 x4).1)).2, (((fromI false ((divN x2 x4).2.1)).1)), (fromI false ((divN x2 x4).2.1)).2, 0))))))
noncomputable def kth : khs → Option (khs ⊕ kgl)
 | .fn a1 x2 a3 x4 => kkc a1 x2 a3 x4
 | .no => none
@[reducible] def ksa (h0 : AH) (r : kgl) (v : AV) (h' : AH) : Prop := ∃ s1 : Sl, ∃ s2 : Sl, v = .tup [.agg [.bool r.1, s1.v], .agg [.bool r.2.2.1, s2.v], .int .i64 r.2.2.2.2] ∧ Nats h' s1 r.2.1 ∧ Nats h' s2 r.2.2.2.1 ∧ Grow h0 h' ∧ Own h0 s1 ∧ Own h0 s2
def kod (r : kgl) : khs → Prop
 | .fn a1 x2 a3 x4 => ∀ {h : AH} {a2 : Sl} {a4 : Sl}, Nats h a2 x2 → Nats h a4 x4 → Runs (go (.fn F.knl [.agg [.bool a1, a2.v], .agg [.bool a3, a4.v]]) h) (ksa h r)
 | .no => True
theorem k7f {r : kgl} {o : khs ⊕ kgl} {a1 : Bool} {x2 : List Nat} {a3 : Bool} {x4 : List Nat} (e : kkc a1 x2 a3 x4 = some o) (good : GoodS (kod r) r o) : kod r (.fn a1 x2 a3 x4) := by
 intro h a2 a4 n2 n4
 rw [kbcc]
 unfold kkc at e
 refine Runs.new fun H5 b5 g5 => ?_
 refine Runs.new fun H6 b6 g6 => ?_
 refine Runs.new fun H7 b7 g7 => ?_
 refine Runs.new fun H8 b8 g8 => ?_
 refine Runs.step (AH.has.rd (((g6.trans g7).trans g8).has b5) 0 rfl rfl) ?_
 refine Runs.step (AH.has.rd (((g6.trans g7).trans g8).has b5) 1 rfl (asSl_v _)) ?_
 refine Runs.step (AH.has.rd ((g7.trans g8).has b6) 0 rfl rfl) ?_
 refine Runs.step (AH.has.rd ((g7.trans g8).has b6) 1 rfl (asSl_v _)) ?_
 refine Runs.new fun H9 b9 g9 => ?_
 obtain ⟨H10, e10, g10⟩ := km6 b9 (n2.grow ((((g5.trans g6).trans g7).trans g8).trans g9)) (n4.grow ((((g5.trans g6).trans g7).trans g8).trans g9))
 refine Runs.step e10 ?_
 refine Runs.step (seen rfl) ?_
 refine Runs.cond (fun k11 => ?_) (fun k11 => ?_)
 ·replace e := (condT k11).symm.trans e
  refine Runs.puts (((g8.trans g9).trans g10).has b7) rfl fun H12 b12 u12 => ?_
  have b8_12 := AH.has.updr ((g9.trans g10).has b8) (Nat.ne_of_gt (Nat.lt_of_lt_of_le (b7).lt (Nat.le_refl _))) u12
  have b9_12 := AH.has.updr (g10.has b9) (Nat.ne_of_gt (Nat.lt_of_lt_of_le (g8.has b7).lt (Nat.le_refl _))) u12
  refine Runs.puts b8_12 rfl fun H13 b13 u13 => ?_
  have b12_13 := AH.has.updr b12 (Nat.ne_of_lt (Nat.lt_of_lt_of_le (b7).lt (Nat.le_refl _))) u13
  have b9_13 := AH.has.updr b9_12 (Nat.ne_of_gt (Nat.lt_of_lt_of_le (b8).lt (Nat.le_refl _))) u13
  refine Runs.step (AH.has.rd b12_13 0 rfl rfl) ?_
  refine Runs.step (AH.has.rd b12_13 1 rfl (asSl_v _)) ?_
  refine Runs.step (AH.has.rd b13 0 rfl rfl) ?_
  refine Runs.step (AH.has.rd b13 1 rfl (asSl_v _)) ?_
  cases e
  cases good
  exact Runs.ret ⟨(⟨none, 0, .is 0⟩ : Sl), (⟨none, 0, .is 0⟩ : Sl), rfl, (Nats.nil _), (Nats.nil _), (((((((g5.trans g6).trans g7).trans g8).trans g9).trans g10).updr (Nat.le_trans ((g5.trans g6)).size (Nat.le_refl _)) u12).updr (Nat.le_trans (((g5.trans g6).trans g7)).size (Nat.le_refl _)) u13), (Own.nil _), (Own.nil _)⟩
 ·replace e := (condF k11).symm.trans e
  refine Runs.step (AH.has.rd ((((g7.trans g8).trans g9).trans g10).has b6) 1 rfl (asSl_v _)) ?_
  rw [(n4.grow (((((g5.trans g6).trans g7).trans g8).trans g9).trans g10)).len]
  refine Runs.cond (fun k12 => ?_) (fun k12 => ?_)
  ·replace e := (condT k12).symm.trans e
   refine Runs.puts (((g8.trans g9).trans g10).has b7) rfl fun H13 b13 u13 => ?_
   have b8_13 := AH.has.updr ((g9.trans g10).has b8) (Nat.ne_of_gt (Nat.lt_of_lt_of_le (b7).lt (Nat.le_refl _))) u13
   have b9_13 := AH.has.updr (g10.has b9) (Nat.ne_of_gt (Nat.lt_of_lt_of_le (g8.has b7).lt (Nat.le_refl _))) u13
   refine Runs.puts b8_13 rfl fun H14 b14 u14 => ?_
   have b13_14 := AH.has.updr b13 (Nat.ne_of_lt (Nat.lt_of_lt_of_le (b7).lt (Nat.le_refl _))) u14
   have b9_14 := AH.has.updr b9_13 (Nat.ne_of_gt (Nat.lt_of_lt_of_le (b8).lt (Nat.le_refl _))) u14
   refine Runs.step (AH.has.rd b13_14 0 rfl rfl) ?_
   refine Runs.step (AH.has.rd b13_14 1 rfl (asSl_v _)) ?_
   refine Runs.step (AH.has.rd b14 0 rfl rfl) ?_
   refine Runs.step (AH.has.rd b14 1 rfl (asSl_v _)) ?_
   cases e
   cases good
   exact Runs.ret ⟨(⟨none, 0, .is 0⟩ : Sl), (⟨none, 0, .is 0⟩ : Sl), rfl, (Nats.nil _), (Nats.nil _), (((((((g5.trans g6).trans g7).trans g8).trans g9).trans g10).updr (Nat.le_trans ((g5.trans g6)).size (Nat.le_refl _)) u13).updr (Nat.le_trans (((g5.trans g6).trans g7)).size (Nat.le_refl _)) u14), (Own.nil _), (Own.nil _)⟩
  ·replace e := (condF k12).symm.trans e
   refine Runs.step (AH.has.rd ((((g7.trans g8).trans g9).trans g10).has b6) 0 rfl rfl) ?_
   refine Runs.cond (fun k13 => ?_) (fun k13 => ?_)
   ·replace e := (condT k13).symm.trans e
    refine Runs.puts (((g8.trans g9).trans g10).has b7) rfl fun H14 b14 u14 => ?_
    have b8_14 := AH.has.updr ((g9.trans g10).has b8) (Nat.ne_of_gt (Nat.lt_of_lt_of_le (b7).lt (Nat.le_refl _))) u14
    have b9_14 := AH.has.updr (g10.has b9) (Nat.ne_of_gt (Nat.lt_of_lt_of_le (g8.has b7).lt (Nat.le_refl _))) u14
    refine Runs.puts b8_14 rfl fun H15 b15 u15 => ?_
    have b14_15 := AH.has.updr b14 (Nat.ne_of_lt (Nat.lt_of_lt_of_le (b7).lt (Nat.le_refl _))) u15
    have b9_15 := AH.has.updr b9_14 (Nat.ne_of_gt (Nat.lt_of_lt_of_le (b8).lt (Nat.le_refl _))) u15
    refine Runs.step (AH.has.rd b14_15 0 rfl rfl) ?_
    refine Runs.step (AH.has.rd b14_15 1 rfl (asSl_v _)) ?_
    refine Runs.step (AH.has.rd b15 0 rfl rfl) ?_
    refine Runs.step (AH.has.rd b15 1 rfl (asSl_v _)) ?_
    cases e
    cases good
    exact Runs.ret ⟨(⟨none, 0, .is 0⟩ : Sl), (⟨none, 0, .is 0⟩ : Sl), rfl, (Nats.nil _), (Nats.nil _), (((((((g5.trans g6).trans g7).trans g8).trans g9).trans g10).updr (Nat.le_trans ((g5.trans g6)).size (Nat.le_refl _)) u14).updr (Nat.le_trans (((g5.trans g6).trans g7)).size (Nat.le_refl _)) u15), (Own.nil _), (Own.nil _)⟩
   ·replace e := (condF k13).symm.trans e
    refine Runs.step (AH.has.rd (((((g6.trans g7).trans g8).trans g9).trans g10).has b5) 1 rfl (asSl_v _)) ?_
    refine Runs.step (AH.has.rd ((((g7.trans g8).trans g9).trans g10).has b6) 1 rfl (asSl_v _)) ?_
    obtain ⟨s14, s14b, H14, e14, n14, n14b, g14, o14, o14b⟩ := ki5 (n2.grow (((((g5.trans g6).trans g7).trans g8).trans g9).trans g10)) (n4.grow (((((g5.trans g6).trans g7).trans g8).trans g9).trans g10))
    refine Runs.step e14 ?_
    refine Runs.step rfl ?_
    refine Runs.step (seen (asSl_v _)) ?_
    refine Runs.step (seen (asSl_v _)) ?_
    rw [n14b.len]
    refine Runs.step (seen (kb _ _)) ?_
    refine Runs.step (AH.has.rd ((((((g6.trans g7).trans g8).trans g9).trans g10).trans g14).has b5) 0 rfl rfl) ?_
    refine Runs.cond (fun k15 => ?_) (fun k15 => ?_)
    ·replace e := (condT k15).symm.trans e
     refine Runs.cond (fun k16 => ?_) (fun k16 => ?_)
     ·replace e := (condT k16).symm.trans e
      obtain ⟨p17, q17, e⟩ := Option.bind_eq_some_iff.1 e
      obtain ⟨s17, H17, e17, n17, g17, o17⟩ := ko7 q17
      refine Runs.step e17 ?_
      refine Runs.step (seen (asSl_v _)) ?_
      obtain ⟨s18, H18, e18, n18, g18, o18⟩ := ks2 (n14.grow g17) n17
      refine Runs.step e18 ?_
      refine Runs.step rfl ?_
      refine Runs.step (seen (asSl_v _)) ?_
      refine Runs.step (seen (kb _ _)) ?_
      refine Runs.cond (fun k19 => ?_) (fun k19 => ?_)
      ·replace e := (condT k19).symm.trans e
       refine Runs.puts ((((((g8.trans g9).trans g10).trans g14).trans g17).trans g18).has b7) rfl fun H20 b20 u20 => ?_
       have n14_20 := (n14.grow (g17.trans g18)).upda (Av.of_own o14 (((g8.trans g9).trans g10).has b7).lt) u20
       have n14b_20 := (n14b.grow (g17.trans g18)).upda (Av.of_own o14b (((g8.trans g9).trans g10).has b7).lt) u20
       have n17_20 := (n17.grow g18).upda (Av.of_own o17 ((((g8.trans g9).trans g10).trans g14).has b7).lt) u20
       have n18_20 := n18.upda (Av.of_own o18 (((((g8.trans g9).trans g10).trans g14).trans g17).has b7).lt) u20
       have b8_20 := AH.has.updr (((((g9.trans g10).trans g14).trans g17).trans g18).has b8) (Nat.ne_of_gt (Nat.lt_of_lt_of_le (b7).lt (Nat.le_refl _))) u20
       have b9_20 := AH.has.updr ((((g10.trans g14).trans g17).trans g18).has b9) (Nat.ne_of_gt (Nat.lt_of_lt_of_le (g8.has b7).lt (Nat.le_refl _))) u20
       refine Runs.puts b8_20 rfl fun H21 b21 u21 => ?_
       have n14_21 := n14_20.upda (Av.of_own o14 ((g9.trans g10).has b8).lt) u21
       have n14b_21 := n14b_20.upda (Av.of_own o14b ((g9.trans g10).has b8).lt) u21
       have n17_21 := n17_20.upda (Av.of_own o17 (((g9.trans g10).trans g14).has b8).lt) u21
       have n18_21 := n18_20.upda (Av.of_own o18 ((((g9.trans g10).trans g14).trans g17).has b8).lt) u21
       have b20_21 := AH.has.updr b20 (Nat.ne_of_lt (Nat.lt_of_lt_of_le (b7).lt (Nat.le_refl _))) u21
       have b9_21 := AH.has.updr b9_20 (Nat.ne_of_gt (Nat.lt_of_lt_of_le (b8).lt (Nat.le_refl _))) u21
       refine Runs.step (AH.has.rd b20_21 0 rfl rfl) ?_
       refine Runs.step (AH.has.rd b20_21 1 rfl (asSl_v _)) ?_
       refine Runs.step (AH.has.rd b21 0 rfl rfl) ?_
       refine Runs.step (AH.has.rd b21 1 rfl (asSl_v _)) ?_
       cases e
       cases good
       exact Runs.ret ⟨(⟨none, 0, .is 0⟩ : Sl), (⟨none, 0, .is 0⟩ : Sl), rfl, (Nats.nil _), (Nats.nil _), ((((((((((g5.trans g6).trans g7).trans g8).trans g9).trans g10).trans g14).trans g17).trans g18).updr (Nat.le_trans ((g5.trans g6)).size (Nat.le_refl _)) u20).updr (Nat.le_trans (((g5.trans g6).trans g7)).size (Nat.le_refl _)) u21), (Own.nil _), (Own.nil _)⟩
      ·replace e := (condF k19).symm.trans e
       refine Runs.step (AH.has.rd (((((((g7.trans g8).trans g9).trans g10).trans g14).trans g17).trans g18).has b6) 1 rfl (asSl_v _)) ?_
       obtain ⟨s20, H20, e20, n20, g20, o20⟩ := kpg (n4.grow ((((((((g5.trans g6).trans g7).trans g8).trans g9).trans g10).trans g14).trans g17).trans g18)) (n14b.grow (g17.trans g18))
       refine Runs.step e20 ?_
       refine Runs.step rfl ?_
       refine Runs.step (seen (asSl_v _)) ?_
       refine Runs.step (seen (kb _ _)) ?_
       refine Runs.step (AH.has.rd (((((((((g6.trans g7).trans g8).trans g9).trans g10).trans g14).trans g17).trans g18).trans g20).has b5) 0 rfl rfl) ?_
       obtain ⟨s21, H21, e21, n21, g21, o21⟩ := kcf (n18.grow g20) a1
       refine Runs.step e21 ?_
       refine Runs.step rfl ?_
       refine Runs.ifT rfl ?_
       refine Runs.step (seenAt rfl rfl) ?_
       refine Runs.step (seenAt rfl (asSl_v _)) ?_
       obtain ⟨s22, H22, e22, n22, g22, o22⟩ := kcf (n20.grow g21) false
       refine Runs.step e22 ?_
       refine Runs.step rfl ?_
       refine Runs.ifT rfl ?_
       refine Runs.step (seenAt rfl rfl) ?_
       refine Runs.step (seenAt rfl (asSl_v _)) ?_
       refine Runs.puts (((((((((g8.trans g9).trans g10).trans g14).trans g17).trans g18).trans g20).trans g21).trans g22).has b7) rfl fun H23 b23 u23 => ?_
       have n14_23 := (n14.grow ((((g17.trans g18).trans g20).trans g21).trans g22)).upda (Av.of_own o14 (((g8.trans g9).trans g10).has b7).lt) u23
       have n14b_23 := (n14b.grow ((((g17.trans g18).trans g20).trans g21).trans g22)).upda (Av.of_own o14b (((g8.trans g9).trans g10).has b7).lt) u23
       have n17_23 := (n17.grow (((g18.trans g20).trans g21).trans g22)).upda (Av.of_own o17 ((((g8.trans g9).trans g10).trans g14).has b7).lt) u23
       have n18_23 := (n18.grow ((g20.trans g21).trans g22)).upda (Av.of_own o18 (((((g8.trans g9).trans g10).trans g14).trans g17).has b7).lt) u23
       have n20_23 := (n20.grow (g21.trans g22)).upda (Av.of_own o20 ((((((g8.trans g9).trans g10).trans g14).trans g17).trans g18).has b7).lt) u23
       have n21_23 := (n21.grow g22).upda (Av.of_own o21 (((((((g8.trans g9).trans g10).trans g14).trans g17).trans g18).trans g20).has b7).lt) u23
       have n22_23 := n22.upda (Av.of_own o22 ((((((((g8.trans g9).trans g10).trans g14).trans g17).trans g18).trans g20).trans g21).has b7).lt) u23
       have b8_23 := AH.has.updr ((((((((g9.trans g10).trans g14).trans g17).trans g18).trans g20).trans g21).trans g22).has b8) (Nat.ne_of_gt (Nat.lt_of_lt_of_le (b7).lt (Nat.le_refl _))) u23
       have b9_23 := AH.has.updr (((((((g10.trans g14).trans g17).trans g18).trans g20).trans g21).trans g22).has b9) (Nat.ne_of_gt (Nat.lt_of_lt_of_le (g8.has b7).lt (Nat.le_refl _))) u23
       refine Runs.puts b8_23 rfl fun H24 b24 u24 => ?_
       have n14_24 := n14_23.upda (Av.of_own o14 ((g9.trans g10).has b8).lt) u24
       have n14b_24 := n14b_23.upda (Av.of_own o14b ((g9.trans g10).has b8).lt) u24
       have n17_24 := n17_23.upda (Av.of_own o17 (((g9.trans g10).trans g14).has b8).lt) u24
       have n18_24 := n18_23.upda (Av.of_own o18 ((((g9.trans g10).trans g14).trans g17).has b8).lt) u24
       have n20_24 := n20_23.upda (Av.of_own o20 (((((g9.trans g10).trans g14).trans g17).trans g18).has b8).lt) u24
       have n21_24 := n21_23.upda (Av.of_own o21 ((((((g9.trans g10).trans g14).trans g17).trans g18).trans g20).has b8).lt) u24
       have n22_24 := n22_23.upda (Av.of_own o22 (((((((g9.trans g10).trans g14).trans g17).trans g18).trans g20).trans g21).has b8).lt) u24
       have b23_24 := AH.has.updr b23 (Nat.ne_of_lt (Nat.lt_of_lt_of_le (b7).lt (Nat.le_refl _))) u24
       have b9_24 := AH.has.updr b9_23 (Nat.ne_of_gt (Nat.lt_of_lt_of_le (b8).lt (Nat.le_refl _))) u24
       refine Runs.step (AH.has.rd b23_24 0 rfl rfl) ?_
       refine Runs.step (AH.has.rd b23_24 1 rfl (asSl_v _)) ?_
       refine Runs.step (AH.has.rd b24 0 rfl rfl) ?_
       refine Runs.step (AH.has.rd b24 1 rfl (asSl_v _)) ?_
       cases e
       cases good
       exact Runs.ret ⟨s21, s22, rfl, n21_24, n22_24, (((((((((((((g5.trans g6).trans g7).trans g8).trans g9).trans g10).trans g14).trans g17).trans g18).trans g20).trans g21).trans g22).updr (Nat.le_trans ((g5.trans g6)).size (Nat.le_refl _)) u23).updr (Nat.le_trans (((g5.trans g6).trans g7)).size (Nat.le_refl _)) u24), (o21.of_le (((((((((g5.trans g6).trans g7).trans g8).trans g9).trans g10).trans g14).trans g17).trans g18).trans g20)), (o22.of_le ((((((((((g5.trans g6).trans g7).trans g8).trans g9).trans g10).trans g14).trans g17).trans g18).trans g20).trans g21))⟩
     ·replace e := (condF k16).symm.trans e
      refine Runs.step (AH.has.rd ((((((g6.trans g7).trans g8).trans g9).trans g10).trans g14).has b5) 0 rfl rfl) ?_
      obtain ⟨s17, H17, e17, n17, g17, o17⟩ := kcf n14 a1
      refine Runs.step e17 ?_
      refine Runs.step rfl ?_
      refine Runs.ifT rfl ?_
      refine Runs.step (seenAt rfl rfl) ?_
      refine Runs.step (seenAt rfl (asSl_v _)) ?_
      obtain ⟨s18, H18, e18, n18, g18, o18⟩ := kcf (n14b.grow g17) false
      refine Runs.step e18 ?_
      refine Runs.step rfl ?_
      refine Runs.ifT rfl ?_
      refine Runs.step (seenAt rfl rfl) ?_
      refine Runs.step (seenAt rfl (asSl_v _)) ?_
      refine Runs.puts ((((((g8.trans g9).trans g10).trans g14).trans g17).trans g18).has b7) rfl fun H19 b19 u19 => ?_
      have n14_19 := (n14.grow (g17.trans g18)).upda (Av.of_own o14 (((g8.trans g9).trans g10).has b7).lt) u19
      have n14b_19 := (n14b.grow (g17.trans g18)).upda (Av.of_own o14b (((g8.trans g9).trans g10).has b7).lt) u19
      have n17_19 := (n17.grow g18).upda (Av.of_own o17 ((((g8.trans g9).trans g10).trans g14).has b7).lt) u19
      have n18_19 := n18.upda (Av.of_own o18 (((((g8.trans g9).trans g10).trans g14).trans g17).has b7).lt) u19
      have b8_19 := AH.has.updr (((((g9.trans g10).trans g14).trans g17).trans g18).has b8) (Nat.ne_of_gt (Nat.lt_of_lt_of_le (b7).lt (Nat.le_refl _))) u19
      have b9_19 := AH.has.updr ((((g10.trans g14).trans g17).trans g18).has b9) (Nat.ne_of_gt (Nat.lt_of_lt_of_le (g8.has b7).lt (Nat.le_refl _))) u19
      refine Runs.puts b8_19 rfl fun H20 b20 u20 => ?_
      have n14_20 := n14_19.upda (Av.of_own o14 ((g9.trans g10).has b8).lt) u20
      have n14b_20 := n14b_19.upda (Av.of_own o14b ((g9.trans g10).has b8).lt) u20
      have n17_20 := n17_19.upda (Av.of_own o17 (((g9.trans g10).trans g14).has b8).lt) u20
      have n18_20 := n18_19.upda (Av.of_own o18 ((((g9.trans g10).trans g14).trans g17).has b8).lt) u20
      have b19_20 := AH.has.updr b19 (Nat.ne_of_lt (Nat.lt_of_lt_of_le (b7).lt (Nat.le_refl _))) u20
      have b9_20 := AH.has.updr b9_19 (Nat.ne_of_gt (Nat.lt_of_lt_of_le (b8).lt (Nat.le_refl _))) u20
      refine Runs.step (AH.has.rd b19_20 0 rfl rfl) ?_
      refine Runs.step (AH.has.rd b19_20 1 rfl (asSl_v _)) ?_
      refine Runs.step (AH.has.rd b20 0 rfl rfl) ?_
      refine Runs.step (AH.has.rd b20 1 rfl (asSl_v _)) ?_
      cases e
      cases good
      exact Runs.ret ⟨s17, s18, rfl, n17_20, n18_20, ((((((((((g5.trans g6).trans g7).trans g8).trans g9).trans g10).trans g14).trans g17).trans g18).updr (Nat.le_trans ((g5.trans g6)).size (Nat.le_refl _)) u19).updr (Nat.le_trans (((g5.trans g6).trans g7)).size (Nat.le_refl _)) u20), (o17.of_le ((((((g5.trans g6).trans g7).trans g8).trans g9).trans g10).trans g14)), (o18.of_le (((((((g5.trans g6).trans g7).trans g8).trans g9).trans g10).trans g14).trans g17))⟩
    ·replace e := (condF k15).symm.trans e
     refine Runs.step (AH.has.rd ((((((g6.trans g7).trans g8).trans g9).trans g10).trans g14).has b5) 0 rfl rfl) ?_
     obtain ⟨s16, H16, e16, n16, g16, o16⟩ := kcf n14 a1
     refine Runs.step e16 ?_
     refine Runs.step rfl ?_
     refine Runs.ifT rfl ?_
     refine Runs.step (seenAt rfl rfl) ?_
     refine Runs.step (seenAt rfl (asSl_v _)) ?_
     obtain ⟨s17, H17, e17, n17, g17, o17⟩ := kcf (n14b.grow g16) false
     refine Runs.step e17 ?_
     refine Runs.step rfl ?_
     refine Runs.ifT rfl ?_
     refine Runs.step (seenAt rfl rfl) ?_
     refine Runs.step (seenAt rfl (asSl_v _)) ?_
     refine Runs.puts ((((((g8.trans g9).trans g10).trans g14).trans g16).trans g17).has b7) rfl fun H18 b18 u18 => ?_
     have n14_18 := (n14.grow (g16.trans g17)).upda (Av.of_own o14 (((g8.trans g9).trans g10).has b7).lt) u18
     have n14b_18 := (n14b.grow (g16.trans g17)).upda (Av.of_own o14b (((g8.trans g9).trans g10).has b7).lt) u18
     have n16_18 := (n16.grow g17).upda (Av.of_own o16 ((((g8.trans g9).trans g10).trans g14).has b7).lt) u18
     have n17_18 := n17.upda (Av.of_own o17 (((((g8.trans g9).trans g10).trans g14).trans g16).has b7).lt) u18
     have b8_18 := AH.has.updr (((((g9.trans g10).trans g14).trans g16).trans g17).has b8) (Nat.ne_of_gt (Nat.lt_of_lt_of_le (b7).lt (Nat.le_refl _))) u18
     have b9_18 := AH.has.updr ((((g10.trans g14).trans g16).trans g17).has b9) (Nat.ne_of_gt (Nat.lt_of_lt_of_le (g8.has b7).lt (Nat.le_refl _))) u18
     refine Runs.puts b8_18 rfl fun H19 b19 u19 => ?_
     have n14_19 := n14_18.upda (Av.of_own o14 ((g9.trans g10).has b8).lt) u19
     have n14b_19 := n14b_18.upda (Av.of_own o14b ((g9.trans g10).has b8).lt) u19
     have n16_19 := n16_18.upda (Av.of_own o16 (((g9.trans g10).trans g14).has b8).lt) u19
     have n17_19 := n17_18.upda (Av.of_own o17 ((((g9.trans g10).trans g14).trans g16).has b8).lt) u19
     have b18_19 := AH.has.updr b18 (Nat.ne_of_lt (Nat.lt_of_lt_of_le (b7).lt (Nat.le_refl _))) u19
     have b9_19 := AH.has.updr b9_18 (Nat.ne_of_gt (Nat.lt_of_lt_of_le (b8).lt (Nat.le_refl _))) u19
     refine Runs.step (AH.has.rd b18_19 0 rfl rfl) ?_
     refine Runs.step (AH.has.rd b18_19 1 rfl (asSl_v _)) ?_
     refine Runs.step (AH.has.rd b19 0 rfl rfl) ?_
     refine Runs.step (AH.has.rd b19 1 rfl (asSl_v _)) ?_
     cases e
     cases good
     exact Runs.ret ⟨s16, s17, rfl, n16_19, n17_19, ((((((((((g5.trans g6).trans g7).trans g8).trans g9).trans g10).trans g14).trans g16).trans g17).updr (Nat.le_trans ((g5.trans g6)).size (Nat.le_refl _)) u18).updr (Nat.le_trans (((g5.trans g6).trans g7)).size (Nat.le_refl _)) u19), (o16.of_le ((((((g5.trans g6).trans g7).trans g8).trans g9).trans g10).trans g14)), (o17.of_le (((((((g5.trans g6).trans g7).trans g8).trans g9).trans g10).trans g14).trans g16))⟩
theorem k4b {s : khs} {r : kgl} (it : Iter kth s r) : kod r s := Iter.ind (fun s o e good => by
 cases s with
 | fn a1 x2 a3 x4 => exact @k7f _ _ a1 x2 a3 x4 e good
 | no => exact True.intro
 ) it
inductive kin
 | fn (a1 : Bool) (x2 : List Nat) (a3 : Bool) (x4 : List Nat)
 | no
abbrev kgd := Bool × List Nat × Bool × List Nat × Int
noncomputable def ki7 (a1 : Bool) (x2 : List Nat) (a3 : Bool) (x4 : List Nat) : Option (kin ⊕ kgd) :=
 cond (!(rtI a1 x2)) (some (.inr (false, [], false, [], 1))) (cond (!(rtI a3 x4)) (some (.inr (false, [], false, [], 1))) (cond (decide ((List.length x4 : Int) = 0)) (some (.inr (false, [], false, [], 3))) (cond (a3) (some (.inr (false, [], false, [], 1))) (cond (!a1) (some (.inr ((((fromI false ((divN x2 x4).1)).1)), (fromI false ((divN x2 x4).1)).2, (((fromI false ((divN x2 x4).2.1)).1)), (fromI false ((divN x2 x4).2.1)).2, 0))) (cond (decide ((List.length ((divN x2 x4).2.1) : Int) = 0)) (some (.inr ((((fromI true ((divN x2 x4).1)).1)), (fromI true ((divN x2 x4).1)).2, false, [], 0))) ((u64P 1).bind fun p18 => cond (!decide (((addN ((divN x2 x4).1) (digs B p18)).2) = 0)) (some (.inr (false, [], false, [], ((addN ((divN x2 x4).1) (digs B p18)).2)))) (some (.inr ((((fromI true ((addN ((divN x2 x4).1) (digs B p18)).1)).1)), (fromI true ((addN ((divN x2 x4).1) (digs B p18)).1)).2, (((fromI false ((subN x4 ((divN x2 x4).2.1)).1)).1)), (fromI false ((subN x4 ((divN x2 x4).2.1)).1)).2, 0)))))))))
noncomputable def kwp : kin → Option (kin ⊕ kgd)
 | .fn a1 x2 a3 x4 => ki7 a1 x2 a3 x4
 | .no => none
@[reducible] def ksd (h0 : AH) (r : kgd) (v : AV) (h' : AH) : Prop := ∃ s1 : Sl, ∃ s2 : Sl, v = .tup [.agg [.bool r.1, s1.v], .agg [.bool r.2.2.1, s2.v], .int .i64 r.2.2.2.2] ∧ Nats h' s1 r.2.1 ∧ Nats h' s2 r.2.2.2.1 ∧ Grow h0 h' ∧ Own h0 s1 ∧ Own h0 s2
def kqs (r : kgd) : kin → Prop
 | .fn a1 x2 a3 x4 => ∀ {h : AH} {a2 : Sl} {a4 : Sl}, Nats h a2 x2 → Nats h a4 x4 → Runs (go (.fn F.knn [.agg [.bool a1, a2.v], .agg [.bool a3, a4.v]]) h) (ksd h r)
 | .no => True
theorem k1p {r : kgd} {o : kin ⊕ kgd} {a1 : Bool} {x2 : List Nat} {a3 : Bool} {x4 : List Nat} (e : ki7 a1 x2 a3 x4 = some o) (good : GoodS (kqs r) r o) : kqs r (.fn a1 x2 a3 x4) := by
 intro h a2 a4 n2 n4
 rw [k38]
 unfold ki7 at e
 refine Runs.new fun H5 b5 g5 => ?_
 refine Runs.new fun H6 b6 g6 => ?_
 refine Runs.new fun H7 b7 g7 => ?_
 refine Runs.new fun H8 b8 g8 => ?_
 refine Runs.step (AH.has.rd (((g6.trans g7).trans g8).has b5) 0 rfl rfl) ?_
 refine Runs.step (AH.has.rd (((g6.trans g7).trans g8).has b5) 1 rfl (asSl_v _)) ?_
 obtain ⟨H9, e9, g9⟩ := kex (n2.grow (((g5.trans g6).trans g7).trans g8)) a1
 refine Runs.step e9 ?_
 refine Runs.step (seen rfl) ?_
 refine Runs.step (AH.has.rd (((g7.trans g8).trans g9).has b6) 0 rfl rfl) ?_
 refine Runs.step (AH.has.rd (((g7.trans g8).trans g9).has b6) 1 rfl (asSl_v _)) ?_
 obtain ⟨H10, e10, g10⟩ := kex (n4.grow ((((g5.trans g6).trans g7).trans g8).trans g9)) a3
 refine Runs.step e10 ?_
 refine Runs.step (seen rfl) ?_
 refine Runs.cond (fun k11 => ?_) (fun k11 => ?_)
 ·replace e := (condT k11).symm.trans e
  refine Runs.puts (((g8.trans g9).trans g10).has b7) rfl fun H12 b12 u12 => ?_
  have b8_12 := AH.has.updr ((g9.trans g10).has b8) (Nat.ne_of_gt (Nat.lt_of_lt_of_le (b7).lt (Nat.le_refl _))) u12
  refine Runs.puts b8_12 rfl fun H13 b13 u13 => ?_
  have b12_13 := AH.has.updr b12 (Nat.ne_of_lt (Nat.lt_of_lt_of_le (b7).lt (Nat.le_refl _))) u13
  refine Runs.step (AH.has.rd b12_13 0 rfl rfl) ?_
  refine Runs.step (AH.has.rd b12_13 1 rfl (asSl_v _)) ?_
  refine Runs.step (AH.has.rd b13 0 rfl rfl) ?_
  refine Runs.step (AH.has.rd b13 1 rfl (asSl_v _)) ?_
  cases e
  cases good
  exact Runs.ret ⟨(⟨none, 0, .is 0⟩ : Sl), (⟨none, 0, .is 0⟩ : Sl), rfl, (Nats.nil _), (Nats.nil _), (((((((g5.trans g6).trans g7).trans g8).trans g9).trans g10).updr (Nat.le_trans ((g5.trans g6)).size (Nat.le_refl _)) u12).updr (Nat.le_trans (((g5.trans g6).trans g7)).size (Nat.le_refl _)) u13), (Own.nil _), (Own.nil _)⟩
 ·replace e := (condF k11).symm.trans e
  refine Runs.cond (fun k12 => ?_) (fun k12 => ?_)
  ·replace e := (condT k12).symm.trans e
   refine Runs.puts (((g8.trans g9).trans g10).has b7) rfl fun H13 b13 u13 => ?_
   have b8_13 := AH.has.updr ((g9.trans g10).has b8) (Nat.ne_of_gt (Nat.lt_of_lt_of_le (b7).lt (Nat.le_refl _))) u13
   refine Runs.puts b8_13 rfl fun H14 b14 u14 => ?_
   have b13_14 := AH.has.updr b13 (Nat.ne_of_lt (Nat.lt_of_lt_of_le (b7).lt (Nat.le_refl _))) u14
   refine Runs.step (AH.has.rd b13_14 0 rfl rfl) ?_
   refine Runs.step (AH.has.rd b13_14 1 rfl (asSl_v _)) ?_
   refine Runs.step (AH.has.rd b14 0 rfl rfl) ?_
   refine Runs.step (AH.has.rd b14 1 rfl (asSl_v _)) ?_
   cases e
   cases good
   exact Runs.ret ⟨(⟨none, 0, .is 0⟩ : Sl), (⟨none, 0, .is 0⟩ : Sl), rfl, (Nats.nil _), (Nats.nil _), (((((((g5.trans g6).trans g7).trans g8).trans g9).trans g10).updr (Nat.le_trans ((g5.trans g6)).size (Nat.le_refl _)) u13).updr (Nat.le_trans (((g5.trans g6).trans g7)).size (Nat.le_refl _)) u14), (Own.nil _), (Own.nil _)⟩
  ·replace e := (condF k12).symm.trans e
   refine Runs.step (AH.has.rd ((((g7.trans g8).trans g9).trans g10).has b6) 1 rfl (asSl_v _)) ?_
   rw [(n4.grow (((((g5.trans g6).trans g7).trans g8).trans g9).trans g10)).len]
   refine Runs.cond (fun k13 => ?_) (fun k13 => ?_)
   ·replace e := (condT k13).symm.trans e
    refine Runs.puts (((g8.trans g9).trans g10).has b7) rfl fun H14 b14 u14 => ?_
    have b8_14 := AH.has.updr ((g9.trans g10).has b8) (Nat.ne_of_gt (Nat.lt_of_lt_of_le (b7).lt (Nat.le_refl _))) u14
    refine Runs.puts b8_14 rfl fun H15 b15 u15 => ?_
    have b14_15 := AH.has.updr b14 (Nat.ne_of_lt (Nat.lt_of_lt_of_le (b7).lt (Nat.le_refl _))) u15
    refine Runs.step (AH.has.rd b14_15 0 rfl rfl) ?_
    refine Runs.step (AH.has.rd b14_15 1 rfl (asSl_v _)) ?_
    refine Runs.step (AH.has.rd b15 0 rfl rfl) ?_
    refine Runs.step (AH.has.rd b15 1 rfl (asSl_v _)) ?_
    cases e
    cases good
    exact Runs.ret ⟨(⟨none, 0, .is 0⟩ : Sl), (⟨none, 0, .is 0⟩ : Sl), rfl, (Nats.nil _), (Nats.nil _), (((((((g5.trans g6).trans g7).trans g8).trans g9).trans g10).updr (Nat.le_trans ((g5.trans g6)).size (Nat.le_refl _)) u14).updr (Nat.le_trans (((g5.trans g6).trans g7)).size (Nat.le_refl _)) u15), (Own.nil _), (Own.nil _)⟩
   ·replace e := (condF k13).symm.trans e
    refine Runs.step (AH.has.rd ((((g7.trans g8).trans g9).trans g10).has b6) 0 rfl rfl) ?_
    refine Runs.cond (fun k14 => ?_) (fun k14 => ?_)
    ·replace e := (condT k14).symm.trans e
     refine Runs.puts (((g8.trans g9).trans g10).has b7) rfl fun H15 b15 u15 => ?_
     have b8_15 := AH.has.updr ((g9.trans g10).has b8) (Nat.ne_of_gt (Nat.lt_of_lt_of_le (b7).lt (Nat.le_refl _))) u15
     refine Runs.puts b8_15 rfl fun H16 b16 u16 => ?_
     have b15_16 := AH.has.updr b15 (Nat.ne_of_lt (Nat.lt_of_lt_of_le (b7).lt (Nat.le_refl _))) u16
     refine Runs.step (AH.has.rd b15_16 0 rfl rfl) ?_
     refine Runs.step (AH.has.rd b15_16 1 rfl (asSl_v _)) ?_
     refine Runs.step (AH.has.rd b16 0 rfl rfl) ?_
     refine Runs.step (AH.has.rd b16 1 rfl (asSl_v _)) ?_
     cases e
     cases good
     exact Runs.ret ⟨(⟨none, 0, .is 0⟩ : Sl), (⟨none, 0, .is 0⟩ : Sl), rfl, (Nats.nil _), (Nats.nil _), (((((((g5.trans g6).trans g7).trans g8).trans g9).trans g10).updr (Nat.le_trans ((g5.trans g6)).size (Nat.le_refl _)) u15).updr (Nat.le_trans (((g5.trans g6).trans g7)).size (Nat.le_refl _)) u16), (Own.nil _), (Own.nil _)⟩
    ·replace e := (condF k14).symm.trans e
     refine Runs.step (AH.has.rd (((((g6.trans g7).trans g8).trans g9).trans g10).has b5) 1 rfl (asSl_v _)) ?_
     refine Runs.step (AH.has.rd ((((g7.trans g8).trans g9).trans g10).has b6) 1 rfl (asSl_v _)) ?_
     obtain ⟨s15, s15b, H15, e15, n15, n15b, g15, o15, o15b⟩ := koq (n2.grow (((((g5.trans g6).trans g7).trans g8).trans g9).trans g10)) (n4.grow (((((g5.trans g6).trans g7).trans g8).trans g9).trans g10))
     refine Runs.step e15 ?_
     refine Runs.step rfl ?_
     refine Runs.step (seen (asSl_v _)) ?_
     refine Runs.step (seen (asSl_v _)) ?_
     rw [n15b.len]
     refine Runs.step (seen (kb _ _)) ?_
     refine Runs.step (AH.has.rd ((((((g6.trans g7).trans g8).trans g9).trans g10).trans g15).has b5) 0 rfl rfl) ?_
     refine Runs.cond (fun k16 => ?_) (fun k16 => ?_)
     ·replace e := (condT k16).symm.trans e
      obtain ⟨s17, H17, e17, n17, g17, o17⟩ := kcl n15 false
      refine Runs.step e17 ?_
      refine Runs.step rfl ?_
      refine Runs.ifT rfl ?_
      refine Runs.step (seenAt rfl rfl) ?_
      refine Runs.step (seenAt rfl (asSl_v _)) ?_
      obtain ⟨s18, H18, e18, n18, g18, o18⟩ := kcl (n15b.grow g17) false
      refine Runs.step e18 ?_
      refine Runs.step rfl ?_
      refine Runs.ifT rfl ?_
      refine Runs.step (seenAt rfl rfl) ?_
      refine Runs.step (seenAt rfl (asSl_v _)) ?_
      refine Runs.puts ((((((g8.trans g9).trans g10).trans g15).trans g17).trans g18).has b7) rfl fun H19 b19 u19 => ?_
      have n15_19 := (n15.grow (g17.trans g18)).upda (Av.of_own o15 (((g8.trans g9).trans g10).has b7).lt) u19
      have n15b_19 := (n15b.grow (g17.trans g18)).upda (Av.of_own o15b (((g8.trans g9).trans g10).has b7).lt) u19
      have n17_19 := (n17.grow g18).upda (Av.of_own o17 ((((g8.trans g9).trans g10).trans g15).has b7).lt) u19
      have n18_19 := n18.upda (Av.of_own o18 (((((g8.trans g9).trans g10).trans g15).trans g17).has b7).lt) u19
      have b8_19 := AH.has.updr (((((g9.trans g10).trans g15).trans g17).trans g18).has b8) (Nat.ne_of_gt (Nat.lt_of_lt_of_le (b7).lt (Nat.le_refl _))) u19
      refine Runs.puts b8_19 rfl fun H20 b20 u20 => ?_
      have n15_20 := n15_19.upda (Av.of_own o15 ((g9.trans g10).has b8).lt) u20
      have n15b_20 := n15b_19.upda (Av.of_own o15b ((g9.trans g10).has b8).lt) u20
      have n17_20 := n17_19.upda (Av.of_own o17 (((g9.trans g10).trans g15).has b8).lt) u20
      have n18_20 := n18_19.upda (Av.of_own o18 ((((g9.trans g10).trans g15).trans g17).has b8).lt) u20
      have b19_20 := AH.has.updr b19 (Nat.ne_of_lt (Nat.lt_of_lt_of_le (b7).lt (Nat.le_refl _))) u20
      refine Runs.step (AH.has.rd b19_20 0 rfl rfl) ?_
      refine Runs.step (AH.has.rd b19_20 1 rfl (asSl_v _)) ?_
      refine Runs.step (AH.has.rd b20 0 rfl rfl) ?_
      refine Runs.step (AH.has.rd b20 1 rfl (asSl_v _)) ?_
      cases e
      cases good
      exact Runs.ret ⟨s17, s18, rfl, n17_20, n18_20, ((((((((((g5.trans g6).trans g7).trans g8).trans g9).trans g10).trans g15).trans g17).trans g18).updr (Nat.le_trans ((g5.trans g6)).size (Nat.le_refl _)) u19).updr (Nat.le_trans (((g5.trans g6).trans g7)).size (Nat.le_refl _)) u20), (o17.of_le ((((((g5.trans g6).trans g7).trans g8).trans g9).trans g10).trans g15)), (o18.of_le (((((((g5.trans g6).trans g7).trans g8).trans g9).trans g10).trans g15).trans g17))⟩
     ·replace e := (condF k16).symm.trans e
      refine Runs.cond (fun k17 => ?_) (fun k17 => ?_)
      ·replace e := (condT k17).symm.trans e
       obtain ⟨s18, H18, e18, n18, g18, o18⟩ := kcl n15 true
       refine Runs.step e18 ?_
       refine Runs.step rfl ?_
       refine Runs.ifT rfl ?_
       refine Runs.step (seenAt rfl rfl) ?_
       refine Runs.step (seenAt rfl (asSl_v _)) ?_
       refine Runs.puts (((((g8.trans g9).trans g10).trans g15).trans g18).has b7) rfl fun H19 b19 u19 => ?_
       have n15_19 := (n15.grow g18).upda (Av.of_own o15 (((g8.trans g9).trans g10).has b7).lt) u19
       have n15b_19 := (n15b.grow g18).upda (Av.of_own o15b (((g8.trans g9).trans g10).has b7).lt) u19
       have n18_19 := n18.upda (Av.of_own o18 ((((g8.trans g9).trans g10).trans g15).has b7).lt) u19
       have b8_19 := AH.has.updr ((((g9.trans g10).trans g15).trans g18).has b8) (Nat.ne_of_gt (Nat.lt_of_lt_of_le (b7).lt (Nat.le_refl _))) u19
       refine Runs.puts b8_19 rfl fun H20 b20 u20 => ?_
       have n15_20 := n15_19.upda (Av.of_own o15 ((g9.trans g10).has b8).lt) u20
       have n15b_20 := n15b_19.upda (Av.of_own o15b ((g9.trans g10).has b8).lt) u20
       have n18_20 := n18_19.upda (Av.of_own o18 (((g9.trans g10).trans g15).has b8).lt) u20
       have b19_20 := AH.has.updr b19 (Nat.ne_of_lt (Nat.lt_of_lt_of_le (b7).lt (Nat.le_refl _))) u20
       refine Runs.step (AH.has.rd b19_20 0 rfl rfl) ?_
       refine Runs.step (AH.has.rd b19_20 1 rfl (asSl_v _)) ?_
       refine Runs.step (AH.has.rd b20 0 rfl rfl) ?_
       refine Runs.step (AH.has.rd b20 1 rfl (asSl_v _)) ?_
       cases e
       cases good
       exact Runs.ret ⟨s18, (⟨none, 0, .is 0⟩ : Sl), rfl, n18_20, (Nats.nil _), (((((((((g5.trans g6).trans g7).trans g8).trans g9).trans g10).trans g15).trans g18).updr (Nat.le_trans ((g5.trans g6)).size (Nat.le_refl _)) u19).updr (Nat.le_trans (((g5.trans g6).trans g7)).size (Nat.le_refl _)) u20), (o18.of_le ((((((g5.trans g6).trans g7).trans g8).trans g9).trans g10).trans g15)), (Own.nil _)⟩
      ·replace e := (condF k17).symm.trans e
       obtain ⟨p18, q18, e⟩ := Option.bind_eq_some_iff.1 e
       obtain ⟨s18, H18, e18, n18, g18, o18⟩ := kpe q18
       refine Runs.step e18 ?_
       refine Runs.step (seen (asSl_v _)) ?_
       obtain ⟨s19, H19, e19, n19, g19, o19⟩ := kr1 (n15.grow g18) n18
       refine Runs.step e19 ?_
       refine Runs.step rfl ?_
       refine Runs.step (seen (asSl_v _)) ?_
       refine Runs.step (seen (kb _ _)) ?_
       refine Runs.cond (fun k20 => ?_) (fun k20 => ?_)
       ·replace e := (condT k20).symm.trans e
        refine Runs.puts ((((((g8.trans g9).trans g10).trans g15).trans g18).trans g19).has b7) rfl fun H21 b21 u21 => ?_
        have n15_21 := (n15.grow (g18.trans g19)).upda (Av.of_own o15 (((g8.trans g9).trans g10).has b7).lt) u21
        have n15b_21 := (n15b.grow (g18.trans g19)).upda (Av.of_own o15b (((g8.trans g9).trans g10).has b7).lt) u21
        have n18_21 := (n18.grow g19).upda (Av.of_own o18 ((((g8.trans g9).trans g10).trans g15).has b7).lt) u21
        have n19_21 := n19.upda (Av.of_own o19 (((((g8.trans g9).trans g10).trans g15).trans g18).has b7).lt) u21
        have b8_21 := AH.has.updr (((((g9.trans g10).trans g15).trans g18).trans g19).has b8) (Nat.ne_of_gt (Nat.lt_of_lt_of_le (b7).lt (Nat.le_refl _))) u21
        refine Runs.puts b8_21 rfl fun H22 b22 u22 => ?_
        have n15_22 := n15_21.upda (Av.of_own o15 ((g9.trans g10).has b8).lt) u22
        have n15b_22 := n15b_21.upda (Av.of_own o15b ((g9.trans g10).has b8).lt) u22
        have n18_22 := n18_21.upda (Av.of_own o18 (((g9.trans g10).trans g15).has b8).lt) u22
        have n19_22 := n19_21.upda (Av.of_own o19 ((((g9.trans g10).trans g15).trans g18).has b8).lt) u22
        have b21_22 := AH.has.updr b21 (Nat.ne_of_lt (Nat.lt_of_lt_of_le (b7).lt (Nat.le_refl _))) u22
        refine Runs.step (AH.has.rd b21_22 0 rfl rfl) ?_
        refine Runs.step (AH.has.rd b21_22 1 rfl (asSl_v _)) ?_
        refine Runs.step (AH.has.rd b22 0 rfl rfl) ?_
        refine Runs.step (AH.has.rd b22 1 rfl (asSl_v _)) ?_
        cases e
        cases good
        exact Runs.ret ⟨(⟨none, 0, .is 0⟩ : Sl), (⟨none, 0, .is 0⟩ : Sl), rfl, (Nats.nil _), (Nats.nil _), ((((((((((g5.trans g6).trans g7).trans g8).trans g9).trans g10).trans g15).trans g18).trans g19).updr (Nat.le_trans ((g5.trans g6)).size (Nat.le_refl _)) u21).updr (Nat.le_trans (((g5.trans g6).trans g7)).size (Nat.le_refl _)) u22), (Own.nil _), (Own.nil _)⟩
       ·replace e := (condF k20).symm.trans e
        refine Runs.step (AH.has.rd (((((((g7.trans g8).trans g9).trans g10).trans g15).trans g18).trans g19).has b6) 1 rfl (asSl_v _)) ?_
        obtain ⟨s21, H21, e21, n21, g21, o21⟩ := krf (n4.grow ((((((((g5.trans g6).trans g7).trans g8).trans g9).trans g10).trans g15).trans g18).trans g19)) (n15b.grow (g18.trans g19))
        refine Runs.step e21 ?_
        refine Runs.step rfl ?_
        refine Runs.step (seen (asSl_v _)) ?_
        refine Runs.step (seen (kb _ _)) ?_
        obtain ⟨s22, H22, e22, n22, g22, o22⟩ := kcl (n19.grow g21) true
        refine Runs.step e22 ?_
        refine Runs.step rfl ?_
        refine Runs.ifT rfl ?_
        refine Runs.step (seenAt rfl rfl) ?_
        refine Runs.step (seenAt rfl (asSl_v _)) ?_
        obtain ⟨s23, H23, e23, n23, g23, o23⟩ := kcl (n21.grow g22) false
        refine Runs.step e23 ?_
        refine Runs.step rfl ?_
        refine Runs.ifT rfl ?_
        refine Runs.step (seenAt rfl rfl) ?_
        refine Runs.step (seenAt rfl (asSl_v _)) ?_
        refine Runs.puts (((((((((g8.trans g9).trans g10).trans g15).trans g18).trans g19).trans g21).trans g22).trans g23).has b7) rfl fun H24 b24 u24 => ?_
        have n15_24 := (n15.grow ((((g18.trans g19).trans g21).trans g22).trans g23)).upda (Av.of_own o15 (((g8.trans g9).trans g10).has b7).lt) u24
        have n15b_24 := (n15b.grow ((((g18.trans g19).trans g21).trans g22).trans g23)).upda (Av.of_own o15b (((g8.trans g9).trans g10).has b7).lt) u24
        have n18_24 := (n18.grow (((g19.trans g21).trans g22).trans g23)).upda (Av.of_own o18 ((((g8.trans g9).trans g10).trans g15).has b7).lt) u24
        have n19_24 := (n19.grow ((g21.trans g22).trans g23)).upda (Av.of_own o19 (((((g8.trans g9).trans g10).trans g15).trans g18).has b7).lt) u24
        have n21_24 := (n21.grow (g22.trans g23)).upda (Av.of_own o21 ((((((g8.trans g9).trans g10).trans g15).trans g18).trans g19).has b7).lt) u24
        have n22_24 := (n22.grow g23).upda (Av.of_own o22 (((((((g8.trans g9).trans g10).trans g15).trans g18).trans g19).trans g21).has b7).lt) u24
        have n23_24 := n23.upda (Av.of_own o23 ((((((((g8.trans g9).trans g10).trans g15).trans g18).trans g19).trans g21).trans g22).has b7).lt) u24
        have b8_24 := AH.has.updr ((((((((g9.trans g10).trans g15).trans g18).trans g19).trans g21).trans g22).trans g23).has b8) (Nat.ne_of_gt (Nat.lt_of_lt_of_le (b7).lt (Nat.le_refl _))) u24
        refine Runs.puts b8_24 rfl fun H25 b25 u25 => ?_
        have n15_25 := n15_24.upda (Av.of_own o15 ((g9.trans g10).has b8).lt) u25
        have n15b_25 := n15b_24.upda (Av.of_own o15b ((g9.trans g10).has b8).lt) u25
        have n18_25 := n18_24.upda (Av.of_own o18 (((g9.trans g10).trans g15).has b8).lt) u25
        have n19_25 := n19_24.upda (Av.of_own o19 ((((g9.trans g10).trans g15).trans g18).has b8).lt) u25
        have n21_25 := n21_24.upda (Av.of_own o21 (((((g9.trans g10).trans g15).trans g18).trans g19).has b8).lt) u25
        have n22_25 := n22_24.upda (Av.of_own o22 ((((((g9.trans g10).trans g15).trans g18).trans g19).trans g21).has b8).lt) u25
        have n23_25 := n23_24.upda (Av.of_own o23 (((((((g9.trans g10).trans g15).trans g18).trans g19).trans g21).trans g22).has b8).lt) u25
        have b24_25 := AH.has.updr b24 (Nat.ne_of_lt (Nat.lt_of_lt_of_le (b7).lt (Nat.le_refl _))) u25
        refine Runs.step (AH.has.rd b24_25 0 rfl rfl) ?_
        refine Runs.step (AH.has.rd b24_25 1 rfl (asSl_v _)) ?_
        refine Runs.step (AH.has.rd b25 0 rfl rfl) ?_
        refine Runs.step (AH.has.rd b25 1 rfl (asSl_v _)) ?_
        cases e
        cases good
        exact Runs.ret ⟨s22, s23, rfl, n22_25, n23_25, (((((((((((((g5.trans g6).trans g7).trans g8).trans g9).trans g10).trans g15).trans g18).trans g19).trans g21).trans g22).trans g23).updr (Nat.le_trans ((g5.trans g6)).size (Nat.le_refl _)) u24).updr (Nat.le_trans (((g5.trans g6).trans g7)).size (Nat.le_refl _)) u25), (o22.of_le (((((((((g5.trans g6).trans g7).trans g8).trans g9).trans g10).trans g15).trans g18).trans g19).trans g21)), (o23.of_le ((((((((((g5.trans g6).trans g7).trans g8).trans g9).trans g10).trans g15).trans g18).trans g19).trans g21).trans g22))⟩
theorem k1n {s : kin} {r : kgd} (it : Iter kwp s r) : kqs r s := Iter.ind (fun s o e good => by
 cases s with
 | fn a1 x2 a3 x4 => exact @k1p _ _ a1 x2 a3 x4 e good
 | no => exact True.intro
 ) it
end Go.Ab

/- squeezed -/
set_option linter.unusedVariables false
set_option linter.unusedSimpArgs false
set_option maxRecDepth 10000
namespace Go.Ab
open Go.Proofs Go.Num
def gcdN (xs ys : List Nat) : List Nat × Int := if rt xs = true ∧ rt ys = true then (digs B (Nat.gcd (num B xs) (num B ys)), 0) else ([], 1)
theorem kp7 {xs ys : List Nat} (hx : rt xs = true) (hy : rt ys = true) (h0 : ys ≠ []) : (divN xs ys).2.1 = digs B (num B xs % num B ys) := by
 simp [divN, hx, hy, h0]
theorem kx {n : Nat} (h : n < B ^ 64) : rt (digs B n) = true := rt_iff.2 ⟨(kq B2 n 64).2 h, kb1 B2 n⟩
theorem khp {xs : List Nat} (hl : ∀ x ∈ xs, x < B) (h : rt xs = true) : num B xs < B ^ 64 := by
 have h1 := num_lt B1 hl
 have h2 : B ^ xs.length ≤ B ^ 64 := Nat.pow_le_pow_right B1 (rt_iff.1 h).1
 omega
theorem kz9 : ∀ (b a : Nat), a < B ^ 64 → b < B ^ 64 → Iter ko9 (.p4 (digs B a) (digs B b)) (digs B (Nat.gcd a b), 0) := by
 intro b
 induction b using Nat.strongRecOn with
 | ind b ih =>
  intro a ha hb
  by_cases h0 : b = 0
  ·subst h0
   refine .done ?_
   show khc _ _ = _
   unfold khc
   rw [kbh, Nat.gcd_zero_right]
   rfl
  ·have hm := Nat.mod_lt a (show 0 < b by omega)
   have hne : digs B b ≠ [] := fun h => h0 ((kg2 B2).1 h)
   have hl : (digs B b).length ≠ 0 := by simpa using hne
   refine .next (s' := .p4 (digs B b) (digs B (a % b))) ?_ (by
    have := ih (a % b) hm b hb (by omega)
    rwa [Nat.gcd_comm b, ← Nat.gcd_rec, Nat.gcd_comm b] at this)
   show khc _ _ = _
   unfold khc
   rw [condT (by rw [decide_eq_true_eq]; omega), kp7 (kx ha) (kx hb) hne, kg B2, kg B2]
theorem kbab : ∀ (b a : Nat), a < B ^ 64 → b < B ^ 64 → Iter kob (.p7 (digs B a) (digs B b)) (digs B (Nat.gcd a b), 0) := by
 intro b
 induction b using Nat.strongRecOn with
 | ind b ih =>
  intro a ha hb
  by_cases h0 : b = 0
  ·subst h0
   refine .done ?_
   show kg0 _ _ = _
   unfold kg0
   rw [kbh, Nat.gcd_zero_right]
   rfl
  ·have hm := Nat.mod_lt a (show 0 < b by omega)
   have hne : digs B b ≠ [] := fun h => h0 ((kg2 B2).1 h)
   have hl : (digs B b).length ≠ 0 := by simpa using hne
   refine .next (s' := .p7 (digs B b) (digs B (a % b))) ?_ (by
    have := ih (a % b) hm b hb (by omega)
    rwa [Nat.gcd_comm b, ← Nat.gcd_rec, Nat.gcd_comm b] at this)
   show kg0 _ _ = _
   unfold kg0
   rw [condT (by rw [decide_eq_true_eq]; omega), kp7 (kx ha) (kx hb) hne, kg B2, kg B2]
theorem k9g {xs ys : List Nat} (lx : ∀ x ∈ xs, x < B) (ly : ∀ x ∈ ys, x < B) : Iter ko9 (.fn xs ys) (gcdN xs ys) := by
 unfold gcdN
 cases hx : rt xs with
 | false =>
  refine .done ?_
  show ke0 _ _ = _
  unfold ke0
  simp [hx]
 | true =>
  cases hy : rt ys with
  | false =>
   refine .done ?_
   show ke0 _ _ = _
   unfold ke0
   simp [hx, hy]
  | true =>
   obtain ⟨lx64, tx⟩ := rt_iff.1 hx
   obtain ⟨ly64, ty⟩ := rt_iff.1 hy
   have key := kz9 (num B ys) (num B xs) (khp lx hx) (khp ly hy)
   rw [kdz B2 lx tx, kdz B2 ly ty] at key
   simp only [and_self, if_true]
   refine .next ?_ key
   show ke0 _ _ = _
   unfold ke0
   rw [hx, hy, ki (by omega), Option.bind_some, ki (by omega), Option.bind_some]
   rfl
theorem k5w {xs ys : List Nat} (lx : ∀ x ∈ xs, x < B) (ly : ∀ x ∈ ys, x < B) : Iter kob (.fn xs ys) (gcdN xs ys) := by
 unfold gcdN
 cases hx : rt xs with
 | false =>
  refine .done ?_
  show keh _ _ = _
  unfold keh
  simp [hx]
 | true =>
  cases hy : rt ys with
  | false =>
   refine .done ?_
   show keh _ _ = _
   unfold keh
   simp [hx, hy]
  | true =>
   obtain ⟨lx64, tx⟩ := rt_iff.1 hx
   obtain ⟨ly64, ty⟩ := rt_iff.1 hy
   have key := kbab (num B ys) (num B xs) (khp lx hx) (khp ly hy)
   rw [kdz B2 lx tx, kdz B2 ly ty] at key
   simp only [and_self, if_true]
   refine .next ?_ key
   show keh _ _ = _
   unfold keh
   rw [hx, hy, ki (by omega), Option.bind_some, ki (by omega), Option.bind_some]
   rfl
theorem k7y {h : AH} {s t : Sl} {xs ys : List Nat} (n : Nats h s xs) (m : Nats h t ys) : Runs (go (.fn F.kf4 [s.v, t.v]) h) (kq6 h (gcdN xs ys)) := kbap (k9g n.lt m.lt) n m
theorem kyl {h : AH} {s t : Sl} {xs ys : List Nat} (n : Nats h s xs) (m : Nats h t ys) : Runs (go (.fn F.kfd [s.v, t.v]) h) (kql h (gcdN xs ys)) := k1l (k5w n.lt m.lt) n m
def floorI (p : Bool) (xs : List Nat) (q : Bool) (ys : List Nat) : Bool × List Nat × Bool × List Nat × Int :=
 cond (!(rtI p xs && rtI q ys)) (false, [], false, [], 1)
  (cond (decide (ys = [])) (false, [], false, [], 3)
   (cond q (false, [], false, [], 1)
    (cond (p && !decide ((divN xs ys).2.1 = []))
     (cond (decide ((addN (divN xs ys).1 [1]).2 = 0)) ((fromI true (addN (divN xs ys).1 [1]).1).1, (fromI true (addN (divN xs ys).1 [1]).1).2, (fromI false (subN ys (divN xs ys).2.1).1).1, (fromI false (subN ys (divN xs ys).2.1).1).2, 0) (false, [], false, [], (addN (divN xs ys).1 [1]).2))
     ((fromI p (divN xs ys).1).1, (fromI p (divN xs ys).1).2, (fromI false (divN xs ys).2.1).1, (fromI false (divN xs ys).2.1).2, 0))))
theorem kik : digs B 1 = [1] := by decide +kernel
theorem kfs : u64P 1 = some 1 := kz (n := 1) (by decide)
theorem kqr {xs : List Nat} : decide ((List.length xs : Int) = 0) = decide (xs = []) := by
 rw [decide_eq_decide]
 cases xs
 ·simp
 ·simp
  omega
theorem k5t {xs : List Nat} : decide ((List.length xs : Int) > 0) = !decide (xs = []) := by
 cases xs
 ·rfl
 ·simp
theorem kbal (p : Bool) (xs : List Nat) (q : Bool) (ys : List Nat) : Iter kth (.fn p xs q ys) (floorI p xs q ys) := by
 refine .done ?_
 show kkc _ _ _ _ = _
 unfold kkc floorI
 rw [kqr, k5t, kfs]
 cases rtI p xs && rtI q ys
 ·rfl
 ·cases decide (ys = [])
  ·cases q
   ·cases p
    ·rfl
    ·cases decide ((divN xs ys).2.1 = [])
     ·simp only [Bool.not_true, Bool.not_false, cond_true, cond_false, Bool.and_self, Option.bind_some, kik]
      cases decide ((addN (divN xs ys).1 [1]).2 = 0)
      ·rfl
      ·rfl
     ·rfl
   ·rfl
  ·rfl
theorem k1x (p : Bool) (xs : List Nat) (q : Bool) (ys : List Nat) : Iter kwp (.fn p xs q ys) (floorI p xs q ys) := by
 refine .done ?_
 show ki7 _ _ _ _ = _
 unfold ki7 floorI
 rw [kqr, kqr, kfs]
 cases rtI p xs
 ·rfl
 ·cases rtI q ys
  ·rfl
  ·cases decide (ys = [])
   ·cases q
    ·cases p
     ·rfl
     ·cases hr : decide ((divN xs ys).2.1 = [])
      ·simp only [Bool.not_true, Bool.not_false, cond_true, cond_false, Bool.and_self, Option.bind_some, kik]
       cases decide ((addN (divN xs ys).1 [1]).2 = 0)
       ·rfl
       ·rfl
      ·rw [decide_eq_true_eq] at hr
       rw [hr]
       rfl
    ·rfl
   ·rfl
theorem k9f {h : AH} {s t : Sl} {xs ys : List Nat} (n : Nats h s xs) (m : Nats h t ys) (p q : Bool) : Runs (go (.fn F.knl [.agg [.bool p, s.v], .agg [.bool q, t.v]]) h) (ksa h (floorI p xs q ys)) := k4b (kbal p xs q ys) n m
theorem kbag {h : AH} {s t : Sl} {xs ys : List Nat} (n : Nats h s xs) (m : Nats h t ys) (p q : Bool) : Runs (go (.fn F.knn [.agg [.bool p, s.v], .agg [.bool q, t.v]]) h) (ksd h (floorI p xs q ys)) := k1n (k1x p xs q ys) n m
end Go.Ab

/- squeezed -/
set_option linter.unusedVariables false
set_option linter.unusedSimpArgs false
set_option maxRecDepth 10000
namespace Go.Ab
open Go.Proofs Go.Num
def intD (z : Int) : Bool × List Nat := (decide (z < 0), digs B z.natAbs)
theorem k4t : intD 0 = (false, []) := by simp [intD, kbh]
theorem koz (p : Bool) : fromI p [] = (false, []) := by simp [fromI]
theorem kcx {n : Nat} (h : n < B ^ 64) (neg : Bool) : fromI neg (digs B n) = intD (if neg = true then -(n : Int) else (n : Int)) := by
 by_cases h0 : n = 0
 ·subst h0
  rw [kbh, koz]
  cases neg <;> simp [intD, kbh]
 ·have hne : digs B n ≠ [] := fun e => h0 ((kg2 B2).1 e)
  unfold fromI intD
  rw [if_pos ⟨kx h, hne⟩]
  cases neg
  ·have e : ((n : Int)).natAbs = n := by omega
   have e2 : decide ((n : Int) < 0) = false := by rw [decide_eq_false_iff_not]; omega
   simp only [Bool.false_eq_true, if_false, e, e2]
  ·have e : (-(n : Int)).natAbs = n := by omega
   have e2 : decide (-(n : Int) < 0) = true := by rw [decide_eq_true_eq]; omega
   simp only [if_true, e, e2]
theorem kdq {z : Int} (h : z.natAbs < B ^ 64) : rtI (intD z).1 (intD z).2 = true := by
 unfold rtI intD
 dsimp only
 rw [kx h, Bool.true_and]
 by_cases hz : z < 0
 ·have hne : digs B z.natAbs ≠ [] := fun e => by
   have := (kg2 B2).1 e
   omega
  rw [decide_eq_true hz]
  simp [hne]
 ·rw [decide_eq_false hz]
  simp
theorem kqc {n : Nat} (h : n < B ^ 64) : told n = (digs B n, 0) := by
 unfold told
 rw [if_pos h]
theorem kr2 {n : Nat} (h : ¬ n < B ^ 64) : told n = ([], 4) := by
 unfold told
 rw [if_neg h]
theorem kbbz {u v : Int} (hu : u.natAbs < B ^ 64) (hv : v.natAbs < B ^ 64) : kba (intD u).1 (intD u).2 (intD v).1 (intD v).2 = if (u * v).natAbs < B ^ 64 then ((intD (u * v)).1, (intD (u * v)).2, 0) else (false, [], 4) := by
 unfold kba
 rw [kdq hu, kdq hv]
 have e : mulN (intD u).2 (intD v).2 = told (u.natAbs * v.natAbs) := by
  unfold mulN intD
  dsimp only
  rw [if_pos ⟨kx hu, kx hv⟩, kg B2, kg B2]
 rw [e, Int.natAbs_mul]
 simp only [Bool.and_self, Bool.not_true, cond_false]
 by_cases h : u.natAbs * v.natAbs < B ^ 64
 ·rw [if_pos h, kqc h]
  dsimp only
  rw [kcx h]
  have key : (if (!((intD u).1 == (intD v).1)) = true then -((u.natAbs * v.natAbs : Nat) : Int) else ((u.natAbs * v.natAbs : Nat) : Int)) = u * v := by
   unfold intD
   dsimp only
   rw [Int.natCast_mul]
   by_cases h1 : u < 0
   ·by_cases h2 : v < 0
    ·have e1 : ((u.natAbs : Nat) : Int) = -u := by omega
     have e2 : ((v.natAbs : Nat) : Int) = -v := by omega
     simp [h1, h2, e1, e2, Int.neg_mul, Int.mul_neg]
    ·have e1 : ((u.natAbs : Nat) : Int) = -u := by omega
     have e2 : ((v.natAbs : Nat) : Int) = v := by omega
     simp [h1, h2, e1, e2, Int.neg_mul, Int.mul_neg]
   ·by_cases h2 : v < 0
    ·have e1 : ((u.natAbs : Nat) : Int) = u := by omega
     have e2 : ((v.natAbs : Nat) : Int) = -v := by omega
     simp [h1, h2, e1, e2, Int.neg_mul, Int.mul_neg]
    ·have e1 : ((u.natAbs : Nat) : Int) = u := by omega
     have e2 : ((v.natAbs : Nat) : Int) = v := by omega
     simp [h1, h2, e1, e2, Int.neg_mul, Int.mul_neg]
  rw [key]
 ·rw [if_neg h, kr2 h]
  dsimp only
  rw [koz]
theorem k4r {u v : Int} (hu : u.natAbs < B ^ 64) (hv : v.natAbs < B ^ 64) : kr (intD u).1 (intD u).2 (intD v).1 (intD v).2 = if (u + v).natAbs < B ^ 64 then ((intD (u + v)).1, (intD (u + v)).2, 0) else (false, [], 4) := by
 unfold kr
 rw [kdq hu, kdq hv]
 simp only [Bool.and_self, Bool.not_true, cond_false]
 have ea : addN (intD u).2 (intD v).2 = told (u.natAbs + v.natAbs) := by
  unfold addN intD
  dsimp only
  rw [if_pos ⟨kx hu, kx hv⟩, kg B2, kg B2]
 have es : ∀ {a b : Int}, a.natAbs < B ^ 64 → b.natAbs < B ^ 64 → b.natAbs ≤ a.natAbs → subN (intD a).2 (intD b).2 = (digs B (a.natAbs - b.natAbs), 0) := by
  intro a b ha hb hle
  unfold subN intD
  dsimp only
  rw [if_pos ⟨kx ha, kx hb⟩, kg B2, kg B2, if_neg (by omega)]
 have ec : cmpN (intD u).2 (intD v).2 = cmp u.natAbs v.natAbs := by
  unfold cmpN intD
  dsimp only
  rw [if_pos ⟨kx hu, kx hv⟩, kg B2, kg B2]
 rw [ea, ec]
 have s1 : (intD u).1 = decide (u < 0) := rfl
 have s2 : (intD v).1 = decide (v < 0) := rfl
 rw [s1, s2]
 by_cases hs : (u < 0 ↔ v < 0)
 ·have hb : (decide (u < 0) == decide (v < 0)) = true := by simp [hs]
  rw [hb, cond_true]
  by_cases h : u.natAbs + v.natAbs < B ^ 64
  ·rw [if_pos (by omega), kqc h]
   dsimp only
   rw [kcx h]
   have : (if decide (u < 0) = true then -((u.natAbs + v.natAbs : Nat) : Int) else ((u.natAbs + v.natAbs : Nat) : Int)) = u + v := by
    by_cases h1 : u < 0
    ·simp only [h1, decide_true, if_true]; omega
    ·simp only [h1, decide_false, Bool.false_eq_true, if_false]; omega
   rw [this]
  ·rw [if_neg (by omega), kr2 h]
   dsimp only
   rw [koz]
 ·have hb : (decide (u < 0) == decide (v < 0)) = false := by
   by_cases h1 : u < 0 <;> by_cases h2 : v < 0 <;> simp_all
  rw [hb, cond_false, if_pos (by omega)]
  by_cases hc : u.natAbs < v.natAbs
  ·rw [condT (by rw [decide_eq_true_eq, cmp_lt]; exact hc), es hv hu (by omega)]
   dsimp only
   rw [kcx (by omega)]
   have : (if decide (v < 0) = true then -((v.natAbs - u.natAbs : Nat) : Int) else ((v.natAbs - u.natAbs : Nat) : Int)) = u + v := by
    by_cases h1 : v < 0
    ·simp only [h1, decide_true, if_true]; omega
    ·simp only [h1, decide_false, Bool.false_eq_true, if_false]; omega
   rw [this]
  ·rw [condF (by rw [decide_eq_false_iff_not, cmp_lt]; exact hc), es hu hv (by omega)]
   dsimp only
   rw [kcx (by omega)]
   have : (if decide (u < 0) = true then -((u.natAbs - v.natAbs : Nat) : Int) else ((u.natAbs - v.natAbs : Nat) : Int)) = u + v := by
    by_cases h1 : u < 0
    ·simp only [h1, decide_true, if_true]; omega
    ·simp only [h1, decide_false, Bool.false_eq_true, if_false]; omega
   rw [this]
theorem k4i {v : Int} (hv : v.natAbs < B ^ 64) : negI (intD v).1 (intD v).2 = intD (-v) := by
 unfold negI
 rw [if_pos (kdq hv)]
 show fromI (!decide (v < 0)) (digs B v.natAbs) = _
 rw [kcx hv]
 by_cases h1 : v < 0
 ·have e : ((v.natAbs : Nat) : Int) = -v := by omega
  simp [h1, e]
 ·have e : ((v.natAbs : Nat) : Int) = v := by omega
  simp [h1, e]
theorem k0e {u v : Int} (hu : u.natAbs < B ^ 64) (hv : v.natAbs < B ^ 64) : kbt (intD u).1 (intD u).2 (intD v).1 (intD v).2 = if (u - v).natAbs < B ^ 64 then ((intD (u - v)).1, (intD (u - v)).2, 0) else (false, [], 4) := by
 have e : kbt (intD u).1 (intD u).2 (intD v).1 (intD v).2 = kr (intD u).1 (intD u).2 (intD (-v)).1 (intD (-v)).2 := by
  unfold kbt
  rw [kdq hu, kdq hv, k4i hv]
  rfl
 rw [e, k4r hu (by omega)]
 rfl
theorem kn8 (n : Nat) : intD (n : Int) = (false, digs B n) := by
 unfold intD
 have : decide ((n : Int) < 0) = false := by rw [decide_eq_false_iff_not]; omega
 rw [this]
 rfl
theorem kba9 {u v : Int} (hu : u.natAbs < B ^ 64) (hv : v.natAbs < B ^ 64) (h0 : 0 < v) : floorI (intD u).1 (intD u).2 (intD v).1 (intD v).2 = ((intD (u / v)).1, (intD (u / v)).2, (intD (u % v)).1, (intD (u % v)).2, 0) := by
 obtain ⟨y, rfl⟩ : ∃ y : Nat, v = (y : Int) := ⟨v.toNat, by omega⟩
 have hy : y < B ^ 64 := by simpa using hv
 have hy0 : 0 < y := by omega
 have hne : (intD (y : Int)).2 ≠ [] := fun e => by
  have : y = 0 := by simpa [intD] using (kg2 B2).1 e
  omega
 unfold floorI
 rw [kdq hu, kdq hv]
 have sy : (intD (y : Int)).1 = false := by rw [kn8]
 have dv : divN (intD u).2 (intD (y : Int)).2 = (digs B (u.natAbs / y), digs B (u.natAbs % y), 0) := by
  unfold divN
  rw [if_pos ⟨rtI_rt (kdq hu), rtI_rt (kdq hv)⟩, if_neg hne]
  simp only [intD, kg B2, Int.natAbs_natCast]
 have hQ : u.natAbs / y < B ^ 64 := Nat.lt_of_le_of_lt (Nat.div_le_self _ _) hu
 have hR : u.natAbs % y < B ^ 64 := Nat.lt_trans (Nat.mod_lt _ hy0) hy
 have dm := Nat.div_add_mod u.natAbs y
 have hm := Nat.mod_lt u.natAbs hy0
 rw [dv, sy]
 simp only [Bool.and_self, Bool.not_true, cond_false, hne, decide_false]
 have s1 : (intD u).1 = decide (u < 0) := rfl
 rw [s1]
 have hr0 : (digs B (u.natAbs % y) = []) ↔ u.natAbs % y = 0 := kg2 B2
 by_cases hc : u < 0 ∧ u.natAbs % y ≠ 0
 ·have b1 : (decide (u < 0) && !decide (digs B (u.natAbs % y) = [])) = true := by
   rw [Bool.and_eq_true, decide_eq_true_eq, Bool.not_eq_true', decide_eq_false_iff_not, hr0]
   exact hc
  rw [b1, cond_true]
  have h1 : [1] = digs B 1 := kik.symm
  have hq1 : u.natAbs / y + 1 < B ^ 64 := by
   have hy2 : 2 ≤ y := by
    rcases Nat.lt_or_ge y 2 with h | h
    ·have : y = 1 := by omega
     subst this
     rw [Nat.mod_one] at hc
     exact absurd rfl hc.2
    ·exact h
   have : u.natAbs / y ≤ u.natAbs / 2 := Nat.div_le_div_left hy2 (by omega)
   have hb : 2 < B ^ 64 := by decide +kernel
   omega
  have au : addN (digs B (u.natAbs / y)) [1] = (digs B (u.natAbs / y + 1), 0) := by
   unfold addN
   rw [h1, if_pos ⟨kx hQ, kx (by decide +kernel)⟩, kg B2, kg B2, kqc hq1]
  have su : subN (intD (y : Int)).2 (digs B (u.natAbs % y)) = (digs B (y - u.natAbs % y), 0) := by
   rw [kn8]
   unfold subN
   rw [if_pos ⟨kx hy, kx hR⟩, kg B2, kg B2, if_neg (by omega)]
  rw [au, su]
  dsimp only
  rw [kcx hq1, kcx (by omega)]
  have e1 : u / (y : Int) = -((u.natAbs / y + 1 : Nat) : Int) := by
   have hu' : u = -((y * (u.natAbs / y) + u.natAbs % y : Nat) : Int) := by rw [dm]; omega
   generalize u.natAbs / y = q at *
   generalize u.natAbs % y = r at *
   rw [hu']
   rw [Int.ediv_eq_iff_of_pos (by omega)]
   constructor
   ·rw [Int.natCast_add, Int.natCast_add, Int.natCast_mul, Int.neg_mul, Int.add_mul, Int.mul_comm (q : Int)]
    omega
   ·rw [Int.natCast_add, Int.natCast_add, Int.natCast_mul, Int.neg_mul, Int.add_mul, Int.mul_comm (q : Int)]
    omega
  have e2 : u % (y : Int) = ((y - u.natAbs % y : Nat) : Int) := by
   have := Int.mul_ediv_add_emod u (y : Int)
   rw [e1] at this
   have dm' : ((y : Int) * ((u.natAbs / y : Nat) : Int)) + ((u.natAbs % y : Nat) : Int) = ((u.natAbs : Nat) : Int) := by
    rw [← Int.natCast_mul, ← Int.natCast_add, dm]
   rw [Int.natCast_add, Int.mul_neg, Int.mul_add] at this
   omega
  rw [e1, e2]
  rfl
 ·have b1 : (decide (u < 0) && !decide (digs B (u.natAbs % y) = [])) = false := by
   rw [← Bool.not_eq_true, Bool.and_eq_true, decide_eq_true_eq, Bool.not_eq_true', decide_eq_false_iff_not, hr0]
   exact hc
  rw [b1, cond_false, kcx hQ, kcx hR]
  have dm' : ((y : Int) * ((u.natAbs / y : Nat) : Int)) + ((u.natAbs % y : Nat) : Int) = ((u.natAbs : Nat) : Int) := by
   rw [← Int.natCast_mul, ← Int.natCast_add, dm]
  by_cases hneg : u < 0
  ·have hr : u.natAbs % y = 0 := by
    rcases Nat.eq_zero_or_pos (u.natAbs % y) with h | h
    ·exact h
    ·exact absurd ⟨hneg, by omega⟩ hc
   rw [hr] at dm' ⊢
   have hu' : u = (y : Int) * -((u.natAbs / y : Nat) : Int) := by
    rw [Int.mul_neg]
    omega
   have e1 : u / (y : Int) = -((u.natAbs / y : Nat) : Int) := by
    conv => lhs; rw [hu']
    exact Int.mul_ediv_cancel_left _ (by omega)
   have e2 : u % (y : Int) = 0 := by
    conv => lhs; rw [hu']
    exact Int.mul_emod_right _ _
   rw [e1, e2, if_pos (by simpa using hneg)]
   rfl
  ·have hu' : u = ((u.natAbs : Nat) : Int) := by omega
   have e1 : u / (y : Int) = ((u.natAbs / y : Nat) : Int) := by
    conv => lhs; rw [hu']
    rfl
   have e2 : u % (y : Int) = ((u.natAbs % y : Nat) : Int) := by
    conv => lhs; rw [hu']
    rfl
   rw [e1, e2, if_neg (by simpa using hneg)]
   rfl
end Go.Ab

/- squeezed -/
set_option linter.unusedVariables false
set_option linter.unusedSimpArgs false
set_option maxRecDepth 10000
namespace Go.Ab
open Go.Proofs Go.Num
theorem kpy : 18446744073709551616 * 18446744073709551616 ≤ B ^ 64 := by
 have : B ^ 64 = B * B * B ^ 62 := by
  rw [show 64 = 2 + 62 from rfl, Nat.pow_add, Nat.pow_two]
 rw [this]
 have h : 1 ≤ B ^ 62 := Nat.pow_pos B1
 have := Nat.mul_le_mul_left (B * B) h
 rw [Nat.mul_one] at this
 exact this
theorem k2x {n : Int} (h : n.natAbs < 18446744073709551616) : ofI n = intD n := by
 have hb : n.natAbs < B ^ 64 := by have := kpy; omega
 unfold ofI
 rw [kcx hb]
 by_cases h1 : n < 0
 ·rw [decide_eq_true h1]
  have e : ((n.natAbs : Nat) : Int) = -n := by omega
  simp [e]
 ·rw [decide_eq_false h1]
  have e : ((n.natAbs : Nat) : Int) = n := by omega
  simp [e]
theorem k99 (n : Int) {h : AH} (c : -9223372036854775808 ≤ n ∧ n ≤ 9223372036854775807) : ∃ (s' : Sl) (h' : AH), go (.fn F.knt [.int .i64 n]) h = some (.agg [.bool (ofI n).1, s'.v], h') ∧ Nats h' s' (ofI n).2 ∧ Grow h h' ∧ Own h s' := kzi c.1 c.2
theorem k4v (n : Int) {h : AH} (c : -9223372036854775808 ≤ n ∧ n ≤ 9223372036854775807) : ∃ (s' : Sl) (h' : AH), go (.fn F.kk8 [.int .i64 n]) h = some (.agg [.bool (ofI n).1, s'.v], h') ∧ Nats h' s' (ofI n).2 ∧ Grow h h' ∧ Own h s' := k5g c.1 c.2
end Go.Ab

/- squeezed -/
set_option linter.unusedVariables false
set_option linter.unusedSimpArgs false
set_option maxRecDepth 10000
namespace Go.Ab
open Go.Proofs Go.Num
end Go.Ab

/- squeezed -/
set_option linter.unusedVariables false
set_option linter.unusedSimpArgs false
set_option maxRecDepth 10000
namespace Go.Ab
open Go.Proofs Go.Num
end Go.Ab

/- squeezed -/
set_option linter.unusedVariables false
set_option linter.unusedSimpArgs false
set_option maxRecDepth 10000
namespace Go.Ab
open Go.Proofs Go.Num
def kdj (a1 : Bool) (x2 : List Nat) (a3 : Bool) (x4 : List Nat) : Bool × List Nat × Int :=
 cond (!(rtI a1 x2)) ((false, [], 1)) (cond (!(rtI a3 x4)) ((false, [], 1)) (((((kr a1 x2 ((negI a3 x4).1) ((negI a3 x4).2)).1)), (kr a1 x2 ((negI a3 x4).1) ((negI a3 x4).2)).2.1, ((kr a1 x2 ((negI a3 x4).1) ((negI a3 x4).2)).2.2))))
theorem k9c {h : AH} {a2 : Sl} {x2 : List Nat} {a4 : Sl} {x4 : List Nat} (n2 : Nats h a2 x2) (n4 : Nats h a4 x4) (a1 : Bool) (a3 : Bool) : Runs (go (.fn F.knk [.agg [.bool a1, a2.v], .agg [.bool a3, a4.v]]) h) fun v h' => ∃ s1 : Sl, v = .tup [.agg [.bool (kdj a1 x2 a3 x4).1, s1.v], .int .i64 (kdj a1 x2 a3 x4).2.2] ∧ Nats h' s1 ((kdj a1 x2 a3 x4).2.1) ∧ Grow h h' ∧ Own h s1 := by
 rw [k0h]
 refine Runs.new fun H5 b5 g5 => ?_
 refine Runs.new fun H6 b6 g6 => ?_
 refine Runs.new fun H7 b7 g7 => ?_
 refine Runs.step (AH.has.rd ((g6.trans g7).has b5) 0 rfl rfl) ?_
 refine Runs.step (AH.has.rd ((g6.trans g7).has b5) 1 rfl (asSl_v _)) ?_
 obtain ⟨H8, e8, g8⟩ := kex (n2.grow ((g5.trans g6).trans g7)) a1
 refine Runs.step e8 ?_
 refine Runs.step (seen rfl) ?_
 refine Runs.step (AH.has.rd ((g7.trans g8).has b6) 0 rfl rfl) ?_
 refine Runs.step (AH.has.rd ((g7.trans g8).has b6) 1 rfl (asSl_v _)) ?_
 obtain ⟨H9, e9, g9⟩ := kex (n4.grow (((g5.trans g6).trans g7).trans g8)) a3
 refine Runs.step e9 ?_
 refine Runs.step (seen rfl) ?_
 refine Runs.cond (fun k10 => ?_) (fun k10 => ?_)
 ·refine Runs.puts ((g8.trans g9).has b7) rfl fun H11 b11 u11 => ?_
  refine Runs.step (AH.has.rd b11 0 rfl rfl) ?_
  refine Runs.step (AH.has.rd b11 1 rfl (asSl_v _)) ?_
  have z : kdj a1 x2 a3 x4 = (false, [], 1) := by unfold kdj; exact (condT k10).trans rfl
  rw [z]
  exact Runs.ret ⟨(⟨none, 0, .is 0⟩ : Sl), rfl, (Nats.nil _), (((((g5.trans g6).trans g7).trans g8).trans g9).updr (Nat.le_trans ((g5.trans g6)).size (Nat.le_refl _)) u11), (Own.nil _)⟩
 ·refine Runs.cond (fun k11 => ?_) (fun k11 => ?_)
  ·refine Runs.puts ((g8.trans g9).has b7) rfl fun H12 b12 u12 => ?_
   refine Runs.step (AH.has.rd b12 0 rfl rfl) ?_
   refine Runs.step (AH.has.rd b12 1 rfl (asSl_v _)) ?_
   have z : kdj a1 x2 a3 x4 = (false, [], 1) := by unfold kdj; exact (condF k10).trans ((condT k11).trans rfl)
   rw [z]
   exact Runs.ret ⟨(⟨none, 0, .is 0⟩ : Sl), rfl, (Nats.nil _), (((((g5.trans g6).trans g7).trans g8).trans g9).updr (Nat.le_trans ((g5.trans g6)).size (Nat.le_refl _)) u12), (Own.nil _)⟩
  ·refine Runs.step (AH.has.rd ((((g6.trans g7).trans g8).trans g9).has b5) 0 rfl rfl) ?_
   refine Runs.step (AH.has.rd ((((g6.trans g7).trans g8).trans g9).has b5) 1 rfl (asSl_v _)) ?_
   refine Runs.step (AH.has.rd (((g7.trans g8).trans g9).has b6) 0 rfl rfl) ?_
   refine Runs.step (AH.has.rd (((g7.trans g8).trans g9).has b6) 1 rfl (asSl_v _)) ?_
   obtain ⟨s12, H12, e12, n12, g12, o12⟩ := k3o (n4.grow ((((g5.trans g6).trans g7).trans g8).trans g9)) a3
   refine Runs.step e12 ?_
   refine Runs.step rfl ?_
   refine Runs.ifT rfl ?_
   refine Runs.step (seenAt rfl rfl) ?_
   refine Runs.step (seenAt rfl (asSl_v _)) ?_
   refine Runs.when (g12.same ((((g6.trans g7).trans g8).trans g9).has b5) 0 2) ?_
   obtain ⟨_, H13, e13, s13, rfl, n13, g13, o13⟩ := k4a (n2.grow (((((g5.trans g6).trans g7).trans g8).trans g9).trans g12)) n12 a1 ((negI a3 x4).1)
   refine Runs.step e13 ?_
   refine Runs.step rfl ?_
   refine Runs.step rfl ?_
   refine Runs.ifT rfl ?_
   refine Runs.step (seenAt rfl rfl) ?_
   refine Runs.step (seenAt rfl (asSl_v _)) ?_
   refine Runs.step (seen (kb _ _)) ?_
   refine Runs.puts ((((g8.trans g9).trans g12).trans g13).has b7) rfl fun H14 b14 u14 => ?_
   have n12_14 := (n12.grow g13).upda (Av.of_own o12 ((g8.trans g9).has b7).lt) u14
   have n13_14 := n13.upda (Av.of_own o13 (((g8.trans g9).trans g12).has b7).lt) u14
   refine Runs.step (AH.has.rd b14 0 rfl rfl) ?_
   refine Runs.step (AH.has.rd b14 1 rfl (asSl_v _)) ?_
   have z : kdj a1 x2 a3 x4 = ((((kr a1 x2 ((negI a3 x4).1) ((negI a3 x4).2)).1)), (kr a1 x2 ((negI a3 x4).1) ((negI a3 x4).2)).2.1, ((kr a1 x2 ((negI a3 x4).1) ((negI a3 x4).2)).2.2)) := by unfold kdj; exact (condF k10).trans ((condF k11).trans rfl)
   rw [z]
   exact Runs.ret ⟨s13, rfl, n13_14, (((((((g5.trans g6).trans g7).trans g8).trans g9).trans g12).trans g13).updr (Nat.le_trans ((g5.trans g6)).size (Nat.le_refl _)) u14), (o13.of_le (((((g5.trans g6).trans g7).trans g8).trans g9).trans g12))⟩
theorem k30 : kdj = kbt := by
 funext p xs q ys
 unfold kdj kbt
 cases hx : rtI p xs with
 | false => rfl
 | true =>
  cases hy : rtI q ys with
  | false => rfl
  | true => rfl
theorem k8s {h : AH} {a2 : Sl} {x2 : List Nat} {a4 : Sl} {x4 : List Nat} (n2 : Nats h a2 x2) (n4 : Nats h a4 x4) (a1 : Bool) (a3 : Bool) : Runs (go (.fn F.knk [.agg [.bool a1, a2.v], .agg [.bool a3, a4.v]]) h) fun v h' => ∃ s1 : Sl, v = .tup [.agg [.bool (kbt a1 x2 a3 x4).1, s1.v], .int .i64 (kbt a1 x2 a3 x4).2.2] ∧ Nats h' s1 ((kbt a1 x2 a3 x4).2.1) ∧ Grow h h' ∧ Own h s1 := by
 rw [← k30]
 exact k9c n2 n4 a1 a3
end Go.Ab

/- squeezed -/
set_option linter.unusedVariables false
set_option linter.unusedSimpArgs false
set_option maxRecDepth 10000
namespace Go.Ab
open Go.Proofs Go.Num
end Go.Ab

/- squeezed -/
set_option linter.unusedVariables false
set_option linter.unusedSimpArgs false
set_option maxRecDepth 10000
namespace Go.Ab
open Go.Proofs Go.Num
theorem k6x {h : AH} : ∃ (s' : Sl) (h' : AH), go (.fn F.kdd [.int .u64 1]) h = some (s'.v, h') ∧ Nats h' s' [1] ∧ Grow h h' ∧ Own h s' := by
 have := kpx (h := h) (x := 1) (by decide)
 rw [kik] at this
 exact this
end Go.Ab

/- squeezed -/
set_option linter.unusedVariables false
namespace Go.Ab
end Go.Ab
