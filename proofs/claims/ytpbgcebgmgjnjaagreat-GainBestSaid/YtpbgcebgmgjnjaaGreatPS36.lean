/- squeezed -/
import Derived.Test.YtpbgcebgmgjnjaaGreatPS20
import Derived.Test.YtpbgcebgmgjnjaaGreatPS2
import Derived.Test.YtpbgcebgmgjnjaaGreatPAbsQ

set_option linter.unusedVariables false
set_option linter.unusedSimpArgs false
set_option maxRecDepth 10000
namespace Go.Ab
open Go.Proofs Go.Num
theorem k42 {b : Nat} {zs : List Nat} {n : Nat} (h : zs.length = n + 2) : num b zs = num b (zs.take n) + b ^ n * (zs[n + 1] * b + zs[n]) := by
 have e : num b zs = num b (zs.take (n + 1 + 1)) := by rw [List.take_of_length_le (by omega)]
 rw [e, kcn b (by omega), kcn b (by omega), Nat.pow_succ, Nat.mul_add, Nat.mul_assoc, Nat.mul_comm b]
 omega
theorem kwc {b : Nat} {zs : List Nat} {n : Nat} (h : zs.length = n + 3) : num b zs = num b (zs.take n) + b ^ n * ((zs[n + 2] * b + zs[n + 1]) * b + zs[n]) := by
 have e : num b zs = num b (zs.take (n + 1 + 1 + 1)) := by rw [List.take_of_length_le (by omega)]
 rw [e, kcn b (by omega), kcn b (by omega), kcn b (by omega)]
 have e1 : b ^ (n + 1) * zs[n + 1] = b ^ n * (zs[n + 1] * b) := by rw [Nat.pow_succ, Nat.mul_assoc, Nat.mul_comm b]
 have e2 : b ^ (n + 1 + 1) * zs[n + 1 + 1] = b ^ n * (zs[n + 2] * b * b) := by rw [Nat.pow_succ, Nat.pow_succ, Nat.mul_assoc, Nat.mul_assoc, Nat.mul_comm b, Nat.mul_comm b]
 rw [e1, e2, Nat.add_mul, Nat.mul_add, Nat.mul_add]
 omega
theorem top_le {E T D p e : Nat} (hp : p < E) (hD : 0 < D) : (p + E * T) / (e + E * D) ≤ T / D := by
 have hE : 0 < E := by omega
 have hv : 0 < e + E * D := by have := Nat.mul_pos hE hD; omega
 have h1 : T < (T / D + 1) * D := by rw [Nat.mul_comm]; exact Nat.lt_mul_div_succ T hD
 have h2 : E * (T + 1) ≤ E * ((T / D + 1) * D) := Nat.mul_le_mul_left _ h1
 rw [Nat.mul_add, Nat.mul_one] at h2
 have h3 : (p + E * T) / (e + E * D) < T / D + 1 := by
  rw [Nat.div_lt_iff_lt_mul hv, Nat.mul_add, Nat.mul_left_comm _ E D]
  omega
 omega
theorem kwj {dn P low Bj X Qh n1 : Nat} (h1 : n1 + dn * (Bj * 18446744073709551616) * Qh = X) (h2 : n1 = low + Bj * P) : low + Bj * (P % dn) + dn * Bj * (P / dn + 18446744073709551616 * Qh) = X := by
 have dm := Nat.div_add_mod P dn
 have e1 : Bj * P = Bj * (dn * (P / dn)) + Bj * (P % dn) := by rw [← Nat.mul_add, dm]
 have e2 : dn * Bj * (P / dn) = Bj * (dn * (P / dn)) := by rw [Nat.mul_comm dn Bj, Nat.mul_assoc]
 have e3 : dn * (Bj * 18446744073709551616) * Qh = dn * Bj * (18446744073709551616 * Qh) := by rw [← Nat.mul_assoc dn, Nat.mul_assoc (dn * Bj)]
 rw [Nat.mul_add, e2, ← e3]
 omega
theorem kqy {s X m k : Nat} {d : List Nat} (hs : s ≤ 63) (hk : d.length = k + 2) (hd : ∀ x ∈ d, x < B) (ht : Trim d) (hm : m ≤ 536870911) (hk2 : k ≤ 536870000) :
  ∀ (i : Nat) (r q : List Nat), i ≤ m → r.length = m + (k + 2) → q.length = m → (∀ x ∈ r, x < B) → num B r + num B d * B ^ i * num B (q.drop i) = X → num B r < num B d * B ^ i →
   Iter khq (.p6 s r d d.length q ((i : Int) - 1)) (digs B (X / num B d), digs B (X % num B d / 2 ^ s))
 | 0, r, q, hi, lr, lq, tr, e, lt => by
  rw [List.drop_zero, Nat.pow_zero, Nat.mul_one] at e
  rw [Nat.pow_zero, Nat.mul_one] at lt
  have hd0 : 0 < num B d := by omega
  have hq : X / num B d = num B q := by rw [← e, Nat.add_mul_div_left _ _ hd0, Nat.div_eq_of_lt lt, Nat.zero_add]
  have hr : X % num B d = num B r := by rw [← e, Nat.add_mul_mod_self_left, Nat.mod_eq_of_lt lt]
  rw [hq, hr]
  have hl := kil tr
  have key := klb (q := q) (kbe B2 (num B r)) hs (by omega) (digs B (num B r)).length 0 (List.replicate (digs B (num B r)).length 0) (by omega) (by simp) (by simp [num])
  rw [ki B2] at key
  refine .next ?_ key
  show kfj _ _ _ _ _ _ = _
  unfold kfj
  rw [condF (by rw [decide_eq_false_iff_not]; omega), kez (by omega), Option.bind_some]
  rfl
 | j + 1, r, q, hi, lr, lq, tr, e, lt => by
  have hd0 : 0 < num B d := by
   rcases Nat.eq_zero_or_pos (num B d) with h | h
   ·rw [h, Nat.zero_mul] at lt; omega
   ·exact h
  have hdB := num_lt B1 hd
  rw [hk] at hdB
  have lw : ((r.drop j).take (d.length + 1)).length = k + 3 := by simp; omega
  have tw : ∀ x ∈ (r.drop j).take (d.length + 1), x < B := fun x hx => tr x (List.mem_of_mem_drop (List.mem_of_mem_take hx))
  have ltake : (r.take j).length = j := by simp; omega
  have er : num B r = num B (r.take j) + B ^ j * num B ((r.drop j).take (d.length + 1)) + B ^ (j + (d.length + 1)) * num B (r.drop (j + (d.length + 1))) := by
   have e1 : num B r = num B (r.take j ++ ((r.drop j).take (d.length + 1) ++ (r.drop j).drop (d.length + 1))) := by rw [List.take_append_drop, List.take_append_drop]
   rw [kck, kck, ltake, lw, List.drop_drop] at e1
   have e3 : j + (k + 3) = j + (d.length + 1) := by omega
   rw [e1, Nat.mul_add (B ^ j), ← Nat.mul_assoc (B ^ j), ← Nat.pow_add, e3]
   omega
  have hlow := num_lt (b := B) B1 (xs := r.take j) fun x hx => tr x (List.mem_of_mem_take hx)
  rw [ltake] at hlow
  have hrest : num B (r.drop (j + (d.length + 1))) = 0 := by
   rcases Nat.eq_zero_or_pos (num B (r.drop (j + (d.length + 1)))) with h | h
   ·exact h
   ·exfalso
    have h1 : B ^ (j + (d.length + 1)) * 1 ≤ B ^ (j + (d.length + 1)) * num B (r.drop (j + (d.length + 1))) := Nat.mul_le_mul_left _ h
    have h2 : num B d * B ^ (j + 1) ≤ B ^ (k + 2) * B ^ (j + 1) := Nat.mul_le_mul_right _ (by omega)
    rw [← Nat.pow_add, show k + 2 + (j + 1) = j + (d.length + 1) from by omega] at h2
    omega
  rw [hrest, Nat.mul_zero, Nat.add_zero] at er
  have hP : num B ((r.drop j).take (d.length + 1)) < num B d * B := by
   have h1 : B ^ j * num B ((r.drop j).take (d.length + 1)) < B ^ j * (num B d * B) := by
    have : num B d * B ^ (j + 1) = B ^ j * (num B d * B) := by rw [Nat.pow_succ, Nat.mul_left_comm]
    omega
   exact Nat.lt_of_mul_lt_mul_left h1
  have hq : num B ((r.drop j).take (d.length + 1)) / num B d < 18446744073709551616 := by
   rw [Nat.div_lt_iff_lt_mul hd0, Nat.mul_comm]
   exact hP
  have i2 : j + (k + 2) < r.length := by omega
  have i1 : j + (k + 1) < r.length := by omega
  have i0 : j + k < r.length := by omega
  have g2 : ((r.drop j).take (d.length + 1))[k + 2] = r[j + (k + 2)] := by simp
  have g1 : ((r.drop j).take (d.length + 1))[k + 1] = r[j + (k + 1)] := by simp
  have g0 : ((r.drop j).take (d.length + 1))[k] = r[j + k] := by simp
  have top := kwc (b := B) lw
  rw [g2, g1, g0] at top
  have topd := k42 (b := B) hk
  have hd1 : 0 < d[k + 1] := by
   have hne : d ≠ [] := by intro h; rw [h] at hk; simp at hk
   have := ht hne
   rw [List.getLast_eq_getElem] at this
   have e : d.length - 1 = k + 1 := by omega
   simp only [e] at this
   omega
  have lpt : (((r.drop j).take (d.length + 1)).take k).length = k := by simp; omega
  have hpt := num_lt (b := B) B1 (xs := ((r.drop j).take (d.length + 1)).take k) fun x hx => tw x (List.mem_of_mem_take hx)
  rw [lpt] at hpt
  have tl := top_le (E := B ^ k) (T := (r[j + (k + 2)] * B + r[j + (k + 1)]) * B + r[j + k]) (D := d[k + 1] * B + d[k]) (e := num B (d.take k)) hpt (by have : 1 * B ≤ d[k + 1] * B := Nat.mul_le_mul_right _ hd1; have := B0; omega)
  rw [← top, ← topd] at tl
  obtain ⟨g, itg, hg1, hg2⟩ := kxr (r2 := r[j + (k + 2)]) (r1 := r[j + (k + 1)]) (r0 := r[j + k]) (d1 := d[k + 1]) (d0 := d[k]) (tr _ (List.getElem_mem _)) (tr _ (List.getElem_mem _)) (tr _ (List.getElem_mem _)) (hd _ (List.getElem_mem _)) hd1 (hd _ (List.getElem_mem _))
  have hge : num B ((r.drop j).take (d.length + 1)) / num B d ≤ g := by
   rcases hg2 with h | h
   ·omega
   ·exact Nat.le_trans tl h
  have hmod := Nat.mod_lt (num B ((r.drop j).take (d.length + 1))) hd0
  have hpd : num B (padD B (d.length + 1) (num B ((r.drop j).take (d.length + 1)) % num B d)) = num B ((r.drop j).take (d.length + 1)) % num B d := by
   refine krs B0 _ _ ?_
   have : B ^ (k + 2) ≤ B ^ (d.length + 1) := Nat.pow_le_pow_right B1 (by omega)
   omega
  have nr : num B (r.take j ++ padD B (d.length + 1) (num B ((r.drop j).take (d.length + 1)) % num B d) ++ r.drop (j + (d.length + 1))) = num B (r.take j) + B ^ j * (num B ((r.drop j).take (d.length + 1)) % num B d) := by
   rw [kck, kck, hrest, Nat.mul_zero, Nat.add_zero, ltake, hpd]
  have hjq : j < q.length := by omega
  have IH := kqy (s := s) (X := X) hs hk hd ht hm hk2 j (r.take j ++ padD B (d.length + 1) (num B ((r.drop j).take (d.length + 1)) % num B d) ++ r.drop (j + (d.length + 1))) (q.set j (num B ((r.drop j).take (d.length + 1)) / num B d)) (by omega) (by simp [koo]; omega) (by simpa using lq) (by
    intro x hx
    rcases List.mem_append.1 hx with hx | hx
    ·rcases List.mem_append.1 hx with hx | hx
     ·exact tr x (List.mem_of_mem_take hx)
     ·exact ktb B0 _ _ x hx
    ·exact tr x (List.mem_of_mem_drop hx)) (by
    rw [nr, kmw hjq]
    simp only [num]
    rw [Nat.pow_succ] at e
    exact kwj e er) (by
    rw [nr]
    have : B ^ j * (num B ((r.drop j).take (d.length + 1)) % num B d + 1) ≤ B ^ j * num B d := Nat.mul_le_mul_left _ hmod
    rw [Nat.mul_add, Nat.mul_one, Nat.mul_comm _ (num B d)] at this
    omega)
  refine .next (s' := .p10 s r d d.length q j g (j, d.length + 1)) ?_ (krx tr hd hjq (by omega) (by omega) (by omega) hd0 IH g hg1 hge)
  show kfj _ _ _ _ _ _ = _
  unfold kfj
  have w0 : IntKind.wrap .i64 ((j : Int) + (d.length : Int)) = ((j + (k + 2) : Nat) : Int) := by rw [wrap64 (by omega) (by omega)]; omega
  rw [condT (by rw [decide_eq_true_eq]; omega), show ((j + 1 : Nat) : Int) - 1 = (j : Int) from by omega, w0]
  rw [show IntKind.wrap .i64 (((j + (k + 2) : Nat) : Int) - 1) = ((j + (k + 1) : Nat) : Int) from by rw [wrap64 (by omega) (by omega)]; omega]
  rw [show IntKind.wrap .i64 (((j + (k + 2) : Nat) : Int) - 2) = ((j + k : Nat) : Int) from by rw [wrap64 (by omega) (by omega)]; omega]
  rw [show IntKind.wrap .i64 ((d.length : Int) - 1) = ((k + 1 : Nat) : Int) from by rw [wrap64 (by omega) (by omega)]; omega]
  rw [show IntKind.wrap .i64 ((d.length : Int) - 2) = (k : Int) from by rw [wrap64 (by omega) (by omega)]; omega]
  rw [show IntKind.wrap .i64 (((j + (k + 2) : Nat) : Int) + 1) = ((j + (d.length + 1) : Nat) : Int) from by rw [wrap64 (by omega) (by omega)]; omega]
  rw [kbw i2, Option.bind_some, kbw i1, Option.bind_some, kbw i0, Option.bind_some, kb5 (by omega), Option.bind_some, kb5 (by omega), Option.bind_some, kdd i2, kdd i1, kdd i0, kn8 itg, Option.bind_some, ky2 (by omega) (by omega), Option.bind_some]
end Go.Ab

/- squeezed -/
set_option linter.unusedVariables false
set_option linter.unusedSimpArgs false
set_option maxRecDepth 10000
namespace Go.Ab
open Go.Proofs Go.Num
theorem kxq {xs ys : List Nat} (lx : ∀ x ∈ xs, x < B) (ly : ∀ x ∈ ys, x < B) (ty : Trim ys) (hy : 2 ≤ ys.length) (hxl : xs.length ≤ 64) (hle : ys.length ≤ xs.length) :
  Iter khq (.fn xs ys) (digs B (num B xs / num B ys), digs B (num B xs % num B ys)) := by
 obtain ⟨k, hk⟩ : ∃ k, ys.length = k + 2 := ⟨ys.length - 2, by omega⟩
 have hky : k + 1 < ys.length := by omega
 have hy0 : 0 < ys[k + 1] := by
  have hne : ys ≠ [] := by intro h; rw [h] at hk; simp at hk
  have := ty hne
  rw [List.getLast_eq_getElem] at this
  have e : ys.length - 1 = k + 1 := by omega
  simp only [e] at this
  omega
 have hyB : ys[k + 1] < 18446744073709551616 := ly _ (List.getElem_mem _)
 obtain ⟨hs, hb1, hb2⟩ := ktf hyB hy0
 obtain ⟨r, itr, lr, tr, vr⟩ := ksi (n := 64 - bl ys[k + 1]) lx hs (by omega)
 obtain ⟨p, itp, lp, tp, vp⟩ := ksi (n := 64 - bl ys[k + 1]) ly hs (by omega)
 have hs' : 64 - bl ys[k + 1] ≤ 63 := hs
 generalize hsd : 64 - bl ys[k + 1] = s at *
 have ps : 0 < 2 ^ s := Nat.pow_pos (by decide)
 have e64 := kh7 (show s ≤ 64 by omega)
 have eys : num B ys = num B (ys.take (k + 1)) + B ^ (k + 1) * ys[k + 1] := by
  have : num B ys = num B (ys.take (k + 1 + 1)) := by rw [List.take_of_length_le (by omega)]
  rw [this, kcn B hky]
 have hlow := num_lt (b := B) B1 (xs := ys.take (k + 1)) fun x hx => ly x (List.mem_of_mem_take hx)
 have hl1 : (ys.take (k + 1)).length = k + 1 := by simp; omega
 rw [hl1] at hlow
 have y1 : ys[k + 1] + 1 ≤ 2 ^ (64 - s) := by
  have : ys[k + 1] < 2 ^ (64 - s) := Nat.lt_of_mul_lt_mul_right (a := 2 ^ s) (by rw [e64]; exact hb2)
  omega
 have up : num B ys * 2 ^ s < B ^ (k + 2) := by
  have h1 : num B ys < B ^ (k + 1) * (ys[k + 1] + 1) := by rw [Nat.mul_add, Nat.mul_one]; omega
  have h2 : B ^ (k + 1) * (ys[k + 1] + 1) ≤ B ^ (k + 1) * 2 ^ (64 - s) := Nat.mul_le_mul_left _ y1
  have h3 : num B ys * 2 ^ s < B ^ (k + 1) * 2 ^ (64 - s) * 2 ^ s := Nat.mul_lt_mul_of_pos_right (by omega) ps
  rw [Nat.mul_assoc, e64] at h3
  exact h3
 have lo : B ^ (k + 1) * 9223372036854775808 ≤ num B ys * 2 ^ s := by
  have h1 : B ^ (k + 1) * ys[k + 1] ≤ num B ys := by omega
  have h2 := Nat.mul_le_mul_right (2 ^ s) h1
  rw [Nat.mul_assoc] at h2
  exact Nat.le_trans (Nat.mul_le_mul_left _ hb1) h2
 have ld : (digs B (num B p)).length = k + 2 := by
  rw [vp]
  refine Nat.le_antisymm ((ky B2 _ _).2 up) ?_
  rcases Nat.lt_or_ge (digs B (num B ys * 2 ^ s)).length (k + 2) with h | h
  ·have := (ky B2 (num B ys * 2 ^ s) (k + 1)).1 (by omega)
   omega
  ·exact h
 have hX : num B r < num B p * B ^ (xs.length + 1 - (k + 2)) := by
  rw [vr, vp]
  have h1 : num B xs * 2 ^ s < B ^ xs.length * 2 ^ s := Nat.mul_lt_mul_of_pos_right (num_lt B1 lx) ps
  have h2 : B ^ xs.length * 2 ^ s ≤ B ^ xs.length * 9223372036854775808 := Nat.mul_le_mul_left _ (show 2 ^ s ≤ 2 ^ 63 from Nat.pow_le_pow_right (by decide) hs')
  have h3 := Nat.mul_le_mul_right (B ^ (xs.length + 1 - (k + 2))) lo
  rw [Nat.mul_right_comm, ← Nat.pow_add, show k + 1 + (xs.length + 1 - (k + 2)) = xs.length from by omega] at h3
  omega
 have key := kqy (s := s) (X := num B xs * 2 ^ s) (m := xs.length + 1 - (k + 2)) (k := k) (d := digs B (num B p)) hs' ld (kbe B2 _) (kb4 B2 _) (by omega) (by omega) (xs.length + 1 - (k + 2)) r (List.replicate (xs.length + 1 - (k + 2)) 0) (Nat.le_refl _) (by rw [lr]; omega) (by simp) tr (by simp [num, vr]) (by rw [ki B2]; exact hX)
 rw [ki B2, vp, Nat.mul_div_mul_right _ _ ps, Nat.mul_mod_mul_right, Nat.mul_div_cancel _ ps] at key
 refine .next ?_ key
 show kjt _ _ = _
 unfold kjt
 have w1 : IntKind.wrap .i64 ((ys.length : Int) - 1) = ((k + 1 : Nat) : Int) := by rw [wrap64 (by omega) (by omega)]; omega
 have w2 : IntKind.wrap .u64 ((s : Nat) : Int) = (s : Int) := kb8 (by omega)
 have w3 : IntKind.wrap .i64 ((r.length : Int) - ((digs B (num B p)).length : Int)) = ((xs.length + 1 - (k + 2) : Nat) : Int) := by rw [lr, ld, wrap64 (by omega) (by omega)]; omega
 rw [w1, kb5 hky, Option.bind_some, ko (by omega), Option.bind_some, Int.toNat_natCast, hsd, w2, kn8 itr, Option.bind_some, kn8 itp, Option.bind_some, w3, kez (by omega), Option.bind_some, ← vp, List.length_replicate, wrap64 (by omega) (by omega)]
theorem kxc {h : AH} {s t : Sl} {xs ys : List Nat} (n : Nats h s xs) (m : Nats h t ys) (ty : Trim ys) (hy : 2 ≤ ys.length) (hxl : xs.length ≤ 64) (hle : ys.length ≤ xs.length) :
  ∃ (a b : Sl) (h' : AH), go (.fn F.kbz [s.v, t.v]) h = some (.tup [a.v, b.v], h') ∧ Nats h' a (digs B (num B xs / num B ys)) ∧ Nats h' b (digs B (num B xs % num B ys)) ∧ Grow h h' ∧ Own h a ∧ Own h b := by
 obtain ⟨_, h', e, a, b, rfl, k⟩ := k4i (kxq n.lt m.lt ty hy hxl hle) n m
 exact ⟨a, b, h', e, k⟩
end Go.Ab

/- squeezed -/
set_option linter.unusedVariables false
set_option linter.unusedSimpArgs false
set_option maxRecDepth 10000
namespace Go.Ab
open Go.Proofs Go.Num
theorem k5o {h : AH} {i : Nat} {a b : Sl} {xs ys : List Nat} (c : h.has i [a.v, b.v] T.kcb) (n : Nats h a xs) (m : Nats h b ys) : go (.fn F.kev [(⟨some (.new i 0), 2, .is 2⟩ : Sl).v]) h = some (.bool (rt xs && rt ys), h) := by
 have r : Rows h ⟨some (.new i 0), 2, .is 2⟩ [(a, xs), (b, ys)] := ⟨Cells.of_has c rfl, fun p hp => by
  simp at hp
  rcases hp with rfl | rfl
  ·exact n
  ·exact m, by simp⟩
 rw [kjn r]
 simp
theorem k50 {h : AH} {s : Sl} {xs : List Nat} (n : Nats h s xs) (d : Int) (c : 0 < d ∧ d < 18446744073709551616 ∧ xs.length ≤ 8796093022208) : ∃ (s' : Sl) (h' : AH), go (.fn F.keq [s.v, .int .u64 d]) h = some (.tup [s'.v, .int .u64 ((num B xs % d.toNat : Nat) : Int)], h') ∧ Nats h' s' (digs B (num B xs / d.toNat)) ∧ Grow h h' ∧ Own h s' := by
 obtain ⟨x, rfl⟩ : ∃ x : Nat, d = (x : Int) := ⟨d.toNat, by omega⟩
 rw [Int.toNat_natCast]
 exact ky1 n (show x < 18446744073709551616 by omega) (by omega) c.2.2
theorem Nats.of_has1 {h : AH} {i : Nat} {e : TypeId} {v : Int} {x : Nat} (b : h.has i [.int .u64 v] e) (z : u64P v = some x) : Nats h ⟨some (.new i 0), 1, .is 1⟩ [x] := by
 obtain ⟨rfl, hx⟩ := kmf z
 exact Nats.of_has (xs := [x]) b (by simpa using hx) (by simp)
theorem koy {h : AH} {s : Sl} {xs : List Nat} (n : Nats h s xs) : kbj Pg T.kf s.v h = some (xs.map u64, xs.length) := by
 have c := n.cells
 rw [← kig] at c
 rw [khm c, n.len]
theorem k6q {h h0 : AH} {i : Nat} {e : TypeId} {v : Int} {x : Nat} {s : Sl} {xs : List Nat} (b : h.has i [.int .u64 v] e) (z : u64P v = some x) (n : Nats h s xs) (g0 : Grow h0 h) (hi : h0.blks.size ≤ i) (hl : xs.length ≤ 1073741824) :
  ∃ (s' : Sl) (h' : AH), kx Pg (⟨some (.new i 0), 1, .is 1⟩ : Sl) (xs.map u64) xs.length T.kf 1 h = some (s'.v, h') ∧ Nats h' s' (x :: xs) ∧ Grow h h' ∧ Own h0 s' := by
 have n1 := Nats.of_has1 b z
 obtain ⟨rfl, hx⟩ := kmf z
 cases xs with
 | nil =>
  obtain ⟨s', e1, c, o⟩ := kpf (P := Pg) (elem := T.kf) (m := 1) (by omega) n1.cells
  exact ⟨s', h, e1, ⟨c, by simpa using hx, by simp⟩, Grow.refl h, o h0 fun r hr => by cases hr; exact ⟨_, _, rfl, hi⟩⟩
 | cons y ys =>
  refine ⟨_, _, ke5 (c := 1) rfl (by simp) (ki0 (by simp at hl ⊢; omega)) n1.cells, ⟨⟨rfl, by simp; omega, fun k w hw => ⟨_, rfl, ?_⟩⟩, ?_, ?_⟩, Grow.push _ _, fun r hr => ?_⟩
  ·have := AH.cell_push h ([u64 x] ++ (y :: ys).map u64) T.kf k
   rw [Ref.add_new, Nat.zero_add]
   rw [List.map_cons, List.map_nil]
   rw [this]
   simpa using hw
  ·intro w hw
   rcases List.mem_cons.1 hw with rfl | hw
   ·exact hx
   ·exact n.lt w hw
  ·have := n.short
   simp at hl ⊢
   omega
  ·cases hr
   exact ⟨_, _, rfl, g0.size⟩
end Go.Ab

/- squeezed -/
set_option linter.unusedVariables false
set_option linter.unusedSimpArgs false
set_option maxRecDepth 10000
namespace Go.Ab
open Go.Proofs Go.Num
inductive kgw
 | fn (x1 : List Nat) (x2 : List Nat)
 | no
abbrev kfv := List Nat × List Nat × Int
noncomputable def kjc (x1 : List Nat) (x2 : List Nat) : Option (kgw ⊕ kfv) :=
 cond (!((rt x1 && rt x2))) (some (.inr ([], [], 1))) (cond (decide ((List.length x2 : Int) = 0)) (some (.inr ([], [], 3))) ((need (Trim x1)).bind fun c7_0 => (need (Trim x2)).bind fun c7_1 => cond (decide ((cmp (num B x1) (num B x2)) < 0)) ((need (List.length x1 ≤ 8796093022208)).bind fun c9_0 => some (.inr ([], x1, 0))) (cond (decide ((List.length x2 : Int) = 1)) ((atI x2 0).bind fun y10 => (need (0 < ((y10 : Int)) ∧ ((y10 : Int)) < 18446744073709551616 ∧ List.length x1 ≤ 8796093022208)).bind fun c11_0 => (u64P (((num B x1 % Int.toNat ((y10 : Int)) : Nat) : Int))).bind fun p12 => some (.inr (digs B (num B x1 / Int.toNat ((y10 : Int))), digs B p12, 0))) ((need (Trim x2)).bind fun c10_0 => (need (2 ≤ List.length x2)).bind fun c10_1 => (need (List.length x1 ≤ 64)).bind fun c10_2 => (need (List.length x2 ≤ List.length x1)).bind fun c10_3 => some (.inr (digs B (num B x1 / num B x2), digs B (num B x1 % num B x2), 0))))))
noncomputable def kro : kgw → Option (kgw ⊕ kfv)
 | .fn x1 x2 => kjc x1 x2
 | .no => none
@[reducible] def k4c (h0 : AH) (r : kfv) (v : AV) (h' : AH) : Prop := ∃ s1 : Sl, ∃ s2 : Sl, v = .tup [s1.v, s2.v, .int .i64 r.2.2] ∧ Nats h' s1 r.1 ∧ Nats h' s2 r.2.1 ∧ Grow h0 h' ∧ Own h0 s1 ∧ Own h0 s2
def kok (r : kfv) : kgw → Prop
 | .fn x1 x2 => ∀ {h : AH} {a1 : Sl} {a2 : Sl}, Nats h a1 x1 → Nats h a2 x2 → Runs (go (.fn F.khv [a1.v, a2.v]) h) (k4c h r)
 | .no => True
theorem kzp {r : kfv} {o : kgw ⊕ kfv} {x1 : List Nat} {x2 : List Nat} (e : kjc x1 x2 = some o) (good : GoodS (kok r) r o) : kok r (.fn x1 x2) := by
 intro h a1 a2 n1 n2
 rw [kxa]
 unfold kjc at e
 rw [n2.len]
 refine Runs.new fun H3 b3 g3 => ?_
 refine Runs.step (k5o b3 (n1.grow g3) (n2.grow g3)) ?_
 refine Runs.step (seen rfl) ?_
 refine Runs.cond (fun k5 => ?_) (fun k5 => ?_)
 ·replace e := (condT k5).symm.trans e
  cases e
  cases good
  exact Runs.ret ⟨(⟨none, 0, .is 0⟩ : Sl), (⟨none, 0, .is 0⟩ : Sl), rfl, (Nats.nil _), (Nats.nil _), g3, (Own.nil _), (Own.nil _)⟩
 ·replace e := (condF k5).symm.trans e
  refine Runs.cond (fun k6 => ?_) (fun k6 => ?_)
  ·replace e := (condT k6).symm.trans e
   cases e
   cases good
   exact Runs.ret ⟨(⟨none, 0, .is 0⟩ : Sl), (⟨none, 0, .is 0⟩ : Sl), rfl, (Nats.nil _), (Nats.nil _), g3, (Own.nil _), (Own.nil _)⟩
  ·replace e := (condF k6).symm.trans e
   obtain ⟨c7_0, q7_0, e⟩ := Option.bind_eq_some_iff.1 e
   obtain ⟨c7_1, q7_1, e⟩ := Option.bind_eq_some_iff.1 e
   refine Runs.step (kmc (n1.grow g3) (n2.grow g3)  c7_0.down c7_1.down) ?_
   refine Runs.step (seen (kb _ _)) ?_
   refine Runs.cond (fun k8 => ?_) (fun k8 => ?_)
   ·replace e := (condT k8).symm.trans e
    obtain ⟨c9_0, q9_0, e⟩ := Option.bind_eq_some_iff.1 e
    obtain ⟨s9, H9, e9, n9, g9, o9⟩ := ki2 (n1.grow g3)  c9_0.down
    refine Runs.step e9 ?_
    refine Runs.step (seen (asSl_v _)) ?_
    cases e
    cases good
    exact Runs.ret ⟨(⟨none, 0, .is 0⟩ : Sl), s9, rfl, (Nats.nil _), n9, (g3.trans g9), (Own.nil _), (o9.of_le g3)⟩
   ·replace e := (condF k8).symm.trans e
    refine Runs.cond (fun k9 => ?_) (fun k9 => ?_)
    ·replace e := (condT k9).symm.trans e
     obtain ⟨y10, q10, e⟩ := Option.bind_eq_some_iff.1 e
     obtain ⟨r10, j10, l10⟩ := (n2.grow g3).atI q10
     refine Runs.step j10 ?_
     refine Runs.step (rdc l10 (kb _ _)) ?_
     obtain ⟨c11_0, q11_0, e⟩ := Option.bind_eq_some_iff.1 e
     obtain ⟨s11, H11, e11, n11, g11, o11⟩ := k50 (n1.grow g3) ((y10 : Int))  c11_0.down
     refine Runs.step e11 ?_
     refine Runs.step rfl ?_
     refine Runs.step (seen (asSl_v _)) ?_
     refine Runs.step (seen (kb _ _)) ?_
     obtain ⟨p12, q12, e⟩ := Option.bind_eq_some_iff.1 e
     obtain ⟨s12, H12, e12, n12, g12, o12⟩ := kph q12
     refine Runs.step e12 ?_
     refine Runs.step (seen (asSl_v _)) ?_
     cases e
     cases good
     exact Runs.ret ⟨s11, s12, rfl, (n11.grow g12), n12, ((g3.trans g11).trans g12), (o11.of_le g3), (o12.of_le (g3.trans g11))⟩
    ·replace e := (condF k9).symm.trans e
     obtain ⟨c10_0, q10_0, e⟩ := Option.bind_eq_some_iff.1 e
     obtain ⟨c10_1, q10_1, e⟩ := Option.bind_eq_some_iff.1 e
     obtain ⟨c10_2, q10_2, e⟩ := Option.bind_eq_some_iff.1 e
     obtain ⟨c10_3, q10_3, e⟩ := Option.bind_eq_some_iff.1 e
     obtain ⟨s10, s10b, H10, e10, n10, n10b, g10, o10, o10b⟩ := kxc (n1.grow g3) (n2.grow g3)  c10_0.down c10_1.down c10_2.down c10_3.down
     refine Runs.step e10 ?_
     refine Runs.step rfl ?_
     refine Runs.step (seen (asSl_v _)) ?_
     refine Runs.step (seen (asSl_v _)) ?_
     cases e
     cases good
     exact Runs.ret ⟨s10, s10b, rfl, n10, n10b, (g3.trans g10), (o10.of_le g3), (o10b.of_le g3)⟩
theorem kyy {s : kgw} {r : kfv} (it : Iter kro s r) : kok r s := Iter.ind (fun s o e good => by
 cases s with
 | fn x1 x2 => exact @kzp _ _ x1 x2 e good
 | no => exact True.intro
 ) it
inductive kdg
 | fn (x1 : List Nat) (x2 : List Nat)
 | p4 (x1 : List Nat) (x2 : List Nat) (x3 : List Nat) (x4 : List Nat) (a5 : Int)
 | p9 (x1 : List Nat) (x2 : List Nat) (x3 : List Nat) (x4 : List Nat) (a5 : Int) (a6 : Int) (a7 : Int)
abbrev kce := List Nat × List Nat
noncomputable def kis (x1 : List Nat) (x2 : List Nat) : Option (kdg ⊕ kce) :=
 (mkI (List.length x1 : Int) (List.length x1 : Int)).bind fun m3 => some (.inl (.p4 x1 x2 (List.replicate m3 0) [] (IntKind.wrap .i64 ((List.length x1 : Int) - 1))))
noncomputable def kgn (x1 : List Nat) (x2 : List Nat) (x3 : List Nat) (x4 : List Nat) (a5 : Int) : Option (kdg ⊕ kce) :=
 cond (decide (a5 ≥ 0)) ((atI x1 a5).bind fun y7 => (u64P ((y7 : Int))).bind fun w10 => (need (List.length x4 ≤ 1073741824)).bind fun c9 => (need (∀ x ∈ (w10 :: x4), x < D)).bind fun c11_0 => some (.inl (.p9 x1 x2 x3 (digs D (num D (w10 :: x4))) a5 0 65535))) ((need (∀ x ∈ x3, x < D)).bind fun c7_0 => some (.inr (digs D (num D x3), x4)))
noncomputable def kga (x1 : List Nat) (x2 : List Nat) (x3 : List Nat) (x4 : List Nat) (a5 : Int) (a6 : Int) (a7 : Int) : Option (kdg ⊕ kce) :=
 cond (decide (a6 < a7)) ((u64P (IntKind.wrap .u64 (Int.tdiv (IntKind.wrap .u64 ((IntKind.wrap .u64 (a6 + a7)) + 1)) 2))).bind fun w10 => (need (∀ x ∈ x2, x < D)).bind fun c11_0 => (need (∀ x ∈ [w10], x < D)).bind fun c11_1 => (need (List.length x2 + List.length [w10] ≤ 8796093022208)).bind fun c11_2 => (need (∀ x ∈ (digs D (num D x2 * num D [w10])), x < D)).bind fun c12_0 => (need (∀ x ∈ x4, x < D)).bind fun c12_1 => (need (Trim (digs D (num D x2 * num D [w10])))).bind fun c12_2 => (need (Trim x4)).bind fun c12_3 => cond (decide ((cmp (num D (digs D (num D x2 * num D [w10]))) (num D x4)) ≤ 0)) (some (.inl (.p9 x1 x2 x3 x4 a5 (IntKind.wrap .u64 (Int.tdiv (IntKind.wrap .u64 ((IntKind.wrap .u64 (a6 + a7)) + 1)) 2)) a7))) (some (.inl (.p9 x1 x2 x3 x4 a5 a6 (IntKind.wrap .u64 ((IntKind.wrap .u64 (Int.tdiv (IntKind.wrap .u64 ((IntKind.wrap .u64 (a6 + a7)) + 1)) 2)) - 1)))))) ((inI (List.length x3) a5).bind fun j9 => (u64P a6).bind fun w10 => (u64P a6).bind fun w12 => (need (∀ x ∈ x2, x < D)).bind fun c13_0 => (need (∀ x ∈ [w12], x < D)).bind fun c13_1 => (need (List.length x2 + List.length [w12] ≤ 8796093022208)).bind fun c13_2 => (need (∀ x ∈ x4, x < D)).bind fun c14_0 => (need (∀ x ∈ (digs D (num D x2 * num D [w12])), x < D)).bind fun c14_1 => (need (List.length x4 ≤ 1073741824)).bind fun c14_2 => (need (List.length (digs D (num D x2 * num D [w12])) ≤ List.length x4)).bind fun c14_3 => (need (num D (digs D (num D x2 * num D [w12])) ≤ num D x4)).bind fun c14_4 => some (.inl (.p4 x1 x2 (List.set x3 j9 w10) (digs D (num D x4 - num D (digs D (num D x2 * num D [w12])))) (IntKind.wrap .i64 (a5 - 1)))))
noncomputable def kh2 : kdg → Option (kdg ⊕ kce)
 | .fn x1 x2 => kis x1 x2
 | .p4 x1 x2 x3 x4 a5 => kgn x1 x2 x3 x4 a5
 | .p9 x1 x2 x3 x4 a5 a6 a7 => kga x1 x2 x3 x4 a5 a6 a7
@[reducible] def kpe (h0 : AH) (r : kce) (v : AV) (h' : AH) : Prop := ∃ s1 : Sl, ∃ s2 : Sl, v = .tup [s1.v, s2.v] ∧ Nats h' s1 r.1 ∧ Nats h' s2 r.2 ∧ Grow h0 h' ∧ Own h0 s1 ∧ Own h0 s2
def kfm (r : kce) : kdg → Prop
 | .fn x1 x2 => ∀ {h : AH} {a1 : Sl} {a2 : Sl}, Nats h a1 x1 → Nats h a2 x2 → Runs (go (.fn F.kct [a1.v, a2.v]) h) (kpe h r)
 | .p4 x1 x2 x3 x4 a5 => ∀ {h0 h : AH} {a1 : Sl} {a2 : Sl} {a3 : Sl} {a4 : Sl} {i3 : Nat}, Grow h0 h → Nats h a1 x1 → Nats h a2 x2 → Vec h a3 i3 x3 → Nats h a4 x4 → h0.blks.size ≤ i3 → Av a1 i3 x1 → Av a2 i3 x2 → Av a4 i3 x4 → Own h0 a4 → Runs (go (.pt F.kct Td.kkt [(0, a1.v), (1, a2.v), (6, a3.v), (7, a4.v), (8, .int .i64 a5)]) h) (kpe h0 r)
 | .p9 x1 x2 x3 x4 a5 a6 a7 => ∀ {h0 h : AH} {a1 : Sl} {a2 : Sl} {a3 : Sl} {a4 : Sl} {i3 : Nat}, Grow h0 h → Nats h a1 x1 → Nats h a2 x2 → Vec h a3 i3 x3 → Nats h a4 x4 → h0.blks.size ≤ i3 → Av a1 i3 x1 → Av a2 i3 x2 → Av a4 i3 x4 → Own h0 a4 → Runs (go (.pt F.kct Td.kii [(0, a1.v), (1, a2.v), (6, a3.v), (7, a4.v), (8, .int .i64 a5), (9, .int .u64 a6), (10, .int .u64 a7)]) h) (kpe h0 r)
theorem k6z {r : kce} {o : kdg ⊕ kce} {x1 : List Nat} {x2 : List Nat} (e : kis x1 x2 = some o) (good : GoodS (kfm r) r o) : kfm r (.fn x1 x2) := by
 intro h a1 a2 n1 n2
 rw [k5t]
 unfold kis at e
 rw [n1.len]
 obtain ⟨m3, q3, e⟩ := Option.bind_eq_some_iff.1 e
 refine Runs.mk q3 kdm fun s3 H3 v3 g3 => ?_
 cases e
 exact good g3 (n1.grow g3) (n2.grow g3) v3 (Nats.nil _) (Nat.le_refl _) (Av.of_base n1 (Nat.le_refl _)) (Av.of_base n2 (Nat.le_refl _)) (Av.nil _ _) (Own.nil _)
theorem k64 {r : kce} {o : kdg ⊕ kce} {x1 : List Nat} {x2 : List Nat} {x3 : List Nat} {x4 : List Nat} {a5 : Int} (e : kgn x1 x2 x3 x4 a5 = some o) (good : GoodS (kfm r) r o) : kfm r (.p4 x1 x2 x3 x4 a5) := by
 intro h0 h a1 a2 a3 a4 i3 g0 n1 n2 v3 n4 hi3 av1_3 av2_3 av4_3 ow4
 rw [k63]
 unfold kgn at e
 rw [n1.len]
 refine Runs.cond (fun k6 => ?_) (fun k6 => ?_)
 ·replace e := (condT k6).symm.trans e
  obtain ⟨y7, q7, e⟩ := Option.bind_eq_some_iff.1 e
  obtain ⟨r7, j7, l7⟩ := n1.atI q7
  refine Runs.step j7 ?_
  refine Runs.step (rdc l7 (kb _ _)) ?_
  refine Runs.new fun H8 b8 g8 => ?_
  refine Runs.step (koy (n4.grow g8)) ?_
  obtain ⟨w10, z10, e⟩ := Option.bind_eq_some_iff.1 e
  obtain ⟨c9, q9, e⟩ := Option.bind_eq_some_iff.1 e
  obtain ⟨s9, H9, e9, n9, g9, o9⟩ := k6q b8 z10 (n4.grow g8) g8 (Nat.le_refl _) c9.down
  refine Runs.step e9 ?_
  refine Runs.step (asSl_v _) ?_
  obtain ⟨c11_0, q11_0, e⟩ := Option.bind_eq_some_iff.1 e
  obtain ⟨s11, e11, n11, o11⟩ := kha n9  c11_0.down
  refine Runs.step e11 ?_
  refine Runs.step (seen (asSl_v _)) ?_
  cases e
  exact good ((g0.trans g8).trans g9) (n1.grow (g8.trans g9)) (n2.grow (g8.trans g9)) (v3.grow (g8.trans g9)) n11 hi3 av1_3 av2_3 (Av.of_own (o11 _ o9) (v3).inn) ((o11 _ o9).of_le g0)
 ·replace e := (condF k6).symm.trans e
  obtain ⟨c7_0, q7_0, e⟩ := Option.bind_eq_some_iff.1 e
  obtain ⟨s7, e7, n7, o7⟩ := kha v3.nats  c7_0.down
  refine Runs.step e7 ?_
  refine Runs.step (seen (asSl_v _)) ?_
  cases e
  cases good
  exact Runs.ret ⟨s7, a4, rfl, n7, n4, g0, ((o7 _ (v3.own hi3)).of_le (Grow.refl _)), (ow4.of_le (Grow.refl _))⟩
theorem k2t {r : kce} {o : kdg ⊕ kce} {x1 : List Nat} {x2 : List Nat} {x3 : List Nat} {x4 : List Nat} {a5 : Int} {a6 : Int} {a7 : Int} (e : kga x1 x2 x3 x4 a5 a6 a7 = some o) (good : GoodS (kfm r) r o) : kfm r (.p9 x1 x2 x3 x4 a5 a6 a7) := by
 intro h0 h a1 a2 a3 a4 i3 g0 n1 n2 v3 n4 hi3 av1_3 av2_3 av4_3 ow4
 rw [kv7]
 unfold kga at e
 rw [v3.nats.len]
 refine Runs.cond (fun k8 => ?_) (fun k8 => ?_)
 ·replace e := (condT k8).symm.trans e
  refine Runs.new fun H9 b9 g9 => ?_
  obtain ⟨w10, z10, e⟩ := Option.bind_eq_some_iff.1 e
  obtain ⟨c11_0, q11_0, e⟩ := Option.bind_eq_some_iff.1 e
  obtain ⟨c11_1, q11_1, e⟩ := Option.bind_eq_some_iff.1 e
  obtain ⟨c11_2, q11_2, e⟩ := Option.bind_eq_some_iff.1 e
  obtain ⟨s11, H11, e11, n11, g11, o11⟩ := kpk (n2.grow g9) (Nats.of_has1 b9 z10)  c11_0.down c11_1.down c11_2.down
  refine Runs.step e11 ?_
  refine Runs.step (seen (asSl_v _)) ?_
  obtain ⟨c12_0, q12_0, e⟩ := Option.bind_eq_some_iff.1 e
  obtain ⟨c12_1, q12_1, e⟩ := Option.bind_eq_some_iff.1 e
  obtain ⟨c12_2, q12_2, e⟩ := Option.bind_eq_some_iff.1 e
  obtain ⟨c12_3, q12_3, e⟩ := Option.bind_eq_some_iff.1 e
  refine Runs.step (ko1 n11 (n4.grow (g9.trans g11))  c12_0.down c12_1.down c12_2.down c12_3.down) ?_
  refine Runs.step (seen (kb _ _)) ?_
  refine Runs.cond (fun k13 => ?_) (fun k13 => ?_)
  ·replace e := (condT k13).symm.trans e
   cases e
   exact good ((g0.trans g9).trans g11) (n1.grow (g9.trans g11)) (n2.grow (g9.trans g11)) (v3.grow (g9.trans g11)) (n4.grow (g9.trans g11)) hi3 av1_3 av2_3 av4_3 (ow4.of_le (Grow.refl _))
  ·replace e := (condF k13).symm.trans e
   cases e
   exact good ((g0.trans g9).trans g11) (n1.grow (g9.trans g11)) (n2.grow (g9.trans g11)) (v3.grow (g9.trans g11)) (n4.grow (g9.trans g11)) hi3 av1_3 av2_3 av4_3 (ow4.of_le (Grow.refl _))
 ·replace e := (condF k8).symm.trans e
  obtain ⟨j9, q9, e⟩ := Option.bind_eq_some_iff.1 e
  refine Runs.step (v3.idx rfl q9) ?_
  obtain ⟨w10, z10, e⟩ := Option.bind_eq_some_iff.1 e
  refine Runs.vput v3 rfl q9 z10 fun H10 v10 u10 => ?_
  have n1_10 := n1.upda av1_3 u10
  have n2_10 := n2.upda av2_3 u10
  have n4_10 := n4.upda av4_3 u10
  refine Runs.new fun H11 b11 g11 => ?_
  obtain ⟨w12, z12, e⟩ := Option.bind_eq_some_iff.1 e
  obtain ⟨c13_0, q13_0, e⟩ := Option.bind_eq_some_iff.1 e
  obtain ⟨c13_1, q13_1, e⟩ := Option.bind_eq_some_iff.1 e
  obtain ⟨c13_2, q13_2, e⟩ := Option.bind_eq_some_iff.1 e
  obtain ⟨s13, H13, e13, n13, g13, o13⟩ := kpk (n2_10.grow g11) (Nats.of_has1 b11 z12)  c13_0.down c13_1.down c13_2.down
  refine Runs.step e13 ?_
  refine Runs.step (seen (asSl_v _)) ?_
  obtain ⟨c14_0, q14_0, e⟩ := Option.bind_eq_some_iff.1 e
  obtain ⟨c14_1, q14_1, e⟩ := Option.bind_eq_some_iff.1 e
  obtain ⟨c14_2, q14_2, e⟩ := Option.bind_eq_some_iff.1 e
  obtain ⟨c14_3, q14_3, e⟩ := Option.bind_eq_some_iff.1 e
  obtain ⟨c14_4, q14_4, e⟩ := Option.bind_eq_some_iff.1 e
  obtain ⟨s14, H14, e14, n14, g14, o14⟩ := kty (n4_10.grow (g11.trans g13)) n13  c14_0.down c14_1.down c14_2.down c14_3.down c14_4.down
  refine Runs.step e14 ?_
  refine Runs.step (seen (asSl_v _)) ?_
  cases e
  exact good ((((g0.updr hi3 u10).trans g11).trans g13).trans g14) (n1_10.grow ((g11.trans g13).trans g14)) (n2_10.grow ((g11.trans g13).trans g14)) (v10.grow ((g11.trans g13).trans g14)) n14 hi3 av1_3 av2_3 (Av.of_own o14 ((v10.grow (g11.trans g13))).inn) (o14.of_le (((g0.updr hi3 u10).trans g11).trans g13))
theorem kzw {s : kdg} {r : kce} (it : Iter kh2 s r) : kfm r s := Iter.ind (fun s o e good => by
 cases s with
 | fn x1 x2 => exact @k6z _ _ x1 x2 e good
 | p4 x1 x2 x3 x4 a5 => exact @k64 _ _ x1 x2 x3 x4 a5 e good
 | p9 x1 x2 x3 x4 a5 a6 a7 => exact @k2t _ _ x1 x2 x3 x4 a5 a6 a7 e good
 ) it
end Go.Ab

/- squeezed -/
set_option linter.unusedVariables false
set_option linter.unusedSimpArgs false
set_option maxRecDepth 10000
namespace Go.Ab
open Go.Proofs Go.Num
def divN (xs ys : List Nat) : List Nat × List Nat × Int :=
 if rt xs = true ∧ rt ys = true then (if ys = [] then ([], [], 3) else (digs B (num B xs / num B ys), digs B (num B xs % num B ys), 0)) else ([], [], 1)
theorem ko0 {b : Nat} (hb : 1 ≤ b) {xs : List Nat} (t : Trim xs) (h : xs ≠ []) : 0 < num b xs := by
 rcases Nat.eq_zero_or_pos (num b xs) with e | e
 ·exact absurd (klj hb t e) h
 ·exact e
theorem cmp_lt {a b : Nat} : cmp a b < 0 ↔ a < b := by
 unfold cmp
 by_cases h : a < b
 ·rw [if_pos h]; omega
 ·rw [if_neg h]
  by_cases h2 : a = b
  ·rw [if_pos h2]; omega
  ·rw [if_neg h2]; omega
theorem cmp_le {a b : Nat} : cmp a b ≤ 0 ↔ a ≤ b := by
 unfold cmp
 by_cases h : a < b
 ·rw [if_pos h]; omega
 ·rw [if_neg h]
  by_cases h2 : a = b
  ·rw [if_pos h2]; omega
  ·rw [if_neg h2]; omega
theorem kve {xs ys : List Nat} (lx : ∀ x ∈ xs, x < B) (ly : ∀ x ∈ ys, x < B) : Iter kro (.fn xs ys) (divN xs ys) := by
 refine .done ?_
 show kjc _ _ = _
 unfold kjc divN
 cases hx : rt xs with
 | false => simp
 | true =>
  cases hy : rt ys with
  | false => simp
  | true =>
   obtain ⟨lx64, tx⟩ := rt_iff.1 hx
   obtain ⟨ly64, ty⟩ := rt_iff.1 hy
   simp only [Bool.and_self, Bool.not_true, cond_false, and_self, if_true]
   by_cases h0 : ys = []
   ·subst h0
    rfl
   ·have hl : ys.length ≠ 0 := by simpa using h0
    have hp := ko0 B1 ty h0
    rw [if_neg h0, condF (by rw [decide_eq_false_iff_not]; omega), ko tx, Option.bind_some, ko ty, Option.bind_some]
    by_cases hc : num B xs < num B ys
    ·rw [condT (by rw [decide_eq_true_eq, cmp_lt]; exact hc), ko (by omega), Option.bind_some, Nat.div_eq_of_lt hc, Nat.mod_eq_of_lt hc, kb2, kdr B2 lx tx]
    ·rw [condF (by rw [decide_eq_false_iff_not, cmp_lt]; exact hc)]
     by_cases h1 : ys.length = 1
     ·obtain ⟨y, rfl⟩ := List.length_eq_one_iff.1 h1
      have hy : y < 18446744073709551616 := ly y (by simp)
      have e : num B [y] = y := by simp [num]
      rw [e] at hp ⊢
      have hm := Nat.mod_lt (num B xs) hp
      have a0 := kb5 (xs := [y]) (i := 0) (by simp)
      rw [show ((0 : Nat) : Int) = 0 from rfl] at a0
      rw [condT (by rw [decide_eq_true_eq]; omega), a0, Option.bind_some]
      rw [List.getElem_cons_zero, ko ⟨by omega, by omega, by omega⟩, Option.bind_some, Int.toNat_natCast, kbn (by omega), Option.bind_some]
     ·have hle := ksd lx ly ty (Nat.le_of_not_lt hc)
      rw [condF (by rw [decide_eq_false_iff_not]; omega), Option.bind_some, ko (by omega), Option.bind_some, ko lx64, Option.bind_some, ko hle, Option.bind_some]
theorem kmy {h : AH} {s t : Sl} {xs ys : List Nat} (n : Nats h s xs) (m : Nats h t ys) : ∃ (a b : Sl) (h' : AH), go (.fn F.khv [s.v, t.v]) h = some (.tup [a.v, b.v, .int .i64 (divN xs ys).2.2], h') ∧ Nats h' a (divN xs ys).1 ∧ Nats h' b (divN xs ys).2.1 ∧ Grow h h' ∧ Own h a ∧ Own h b := by
 obtain ⟨_, h', e, a, b, rfl, k⟩ := kyy (kve n.lt m.lt) n m
 exact ⟨a, b, h', e, k⟩
theorem knd {a c : Nat} (h : a ≤ c) : (digs D a).length ≤ (digs D c).length := by
 rw [ky D2]
 exact Nat.lt_of_le_of_lt h ((ky D2 c _).1 (Nat.le_refl _))
theorem kye {xs ys q : List Nat} {R j : Nat} {res : kce} (ly : ∀ y ∈ ys, y < D) (hl : ys.length ≤ 536870912) (hy : 0 < num D ys) (hR : (digs D R).length ≤ 1073741824) (hj : j < q.length)
  (K : Iter kh2 (.p4 xs ys (q.set j (R / num D ys)) (digs D (R % num D ys)) (IntKind.wrap .i64 ((j : Int) - 1))) res) :
  ∀ (n low high : Nat), high - low = n → low ≤ R / num D ys → R / num D ys ≤ high → high < 65536 → Iter kh2 (.p9 xs ys q (digs D R) j low high) res := by
 intro n
 induction n using Nat.strongRecOn with
 | ind n ih =>
  intro low high hn h1 h2 h3
  have tR := kb4 D2 R
  have lR := kbe D2 R
  by_cases hc : low < high
  ·have hm : IntKind.wrap .u64 (Int.tdiv (IntKind.wrap .u64 ((IntKind.wrap .u64 ((low : Int) + (high : Int))) + 1)) 2) = (((low + high + 1) / 2 : Nat) : Int) := by
    rw [← Int.natCast_add, kb8 (by omega), show (((low + high : Nat) : Int) + 1) = ((low + high + 1 : Nat) : Int) from by omega, kb8 (by omega)]
    rw [show Int.tdiv ((low + high + 1 : Nat) : Int) 2 = (((low + high + 1) / 2 : Nat) : Int) from rfl, kb8 (by omega)]
   obtain ⟨mid, hmid⟩ : ∃ mid, mid = (low + high + 1) / 2 := ⟨_, rfl⟩
   have e1 : num D [mid] = mid := by simp [num]
   have lm : ∀ x ∈ [mid], x < D := by
    intro x hx
    rw [List.mem_singleton.1 hx]
    exact show mid < 65536 by omega
   have unf : ∀ o, cond (decide (num D ys * mid ≤ R)) (some (Sum.inl (β := kce) (kdg.p9 xs ys q (digs D R) j mid high))) (some (.inl (.p9 xs ys q (digs D R) j low (IntKind.wrap .u64 ((mid : Int) - 1))))) = o → kh2 (.p9 xs ys q (digs D R) j low high) = o := by
    intro o ho
    show kga _ _ _ _ _ _ _ = _
    unfold kga
    rw [condT (by rw [decide_eq_true_eq]; omega), hm, ← hmid, kbn (by omega), Option.bind_some, ko ly, Option.bind_some, ko lm, Option.bind_some, ko (by simp; omega), Option.bind_some, ko (kbe D2 _), Option.bind_some, ko lR, Option.bind_some, ko (kb4 D2 _), Option.bind_some, ko tR, Option.bind_some, ki D2, ki D2, e1]
    rw [← ho]
    congr 1
    rw [decide_eq_decide]
    exact cmp_le
   by_cases hle : num D ys * mid ≤ R
   ·have hq : mid ≤ R / num D ys := by rw [Nat.le_div_iff_mul_le hy, Nat.mul_comm]; exact hle
    refine .next (unf _ ?_) (ih (high - mid) (by omega) mid high rfl hq h2 h3)
    rw [condT (by rw [decide_eq_true_eq]; exact hle)]
   ·have hq : R / num D ys < mid := by rw [Nat.div_lt_iff_lt_mul hy, Nat.mul_comm]; omega
    refine .next (unf _ ?_) (ih (mid - 1 - low) (by omega) low (mid - 1) rfl h1 (by omega) (by omega))
    rw [condF (by rw [decide_eq_false_iff_not]; exact hle), show IntKind.wrap .u64 ((mid : Int) - 1) = ((mid - 1 : Nat) : Int) from by rw [wrapU]; omega]
  ·have hq : R / num D ys = low := by omega
   rw [hq] at K
   have e1 : num D [low] = low := by simp [num]
   have lm : ∀ x ∈ [low], x < D := by
    intro x hx
    rw [List.mem_singleton.1 hx]
    exact show low < 65536 by omega
   have hml : num D ys * low ≤ R := by rw [← hq]; exact Nat.mul_div_le R _
   have hmod : R - num D ys * low = R % num D ys := by
    have := Nat.div_add_mod R (num D ys)
    rw [hq] at this
    omega
   refine .next ?_ K
   show kga _ _ _ _ _ _ _ = _
   unfold kga
   rw [condF (by rw [decide_eq_false_iff_not]; omega), kbw hj, Option.bind_some, kbn (by omega), Option.bind_some, Option.bind_some, ko ly, Option.bind_some, ko lm, Option.bind_some, ko (by simp; omega), Option.bind_some, ko lR, Option.bind_some, ko (kbe D2 _), Option.bind_some, ko hR, Option.bind_some, e1, ki D2, ki D2, ko (knd hml), Option.bind_some, ko hml, Option.bind_some, hmod]
theorem kqg {xs ys : List Nat} (lx : ∀ x ∈ xs, x < D) (ly : ∀ y ∈ ys, y < D) (hl : ys.length ≤ 536870912) (hxl : xs.length ≤ 536870912) (hy : 0 < num D ys) :
  ∀ (i : Nat) (q : List Nat) (r : Nat), i ≤ xs.length → q.length = xs.length → (∀ x ∈ q, x < D) → r < num D ys → num D (xs.drop i) = num D ys * num D (q.drop i) + r →
   Iter kh2 (.p4 xs ys q (digs D r) ((i : Int) - 1)) (digs D (num D xs / num D ys), digs D (num D xs % num D ys))
 | 0, q, r, hi, lq, tq, hr, e => by
  rw [List.drop_zero, List.drop_zero] at e
  refine .done ?_
  show kgn _ _ _ _ _ = _
  unfold kgn
  rw [condF (by rw [decide_eq_false_iff_not]; omega), ko tq, Option.bind_some, e, Nat.mul_add_div hy, Nat.div_eq_of_lt hr, Nat.add_zero, Nat.mul_add_mod, Nat.mod_eq_of_lt hr]
 | j + 1, q, r, hi, lq, tq, hr, e => by
  have hj : j < xs.length := by omega
  have hjq : j < q.length := by omega
  have hx : xs[j] < 65536 := lx _ (List.getElem_mem _)
  have hR : (xs[j] + D * r) / num D ys < D := by
   rw [Nat.div_lt_iff_lt_mul hy]
   have : D * (r + 1) ≤ D * num D ys := Nat.mul_le_mul_left _ hr
   rw [Nat.mul_add, Nat.mul_one] at this
   have h2 : xs[j] < D := hx
   omega
  have lr : (digs D r).length ≤ ys.length := by
   rw [ky D2]
   exact Nat.lt_trans hr (num_lt (by decide) ly)
  have lR : (digs D (xs[j] + D * r)).length ≤ 1073741824 := by
   have : (digs D (xs[j] + D * r)).length ≤ ys.length + 1 := by
    rw [ky D2, Nat.pow_succ]
    have h1 : D * (r + 1) ≤ D * D ^ ys.length := Nat.mul_le_mul_left _ (Nat.lt_trans hr (num_lt (by decide) ly))
    rw [Nat.mul_add, Nat.mul_one, Nat.mul_comm D (D ^ ys.length)] at h1
    have h2 : xs[j] < D := hx
    omega
   omega
  have lcons : ∀ x ∈ xs[j] :: digs D r, x < D := by
   intro x hx'
   rcases List.mem_cons.1 hx' with rfl | h
   ·exact hx
   ·exact kbe D2 r x h
  have hmod := Nat.mod_lt (xs[j] + D * r) hy
  have IH := kqg lx ly hl hxl hy j (q.set j ((xs[j] + D * r) / num D ys)) ((xs[j] + D * r) % num D ys) (by omega) (by simpa using lq) (set_lt tq hR) hmod (by
   rw [kmw hjq, List.drop_eq_getElem_cons hj]
   simp only [num]
   have dm := Nat.div_add_mod (xs[j] + D * r) (num D ys)
   rw [e, Nat.mul_add D, Nat.mul_add (num D ys), Nat.mul_left_comm D]
   omega)
  refine .next (s' := .p9 xs ys q (digs D (xs[j] + D * r)) (j : Int) ((0 : Nat) : Int) ((65535 : Nat) : Int)) ?_ (kye ly hl hy lR hjq (by rw [wrap64 (by omega) (by omega)]; exact IH) _ 0 65535 rfl (Nat.zero_le _) (by have : (xs[j] + D * r) / num D ys < 65536 := hR; omega) (by omega))
  show kgn _ _ _ _ _ = _
  unfold kgn
  rw [condT (by rw [decide_eq_true_eq]; omega), show ((j + 1 : Nat) : Int) - 1 = (j : Int) from by omega, kb5 hj, Option.bind_some, kbn (by omega), Option.bind_some, ko (by omega), Option.bind_some, ko lcons, Option.bind_some]
  simp only [num, ki D2]
  rfl
theorem kvx {xs ys : List Nat} (lx : ∀ x ∈ xs, x < D) (ly : ∀ y ∈ ys, y < D) (hl : ys.length ≤ 536870912) (hxl : xs.length ≤ 536870912) (hy : 0 < num D ys) : Iter kh2 (.fn xs ys) (digs D (num D xs / num D ys), digs D (num D xs % num D ys)) := by
 have key := kqg lx ly hl hxl hy xs.length (List.replicate xs.length 0) 0 (Nat.le_refl _) (by simp) (fun x hx => by rw [List.eq_of_mem_replicate hx]; decide) hy (by simp [num])
 rw [kb2] at key
 refine .next ?_ key
 show kis _ _ = _
 unfold kis
 rw [kez (by omega), Option.bind_some, wrap64 (by omega) (by omega)]
theorem k44 {h : AH} {s t : Sl} {xs ys : List Nat} (n : Nats h s xs) (m : Nats h t ys) (lx : ∀ x ∈ xs, x < D) (ly : ∀ y ∈ ys, y < D) (hxl : xs.length ≤ 536870912) (hl : ys.length ≤ 536870912) (hy : 0 < num D ys) :
  ∃ (a b : Sl) (h' : AH), go (.fn F.kct [s.v, t.v]) h = some (.tup [a.v, b.v], h') ∧ Nats h' a (digs D (num D xs / num D ys)) ∧ Nats h' b (digs D (num D xs % num D ys)) ∧ Grow h h' ∧ Own h a ∧ Own h b := by
 obtain ⟨_, h', e, a, b, rfl, k⟩ := kzw (kvx lx ly hl hxl hy) n m
 exact ⟨a, b, h', e, k⟩
end Go.Ab

/- squeezed -/
set_option linter.unusedVariables false
set_option linter.unusedSimpArgs false
set_option maxRecDepth 10000
namespace Go.Ab
open Go.Proofs Go.Num
inductive khh
 | fn (x1 : List Nat) (x2 : List Nat)
 | no
abbrev kf6 := List Nat × List Nat × Int
noncomputable def kjh (x1 : List Nat) (x2 : List Nat) : Option (khh ⊕ kf6) :=
 cond (!(rt x1)) (some (.inr ([], [], 1))) (cond (!(rt x2)) (some (.inr ([], [], 1))) (cond (decide ((List.length x2 : Int) = 0)) (some (.inr ([], [], 3))) ((need (List.length x1 ≤ 1073741824)).bind fun c8_0 => (need (List.length x2 ≤ 1073741824)).bind fun c9_0 => (need (∀ x ∈ (digs D (num B x1)), x < D)).bind fun c10_0 => (need (∀ x ∈ (digs D (num B x2)), x < D)).bind fun c10_1 => (need (List.length (digs D (num B x1)) ≤ 536870912)).bind fun c10_2 => (need (List.length (digs D (num B x2)) ≤ 536870912)).bind fun c10_3 => (need (0 < num D (digs D (num B x2)))).bind fun c10_4 => (need (∀ x ∈ (digs D (num D (digs D (num B x1)) / num D (digs D (num B x2)))), x < D)).bind fun c11_0 => (need (Trim (digs D (num D (digs D (num B x1)) / num D (digs D (num B x2)))))).bind fun c11_1 => (need (List.length (digs D (num D (digs D (num B x1)) / num D (digs D (num B x2)))) ≤ 536870912)).bind fun c11_2 => (need (∀ x ∈ (digs D (num D (digs D (num B x1)) % num D (digs D (num B x2)))), x < D)).bind fun c12_0 => (need (Trim (digs D (num D (digs D (num B x1)) % num D (digs D (num B x2)))))).bind fun c12_1 => (need (List.length (digs D (num D (digs D (num B x1)) % num D (digs D (num B x2)))) ≤ 536870912)).bind fun c12_2 => some (.inr (digs B (num D (digs D (num D (digs D (num B x1)) / num D (digs D (num B x2))))), digs B (num D (digs D (num D (digs D (num B x1)) % num D (digs D (num B x2))))), 0)))))
noncomputable def krh : khh → Option (khh ⊕ kf6)
 | .fn x1 x2 => kjh x1 x2
 | .no => none
@[reducible] def k0f (h0 : AH) (r : kf6) (v : AV) (h' : AH) : Prop := ∃ s1 : Sl, ∃ s2 : Sl, v = .tup [s1.v, s2.v, .int .i64 r.2.2] ∧ Nats h' s1 r.1 ∧ Nats h' s2 r.2.1 ∧ Grow h0 h' ∧ Own h0 s1 ∧ Own h0 s2
def koq (r : kf6) : khh → Prop
 | .fn x1 x2 => ∀ {h : AH} {a1 : Sl} {a2 : Sl}, Nats h a1 x1 → Nats h a2 x2 → Runs (go (.fn F.khz [a1.v, a2.v]) h) (k0f h r)
 | .no => True
theorem kw3 {r : kf6} {o : khh ⊕ kf6} {x1 : List Nat} {x2 : List Nat} (e : kjh x1 x2 = some o) (good : GoodS (koq r) r o) : koq r (.fn x1 x2) := by
 intro h a1 a2 n1 n2
 rw [k5f]
 unfold kjh at e
 rw [n2.len]
 refine Runs.step (kb7 n1) ?_
 refine Runs.step (seen rfl) ?_
 refine Runs.step (kb7 n2) ?_
 refine Runs.step (seen rfl) ?_
 refine Runs.cond (fun k5 => ?_) (fun k5 => ?_)
 ·replace e := (condT k5).symm.trans e
  cases e
  cases good
  exact Runs.ret ⟨(⟨none, 0, .is 0⟩ : Sl), (⟨none, 0, .is 0⟩ : Sl), rfl, (Nats.nil _), (Nats.nil _), (Grow.refl _), (Own.nil _), (Own.nil _)⟩
 ·replace e := (condF k5).symm.trans e
  refine Runs.cond (fun k6 => ?_) (fun k6 => ?_)
  ·replace e := (condT k6).symm.trans e
   cases e
   cases good
   exact Runs.ret ⟨(⟨none, 0, .is 0⟩ : Sl), (⟨none, 0, .is 0⟩ : Sl), rfl, (Nats.nil _), (Nats.nil _), (Grow.refl _), (Own.nil _), (Own.nil _)⟩
  ·replace e := (condF k6).symm.trans e
   refine Runs.cond (fun k7 => ?_) (fun k7 => ?_)
   ·replace e := (condT k7).symm.trans e
    cases e
    cases good
    exact Runs.ret ⟨(⟨none, 0, .is 0⟩ : Sl), (⟨none, 0, .is 0⟩ : Sl), rfl, (Nats.nil _), (Nats.nil _), (Grow.refl _), (Own.nil _), (Own.nil _)⟩
   ·replace e := (condF k7).symm.trans e
    obtain ⟨c8_0, q8_0, e⟩ := Option.bind_eq_some_iff.1 e
    obtain ⟨s8, H8, e8, n8, g8, o8⟩ := kds n1  c8_0.down
    refine Runs.step e8 ?_
    refine Runs.step (seen (asSl_v _)) ?_
    obtain ⟨c9_0, q9_0, e⟩ := Option.bind_eq_some_iff.1 e
    obtain ⟨s9, H9, e9, n9, g9, o9⟩ := kds (n2.grow g8)  c9_0.down
    refine Runs.step e9 ?_
    refine Runs.step (seen (asSl_v _)) ?_
    obtain ⟨c10_0, q10_0, e⟩ := Option.bind_eq_some_iff.1 e
    obtain ⟨c10_1, q10_1, e⟩ := Option.bind_eq_some_iff.1 e
    obtain ⟨c10_2, q10_2, e⟩ := Option.bind_eq_some_iff.1 e
    obtain ⟨c10_3, q10_3, e⟩ := Option.bind_eq_some_iff.1 e
    obtain ⟨c10_4, q10_4, e⟩ := Option.bind_eq_some_iff.1 e
    obtain ⟨s10, s10b, H10, e10, n10, n10b, g10, o10, o10b⟩ := k44 (n8.grow g9) n9  c10_0.down c10_1.down c10_2.down c10_3.down c10_4.down
    refine Runs.step e10 ?_
    refine Runs.step rfl ?_
    refine Runs.step (seen (asSl_v _)) ?_
    refine Runs.step (seen (asSl_v _)) ?_
    obtain ⟨c11_0, q11_0, e⟩ := Option.bind_eq_some_iff.1 e
    obtain ⟨c11_1, q11_1, e⟩ := Option.bind_eq_some_iff.1 e
    obtain ⟨c11_2, q11_2, e⟩ := Option.bind_eq_some_iff.1 e
    obtain ⟨s11, H11, e11, n11, g11, o11⟩ := kny n10  c11_0.down c11_1.down c11_2.down
    refine Runs.step e11 ?_
    refine Runs.step rfl ?_
    refine Runs.step (seen (asSl_v _)) ?_
    refine Runs.step (seen rfl) ?_
    obtain ⟨c12_0, q12_0, e⟩ := Option.bind_eq_some_iff.1 e
    obtain ⟨c12_1, q12_1, e⟩ := Option.bind_eq_some_iff.1 e
    obtain ⟨c12_2, q12_2, e⟩ := Option.bind_eq_some_iff.1 e
    obtain ⟨s12, H12, e12, n12, g12, o12⟩ := kny (n10b.grow g11)  c12_0.down c12_1.down c12_2.down
    refine Runs.step e12 ?_
    refine Runs.step rfl ?_
    refine Runs.step (seen (asSl_v _)) ?_
    refine Runs.step (seen rfl) ?_
    cases e
    cases good
    exact Runs.ret ⟨s11, s12, rfl, (n11.grow g12), n12, ((((g8.trans g9).trans g10).trans g11).trans g12), (o11.of_le ((g8.trans g9).trans g10)), (o12.of_le (((g8.trans g9).trans g10).trans g11))⟩
theorem k3t {s : khh} {r : kf6} (it : Iter krh s r) : koq r s := Iter.ind (fun s o e good => by
 cases s with
 | fn x1 x2 => exact @kw3 _ _ x1 x2 e good
 | no => exact True.intro
 ) it
end Go.Ab

/- squeezed -/
set_option linter.unusedVariables false
set_option linter.unusedSimpArgs false
set_option maxRecDepth 10000
namespace Go.Ab
open Go.Proofs Go.Num
theorem k4l {xs ys : List Nat} (lx : ∀ x ∈ xs, x < B) (ly : ∀ x ∈ ys, x < B) : Iter krh (.fn xs ys) (divN xs ys) := by
 refine .done ?_
 show kjh _ _ = _
 unfold kjh divN
 cases hx : rt xs with
 | false => simp
 | true =>
  cases hy : rt ys with
  | false => simp
  | true =>
   obtain ⟨lx64, tx⟩ := rt_iff.1 hx
   obtain ⟨ly64, ty⟩ := rt_iff.1 hy
   simp only [Bool.not_true, cond_false, and_self, if_true]
   by_cases h0 : ys = []
   ·subst h0
    rfl
   ·have hl : ys.length ≠ 0 := by simpa using h0
    have hp := ko0 B1 ty h0
    have k1 := kex lx lx64
    have k2 := kex ly ly64
    have k3 := knd (Nat.div_le_self (num B xs) (num B ys))
    have k4 := knd (Nat.mod_le (num B xs) (num B ys))
    rw [if_neg h0, condF (by rw [decide_eq_false_iff_not]; omega), ko (by omega), Option.bind_some, ko (by omega), Option.bind_some, ko (kbe D2 _), Option.bind_some, ko (kbe D2 _), Option.bind_some, ko (by omega), Option.bind_some, ko (by omega), Option.bind_some]
    rw [ko (by rw [ki D2]; exact hp), Option.bind_some, ko (kbe D2 _), Option.bind_some, ko (kb4 D2 _), Option.bind_some, ko (by simp only [ki D2]; omega), Option.bind_some, ko (kbe D2 _), Option.bind_some, ko (kb4 D2 _), Option.bind_some, ko (by simp only [ki D2]; omega), Option.bind_some]
    simp only [ki D2]
theorem kn2 {h : AH} {s t : Sl} {xs ys : List Nat} (n : Nats h s xs) (m : Nats h t ys) : ∃ (a b : Sl) (h' : AH), go (.fn F.khz [s.v, t.v]) h = some (.tup [a.v, b.v, .int .i64 (divN xs ys).2.2], h') ∧ Nats h' a (divN xs ys).1 ∧ Nats h' b (divN xs ys).2.1 ∧ Grow h h' ∧ Own h a ∧ Own h b := by
 obtain ⟨_, h', e, a, b, rfl, k⟩ := k3t (k4l n.lt m.lt) n m
 exact ⟨a, b, h', e, k⟩
theorem kyw {h : AH} {s t : Sl} {xs ys : List Nat} (n : Nats h s xs) (m : Nats h t ys) : ∃ (b : Sl) (h' : AH), go (.fn F.koc [s.v, t.v]) h = some (b.v, h') ∧ Nats h' b (divN xs ys).2.1 ∧ Grow h h' ∧ Own h b := by
 obtain ⟨a, b, h', e, na, nb, g, oa, ob⟩ := kn2 n m
 refine ⟨b, h', ?_, nb, g, ob⟩
 rw [kyq, e]
 simp only [Option.bind_some, k6i, asSl_v, kb]
theorem ksn {h h0 : AH} {i : Nat} {e : TypeId} {s : Sl} {xs : List Nat} (b : h.has i [] e) (n : Nats h s xs) (g0 : Grow h0 h) (hi : h0.blks.size ≤ i) (hl : xs.length ≤ 1073741824) :
  ∃ (s' : Sl) (h' : AH), kx Pg (⟨some (.new i 0), 0, .is 0⟩ : Sl) (xs.map u64) xs.length T.kf 1 h = some (s'.v, h') ∧ Nats h' s' xs ∧ Grow h h' ∧ Own h0 s' := by
 have n1 : Nats h ⟨some (.new i 0), 0, .is 0⟩ [] := ⟨Cells.of_has (n := 1) (m := 0) b rfl, by simp, by simp⟩
 cases xs with
 | nil =>
  obtain ⟨s', e1, c, o⟩ := kpf (P := Pg) (elem := T.kf) (m := 1) (by omega) n1.cells
  exact ⟨s', h, e1, ⟨c, by simp, by simp⟩, Grow.refl h, o h0 fun r hr => by cases hr; exact ⟨_, _, rfl, hi⟩⟩
 | cons y ys =>
  refine ⟨_, _, ke5 (c := 0) rfl (by simp) (ki0 (by simp at hl ⊢; omega)) n1.cells, ⟨⟨rfl, by simp, fun k w hw => ⟨_, rfl, ?_⟩⟩, n.lt, n.short⟩, Grow.push _ _, fun r hr => ?_⟩
  ·have := AH.cell_push h ([] ++ (y :: ys).map u64) T.kf k
   rw [Ref.add_new, Nat.zero_add]
   rw [List.map_nil, this]
   exact hw
  ·cases hr
   exact ⟨_, _, rfl, g0.size⟩
end Go.Ab

/- squeezed -/
set_option linter.unusedVariables false
set_option linter.unusedSimpArgs false
set_option maxRecDepth 10000
namespace Go.Ab
open Go.Proofs Go.Num
inductive ke0
 | fn (x1 : List Nat) (x2 : List Nat)
 | p4 (x1 : List Nat) (x2 : List Nat)
abbrev kdi := List Nat × Int
noncomputable def kd4 (x1 : List Nat) (x2 : List Nat) : Option (ke0 ⊕ kdi) :=
 cond (!(rt x1)) (some (.inr ([], 1))) (cond (!(rt x2)) (some (.inr ([], 1))) ((need (List.length x1 ≤ 8796093022208)).bind fun c7_0 => (need (List.length x2 ≤ 8796093022208)).bind fun c8_0 => some (.inl (.p4 x1 x2))))
noncomputable def kft (x1 : List Nat) (x2 : List Nat) : Option (ke0 ⊕ kdi) :=
 cond (decide ((List.length x2 : Int) > 0)) (some (.inl (.p4 x2 ((divN x1 x2).2.1)))) (some (.inr (x1, 0)))
noncomputable def knu : ke0 → Option (ke0 ⊕ kdi)
 | .fn x1 x2 => kd4 x1 x2
 | .p4 x1 x2 => kft x1 x2
@[reducible] def knn (h0 : AH) (r : kdi) (v : AV) (h' : AH) : Prop := ∃ s1 : Sl, v = .tup [s1.v, .int .i64 r.2] ∧ Nats h' s1 r.1 ∧ Grow h0 h' ∧ Own h0 s1
def ki5 (r : kdi) : ke0 → Prop
 | .fn x1 x2 => ∀ {h : AH} {a1 : Sl} {a2 : Sl}, Nats h a1 x1 → Nats h a2 x2 → Runs (go (.fn F.kd5 [a1.v, a2.v]) h) (knn h r)
 | .p4 x1 x2 => ∀ {h0 h : AH} {a1 : Sl} {a2 : Sl}, Grow h0 h → Nats h a1 x1 → Nats h a2 x2 → Own h0 a1 → Own h0 a2 → Runs (go (.pt F.kd5 Td.klf [(0, a1.v), (1, a2.v)]) h) (knn h0 r)
theorem kzf {r : kdi} {o : ke0 ⊕ kdi} {x1 : List Nat} {x2 : List Nat} (e : kd4 x1 x2 = some o) (good : GoodS (ki5 r) r o) : ki5 r (.fn x1 x2) := by
 intro h a1 a2 n1 n2
 rw [ky9]
 unfold kd4 at e
 refine Runs.step (kfk n1) ?_
 refine Runs.step (seen rfl) ?_
 refine Runs.cond (fun k4 => ?_) (fun k4 => ?_)
 ·replace e := (condT k4).symm.trans e
  cases e
  cases good
  exact Runs.ret ⟨(⟨none, 0, .is 0⟩ : Sl), rfl, (Nats.nil _), (Grow.refl _), (Own.nil _)⟩
 ·replace e := (condF k4).symm.trans e
  refine Runs.step (kfk n2) ?_
  refine Runs.step (seen rfl) ?_
  refine Runs.cond (fun k6 => ?_) (fun k6 => ?_)
  ·replace e := (condT k6).symm.trans e
   cases e
   cases good
   exact Runs.ret ⟨(⟨none, 0, .is 0⟩ : Sl), rfl, (Nats.nil _), (Grow.refl _), (Own.nil _)⟩
  ·replace e := (condF k6).symm.trans e
   obtain ⟨c7_0, q7_0, e⟩ := Option.bind_eq_some_iff.1 e
   obtain ⟨s7, H7, e7, n7, g7, o7⟩ := ki2 n1  c7_0.down
   refine Runs.step e7 ?_
   refine Runs.step (seen (asSl_v _)) ?_
   obtain ⟨c8_0, q8_0, e⟩ := Option.bind_eq_some_iff.1 e
   obtain ⟨s8, H8, e8, n8, g8, o8⟩ := ki2 (n2.grow g7)  c8_0.down
   refine Runs.step e8 ?_
   refine Runs.step (seen (asSl_v _)) ?_
   cases e
   exact good (g7.trans g8) (n7.grow g8) n8 (o7.of_le (Grow.refl _)) (o8.of_le g7)
theorem k4p {r : kdi} {o : ke0 ⊕ kdi} {x1 : List Nat} {x2 : List Nat} (e : kft x1 x2 = some o) (good : GoodS (ki5 r) r o) : ki5 r (.p4 x1 x2) := by
 intro h0 h a1 a2 g0 n1 n2 ow1 ow2
 rw [k3x]
 unfold kft at e
 rw [n2.len]
 refine Runs.cond (fun k3 => ?_) (fun k3 => ?_)
 ·replace e := (condT k3).symm.trans e
  obtain ⟨s4, s4b, H4, e4, n4, n4b, g4, o4, o4b⟩ := kmy n1 n2
  refine Runs.step e4 ?_
  refine Runs.step rfl ?_
  refine Runs.step (seen (asSl_v _)) ?_
  refine Runs.step (seen (asSl_v _)) ?_
  refine Runs.step (seen (kb _ _)) ?_
  cases e
  exact good (g0.trans g4) (n2.grow g4) n4b (ow2.of_le (Grow.refl _)) (o4b.of_le g0)
 ·replace e := (condF k3).symm.trans e
  cases e
  cases good
  exact Runs.ret ⟨a1, rfl, n1, g0, (ow1.of_le (Grow.refl _))⟩
theorem k6p {s : ke0} {r : kdi} (it : Iter knu s r) : ki5 r s := Iter.ind (fun s o e good => by
 cases s with
 | fn x1 x2 => exact @kzf _ _ x1 x2 e good
 | p4 x1 x2 => exact @k4p _ _ x1 x2 e good
 ) it
inductive ke6
 | fn (x1 : List Nat) (x2 : List Nat)
 | p7 (x1 : List Nat) (x2 : List Nat)
abbrev kdy := List Nat × Int
noncomputable def ket (x1 : List Nat) (x2 : List Nat) : Option (ke6 ⊕ kdy) :=
 cond (!(rt x1)) (some (.inr ([], 1))) (cond (!(rt x2)) (some (.inr ([], 1))) ((need (List.length x1 ≤ 1073741824)).bind fun c8 => (need (List.length x2 ≤ 1073741824)).bind fun c10 => some (.inl (.p7 x1 x2))))
noncomputable def kfy (x1 : List Nat) (x2 : List Nat) : Option (ke6 ⊕ kdy) :=
 cond (decide ((List.length x2 : Int) > 0)) (some (.inl (.p7 x2 ((divN x1 x2).2.1)))) (some (.inr (x1, 0)))
noncomputable def kou : ke6 → Option (ke6 ⊕ kdy)
 | .fn x1 x2 => ket x1 x2
 | .p7 x1 x2 => kfy x1 x2
@[reducible] def kod (h0 : AH) (r : kdy) (v : AV) (h' : AH) : Prop := ∃ s1 : Sl, v = .tup [s1.v, .int .i64 r.2] ∧ Nats h' s1 r.1 ∧ Grow h0 h' ∧ Own h0 s1
def kh8 (r : kdy) : ke6 → Prop
 | .fn x1 x2 => ∀ {h : AH} {a1 : Sl} {a2 : Sl}, Nats h a1 x1 → Nats h a2 x2 → Runs (go (.fn F.kee [a1.v, a2.v]) h) (kod h r)
 | .p7 x1 x2 => ∀ {h0 h : AH} {a1 : Sl} {a2 : Sl}, Grow h0 h → Nats h a1 x1 → Nats h a2 x2 → Own h0 a1 → Own h0 a2 → Runs (go (.pt F.kee Td.kmj [(8, a1.v), (9, a2.v)]) h) (kod h0 r)
theorem kx0 {r : kdy} {o : ke6 ⊕ kdy} {x1 : List Nat} {x2 : List Nat} (e : ket x1 x2 = some o) (good : GoodS (kh8 r) r o) : kh8 r (.fn x1 x2) := by
 intro h a1 a2 n1 n2
 rw [k5q]
 unfold ket at e
 refine Runs.step (kb7 n1) ?_
 refine Runs.step (seen rfl) ?_
 refine Runs.step (kb7 n2) ?_
 refine Runs.step (seen rfl) ?_
 refine Runs.cond (fun k5 => ?_) (fun k5 => ?_)
 ·replace e := (condT k5).symm.trans e
  cases e
  cases good
  exact Runs.ret ⟨(⟨none, 0, .is 0⟩ : Sl), rfl, (Nats.nil _), (Grow.refl _), (Own.nil _)⟩
 ·replace e := (condF k5).symm.trans e
  refine Runs.cond (fun k6 => ?_) (fun k6 => ?_)
  ·replace e := (condT k6).symm.trans e
   cases e
   cases good
   exact Runs.ret ⟨(⟨none, 0, .is 0⟩ : Sl), rfl, (Nats.nil _), (Grow.refl _), (Own.nil _)⟩
  ·replace e := (condF k6).symm.trans e
   refine Runs.new fun H7 b7 g7 => ?_
   refine Runs.step (koy (n1.grow g7)) ?_
   obtain ⟨c8, q8, e⟩ := Option.bind_eq_some_iff.1 e
   obtain ⟨s8, H8, e8, n8, g8, o8⟩ := ksn b7 (n1.grow g7) g7 (Nat.le_refl _) c8.down
   refine Runs.step e8 ?_
   refine Runs.step (asSl_v _) ?_
   refine Runs.new fun H9 b9 g9 => ?_
   refine Runs.step (koy (n2.grow ((g7.trans g8).trans g9))) ?_
   obtain ⟨c10, q10, e⟩ := Option.bind_eq_some_iff.1 e
   obtain ⟨s10, H10, e10, n10, g10, o10⟩ := ksn b9 (n2.grow ((g7.trans g8).trans g9)) g9 (Nat.le_refl _) c10.down
   refine Runs.step e10 ?_
   refine Runs.step (asSl_v _) ?_
   cases e
   exact good (((g7.trans g8).trans g9).trans g10) (n8.grow (g9.trans g10)) n10 (o8.of_le (Grow.refl _)) (o10.of_le (g7.trans g8))
theorem kzl {r : kdy} {o : ke6 ⊕ kdy} {x1 : List Nat} {x2 : List Nat} (e : kfy x1 x2 = some o) (good : GoodS (kh8 r) r o) : kh8 r (.p7 x1 x2) := by
 intro h0 h a1 a2 g0 n1 n2 ow1 ow2
 rw [k2y]
 unfold kfy at e
 rw [n2.len]
 refine Runs.cond (fun k3 => ?_) (fun k3 => ?_)
 ·replace e := (condT k3).symm.trans e
  obtain ⟨s4, H4, e4, n4, g4, o4⟩ := kyw n1 n2
  refine Runs.step e4 ?_
  refine Runs.step (seen (asSl_v _)) ?_
  cases e
  exact good (g0.trans g4) (n2.grow g4) n4 (ow2.of_le (Grow.refl _)) (o4.of_le g0)
 ·replace e := (condF k3).symm.trans e
  cases e
  cases good
  exact Runs.ret ⟨a1, rfl, n1, g0, (ow1.of_le (Grow.refl _))⟩
theorem k6l {s : ke6} {r : kdy} (it : Iter kou s r) : kh8 r s := Iter.ind (fun s o e good => by
 cases s with
 | fn x1 x2 => exact @kx0 _ _ x1 x2 e good
 | p7 x1 x2 => exact @kzl _ _ x1 x2 e good
 ) it
end Go.Ab

/- squeezed -/
set_option linter.unusedVariables false
set_option linter.unusedSimpArgs false
set_option maxRecDepth 10000
namespace Go.Ab
open Go.Proofs Go.Num
def gcdN (xs ys : List Nat) : List Nat × Int := if rt xs = true ∧ rt ys = true then (digs B (Nat.gcd (num B xs) (num B ys)), 0) else ([], 1)
theorem ktg {xs ys : List Nat} (hx : rt xs = true) (hy : rt ys = true) (h0 : ys ≠ []) : (divN xs ys).2.1 = digs B (num B xs % num B ys) := by
 simp [divN, hx, hy, h0]
theorem kbh {n : Nat} (h : n < B ^ 64) : rt (digs B n) = true := rt_iff.2 ⟨(ky B2 n 64).2 h, kb4 B2 n⟩
theorem kg5 {xs : List Nat} (hl : ∀ x ∈ xs, x < B) (h : rt xs = true) : num B xs < B ^ 64 := by
 have h1 := num_lt B1 hl
 have h2 : B ^ xs.length ≤ B ^ 64 := Nat.pow_le_pow_right B1 (rt_iff.1 h).1
 omega
theorem kyh : ∀ (b a : Nat), a < B ^ 64 → b < B ^ 64 → Iter knu (.p4 (digs B a) (digs B b)) (digs B (Nat.gcd a b), 0) := by
 intro b
 induction b using Nat.strongRecOn with
 | ind b ih =>
  intro a ha hb
  by_cases h0 : b = 0
  ·subst h0
   refine .done ?_
   show kft _ _ = _
   unfold kft
   rw [kb2, Nat.gcd_zero_right]
   rfl
  ·have hm := Nat.mod_lt a (show 0 < b by omega)
   have hne : digs B b ≠ [] := fun h => h0 ((kfn B2).1 h)
   have hl : (digs B b).length ≠ 0 := by simpa using hne
   refine .next (s' := .p4 (digs B b) (digs B (a % b))) ?_ (by
    have := ih (a % b) hm b hb (by omega)
    rwa [Nat.gcd_comm b, ← Nat.gcd_rec, Nat.gcd_comm b] at this)
   show kft _ _ = _
   unfold kft
   rw [condT (by rw [decide_eq_true_eq]; omega), ktg (kbh ha) (kbh hb) hne, ki B2, ki B2]
theorem ku3 : ∀ (b a : Nat), a < B ^ 64 → b < B ^ 64 → Iter kou (.p7 (digs B a) (digs B b)) (digs B (Nat.gcd a b), 0) := by
 intro b
 induction b using Nat.strongRecOn with
 | ind b ih =>
  intro a ha hb
  by_cases h0 : b = 0
  ·subst h0
   refine .done ?_
   show kfy _ _ = _
   unfold kfy
   rw [kb2, Nat.gcd_zero_right]
   rfl
  ·have hm := Nat.mod_lt a (show 0 < b by omega)
   have hne : digs B b ≠ [] := fun h => h0 ((kfn B2).1 h)
   have hl : (digs B b).length ≠ 0 := by simpa using hne
   refine .next (s' := .p7 (digs B b) (digs B (a % b))) ?_ (by
    have := ih (a % b) hm b hb (by omega)
    rwa [Nat.gcd_comm b, ← Nat.gcd_rec, Nat.gcd_comm b] at this)
   show kfy _ _ = _
   unfold kfy
   rw [condT (by rw [decide_eq_true_eq]; omega), ktg (kbh ha) (kbh hb) hne, ki B2, ki B2]
theorem kw6 {xs ys : List Nat} (lx : ∀ x ∈ xs, x < B) (ly : ∀ x ∈ ys, x < B) : Iter knu (.fn xs ys) (gcdN xs ys) := by
 unfold gcdN
 cases hx : rt xs with
 | false =>
  refine .done ?_
  show kd4 _ _ = _
  unfold kd4
  simp [hx]
 | true =>
  cases hy : rt ys with
  | false =>
   refine .done ?_
   show kd4 _ _ = _
   unfold kd4
   simp [hx, hy]
  | true =>
   obtain ⟨lx64, tx⟩ := rt_iff.1 hx
   obtain ⟨ly64, ty⟩ := rt_iff.1 hy
   have key := kyh (num B ys) (num B xs) (kg5 lx hx) (kg5 ly hy)
   rw [kdr B2 lx tx, kdr B2 ly ty] at key
   simp only [and_self, if_true]
   refine .next ?_ key
   show kd4 _ _ = _
   unfold kd4
   rw [hx, hy, ko (by omega), Option.bind_some, ko (by omega), Option.bind_some]
   rfl
theorem k2f {xs ys : List Nat} (lx : ∀ x ∈ xs, x < B) (ly : ∀ x ∈ ys, x < B) : Iter kou (.fn xs ys) (gcdN xs ys) := by
 unfold gcdN
 cases hx : rt xs with
 | false =>
  refine .done ?_
  show ket _ _ = _
  unfold ket
  simp [hx]
 | true =>
  cases hy : rt ys with
  | false =>
   refine .done ?_
   show ket _ _ = _
   unfold ket
   simp [hx, hy]
  | true =>
   obtain ⟨lx64, tx⟩ := rt_iff.1 hx
   obtain ⟨ly64, ty⟩ := rt_iff.1 hy
   have key := ku3 (num B ys) (num B xs) (kg5 lx hx) (kg5 ly hy)
   rw [kdr B2 lx tx, kdr B2 ly ty] at key
   simp only [and_self, if_true]
   refine .next ?_ key
   show ket _ _ = _
   unfold ket
   rw [hx, hy, ko (by omega), Option.bind_some, ko (by omega), Option.bind_some]
   rfl
theorem kpw {h : AH} {s t : Sl} {xs ys : List Nat} (n : Nats h s xs) (m : Nats h t ys) : Runs (go (.fn F.kd5 [s.v, t.v]) h) (knn h (gcdN xs ys)) := k6p (kw6 n.lt m.lt) n m
theorem krz {h : AH} {s t : Sl} {xs ys : List Nat} (n : Nats h s xs) (m : Nats h t ys) : Runs (go (.fn F.kee [s.v, t.v]) h) (kod h (gcdN xs ys)) := k6l (k2f n.lt m.lt) n m
theorem k0j : digs B 1 = [1] := by decide +kernel
theorem ks7 {xs : List Nat} : decide ((List.length xs : Int) = 0) = decide (xs = []) := by
 rw [decide_eq_decide]
 cases xs
 ·simp
 ·simp
  omega
end Go.Ab

/- squeezed -/
set_option linter.unusedVariables false
set_option linter.unusedSimpArgs false
set_option maxRecDepth 10000
namespace Go.Ab
open Go.Proofs Go.Num
def intD (z : Int) : Bool × List Nat := (decide (z < 0), digs B z.natAbs)
theorem knm (p : Bool) : fromI p [] = (false, []) := by simp [fromI]
theorem kff {n : Nat} (h : n < B ^ 64) (neg : Bool) : fromI neg (digs B n) = intD (if neg = true then -(n : Int) else (n : Int)) := by
 by_cases h0 : n = 0
 ·subst h0
  rw [kb2, knm]
  cases neg <;> simp [intD, kb2]
 ·have hne : digs B n ≠ [] := fun e => h0 ((kfn B2).1 e)
  unfold fromI intD
  rw [if_pos ⟨kbh h, hne⟩]
  cases neg
  ·have e : ((n : Int)).natAbs = n := by omega
   have e2 : decide ((n : Int) < 0) = false := by rw [decide_eq_false_iff_not]; omega
   simp only [Bool.false_eq_true, if_false, e, e2]
  ·have e : (-(n : Int)).natAbs = n := by omega
   have e2 : decide (-(n : Int) < 0) = true := by rw [decide_eq_true_eq]; omega
   simp only [if_true, e, e2]
theorem keo {z : Int} (h : z.natAbs < B ^ 64) : rtI (intD z).1 (intD z).2 = true := by
 unfold rtI intD
 dsimp only
 rw [kbh h, Bool.true_and]
 by_cases hz : z < 0
 ·have hne : digs B z.natAbs ≠ [] := fun e => by
   have := (kfn B2).1 e
   omega
  rw [decide_eq_true hz]
  simp [hne]
 ·rw [decide_eq_false hz]
  simp
theorem of_rtI {p : Bool} {xs : List Nat} (hl : ∀ x ∈ xs, x < B) (h : rtI p xs = true) : ∃ z : Int, p = (intD z).1 ∧ xs = (intD z).2 ∧ z.natAbs < B ^ 64 := by
 have hr := rtI_rt h
 have hn := kg5 hl hr
 have hd := kdr B2 hl (rt_iff.1 hr).2
 unfold rtI at h
 rw [hr, Bool.true_and] at h
 cases p
 ·refine ⟨(num B xs : Int), ?_, ?_, by omega⟩
  ·show false = decide ((num B xs : Int) < 0)
   symm
   rw [decide_eq_false_iff_not]
   omega
  ·show xs = digs B ((num B xs : Int)).natAbs
   rw [show ((num B xs : Int)).natAbs = num B xs from by omega, hd]
 ·have hne : xs ≠ [] := by simpa using h
  have hp := ko0 B1 (rt_iff.1 hr).2 hne
  refine ⟨-(num B xs : Int), ?_, ?_, by omega⟩
  ·show true = decide (-(num B xs : Int) < 0)
   symm
   rw [decide_eq_true_eq]
   omega
  ·show xs = digs B (-(num B xs : Int)).natAbs
   rw [show (-(num B xs : Int)).natAbs = num B xs from by omega, hd]
theorem km7 {n : Nat} (h : n < B ^ 64) : told n = (digs B n, 0) := by
 unfold told
 rw [if_pos h]
theorem ks9 {n : Nat} (h : ¬ n < B ^ 64) : told n = ([], 4) := by
 unfold told
 rw [if_neg h]
theorem kn6 {u v : Int} (hu : u.natAbs < B ^ 64) (hv : v.natAbs < B ^ 64) : kv (intD u).1 (intD u).2 (intD v).1 (intD v).2 = if (u * v).natAbs < B ^ 64 then ((intD (u * v)).1, (intD (u * v)).2, 0) else (false, [], 4) := by
 unfold kv
 rw [keo hu, keo hv]
 have e : mulN (intD u).2 (intD v).2 = told (u.natAbs * v.natAbs) := by
  unfold mulN intD
  dsimp only
  rw [if_pos ⟨kbh hu, kbh hv⟩, ki B2, ki B2]
 rw [e, Int.natAbs_mul]
 simp only [Bool.and_self, Bool.not_true, cond_false]
 by_cases h : u.natAbs * v.natAbs < B ^ 64
 ·rw [if_pos h, km7 h]
  dsimp only
  rw [kff h]
  have key : (if (!((intD u).1 == (intD v).1)) = true then -((u.natAbs * v.natAbs : Nat) : Int) else ((u.natAbs * v.natAbs : Nat) : Int)) = u * v := by
   unfold intD
   dsimp only
   rw [Int.natCast_mul]
   by_cases h1 : u < 0
   ·by_cases h2 : v < 0
    ·have e1 : ((u.natAbs : Nat) : Int) = -u := by omega
     have e2 : ((v.natAbs : Nat) : Int) = -v := by omega
     simp [h1, h2, e1, e2, Int.neg_mul, Int.mul_neg]
    ·have e1 : ((u.natAbs : Nat) : Int) = -u := by omega
     have e2 : ((v.natAbs : Nat) : Int) = v := by omega
     simp [h1, h2, e1, e2, Int.neg_mul, Int.mul_neg]
   ·by_cases h2 : v < 0
    ·have e1 : ((u.natAbs : Nat) : Int) = u := by omega
     have e2 : ((v.natAbs : Nat) : Int) = -v := by omega
     simp [h1, h2, e1, e2, Int.neg_mul, Int.mul_neg]
    ·have e1 : ((u.natAbs : Nat) : Int) = u := by omega
     have e2 : ((v.natAbs : Nat) : Int) = v := by omega
     simp [h1, h2, e1, e2, Int.neg_mul, Int.mul_neg]
  rw [key]
 ·rw [if_neg h, ks9 h]
  dsimp only
  rw [knm]
theorem kqd {u v : Int} (hu : u.natAbs < B ^ 64) (hv : v.natAbs < B ^ 64) : kn (intD u).1 (intD u).2 (intD v).1 (intD v).2 = if (u + v).natAbs < B ^ 64 then ((intD (u + v)).1, (intD (u + v)).2, 0) else (false, [], 4) := by
 unfold kn
 rw [keo hu, keo hv]
 simp only [Bool.and_self, Bool.not_true, cond_false]
 have ea : addN (intD u).2 (intD v).2 = told (u.natAbs + v.natAbs) := by
  unfold addN intD
  dsimp only
  rw [if_pos ⟨kbh hu, kbh hv⟩, ki B2, ki B2]
 have es : ∀ {a b : Int}, a.natAbs < B ^ 64 → b.natAbs < B ^ 64 → b.natAbs ≤ a.natAbs → subN (intD a).2 (intD b).2 = (digs B (a.natAbs - b.natAbs), 0) := by
  intro a b ha hb hle
  unfold subN intD
  dsimp only
  rw [if_pos ⟨kbh ha, kbh hb⟩, ki B2, ki B2, if_neg (by omega)]
 have ec : cmpN (intD u).2 (intD v).2 = cmp u.natAbs v.natAbs := by
  unfold cmpN intD
  dsimp only
  rw [if_pos ⟨kbh hu, kbh hv⟩, ki B2, ki B2]
 rw [ea, ec]
 have s1 : (intD u).1 = decide (u < 0) := rfl
 have s2 : (intD v).1 = decide (v < 0) := rfl
 rw [s1, s2]
 by_cases hs : (u < 0 ↔ v < 0)
 ·have hb : (decide (u < 0) == decide (v < 0)) = true := by simp [hs]
  rw [hb, cond_true]
  by_cases h : u.natAbs + v.natAbs < B ^ 64
  ·rw [if_pos (by omega), km7 h]
   dsimp only
   rw [kff h]
   have : (if decide (u < 0) = true then -((u.natAbs + v.natAbs : Nat) : Int) else ((u.natAbs + v.natAbs : Nat) : Int)) = u + v := by
    by_cases h1 : u < 0
    ·simp only [h1, decide_true, if_true]; omega
    ·simp only [h1, decide_false, Bool.false_eq_true, if_false]; omega
   rw [this]
  ·rw [if_neg (by omega), ks9 h]
   dsimp only
   rw [knm]
 ·have hb : (decide (u < 0) == decide (v < 0)) = false := by
   by_cases h1 : u < 0 <;> by_cases h2 : v < 0 <;> simp_all
  rw [hb, cond_false, if_pos (by omega)]
  by_cases hc : u.natAbs < v.natAbs
  ·rw [condT (by rw [decide_eq_true_eq, cmp_lt]; exact hc), es hv hu (by omega)]
   dsimp only
   rw [kff (by omega)]
   have : (if decide (v < 0) = true then -((v.natAbs - u.natAbs : Nat) : Int) else ((v.natAbs - u.natAbs : Nat) : Int)) = u + v := by
    by_cases h1 : v < 0
    ·simp only [h1, decide_true, if_true]; omega
    ·simp only [h1, decide_false, Bool.false_eq_true, if_false]; omega
   rw [this]
  ·rw [condF (by rw [decide_eq_false_iff_not, cmp_lt]; exact hc), es hu hv (by omega)]
   dsimp only
   rw [kff (by omega)]
   have : (if decide (u < 0) = true then -((u.natAbs - v.natAbs : Nat) : Int) else ((u.natAbs - v.natAbs : Nat) : Int)) = u + v := by
    by_cases h1 : u < 0
    ·simp only [h1, decide_true, if_true]; omega
    ·simp only [h1, decide_false, Bool.false_eq_true, if_false]; omega
   rw [this]
theorem ksp {v : Int} (hv : v.natAbs < B ^ 64) : negI (intD v).1 (intD v).2 = intD (-v) := by
 unfold negI
 rw [if_pos (keo hv)]
 show fromI (!decide (v < 0)) (digs B v.natAbs) = _
 rw [kff hv]
 by_cases h1 : v < 0
 ·have e : ((v.natAbs : Nat) : Int) = -v := by omega
  simp [h1, e]
 ·have e : ((v.natAbs : Nat) : Int) = v := by omega
  simp [h1, e]
theorem k6o {u v : Int} (hu : u.natAbs < B ^ 64) (hv : v.natAbs < B ^ 64) : kbc (intD u).1 (intD u).2 (intD v).1 (intD v).2 = if (u - v).natAbs < B ^ 64 then ((intD (u - v)).1, (intD (u - v)).2, 0) else (false, [], 4) := by
 have e : kbc (intD u).1 (intD u).2 (intD v).1 (intD v).2 = kn (intD u).1 (intD u).2 (intD (-v)).1 (intD (-v)).2 := by
  unfold kbc
  rw [keo hu, keo hv, ksp hv]
  rfl
 rw [e, kqd hu (by omega)]
 rfl
end Go.Ab

/- squeezed -/
set_option linter.unusedVariables false
set_option linter.unusedSimpArgs false
set_option maxRecDepth 10000
namespace Go.Ab
open Go.Proofs Go.Num
theorem kmz : 18446744073709551616 * 18446744073709551616 ≤ B ^ 64 := by
 have : B ^ 64 = B * B * B ^ 62 := by
  rw [show 64 = 2 + 62 from rfl, Nat.pow_add, Nat.pow_two]
 rw [this]
 have h : 1 ≤ B ^ 62 := Nat.pow_pos B1
 have := Nat.mul_le_mul_left (B * B) h
 rw [Nat.mul_one] at this
 exact this
theorem kos {n : Int} (h : n.natAbs < 18446744073709551616) : ofI n = intD n := by
 have hb : n.natAbs < B ^ 64 := by have := kmz; omega
 unfold ofI
 rw [kff hb]
 by_cases h1 : n < 0
 ·rw [decide_eq_true h1]
  have e : ((n.natAbs : Nat) : Int) = -n := by omega
  simp [e]
 ·rw [decide_eq_false h1]
  have e : ((n.natAbs : Nat) : Int) = n := by omega
  simp [e]
theorem kr6 (n : Int) {h : AH} (c : -9223372036854775808 ≤ n ∧ n ≤ 9223372036854775807) : ∃ (s' : Sl) (h' : AH), go (.fn F.kjy [.int .i64 n]) h = some (.agg [.bool (ofI n).1, s'.v], h') ∧ Nats h' s' (ofI n).2 ∧ Grow h h' ∧ Own h s' := k07 c.1 c.2
theorem klw (n : Int) {h : AH} (c : -9223372036854775808 ≤ n ∧ n ≤ 9223372036854775807) : ∃ (s' : Sl) (h' : AH), go (.fn F.kgd [.int .i64 n]) h = some (.agg [.bool (ofI n).1, s'.v], h') ∧ Nats h' s' (ofI n).2 ∧ Grow h h' ∧ Own h s' := kz5 c.1 c.2
end Go.Ab

/- squeezed -/
set_option linter.unusedVariables false
set_option linter.unusedSimpArgs false
set_option maxRecDepth 10000
namespace Go.Ab
open Go.Proofs Go.Num
end Go.Ab

/- squeezed -/
set_option linter.unusedVariables false
set_option linter.unusedSimpArgs false
set_option maxRecDepth 10000
namespace Go.Ab
open Go.Proofs Go.Num
end Go.Ab

/- squeezed -/
set_option linter.unusedVariables false
set_option linter.unusedSimpArgs false
set_option maxRecDepth 10000
namespace Go.Ab
open Go.Proofs Go.Num
end Go.Ab

/- squeezed -/
set_option linter.unusedVariables false
set_option linter.unusedSimpArgs false
set_option maxRecDepth 10000
namespace Go.Ab
open Go.Proofs Go.Num
theorem kyi {h : AH} : ∃ (s' : Sl) (h' : AH), go (.fn F.kf4 [.int .u64 1]) h = some (s'.v, h') ∧ Nats h' s' [1] ∧ Grow h h' ∧ Own h s' := by
 have := kp0 (h := h) (x := 1) (by decide)
 rw [k0j] at this
 exact this
end Go.Ab

/- squeezed -/
set_option linter.unusedVariables false
set_option linter.unusedSimpArgs false
set_option maxRecDepth 10000
namespace Go.Ab
open Go.Proofs Go.Num
def kr (a1 : Bool) (x2 : List Nat) (x3 : List Nat) : Bool :=
 cond (!(rtI a1 x2)) (false) (cond (!(rt x3)) (false) (cond (decide ((List.length x3 : Int) = 0)) (false) (cond (decide ((List.length x3 : Int) > 16)) (false) (cond (decide ((List.length x2 : Int) > 16)) (false) (decide ((cmpN ((gcdN x2 x3).1) [1]) = 0))))))
theorem kym {h : AH} {a2 : Sl} {x2 : List Nat} {a3 : Sl} {x3 : List Nat} (n2 : Nats h a2 x2) (n3 : Nats h a3 x3) (a1 : Bool) : Runs (go (.fn F.kog [.agg [.bool a1, a2.v, a3.v]]) h) fun v h' => v = .bool (kr a1 x2 x3) ∧ Grow h h' := by
 rw [k1r]
 refine Runs.new fun H4 b4 g4 => ?_
 refine Runs.step (AH.has.rd b4 0 rfl rfl) ?_
 refine Runs.step (AH.has.rd b4 1 rfl (asSl_v _)) ?_
 obtain ⟨H5, e5, g5⟩ := kky (n2.grow g4) a1
 refine Runs.step e5 ?_
 refine Runs.step (seen rfl) ?_
 refine Runs.cond (fun k6 => ?_) (fun k6 => ?_)
 ·have z : kr a1 x2 x3 = false := by unfold kr; exact (condT k6).trans rfl
  rw [z]
  exact Runs.ret ⟨rfl, (g4.trans g5)⟩
 ·refine Runs.step (AH.has.rd (g5.has b4) 2 rfl (asSl_v _)) ?_
  refine Runs.step (kfk (n3.grow (g4.trans g5))) ?_
  refine Runs.step (seen rfl) ?_
  refine Runs.cond (fun k8 => ?_) (fun k8 => ?_)
  ·have z : kr a1 x2 x3 = false := by unfold kr; exact (condF k6).trans ((condT k8).trans rfl)
   rw [z]
   exact Runs.ret ⟨rfl, (g4.trans g5)⟩
  ·refine Runs.step (AH.has.rd (g5.has b4) 2 rfl (asSl_v _)) ?_
   rw [(n3.grow (g4.trans g5)).len]
   refine Runs.cond (fun k9 => ?_) (fun k9 => ?_)
   ·have z : kr a1 x2 x3 = false := by unfold kr; exact (condF k6).trans ((condF k8).trans ((condT k9).trans rfl))
    rw [z]
    exact Runs.ret ⟨rfl, (g4.trans g5)⟩
   ·refine Runs.step (AH.has.rd (g5.has b4) 2 rfl (asSl_v _)) ?_
    rw [(n3.grow (g4.trans g5)).len]
    refine Runs.cond (fun k10 => ?_) (fun k10 => ?_)
    ·have z : kr a1 x2 x3 = false := by unfold kr; exact (condF k6).trans ((condF k8).trans ((condF k9).trans ((condT k10).trans rfl)))
     rw [z]
     exact Runs.ret ⟨rfl, (g4.trans g5)⟩
    ·refine Runs.step (AH.has.rd (g5.has b4) 1 rfl (asSl_v _)) ?_
     rw [(n2.grow (g4.trans g5)).len]
     refine Runs.cond (fun k11 => ?_) (fun k11 => ?_)
     ·have z : kr a1 x2 x3 = false := by unfold kr; exact (condF k6).trans ((condF k8).trans ((condF k9).trans ((condF k10).trans ((condT k11).trans rfl))))
      rw [z]
      exact Runs.ret ⟨rfl, (g4.trans g5)⟩
     ·refine Runs.step (AH.has.rd (g5.has b4) 1 rfl (asSl_v _)) ?_
      refine Runs.step (AH.has.rd (g5.has b4) 2 rfl (asSl_v _)) ?_
      obtain ⟨_, H12, e12, s12, rfl, n12, g12, o12⟩ := kpw (n2.grow (g4.trans g5)) (n3.grow (g4.trans g5))
      refine Runs.step e12 ?_
      refine Runs.step rfl ?_
      refine Runs.step (seen (asSl_v _)) ?_
      refine Runs.step (seen (kb _ _)) ?_
      refine Runs.new fun H13 b13 g13 => ?_
      obtain ⟨H14, e14, g14⟩ := kkg (n12.grow g13) (Nats.of_has (xs := [1]) b13 (by decide) (by decide))
      refine Runs.step e14 ?_
      refine Runs.step (seen (kb _ _)) ?_
      have z : kr a1 x2 x3 = decide ((cmpN ((gcdN x2 x3).1) [1]) = 0) := by unfold kr; exact (condF k6).trans ((condF k8).trans ((condF k9).trans ((condF k10).trans ((condF k11).trans rfl))))
      rw [z]
      have G15 := ((((g4.trans g5).trans g12).trans g13).trans g14)
      exact Runs.ret ⟨rfl, G15⟩
def kch (a1 : Bool) (x2 : List Nat) (x3 : List Nat) : Bool :=
 cond (!(rtI a1 x2)) (false) (cond (!(rt x3)) (false) (cond (decide ((List.length x3 : Int) = 0)) (false) (cond (decide ((List.length x3 : Int) > 16)) (false) (cond (decide ((List.length x2 : Int) > 16)) (false) (decide ((cmpN ((gcdN x2 x3).1) [1]) = 0))))))
theorem kxd {h : AH} {a2 : Sl} {x2 : List Nat} {a3 : Sl} {x3 : List Nat} (n2 : Nats h a2 x2) (n3 : Nats h a3 x3) (a1 : Bool) : Runs (go (.fn F.kek [.agg [.bool a1, a2.v, a3.v]]) h) fun v h' => v = .bool (kch a1 x2 x3) ∧ Grow h h' := by
 rw [k2k]
 refine Runs.new fun H4 b4 g4 => ?_
 refine Runs.step (AH.has.rd b4 0 rfl rfl) ?_
 refine Runs.step (AH.has.rd b4 1 rfl (asSl_v _)) ?_
 obtain ⟨H5, e5, g5⟩ := kef (n2.grow g4) a1
 refine Runs.step e5 ?_
 refine Runs.step (seen rfl) ?_
 refine Runs.step (AH.has.rd (g5.has b4) 2 rfl (asSl_v _)) ?_
 refine Runs.step (kb7 (n3.grow (g4.trans g5))) ?_
 refine Runs.step (seen rfl) ?_
 refine Runs.cond (fun k7 => ?_) (fun k7 => ?_)
 ·have z : kch a1 x2 x3 = false := by unfold kch; exact (condT k7).trans rfl
  rw [z]
  exact Runs.ret ⟨rfl, (g4.trans g5)⟩
 ·refine Runs.cond (fun k8 => ?_) (fun k8 => ?_)
  ·have z : kch a1 x2 x3 = false := by unfold kch; exact (condF k7).trans ((condT k8).trans rfl)
   rw [z]
   exact Runs.ret ⟨rfl, (g4.trans g5)⟩
  ·refine Runs.step (AH.has.rd (g5.has b4) 2 rfl (asSl_v _)) ?_
   rw [(n3.grow (g4.trans g5)).len]
   refine Runs.cond (fun k9 => ?_) (fun k9 => ?_)
   ·have z : kch a1 x2 x3 = false := by unfold kch; exact (condF k7).trans ((condF k8).trans ((condT k9).trans rfl))
    rw [z]
    exact Runs.ret ⟨rfl, (g4.trans g5)⟩
   ·refine Runs.step (AH.has.rd (g5.has b4) 2 rfl (asSl_v _)) ?_
    rw [(n3.grow (g4.trans g5)).len]
    refine Runs.cond (fun k10 => ?_) (fun k10 => ?_)
    ·have z : kch a1 x2 x3 = false := by unfold kch; exact (condF k7).trans ((condF k8).trans ((condF k9).trans ((condT k10).trans rfl)))
     rw [z]
     exact Runs.ret ⟨rfl, (g4.trans g5)⟩
    ·refine Runs.step (AH.has.rd (g5.has b4) 1 rfl (asSl_v _)) ?_
     rw [(n2.grow (g4.trans g5)).len]
     refine Runs.cond (fun k11 => ?_) (fun k11 => ?_)
     ·have z : kch a1 x2 x3 = false := by unfold kch; exact (condF k7).trans ((condF k8).trans ((condF k9).trans ((condF k10).trans ((condT k11).trans rfl))))
      rw [z]
      exact Runs.ret ⟨rfl, (g4.trans g5)⟩
     ·refine Runs.step (AH.has.rd (g5.has b4) 1 rfl (asSl_v _)) ?_
      refine Runs.step (AH.has.rd (g5.has b4) 2 rfl (asSl_v _)) ?_
      obtain ⟨_, H12, e12, s12, rfl, n12, g12, o12⟩ := krz (n2.grow (g4.trans g5)) (n3.grow (g4.trans g5))
      refine Runs.step e12 ?_
      refine Runs.step rfl ?_
      refine Runs.step (seen (asSl_v _)) ?_
      refine Runs.step (seen (kb _ _)) ?_
      obtain ⟨s13, H13, e13, n13, g13, o13⟩ := kyi
      refine Runs.step e13 ?_
      refine Runs.step (seen (asSl_v _)) ?_
      obtain ⟨H14, e14, g14⟩ := kmd (n12.grow g13) n13
      refine Runs.step e14 ?_
      refine Runs.step (seen (kb _ _)) ?_
      have z : kch a1 x2 x3 = decide ((cmpN ((gcdN x2 x3).1) [1]) = 0) := by unfold kch; exact (condF k7).trans ((condF k8).trans ((condF k9).trans ((condF k10).trans ((condF k11).trans rfl))))
      rw [z]
      have G15 := ((((g4.trans g5).trans g12).trans g13).trans g14)
      exact Runs.ret ⟨rfl, G15⟩
def kp (a1 : Bool) (x2 : List Nat) (x3 : List Nat) : Bool × List Nat × List Nat × Int :=
 cond (!(rtI a1 x2)) ((false, [], [], 1)) (cond (!(rt x3)) ((false, [], [], 1)) (cond (decide ((List.length x3 : Int) = 0)) ((false, [], [], 3)) (cond (decide ((imax (List.length ((divN x2 ((gcdN x2 x3).1)).1) : Int) (List.length ((divN x3 ((gcdN x2 x3).1)).1) : Int)) > 16)) ((false, [], [], 4)) (((((fromI a1 ((divN x2 ((gcdN x2 x3).1)).1)).1)), (fromI a1 ((divN x2 ((gcdN x2 x3).1)).1)).2, (divN x3 ((gcdN x2 x3).1)).1, 0)))))
theorem kko {h : AH} {a2 : Sl} {x2 : List Nat} {a3 : Sl} {x3 : List Nat} (n2 : Nats h a2 x2) (n3 : Nats h a3 x3) (a1 : Bool) : Runs (go (.fn F.kg1 [.agg [.bool a1, a2.v], a3.v]) h) fun v h' => ∃ s1 : Sl, ∃ s2 : Sl, v = .tup [.agg [.bool (kp a1 x2 x3).1, s1.v, s2.v], .int .i64 (kp a1 x2 x3).2.2.2] ∧ Nats h' s1 ((kp a1 x2 x3).2.1) ∧ Nats h' s2 ((kp a1 x2 x3).2.2.1) ∧ Grow h h' ∧ Own h s1 ∧ Own h s2 := by
 rw [k4r]
 rw [n3.len]
 refine Runs.new fun H4 b4 g4 => ?_
 refine Runs.new fun H5 b5 g5 => ?_
 refine Runs.step (AH.has.rd (g5.has b4) 0 rfl rfl) ?_
 refine Runs.step (AH.has.rd (g5.has b4) 1 rfl (asSl_v _)) ?_
 obtain ⟨H6, e6, g6⟩ := kky (n2.grow (g4.trans g5)) a1
 refine Runs.step e6 ?_
 refine Runs.step (seen rfl) ?_
 refine Runs.cond (fun k7 => ?_) (fun k7 => ?_)
 ·refine Runs.puts (g6.has b5) rfl fun H8 b8 u8 => ?_
  refine Runs.step (AH.has.rd b8 0 rfl rfl) ?_
  refine Runs.step (AH.has.rd b8 1 rfl (asSl_v _)) ?_
  refine Runs.step (AH.has.rd b8 2 rfl (asSl_v _)) ?_
  have z : kp a1 x2 x3 = (false, [], [], 1) := by unfold kp; exact (condT k7).trans rfl
  rw [z]
  have G9 := (((g4.trans g5).trans g6).updr (Nat.le_trans (g4).size (Nat.le_refl _)) u8)
  exact Runs.ret ⟨(⟨none, 0, .is 0⟩ : Sl), (⟨none, 0, .is 0⟩ : Sl), rfl, (Nats.nil _), (Nats.nil _), G9, (Own.nil _), (Own.nil _)⟩
 ·have G8 := ((g4.trans g5).trans g6)
  have n3_9 := n3.grow G8
  refine Runs.step (kfk n3_9) ?_
  refine Runs.step (seen rfl) ?_
  refine Runs.cond (fun k11 => ?_) (fun k11 => ?_)
  ·refine Runs.puts (g6.has b5) rfl fun H12 b12 u12 => ?_
   have n3_12 := n3_9.upda (Av.of_base n3 (Nat.le_trans (g4).size (Nat.le_refl _))) u12
   refine Runs.step (AH.has.rd b12 0 rfl rfl) ?_
   refine Runs.step (AH.has.rd b12 1 rfl (asSl_v _)) ?_
   refine Runs.step (AH.has.rd b12 2 rfl (asSl_v _)) ?_
   have z : kp a1 x2 x3 = (false, [], [], 1) := by unfold kp; exact (condF k7).trans ((condT k11).trans rfl)
   rw [z]
   have G13 := (G8.updr (Nat.le_trans (g4).size (Nat.le_refl _)) u12)
   exact Runs.ret ⟨(⟨none, 0, .is 0⟩ : Sl), (⟨none, 0, .is 0⟩ : Sl), rfl, (Nats.nil _), (Nats.nil _), G13, (Own.nil _), (Own.nil _)⟩
  ·refine Runs.cond (fun k12 => ?_) (fun k12 => ?_)
   ·refine Runs.puts (g6.has b5) rfl fun H13 b13 u13 => ?_
    have n3_13 := n3_9.upda (Av.of_base n3 (Nat.le_trans (g4).size (Nat.le_refl _))) u13
    refine Runs.step (AH.has.rd b13 0 rfl rfl) ?_
    refine Runs.step (AH.has.rd b13 1 rfl (asSl_v _)) ?_
    refine Runs.step (AH.has.rd b13 2 rfl (asSl_v _)) ?_
    have z : kp a1 x2 x3 = (false, [], [], 3) := by unfold kp; exact (condF k7).trans ((condF k11).trans ((condT k12).trans rfl))
    rw [z]
    have G14 := (G8.updr (Nat.le_trans (g4).size (Nat.le_refl _)) u13)
    exact Runs.ret ⟨(⟨none, 0, .is 0⟩ : Sl), (⟨none, 0, .is 0⟩ : Sl), rfl, (Nats.nil _), (Nats.nil _), G14, (Own.nil _), (Own.nil _)⟩
   ·refine Runs.step (AH.has.rd ((g5.trans g6).has b4) 1 rfl (asSl_v _)) ?_
    have n2_13 := n2.grow G8
    obtain ⟨_, H14, e14, s14, rfl, n14, g14, o14⟩ := kpw n2_13 n3_9
    refine Runs.step e14 ?_
    refine Runs.step rfl ?_
    refine Runs.step (seen (asSl_v _)) ?_
    refine Runs.step (seen (kb _ _)) ?_
    have G15 := ((g5.trans g6).trans g14)
    have b4_16 := G15.has b4
    refine Runs.step (AH.has.rd b4_16 1 rfl (asSl_v _)) ?_
    obtain ⟨s17, s17b, H17, e17, n17, n17b, g17, o17, o17b⟩ := kmy (n2_13.grow g14) n14
    refine Runs.step e17 ?_
    refine Runs.step rfl ?_
    refine Runs.step (seen (asSl_v _)) ?_
    rw [n17.len]
    refine Runs.step (seen (asSl_v _)) ?_
    refine Runs.step (seen (kb _ _)) ?_
    obtain ⟨s18, s18b, H18, e18, n18, n18b, g18, o18, o18b⟩ := kmy (n3_9.grow (g14.trans g17)) (n14.grow g17)
    refine Runs.step e18 ?_
    refine Runs.step rfl ?_
    refine Runs.step (seen (asSl_v _)) ?_
    rw [n18.len]
    refine Runs.step (seen (asSl_v _)) ?_
    refine Runs.step (seen (kb _ _)) ?_
    refine Runs.cond (fun k19 => ?_) (fun k19 => ?_)
    ·have G21 := (((g6.trans g14).trans g17).trans g18)
     have b5_22 := G21.has b5
     refine Runs.puts b5_22 rfl fun H20 b20 u20 => ?_
     have G23 := ((g14.trans g17).trans g18)
     have n2_24 := n2_13.grow G23
     have n2_20 := n2_24.upda (Av.of_base n2 (Nat.le_trans (g4).size (Nat.le_refl _))) u20
     have n3_25 := n3_9.grow G23
     have n3_20 := n3_25.upda (Av.of_base n3 (Nat.le_trans (g4).size (Nat.le_refl _))) u20
     have n14_20 := (n14.grow (g17.trans g18)).upda (Av.of_own o14 (g6.has b5).lt) u20
     have n17_20 := (n17.grow g18).upda (Av.of_own o17 ((g6.trans g14).has b5).lt) u20
     have n17b_20 := (n17b.grow g18).upda (Av.of_own o17b ((g6.trans g14).has b5).lt) u20
     have G26 := ((g6.trans g14).trans g17)
     have n18_20 := n18.upda (Av.of_own o18 (G26.has b5).lt) u20
     have n18b_20 := n18b.upda (Av.of_own o18b (G26.has b5).lt) u20
     have b4_20 := AH.has.updr ((g17.trans g18).has b4_16) (Nat.ne_of_lt (Nat.lt_of_lt_of_le (b4).lt (Nat.le_refl _))) u20
     refine Runs.step (AH.has.rd b20 0 rfl rfl) ?_
     refine Runs.step (AH.has.rd b20 1 rfl (asSl_v _)) ?_
     refine Runs.step (AH.has.rd b20 2 rfl (asSl_v _)) ?_
     have z : kp a1 x2 x3 = (false, [], [], 4) := by unfold kp; exact (condF k7).trans ((condF k11).trans ((condF k12).trans ((condT k19).trans rfl)))
     rw [z]
     have G27 := ((((G8.trans g14).trans g17).trans g18).updr (Nat.le_trans (g4).size (Nat.le_refl _)) u20)
     exact Runs.ret ⟨(⟨none, 0, .is 0⟩ : Sl), (⟨none, 0, .is 0⟩ : Sl), rfl, (Nats.nil _), (Nats.nil _), G27, (Own.nil _), (Own.nil _)⟩
    ·refine Runs.step (AH.has.rd ((g17.trans g18).has b4_16) 0 rfl rfl) ?_
     obtain ⟨s20, H20, e20, n20, g20, o20⟩ := ke7 (n17.grow g18) a1
     refine Runs.step e20 ?_
     refine Runs.step rfl ?_
     refine Runs.ifT rfl ?_
     refine Runs.step (seenAt rfl rfl) ?_
     refine Runs.step (seenAt rfl (asSl_v _)) ?_
     have G22 := ((((g6.trans g14).trans g17).trans g18).trans g20)
     have b5_23 := G22.has b5
     refine Runs.puts b5_23 rfl fun H21 b21 u21 => ?_
     have G24 := (((g14.trans g17).trans g18).trans g20)
     have n2_25 := n2_13.grow G24
     have n2_21 := n2_25.upda (Av.of_base n2 (Nat.le_trans (g4).size (Nat.le_refl _))) u21
     have n3_26 := n3_9.grow G24
     have n3_21 := n3_26.upda (Av.of_base n3 (Nat.le_trans (g4).size (Nat.le_refl _))) u21
     have G27 := ((g17.trans g18).trans g20)
     have n14_28 := n14.grow G27
     have n14_21 := n14_28.upda (Av.of_own o14 (g6.has b5).lt) u21
     have n17_21 := (n17.grow (g18.trans g20)).upda (Av.of_own o17 ((g6.trans g14).has b5).lt) u21
     have n17b_21 := (n17b.grow (g18.trans g20)).upda (Av.of_own o17b ((g6.trans g14).has b5).lt) u21
     have G29 := ((g6.trans g14).trans g17)
     have n18_21 := (n18.grow g20).upda (Av.of_own o18 (G29.has b5).lt) u21
     have n18b_21 := (n18b.grow g20).upda (Av.of_own o18b (G29.has b5).lt) u21
     have G30 := (G29.trans g18)
     have n20_21 := n20.upda (Av.of_own o20 (G30.has b5).lt) u21
     have b4_31 := G27.has b4_16
     have b4_21 := AH.has.updr b4_31 (Nat.ne_of_lt (Nat.lt_of_lt_of_le (b4).lt (Nat.le_refl _))) u21
     refine Runs.step (AH.has.rd b21 0 rfl rfl) ?_
     refine Runs.step (AH.has.rd b21 1 rfl (asSl_v _)) ?_
     refine Runs.step (AH.has.rd b21 2 rfl (asSl_v _)) ?_
     have z : kp a1 x2 x3 = ((((fromI a1 ((divN x2 ((gcdN x2 x3).1)).1)).1)), (fromI a1 ((divN x2 ((gcdN x2 x3).1)).1)).2, (divN x3 ((gcdN x2 x3).1)).1, 0) := by unfold kp; exact (condF k7).trans ((condF k11).trans ((condF k12).trans ((condF k19).trans rfl)))
     rw [z]
     have G32 := (((G8.trans g14).trans g17).trans g18)
     have G33 := ((G8.trans g14).trans g17)
     have G34 := ((G32.trans g20).updr (Nat.le_trans (g4).size (Nat.le_refl _)) u21)
     exact Runs.ret ⟨s20, s18, rfl, n20_21, n18_21, G34, (o20.of_le G32), (o18.of_le G33)⟩
def kb0 (a1 : Bool) (x2 : List Nat) (x3 : List Nat) : Bool × List Nat × List Nat × Int :=
 cond (!(rtI a1 x2)) ((false, [], [], 1)) (cond (!(rt x3)) ((false, [], [], 1)) (cond (decide ((List.length x3 : Int) = 0)) ((false, [], [], 3)) (cond (decide ((List.length ((divN x2 ((gcdN x2 x3).1)).1) : Int) > 16)) ((false, [], [], 4)) (cond (decide ((List.length ((divN x3 ((gcdN x2 x3).1)).1) : Int) > 16)) ((false, [], [], 4)) (((((fromI a1 ((divN x2 ((gcdN x2 x3).1)).1)).1)), (fromI a1 ((divN x2 ((gcdN x2 x3).1)).1)).2, (divN x3 ((gcdN x2 x3).1)).1, 0))))))
theorem kxp {h : AH} {a2 : Sl} {x2 : List Nat} {a3 : Sl} {x3 : List Nat} (n2 : Nats h a2 x2) (n3 : Nats h a3 x3) (a1 : Bool) : Runs (go (.fn F.kg4 [.agg [.bool a1, a2.v], a3.v]) h) fun v h' => ∃ s1 : Sl, ∃ s2 : Sl, v = .tup [.agg [.bool (kb0 a1 x2 x3).1, s1.v, s2.v], .int .i64 (kb0 a1 x2 x3).2.2.2] ∧ Nats h' s1 ((kb0 a1 x2 x3).2.1) ∧ Nats h' s2 ((kb0 a1 x2 x3).2.2.1) ∧ Grow h h' ∧ Own h s1 ∧ Own h s2 := by
 rw [k5i]
 rw [n3.len]
 refine Runs.new fun H4 b4 g4 => ?_
 refine Runs.new fun H5 b5 g5 => ?_
 refine Runs.step (AH.has.rd (g5.has b4) 0 rfl rfl) ?_
 refine Runs.step (AH.has.rd (g5.has b4) 1 rfl (asSl_v _)) ?_
 obtain ⟨H6, e6, g6⟩ := kef (n2.grow (g4.trans g5)) a1
 refine Runs.step e6 ?_
 refine Runs.step (seen rfl) ?_
 have G7 := ((g4.trans g5).trans g6)
 have n3_8 := n3.grow G7
 refine Runs.step (kb7 n3_8) ?_
 refine Runs.step (seen rfl) ?_
 refine Runs.cond (fun k10 => ?_) (fun k10 => ?_)
 ·refine Runs.puts (g6.has b5) rfl fun H11 b11 u11 => ?_
  have n3_11 := n3_8.upda (Av.of_base n3 (Nat.le_trans (g4).size (Nat.le_refl _))) u11
  refine Runs.step (AH.has.rd b11 0 rfl rfl) ?_
  refine Runs.step (AH.has.rd b11 1 rfl (asSl_v _)) ?_
  refine Runs.step (AH.has.rd b11 2 rfl (asSl_v _)) ?_
  have z : kb0 a1 x2 x3 = (false, [], [], 1) := by unfold kb0; exact (condT k10).trans rfl
  rw [z]
  have G12 := (G7.updr (Nat.le_trans (g4).size (Nat.le_refl _)) u11)
  exact Runs.ret ⟨(⟨none, 0, .is 0⟩ : Sl), (⟨none, 0, .is 0⟩ : Sl), rfl, (Nats.nil _), (Nats.nil _), G12, (Own.nil _), (Own.nil _)⟩
 ·refine Runs.cond (fun k11 => ?_) (fun k11 => ?_)
  ·refine Runs.puts (g6.has b5) rfl fun H12 b12 u12 => ?_
   have n3_12 := n3_8.upda (Av.of_base n3 (Nat.le_trans (g4).size (Nat.le_refl _))) u12
   refine Runs.step (AH.has.rd b12 0 rfl rfl) ?_
   refine Runs.step (AH.has.rd b12 1 rfl (asSl_v _)) ?_
   refine Runs.step (AH.has.rd b12 2 rfl (asSl_v _)) ?_
   have z : kb0 a1 x2 x3 = (false, [], [], 1) := by unfold kb0; exact (condF k10).trans ((condT k11).trans rfl)
   rw [z]
   have G13 := (G7.updr (Nat.le_trans (g4).size (Nat.le_refl _)) u12)
   exact Runs.ret ⟨(⟨none, 0, .is 0⟩ : Sl), (⟨none, 0, .is 0⟩ : Sl), rfl, (Nats.nil _), (Nats.nil _), G13, (Own.nil _), (Own.nil _)⟩
  ·refine Runs.cond (fun k12 => ?_) (fun k12 => ?_)
   ·refine Runs.puts (g6.has b5) rfl fun H13 b13 u13 => ?_
    have n3_13 := n3_8.upda (Av.of_base n3 (Nat.le_trans (g4).size (Nat.le_refl _))) u13
    refine Runs.step (AH.has.rd b13 0 rfl rfl) ?_
    refine Runs.step (AH.has.rd b13 1 rfl (asSl_v _)) ?_
    refine Runs.step (AH.has.rd b13 2 rfl (asSl_v _)) ?_
    have z : kb0 a1 x2 x3 = (false, [], [], 3) := by unfold kb0; exact (condF k10).trans ((condF k11).trans ((condT k12).trans rfl))
    rw [z]
    have G14 := (G7.updr (Nat.le_trans (g4).size (Nat.le_refl _)) u13)
    exact Runs.ret ⟨(⟨none, 0, .is 0⟩ : Sl), (⟨none, 0, .is 0⟩ : Sl), rfl, (Nats.nil _), (Nats.nil _), G14, (Own.nil _), (Own.nil _)⟩
   ·refine Runs.step (AH.has.rd ((g5.trans g6).has b4) 1 rfl (asSl_v _)) ?_
    have n2_13 := n2.grow G7
    obtain ⟨_, H14, e14, s14, rfl, n14, g14, o14⟩ := krz n2_13 n3_8
    refine Runs.step e14 ?_
    refine Runs.step rfl ?_
    refine Runs.step (seen (asSl_v _)) ?_
    refine Runs.step (seen (kb _ _)) ?_
    have G15 := ((g5.trans g6).trans g14)
    have b4_16 := G15.has b4
    refine Runs.step (AH.has.rd b4_16 1 rfl (asSl_v _)) ?_
    obtain ⟨s17, s17b, H17, e17, n17, n17b, g17, o17, o17b⟩ := kn2 (n2_13.grow g14) n14
    refine Runs.step e17 ?_
    refine Runs.step rfl ?_
    refine Runs.step (seen (asSl_v _)) ?_
    rw [n17.len]
    refine Runs.step (seen (asSl_v _)) ?_
    refine Runs.step (seen (kb _ _)) ?_
    obtain ⟨s18, s18b, H18, e18, n18, n18b, g18, o18, o18b⟩ := kn2 (n3_8.grow (g14.trans g17)) (n14.grow g17)
    refine Runs.step e18 ?_
    refine Runs.step rfl ?_
    refine Runs.step (seen (asSl_v _)) ?_
    rw [n18.len]
    refine Runs.step (seen (asSl_v _)) ?_
    refine Runs.step (seen (kb _ _)) ?_
    refine Runs.cond (fun k19 => ?_) (fun k19 => ?_)
    ·have G21 := (((g6.trans g14).trans g17).trans g18)
     have b5_22 := G21.has b5
     refine Runs.puts b5_22 rfl fun H20 b20 u20 => ?_
     have G23 := ((g14.trans g17).trans g18)
     have n2_24 := n2_13.grow G23
     have n2_20 := n2_24.upda (Av.of_base n2 (Nat.le_trans (g4).size (Nat.le_refl _))) u20
     have n3_25 := n3_8.grow G23
     have n3_20 := n3_25.upda (Av.of_base n3 (Nat.le_trans (g4).size (Nat.le_refl _))) u20
     have n14_20 := (n14.grow (g17.trans g18)).upda (Av.of_own o14 (g6.has b5).lt) u20
     have n17_20 := (n17.grow g18).upda (Av.of_own o17 ((g6.trans g14).has b5).lt) u20
     have n17b_20 := (n17b.grow g18).upda (Av.of_own o17b ((g6.trans g14).has b5).lt) u20
     have G26 := ((g6.trans g14).trans g17)
     have n18_20 := n18.upda (Av.of_own o18 (G26.has b5).lt) u20
     have n18b_20 := n18b.upda (Av.of_own o18b (G26.has b5).lt) u20
     have b4_20 := AH.has.updr ((g17.trans g18).has b4_16) (Nat.ne_of_lt (Nat.lt_of_lt_of_le (b4).lt (Nat.le_refl _))) u20
     refine Runs.step (AH.has.rd b20 0 rfl rfl) ?_
     refine Runs.step (AH.has.rd b20 1 rfl (asSl_v _)) ?_
     refine Runs.step (AH.has.rd b20 2 rfl (asSl_v _)) ?_
     have z : kb0 a1 x2 x3 = (false, [], [], 4) := by unfold kb0; exact (condF k10).trans ((condF k11).trans ((condF k12).trans ((condT k19).trans rfl)))
     rw [z]
     have G27 := ((((G7.trans g14).trans g17).trans g18).updr (Nat.le_trans (g4).size (Nat.le_refl _)) u20)
     exact Runs.ret ⟨(⟨none, 0, .is 0⟩ : Sl), (⟨none, 0, .is 0⟩ : Sl), rfl, (Nats.nil _), (Nats.nil _), G27, (Own.nil _), (Own.nil _)⟩
    ·refine Runs.cond (fun k20 => ?_) (fun k20 => ?_)
     ·have G22 := (((g6.trans g14).trans g17).trans g18)
      have b5_23 := G22.has b5
      refine Runs.puts b5_23 rfl fun H21 b21 u21 => ?_
      have G24 := ((g14.trans g17).trans g18)
      have n2_25 := n2_13.grow G24
      have n2_21 := n2_25.upda (Av.of_base n2 (Nat.le_trans (g4).size (Nat.le_refl _))) u21
      have n3_26 := n3_8.grow G24
      have n3_21 := n3_26.upda (Av.of_base n3 (Nat.le_trans (g4).size (Nat.le_refl _))) u21
      have n14_21 := (n14.grow (g17.trans g18)).upda (Av.of_own o14 (g6.has b5).lt) u21
      have n17_21 := (n17.grow g18).upda (Av.of_own o17 ((g6.trans g14).has b5).lt) u21
      have n17b_21 := (n17b.grow g18).upda (Av.of_own o17b ((g6.trans g14).has b5).lt) u21
      have G27 := ((g6.trans g14).trans g17)
      have n18_21 := n18.upda (Av.of_own o18 (G27.has b5).lt) u21
      have n18b_21 := n18b.upda (Av.of_own o18b (G27.has b5).lt) u21
      have b4_21 := AH.has.updr ((g17.trans g18).has b4_16) (Nat.ne_of_lt (Nat.lt_of_lt_of_le (b4).lt (Nat.le_refl _))) u21
      refine Runs.step (AH.has.rd b21 0 rfl rfl) ?_
      refine Runs.step (AH.has.rd b21 1 rfl (asSl_v _)) ?_
      refine Runs.step (AH.has.rd b21 2 rfl (asSl_v _)) ?_
      have z : kb0 a1 x2 x3 = (false, [], [], 4) := by unfold kb0; exact (condF k10).trans ((condF k11).trans ((condF k12).trans ((condF k19).trans ((condT k20).trans rfl))))
      rw [z]
      have G28 := ((((G7.trans g14).trans g17).trans g18).updr (Nat.le_trans (g4).size (Nat.le_refl _)) u21)
      exact Runs.ret ⟨(⟨none, 0, .is 0⟩ : Sl), (⟨none, 0, .is 0⟩ : Sl), rfl, (Nats.nil _), (Nats.nil _), G28, (Own.nil _), (Own.nil _)⟩
     ·refine Runs.step (AH.has.rd ((g17.trans g18).has b4_16) 0 rfl rfl) ?_
      obtain ⟨s21, H21, e21, n21, g21, o21⟩ := kfi (n17.grow g18) a1
      refine Runs.step e21 ?_
      refine Runs.step rfl ?_
      refine Runs.ifT rfl ?_
      refine Runs.step (seenAt rfl rfl) ?_
      refine Runs.step (seenAt rfl (asSl_v _)) ?_
      have G23 := ((((g6.trans g14).trans g17).trans g18).trans g21)
      have b5_24 := G23.has b5
      refine Runs.puts b5_24 rfl fun H22 b22 u22 => ?_
      have G25 := (((g14.trans g17).trans g18).trans g21)
      have n2_26 := n2_13.grow G25
      have n2_22 := n2_26.upda (Av.of_base n2 (Nat.le_trans (g4).size (Nat.le_refl _))) u22
      have n3_27 := n3_8.grow G25
      have n3_22 := n3_27.upda (Av.of_base n3 (Nat.le_trans (g4).size (Nat.le_refl _))) u22
      have G28 := ((g17.trans g18).trans g21)
      have n14_29 := n14.grow G28
      have n14_22 := n14_29.upda (Av.of_own o14 (g6.has b5).lt) u22
      have n17_22 := (n17.grow (g18.trans g21)).upda (Av.of_own o17 ((g6.trans g14).has b5).lt) u22
      have n17b_22 := (n17b.grow (g18.trans g21)).upda (Av.of_own o17b ((g6.trans g14).has b5).lt) u22
      have G30 := ((g6.trans g14).trans g17)
      have n18_22 := (n18.grow g21).upda (Av.of_own o18 (G30.has b5).lt) u22
      have n18b_22 := (n18b.grow g21).upda (Av.of_own o18b (G30.has b5).lt) u22
      have G31 := (G30.trans g18)
      have n21_22 := n21.upda (Av.of_own o21 (G31.has b5).lt) u22
      have b4_32 := G28.has b4_16
      have b4_22 := AH.has.updr b4_32 (Nat.ne_of_lt (Nat.lt_of_lt_of_le (b4).lt (Nat.le_refl _))) u22
      refine Runs.step (AH.has.rd b22 0 rfl rfl) ?_
      refine Runs.step (AH.has.rd b22 1 rfl (asSl_v _)) ?_
      refine Runs.step (AH.has.rd b22 2 rfl (asSl_v _)) ?_
      have z : kb0 a1 x2 x3 = ((((fromI a1 ((divN x2 ((gcdN x2 x3).1)).1)).1)), (fromI a1 ((divN x2 ((gcdN x2 x3).1)).1)).2, (divN x3 ((gcdN x2 x3).1)).1, 0) := by unfold kb0; exact (condF k10).trans ((condF k11).trans ((condF k12).trans ((condF k19).trans ((condF k20).trans rfl))))
      rw [z]
      have G33 := (((G7.trans g14).trans g17).trans g18)
      have G34 := ((G7.trans g14).trans g17)
      have G35 := ((G33.trans g21).updr (Nat.le_trans (g4).size (Nat.le_refl _)) u22)
      exact Runs.ret ⟨s21, s18, rfl, n21_22, n18_22, G35, (o21.of_le G33), (o18.of_le G34)⟩
def kc (a1 : Bool) (x2 : List Nat) (x3 : List Nat) (a4 : Bool) (x5 : List Nat) (x6 : List Nat) : Bool × List Nat :=
 (((((kv a1 x2 ((fromI false x6).1) ((fromI false x6).2)).1))), (kv a1 x2 ((fromI false x6).1) ((fromI false x6).2)).2.1)
theorem kgy {h : AH} {a2 : Sl} {x2 : List Nat} {a3 : Sl} {x3 : List Nat} {a5 : Sl} {x5 : List Nat} {a6 : Sl} {x6 : List Nat} (n2 : Nats h a2 x2) (n3 : Nats h a3 x3) (n5 : Nats h a5 x5) (n6 : Nats h a6 x6) (a1 : Bool) (a4 : Bool) : Runs (go (.fn F.kfc [.agg [.bool a1, a2.v, a3.v], .agg [.bool a4, a5.v, a6.v]]) h) fun v h' => ∃ s1 : Sl, v = .agg [.bool (kc a1 x2 x3 a4 x5 x6).1, s1.v] ∧ Nats h' s1 ((kc a1 x2 x3 a4 x5 x6).2) ∧ Grow h h' ∧ Own h s1 := by
 rw [kxn]
 refine Runs.new fun H7 b7 g7 => ?_
 refine Runs.new fun H8 b8 g8 => ?_
 refine Runs.new fun H9 b9 g9 => ?_
 refine Runs.new fun H10 b10 g10 => ?_
 have G11 := ((g8.trans g9).trans g10)
 have b7_12 := G11.has b7
 refine Runs.step (AH.has.rd b7_12 0 rfl rfl) ?_
 refine Runs.step (AH.has.rd b7_12 1 rfl (asSl_v _)) ?_
 refine Runs.step (AH.has.rd ((g9.trans g10).has b8) 2 rfl (asSl_v _)) ?_
 have G13 := (((g7.trans g8).trans g9).trans g10)
 have n6_14 := n6.grow G13
 obtain ⟨s15, H15, e15, n15, g15, o15⟩ := ke7 n6_14 false
 refine Runs.step e15 ?_
 refine Runs.step rfl ?_
 refine Runs.ifT rfl ?_
 refine Runs.step (seenAt rfl rfl) ?_
 refine Runs.step (seenAt rfl (asSl_v _)) ?_
 refine Runs.when (g15.same b7_12 0 2) ?_
 refine Runs.when (g15.same b10 0 0) ?_
 have G16 := (G13.trans g15)
 have n2_17 := n2.grow G16
 obtain ⟨_, H18, e18, s18, rfl, n18, g18, o18⟩ := kus n2_17 n15 a1 ((fromI false x6).1)
 refine Runs.step e18 ?_
 refine Runs.step rfl ?_
 refine Runs.step rfl ?_
 refine Runs.ifT rfl ?_
 refine Runs.step (seenAt rfl rfl) ?_
 refine Runs.step (seenAt rfl (asSl_v _)) ?_
 refine Runs.step (seen (kb _ _)) ?_
 refine Runs.when (g18.same (g15.has b10) 0 0) ?_
 refine Runs.puts ((g15.trans g18).has b10) rfl fun H19 b19 u19 => ?_
 have G20 := ((g7.trans g8).trans g9)
 have n2_19 := (n2_17.grow g18).upda (Av.of_base n2 (Nat.le_trans (G20).size (Nat.le_refl _))) u19
 have n6_19 := (n6_14.grow (g15.trans g18)).upda (Av.of_base n6 (Nat.le_trans (G20).size (Nat.le_refl _))) u19
 have n15_19 := (n15.grow g18).upda (Av.of_own o15 (b10).lt) u19
 have n18_19 := n18.upda (Av.of_own o18 (g15.has b10).lt) u19
 have b7_19 := AH.has.updr ((g15.trans g18).has b7_12) (Nat.ne_of_lt (Nat.lt_of_lt_of_le ((g8.trans g9).has b7).lt (Nat.le_refl _))) u19
 refine Runs.step (AH.has.rd b19 0 rfl rfl) ?_
 refine Runs.step (AH.has.rd b19 1 rfl (asSl_v _)) ?_
 have G22 := (((g10.trans g15).trans g18).updr (Nat.le_refl _) u19)
 have b9_23 := G22.has b9
 refine Runs.puts b9_23 rfl fun H21 b21 u21 => ?_
 have n2_21 := n2_19.upda (Av.of_base n2 (Nat.le_trans ((g7.trans g8)).size (Nat.le_refl _))) u21
 have n6_21 := n6_19.upda (Av.of_base n6 (Nat.le_trans ((g7.trans g8)).size (Nat.le_refl _))) u21
 have n15_21 := n15_19.upda (Av.of_own o15 (g10.has b9).lt) u21
 have n18_21 := n18_19.upda (Av.of_own o18 ((g10.trans g15).has b9).lt) u21
 have b7_21 := AH.has.updr b7_19 (Nat.ne_of_lt (Nat.lt_of_lt_of_le (g8.has b7).lt (Nat.le_refl _))) u21
 have b19_21 := AH.has.updr b19 (Nat.ne_of_gt (Nat.lt_of_lt_of_le (b9).lt (Nat.le_refl _))) u21
 refine Runs.step (AH.has.rd b21 0 rfl rfl) ?_
 refine Runs.step (AH.has.rd b21 1 rfl (asSl_v _)) ?_
 have z : kc a1 x2 x3 a4 x5 x6 = (((((kv a1 x2 ((fromI false x6).1) ((fromI false x6).2)).1))), (kv a1 x2 ((fromI false x6).1) ((fromI false x6).2)).2.1) := by unfold kc; exact rfl
 rw [z]
 have G24 := (((G16.trans g18).updr (Nat.le_trans (G20).size (Nat.le_refl _)) u19).updr (Nat.le_trans ((g7.trans g8)).size (Nat.le_refl _)) u21)
 exact Runs.ret ⟨s18, rfl, n18_21, G24, (o18.of_le G16)⟩
def kja (a1 : Bool) (x2 : List Nat) (x3 : List Nat) (a4 : Bool) (x5 : List Nat) (x6 : List Nat) : Bool × List Nat :=
 (((((kv a1 x2 ((fromI false x6).1) ((fromI false x6).2)).1))), (kv a1 x2 ((fromI false x6).1) ((fromI false x6).2)).2.1)
theorem k25 {h : AH} {a2 : Sl} {x2 : List Nat} {a3 : Sl} {x3 : List Nat} {a5 : Sl} {x5 : List Nat} {a6 : Sl} {x6 : List Nat} (n2 : Nats h a2 x2) (n3 : Nats h a3 x3) (n5 : Nats h a5 x5) (n6 : Nats h a6 x6) (a1 : Bool) (a4 : Bool) : Runs (go (.fn F.kgl [.agg [.bool a1, a2.v, a3.v], .agg [.bool a4, a5.v, a6.v]]) h) fun v h' => ∃ s1 : Sl, v = .agg [.bool (kja a1 x2 x3 a4 x5 x6).1, s1.v] ∧ Nats h' s1 ((kja a1 x2 x3 a4 x5 x6).2) ∧ Grow h h' ∧ Own h s1 := by
 rw [k2a]
 refine Runs.new fun H7 b7 g7 => ?_
 refine Runs.new fun H8 b8 g8 => ?_
 refine Runs.new fun H9 b9 g9 => ?_
 refine Runs.new fun H10 b10 g10 => ?_
 have G11 := ((g8.trans g9).trans g10)
 have b7_12 := G11.has b7
 refine Runs.step (AH.has.rd b7_12 0 rfl rfl) ?_
 refine Runs.step (AH.has.rd b7_12 1 rfl (asSl_v _)) ?_
 refine Runs.step (AH.has.rd ((g9.trans g10).has b8) 2 rfl (asSl_v _)) ?_
 have G13 := (((g7.trans g8).trans g9).trans g10)
 have n6_14 := n6.grow G13
 obtain ⟨s15, H15, e15, n15, g15, o15⟩ := kfi n6_14 false
 refine Runs.step e15 ?_
 refine Runs.step rfl ?_
 refine Runs.ifT rfl ?_
 refine Runs.step (seenAt rfl rfl) ?_
 refine Runs.step (seenAt rfl (asSl_v _)) ?_
 refine Runs.when (g15.same b7_12 0 2) ?_
 refine Runs.when (g15.same b10 0 0) ?_
 have G16 := (G13.trans g15)
 have n2_17 := n2.grow G16
 obtain ⟨_, H18, e18, s18, rfl, n18, g18, o18⟩ := ksf n2_17 n15 a1 ((fromI false x6).1)
 refine Runs.step e18 ?_
 refine Runs.step rfl ?_
 refine Runs.step rfl ?_
 refine Runs.ifT rfl ?_
 refine Runs.step (seenAt rfl rfl) ?_
 refine Runs.step (seenAt rfl (asSl_v _)) ?_
 refine Runs.step (seen (kb _ _)) ?_
 refine Runs.when (g18.same (g15.has b10) 0 0) ?_
 refine Runs.puts ((g15.trans g18).has b10) rfl fun H19 b19 u19 => ?_
 have G20 := ((g7.trans g8).trans g9)
 have n2_19 := (n2_17.grow g18).upda (Av.of_base n2 (Nat.le_trans (G20).size (Nat.le_refl _))) u19
 have n6_19 := (n6_14.grow (g15.trans g18)).upda (Av.of_base n6 (Nat.le_trans (G20).size (Nat.le_refl _))) u19
 have n15_19 := (n15.grow g18).upda (Av.of_own o15 (b10).lt) u19
 have n18_19 := n18.upda (Av.of_own o18 (g15.has b10).lt) u19
 have b7_19 := AH.has.updr ((g15.trans g18).has b7_12) (Nat.ne_of_lt (Nat.lt_of_lt_of_le ((g8.trans g9).has b7).lt (Nat.le_refl _))) u19
 refine Runs.step (AH.has.rd b19 0 rfl rfl) ?_
 refine Runs.step (AH.has.rd b19 1 rfl (asSl_v _)) ?_
 have G22 := (((g10.trans g15).trans g18).updr (Nat.le_refl _) u19)
 have b9_23 := G22.has b9
 refine Runs.puts b9_23 rfl fun H21 b21 u21 => ?_
 have n2_21 := n2_19.upda (Av.of_base n2 (Nat.le_trans ((g7.trans g8)).size (Nat.le_refl _))) u21
 have n6_21 := n6_19.upda (Av.of_base n6 (Nat.le_trans ((g7.trans g8)).size (Nat.le_refl _))) u21
 have n15_21 := n15_19.upda (Av.of_own o15 (g10.has b9).lt) u21
 have n18_21 := n18_19.upda (Av.of_own o18 ((g10.trans g15).has b9).lt) u21
 have b7_21 := AH.has.updr b7_19 (Nat.ne_of_lt (Nat.lt_of_lt_of_le (g8.has b7).lt (Nat.le_refl _))) u21
 have b19_21 := AH.has.updr b19 (Nat.ne_of_gt (Nat.lt_of_lt_of_le (b9).lt (Nat.le_refl _))) u21
 refine Runs.step (AH.has.rd b21 0 rfl rfl) ?_
 refine Runs.step (AH.has.rd b21 1 rfl (asSl_v _)) ?_
 have z : kja a1 x2 x3 a4 x5 x6 = (((((kv a1 x2 ((fromI false x6).1) ((fromI false x6).2)).1))), (kv a1 x2 ((fromI false x6).1) ((fromI false x6).2)).2.1) := by unfold kja; exact rfl
 rw [z]
 have G24 := (((G16.trans g18).updr (Nat.le_trans (G20).size (Nat.le_refl _)) u19).updr (Nat.le_trans ((g7.trans g8)).size (Nat.le_refl _)) u21)
 exact Runs.ret ⟨s18, rfl, n18_21, G24, (o18.of_le G16)⟩
theorem k4q : kch = kr := rfl
theorem khc {h : AH} {a2 : Sl} {x2 : List Nat} {a3 : Sl} {x3 : List Nat} (n2 : Nats h a2 x2) (n3 : Nats h a3 x3) (a1 : Bool) : Runs (go (.fn F.kek [.agg [.bool a1, a2.v, a3.v]]) h) fun v h' => v = .bool (kr a1 x2 x3) ∧ Grow h h' := by
 rw [← k4q]
 exact kxd n2 n3 a1
theorem k43 : kja = kc := rfl
theorem kkh {h : AH} {a2 : Sl} {x2 : List Nat} {a3 : Sl} {x3 : List Nat} {a5 : Sl} {x5 : List Nat} {a6 : Sl} {x6 : List Nat} (n2 : Nats h a2 x2) (n3 : Nats h a3 x3) (n5 : Nats h a5 x5) (n6 : Nats h a6 x6) (a1 : Bool) (a4 : Bool) : Runs (go (.fn F.kgl [.agg [.bool a1, a2.v, a3.v], .agg [.bool a4, a5.v, a6.v]]) h) fun v h' => ∃ s1 : Sl, v = .agg [.bool (kc a1 x2 x3 a4 x5 x6).1, s1.v] ∧ Nats h' s1 ((kc a1 x2 x3 a4 x5 x6).2) ∧ Grow h h' ∧ Own h s1 := by
 rw [← k43]
 exact k25 n2 n3 n5 n6 a1 a4
theorem k5j : kb0 = kp := by
 funext p xs ys
 unfold kb0 kp
 congr 3
 generalize ((divN xs (gcdN xs ys).fst).fst.length : Int) = u
 generalize ((divN ys (gcdN xs ys).fst).fst.length : Int) = v
 generalize (fromI p (divN xs (gcdN xs ys).fst).fst) = w
 have k : decide (imax u v > 16) = (decide (u > 16) || decide (v > 16)) := by
  rw [kof, Bool.eq_iff_iff]
  simp only [Bool.or_eq_true, decide_eq_true_eq]
  omega
 rw [k]
 cases decide (u > 16) <;> cases decide (v > 16) <;> rfl
theorem kpp {h : AH} {a2 : Sl} {x2 : List Nat} {a3 : Sl} {x3 : List Nat} (n2 : Nats h a2 x2) (n3 : Nats h a3 x3) (a1 : Bool) : Runs (go (.fn F.kg4 [.agg [.bool a1, a2.v], a3.v]) h) fun v h' => ∃ s1 : Sl, ∃ s2 : Sl, v = .tup [.agg [.bool (kp a1 x2 x3).1, s1.v, s2.v], .int .i64 (kp a1 x2 x3).2.2.2] ∧ Nats h' s1 ((kp a1 x2 x3).2.1) ∧ Nats h' s2 ((kp a1 x2 x3).2.2.1) ∧ Grow h h' ∧ Own h s1 ∧ Own h s2 := by
 rw [← k5j]
 exact kxp n2 n3 a1
end Go.Ab

/- squeezed -/
set_option linter.unusedVariables false
set_option linter.unusedSimpArgs false
set_option maxRecDepth 10000
namespace Go.Ab
open Go.Proofs Go.Num
abbrev FRow := Bool × (Sl × List Nat) × (Sl × List Nat)
structure FRows (h : AH) (s : Sl) (rows : List FRow) : Prop where
 cells : Cells h s 3 (rows.flatMap fun p => [.bool p.1, p.2.1.1.v, p.2.2.1.v])
 num : ∀ p ∈ rows, Nats h p.2.1.1 p.2.1.2
 den : ∀ p ∈ rows, Nats h p.2.2.1 p.2.2.2
 short : rows.length ≤ 9223372036854775807
theorem FRows.grow {h h' : AH} (g : Grow h h') {s : Sl} {rows : List FRow} (n : FRows h s rows) : FRows h' s rows := ⟨n.cells.grow g, fun p hp => (n.num p hp).grow g, fun p hp => (n.den p hp).grow g, n.short⟩
theorem ktm : ∀ (rows : List FRow) (i : Nat) (hi : i < rows.length),
  (rows.flatMap fun p => [AV.bool p.1, p.2.1.1.v, p.2.2.1.v])[i * 3]? = some (AV.bool rows[i].1) ∧ (rows.flatMap fun p => [AV.bool p.1, p.2.1.1.v, p.2.2.1.v])[i * 3 + 1]? = some rows[i].2.1.1.v ∧ (rows.flatMap fun p => [AV.bool p.1, p.2.1.1.v, p.2.2.1.v])[i * 3 + 2]? = some rows[i].2.2.1.v
 | [], i, hi => by simp at hi
 | p :: rows, 0, hi => by simp
 | p :: rows, i + 1, hi => by
  have := ktm rows i (by simpa using hi)
  rw [show (i + 1) * 3 = i * 3 + 3 from by omega]
  simpa using this
theorem FRows.len {h : AH} {s : Sl} {rows : List FRow} (n : FRows h s rows) : s.len = rows.length := by
 have := n.cells.len
 have hl : (rows.flatMap fun p => [AV.bool p.1, p.2.1.1.v, p.2.2.1.v]).length = rows.length * 3 := by
  generalize rows = l
  induction l with
  | nil => rfl
  | cons a l ih => rw [List.flatMap_cons, List.length_append, ih]; simp; omega
 omega
theorem FRows.at {h : AH} {s : Sl} {rows : List FRow} (n : FRows h s rows) {i : Nat} (hi : i < rows.length) : ∃ r, idx s.ref s.len (i : Int) 3 = some r ∧ h.cell (r.add 0) = some (.bool rows[i].1) ∧ h.cell (r.add 1) = some rows[i].2.1.1.v ∧ h.cell (r.add 2) = some rows[i].2.2.1.v := by
 obtain ⟨p1, p2, p3⟩ := ktm rows i hi
 obtain ⟨r, e1, e2⟩ := n.cells.get _ _ p1
 obtain ⟨r', e3, e4⟩ := n.cells.get _ _ p2
 obtain ⟨r'', e5, e6⟩ := n.cells.get _ _ p3
 rw [e1] at e3 e5
 cases e3
 cases e5
 refine ⟨r.add (i * 3), ?_, by simpa using e2, by rw [Ref.add_add]; exact e4, by rw [Ref.add_add]; exact e6⟩
 rw [e1, kc2 _ _ _ _ (by omega) (by rw [n.len]; omega)]
 simp
theorem FRows.one {h : AH} {i : Nat} {a a' : Sl} {xs xs' : List Nat} {p : Bool} (c : h.has i [.bool p, a.v, a'.v] T.kj) (n : Nats h a xs) (n' : Nats h a' xs') : FRows h ⟨some (.new i 0), 1, .is 1⟩ [(p, (a, xs), (a', xs'))] := ⟨Cells.of_has c rfl, fun r hr => by
  simp at hr
  subst hr
  exact n, fun r hr => by
  simp at hr
  subst hr
  exact n', by simp⟩
theorem FRows.two {h : AH} {i : Nat} {a a' b b' : Sl} {xs xs' ys ys' : List Nat} {p q : Bool} (c : h.has i [.bool p, a.v, a'.v, .bool q, b.v, b'.v] T.kj) (n : Nats h a xs) (n' : Nats h a' xs') (m : Nats h b ys) (m' : Nats h b' ys') :
  FRows h ⟨some (.new i 0), 2, .is 2⟩ [(p, (a, xs), (a', xs')), (q, (b, ys), (b', ys'))] := ⟨Cells.of_has c rfl, fun r hr => by
  simp at hr
  rcases hr with rfl | rfl
  ·exact n
  ·exact m, fun r hr => by
  simp at hr
  rcases hr with rfl | rfl
  ·exact n'
  ·exact m', by simp⟩
theorem kz2 {h : AH} {s t : Sl} {xs ys : List Nat} (n : Nats h s xs) (m : Nats h t ys) (neg : Bool) : ∃ h', go (.fn F.kdb [.agg [.bool neg, s.v, t.v]]) h = some (.bool (!kr neg xs ys), h') ∧ Grow h h' := by
 rw [kzj]
 simp only [kbg]
 have b0 := AH.has_push h [.bool neg, s.v, t.v] T.kj
 have g0 := Grow.push h (.cells [.bool neg, s.v, t.v] T.kj)
 generalize h.push (.cells [.bool neg, s.v, t.v] T.kj) = h0 at *
 obtain ⟨_, h1, e1, rfl, g1⟩ := kym (n.grow g0) (m.grow g0) neg
 exact ⟨h1, by simp [b0.cell, e1], g0.trans g1⟩
theorem ktr {s : Sl} {rows : List FRow} : ∀ (k i : Nat), i + k = rows.length → ∀ {h : AH}, FRows h s rows →
  ∃ (j : Int) (h' : AH), go (.pt F.khf Td.kku [(0, s.v), (1, .func (.func F.kdb) [] []), (7, .int .i64 (rows.length : Int)), (8, .int .i64 (i : Int))]) h = some (.int .i64 j, h') ∧
   (j ≥ 0 ↔ (rows.drop i).all (fun p => kr p.1 p.2.1.2 p.2.2.2) = false) ∧ Grow h h'
 | 0, i, hi, h, n => by
  rw [ks5, show decide ((i : Int) < (rows.length : Int)) = false from by rw [decide_eq_false_iff_not]; omega, List.drop_of_length_le (by omega)]
  exact ⟨-1, h, rfl, by simp, Grow.refl h⟩
 | k + 1, i, hi, h, n => by
  have hs := n.short
  obtain ⟨r, e1, e2, e3, e3'⟩ := n.at (i := i) (by omega)
  have hp := n.num rows[i] (List.getElem_mem _)
  have hq := n.den rows[i] (List.getElem_mem _)
  obtain ⟨h1, e4, g1⟩ := kz2 hp hq rows[i].1
  rw [ks5, show decide ((i : Int) < (rows.length : Int)) = true from by rw [decide_eq_true_eq]; omega, cond_true, e1]
  simp only [Option.bind_some, e2, e3, e3', asSl_v, kbd, e4]
  rw [List.drop_eq_getElem_cons (by omega), List.all_cons, kbb (by omega)]
  cases hr : kr rows[i].1 (rows[i].2.1.2) (rows[i].2.2.2) with
  | false => exact ⟨(i : Int), h1, rfl, by simp, g1⟩
  | true =>
   obtain ⟨j, h2, e5, e6, g2⟩ := ktr k (i + 1) (by omega) (n.grow g1)
   exact ⟨j, h2, e5, by simpa using e6, g1.trans g2⟩
theorem kwu {h : AH} {s : Sl} {rows : List FRow} (n : FRows h s rows) : ∃ h', go (.fn F.kgx [s.v]) h = some (.bool (rows.all fun p => kr p.1 p.2.1.2 p.2.2.2), h') ∧ Grow h h' := by
 obtain ⟨j, h', e1, e2, g⟩ := ktr rows.length 0 (by omega) n
 refine ⟨h', ?_, g⟩
 rw [k5y, kz7, k0d, n.len]
 rw [show (0 : Int) = ((0 : Nat) : Int) from rfl, e1]
 simp only [Option.bind_some, kb, kbd]
 rw [List.drop_zero] at e2
 cases ha : rows.all fun p => kr p.1 p.2.1.2 p.2.2.2 with
 | false => rw [ha] at e2; simp at e2; simp; omega
 | true => rw [ha] at e2; simp at e2; simp; omega
theorem kox {h : AH} {i : Nat} {a a' b b' : Sl} {xs xs' ys ys' : List Nat} {p q : Bool} (c : h.has i [.bool p, a.v, a'.v, .bool q, b.v, b'.v] T.kj) (n : Nats h a xs) (n' : Nats h a' xs') (m : Nats h b ys) (m' : Nats h b' ys') :
  ∃ h', go (.fn F.kgx [(⟨some (.new i 0), 2, .is 2⟩ : Sl).v]) h = some (.bool (kr p xs xs' && kr q ys ys'), h') ∧ Grow h h' := by
 obtain ⟨h', e, g⟩ := kwu (FRows.two c n n' m m')
 exact ⟨h', by rw [e]; simp, g⟩
end Go.Ab
