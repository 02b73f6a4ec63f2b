/- squeezed -/
import Derived.Test.YtpbgcebgmgjnjaaPS32a
import Derived.Test.YtpbgcebgmgjnjaaPAbsQ

set_option linter.unusedVariables false
set_option linter.unusedSimpArgs false
set_option maxRecDepth 10000
namespace Go.Ab
open Go.Proofs Go.Num
def fracM (z : Int) (d : Nat) : Bool × List Nat × List Nat × Int :=
 if z.natAbs / Nat.gcd z.natAbs d < B ^ 16 ∧ d / Nat.gcd z.natAbs d < B ^ 16 then ((intD (z / (Nat.gcd z.natAbs d : Int))).1, (intD (z / (Nat.gcd z.natAbs d : Int))).2, digs B (d / Nat.gcd z.natAbs d), 0) else (false, [], [], 4)
theorem khw (m : Nat) : decide ((List.length (digs B m) : Int) > 16) = !decide (m < B ^ 16) := by
 have h := kbj B2 m 16
 by_cases k : m < B ^ 16
 ·have := h.2 k
  rw [decide_eq_true k, decide_eq_false_iff_not.2 (by omega)]
  rfl
 ·have : ¬ (digs B m).length ≤ 16 := fun e => k (h.1 e)
  rw [decide_eq_false k, decide_eq_true_iff.2 (by omega)]
  rfl
theorem ko7 {a b : Nat} (ha : a < B ^ 64) (hb : b < B ^ 64) : gcdN (digs B a) (digs B b) = (digs B (Nat.gcd a b), 0) := by
 unfold gcdN
 rw [if_pos ⟨kba ha, kba hb⟩, kj B2, kj B2]
theorem koe {a b : Nat} (ha : a < B ^ 64) (hb : b < B ^ 64) (h0 : b ≠ 0) : divN (digs B a) (digs B b) = (digs B (a / b), digs B (a % b), 0) := by
 unfold divN
 rw [if_pos ⟨kba ha, kba hb⟩, if_neg (fun e => h0 ((kfo B2).1 e)), kj B2, kj B2]
theorem kso {z : Int} {g : Nat} (h0 : 0 < g) (h : g ∣ z.natAbs) : z / (g : Int) = if z < 0 then -((z.natAbs / g : Nat) : Int) else ((z.natAbs / g : Nat) : Int) := by
 obtain ⟨k, hk⟩ := h
 rw [hk, Nat.mul_div_cancel_left _ h0]
 have hg : (g : Int) ≠ 0 := by omega
 by_cases hz : z < 0
 ·rw [if_pos hz]
  have : z = (g : Int) * (-(k : Int)) := by
   rw [Int.mul_neg, ← Int.natCast_mul, ← hk]
   omega
  rw [this, Int.mul_ediv_cancel_left _ hg]
 ·rw [if_neg hz]
  have : z = (g : Int) * (k : Int) := by
   rw [← Int.natCast_mul, ← hk]
   omega
  rw [this, Int.mul_ediv_cancel_left _ hg]
theorem kjp {z : Int} {d : Nat} (hz : z.natAbs < B ^ 64) (hd : d < B ^ 64) (h0 : d ≠ 0) : kr (intD z).1 (intD z).2 (digs B d) = fracM z d := by
 unfold kr fracM
 have hg0 : 0 < Nat.gcd z.natAbs d := Nat.gcd_pos_of_pos_right _ (by omega)
 have hgd : Nat.gcd z.natAbs d ≤ d := Nat.gcd_le_right _ (by omega)
 rw [kcw hz, kba hd]
 have e2 : (intD z).2 = digs B z.natAbs := rfl
 have hq1 : z.natAbs / Nat.gcd z.natAbs d < B ^ 64 := Nat.lt_of_le_of_lt (Nat.div_le_self _ _) hz
 have hq2 : d / Nat.gcd z.natAbs d < B ^ 64 := Nat.lt_of_le_of_lt (Nat.div_le_self _ _) hd
 rw [e2, ko7 hz hd]
 have hgb : Nat.gcd z.natAbs d < B ^ 64 := by omega
 simp only [Bool.not_true, cond_false]
 rw [koe hz hgb (by omega), koe hd hgb (by omega), kn2, decide_eq_false (fun e => h0 ((kfo B2).1 e)), cond_false]
 dsimp only
 have k : ∀ u v : Int, decide (imax u v > 16) = (decide (u > 16) || decide (v > 16)) := by
  intro u v
  rw [kn6, Bool.eq_iff_iff]
  simp only [Bool.or_eq_true, decide_eq_true_eq]
  omega
 rw [k, khw, khw, kd4 hq1, kso hg0 (Nat.gcd_dvd_left _ _)]
 have s : (intD z).1 = decide (z < 0) := rfl
 rw [s]
 simp only [decide_eq_true_eq]
 generalize (if z < 0 then -((z.natAbs / Nat.gcd z.natAbs d : Nat) : Int) else ((z.natAbs / Nat.gcd z.natAbs d : Nat) : Int)) = y
 by_cases c1 : z.natAbs / Nat.gcd z.natAbs d < B ^ 16
 ·by_cases c2 : d / Nat.gcd z.natAbs d < B ^ 16
  ·rw [if_pos ⟨c1, c2⟩, decide_eq_true c1, decide_eq_true c2]
   rfl
  ·rw [if_neg (fun h => c2 h.2), decide_eq_false c2, decide_eq_true c1]
   rfl
 ·rw [if_neg (fun h => c1 h.1), decide_eq_false c1]
  rfl
structure IsFrac (p : Bool) (xs ys : List Nat) (z : Int) (d : Nat) : Prop where
 p : p = (intD z).1
 xs : xs = (intD z).2
 ys : ys = digs B d
 pos : 0 < d
 zlt : z.natAbs < B ^ 16
 dlt : d < B ^ 16
 co : Nat.gcd z.natAbs d = 1
theorem koy {z : Int} {d : Nat} (hz : z.natAbs < B ^ 64) (hd : d < B ^ 64) : ku (intD z).1 (intD z).2 (digs B d) = decide (0 < d ∧ z.natAbs < B ^ 16 ∧ d < B ^ 16 ∧ Nat.gcd z.natAbs d = 1) := by
 unfold ku
 rw [kcw hz, kba hd]
 have e2 : (intD z).2 = digs B z.natAbs := rfl
 rw [e2, ko7 hz hd, kn2, khw, khw]
 simp only [Bool.not_true, cond_false]
 by_cases c0 : d = 0
 ·subst c0
  rw [kcd]
  simp
 ·rw [decide_eq_false (fun e => c0 ((kfo B2).1 e)), cond_false]
  by_cases c2 : d < B ^ 16
  ·rw [decide_eq_true c2]
   by_cases c1 : z.natAbs < B ^ 16
   ·rw [decide_eq_true c1]
    simp only [Bool.not_true, cond_false]
    have hg : Nat.gcd z.natAbs d < B ^ 64 := by
     have := Nat.gcd_le_right z.natAbs (n := d) (by omega)
     omega
    unfold cmpN
    rw [if_pos ⟨kba hg, by decide +kernel⟩, kj B2]
    rw [show num B [1] = 1 from by decide +kernel]
    unfold cmp
    by_cases h1 : Nat.gcd z.natAbs d < 1
    ·rw [if_pos h1, decide_eq_false (by decide), decide_eq_false]
     intro h
     omega
    ·rw [if_neg h1]
     by_cases h2 : Nat.gcd z.natAbs d = 1
     ·rw [if_pos h2, decide_eq_true rfl, decide_eq_true]
      exact ⟨by omega, c1, c2, h2⟩
     ·rw [if_neg h2, decide_eq_false (by decide), decide_eq_false]
      exact fun h => h2 h.2.2.2
   ·rw [decide_eq_false c1]
    simp only [Bool.not_true, cond_false, Bool.not_false, cond_true]
    symm
    rw [decide_eq_false_iff_not]
    exact fun h => c1 h.2.1
  ·rw [decide_eq_false c2]
   simp only [Bool.not_false, cond_true]
   symm
   rw [decide_eq_false_iff_not]
   exact fun h => c2 h.2.2.1
theorem keb {n : Nat} (h : n < B ^ 16) : n < B ^ 64 := Nat.lt_of_lt_of_le h (Nat.pow_le_pow_right (by decide) (by decide))
theorem IsFrac.right {p : Bool} {xs ys : List Nat} {z : Int} {d : Nat} (f : IsFrac p xs ys z d) : ku p xs ys = true := by
 obtain ⟨rfl, rfl, rfl, h0, h1, h2, h3⟩ := f
 rw [koy (keb h1) (keb h2), decide_eq_true_eq]
 exact ⟨h0, h1, h2, h3⟩
theorem IsFrac.of {p : Bool} {xs ys : List Nat} (lx : ∀ x ∈ xs, x < B) (ly : ∀ x ∈ ys, x < B) (h : ku p xs ys = true) : ∃ (z : Int) (d : Nat), IsFrac p xs ys z d := by
 have h1 : rtI p xs = true := by
  cases e : rtI p xs with
  | true => rfl
  | false =>
   unfold ku at h
   rw [e] at h
   cases h
 have h2 : rt ys = true := by
  cases e : rt ys with
  | true => rfl
  | false =>
   unfold ku at h
   rw [e, h1] at h
   cases h
 obtain ⟨z, rfl, rfl, hz⟩ := of_rtI lx h1
 have hd := kil ly h2
 have e : ys = digs B (num B ys) := (kd5 B2 ly (rt_iff.1 h2).2).symm
 rw [e, koy hz hd, decide_eq_true_eq] at h
 exact ⟨z, num B ys, rfl, rfl, e, h.1, h.2.1, h.2.2.1, h.2.2.2⟩
theorem mul16 {a b : Nat} (ha : a < B ^ 16) (hb : b < B ^ 16) : a * b < B ^ 16 * B ^ 16 := Nat.mul_lt_mul'' ha hb
theorem B32_64 : B ^ 16 * B ^ 16 * 2 ≤ B ^ 64 := by decide +kernel
theorem kfr {p q : Bool} {xs ys us vs : List Nat} {z w : Int} {d e : Nat} (f : IsFrac p xs ys z d) (k : IsFrac q us vs w e) : kc p xs ys q us vs = intD (z * (e : Int)) ∧ (z * (e : Int)).natAbs < B ^ 16 * B ^ 16 := by
 have hb : (z * (e : Int)).natAbs < B ^ 16 * B ^ 16 := by
  rw [Int.natAbs_mul, Int.natAbs_natCast]
  exact mul16 f.zlt k.dlt
 refine ⟨?_, hb⟩
 unfold kc
 rw [k.ys, kd4 (keb k.dlt), f.p, f.xs]
 simp only [Bool.false_eq_true, if_false]
 have h64 := B32_64
 rw [kor (keb f.zlt) (by simpa using keb k.dlt), if_pos (by omega)]
theorem kn3 {d e : Nat} (hd : d < B ^ 16) (he : e < B ^ 16) : mulN (digs B d) (digs B e) = (digs B (d * e), 0) := by
 unfold mulN
 rw [if_pos ⟨kba (keb hd), kba (keb he)⟩, kj B2, kj B2, kk8]
 have := mul16 hd he
 have := B32_64
 omega
theorem Add_of {p q : Bool} {xs ys us vs : List Nat} {z w : Int} {d e : Nat} (f : IsFrac p xs ys z d) (k : IsFrac q us vs w e) : kco p xs ys q us vs = fracM (z * (e : Int) + w * (d : Int)) (d * e) := by
 unfold kco kbn
 rw [f.right, k.right]
 obtain ⟨o1, b1⟩ := kfr f k
 obtain ⟨o2, b2⟩ := kfr k f
 have h64 := B32_64
 rw [o1, o2, kmx (by omega) (by omega), if_pos (by omega)]
 dsimp only [Bool.and_self, Bool.not_true, cond_false]
 have hb := mul16 f.dlt k.dlt
 have hp := Nat.mul_pos f.pos k.pos
 rw [f.ys, k.ys, kn3 f.dlt k.dlt]
 dsimp only
 rw [kjp (by omega) (by omega) (by omega)]
 generalize fracM _ _ = r
 obtain ⟨r1, r2, r3, r4⟩ := r
 rfl
theorem Sub_of {p q : Bool} {xs ys us vs : List Nat} {z w : Int} {d e : Nat} (f : IsFrac p xs ys z d) (k : IsFrac q us vs w e) : kcv p xs ys q us vs = fracM (z * (e : Int) - w * (d : Int)) (d * e) := by
 unfold kcv kbo
 rw [f.right, k.right]
 obtain ⟨o1, b1⟩ := kfr f k
 obtain ⟨o2, b2⟩ := kfr k f
 have h64 := B32_64
 rw [o1, o2, kt1 (by omega) (by omega), if_pos (by omega)]
 dsimp only [Bool.and_self, Bool.not_true, cond_false]
 have hb := mul16 f.dlt k.dlt
 have hp := Nat.mul_pos f.pos k.pos
 rw [f.ys, k.ys, kn3 f.dlt k.dlt]
 dsimp only
 rw [kjp (by omega) (by omega) (by omega)]
 generalize fracM _ _ = r
 obtain ⟨r1, r2, r3, r4⟩ := r
 rfl
theorem Cmp_of {p q : Bool} {xs ys us vs : List Nat} {z w : Int} {d e : Nat} (f : IsFrac p xs ys z d) (k : IsFrac q us vs w e) : kcs p xs ys q us vs = if z * (e : Int) < w * (d : Int) then -1 else if z * (e : Int) = w * (d : Int) then 0 else 1 := by
 unfold kcs
 rw [f.right, k.right]
 obtain ⟨o1, b1⟩ := kfr f k
 obtain ⟨o2, b2⟩ := kfr k f
 have h64 := B32_64
 rw [o1, o2, ktt (by omega) (by omega)]
 rfl
theorem IsFrac.neg {q : Bool} {us vs : List Nat} {w : Int} {e : Nat} (k : IsFrac q us vs w e) : IsFrac (negI q us).1 (negI q us).2 vs (-w) e := by
 have := kql (keb k.zlt)
 rw [k.p, k.xs, this]
 exact ⟨rfl, rfl, k.ys, k.pos, by rw [Int.natAbs_neg]; exact k.zlt, k.dlt, by rw [Int.natAbs_neg]; exact k.co⟩
end Go.Ab

/- squeezed -/
set_option linter.unusedVariables false
set_option linter.unusedSimpArgs false
set_option maxRecDepth 10000
namespace Go.Ab
open Go.Proofs Go.Num
theorem ksr {z : Int} {d : Nat} (hd : 0 < d) (h : (fracM z d).2.2.2 = 0) : ∃ (w : Int) (e : Nat), fracM z d = ((intD w).1, (intD w).2, digs B e, 0) ∧ IsFrac (fracM z d).1 (fracM z d).2.1 (fracM z d).2.2.1 w e ∧ w * (d : Int) = z * (e : Int) ∧ ∃ g : Nat, 0 < g ∧ z = w * (g : Int) ∧ d = g * e := by
 unfold fracM at h ⊢
 have hg0 : 0 < Nat.gcd z.natAbs d := Nat.gcd_pos_of_pos_right _ hd
 by_cases c : z.natAbs / Nat.gcd z.natAbs d < B ^ 16 ∧ d / Nat.gcd z.natAbs d < B ^ 16
 ·rw [if_pos c]
  obtain ⟨a, ha⟩ := Nat.gcd_dvd_left z.natAbs d
  obtain ⟨b, hb⟩ := Nat.gcd_dvd_right z.natAbs d
  have hz : z / (Nat.gcd z.natAbs d : Int) * (Nat.gcd z.natAbs d : Int) = z := Int.ediv_mul_cancel (Int.ofNat_dvd_left.2 (Nat.gcd_dvd_left _ _))
  have hq1 : z.natAbs / Nat.gcd z.natAbs d = a := by
   have := Nat.mul_div_cancel_left a hg0
   rwa [← ha] at this
  have hq2 : d / Nat.gcd z.natAbs d = b := by
   have := Nat.mul_div_cancel_left b hg0
   rwa [← hb] at this
  rw [hq1, hq2] at c
  rw [hq2]
  have hw : (z / (Nat.gcd z.natAbs d : Int)).natAbs = a := by
   have h5 : (z / (Nat.gcd z.natAbs d : Int)).natAbs * Nat.gcd z.natAbs d = Nat.gcd z.natAbs d * a := by
    have := congrArg Int.natAbs hz
    rw [Int.natAbs_mul, Int.natAbs_natCast] at this
    rw [this]
    exact ha
   rw [Nat.mul_comm] at h5
   exact Nat.eq_of_mul_eq_mul_left hg0 h5
  generalize z / (Nat.gcd z.natAbs d : Int) = w at *
  have hb0 : 0 < b := by
   rcases Nat.eq_zero_or_pos b with e | e
   ·subst e
    omega
   ·exact e
  have co : Nat.gcd a b = 1 := by
   have h6 : Nat.gcd z.natAbs d = Nat.gcd a b * Nat.gcd z.natAbs d := by
    have := Nat.gcd_mul_left (Nat.gcd z.natAbs d) a b
    rw [← ha, ← hb] at this
    rw [Nat.mul_comm]
    exact this
   have : 1 * Nat.gcd z.natAbs d = Nat.gcd a b * Nat.gcd z.natAbs d := by rw [Nat.one_mul]; exact h6
   exact (Nat.eq_of_mul_eq_mul_right hg0 this).symm
  refine ⟨w, b, rfl, ⟨rfl, rfl, rfl, hb0, by rw [hw]; exact c.1, c.2, by rw [hw]; exact co⟩, ?_, Nat.gcd z.natAbs d, hg0, hz.symm, hb⟩
  have e1 : (d : Int) = (Nat.gcd z.natAbs d : Int) * (b : Int) := by rw [← Int.natCast_mul, ← hb]
  rw [e1, ← Int.mul_assoc, hz]
 ·rw [if_neg c] at h
  cases h
end Go.Ab

/- squeezed -/
set_option linter.unusedVariables false
set_option linter.unusedSimpArgs false
set_option maxRecDepth 10000
namespace Go.Ab
open Go.Proofs Go.Num
end Go.Ab

/- squeezed -/
set_option linter.unusedVariables false
set_option linter.unusedSimpArgs false
set_option maxRecDepth 10000
namespace Go.Ab
open Go.Proofs Go.Num
end Go.Ab

/- squeezed -/
set_option linter.unusedVariables false
set_option linter.unusedSimpArgs false
set_option maxRecDepth 10000
namespace Go.Ab
open Go.Proofs Go.Num
end Go.Ab

/- squeezed -/
set_option linter.unusedVariables false
set_option linter.unusedSimpArgs false
set_option maxRecDepth 10000
namespace Go.Ab
open Go.Proofs Go.Num
end Go.Ab

/- squeezed -/
set_option linter.unusedVariables false
set_option linter.unusedSimpArgs false
set_option maxRecDepth 10000
namespace Go.Ab
open Go.Proofs Go.Num
end Go.Ab

/- squeezed -/
set_option linter.unusedVariables false
set_option linter.unusedSimpArgs false
set_option maxRecDepth 10000
namespace Go.Ab
open Go.Proofs Go.Num
def kv (a1 : Int) (a2 : Int) : Bool :=
 cond (decide (a1 ≥ (-1099511627776))) (cond (decide (a1 ≤ 1099511627776)) (cond (decide (a2 ≥ 0)) (decide (a2 ≤ 1048576)) (false)) (false)) (false)
theorem khf {h : AH}   (a1 : Int) (a2 : Int) : Runs (go (.fn F.ke6 [.agg [.int .i64 a1, .int .i64 a2]]) h) fun v h' => v = .bool (kv a1 a2) ∧ Grow h h' := by
 rw [kvw]
 refine Runs.new fun H3 b3 g3 => ?_
 refine Runs.step (AH.has.rd b3 0 rfl (kb _ _)) ?_
 refine Runs.cond (fun k4 => ?_) (fun k4 => ?_)
 ·refine Runs.step (AH.has.rd b3 0 rfl (kb _ _)) ?_
  refine Runs.cond (fun k5 => ?_) (fun k5 => ?_)
  ·refine Runs.step (AH.has.rd b3 1 rfl (kb _ _)) ?_
   refine Runs.cond (fun k6 => ?_) (fun k6 => ?_)
   ·refine Runs.step (AH.has.rd b3 1 rfl (kb _ _)) ?_
    have z : kv a1 a2 = decide (a2 ≤ 1048576) := by unfold kv; exact (condT k4).trans ((condT k5).trans ((condT k6).trans rfl))
    rw [z]
    exact Runs.ret ⟨rfl, g3⟩
   ·have z : kv a1 a2 = false := by unfold kv; exact (condT k4).trans ((condT k5).trans ((condF k6).trans rfl))
    rw [z]
    exact Runs.ret ⟨rfl, g3⟩
  ·have z : kv a1 a2 = false := by unfold kv; exact (condT k4).trans ((condF k5).trans rfl)
   rw [z]
   exact Runs.ret ⟨rfl, g3⟩
 ·have z : kv a1 a2 = false := by unfold kv; exact (condF k4).trans rfl
  rw [z]
  exact Runs.ret ⟨rfl, g3⟩
def kx (a1 : Int) : Bool :=
 cond (decide (a1 ≥ 1)) (decide (a1 ≤ 1048576)) (false)
theorem kly {h : AH}   (a1 : Int) : Runs (go (.fn F.kgf [.int .i64 a1]) h) fun v h' => v = .bool (kx a1) ∧ Grow h h' := by
 rw [kws]
 refine Runs.cond (fun k2 => ?_) (fun k2 => ?_)
 ·have z : kx a1 = decide (a1 ≤ 1048576) := by unfold kx; exact (condT k2).trans rfl
  rw [z]
  exact Runs.ret ⟨rfl, (Grow.refl _)⟩
 ·have z : kx a1 = false := by unfold kx; exact (condF k2).trans rfl
  rw [z]
  exact Runs.ret ⟨rfl, (Grow.refl _)⟩
def kp (a1 : Int) (a2 : Int) (a3 : Int) (a4 : Int) : Int × Int × Bool :=
 cond (!((kv a1 a2))) ((0, 0, false)) (cond (!((kv a3 a4))) ((0, 0, false)) ((((IntKind.wrap .i64 (a3 - a1))), ((IntKind.wrap .i64 (a4 - a2))), ((kv (IntKind.wrap .i64 (a3 - a1)) (IntKind.wrap .i64 (a4 - a2)))))))
theorem kt8 {h : AH}   (a1 : Int) (a2 : Int) (a3 : Int) (a4 : Int) : Runs (go (.fn F.kj7 [.agg [.int .i64 a1, .int .i64 a2], .agg [.int .i64 a3, .int .i64 a4]]) h) fun v h' => v = .tup [.agg [.int .i64 (kp a1 a2 a3 a4).1, .int .i64 (kp a1 a2 a3 a4).2.1], .bool (kp a1 a2 a3 a4).2.2] ∧ Grow h h' := by
 rw [ky0]
 refine Runs.new fun H5 b5 g5 => ?_
 refine Runs.new fun H6 b6 g6 => ?_
 refine Runs.new fun H7 b7 g7 => ?_
 refine Runs.step (AH.has.rd ((g6.trans g7).has b5) 0 rfl (kb _ _)) ?_
 refine Runs.step (AH.has.rd ((g6.trans g7).has b5) 1 rfl (kb _ _)) ?_
 obtain ⟨_, H8, e8, rfl, g8⟩ := khf a1 a2
 refine Runs.step e8 ?_
 refine Runs.step (seen rfl) ?_
 refine Runs.cond (fun k9 => ?_) (fun k9 => ?_)
 ·refine Runs.puts (g8.has b7) rfl fun H10 b10 u10 => ?_
  refine Runs.step (AH.has.rd b10 0 rfl (kb _ _)) ?_
  refine Runs.step (AH.has.rd b10 1 rfl (kb _ _)) ?_
  have z : kp a1 a2 a3 a4 = (0, 0, false) := by unfold kp; exact (condT k9).trans rfl
  rw [z]
  have G11 := ((((g5.trans g6).trans g7).trans g8).updr (Nat.le_trans ((g5.trans g6)).size (Nat.le_refl _)) u10)
  exact Runs.ret ⟨rfl, G11⟩
 ·refine Runs.step (AH.has.rd ((g7.trans g8).has b6) 0 rfl (kb _ _)) ?_
  refine Runs.step (AH.has.rd ((g7.trans g8).has b6) 1 rfl (kb _ _)) ?_
  obtain ⟨_, H10, e10, rfl, g10⟩ := khf a3 a4
  refine Runs.step e10 ?_
  refine Runs.step (seen rfl) ?_
  refine Runs.cond (fun k11 => ?_) (fun k11 => ?_)
  ·refine Runs.puts ((g8.trans g10).has b7) rfl fun H12 b12 u12 => ?_
   refine Runs.step (AH.has.rd b12 0 rfl (kb _ _)) ?_
   refine Runs.step (AH.has.rd b12 1 rfl (kb _ _)) ?_
   have z : kp a1 a2 a3 a4 = (0, 0, false) := by unfold kp; exact (condF k9).trans ((condT k11).trans rfl)
   rw [z]
   have G13 := (((((g5.trans g6).trans g7).trans g8).trans g10).updr (Nat.le_trans ((g5.trans g6)).size (Nat.le_refl _)) u12)
   exact Runs.ret ⟨rfl, G13⟩
  ·have G12 := ((g7.trans g8).trans g10)
   have b6_13 := G12.has b6
   refine Runs.step (AH.has.rd b6_13 0 rfl (kb _ _)) ?_
   have G14 := (((g6.trans g7).trans g8).trans g10)
   have b5_15 := G14.has b5
   refine Runs.step (AH.has.rd b5_15 0 rfl (kb _ _)) ?_
   refine Runs.step (AH.has.rd b6_13 1 rfl (kb _ _)) ?_
   refine Runs.step (AH.has.rd b5_15 1 rfl (kb _ _)) ?_
   refine Runs.new fun H16 b16 g16 => ?_
   refine Runs.puts b16 rfl fun H17 b17 u17 => ?_
   refine Runs.step (AH.has.rd b17 0 rfl (kb _ _)) ?_
   refine Runs.step (AH.has.rd b17 1 rfl (kb _ _)) ?_
   refine Runs.step (AH.has.rd b17 0 rfl (kb _ _)) ?_
   refine Runs.step (AH.has.rd b17 1 rfl (kb _ _)) ?_
   obtain ⟨_, H18, e18, rfl, g18⟩ := khf (IntKind.wrap .i64 (a3 - a1)) (IntKind.wrap .i64 (a4 - a2))
   refine Runs.step e18 ?_
   refine Runs.step (seen rfl) ?_
   refine Runs.when (g18.same b17 0 2) ?_
   have G20 := ((((g8.trans g10).trans g16).updr (Nat.le_trans ((g8.trans g10)).size (Nat.le_refl _)) u17).trans g18)
   have b7_21 := G20.has b7
   refine Runs.puts b7_21 rfl fun H19 b19 u19 => ?_
   have G22 := ((g16.updr (Nat.le_refl _) u17).trans g18)
   have b5_23 := G22.has b5_15
   have b5_19 := AH.has.updr b5_23 (Nat.ne_of_lt (Nat.lt_of_lt_of_le (g6.has b5).lt (Nat.le_refl _))) u19
   have b6_24 := G22.has b6_13
   have b6_19 := AH.has.updr b6_24 (Nat.ne_of_lt (Nat.lt_of_lt_of_le (b6).lt (Nat.le_refl _))) u19
   have b17_19 := AH.has.updr (g18.has b17) (Nat.ne_of_gt (Nat.lt_of_lt_of_le ((g8.trans g10).has b7).lt (Nat.le_refl _))) u19
   refine Runs.step (AH.has.rd b19 0 rfl (kb _ _)) ?_
   refine Runs.step (AH.has.rd b19 1 rfl (kb _ _)) ?_
   have z : kp a1 a2 a3 a4 = (((IntKind.wrap .i64 (a3 - a1))), ((IntKind.wrap .i64 (a4 - a2))), ((kv (IntKind.wrap .i64 (a3 - a1)) (IntKind.wrap .i64 (a4 - a2))))) := by unfold kp; exact (condF k9).trans ((condF k11).trans rfl)
   rw [z]
   have G25 := ((((g5.trans g6).trans g7).trans g8).trans g10)
   have G26 := ((((((((g5.trans g6).trans g7).trans g8).trans g10).trans g16).updr (Nat.le_trans (G25).size (Nat.le_refl _)) u17).trans g18).updr (Nat.le_trans ((g5.trans g6)).size (Nat.le_refl _)) u19)
   exact Runs.ret ⟨rfl, G26⟩
inductive kga
 | fn (a1 : Int) (a2 : Int) (a3 : Int)
 | no
abbrev kew := Bool × List Nat × List Nat × Int
noncomputable def kg0 (a1 : Int) (a2 : Int) (a3 : Int) : Option (kga ⊕ kew) :=
 cond (!((kv a2 a3))) (some (.inr (false, [], [], 1))) (cond (!((kx a1))) (some (.inr (false, [], [], 1))) ((need (-9223372036854775808 ≤ (a2 : Int) ∧ (a2 : Int) ≤ 9223372036854775807)).bind fun c12_0 => (u64P (IntKind.wrap .u64 (IntKind.wrap .i64 (a3 + a1)))).bind fun p21 => some (.inr ((((kr (((kbd (((ofI a2).1)) ((ofI a2).2) (((ofI a2).1)) ((ofI a2).2)).1)) ((kbd (((ofI a2).1)) ((ofI a2).2) (((ofI a2).1)) ((ofI a2).2)).2.1) (digs B p21)).1)), (kr (((kbd (((ofI a2).1)) ((ofI a2).2) (((ofI a2).1)) ((ofI a2).2)).1)) ((kbd (((ofI a2).1)) ((ofI a2).2) (((ofI a2).1)) ((ofI a2).2)).2.1) (digs B p21)).2.1, (kr (((kbd (((ofI a2).1)) ((ofI a2).2) (((ofI a2).1)) ((ofI a2).2)).1)) ((kbd (((ofI a2).1)) ((ofI a2).2) (((ofI a2).1)) ((ofI a2).2)).2.1) (digs B p21)).2.2.1, ((kr (((kbd (((ofI a2).1)) ((ofI a2).2) (((ofI a2).1)) ((ofI a2).2)).1)) ((kbd (((ofI a2).1)) ((ofI a2).2) (((ofI a2).1)) ((ofI a2).2)).2.1) (digs B p21)).2.2.2)))))
noncomputable def kqa : kga → Option (kga ⊕ kew)
 | .fn a1 a2 a3 => kg0 a1 a2 a3
 | .no => none
@[reducible] def knb (h0 : AH) (r : kew) (v : AV) (h' : AH) : Prop := ∃ s1 : Sl, ∃ s2 : Sl, v = .tup [.agg [.bool r.1, s1.v, s2.v], .int .i64 r.2.2.2] ∧ Nats h' s1 r.2.1 ∧ Nats h' s2 r.2.2.1 ∧ Grow h0 h' ∧ Own h0 s1 ∧ Own h0 s2
def kkd (r : kew) : kga → Prop
 | .fn a1 a2 a3 => ∀ {h : AH}, Runs (go (.fn F.kg8 [.int .i64 a1, .agg [.int .i64 a2, .int .i64 a3]]) h) (knb h r)
 | .no => True
theorem kt5 {r : kew} {o : kga ⊕ kew} {a1 : Int} {a2 : Int} {a3 : Int} (e : kg0 a1 a2 a3 = some o) (good : GoodS (kkd r) r o) : kkd r (.fn a1 a2 a3) := by
 intro h
 rw [ks5]
 unfold kg0 at e
 refine Runs.new fun H4 b4 g4 => ?_
 refine Runs.new fun H5 b5 g5 => ?_
 refine Runs.step (AH.has.rd (g5.has b4) 0 rfl (kb _ _)) ?_
 refine Runs.step (AH.has.rd (g5.has b4) 1 rfl (kb _ _)) ?_
 obtain ⟨_, H6, e6, rfl, g6⟩ := khf a2 a3
 refine Runs.step e6 ?_
 refine Runs.step (seen rfl) ?_
 refine Runs.cond (fun k7 => ?_) (fun k7 => ?_)
 ·replace e := (condT k7).symm.trans e
  refine Runs.puts (g6.has b5) rfl fun H8 b8 u8 => ?_
  refine Runs.step (AH.has.rd b8 0 rfl rfl) ?_
  refine Runs.step (AH.has.rd b8 1 rfl (asSl_v _)) ?_
  refine Runs.step (AH.has.rd b8 2 rfl (asSl_v _)) ?_
  cases e
  cases good
  have G9 := (((g4.trans g5).trans g6).updr (Nat.le_trans (g4).size (Nat.le_refl _)) u8)
  exact Runs.ret ⟨(⟨none, 0, .is 0⟩ : Sl), (⟨none, 0, .is 0⟩ : Sl), rfl, (Nats.nil _), (Nats.nil _), G9, (Own.nil _), (Own.nil _)⟩
 ·replace e := (condF k7).symm.trans e
  obtain ⟨_, H8, e8, rfl, g8⟩ := kly a1
  refine Runs.step e8 ?_
  refine Runs.step (seen rfl) ?_
  refine Runs.cond (fun k9 => ?_) (fun k9 => ?_)
  ·replace e := (condT k9).symm.trans e
   refine Runs.puts ((g6.trans g8).has b5) rfl fun H10 b10 u10 => ?_
   refine Runs.step (AH.has.rd b10 0 rfl rfl) ?_
   refine Runs.step (AH.has.rd b10 1 rfl (asSl_v _)) ?_
   refine Runs.step (AH.has.rd b10 2 rfl (asSl_v _)) ?_
   cases e
   cases good
   have G11 := ((((g4.trans g5).trans g6).trans g8).updr (Nat.le_trans (g4).size (Nat.le_refl _)) u10)
   exact Runs.ret ⟨(⟨none, 0, .is 0⟩ : Sl), (⟨none, 0, .is 0⟩ : Sl), rfl, (Nats.nil _), (Nats.nil _), G11, (Own.nil _), (Own.nil _)⟩
  ·replace e := (condF k9).symm.trans e
   have G10 := ((g5.trans g6).trans g8)
   have b4_11 := G10.has b4
   refine Runs.step (AH.has.rd b4_11 0 rfl (kb _ _)) ?_
   obtain ⟨c12_0, q12_0, e⟩ := Option.bind_eq_some_iff.1 e
   obtain ⟨s12, H12, e12, n12, g12, o12⟩ := knv a2  c12_0.down
   refine Runs.step e12 ?_
   refine Runs.step rfl ?_
   refine Runs.ifT rfl ?_
   refine Runs.step (seenAt rfl rfl) ?_
   refine Runs.step (seenAt rfl (asSl_v _)) ?_
   refine Runs.new fun H13 b13 g13 => ?_
   refine Runs.puts b13 rfl fun H14 b14 u14 => ?_
   refine Runs.step (AH.has.rd b14 0 rfl rfl) ?_
   refine Runs.step (AH.has.rd b14 1 rfl (asSl_v _)) ?_
   refine Runs.step (AH.has.rd b14 0 rfl rfl) ?_
   refine Runs.step (AH.has.rd b14 1 rfl (asSl_v _)) ?_
   obtain ⟨_, H15, e15, s15, rfl, n15, g15, o15⟩ := kmd (n12.grow (g13.updr (Nat.le_refl _) u14)) (n12.grow (g13.updr (Nat.le_refl _) u14)) (((ofI a2).1)) (((ofI a2).1))
   refine Runs.step e15 ?_
   refine Runs.step rfl ?_
   refine Runs.step rfl ?_
   refine Runs.ifT rfl ?_
   refine Runs.step (seenAt rfl rfl) ?_
   refine Runs.step (seenAt rfl (asSl_v _)) ?_
   refine Runs.step (seen (kb _ _)) ?_
   refine Runs.new fun H16 b16 g16 => ?_
   refine Runs.puts b16 rfl fun H17 b17 u17 => ?_
   refine Runs.step (AH.has.rd b17 0 rfl rfl) ?_
   refine Runs.step (AH.has.rd b17 1 rfl (asSl_v _)) ?_
   have G18 := (((g12.trans g13).updr (Nat.le_trans (g12).size (Nat.le_refl _)) u14).trans g15)
   have G19 := (((((g12.trans g13).updr (Nat.le_trans (g12).size (Nat.le_refl _)) u14).trans g15).trans g16).updr (Nat.le_trans (G18).size (Nat.le_refl _)) u17)
   have b4_20 := G19.has b4_11
   refine Runs.step (AH.has.rd b4_20 1 rfl (kb _ _)) ?_
   obtain ⟨p21, q21, e⟩ := Option.bind_eq_some_iff.1 e
   obtain ⟨s21, H21, e21, n21, g21, o21⟩ := kjz q21
   refine Runs.step e21 ?_
   refine Runs.step (seen (asSl_v _)) ?_
   refine Runs.when (g21.same b17 0 2) ?_
   have G22 := ((g16.updr (Nat.le_refl _) u17).trans g21)
   have n15_23 := n15.grow G22
   obtain ⟨_, H24, e24, s24, s24b, rfl, n24, n24b, g24, o24, o24b⟩ := kic n15_23 n21 (((kbd (((ofI a2).1)) ((ofI a2).2) (((ofI a2).1)) ((ofI a2).2)).1))
   refine Runs.step e24 ?_
   refine Runs.step rfl ?_
   refine Runs.step rfl ?_
   refine Runs.ifT rfl ?_
   refine Runs.step (seenAt rfl rfl) ?_
   refine Runs.step (seenAt rfl (asSl_v _)) ?_
   refine Runs.step (seenAt rfl (asSl_v _)) ?_
   refine Runs.step (seen (kb _ _)) ?_
   have G26 := ((g6.trans g8).trans g12)
   have G27 := (((G26.trans g13).updr (Nat.le_trans (G26).size (Nat.le_refl _)) u14).trans g15)
   have G28 := (((((((((g6.trans g8).trans g12).trans g13).updr (Nat.le_trans (G26).size (Nat.le_refl _)) u14).trans g15).trans g16).updr (Nat.le_trans (G27).size (Nat.le_refl _)) u17).trans g21).trans g24)
   have b5_29 := G28.has b5
   refine Runs.puts b5_29 rfl fun H25 b25 u25 => ?_
   have G30 := ((g13.updr (Nat.le_refl _) u14).trans g15)
   have G31 := ((((((g13.updr (Nat.le_refl _) u14).trans g15).trans g16).updr (Nat.le_trans (G30).size (Nat.le_refl _)) u17).trans g21).trans g24)
   have n12_32 := n12.grow G31
   have n12_25 := n12_32.upda (Av.of_own o12 ((g6.trans g8).has b5).lt) u25
   have G33 := ((G26.trans g13).updr (Nat.le_trans (G26).size (Nat.le_refl _)) u14)
   have n15_25 := (n15_23.grow g24).upda (Av.of_own o15 (G33.has b5).lt) u25
   have G34 := ((G27.trans g16).updr (Nat.le_trans (G27).size (Nat.le_refl _)) u17)
   have n21_25 := (n21.grow g24).upda (Av.of_own o21 (G34.has b5).lt) u25
   have G35 := (G34.trans g21)
   have n24_25 := n24.upda (Av.of_own o24 (G35.has b5).lt) u25
   have n24b_25 := n24b.upda (Av.of_own o24b (G35.has b5).lt) u25
   have b4_25 := AH.has.updr ((g21.trans g24).has b4_20) (Nat.ne_of_lt (Nat.lt_of_lt_of_le (b4).lt (Nat.le_refl _))) u25
   have G36 := ((((g15.trans g16).updr (Nat.le_trans (g15).size (Nat.le_refl _)) u17).trans g21).trans g24)
   have b14_37 := G36.has b14
   have b14_25 := AH.has.updr b14_37 (Nat.ne_of_gt (Nat.lt_of_lt_of_le (G26.has b5).lt (Nat.le_refl _))) u25
   have b17_25 := AH.has.updr ((g21.trans g24).has b17) (Nat.ne_of_gt (Nat.lt_of_lt_of_le (G27.has b5).lt (Nat.le_refl _))) u25
   refine Runs.step (AH.has.rd b25 0 rfl rfl) ?_
   refine Runs.step (AH.has.rd b25 1 rfl (asSl_v _)) ?_
   refine Runs.step (AH.has.rd b25 2 rfl (asSl_v _)) ?_
   cases e
   cases good
   have G38 := ((((g4.trans g5).trans g6).trans g8).trans g12)
   have G39 := (((G38.trans g13).updr (Nat.le_trans (G38).size (Nat.le_refl _)) u14).trans g15)
   have G40 := ((((((((((g4.trans g5).trans g6).trans g8).trans g12).trans g13).updr (Nat.le_trans (G38).size (Nat.le_refl _)) u14).trans g15).trans g16).updr (Nat.le_trans (G39).size (Nat.le_refl _)) u17).trans g21)
   have G41 := ((G40.trans g24).updr (Nat.le_trans (g4).size (Nat.le_refl _)) u25)
   exact Runs.ret ⟨s24, s24b, rfl, n24_25, n24b_25, G41, (o24.of_le G40), (o24b.of_le G40)⟩
theorem ktb {s : kga} {r : kew} (it : Iter kqa s r) : kkd r s := Iter.ind (fun s o e good => by
 cases s with
 | fn a1 a2 a3 => exact @kt5 _ _ a1 a2 a3 e good
 | no => exact True.intro
 ) it
end Go.Ab

/- squeezed -/
set_option linter.unusedVariables false
set_option linter.unusedSimpArgs false
set_option maxRecDepth 10000
namespace Go.Ab
open Go.Proofs Go.Num
theorem ki0 {g n : Int} : kv g n = true ↔ -1099511627776 ≤ g ∧ g ≤ 1099511627776 ∧ 0 ≤ n ∧ n ≤ 1048576 := by
 unfold kv
 by_cases h1 : g ≥ -1099511627776 <;> by_cases h2 : g ≤ 1099511627776 <;> by_cases h3 : n ≥ 0 <;> by_cases h4 : n ≤ 1048576 <;> simp [h1, h2, h3, h4]
theorem kny {l : Int} : kx l = true ↔ 1 ≤ l ∧ l ≤ 1048576 := by
 unfold kx
 by_cases h1 : l ≥ 1 <;> by_cases h2 : l ≤ 1048576 <;> simp [h1, h2]
def scoreF (l g n : Int) : Bool × List Nat × List Nat × Int := if kv g n = true ∧ kx l = true then fracM (g * g) (n + l).toNat else (false, [], [], 1)
theorem sq_lt {g : Int} (h1 : -1099511627776 ≤ g) (h2 : g ≤ 1099511627776) : (g * g).natAbs ≤ 1099511627776 * 1099511627776 := by
 rw [Int.natAbs_mul]
 exact Nat.mul_le_mul (by omega) (by omega)
theorem ksv (l g n : Int) : Iter kqa (.fn l g n) (scoreF l g n) := .done (by
 show kg0 _ _ _ = _
 unfold kg0 scoreF
 cases h1 : kv g n with
 | false => rfl
 | true =>
  cases h2 : kx l with
  | false => rfl
  | true =>
   obtain ⟨a1, a2, a3, a4⟩ := ki0.1 h1
   obtain ⟨b1, b2⟩ := kny.1 h2
   have h64 := kl9
   have hs := sq_lt a1 a2
   rw [if_pos ⟨rfl, rfl⟩, kbe ⟨by omega, by omega⟩, kp0 (by omega), kor (by omega) (by omega), if_pos (by omega), wrap64 (by omega) (by omega), wrapU, Int.emod_eq_of_lt (by omega) (by omega)]
   have e : n + l = (((n + l).toNat : Nat) : Int) := by omega
   rw [show u64P (n + l) = some (n + l).toNat from by rw [e]; exact kbr (by omega)]
   simp only [Bool.not_true, cond_false, Option.bind_some]
   rw [kjp (by omega) (by omega) (by omega)])
theorem kit {h : AH} (l g n : Int) : Runs (go (.fn F.kg8 [.int .i64 l, .agg [.int .i64 g, .int .i64 n]]) h) (knb h (scoreF l g n)) := ktb (ksv l g n)
end Go.Ab

/- squeezed -/
set_option linter.unusedVariables false
set_option linter.unusedSimpArgs false
set_option maxRecDepth 10000
namespace Go.Ab
open Go.Proofs Go.Num
inductive kf5
 | fn (a1 : Int) (a2 : Int) (a3 : Int) (a4 : Int) (a5 : Int)
 | no
abbrev kej := Bool × List Nat × List Nat × Int
noncomputable def kgk (a1 : Int) (a2 : Int) (a3 : Int) (a4 : Int) (a5 : Int) : Option (kf5 ⊕ kej) :=
 cond (!((kp a2 a3 a4 a5).2.2)) (some (.inr (false, [], [], 1))) (cond (!((kx a1))) (some (.inr (false, [], [], 1))) ((some (kco (((((scoreF a1 a2 a3).1)))) ((scoreF a1 a2 a3).2.1) ((scoreF a1 a2 a3).2.2.1) (((((scoreF a1 (((((kp a2 a3 a4 a5).1)))) (((((kp a2 a3 a4 a5).2.1))))).1)))) ((scoreF a1 (((((kp a2 a3 a4 a5).1)))) (((((kp a2 a3 a4 a5).2.1))))).2.1) ((scoreF a1 (((((kp a2 a3 a4 a5).1)))) (((((kp a2 a3 a4 a5).2.1))))).2.2.1))).bind fun p50 => (some (kcv ((p50.1)) p50.2.1 p50.2.2.1 (((((scoreF a1 a4 a5).1)))) ((scoreF a1 a4 a5).2.1) ((scoreF a1 a4 a5).2.2.1))).bind fun p87 => some (.inr (((p87.1)), p87.2.1, p87.2.2.1, (p87.2.2.2)))))
noncomputable def kpg : kf5 → Option (kf5 ⊕ kej)
 | .fn a1 a2 a3 a4 a5 => kgk a1 a2 a3 a4 a5
 | .no => none
@[reducible] def knc (h0 : AH) (r : kej) (v : AV) (h' : AH) : Prop := ∃ s1 : Sl, ∃ s2 : Sl, v = .tup [.agg [.bool r.1, s1.v, s2.v], .int .i64 r.2.2.2] ∧ Nats h' s1 r.2.1 ∧ Nats h' s2 r.2.2.1 ∧ Grow h0 h' ∧ Own h0 s1 ∧ Own h0 s2
def kk4 (r : kej) : kf5 → Prop
 | .fn a1 a2 a3 a4 a5 => ∀ {h : AH}, Runs (go (.fn F.kiz [.int .i64 a1, .agg [.int .i64 a2, .int .i64 a3], .agg [.int .i64 a4, .int .i64 a5]]) h) (knc h r)
 | .no => True
theorem kuu {r : kej} {o : kf5 ⊕ kej} {a1 : Int} {a2 : Int} {a3 : Int} {a4 : Int} {a5 : Int} (e : kgk a1 a2 a3 a4 a5 = some o) (good : GoodS (kk4 r) r o) : kk4 r (.fn a1 a2 a3 a4 a5) := by
 intro h
 rw [kyf]
 unfold kgk at e
 refine Runs.new fun H6 b6 g6 => ?_
 refine Runs.new fun H7 b7 g7 => ?_
 refine Runs.new fun H8 b8 g8 => ?_
 refine Runs.new fun H9 b9 g9 => ?_
 refine Runs.step (AH.has.rd ((g8.trans g9).has b7) 0 rfl (kb _ _)) ?_
 refine Runs.step (AH.has.rd ((g8.trans g9).has b7) 1 rfl (kb _ _)) ?_
 refine Runs.step (AH.has.rd (g9.has b8) 0 rfl (kb _ _)) ?_
 refine Runs.step (AH.has.rd (g9.has b8) 1 rfl (kb _ _)) ?_
 obtain ⟨_, H10, e10, rfl, g10⟩ := kt8 a2 a3 a4 a5
 refine Runs.step e10 ?_
 refine Runs.step rfl ?_
 refine Runs.step rfl ?_
 refine Runs.ifT rfl ?_
 refine Runs.step (seenAt rfl (kb _ _)) ?_
 refine Runs.step (seenAt rfl (kb _ _)) ?_
 refine Runs.step (seen rfl) ?_
 refine Runs.new fun H11 b11 g11 => ?_
 refine Runs.puts b11 rfl fun H12 b12 u12 => ?_
 refine Runs.cond (fun k13 => ?_) (fun k13 => ?_)
 ·replace e := (condT k13).symm.trans e
  have G15 := ((g10.trans g11).updr (Nat.le_trans (g10).size (Nat.le_refl _)) u12)
  have b9_16 := G15.has b9
  refine Runs.puts b9_16 rfl fun H14 b14 u14 => ?_
  have b12_14 := AH.has.updr b12 (Nat.ne_of_gt (Nat.lt_of_lt_of_le (g10.has b9).lt (Nat.le_refl _))) u14
  refine Runs.step (AH.has.rd b14 0 rfl rfl) ?_
  refine Runs.step (AH.has.rd b14 1 rfl (asSl_v _)) ?_
  refine Runs.step (AH.has.rd b14 2 rfl (asSl_v _)) ?_
  cases e
  cases good
  have G17 := ((((g6.trans g7).trans g8).trans g9).trans g10)
  have G18 := ((g6.trans g7).trans g8)
  have G19 := (((((((g6.trans g7).trans g8).trans g9).trans g10).trans g11).updr (Nat.le_trans (G17).size (Nat.le_refl _)) u12).updr (Nat.le_trans (G18).size (Nat.le_refl _)) u14)
  exact Runs.ret ⟨(⟨none, 0, .is 0⟩ : Sl), (⟨none, 0, .is 0⟩ : Sl), rfl, (Nats.nil _), (Nats.nil _), G19, (Own.nil _), (Own.nil _)⟩
 ·replace e := (condF k13).symm.trans e
  have G14 := (((g7.trans g8).trans g9).trans g10)
  have G15 := (((((g7.trans g8).trans g9).trans g10).trans g11).updr (Nat.le_trans (G14).size (Nat.le_refl _)) u12)
  have b6_16 := G15.has b6
  refine Runs.step (AH.has.rd0 b6_16 rfl (kb _ _)) ?_
  obtain ⟨_, H17, e17, rfl, g17⟩ := kly a1
  refine Runs.step e17 ?_
  refine Runs.step (seen rfl) ?_
  refine Runs.cond (fun k18 => ?_) (fun k18 => ?_)
  ·replace e := (condT k18).symm.trans e
   have G20 := (((g10.trans g11).updr (Nat.le_trans (g10).size (Nat.le_refl _)) u12).trans g17)
   have b9_21 := G20.has b9
   refine Runs.puts b9_21 rfl fun H19 b19 u19 => ?_
   have b6_19 := AH.has.updr (g17.has b6_16) (Nat.ne_of_lt (Nat.lt_of_lt_of_le ((g7.trans g8).has b6).lt (Nat.le_refl _))) u19
   have b12_19 := AH.has.updr (g17.has b12) (Nat.ne_of_gt (Nat.lt_of_lt_of_le (g10.has b9).lt (Nat.le_refl _))) u19
   refine Runs.step (AH.has.rd b19 0 rfl rfl) ?_
   refine Runs.step (AH.has.rd b19 1 rfl (asSl_v _)) ?_
   refine Runs.step (AH.has.rd b19 2 rfl (asSl_v _)) ?_
   cases e
   cases good
   have G22 := ((((g6.trans g7).trans g8).trans g9).trans g10)
   have G23 := ((g6.trans g7).trans g8)
   have G24 := ((((((((g6.trans g7).trans g8).trans g9).trans g10).trans g11).updr (Nat.le_trans (G22).size (Nat.le_refl _)) u12).trans g17).updr (Nat.le_trans (G23).size (Nat.le_refl _)) u19)
   exact Runs.ret ⟨(⟨none, 0, .is 0⟩ : Sl), (⟨none, 0, .is 0⟩ : Sl), rfl, (Nats.nil _), (Nats.nil _), G24, (Own.nil _), (Own.nil _)⟩
  ·replace e := (condF k18).symm.trans e
   refine Runs.new fun H19 b19 g19 => ?_
   have G20 := ((g8.trans g9).trans g10)
   have G21 := ((((((g8.trans g9).trans g10).trans g11).updr (Nat.le_trans (G20).size (Nat.le_refl _)) u12).trans g17).trans g19)
   have b7_22 := G21.has b7
   refine Runs.step (AH.has.rd b7_22 0 rfl (kb _ _)) ?_
   refine Runs.step (AH.has.rd b7_22 1 rfl (kb _ _)) ?_
   refine Runs.step (AH.has.rd ((g17.trans g19).has b12) 0 rfl (kb _ _)) ?_
   refine Runs.step (AH.has.rd ((g17.trans g19).has b12) 1 rfl (kb _ _)) ?_
   rw [kk2]
   refine Runs.newB fun H23 b23 g23 => ?_
   refine Runs.newB fun H24 b24 g24 => ?_
   have G25 := (((g17.trans g19).trans g23).trans g24)
   have b6_26 := G25.has b6_16
   refine Runs.stepB (AH.has.rd0 b6_26 rfl (kb _ _)) ?_
   refine Runs.stepB (AH.has.rd (g24.has b23) 0 rfl (kb _ _)) ?_
   refine Runs.stepB (AH.has.rd (g24.has b23) 1 rfl (kb _ _)) ?_
   obtain ⟨_, H27, e27, s27, s27b, rfl, n27, n27b, g27, o27, o27b⟩ := kit a1 a2 a3
   refine Runs.stepB e27 ?_
   refine Runs.stepB rfl ?_
   refine Runs.stepB rfl ?_
   refine Runs.ifTB rfl ?_
   refine Runs.stepB (seenAt rfl rfl) ?_
   refine Runs.stepB (seenAt rfl (asSl_v _)) ?_
   refine Runs.stepB (seenAt rfl (asSl_v _)) ?_
   refine Runs.stepB (seen (kb _ _)) ?_
   refine Runs.newB fun H28 b28 g28 => ?_
   refine Runs.putsB b28 rfl fun H29 b29 u29 => ?_
   refine Runs.stepB (AH.has.rd b29 0 rfl rfl) ?_
   refine Runs.stepB (AH.has.rd b29 1 rfl (asSl_v _)) ?_
   refine Runs.stepB (AH.has.rd b29 2 rfl (asSl_v _)) ?_
   have G31 := ((g27.trans g28).updr (Nat.le_trans (g27).size (Nat.le_refl _)) u29)
   have b24_32 := G31.has b24
   refine Runs.putsB b24_32 rfl fun H30 b30 u30 => ?_
   have n27_30 := (n27.grow (g28.updr (Nat.le_refl _) u29)).upda (Av.of_own o27 (b24).lt) u30
   have n27b_30 := (n27b.grow (g28.updr (Nat.le_refl _) u29)).upda (Av.of_own o27b (b24).lt) u30
   have b6_33 := G31.has b6_26
   have G34 := ((g17.trans g19).trans g23)
   have b6_30 := AH.has.updr b6_33 (Nat.ne_of_lt (Nat.lt_of_lt_of_le (G34.has b6_16).lt (Nat.le_refl _))) u30
   have b29_30 := AH.has.updr b29 (Nat.ne_of_gt (Nat.lt_of_lt_of_le (g27.has b24).lt (Nat.le_refl _))) u30
   refine Runs.stepB (AH.has.rd b30 0 rfl rfl) ?_
   refine Runs.stepB (AH.has.rd b30 1 rfl (asSl_v _)) ?_
   refine Runs.stepB (AH.has.rd b30 2 rfl (asSl_v _)) ?_
   refine Runs.retB ?_
   refine Runs.step rfl ?_
   refine Runs.ifT rfl ?_
   refine Runs.step (seenAt rfl rfl) ?_
   refine Runs.step (seenAt rfl (asSl_v _)) ?_
   refine Runs.step (seenAt rfl (asSl_v _)) ?_
   have G35 := ((g23.trans g24).trans g27)
   have G36 := (((((g23.trans g24).trans g27).trans g28).updr (Nat.le_trans (G35).size (Nat.le_refl _)) u29).updr (Nat.le_trans (g23).size (Nat.le_refl _)) u30)
   refine Runs.when (G36.same ((g17.trans g19).has b12) 0 2) ?_
   refine Runs.when (G36.same b19 0 0) ?_
   rw [kk2]
   refine Runs.newB fun H37 b37 g37 => ?_
   refine Runs.newB fun H38 b38 g38 => ?_
   refine Runs.stepB (AH.has.rd0 ((g37.trans g38).has b6_30) rfl (kb _ _)) ?_
   refine Runs.stepB (AH.has.rd (g38.has b37) 0 rfl (kb _ _)) ?_
   refine Runs.stepB (AH.has.rd (g38.has b37) 1 rfl (kb _ _)) ?_
   obtain ⟨_, H39, e39, s39, s39b, rfl, n39, n39b, g39, o39, o39b⟩ := kit a1 (((((kp a2 a3 a4 a5).1)))) (((((kp a2 a3 a4 a5).2.1))))
   refine Runs.stepB e39 ?_
   refine Runs.stepB rfl ?_
   refine Runs.stepB rfl ?_
   refine Runs.ifTB rfl ?_
   refine Runs.stepB (seenAt rfl rfl) ?_
   refine Runs.stepB (seenAt rfl (asSl_v _)) ?_
   refine Runs.stepB (seenAt rfl (asSl_v _)) ?_
   refine Runs.stepB (seen (kb _ _)) ?_
   refine Runs.newB fun H40 b40 g40 => ?_
   refine Runs.putsB b40 rfl fun H41 b41 u41 => ?_
   refine Runs.stepB (AH.has.rd b41 0 rfl rfl) ?_
   refine Runs.stepB (AH.has.rd b41 1 rfl (asSl_v _)) ?_
   refine Runs.stepB (AH.has.rd b41 2 rfl (asSl_v _)) ?_
   have G43 := ((g39.trans g40).updr (Nat.le_trans (g39).size (Nat.le_refl _)) u41)
   have b38_44 := G43.has b38
   refine Runs.putsB b38_44 rfl fun H42 b42 u42 => ?_
   have n39_42 := (n39.grow (g40.updr (Nat.le_refl _) u41)).upda (Av.of_own o39 (b38).lt) u42
   have n39b_42 := (n39b.grow (g40.updr (Nat.le_refl _) u41)).upda (Av.of_own o39b (b38).lt) u42
   have b41_42 := AH.has.updr b41 (Nat.ne_of_gt (Nat.lt_of_lt_of_le (g39.has b38).lt (Nat.le_refl _))) u42
   refine Runs.stepB (AH.has.rd b42 0 rfl rfl) ?_
   refine Runs.stepB (AH.has.rd b42 1 rfl (asSl_v _)) ?_
   refine Runs.stepB (AH.has.rd b42 2 rfl (asSl_v _)) ?_
   refine Runs.retB ?_
   refine Runs.step rfl ?_
   refine Runs.ifT rfl ?_
   refine Runs.step (seenAt rfl rfl) ?_
   refine Runs.step (seenAt rfl (asSl_v _)) ?_
   refine Runs.step (seenAt rfl (asSl_v _)) ?_
   have b19_45 := G36.has b19
   have G46 := ((g37.trans g38).trans g39)
   have G47 := (((((g37.trans g38).trans g39).trans g40).updr (Nat.le_trans (G46).size (Nat.le_refl _)) u41).updr (Nat.le_trans (g37).size (Nat.le_refl _)) u42)
   refine Runs.when (G47.same b19_45 0 0) ?_
   have n27_48 := n27_30.grow G47
   have n27b_49 := n27b_30.grow G47
   obtain ⟨p50, q50, e⟩ := Option.bind_eq_some_iff.1 e
   obtain ⟨_, H50, e50, s50, s50b, rfl, n50, n50b, g50, o50, o50b⟩ := kw2 n27_48 n27b_49 n39_42 n39b_42 (Option.some.inj q50)
   refine Runs.step e50 ?_
   refine Runs.step rfl ?_
   refine Runs.step rfl ?_
   refine Runs.ifT rfl ?_
   refine Runs.step (seenAt rfl rfl) ?_
   refine Runs.step (seenAt rfl (asSl_v _)) ?_
   refine Runs.step (seenAt rfl (asSl_v _)) ?_
   refine Runs.step (seen (kb _ _)) ?_
   have b19_51 := G47.has b19_45
   refine Runs.when (g50.same b19_51 0 0) ?_
   refine Runs.puts (g50.has b19_51) rfl fun H52 b52 u52 => ?_
   have n27_52 := (n27_48.grow g50).upda (Av.of_own o27 ((g23.trans g24).has b19).lt) u52
   have n27b_52 := (n27b_49.grow g50).upda (Av.of_own o27b ((g23.trans g24).has b19).lt) u52
   have n39_52 := (n39_42.grow g50).upda (Av.of_own o39 ((g37.trans g38).has b19_45).lt) u52
   have n39b_52 := (n39b_42.grow g50).upda (Av.of_own o39b ((g37.trans g38).has b19_45).lt) u52
   have n50_52 := n50.upda (Av.of_own o50 (b19_51).lt) u52
   have n50b_52 := n50b.upda (Av.of_own o50b (b19_51).lt) u52
   have G53 := (G47.trans g50)
   have b6_54 := G53.has b6_30
   have b6_52 := AH.has.updr b6_54 (Nat.ne_of_lt (Nat.lt_of_lt_of_le (g17.has b6_16).lt (Nat.le_refl _))) u52
   have G55 := (((G36.trans g37).trans g38).trans g39)
   have G56 := (G36.trans g37)
   have G57 := (((((((G36.trans g37).trans g38).trans g39).trans g40).updr (Nat.le_trans (G55).size (Nat.le_refl _)) u41).updr (Nat.le_trans (G56).size (Nat.le_refl _)) u42).trans g50)
   have b7_58 := G57.has b7_22
   have G59 := (((G20.trans g11).updr (Nat.le_trans (G20).size (Nat.le_refl _)) u12).trans g17)
   have b7_52 := AH.has.updr b7_58 (Nat.ne_of_lt (Nat.lt_of_lt_of_le (G59.has b7).lt (Nat.le_refl _))) u52
   have G60 := (((((((g24.trans g27).trans g28).updr (Nat.le_trans ((g24.trans g27)).size (Nat.le_refl _)) u29).updr (Nat.le_refl _) u30).trans g37).trans g38).trans g39)
   have G61 := (((((g24.trans g27).trans g28).updr (Nat.le_trans ((g24.trans g27)).size (Nat.le_refl _)) u29).updr (Nat.le_refl _) u30).trans g37)
   have G62 := (((((((((((g24.trans g27).trans g28).updr (Nat.le_trans ((g24.trans g27)).size (Nat.le_refl _)) u29).updr (Nat.le_refl _) u30).trans g37).trans g38).trans g39).trans g40).updr (Nat.le_trans (G60).size (Nat.le_refl _)) u41).updr (Nat.le_trans (G61).size (Nat.le_refl _)) u42).trans g50)
   have b23_63 := G62.has b23
   have b23_52 := AH.has.updr b23_63 (Nat.ne_of_gt (Nat.lt_of_lt_of_le (b19).lt (Nat.le_refl _))) u52
   have b30_64 := G53.has b30
   have b30_52 := AH.has.updr b30_64 (Nat.ne_of_gt (Nat.lt_of_lt_of_le (g23.has b19).lt (Nat.le_refl _))) u52
   have b29_65 := G53.has b29_30
   have b29_52 := AH.has.updr b29_65 (Nat.ne_of_gt (Nat.lt_of_lt_of_le (G35.has b19).lt (Nat.le_refl _))) u52
   have G66 := (((((g38.trans g39).trans g40).updr (Nat.le_trans ((g38.trans g39)).size (Nat.le_refl _)) u41).updr (Nat.le_refl _) u42).trans g50)
   have b37_67 := G66.has b37
   have b37_52 := AH.has.updr b37_67 (Nat.ne_of_gt (Nat.lt_of_lt_of_le (b19_45).lt (Nat.le_refl _))) u52
   have b42_52 := AH.has.updr (g50.has b42) (Nat.ne_of_gt (Nat.lt_of_lt_of_le (g37.has b19_45).lt (Nat.le_refl _))) u52
   have b41_52 := AH.has.updr (g50.has b41_42) (Nat.ne_of_gt (Nat.lt_of_lt_of_le (G46.has b19_45).lt (Nat.le_refl _))) u52
   refine Runs.step (AH.has.rd b52 0 rfl rfl) ?_
   refine Runs.step (AH.has.rd b52 1 rfl (asSl_v _)) ?_
   refine Runs.step (AH.has.rd b52 2 rfl (asSl_v _)) ?_
   have G68 := ((((((((g9.trans g10).trans g11).updr (Nat.le_trans ((g9.trans g10)).size (Nat.le_refl _)) u12).trans g17).trans g19).trans g23).trans g24).trans g27)
   have G69 := ((((((g9.trans g10).trans g11).updr (Nat.le_trans ((g9.trans g10)).size (Nat.le_refl _)) u12).trans g17).trans g19).trans g23)
   have G70 := ((((((G68.trans g28).updr (Nat.le_trans (G68).size (Nat.le_refl _)) u29).updr (Nat.le_trans (G69).size (Nat.le_refl _)) u30).trans g37).trans g38).trans g39)
   have G71 := ((((G68.trans g28).updr (Nat.le_trans (G68).size (Nat.le_refl _)) u29).updr (Nat.le_trans (G69).size (Nat.le_refl _)) u30).trans g37)
   have G72 := ((((g9.trans g10).trans g11).updr (Nat.le_trans ((g9.trans g10)).size (Nat.le_refl _)) u12).trans g17)
   have G73 := (((((((((((((((((((g9.trans g10).trans g11).updr (Nat.le_trans ((g9.trans g10)).size (Nat.le_refl _)) u12).trans g17).trans g19).trans g23).trans g24).trans g27).trans g28).updr (Nat.le_trans (G68).size (Nat.le_refl _)) u29).updr (Nat.le_trans (G69).size (Nat.le_refl _)) u30).trans g37).trans g38).trans g39).trans g40).updr (Nat.le_trans (G70).size (Nat.le_refl _)) u41).updr (Nat.le_trans (G71).size (Nat.le_refl _)) u42).trans g50).updr (Nat.le_trans (G72).size (Nat.le_refl _)) u52)
   have b8_74 := G73.has b8
   refine Runs.step (AH.has.rd b8_74 0 rfl (kb _ _)) ?_
   refine Runs.step (AH.has.rd b8_74 1 rfl (kb _ _)) ?_
   rw [kk2]
   refine Runs.newB fun H75 b75 g75 => ?_
   refine Runs.newB fun H76 b76 g76 => ?_
   refine Runs.stepB (AH.has.rd0 ((g75.trans g76).has b6_52) rfl (kb _ _)) ?_
   refine Runs.stepB (AH.has.rd (g76.has b75) 0 rfl (kb _ _)) ?_
   refine Runs.stepB (AH.has.rd (g76.has b75) 1 rfl (kb _ _)) ?_
   obtain ⟨_, H77, e77, s77, s77b, rfl, n77, n77b, g77, o77, o77b⟩ := kit a1 a4 a5
   refine Runs.stepB e77 ?_
   refine Runs.stepB rfl ?_
   refine Runs.stepB rfl ?_
   refine Runs.ifTB rfl ?_
   refine Runs.stepB (seenAt rfl rfl) ?_
   refine Runs.stepB (seenAt rfl (asSl_v _)) ?_
   refine Runs.stepB (seenAt rfl (asSl_v _)) ?_
   refine Runs.stepB (seen (kb _ _)) ?_
   refine Runs.newB fun H78 b78 g78 => ?_
   refine Runs.putsB b78 rfl fun H79 b79 u79 => ?_
   refine Runs.stepB (AH.has.rd b79 0 rfl rfl) ?_
   refine Runs.stepB (AH.has.rd b79 1 rfl (asSl_v _)) ?_
   refine Runs.stepB (AH.has.rd b79 2 rfl (asSl_v _)) ?_
   have G81 := ((g77.trans g78).updr (Nat.le_trans (g77).size (Nat.le_refl _)) u79)
   have b76_82 := G81.has b76
   refine Runs.putsB b76_82 rfl fun H80 b80 u80 => ?_
   have n77_80 := (n77.grow (g78.updr (Nat.le_refl _) u79)).upda (Av.of_own o77 (b76).lt) u80
   have n77b_80 := (n77b.grow (g78.updr (Nat.le_refl _) u79)).upda (Av.of_own o77b (b76).lt) u80
   have b79_80 := AH.has.updr b79 (Nat.ne_of_gt (Nat.lt_of_lt_of_le (g77.has b76).lt (Nat.le_refl _))) u80
   refine Runs.stepB (AH.has.rd b80 0 rfl rfl) ?_
   refine Runs.stepB (AH.has.rd b80 1 rfl (asSl_v _)) ?_
   refine Runs.stepB (AH.has.rd b80 2 rfl (asSl_v _)) ?_
   refine Runs.retB ?_
   refine Runs.step rfl ?_
   refine Runs.ifT rfl ?_
   refine Runs.step (seenAt rfl rfl) ?_
   refine Runs.step (seenAt rfl (asSl_v _)) ?_
   refine Runs.step (seenAt rfl (asSl_v _)) ?_
   have G83 := ((g75.trans g76).trans g77)
   have G84 := (((((g75.trans g76).trans g77).trans g78).updr (Nat.le_trans (G83).size (Nat.le_refl _)) u79).updr (Nat.le_trans (g75).size (Nat.le_refl _)) u80)
   refine Runs.when (G84.same b52 0 3) ?_
   have n50_85 := n50_52.grow G84
   have n50b_86 := n50b_52.grow G84
   obtain ⟨p87, q87, e⟩ := Option.bind_eq_some_iff.1 e
   obtain ⟨_, H87, e87, s87, s87b, rfl, n87, n87b, g87, o87, o87b⟩ := kyj n50_85 n50b_86 n77_80 n77b_80 (Option.some.inj q87)
   refine Runs.step e87 ?_
   refine Runs.step rfl ?_
   refine Runs.step rfl ?_
   refine Runs.ifT rfl ?_
   refine Runs.step (seenAt rfl rfl) ?_
   refine Runs.step (seenAt rfl (asSl_v _)) ?_
   refine Runs.step (seenAt rfl (asSl_v _)) ?_
   refine Runs.step (seen (kb _ _)) ?_
   have G89 := (((((((g10.trans g11).updr (Nat.le_trans (g10).size (Nat.le_refl _)) u12).trans g17).trans g19).trans g23).trans g24).trans g27)
   have G90 := (((((g10.trans g11).updr (Nat.le_trans (g10).size (Nat.le_refl _)) u12).trans g17).trans g19).trans g23)
   have G91 := ((((((G89.trans g28).updr (Nat.le_trans (G89).size (Nat.le_refl _)) u29).updr (Nat.le_trans (G90).size (Nat.le_refl _)) u30).trans g37).trans g38).trans g39)
   have G92 := ((((G89.trans g28).updr (Nat.le_trans (G89).size (Nat.le_refl _)) u29).updr (Nat.le_trans (G90).size (Nat.le_refl _)) u30).trans g37)
   have G93 := (((g10.trans g11).updr (Nat.le_trans (g10).size (Nat.le_refl _)) u12).trans g17)
   have G94 := ((((((((G91.trans g40).updr (Nat.le_trans (G91).size (Nat.le_refl _)) u41).updr (Nat.le_trans (G92).size (Nat.le_refl _)) u42).trans g50).updr (Nat.le_trans (G93).size (Nat.le_refl _)) u52).trans g75).trans g76).trans g77)
   have G95 := ((((((G91.trans g40).updr (Nat.le_trans (G91).size (Nat.le_refl _)) u41).updr (Nat.le_trans (G92).size (Nat.le_refl _)) u42).trans g50).updr (Nat.le_trans (G93).size (Nat.le_refl _)) u52).trans g75)
   have G96 := (((((((((((((((((((((((((g10.trans g11).updr (Nat.le_trans (g10).size (Nat.le_refl _)) u12).trans g17).trans g19).trans g23).trans g24).trans g27).trans g28).updr (Nat.le_trans (G89).size (Nat.le_refl _)) u29).updr (Nat.le_trans (G90).size (Nat.le_refl _)) u30).trans g37).trans g38).trans g39).trans g40).updr (Nat.le_trans (G91).size (Nat.le_refl _)) u41).updr (Nat.le_trans (G92).size (Nat.le_refl _)) u42).trans g50).updr (Nat.le_trans (G93).size (Nat.le_refl _)) u52).trans g75).trans g76).trans g77).trans g78).updr (Nat.le_trans (G94).size (Nat.le_refl _)) u79).updr (Nat.le_trans (G95).size (Nat.le_refl _)) u80).trans g87)
   have b9_97 := G96.has b9
   refine Runs.puts b9_97 rfl fun H88 b88 u88 => ?_
   have G98 := (G90.trans g24)
   have G99 := (G84.trans g87)
   have n27_100 := n27_52.grow G99
   have n27_88 := n27_100.upda (Av.of_own o27 (G98.has b9).lt) u88
   have n27b_101 := n27b_52.grow G99
   have n27b_88 := n27b_101.upda (Av.of_own o27b (G98.has b9).lt) u88
   have G102 := (G92.trans g38)
   have n39_103 := n39_52.grow G99
   have n39_88 := n39_103.upda (Av.of_own o39 (G102.has b9).lt) u88
   have n39b_104 := n39b_52.grow G99
   have n39b_88 := n39b_104.upda (Av.of_own o39b (G102.has b9).lt) u88
   have G105 := (((G91.trans g40).updr (Nat.le_trans (G91).size (Nat.le_refl _)) u41).updr (Nat.le_trans (G92).size (Nat.le_refl _)) u42)
   have n50_88 := (n50_85.grow g87).upda (Av.of_own o50 (G105.has b9).lt) u88
   have n50b_88 := (n50b_86.grow g87).upda (Av.of_own o50b (G105.has b9).lt) u88
   have G106 := (G95.trans g76)
   have n77_88 := (n77_80.grow g87).upda (Av.of_own o77 (G106.has b9).lt) u88
   have n77b_88 := (n77b_80.grow g87).upda (Av.of_own o77b (G106.has b9).lt) u88
   have G107 := (((G94.trans g78).updr (Nat.le_trans (G94).size (Nat.le_refl _)) u79).updr (Nat.le_trans (G95).size (Nat.le_refl _)) u80)
   have n87_88 := n87.upda (Av.of_own o87 (G107.has b9).lt) u88
   have n87b_88 := n87b.upda (Av.of_own o87b (G107.has b9).lt) u88
   have b6_108 := G99.has b6_52
   have b6_88 := AH.has.updr b6_108 (Nat.ne_of_lt (Nat.lt_of_lt_of_le ((g7.trans g8).has b6).lt (Nat.le_refl _))) u88
   have b7_109 := G99.has b7_52
   have b7_88 := AH.has.updr b7_109 (Nat.ne_of_lt (Nat.lt_of_lt_of_le (g8.has b7).lt (Nat.le_refl _))) u88
   have b8_110 := G99.has b8_74
   have b8_88 := AH.has.updr b8_110 (Nat.ne_of_lt (Nat.lt_of_lt_of_le (b8).lt (Nat.le_refl _))) u88
   have G111 := (G25.trans g27)
   have G112 := ((((((G111.trans g28).updr (Nat.le_trans (G111).size (Nat.le_refl _)) u29).updr (Nat.le_trans (G34).size (Nat.le_refl _)) u30).trans g37).trans g38).trans g39)
   have G113 := ((((G111.trans g28).updr (Nat.le_trans (G111).size (Nat.le_refl _)) u29).updr (Nat.le_trans (G34).size (Nat.le_refl _)) u30).trans g37)
   have G114 := ((((((((G112.trans g40).updr (Nat.le_trans (G112).size (Nat.le_refl _)) u41).updr (Nat.le_trans (G113).size (Nat.le_refl _)) u42).trans g50).updr (Nat.le_trans (g17).size (Nat.le_refl _)) u52).trans g75).trans g76).trans g77)
   have G115 := ((((((G112.trans g40).updr (Nat.le_trans (G112).size (Nat.le_refl _)) u41).updr (Nat.le_trans (G113).size (Nat.le_refl _)) u42).trans g50).updr (Nat.le_trans (g17).size (Nat.le_refl _)) u52).trans g75)
   have G116 := (((((((((((((((((((G25.trans g27).trans g28).updr (Nat.le_trans (G111).size (Nat.le_refl _)) u29).updr (Nat.le_trans (G34).size (Nat.le_refl _)) u30).trans g37).trans g38).trans g39).trans g40).updr (Nat.le_trans (G112).size (Nat.le_refl _)) u41).updr (Nat.le_trans (G113).size (Nat.le_refl _)) u42).trans g50).updr (Nat.le_trans (g17).size (Nat.le_refl _)) u52).trans g75).trans g76).trans g77).trans g78).updr (Nat.le_trans (G114).size (Nat.le_refl _)) u79).updr (Nat.le_trans (G115).size (Nat.le_refl _)) u80).trans g87)
   have b12_117 := G116.has b12
   have b12_88 := AH.has.updr b12_117 (Nat.ne_of_gt (Nat.lt_of_lt_of_le (g10.has b9).lt (Nat.le_refl _))) u88
   have b52_118 := G99.has b52
   have b52_88 := AH.has.updr b52_118 (Nat.ne_of_gt (Nat.lt_of_lt_of_le (G93.has b9).lt (Nat.le_refl _))) u88
   have b23_119 := G99.has b23_52
   have G120 := (G93.trans g19)
   have b23_88 := AH.has.updr b23_119 (Nat.ne_of_gt (Nat.lt_of_lt_of_le (G120.has b9).lt (Nat.le_refl _))) u88
   have b30_121 := G99.has b30_52
   have b30_88 := AH.has.updr b30_121 (Nat.ne_of_gt (Nat.lt_of_lt_of_le (G90.has b9).lt (Nat.le_refl _))) u88
   have b29_122 := G99.has b29_52
   have b29_88 := AH.has.updr b29_122 (Nat.ne_of_gt (Nat.lt_of_lt_of_le (G89.has b9).lt (Nat.le_refl _))) u88
   have b37_123 := G99.has b37_52
   have G124 := (((G89.trans g28).updr (Nat.le_trans (G89).size (Nat.le_refl _)) u29).updr (Nat.le_trans (G90).size (Nat.le_refl _)) u30)
   have b37_88 := AH.has.updr b37_123 (Nat.ne_of_gt (Nat.lt_of_lt_of_le (G124.has b9).lt (Nat.le_refl _))) u88
   have b42_125 := G99.has b42_52
   have b42_88 := AH.has.updr b42_125 (Nat.ne_of_gt (Nat.lt_of_lt_of_le (G92.has b9).lt (Nat.le_refl _))) u88
   have b41_126 := G99.has b41_52
   have b41_88 := AH.has.updr b41_126 (Nat.ne_of_gt (Nat.lt_of_lt_of_le (G91.has b9).lt (Nat.le_refl _))) u88
   have G127 := (((((g76.trans g77).trans g78).updr (Nat.le_trans ((g76.trans g77)).size (Nat.le_refl _)) u79).updr (Nat.le_refl _) u80).trans g87)
   have b75_128 := G127.has b75
   have G129 := ((G105.trans g50).updr (Nat.le_trans (G93).size (Nat.le_refl _)) u52)
   have b75_88 := AH.has.updr b75_128 (Nat.ne_of_gt (Nat.lt_of_lt_of_le (G129.has b9).lt (Nat.le_refl _))) u88
   have b80_88 := AH.has.updr (g87.has b80) (Nat.ne_of_gt (Nat.lt_of_lt_of_le (G95.has b9).lt (Nat.le_refl _))) u88
   have b79_88 := AH.has.updr (g87.has b79_80) (Nat.ne_of_gt (Nat.lt_of_lt_of_le (G94.has b9).lt (Nat.le_refl _))) u88
   refine Runs.step (AH.has.rd b88 0 rfl rfl) ?_
   refine Runs.step (AH.has.rd b88 1 rfl (asSl_v _)) ?_
   refine Runs.step (AH.has.rd b88 2 rfl (asSl_v _)) ?_
   cases e
   cases good
   have G130 := ((((g6.trans g7).trans g8).trans g9).trans g10)
   have G131 := (((((((G130.trans g11).updr (Nat.le_trans (G130).size (Nat.le_refl _)) u12).trans g17).trans g19).trans g23).trans g24).trans g27)
   have G132 := (((((G130.trans g11).updr (Nat.le_trans (G130).size (Nat.le_refl _)) u12).trans g17).trans g19).trans g23)
   have G133 := ((((((G131.trans g28).updr (Nat.le_trans (G131).size (Nat.le_refl _)) u29).updr (Nat.le_trans (G132).size (Nat.le_refl _)) u30).trans g37).trans g38).trans g39)
   have G134 := ((((G131.trans g28).updr (Nat.le_trans (G131).size (Nat.le_refl _)) u29).updr (Nat.le_trans (G132).size (Nat.le_refl _)) u30).trans g37)
   have G135 := (((G130.trans g11).updr (Nat.le_trans (G130).size (Nat.le_refl _)) u12).trans g17)
   have G136 := ((((((((G133.trans g40).updr (Nat.le_trans (G133).size (Nat.le_refl _)) u41).updr (Nat.le_trans (G134).size (Nat.le_refl _)) u42).trans g50).updr (Nat.le_trans (G135).size (Nat.le_refl _)) u52).trans g75).trans g76).trans g77)
   have G137 := ((((((G133.trans g40).updr (Nat.le_trans (G133).size (Nat.le_refl _)) u41).updr (Nat.le_trans (G134).size (Nat.le_refl _)) u42).trans g50).updr (Nat.le_trans (G135).size (Nat.le_refl _)) u52).trans g75)
   have G138 := ((((((((((((((((((((((((((((g6.trans g7).trans g8).trans g9).trans g10).trans g11).updr (Nat.le_trans (G130).size (Nat.le_refl _)) u12).trans g17).trans g19).trans g23).trans g24).trans g27).trans g28).updr (Nat.le_trans (G131).size (Nat.le_refl _)) u29).updr (Nat.le_trans (G132).size (Nat.le_refl _)) u30).trans g37).trans g38).trans g39).trans g40).updr (Nat.le_trans (G133).size (Nat.le_refl _)) u41).updr (Nat.le_trans (G134).size (Nat.le_refl _)) u42).trans g50).updr (Nat.le_trans (G135).size (Nat.le_refl _)) u52).trans g75).trans g76).trans g77).trans g78).updr (Nat.le_trans (G136).size (Nat.le_refl _)) u79).updr (Nat.le_trans (G137).size (Nat.le_refl _)) u80)
   have G139 := ((g6.trans g7).trans g8)
   have G140 := ((G138.trans g87).updr (Nat.le_trans (G139).size (Nat.le_refl _)) u88)
   exact Runs.ret ⟨s87, s87b, rfl, n87_88, n87b_88, G140, (o87.of_le G138), (o87b.of_le G138)⟩
theorem ku0 {s : kf5} {r : kej} (it : Iter kpg s r) : kk4 r s := Iter.ind (fun s o e good => by
 cases s with
 | fn a1 a2 a3 a4 a5 => exact @kuu _ _ a1 a2 a3 a4 a5 e good
 | no => exact True.intro
 ) it
end Go.Ab

/- squeezed -/
set_option linter.unusedVariables false
set_option linter.unusedSimpArgs false
set_option maxRecDepth 10000
namespace Go.Ab
open Go.Proofs Go.Num
abbrev Frc := Bool × List Nat × List Nat × Int
theorem eta4 (x : Frc) : (x.1, x.2.1, x.2.2.1, x.2.2.2) = x := rfl
def addQ (a b : Frc) : Frc := kco a.1 a.2.1 a.2.2.1 b.1 b.2.1 b.2.2.1
def subQ (a b : Frc) : Frc := kcv a.1 a.2.1 a.2.2.1 b.1 b.2.1 b.2.2.1
def gainF (l g n G N : Int) : Frc :=
 cond (!(kp g n G N).2.2) (false, [], [], 1) (cond (!kx l) (false, [], [], 1) (subQ (addQ (scoreF l g n) (scoreF l (kp g n G N).1 (kp g n G N).2.1)) (scoreF l G N)))
theorem kxd (l g n G N : Int) : Iter kpg (.fn l g n G N) (gainF l g n G N) := .done (by
 show kgk _ _ _ _ _ = _
 unfold kgk gainF
 cases (kp g n G N).2.2 with
 | false => rfl
 | true =>
  cases kx l with
  | false => rfl
  | true =>
   simp only [Bool.not_true, cond_false]
   unfold subQ addQ
   exact congrArg (fun r => some (Sum.inr r)) (eta4 _))
theorem kun {h : AH} (l g n G N : Int) : Runs (go (.fn F.kiz [.int .i64 l, .agg [.int .i64 g, .int .i64 n], .agg [.int .i64 G, .int .i64 N]]) h) (knc h (gainF l g n G N)) := ku0 (kxd l g n G N)
theorem kgh {z : Int} {d : Nat} (hd : 0 < d) (hz : z.natAbs < B ^ 16) (hd' : d < B ^ 16) : ∃ (w : Int) (e : Nat), fracM z d = ((intD w).1, (intD w).2, digs B e, 0) ∧ IsFrac (fracM z d).1 (fracM z d).2.1 (fracM z d).2.2.1 w e ∧ w.natAbs ≤ z.natAbs ∧ e ≤ d := by
 have h0 : (fracM z d).2.2.2 = 0 := by
  unfold fracM
  rw [if_pos ⟨Nat.lt_of_le_of_lt (Nat.div_le_self _ _) hz, Nat.lt_of_le_of_lt (Nat.div_le_self _ _) hd'⟩]
 obtain ⟨w, e, e1, f, _, g, hg, e2, e3⟩ := ksr hd h0
 refine ⟨w, e, e1, f, ?_, ?_⟩
 ·rw [e2, Int.natAbs_mul, Int.natAbs_natCast]
  exact Nat.le_mul_of_pos_right _ hg
 ·rw [e3]
  exact Nat.le_mul_of_pos_left _ hg
theorem kqc {g n G N : Int} (h : (kp g n G N).2.2 = true) : kv g n = true ∧ kv G N = true ∧ kv (G - g) (N - n) = true ∧ kp g n G N = (G - g, N - n, true) := by
 unfold kp at h ⊢
 cases h1 : kv g n with
 | false => rw [h1] at h; cases h
 | true =>
  cases h2 : kv G N with
  | false => rw [h1, h2] at h; cases h
  | true =>
   obtain ⟨a1, a2, a3, a4⟩ := ki0.1 h1
   obtain ⟨b1, b2, b3, b4⟩ := ki0.1 h2
   rw [h1, h2, wrap64 (by omega) (by omega), wrap64 (by omega) (by omega)] at h
   have h : kv (G - g) (N - n) = true := h
   rw [wrap64 (by omega) (by omega), wrap64 (by omega) (by omega), h]
   exact ⟨rfl, rfl, rfl, rfl⟩
theorem kpb : 1099511627776 * 1099511627776 * 2097152 * 8 < B ^ 16 := by decide +kernel
theorem khr {l g n : Int} (h1 : kv g n = true) (h2 : kx l = true) : ∃ (w : Int) (e : Nat), scoreF l g n = ((intD w).1, (intD w).2, digs B e, 0) ∧ IsFrac (scoreF l g n).1 (scoreF l g n).2.1 (scoreF l g n).2.2.1 w e ∧ w.natAbs ≤ 1099511627776 * 1099511627776 ∧ e ≤ 2097152 := by
 obtain ⟨a1, a2, a3, a4⟩ := ki0.1 h1
 obtain ⟨b1, b2⟩ := kny.1 h2
 have hs := sq_lt a1 a2
 have hb := kpb
 unfold scoreF
 rw [if_pos ⟨h1, h2⟩]
 obtain ⟨w, e, e1, f, l1, l2⟩ := kgh (z := g * g) (d := (n + l).toNat) (by omega) (by omega) (by omega)
 exact ⟨w, e, e1, f, by omega, by omega⟩
theorem kdb {a b c d : Nat} (h1 : a ≤ c) (h2 : b ≤ d) : a * b ≤ c * d := Nat.mul_le_mul h1 h2
theorem kou {l g n g' n' : Int} (h1 : kv g n = true) (h1' : kv g' n' = true) (h2 : kx l = true) : ∃ (w : Int) (e : Nat), addQ (scoreF l g n) (scoreF l g' n') = ((intD w).1, (intD w).2, digs B e, 0) ∧ IsFrac (addQ (scoreF l g n) (scoreF l g' n')).1 (addQ (scoreF l g n) (scoreF l g' n')).2.1 (addQ (scoreF l g n) (scoreF l g' n')).2.2.1 w e ∧ w.natAbs ≤ 1099511627776 * 1099511627776 * 2097152 * 2 ∧ e ≤ 2097152 * 2097152 := by
 obtain ⟨w, e, _, f, l1, l2⟩ := khr h1 h2
 obtain ⟨w', e', _, f', l1', l2'⟩ := khr h1' h2
 have hb := kpb
 unfold addQ
 rw [Add_of f f']
 have p1 : (w * (e' : Int)).natAbs ≤ 1099511627776 * 1099511627776 * 2097152 := by rw [Int.natAbs_mul, Int.natAbs_natCast]; exact kdb l1 l2'
 have p2 : (w' * (e : Int)).natAbs ≤ 1099511627776 * 1099511627776 * 2097152 := by rw [Int.natAbs_mul, Int.natAbs_natCast]; exact kdb l1' l2
 have p3 : e * e' ≤ 2097152 * 2097152 := kdb l2 l2'
 have p4 : 0 < e * e' := Nat.mul_pos f.pos f'.pos
 obtain ⟨x, c, e1, fx, m1, m2⟩ := kgh (z := w * (e' : Int) + w' * (e : Int)) (d := e * e') p4 (by omega) (by omega)
 exact ⟨x, c, e1, fx, by omega, by omega⟩
theorem kpy : 1099511627776 * 1099511627776 * 2097152 * 2 * 2097152 + 1099511627776 * 1099511627776 * (2097152 * 2097152) < B ^ 16 := by decide +kernel
theorem koq {l g n G N : Int} (h1 : (kp g n G N).2.2 = true) (h2 : kx l = true) : (gainF l g n G N).2.2.2 = 0 := by
 obtain ⟨m1, m2, m3, e⟩ := kqc h1
 unfold gainF
 rw [h1, h2, e]
 obtain ⟨w, c, _, f, l1, l2⟩ := kou m1 m3 h2
 obtain ⟨w', c', _, f', l1', l2'⟩ := khr m2 h2
 have hb := kpy
 simp only [Bool.not_true, cond_false]
 unfold subQ
 rw [Sub_of f f']
 have p1 : (w * (c' : Int)).natAbs ≤ 1099511627776 * 1099511627776 * 2097152 * 2 * 2097152 := by rw [Int.natAbs_mul, Int.natAbs_natCast]; exact kdb l1 l2'
 have p2 : (w' * (c : Int)).natAbs ≤ 1099511627776 * 1099511627776 * (2097152 * 2097152) := by rw [Int.natAbs_mul, Int.natAbs_natCast]; exact kdb l1' l2
 have p3 : c * c' ≤ 2097152 * 2097152 * 2097152 := kdb l2 l2'
 have p4 : 0 < c * c' := Nat.mul_pos f.pos f'.pos
 obtain ⟨x, y, e1, fx, m1, m2⟩ := kgh (z := w * (c' : Int) - w' * (c : Int)) (d := c * c') p4 (by omega) (by omega)
 rw [e1]
theorem kw8 (l g n G N : Int) : (gainF l g n G N).2.2.2 = 0 ∨ (gainF l g n G N).2.2.2 = 1 := by
 cases h1 : (kp g n G N).2.2 with
 | false => right; unfold gainF; rw [h1]; rfl
 | true =>
  cases h2 : kx l with
  | false => right; unfold gainF; rw [h1, h2]; rfl
  | true => exact Or.inl (koq h1 h2)
theorem kt2 {l g n G N : Int} (h : (gainF l g n G N).2.2.2 = 0) : (kp g n G N).2.2 = true ∧ kx l = true := by
 unfold gainF at h
 cases h1 : (kp g n G N).2.2 with
 | false => rw [h1] at h; cases h
 | true =>
  cases h2 : kx l with
  | false => rw [h1, h2] at h; cases h
  | true => exact ⟨rfl, rfl⟩
end Go.Ab

/- squeezed -/
set_option linter.unusedVariables false
set_option linter.unusedSimpArgs false
set_option maxRecDepth 10000
namespace Go.Ab
open Go.Proofs Go.Num
inductive kfl
 | fn
 | no
abbrev keg := Bool
noncomputable def kgd  : Option (kfl ⊕ keg) :=
 cond (decide (((scoreF 1 4 1).2.2.2) = 0)) (cond (decide ((List.length ((scoreF 1 4 1).2.1) : Int) = 1)) ((atI ((scoreF 1 4 1).2.1) 0).bind fun y6 => some (.inr (decide (((y6 : Int)) = 8)))) (some (.inr false))) (some (.inr false))
noncomputable def kqd : kfl → Option (kfl ⊕ keg)
 | .fn  => kgd
 | .no => none
@[reducible] def ksi (h0 : AH) (r : keg) (v : AV) (h' : AH) : Prop := v = .bool r ∧ Grow h0 h'
def kkc (r : keg) : kfl → Prop
 | .fn  => ∀ {h : AH}, Runs (go (.fn F.kii []) h) (ksi h r)
 | .no => True
theorem kx3 {r : keg} {o : kfl ⊕ keg}  (e : kgd  = some o) (good : GoodS (kkc r) r o) : kkc r (.fn ) := by
 intro h
 rw [kqu]
 unfold kgd at e
 obtain ⟨_, H1, e1, s1, s1b, rfl, n1, n1b, g1, o1, o1b⟩ := kit 1 4 1
 refine Runs.step e1 ?_
 refine Runs.step rfl ?_
 refine Runs.step rfl ?_
 refine Runs.ifT rfl ?_
 refine Runs.step (seenAt rfl rfl) ?_
 refine Runs.step (seenAt rfl (asSl_v _)) ?_
 refine Runs.step (seenAt rfl (asSl_v _)) ?_
 refine Runs.step (seen (kb _ _)) ?_
 refine Runs.new fun H2 b2 g2 => ?_
 refine Runs.puts b2 rfl fun H3 b3 u3 => ?_
 refine Runs.cond (fun k4 => ?_) (fun k4 => ?_)
 ·replace e := (condT k4).symm.trans e
  refine Runs.step (AH.has.rd b3 1 rfl (asSl_v _)) ?_
  rw [(n1.grow (g2.updr (Nat.le_refl _) u3)).len]
  refine Runs.cond (fun k5 => ?_) (fun k5 => ?_)
  ·replace e := (condT k5).symm.trans e
   refine Runs.step (AH.has.rd b3 1 rfl (asSl_v _)) ?_
   rw [(n1.grow (g2.updr (Nat.le_refl _) u3)).len]
   obtain ⟨y6, q6, e⟩ := Option.bind_eq_some_iff.1 e
   obtain ⟨r6, j6, l6⟩ := (n1.grow (g2.updr (Nat.le_refl _) u3)).atI q6
   refine Runs.step j6 ?_
   refine Runs.step (rdc l6 (kb _ _)) ?_
   cases e
   cases good
   have G7 := ((g1.trans g2).updr (Nat.le_trans (g1).size (Nat.le_refl _)) u3)
   exact Runs.ret ⟨rfl, G7⟩
  ·replace e := (condF k5).symm.trans e
   cases e
   cases good
   have G6 := ((g1.trans g2).updr (Nat.le_trans (g1).size (Nat.le_refl _)) u3)
   exact Runs.ret ⟨rfl, G6⟩
 ·replace e := (condF k4).symm.trans e
  cases e
  cases good
  have G5 := ((g1.trans g2).updr (Nat.le_trans (g1).size (Nat.le_refl _)) u3)
  exact Runs.ret ⟨rfl, G5⟩
theorem kry {s : kfl} {r : keg} (it : Iter kqd s r) : kkc r s := Iter.ind (fun s o e good => by
 cases s with
 | fn  => exact @kx3 _ _  e good
 | no => exact True.intro
 ) it
theorem ksn : scoreF 1 4 1 = (false, [8], [1], 0) := by decide +kernel
theorem ks4 {h : AH} : ∃ h', go (.fn F.kii []) h = some (.bool true, h') ∧ Grow h h' := by
 have it : Iter kqd .fn true := .done (by
  show kgd = _
  unfold kgd
  rw [ksn]
  rfl)
 obtain ⟨_, h', e, rfl, g⟩ := kry it (h := h)
 exact ⟨h', e, g⟩
end Go.Ab

/- squeezed -/
set_option linter.unusedVariables false
set_option linter.unusedSimpArgs false
set_option maxRecDepth 10000
namespace Go.Ab
open Go.Proofs Go.Num
end Go.Ab

/- squeezed -/
set_option linter.unusedVariables false
set_option linter.unusedSimpArgs false
namespace Go.Ab
variable {P : Program}
inductive All2 {α β : Type} (R : α → β → Prop) : List α → List β → Prop
 | nil : All2 R [] []
 | cons {a : α} {b : β} {ls : List α} {bs : List β} : R a b → All2 R ls bs → All2 R (a :: ls) (b :: bs)
section
variable {α β : Type} {R S : α → β → Prop}
theorem All2.imp (f : ∀ a b, R a b → S a b) {ls : List α} {bs : List β} (a : All2 R ls bs) : All2 S ls bs := by
 induction a with
 | nil => exact .nil
 | cons h _ ih => exact .cons (f _ _ h) ih
theorem All2.length {ls : List α} {bs : List β} (a : All2 R ls bs) : ls.length = bs.length := by
 induction a with
 | nil => rfl
 | cons h _ ih => simp [ih]
theorem All2.get {ls : List α} {bs : List β} (a : All2 R ls bs) : ∀ {i : Nat} {y : β}, bs[i]? = some y → ∃ x, ls[i]? = some x ∧ R x y := by
 induction a with
 | nil => intro i y h; simp at h
 | cons h _ ih =>
  intro i y hy
  cases i with
  | zero => cases hy; exact ⟨_, rfl, h⟩
  | succ i => exact ih hy
theorem All2.snoc {ls : List α} {bs : List β} (a : All2 R ls bs) {x : α} {y : β} (h : R x y) : All2 R (ls ++ [x]) (bs ++ [y]) := by
 induction a with
 | nil => exact .cons h .nil
 | cons h' _ ih => exact .cons h' ih
end
structure El (α : Type) where
 w : Nat
 pos : 0 < w
 has : AH → List AV → α → Prop
 av : Nat → List AV → α → Prop
 len : ∀ {h : AH} {cs : List AV} {a : α}, has h cs a → cs.length = w
 grow : ∀ {h h' : AH} {cs : List AV} {a : α}, Grow h h' → has h cs a → has h' cs a
 upd : ∀ {h h' : AH} {i : Nat} {cs : List AV} {a : α}, has h cs a → av i cs a → Upd h h' i → has h' cs a
 new : ∀ {h : AH} {i : Nat} {cs : List AV} {a : α}, has h cs a → h.blks.size ≤ i → av i cs a
def El.int (k : IntKind) : El Int where
 w := 1
 pos := by decide
 has _ cs n := cs = [.int k n]
 av _ _ _ := True
 len e := by rw [e]; rfl
 grow _ e := e
 upd e _ _ := e
 new _ _ := trivial
def El.bool : El Bool where
 w := 1
 pos := by decide
 has _ cs b := cs = [.bool b]
 av _ _ _ := True
 len e := by rw [e]; rfl
 grow _ e := e
 upd e _ _ := e
 new _ _ := trivial
theorem Sl.vs_inj {s t : Sl} (h : [Sl.v s] = [Sl.v t]) : s = t := by
 cases s; cases t
 simp only [Sl.v, List.cons.injEq, AV.slice.injEq, and_true] at h
 obtain ⟨rfl, rfl, rfl⟩ := h
 rfl
def El.nats : El (List Nat) where
 w := 1
 pos := by decide
 has h cs xs := ∃ s, cs = [Sl.v s] ∧ Nats h s xs
 av i cs xs := ∃ s, cs = [Sl.v s] ∧ Av s i xs
 len := fun ⟨s, e, _⟩ => by rw [e]; rfl
 grow g := fun ⟨s, e, n⟩ => ⟨s, e, n.grow g⟩
 upd := fun ⟨s, e, n⟩ ⟨t, e', a⟩ u => by
  rw [e] at e'
  cases Sl.vs_inj e'
  exact ⟨s, e, n.upda a u⟩
 new := fun ⟨s, e, n⟩ hi => ⟨s, e, Av.of_base n hi⟩
def El.pair {α β : Type} (A : El α) (B : El β) : El (α × β) where
 w := A.w + B.w
 pos := by have := A.pos; omega
 has h cs p := ∃ c1 c2, cs = c1 ++ c2 ∧ A.has h c1 p.1 ∧ B.has h c2 p.2
 av i cs p := ∃ c1 c2, cs = c1 ++ c2 ∧ c1.length = A.w ∧ A.av i c1 p.1 ∧ B.av i c2 p.2
 len := fun ⟨c1, c2, e, a, b⟩ => by rw [e, List.length_append, A.len a, B.len b]
 grow g := fun ⟨c1, c2, e, a, b⟩ => ⟨c1, c2, e, A.grow g a, B.grow g b⟩
 upd := fun ⟨c1, c2, e, a, b⟩ ⟨d1, d2, e', l, a', b'⟩ u => by
  rw [e] at e'
  obtain ⟨rfl, rfl⟩ := List.append_inj e' (by rw [A.len a, l])
  exact ⟨c1, c2, e, A.upd a a' u, B.upd b b' u⟩
 new := fun ⟨c1, c2, e, a, b⟩ hi => ⟨c1, c2, e, A.len a, A.new a hi, B.new b hi⟩
theorem kbz {w : Nat} : ∀ {rows : List (List AV)}, (∀ r ∈ rows, r.length = w) → rows.flatten.length = rows.length * w
 | [], _ => by simp
 | r :: rows, h => by
  rw [List.flatten_cons, List.length_append, kbz (fun q hq => h q (by simp [hq])), h r (by simp), List.length_cons, Nat.add_mul]
  omega
theorem kir {w : Nat} : ∀ {rows : List (List AV)}, (∀ r ∈ rows, r.length = w) → ∀ {i : Nat} {r : List AV} {k : Nat} {v : AV}, rows[i]? = some r → r[k]? = some v → rows.flatten[i * w + k]? = some v
 | [], _, i, r, k, v, hi, _ => by simp at hi
 | q :: rows, h, 0, r, k, v, hi, hk => by
  cases hi
  rw [List.flatten_cons, List.getElem?_append_left (by have := (List.getElem?_eq_some_iff.1 hk).1; omega)]
  simpa using hk
 | q :: rows, h, i + 1, r, k, v, hi, hk => by
  have := kir (fun q hq => h q (by simp [hq])) (show rows[i]? = some r from hi) hk
  rw [List.flatten_cons, List.getElem?_append_right (by rw [h q (by simp), Nat.add_mul]; omega), h q (by simp), show (i + 1) * w + k - w = i * w + k from by rw [Nat.add_mul]; omega]
  exact this
theorem All2.rows {α : Type} {E : El α} {h : AH} {rows : List (List AV)} {xs : List α} (a : All2 (E.has h) rows xs) : ∀ r ∈ rows, r.length = E.w := by
 induction a with
 | nil => simp
 | cons h' _ ih =>
  intro r hr
  rcases List.mem_cons.1 hr with rfl | hr
  ·exact E.len h'
  ·exact ih r hr
structure Seq {α : Type} (E : El α) (h : AH) (s : Sl) (xs : List α) : Prop where
 rows : ∃ rows, Cells h s E.w rows.flatten ∧ All2 (E.has h) rows xs
 len : s.len = xs.length
 short : xs.length ≤ 9223372036854775807
theorem Seq.grow {α : Type} {E : El α} {h h' : AH} {s : Sl} {xs : List α} (n : Seq E h s xs) (g : Grow h h') : Seq E h' s xs := by
 obtain ⟨⟨rows, c, a⟩, l, sh⟩ := n
 exact ⟨⟨rows, c.grow g, a.imp fun _ _ => E.grow g⟩, l, sh⟩
theorem Seq.nil {α : Type} (E : El α) (h : AH) : Seq E h ⟨none, 0, .is 0⟩ [] := ⟨⟨[], Cells.nil h _, .nil⟩, rfl, by simp⟩
def atX {α : Type} (xs : List α) (i : Int) : Option α := if 0 ≤ i then xs[i.toNat]? else none
theorem kmm {α : Type} {xs : List α} {i : Int} {y : α} (q : atX xs i = some y) : ∃ j : Nat, i = (j : Int) ∧ xs[j]? = some y := by
 unfold atX at q
 split at q
 ·exact ⟨i.toNat, by omega, q⟩
 ·cases q
theorem kjw {α : Type} {xs : List α} {i : Nat} (h : i < xs.length) : atX xs (i : Int) = some xs[i] := by
 unfold atX
 rw [if_pos (by omega), Int.toNat_natCast, List.getElem?_eq_getElem h]
structure Lies (h : AH) (r : Ref) (cs : List AV) : Prop where
 at' : ∀ k v, cs[k]? = some v → h.cell (r.add k) = some v
theorem Lies.rd {A : Type} {f : AV → Option A} {h h' : AH} {r : Ref} {cs : List AV} (l : Lies h r cs) (g : Grow h h') (k : Nat) {v : AV} {x : A} (hk : cs[k]? = some v) (hf : f v = some x) : (h'.cell (r.add k)).bind f = some x := by
 rw [g.cell_some (l.at' k v hk)]
 exact hf
theorem Lies.rd0 {A : Type} {f : AV → Option A} {h h' : AH} {r : Ref} {cs : List AV} (l : Lies h r cs) (g : Grow h h') {v : AV} {x : A} (hk : cs[0]? = some v) (hf : f v = some x) : (h'.cell r).bind f = some x := by
 have := l.rd g 0 hk hf
 rwa [Ref.add_zero] at this
theorem Seq.at {α : Type} {E : El α} {h : AH} {s : Sl} {xs : List α} (n : Seq E h s xs) {i : Int} {y : α} (q : atX xs i = some y) : ∃ (r : Ref) (cs : List AV), idx s.ref xs.length i E.w = some r ∧ E.has h cs y ∧ Lies h r cs := by
 obtain ⟨⟨rows, c, a⟩, l, sh⟩ := n
 obtain ⟨j, rfl, hj⟩ := kmm q
 obtain ⟨cs, e1, e2⟩ := a.get hj
 have hjl := (List.getElem?_eq_some_iff.1 hj).1
 have hr := a.rows
 have key : ∀ k v, cs[k]? = some v → ∃ r, s.ref = some r ∧ h.cell (r.add (j * E.w + k)) = some v := fun k v hk => c.get _ _ (kir hr e1 hk)
 cases hs : s.ref with
 | none =>
  exfalso
  cases cs with
  | nil => have := E.len e2; have := E.pos; simp at *; omega
  | cons v vs =>
   obtain ⟨r, e, _⟩ := key 0 v rfl
   rw [hs] at e
   cases e
 | some r =>
  refine ⟨r.add (j * E.w), cs, ?_, e2, ⟨fun k v hk => ?_⟩⟩
  ·rw [kcp _ _ _ _ (by omega) (by omega)]
   simp
  ·obtain ⟨r', e, e'⟩ := key k v hk
   rw [hs] at e
   cases e
   rw [Ref.add_add]
   exact e'
structure GL {α : Type} (E : El α) (elem : TypeId) (h : AH) (s : Sl) (i : Nat) (xs : List α) : Prop where
 rows : ∃ rows, Cells h s E.w rows.flatten ∧ All2 (fun cs a => E.has h cs a ∧ E.av i cs a) rows xs
 len : s.len = xs.length
 own : s.cap = .is s.len ∨ (s.ref = some (.new i 0) ∧ s.cap = .opn E.w ∧ ∃ bs, h.has i bs elem)
 loc : ∀ r, s.ref = some r → ∃ o, r = .new i o
theorem GL.nil {α : Type} (E : El α) (elem : TypeId) (h : AH) (i : Nat) : GL E elem h ⟨none, 0, .is 0⟩ i [] :=
 ⟨⟨[], Cells.nil h _, .nil⟩, rfl, .inl rfl, fun r hr => by cases hr⟩
theorem GL.one {α : Type} {E : El α} {elem e : TypeId} {h : AH} {i : Nat} {cs : List AV} {x : α} (b : h.has i cs e) (c : E.has h cs x) (a : E.av i cs x) : GL E elem h ⟨some (.new i 0), 1, .is 1⟩ i [x] :=
 ⟨⟨[cs], Cells.of_has (by simpa using b) (by simp [E.len c]), .cons ⟨c, a⟩ .nil⟩, rfl, .inl rfl, fun r hr => by cases hr; exact ⟨_, rfl⟩⟩
theorem GL.grow {α : Type} {E : El α} {elem : TypeId} {h h' : AH} {s : Sl} {i : Nat} {xs : List α} (v : GL E elem h s i xs) (g : Grow h h') : GL E elem h' s i xs := by
 obtain ⟨⟨rows, c, a⟩, l, o, lo⟩ := v
 exact ⟨⟨rows, c.grow g, a.imp fun _ _ p => ⟨E.grow g p.1, p.2⟩⟩, l, o.imp id fun ⟨e1, e2, bs, b⟩ => ⟨e1, e2, bs, g.has b⟩, lo⟩
theorem GL.seq {α : Type} {E : El α} {elem : TypeId} {h : AH} {s : Sl} {i : Nat} {xs : List α} (v : GL E elem h s i xs) (hs : xs.length ≤ 9223372036854775807) : Seq E h s xs := by
 obtain ⟨⟨rows, c, a⟩, l, o, lo⟩ := v
 exact ⟨⟨rows, c, a.imp fun _ _ p => p.1⟩, l, hs⟩
theorem GL.own_of {α : Type} {E : El α} {elem : TypeId} {h h0 : AH} {s : Sl} {i : Nat} {xs : List α} (v : GL E elem h s i xs) (hi : h0.blks.size ≤ i) : Own h0 s := fun r hr => by
 obtain ⟨o, rfl⟩ := v.loc r hr
 exact ⟨i, o, rfl, hi⟩
theorem AH.kill_Upd (h : AH) (i : Nat) : Upd h (h.kill (some (.new i 0))) i :=
 ⟨rfl, by simp [AH.kill], fun j hj _ => by
  show (h.blks.setIfInBounds i .dead)[j]? = _
  rw [Array.getElem?_setIfInBounds_ne (fun x => hj x.symm)]⟩
theorem GL.push {α : Type} {E : El α} {elem : TypeId} {h : AH} {s : Sl} {i : Nat} {xs : List α} (v : GL E elem h s i xs) {cs : List AV} {x : α} (c : E.has h cs x) (a : E.av i cs x) (hg : growOk P (xs.length + 1) elem E.w = true) :
  ∃ s' h', kbb P s cs 1 elem E.w h = some (s'.v, h') ∧ GL E elem h' s' h.blks.size (xs ++ [x]) ∧ Upd h h' i := by
 obtain ⟨⟨rows, cc, aa⟩, l, o, lo⟩ := v
 rw [← l] at hg
 have fl : (s.len + 1) * E.w = (rows.flatten ++ cs).length := by rw [Nat.add_mul, cc.len, List.length_append, E.len c, Nat.one_mul]
 have fr : rows.flatten ++ cs = (rows ++ [cs]).flatten := by simp
 rcases o with e | ⟨e1, e2, bs, b⟩
 ·rw [kfw e (by omega) hg cc]
  refine ⟨_, _, rfl, ⟨⟨rows ++ [cs], ⟨rfl, by rw [← fr]; exact fl, fun j w hw => ⟨_, rfl, ?_⟩⟩, ?_⟩, by simp [l], .inr ⟨rfl, rfl, rows.flatten ++ cs, AH.has_push _ _ _⟩, fun r hr => by cases hr; exact ⟨_, rfl⟩⟩, (Grow.push _ _).toUpd i⟩
  ·rw [fr]
   simpa using hw
  ·refine All2.snoc (aa.imp fun _ _ p => ?_) ⟨E.grow (Grow.push _ _) c, E.new c (Nat.le_refl _)⟩
   exact ⟨E.grow (Grow.push _ _) p.1, E.new p.1 (Nat.le_refl _)⟩
 ·have hap : kbb P s cs 1 elem E.w h = some (Sl.v ⟨some (.new h.blks.size 0), s.len + 1, .opn E.w⟩, (h.kill s.ref).push (.cells (rows.flatten ++ cs) elem)) := by
   unfold kbb
   simp only [e2]
   rw [show Nat.beq 1 0 = false from rfl, show Nat.beq E.w E.w = true from Nat.beq_refl _]
   simp only [cond_false, hg, Bool.and_true, cond_true, e1, show h.blks[i]? = _ from b]
   have hgets := cc.gets
   rw [e1] at hgets
   simp only [hgets, Option.bind_some]
   rw [show Nat.beq elem elem = true from Nat.beq_refl _, cond_true]
   have : (AH.kill h (some (Ref.new i 0))).blks.size = h.blks.size := by simp [AH.kill]
   simp [AH.next, this, Sl.v]
   rfl
  rw [hap, e1]
  have sz : (h.kill (some (.new i 0))).blks.size = h.blks.size := by simp [AH.kill]
  have u : Upd h (h.kill (some (.new i 0))) i := AH.kill_Upd h i
  refine ⟨_, _, rfl, ⟨⟨rows ++ [cs], ⟨rfl, by rw [← fr]; exact fl, fun j w hw => ⟨_, rfl, ?_⟩⟩, ?_⟩, by simp [l], .inr ⟨rfl, rfl, rows.flatten ++ cs, ?_⟩, fun r hr => by cases hr; exact ⟨_, rfl⟩⟩, u.trans ((Grow.push _ _).toUpd i)⟩
  ·rw [fr, ← sz]
   simpa using hw
  ·refine All2.snoc (aa.imp fun _ _ p => ?_) ⟨E.grow (Grow.push _ _) (E.upd c a u), E.new c (Nat.le_refl _)⟩
   exact ⟨E.grow (Grow.push _ _) (E.upd p.1 p.2 u), E.new p.1 (Nat.le_refl _)⟩
  ·have := AH.has_push (h.kill (some (.new i 0))) (rows.flatten ++ cs) elem
   rw [sz] at this
   exact this
theorem kwm {h : AH} {i n : Nat} {cs : List AV} {e elem : TypeId} (b : h.has i cs e) (hl : n * P.cellsOf elem = cs.length) : kcm P elem (Sl.v ⟨some (.new i 0), n, .is n⟩) h = some (cs, n) :=
 kh0 (Cells.of_has b hl)
section
variable {Q : AV → AH → Prop}
end
end Go.Ab

/- squeezed -/
set_option linter.unusedVariables false
set_option linter.unusedSimpArgs false
namespace Go.Ab
end Go.Ab

/- squeezed -/
set_option linter.unusedVariables false
set_option linter.unusedSimpArgs false
namespace Go.Ab
variable {P : Program}
def UpdO (h h' : AH) : Option Nat → Prop
 | none => Grow h h'
 | some k => Upd h h' k
def AvO (s : Sl) (xs : List Nat) : Option Nat → Prop
 | none => True
 | some k => Av s k xs
def LeO (n : Nat) : Option Nat → Prop
 | none => True
 | some k => n ≤ k
def LtO (n : Nat) : Option Nat → Prop
 | none => True
 | some k => k < n
def NeO (j : Nat) : Option Nat → Prop
 | none => True
 | some k => j ≠ k
def NeOO : Option Nat → Option Nat → Prop
 | none, _ => True
 | some j, i => NeO j i
theorem LeO.trans {m n : Nat} (h : m ≤ n) : ∀ {i : Option Nat}, LeO n i → LeO m i
 | none, _ => trivial
 | some k, l => Nat.le_trans h l
theorem NeO.of_le {j n : Nat} : ∀ {i : Option Nat}, LeO n i → j < n → NeO j i
 | none, _, _ => trivial
 | some k, l, h => by
  have : n ≤ k := l
  show j ≠ k
  omega
theorem NeOO.of_le {n : Nat} : ∀ {j i : Option Nat}, LtO n j → LeO n i → NeOO j i
 | none, _, _, _ => trivial
 | some j, _, l, h => NeO.of_le h l
theorem AvO.of_base {h0 : AH} {s : Sl} {xs : List Nat} (n : Nats h0 s xs) : ∀ {i : Option Nat}, LeO h0.blks.size i → AvO s xs i
 | none, _ => trivial
 | some k, l => Av.of_base n l
theorem AvO.of_own {h1 : AH} {s : Sl} {xs : List Nat} (o : Own h1 s) : ∀ {i : Option Nat}, LtO h1.blks.size i → AvO s xs i
 | none, _ => trivial
 | some k, l => Av.of_own o l
theorem AvO.nil (i : Option Nat) (s : Sl) : AvO s [] i := by
 cases i
 ·trivial
 ·exact .inl rfl
theorem UpdO.trans {h1 h2 h3 : AH} : ∀ {i : Option Nat}, UpdO h1 h2 i → UpdO h2 h3 i → UpdO h1 h3 i
 | none, u, w => Grow.trans u w
 | some k, u, w => Upd.trans u w
theorem Grow.updo {h h1 h2 : AH} (g : Grow h h1) : ∀ {i : Option Nat}, LeO h.blks.size i → UpdO h1 h2 i → Grow h h2
 | none, _, u => g.trans u
 | some k, l, u => g.updr l u
theorem AH.has.updo {h1 h2 : AH} {j : Nat} {cs : List AV} {e : TypeId} (b : h1.has j cs e) : ∀ {i : Option Nat}, NeO j i → UpdO h1 h2 i → h2.has j cs e
 | none, _, u => u.has b
 | some k, l, u => AH.has.updr b l u
theorem Vec.updo {h1 h2 : AH} {s : Sl} {j : Nat} {xs : List Nat} (b : Vec h1 s j xs) : ∀ {i : Option Nat}, NeO j i → UpdO h1 h2 i → Vec h2 s j xs
 | none, _, u => b.grow u
 | some k, l, u => b.updr l u
theorem Nats.updo {h1 h2 : AH} {s : Sl} {xs : List Nat} (b : Nats h1 s xs) : ∀ {i : Option Nat}, AvO s xs i → UpdO h1 h2 i → Nats h2 s xs
 | none, _, u => b.grow u
 | some k, l, u => b.upda l u
def GO {α : Type} (E : El α) (elem : TypeId) (h : AH) (s : Sl) (i : Option Nat) (xs : List α) : Prop :=
 xs.length ≤ 9223372036854775807 ∧ match i with
 | none => s = ⟨none, 0, .is 0⟩ ∧ xs = []
 | some k => GL E elem h s k xs ∧ k < h.blks.size
def AvE {α : Type} (E : El α) (cs : List AV) (x : α) : Option Nat → Prop
 | none => True
 | some k => E.av k cs x
variable {α : Type} {E : El α} {elem : TypeId}
theorem GO.none (E : El α) (elem : TypeId) (h : AH) : GO E elem h ⟨none, 0, .is 0⟩ none [] := ⟨by simp, rfl, rfl⟩
theorem GO.one {h : AH} {i : Nat} {cs : List AV} {x : α} {e : TypeId} (b : h.has i cs e) (c : E.has h cs x) (a : E.av i cs x) : GO E elem h ⟨some (.new i 0), 1, .is 1⟩ (some i) [x] :=
 ⟨by simp, GL.one b c a, b.lt⟩
theorem GO.grow {h h' : AH} {s : Sl} : ∀ {i : Option Nat} {xs : List α}, GO E elem h s i xs → Grow h h' → GO E elem h' s i xs
 | .none, _, v, g => v
 | .some k, _, ⟨l, v, lt⟩, g => ⟨l, v.grow g, Nat.lt_of_lt_of_le lt g.size⟩
theorem GO.lt {h : AH} {s : Sl} : ∀ {i : Option Nat} {xs : List α}, GO E elem h s i xs → LtO h.blks.size i
 | .none, _, _ => trivial
 | .some k, _, v => v.2.2
theorem GO.seq {h : AH} {s : Sl} : ∀ {i : Option Nat} {xs : List α}, GO E elem h s i xs → Seq E h s xs
 | .none, xs, ⟨_, e1, e2⟩ => by
  subst e1; subst e2
  exact Seq.nil E h
 | .some k, _, v => v.2.1.seq v.1
theorem GO.len {h : AH} {s : Sl} {i : Option Nat} {xs : List α} (v : GO E elem h s i xs) : s.len = xs.length := v.seq.len
theorem GO.own {h h0 : AH} {s : Sl} : ∀ {i : Option Nat} {xs : List α}, GO E elem h s i xs → LeO h0.blks.size i → Own h0 s
 | .none, _, v, _ => fun r hr => by rw [v.2.1] at hr; cases hr
 | .some k, _, v, l => v.2.1.own_of l
theorem GL.lt {h : AH} {s : Sl} {i : Nat} {x : α} {xs : List α} (v : GL E elem h s i (xs ++ [x])) : i < h.blks.size := by
 obtain ⟨⟨rows, c, a⟩, l, o, lo⟩ := v
 have hr : rows.length = xs.length + 1 := by have := All2.length a; simpa using this
 have hf := kbz (w := E.w) (rows := rows) (All2.rows (a.imp fun _ _ p => p.1))
 have hp := E.pos
 have h0 : 0 < rows.flatten.length := by
  rw [hf, hr]
  exact Nat.mul_pos (by omega) hp
 obtain ⟨r, e1, e2⟩ := c.get 0 _ (List.getElem?_eq_getElem h0)
 obtain ⟨k, rfl⟩ := lo r e1
 have := AH.cell_inn e2
 rw [Ref.add_new] at this
 exact this
theorem kmq {n m : Nat} (h : growOk P n elem m = true) : n ≤ 9223372036854775807 := by
 unfold growOk at h
 rw [Bool.and_eq_true, decide_eq_true_eq] at h
 have := h.1.2
 simp only [kbc] at this
 omega
theorem GO.push {h : AH} {s : Sl} {i : Option Nat} {xs : List α} (v : GO E elem h s i xs) {cs : List AV} {x : α} (c : E.has h cs x) (a : AvE E cs x i) (hg : growOk P (xs.length + 1) elem E.w = true) :
  ∃ s' h', kbb P s cs 1 elem E.w h = some (s'.v, h') ∧ GO E elem h' s' (some h.blks.size) (xs ++ [x]) ∧ UpdO h h' i := by
 have hl := kmq hg
 cases i with
 | none =>
  obtain ⟨_, e1, e2⟩ := v
  subst e1; subst e2
  obtain ⟨s', h', e, v', u⟩ := (GL.nil E elem h h.blks.size).push c (E.new c (Nat.le_refl _)) hg
  exact ⟨s', h', e, ⟨by simp, v', v'.lt⟩, (Grow.refl h).updr (Nat.le_refl _) u⟩
 | some k =>
  obtain ⟨s', h', e, v', u⟩ := v.2.1.push c a hg
  exact ⟨s', h', e, ⟨by simpa using hl, v', v'.lt⟩, u⟩
theorem Seq.lit {h : AH} {i n : Nat} {rows : List (List AV)} {e : TypeId} {xs : List α} (b : h.has i rows.flatten e) (a : All2 (E.has h) rows xs) (hn : xs.length = n) (hs : n ≤ 9223372036854775807 := by decide) : Seq E h ⟨some (.new i 0), n, .is n⟩ xs := by
 refine ⟨⟨rows, Cells.of_has b ?_, a⟩, hn.symm, by omega⟩
 rw [kbz a.rows, All2.length a, hn]
theorem AvE.nats {s : Sl} {xs : List Nat} : ∀ {i : Option Nat}, AvO s xs i → AvE El.nats [s.v] xs i
 | .none, _ => trivial
 | .some k, a => ⟨s, rfl, a⟩
theorem AvE.int {k : IntKind} {n : Int} {cs : List AV} : ∀ {i : Option Nat}, AvE (El.int k) cs n i
 | .none => trivial
 | .some _ => trivial
theorem AvE.bool {b : Bool} {cs : List AV} : ∀ {i : Option Nat}, AvE El.bool cs b i
 | .none => trivial
 | .some _ => trivial
theorem AvE.pair {α β : Type} {A : El α} {B : El β} {c1 c2 : List AV} {a : α} {b : β} : ∀ {i : Option Nat}, c1.length = A.w → AvE A c1 a i → AvE B c2 b i → AvE (El.pair A B) (c1 ++ c2) (a, b) i
 | .none, _, _, _ => trivial
 | .some k, l, x, y => ⟨c1, c2, rfl, l, x, y⟩
end Go.Ab

/- squeezed -/
set_option linter.unusedVariables false
set_option linter.unusedSimpArgs false
namespace Go.Ab
variable {P : Program}
abbrev Fp := Nat → Prop
def Fp.no : Fp := fun _ => False
def Fp.all : Fp := fun _ => True
def Fp.or (S T : Fp) : Fp := fun j => S j ∨ T j
def Fp.from (n : Nat) : Fp := fun j => n ≤ j
def Fp.sl (s : Sl) (xs : List Nat) : Fp := fun j => ¬ Av s j xs
theorem Fp.not_or {S T : Fp} {i : Nat} (a : ¬ S i) (b : ¬ T i) : ¬ (Fp.or S T) i := fun h => h.elim a b
theorem Fp.not_no {i : Nat} : ¬ Fp.no i := fun h => h
theorem Fp.not_from {n i : Nat} (h : i < n) : ¬ (Fp.from n) i := fun k => by
 have : n ≤ i := k
 omega
theorem Fp.not_sl {s : Sl} {xs : List Nat} {i : Nat} (a : Av s i xs) : ¬ (Fp.sl s xs) i := fun k => k a
def NotO (S : Fp) : Option Nat → Prop
 | none => True
 | some k => ¬ S k
theorem NotO.or {S T : Fp} : ∀ {i : Option Nat}, NotO S i → NotO T i → NotO (Fp.or S T) i
 | none, _, _ => trivial
 | some _, a, b => Fp.not_or a b
theorem NotO.no : ∀ {i : Option Nat}, NotO Fp.no i
 | none => trivial
 | some _ => Fp.not_no
theorem NotO.from {n : Nat} : ∀ {i : Option Nat}, LtO n i → NotO (Fp.from n) i
 | none, _ => trivial
 | some _, l => Fp.not_from l
theorem NotO.sl {s : Sl} {xs : List Nat} : ∀ {i : Option Nat}, AvO s xs i → NotO (Fp.sl s xs) i
 | none, _ => trivial
 | some _, l => Fp.not_sl l
theorem NotO.mono {S T : Fp} (h : ∀ j, S j → T j) : ∀ {i : Option Nat}, NotO T i → NotO S i
 | none, _ => trivial
 | some _, l => fun k => l (h _ k)
structure Ef (α : Type) where
 w : Nat
 pos : 0 < w
 has : AH → Fp → List AV → α → Prop
 len : ∀ {h : AH} {S : Fp} {cs : List AV} {a : α}, has h S cs a → cs.length = w
 grow : ∀ {h h' : AH} {S : Fp} {cs : List AV} {a : α}, Grow h h' → has h S cs a → has h' S cs a
 mono : ∀ {h : AH} {S T : Fp} {cs : List AV} {a : α}, (∀ j, S j → T j) → has h S cs a → has h T cs a
 upd : ∀ {h h' : AH} {S : Fp} {i : Nat} {cs : List AV} {a : α}, ¬ S i → Upd h h' i → has h S cs a → has h' S cs a
 bound : ∀ {h : AH} {S : Fp} {cs : List AV} {a : α}, has h S cs a → has h (fun j => S j ∧ j < h.blks.size) cs a
theorem Ef.updo {α : Type} (E : Ef α) {h h' : AH} {S : Fp} {cs : List AV} {a : α} : ∀ {i : Option Nat}, NotO S i → UpdO h h' i → E.has h S cs a → E.has h' S cs a
 | none, _, u, e => E.grow u e
 | some _, n, u, e => E.upd n u e
def Ef.int (k : IntKind) : Ef Int where
 w := 1
 pos := by decide
 has _ _ cs n := cs = [.int k n]
 len e := by rw [e]; rfl
 grow _ e := e
 mono _ e := e
 upd _ _ e := e
 bound e := e
def Ef.bool : Ef Bool where
 w := 1
 pos := by decide
 has _ _ cs b := cs = [.bool b]
 len e := by rw [e]; rfl
 grow _ e := e
 mono _ e := e
 upd _ _ e := e
 bound e := e
def Ef.str : Ef ByteArray where
 w := 1
 pos := by decide
 has _ _ cs b := cs = [.str b]
 len e := by rw [e]; rfl
 grow _ e := e
 mono _ e := e
 upd _ _ e := e
 bound e := e
def Ef.nats : Ef (List Nat) where
 w := 1
 pos := by decide
 has h S cs xs := ∃ s, cs = [Sl.v s] ∧ Nats h s xs ∧ ∀ j, ¬ Av s j xs → S j
 len := fun ⟨s, e, _, _⟩ => by rw [e]; rfl
 grow g := fun ⟨s, e, n, a⟩ => ⟨s, e, n.grow g, a⟩
 mono m := fun ⟨s, e, n, a⟩ => ⟨s, e, n, fun j k => m j (a j k)⟩
 upd no u := fun ⟨s, e, n, a⟩ => ⟨s, e, n.upda (Classical.byContradiction fun k => no (a _ k)) u, a⟩
 bound := fun {h} _ _ _ ⟨s, e, n, a⟩ => ⟨s, e, n, fun j k => ⟨a j k, by
  rcases Nat.lt_or_ge j h.blks.size with h1 | h1
  ·exact h1
  ·exact absurd (Av.of_base n h1) k⟩⟩
def Ef.pair {α β : Type} (A : Ef α) (B : Ef β) : Ef (α × β) where
 w := A.w + B.w
 pos := by have := A.pos; omega
 has h S cs p := ∃ c1 c2, cs = c1 ++ c2 ∧ A.has h S c1 p.1 ∧ B.has h S c2 p.2
 len := fun ⟨c1, c2, e, a, b⟩ => by rw [e, List.length_append, A.len a, B.len b]
 grow g := fun ⟨c1, c2, e, a, b⟩ => ⟨c1, c2, e, A.grow g a, B.grow g b⟩
 mono m := fun ⟨c1, c2, e, a, b⟩ => ⟨c1, c2, e, A.mono m a, B.mono m b⟩
 upd no u := fun ⟨c1, c2, e, a, b⟩ => ⟨c1, c2, e, A.upd no u a, B.upd no u b⟩
 bound := fun ⟨c1, c2, e, a, b⟩ => ⟨c1, c2, e, A.bound a, B.bound b⟩
theorem All2.set {α β : Type} {R : α → β → Prop} {l : List α} {m : List β} (a : All2 R l m) {x : α} {y : β} (h : R x y) : ∀ j : Nat, All2 R (l.set j x) (m.set j y) := by
 induction a with
 | nil => intro j; exact .nil
 | cons h1 h2 ih =>
  intro j
  cases j with
  | zero => exact .cons h h2
  | succ j => exact .cons h1 (ih j)
def RefIn (S : Fp) (s : Sl) (n : Nat) : Prop := n = 0 ∨ ∀ j o, s.ref = some (.new j o) → S j
structure Sq {α : Type} (E : Ef α) (h : AH) (S : Fp) (s : Sl) (xs : List α) : Prop where
 rows : ∃ rows, Cells h s E.w rows.flatten ∧ All2 (E.has h S) rows xs
 len : s.len = xs.length
 short : xs.length ≤ 9223372036854775807
 at' : RefIn S s xs.length
variable {α : Type} {E : Ef α}
theorem Ef.rows {h : AH} {S : Fp} {rows : List (List AV)} {xs : List α} (a : All2 (E.has h S) rows xs) : ∀ r ∈ rows, r.length = E.w := by
 induction a with
 | nil => simp
 | cons h' _ ih =>
  intro r hr
  rcases List.mem_cons.1 hr with rfl | hr
  ·exact E.len h'
  ·exact ih r hr
theorem Cells.updn {h h' : AH} {s : Sl} {n : Nat} {flat : List AV} (c : Cells h s n flat) {i : Nat} (hi : ∀ o, s.ref ≠ some (.new i o)) (u : Upd h h' i) : Cells h' s n flat :=
 ⟨c.fit, c.len, fun k v hv => by
  obtain ⟨r, e1, e2⟩ := c.get k v hv
  refine ⟨r, e1, u.cell e2 fun o he => ?_⟩
  cases r with
  | old a => cases he
  | new j p =>
   simp only [Ref.add_new, Ref.new.injEq] at he
   exact hi p (by rw [e1, he.1])⟩
theorem Sq.grow {h h' : AH} {S : Fp} {s : Sl} {xs : List α} (n : Sq E h S s xs) (g : Grow h h') : Sq E h' S s xs := by
 obtain ⟨⟨rows, c, a⟩, l, sh, at'⟩ := n
 exact ⟨⟨rows, c.grow g, a.imp fun _ _ => E.grow g⟩, l, sh, at'⟩
theorem Sq.mono {h : AH} {S T : Fp} {s : Sl} {xs : List α} (n : Sq E h S s xs) (m : ∀ j, S j → T j) : Sq E h T s xs := by
 obtain ⟨⟨rows, c, a⟩, l, sh, at'⟩ := n
 exact ⟨⟨rows, c, a.imp fun _ _ => E.mono m⟩, l, sh, at'.imp id fun f j o e => m j (f j o e)⟩
theorem Sq.nil (E : Ef α) (h : AH) (S : Fp) : Sq E h S ⟨none, 0, .is 0⟩ [] := ⟨⟨[], Cells.nil h _, .nil⟩, rfl, by simp, .inl rfl⟩
theorem Sq.upd {h h' : AH} {S : Fp} {s : Sl} {xs : List α} (n : Sq E h S s xs) {i : Nat} (no : ¬ S i) (u : Upd h h' i) : Sq E h' S s xs := by
 obtain ⟨⟨rows, c, a⟩, l, sh, at'⟩ := n
 refine ⟨⟨rows, ?_, a.imp fun _ _ => E.upd no u⟩, l, sh, at'⟩
 rcases at' with e | f
 ·have hr : rows.length = 0 := by rw [All2.length a, e]
  have hr : rows = [] := List.length_eq_zero_iff.1 hr
  subst hr
  exact ⟨c.fit, c.len, fun k v hv => by simp at hv⟩
 ·exact c.updn (fun o ho => no (f i o ho)) u
theorem Sq.updo {h h' : AH} {S : Fp} {s : Sl} {xs : List α} (n : Sq E h S s xs) : ∀ {i : Option Nat}, NotO S i → UpdO h h' i → Sq E h' S s xs
 | none, _, u => n.grow u
 | some _, no, u => n.upd no u
theorem Sq.bound {h : AH} {S : Fp} {s : Sl} {xs : List α} (n : Sq E h S s xs) : Sq E h (fun j => S j ∧ j < h.blks.size) s xs := by
 obtain ⟨⟨rows, c, a⟩, l, sh, at'⟩ := n
 refine ⟨⟨rows, c, a.imp fun _ _ => E.bound⟩, l, sh, ?_⟩
 rcases Nat.eq_zero_or_pos xs.length with e | e
 ·exact .inl e
 ·refine .inr fun j o hj => ⟨(at'.resolve_left (by omega)) j o hj, ?_⟩
  have hf := kbz (w := E.w) (rows := rows) (Ef.rows a)
  have h0 : 0 < rows.flatten.length := by
   rw [hf, All2.length a]
   exact Nat.mul_pos e E.pos
  obtain ⟨r, e1, e2⟩ := c.get 0 _ (List.getElem?_eq_getElem h0)
  rw [hj] at e1
  cases e1
  have := AH.cell_inn e2
  rw [Ref.add_new] at this
  exact this
def Ef.seq {α : Type} (E : Ef α) : Ef (List α) where
 w := 1
 pos := by decide
 has h S cs xs := ∃ s, cs = [Sl.v s] ∧ Sq E h S s xs
 len := fun ⟨s, e, _⟩ => by rw [e]; rfl
 grow g := fun ⟨s, e, n⟩ => ⟨s, e, n.grow g⟩
 mono m := fun ⟨s, e, n⟩ => ⟨s, e, n.mono m⟩
 upd no u := fun ⟨s, e, n⟩ => ⟨s, e, n.upd no u⟩
 bound := fun ⟨s, e, n⟩ => ⟨s, e, n.bound⟩
theorem Sq.at {h : AH} {S : Fp} {s : Sl} {xs : List α} (n : Sq E h S s xs) {i : Int} {y : α} (q : atX xs i = some y) : ∃ (r : Ref) (cs : List AV), idx s.ref xs.length i E.w = some r ∧ E.has h S cs y ∧ Lies h r cs := by
 obtain ⟨⟨rows, c, a⟩, l, sh, at'⟩ := n
 obtain ⟨j, rfl, hj⟩ := kmm q
 obtain ⟨cs, e1, e2⟩ := a.get hj
 have hjl := (List.getElem?_eq_some_iff.1 hj).1
 have hr := Ef.rows a
 have key : ∀ k v, cs[k]? = some v → ∃ r, s.ref = some r ∧ h.cell (r.add (j * E.w + k)) = some v := fun k v hk => c.get _ _ (kir hr e1 hk)
 cases hs : s.ref with
 | none =>
  exfalso
  cases cs with
  | nil => have := E.len e2; have := E.pos; simp at *; omega
  | cons v vs =>
   obtain ⟨r, e, _⟩ := key 0 v rfl
   rw [hs] at e
   cases e
 | some r =>
  refine ⟨r.add (j * E.w), cs, ?_, e2, ⟨fun k v hk => ?_⟩⟩
  ·rw [kcp _ _ _ _ (by omega) (by omega)]
   simp
  ·obtain ⟨r', e, e'⟩ := key k v hk
   rw [hs] at e
   cases e
   rw [Ref.add_add]
   exact e'
theorem Sq.lit {h : AH} {S : Fp} {i n : Nat} {rows : List (List AV)} {e : TypeId} {xs : List α} (b : h.has i rows.flatten e) (a : All2 (E.has h S) rows xs) (hn : xs.length = n) (hs : n ≤ 9223372036854775807 := by decide) : Sq E h (Fp.or (fun j => j = i) S) ⟨some (.new i 0), n, .is n⟩ xs := by
 refine ⟨⟨rows, Cells.of_has b ?_, a.imp fun _ _ => E.mono fun j k => .inr k⟩, hn.symm, by omega, .inr fun j o e => ?_⟩
 ·rw [kbz (Ef.rows a), All2.length a, hn]
 ·cases e
  exact .inl rfl
def GF {α : Type} (E : Ef α) (elem : TypeId) (h : AH) (S : Fp) (s : Sl) (i : Option Nat) (xs : List α) : Prop :=
 xs.length ≤ 9223372036854775807 ∧ match i with
 | none => s = ⟨none, 0, .is 0⟩ ∧ xs = []
 | some k => ¬ S k ∧ s.ref = some (.new k 0) ∧ s.len = xs.length ∧ ∃ rows e, h.has k rows.flatten e ∧ (s.cap = .is s.len ∨ s.cap = .opn E.w ∧ e = elem) ∧ All2 (E.has h S) rows xs
variable {elem : TypeId}
theorem GF.none (E : Ef α) (elem : TypeId) (h : AH) (S : Fp) : GF E elem h S ⟨none, 0, .is 0⟩ none [] := ⟨by simp, rfl, rfl⟩
theorem GF.one {h : AH} {S : Fp} {i : Nat} {cs : List AV} {x : α} {e : TypeId} (b : h.has i cs e) (c : E.has h S cs x) (a : ¬ S i) : GF E elem h S ⟨some (.new i 0), 1, .is 1⟩ (some i) [x] :=
 ⟨by simp, a, rfl, rfl, [cs], e, by simpa using b, .inl rfl, .cons c .nil⟩
theorem GF.lit {h : AH} {S : Fp} {i n : Nat} {rows : List (List AV)} {xs : List α} {e : TypeId} (b : h.has i rows.flatten e) (c : All2 (E.has h S) rows xs) (a : ¬ S i) (hn : xs.length = n) (hs : n ≤ 9223372036854775807 := by decide) : GF E elem h S ⟨some (.new i 0), n, .is n⟩ (some i) xs :=
 ⟨by omega, a, rfl, hn.symm, rows, e, b, .inl rfl, c⟩
theorem GF.grow {h h' : AH} {S : Fp} {s : Sl} : ∀ {i : Option Nat} {xs : List α}, GF E elem h S s i xs → Grow h h' → GF E elem h' S s i xs
 | .none, _, v, g => v
 | .some k, _, ⟨l, a, r, ln, rows, e, b, c, r2⟩, g => ⟨l, a, r, ln, rows, e, g.has b, c, r2.imp fun _ _ => E.grow g⟩
theorem GF.lt {h : AH} {S : Fp} {s : Sl} : ∀ {i : Option Nat} {xs : List α}, GF E elem h S s i xs → LtO h.blks.size i
 | .none, _, _ => trivial
 | .some k, _, ⟨l, a, r, ln, rows, e, b, c, r2⟩ => b.lt
theorem GF.mono {h : AH} {S T : Fp} {s : Sl} : ∀ {i : Option Nat} {xs : List α}, GF E elem h S s i xs → (∀ j, S j → T j) → NotO T i → GF E elem h T s i xs
 | .none, _, v, _, _ => v
 | .some k, _, ⟨l, a, r, ln, rows, e, b, c, r2⟩, m, no => ⟨l, no, r, ln, rows, e, b, c, r2.imp fun _ _ => E.mono m⟩
theorem GF.bound {h : AH} {S : Fp} {s : Sl} : ∀ {i : Option Nat} {xs : List α}, GF E elem h S s i xs → GF E elem h (fun j => S j ∧ j < h.blks.size) s i xs
 | .none, _, v => v
 | .some k, _, ⟨l, a, r, ln, rows, e, b, c, r2⟩ => ⟨l, fun x => a x.1, r, ln, rows, e, b, c, r2.imp fun _ _ => E.bound⟩
def Fp.opt (i : Option Nat) : Fp := fun j => i = some j
theorem GF.sq {h : AH} {S : Fp} {s : Sl} : ∀ {i : Option Nat} {xs : List α}, GF E elem h S s i xs → Sq E h (Fp.or (Fp.opt i) S) s xs
 | .none, xs, ⟨_, e1, e2⟩ => by
  subst e1; subst e2
  exact Sq.nil E h _
 | .some k, _, ⟨l, a, r, ln, rows, e, b, c, r2⟩ => by
  have hc := Cells.of_has (n := E.w) (m := s.len) b (by rw [kbz (Ef.rows r2), All2.length r2, ln])
  refine ⟨⟨rows, ⟨?_, ?_, ?_⟩, r2.imp fun _ _ => E.mono fun j x => .inr x⟩, ln, l, .inr fun j o ho => ?_⟩
  ·rcases c with c | c
   ·unfold Sl.fit; rw [c]; exact Nat.le_refl _
   ·unfold Sl.fit; rw [c.1]
  ·exact hc.len
  ·rw [r]; exact hc.get
  ·rw [r] at ho
   cases ho
   exact .inl rfl
theorem GF.len {h : AH} {S : Fp} {s : Sl} {i : Option Nat} {xs : List α} (v : GF E elem h S s i xs) : s.len = xs.length := v.sq.len
theorem GF.own {h h0 : AH} {S : Fp} {s : Sl} : ∀ {i : Option Nat} {xs : List α}, GF E elem h S s i xs → LeO h0.blks.size i → Own h0 s
 | .none, _, v, _ => fun r hr => by rw [v.2.1] at hr; cases hr
 | .some k, _, ⟨_, _, r, _⟩, l => fun q hq => by
  rw [r] at hq
  cases hq
  exact ⟨k, 0, rfl, l⟩
theorem GF.upd {h h' : AH} {S : Fp} {s : Sl} {i : Nat} (u : Upd h h' i) (no : ¬ S i) : ∀ {j : Option Nat} {xs : List α}, GF E elem h S s j xs → (∀ k, j = some k → k ≠ i) → GF E elem h' S s j xs
 | .none, _, v, _ => v
 | .some k, _, ⟨l, a, r, ln, rows, e, b, c, r2⟩, ne => ⟨l, a, r, ln, rows, e, b.updr (ne k rfl) u, c, r2.imp fun _ _ => E.upd no u⟩
theorem GF.updo {h h' : AH} {S : Fp} {s : Sl} {j : Option Nat} {xs : List α} (v : GF E elem h S s j xs) : ∀ {i : Option Nat}, NotO S i → NeOO j i → UpdO h h' i → GF E elem h' S s j xs
 | .none, _, _, u => v.grow u
 | .some i, no, ne, u => v.upd u no fun k e => by
  subst e
  exact ne
theorem GF.set {h : AH} {S T : Fp} {s : Sl} {i : Option Nat} {xs : List α} (v : GF E elem h S s i xs) {cs : List AV} {x : α} (c : E.has h T cs x) (no : NotO T i) {z : Int} {j : Nat} (q : inI xs.length z = some j) :
  ∃ r h', idx s.ref xs.length z E.w = some r ∧ h.puts r cs = some h' ∧ GF E elem h' (Fp.or S T) s i (xs.set j x) ∧ UpdO h h' i := by
 obtain ⟨hz, hj⟩ := kjx q
 cases i with
 | none =>
  obtain ⟨_, e1, e2⟩ := v
  subst e2
  simp at hj
 | some k =>
  obtain ⟨l, a, r, ln, rows, e, b, cp, r2⟩ := v
  have hrl := All2.length r2
  have hr := Ef.rows r2
  have hw := E.len c
  have hfl := kbz hr
  have hle : j * E.w + cs.length ≤ rows.flatten.length := by
   rw [hfl, hw, ← Nat.succ_mul]
   exact Nat.mul_le_mul_right _ (by omega)
  have hfl2 : ∀ (rs : List (List AV)) (n : Nat), (∀ r ∈ rs, r.length = E.w) → rs.flatten.take (n * E.w) = (rs.take n).flatten ∧ rs.flatten.drop (n * E.w) = (rs.drop n).flatten := by
   intro rs
   induction rs with
   | nil => intro n _; simp
   | cons r rs ih =>
    intro n hh
    cases n with
    | zero => simp
    | succ n =>
     have h1 := ih n fun q hq => hh q (by simp [hq])
     have h2 := hh r (by simp)
     rw [Nat.succ_mul, List.flatten_cons, List.take_succ_cons, List.drop_succ_cons, List.flatten_cons, ← h1.1, ← h1.2]
     constructor
     ·rw [List.take_append, h2, List.take_of_length_le (by omega), Nat.add_sub_cancel]
     ·rw [List.drop_append, h2, List.drop_eq_nil_of_le (by omega), Nat.add_sub_cancel, List.nil_append]
  have key : rows.flatten.take (j * E.w) ++ cs ++ rows.flatten.drop (j * E.w + cs.length) = (rows.set j cs).flatten := by
   have h3 : j * E.w + cs.length = (j + 1) * E.w := by rw [hw, Nat.succ_mul]
   rw [h3, (hfl2 rows j hr).1, (hfl2 rows (j + 1) hr).2, List.set_eq_take_append_cons_drop, if_pos (by omega)]
   simp
  refine ⟨.new k (j * E.w), h.upd k (rows.set j cs).flatten e, ?_, ?_, ⟨by simpa using l, fun x => x.elim a no, r, by simpa using ln, rows.set j cs, e, AH.has_upd b _ _, cp, ?_⟩, AH.upd_Upd h k _ e⟩
  ·rw [r, hz, kcp _ _ _ _ (by omega) (by omega)]
   simp
  ·rw [b.puts hle, key]
  ·have : All2 (fun cs a => E.has h (Fp.or S T) cs a) (rows.set j cs) (xs.set j x) := All2.set (r2.imp fun _ _ => E.mono fun j k => .inl k) (E.mono (fun j k => .inr k) c) j
   exact this.imp fun _ _ y => E.upd (fun x => x.elim a no) (AH.upd_Upd h k _ e) y
theorem GF.push {h : AH} {S T : Fp} {s : Sl} {i : Option Nat} {xs : List α} (v : GF E elem h S s i xs) {cs : List AV} {x : α} (c : E.has h T cs x) (no : NotO T i) (hg : growOk P (xs.length + 1) elem E.w = true) :
  ∃ s' h', kbb P s cs 1 elem E.w h = some (s'.v, h') ∧ GF E elem h' (fun j => (Fp.or S T) j ∧ j < h.blks.size) s' (some h.blks.size) (xs ++ [x]) ∧ UpdO h h' i := by
 have hl := kmq hg
 have hw := E.len c
 have nS : ¬ ((Fp.or S T) h.blks.size ∧ h.blks.size < h.blks.size) := fun k => Nat.lt_irrefl _ k.2
 cases i with
 | none =>
  obtain ⟨_, e1, e2⟩ := v
  subst e1; subst e2
  rw [kfw (c := 0) rfl (by simp) (by simpa using hg) (Cells.nil h E.w)]
  refine ⟨_, _, rfl, ⟨by simp, nS, rfl, by simp, [cs], elem, ?_, .inr ⟨rfl, rfl⟩, .cons ?_ .nil⟩, Grow.push _ _⟩
  ·simpa using AH.has_push h cs elem
  ·refine E.grow (Grow.push _ _) (E.mono (fun j k => ⟨.inr k.1, k.2⟩) (E.bound c))
 | some k =>
  have sq := v.sq
  obtain ⟨l, a, r, ln, rows, e, b, cp, r2⟩ := v
  have hr := Ef.rows r2
  have cc : Cells h s E.w rows.flatten := by
   have hc := Cells.of_has (n := E.w) (m := s.len) b (by rw [kbz hr, All2.length r2, ln])
   refine ⟨?_, hc.len, by rw [r]; exact hc.get⟩
   rcases cp with c | c
   ·unfold Sl.fit; rw [c]; exact Nat.le_refl _
   ·unfold Sl.fit; rw [c.1]
  rw [← ln] at hg
  rcases cp with ce | ⟨ce, rfl⟩
  ·rw [kfw ce (by omega) hg cc]
   refine ⟨_, _, rfl, ⟨by simpa using hl, nS, rfl, by simp [ln], rows ++ [cs], elem, ?_, .inr ⟨rfl, rfl⟩, All2.snoc (r2.imp fun _ _ y => ?_) ?_⟩, (Grow.push _ _).toUpd k⟩
   ·have := AH.has_push h (rows.flatten ++ cs) elem
    simpa using this
   ·exact E.grow (Grow.push _ _) (E.mono (fun j q => ⟨.inl q.1, q.2⟩) (E.bound y))
   ·exact E.grow (Grow.push _ _) (E.mono (fun j q => ⟨.inr q.1, q.2⟩) (E.bound c))
  ·have hap : kbb P s cs 1 e E.w h = some (Sl.v ⟨some (.new h.blks.size 0), s.len + 1, .opn E.w⟩, (h.kill s.ref).push (.cells (rows.flatten ++ cs) e)) := by
    unfold kbb
    simp only [ce]
    rw [show Nat.beq 1 0 = false from rfl, show Nat.beq E.w E.w = true from Nat.beq_refl _]
    simp only [cond_false, hg, Bool.and_true, cond_true, r, show h.blks[k]? = _ from b]
    have hgets := cc.gets
    rw [r] at hgets
    simp only [hgets, Option.bind_some]
    rw [show Nat.beq e e = true from Nat.beq_refl _, cond_true]
    have : (AH.kill h (some (Ref.new k 0))).blks.size = h.blks.size := by simp [AH.kill]
    simp [AH.next, this, Sl.v]
    rfl
   rw [hap, r]
   have sz : (h.kill (some (.new k 0))).blks.size = h.blks.size := by simp [AH.kill]
   have u : Upd h (h.kill (some (.new k 0))) k := AH.kill_Upd h k
   refine ⟨_, _, rfl, ⟨by simpa using hl, nS, rfl, by simp [ln], rows ++ [cs], e, ?_, .inr ⟨rfl, rfl⟩, All2.snoc (r2.imp fun _ _ y => ?_) ?_⟩, u.trans ((Grow.push _ _).toUpd k)⟩
   ·have := AH.has_push (h.kill (some (.new k 0))) (rows.flatten ++ cs) e
    rw [sz] at this
    simpa using this
   ·exact E.grow (Grow.push _ _) (E.mono (fun j q => ⟨.inl q.1, q.2⟩) (E.upd (fun q => a q.1) u (E.bound y)))
   ·exact E.grow (Grow.push _ _) (E.mono (fun j q => ⟨.inr q.1, q.2⟩) (E.upd (fun q => no q.1) u (E.bound c)))
end Go.Ab

/- squeezed -/
set_option linter.unusedVariables false
set_option linter.unusedSimpArgs false
namespace Go.Ab
variable {P : Program}
theorem km9 {h : AH} : ∀ (n : Nat) {r : Ref} {es : List AV}, h.gets r n = some es → es.length = n ∧ ∀ (k : Nat) (v : AV), es[k]? = some v → h.cell (r.add k) = some v
 | 0, r, es, e => by
  simp only [AH.gets, Option.some.injEq] at e
  subst e
  exact ⟨rfl, fun k v hv => by simp at hv⟩
 | n + 1, r, es, e => by
  simp only [AH.gets, Option.bind_eq_some_iff, Option.map_eq_some_iff] at e
  obtain ⟨v, e1, l, e2, rfl⟩ := e
  obtain ⟨h1, h2⟩ := km9 n e2
  refine ⟨by simp [h1], fun k u hu => ?_⟩
  cases k with
  | zero =>
   simp at hu
   subst hu
   rw [Ref.add_zero]
   exact e1
  | succ k =>
   have := h2 k u (by simpa using hu)
   rw [← this, Ref.add_add, Nat.add_comm]
theorem Sq.of_arg {α : Type} {E : Ef α} {S : Fp} {h : AH} {t e : TypeId} {cs : List AV} (hu : P.underlying t = some (.slice e)) (hw : P.cellsOf e = E.w) (elem : ∀ es, ArgT P h e es → ∃ a, E.has h S es a) (a : ArgT P h t cs) : ∃ (s : Sl) (xs : List α), cs = [s.v] ∧ Sq E h S s xs := by
 rcases a.slice hu with rfl | ⟨ad, len, cap, rfl, h1, h2, h3⟩
 ·exact ⟨⟨none, 0, .is 0⟩, [], rfl, Sq.nil _ _ _⟩
 ·rw [hw] at h3
  have mk : ∀ n, n ≤ len → ∃ (rows : List (List AV)) (xs : List α), rows.length = n ∧ All2 (E.has h S) rows xs ∧ ∀ (i : Nat) (r : List AV), rows[i]? = some r → h.gets (.old (ad.add (i * E.w))) E.w = some r := by
   intro n
   induction n with
   | zero => exact fun _ => ⟨[], [], rfl, .nil, fun i r hi => by simp at hi⟩
   | succ n ih =>
    intro hn
    obtain ⟨rows, xs, hl, ha, hx⟩ := ih (by omega)
    obtain ⟨es, k1, k2⟩ := h3 n (by omega)
    obtain ⟨x, k3⟩ := elem es k2
    refine ⟨rows ++ [es], xs ++ [x], by simp [hl], ha.snoc k3, fun i r hi => ?_⟩
    by_cases hin : i < rows.length
    ·rw [List.getElem?_append_left hin] at hi
     exact hx i r hi
    ·rw [List.getElem?_append_right (by omega)] at hi
     have : i = n := by
      rcases Nat.eq_zero_or_pos (i - rows.length) with h0 | h0
      ·omega
      ·rw [List.getElem?_eq_none (by simp; omega)] at hi
       cases hi
     subst this
     rw [hl, Nat.sub_self] at hi
     simp at hi
     subst hi
     exact k1
  obtain ⟨rows, xs, hl, ha, hx⟩ := mk len (Nat.le_refl _)
  have hr := Ef.rows ha
  have hlen := All2.length ha
  refine ⟨⟨some (.old ad), len, .is cap⟩, xs, rfl, ⟨⟨rows, ⟨h1, by rw [kbz hr, hl], fun k v hv => ⟨_, rfl, ?_⟩⟩, ha⟩, by rw [← hlen, hl], ?_, .inr fun j o hj => by cases hj⟩⟩
  ·have hk : k < rows.length * E.w := by
    rw [← kbz hr]
    exact (List.getElem?_eq_some_iff.1 hv).1
   have hi : k / E.w < rows.length := Nat.div_lt_of_lt_mul (by rw [Nat.mul_comm]; exact hk)
   have hj : k % E.w < E.w := Nat.mod_lt _ E.pos
   have e1 := List.getElem?_eq_getElem hi
   have e2 : (rows[k / E.w])[k % E.w]? = some ((rows[k / E.w])[k % E.w]'(by rw [hr _ (List.getElem_mem _)]; exact hj)) := List.getElem?_eq_getElem _
   have e3 := kir hr e1 e2
   have e4 : k / E.w * E.w + k % E.w = k := by
    rw [Nat.mul_comm]
    exact Nat.div_add_mod k E.w
   rw [e4, hv] at e3
   have e5 := (km9 E.w (hx _ _ e1)).2 _ _ e2
   rw [← Option.some.inj e3] at e5
   have e6 : (Ref.old (ad.add (k / E.w * E.w))).add (k % E.w) = (Ref.old ad).add k := by
    rw [show Ref.old (ad.add (k / E.w * E.w)) = (Ref.old ad).add (k / E.w * E.w) from rfl, Ref.add_add, e4]
   rw [← e6]
   exact e5
  ·have hm : maxLen = 9223372036854775807 := by decide
   rw [← hlen, hl]
   rw [hm] at h2
   exact Nat.le_trans h1 h2
end Go.Ab

/- squeezed -/
set_option linter.unusedVariables false
set_option linter.unusedSimpArgs false
set_option maxRecDepth 10000
namespace Go.Ab
open Go.Proofs Go.Num
abbrev Fr3 := Bool × List Nat × List Nat
theorem ktr {n : Nat} (h : n ≤ 1000000) : growOk Pg n T.int 1 = true := by
 unfold growOk
 rw [kvg, kt3]
 have h1 : n * 8 ≤ kbc := by simp only [kbc]; omega
 have h2 : n ≤ kbc := by simp only [kbc]; omega
 simp [h1, h2]
structure Off (h : AH) (t : Sl) (xs : List Nat) (iB iO : Nat) (oi : Option Nat) : Prop where
 n : Nats h t xs
 b : Av t iB xs
 o : Av t iO xs
 g : AvO t xs oi
theorem Off.grow {h h' : AH} {t : Sl} {xs : List Nat} {iB iO : Nat} {oi : Option Nat} (x : Off h t xs iB iO oi) (g : Grow h h') : Off h' t xs iB iO oi := ⟨x.n.grow g, x.b, x.o, x.g⟩
theorem Off.updB {h h' : AH} {t : Sl} {xs : List Nat} {iB iO : Nat} {oi : Option Nat} (x : Off h t xs iB iO oi) (u : Upd h h' iB) : Off h' t xs iB iO oi := ⟨x.n.upda x.b u, x.b, x.o, x.g⟩
theorem Off.updO {h h' : AH} {t : Sl} {xs : List Nat} {iB iO : Nat} {oi : Option Nat} (x : Off h t xs iB iO oi) (u : Upd h h' iO) : Off h' t xs iB iO oi := ⟨x.n.upda x.o u, x.b, x.o, x.g⟩
theorem Off.updG {h h' : AH} {t : Sl} {xs : List Nat} {iB iO : Nat} {oi : Option Nat} (x : Off h t xs iB iO oi) (u : UpdO h h' oi) : Off h' t xs iB iO oi := ⟨x.n.updo x.g u, x.b, x.o, x.g⟩
theorem Off.anew {h : AH} {t : Sl} {xs : List Nat} {iB iO : Nat} {oi : Option Nat} (x : Off h t xs iB iO oi) {k : Nat} {h0 : AH} (n0 : Nats h0 t xs) (hk : h0.blks.size ≤ k) : Off h t xs iB iO (some k) := ⟨x.n, x.b, x.o, Av.of_base n0 hk⟩
structure BestAt (h0 h : AH) (iA iB iO : Nat) (oi : Option Nat) (G N : Int) (st : List Int × Fr3) : Prop where
 grow : Grow h0 h
 hA : h.has iA [.int .i64 G, .int .i64 N] T.ko
 best : ∃ t1 t2 : Sl, h.has iB [.bool st.2.1, t1.v, t2.v] T.kq ∧ Off h t1 st.2.2.1 iB iO oi ∧ Off h t2 st.2.2.2 iB iO oi
 outs : ∃ s : Sl, h.has iO [s.v] T.kpf ∧ GF (Ef.int .i64) T.int h Fp.no s oi st.1
 ab : iA ≠ iB
 ao : iA ≠ iO
 bo : iB ≠ iO
 na : NeO iA oi
 nb : NeO iB oi
 no : NeO iO oi
 la : h0.blks.size ≤ iA
 lb : h0.blks.size ≤ iB
 lo : h0.blks.size ≤ iO
 lg : LeO h0.blks.size oi
theorem GF.toNo {k : IntKind} {elem : TypeId} {h : AH} {S : Fp} {s : Sl} : ∀ {i : Option Nat} {xs : List Int}, GF (Ef.int k) elem h S s i xs → GF (Ef.int k) elem h Fp.no s i xs
 | .none, _, v => v
 | .some _, _, ⟨l, a, r, ln, rows, e, b, c, r2⟩ => ⟨l, id, r, ln, rows, e, b, c, r2.imp fun _ _ x => x⟩
theorem NeO.ne {i : Nat} : ∀ {oi : Option Nat}, NeO i oi → ∀ k, oi = some k → k ≠ i
 | none, _, _, e => by cases e
 | some _, h, k, e => by
  cases e
  exact fun e => h e.symm
def askF (i : Int) (g : Fr3) (st : List Int × Fr3) : List Int × Fr3 :=
 if kcs g.1 g.2.1 g.2.2 st.2.1 st.2.2.1 st.2.2.2 > 0 then ([i], g)
 else if kcs g.1 g.2.1 g.2.2 st.2.1 st.2.2.1 st.2.2.2 = 0 ∧ st.1.length > 0 then (st.1 ++ [i], st.2) else st
theorem ask_is {h0 h : AH} {iA iB iO : Nat} {oi : Option Nat} {G N : Int} {st : List Int × Fr3} (e : BestAt h0 h iA iB iO oi G N st) (hlen : st.1.length ≤ 100000) {g : Fr3} {u1 u2 : Sl} (o1 : Off h u1 g.2.1 iB iO oi) (o2 : Off h u2 g.2.2 iB iO oi) (i : Int) :
  Runs (go (.fn F.kc3 [.int .i64 i, .agg [.bool g.1, u1.v, u2.v], .ptr (some (.new iB 0)), .ptr (some (.new iO 0))]) h) fun v h' => v = .tup [] ∧ ∃ oi', BestAt h0 h' iA iB iO oi' G N (askF i g st) := by
 obtain ⟨t1, t2, bB, x1, x2⟩ := e.best
 obtain ⟨s, bO, gf⟩ := e.outs
 rw [kqx]
 refine Runs.new fun h7 b7 g7 => ?_
 refine Runs.step (b7.rd 0 (f := AV.asBool) rfl rfl) ?_
 refine Runs.step (b7.rd 1 (f := AV.asSl) rfl (asSl_v _)) ?_
 refine Runs.step (b7.rd 2 (f := AV.asSl) rfl (asSl_v _)) ?_
 have cB := g7.has bB
 refine Runs.step (cB.rd 0 (f := AV.asBool) rfl rfl) ?_
 refine Runs.step (cB.rd 1 (f := AV.asSl) rfl (asSl_v _)) ?_
 refine Runs.step (cB.rd 2 (f := AV.asSl) rfl (asSl_v _)) ?_
 obtain ⟨_, h14, e14, rfl, g14⟩ := kyd (o1.n.grow g7) (o2.n.grow g7) (x1.n.grow g7) (x2.n.grow g7) g.1 st.2.1
 refine Runs.step e14 ?_
 refine Runs.step (seen (kb _ _)) ?_
 dsimp only
 have G14 := g7.trans g14
 have G0 := e.grow.trans G14
 have dB := g14.has cB
 have dO := G14.has bO
 have dA := G14.has e.hA
 have lB : iB < h.blks.size := bB.lt
 have lO : iO < h.blks.size := bO.lt
 have lA : iA < h.blks.size := e.hA.lt
 have sz := G14.size
 refine Runs.cond (fun k => ?_) (fun k => ?_)
 ·
  rw [decide_eq_true_eq] at k
  have e7 := g14.has b7
  refine Runs.step (e7.rd 0 (f := AV.asBool) rfl rfl) ?_
  refine Runs.step (e7.rd 1 (f := AV.asSl) rfl (asSl_v _)) ?_
  refine Runs.step (e7.rd 2 (f := AV.asSl) rfl (asSl_v _)) ?_
  refine Runs.new fun h19 b19 g19 => ?_
  refine Runs.when (g19.same e7 0 3) ?_
  have l19 : h14.blks.size < h19.blks.size := b19.lt
  refine Runs.puts (g19.has dO) rfl fun h20 b20 u20 => ?_
  have f7 := (g19.has e7).updr (i := iO) (by omega) u20
  refine Runs.when (kwl (g19.has e7) f7 0 3) ?_
  have fB := (g19.has dB).updr (i := iO) e.bo u20
  refine Runs.puts fB rfl fun h21 b21 u21 => ?_
  refine Runs.ret ⟨rfl, some h14.blks.size, ?_⟩
  have ea : askF i g st = ([i], g) := by unfold askF; rw [if_pos k]
  rw [ea]
  have up : ∀ {t : Sl} {xs : List Nat}, Off h t xs iB iO oi → Off h21 t xs iB iO (some h14.blks.size) := fun x =>
   ((((x.anew x.n (by omega)).grow G14).grow g19).updO u20).updB u21
  refine ⟨?_, ?_, ⟨u1, u2, b21, up o1, up o2⟩, ⟨_, b20.updr (fun e' => e.bo e'.symm) u21, ?_⟩, e.ab, e.ao, e.bo, ?_, ?_, ?_, e.la, e.lb, e.lo, ?_⟩
  ·exact ((G0.trans g19).updr e.lo u20).updr e.lb u21
  ·exact ((g19.has dA).updr e.ao u20).updr e.ab u21
  ·have b19' := (b19.updr (i := iO) (by omega) u20).updr (i := iB) (by omega) u21
   exact GF.one b19' rfl id
  ·show iA ≠ h14.blks.size; omega
  ·show iB ≠ h14.blks.size; omega
  ·show iO ≠ h14.blks.size; omega
  ·exact G0.size
 ·rw [decide_eq_false_iff_not] at k
  have same : askF i g st = st → BestAt h0 h14 iA iB iO oi G N (askF i g st) := fun hs => by
   rw [hs]
   exact ⟨G0, dA, ⟨t1, t2, dB, x1.grow G14, x2.grow G14⟩, ⟨s, dO, gf.grow G14⟩, e.ab, e.ao, e.bo, e.na, e.nb, e.no, e.la, e.lb, e.lo, e.lg⟩
  refine Runs.cond (fun k0 => ?_) (fun k0 => ?_)
  ·rw [decide_eq_true_eq] at k0
   refine Runs.step (dO.rd0 (f := AV.asSl) rfl (asSl_v _)) ?_
   rw [gf.len]
   refine Runs.cond (fun kl => ?_) (fun kl => ?_)
   ·rw [decide_eq_true_eq] at kl
    refine Runs.step (dO.rd0 (f := AV.asSl) rfl (asSl_v _)) ?_
    refine Runs.new fun h24 b24 g24 => ?_
    refine Runs.step (kwm (n := 1) b24 (by rw [kjm]; rfl)) ?_
    obtain ⟨s', h25, e25, gf25, u25⟩ := ((gf.grow G14).grow g24).push (P := Pg) (T := Fp.no) (cs := [.int .i64 i]) (x := i) rfl NotO.no (ktr (by omega))
    refine Runs.step e25 ?_
    refine Runs.step (seen (asSl_v _)) ?_
    dsimp only
    have G24 := G14.trans g24
    have l24 : h14.blks.size < h24.blks.size := b24.lt
    have hO := (g24.has dO).updo e.no u25
    refine Runs.puts hO rfl fun h28 b28 u28 => ?_
    refine Runs.ret ⟨rfl, some h24.blks.size, ?_⟩
    have ea : askF i g st = (st.1 ++ [i], st.2) := by
     unfold askF
     rw [if_neg k, if_pos ⟨k0, by omega⟩]
    rw [ea]
    have up : ∀ {t : Sl} {xs : List Nat}, Off h t xs iB iO oi → Off h28 t xs iB iO (some h24.blks.size) := fun x =>
     (((((x.grow G14).grow g24).updG u25).anew x.n (by omega)).updO u28)
    have Gu : Grow h0 h25 := (G0.trans g24).updo e.lg u25
    refine ⟨Gu.updr e.lo u28, ((g24.has dA).updo e.na u25).updr e.ao u28, ⟨t1, t2, ((g24.has dB).updo e.nb u25).updr e.bo u28, up x1, up x2⟩, ⟨s', b28, ?_⟩, e.ab, e.ao, e.bo, ?_, ?_, ?_, e.la, e.lb, e.lo, ?_⟩
    ·refine (gf25.toNo).upd u28 id fun k hk => ?_
     cases hk
     omega
    ·show iA ≠ h24.blks.size; omega
    ·show iB ≠ h24.blks.size; omega
    ·show iO ≠ h24.blks.size; omega
    ·exact (G0.trans g24).size
   ·rw [decide_eq_false_iff_not] at kl
    refine Runs.ret ⟨rfl, oi, same ?_⟩
    unfold askF
    rw [if_neg k, if_neg (fun h => kl (by omega))]
  ·rw [decide_eq_false_iff_not] at k0
   refine Runs.ret ⟨rfl, oi, same ?_⟩
   unfold askF
   rw [if_neg k, if_neg (fun h => k0 h.1)]
end Go.Ab

/- squeezed -/
set_option linter.unusedVariables false
set_option linter.unusedSimpArgs false
set_option maxRecDepth 10000
namespace Go.Ab
open Go.Proofs Go.Num
abbrev Fr3.of (g : Frc) : Fr3 := (g.1, g.2.1, g.2.2.1)
def kd0 (l G N : Int) (x : Int × Int) (i : Int) (st : List Int × Fr3) : List Int × Fr3 :=
 if x.2 > 0 ∧ x.2 < N then askF i (Fr3.of (gainF l x.1 x.2 G N)) st else st
def bestGo (l G N : Int) : List (Int × Int) → Int → List Int × Fr3 → List Int × Int
 | [], _, st => (st.1, 0)
 | x :: xs, i, st => if (gainF l x.1 x.2 G N).2.2.2 = 0 then bestGo l G N xs (i + 1) (kd0 l G N x i st) else ([], 1)
abbrev E2 : Ef (Int × Int) := Ef.pair (Ef.int .i64) (Ef.int .i64)
def IntsP (h0 : AH) (r : List Int × Int) (v : AV) (h' : AH) : Prop := ∃ s1 : Sl, v = .tup [s1.v, .int .i64 r.2] ∧ Sq (Ef.int .i64) h' Fp.all s1 r.1 ∧ Grow h0 h'
theorem BestAt.more {h0 h h' : AH} {iA iB iO : Nat} {oi : Option Nat} {G N : Int} {st : List Int × Fr3} (e : BestAt h0 h iA iB iO oi G N st) (g : Grow h h') : BestAt h0 h' iA iB iO oi G N st := by
 obtain ⟨t1, t2, bB, x1, x2⟩ := e.best
 obtain ⟨s, bO, gf⟩ := e.outs
 exact ⟨e.grow.trans g, g.has e.hA, ⟨t1, t2, g.has bB, x1.grow g, x2.grow g⟩, ⟨s, g.has bO, gf.grow g⟩, e.ab, e.ao, e.bo, e.na, e.nb, e.no, e.la, e.lb, e.lo, e.lg⟩
theorem kzd (i : Int) (g : Fr3) (st : List Int × Fr3) : (askF i g st).1.length ≤ st.1.length + 1 := by
 unfold askF
 split
 ·simp
 ·split
  ·simp
  ·simp
theorem E2_at {h : AH} {S : Fp} {s : Sl} {xs : List (Int × Int)} (n : Sq E2 h S s xs) {i : Nat} (hi : i < xs.length) : ∃ r : Ref, idx s.ref s.len (i : Int) 2 = some r ∧ h.cell (r.add 0) = some (.int .i64 xs[i].1) ∧ h.cell (r.add 1) = some (.int .i64 xs[i].2) := by
 obtain ⟨r, cs, e1, e2, e3⟩ := n.at (i := (i : Int)) (kjw hi)
 obtain ⟨c1, c2, rfl, rfl, rfl⟩ := e2
 rw [n.len]
 exact ⟨r, e1, e3.at' 0 _ rfl, e3.at' 1 _ rfl⟩
theorem kx8 {h0 : AH} {iA iB iO : Nat} {l G N : Int} {s : Sl} {xs : List (Int × Int)} (n0 : Sq E2 h0 Fp.all s xs) (hlen : xs.length ≤ 16384) : ∀ (k i : Nat), i + k = xs.length → ∀ {h : AH} {oi : Option Nat} {st : List Int × Fr3}, BestAt h0 h iA iB iO oi G N st → st.1.length ≤ i →
  Runs (go (.pt F.kci Td.ke4 [(0, .int .i64 l), (6, .ptr (some (.new iA 0))), (10, .ptr (some (.new iO 0))), (13, .func (.func F.kc3) [] [.ptr (some (.new iB 0)), .ptr (some (.new iO 0))]), (47, s.v), (48, .int .i64 (xs.length : Int)), (49, .int .i64 (i : Int))]) h) (IntsP h0 (bestGo l G N (xs.drop i) (i : Int) st)) := by
 intro k
 induction k with
 | zero =>
  intro i hi h oi st e hl
  rw [ko3]
  obtain ⟨t, bO, gf⟩ := e.outs
  refine Runs.ifF (by rw [decide_eq_false_iff_not]; omega) ?_
  refine Runs.step (bO.rd0 (f := AV.asSl) rfl (asSl_v _)) ?_
  rw [List.drop_of_length_le (by omega)]
  exact Runs.ret ⟨t, rfl, gf.sq.mono fun _ _ => trivial, e.grow⟩
 | succ k ih =>
  intro i hi h oi st e hl
  have hx : i < xs.length := by omega
  rw [ko3]
  refine Runs.ifT (by rw [decide_eq_true_eq]; omega) ?_
  obtain ⟨r, e1, c0, c1⟩ := E2_at (n0.grow e.grow) hx
  refine Runs.step e1 ?_
  refine Runs.step (rdc c0 (kb _ _)) ?_
  refine Runs.step (rdc c1 (kb _ _)) ?_
  refine Runs.new fun h12 b12 g12 => ?_
  refine Runs.puts b12 rfl fun h13 b13 u13 => ?_
  have g13 : Grow h h13 := g12.updr (Nat.le_refl _) u13
  refine Runs.step (b13.rd 0 (f := AV.asInt .i64) rfl (kb _ _)) ?_
  refine Runs.step (b13.rd 1 (f := AV.asInt .i64) rfl (kb _ _)) ?_
  have a13 := g13.has e.hA
  refine Runs.step (a13.rd 0 (f := AV.asInt .i64) rfl (kb _ _)) ?_
  refine Runs.step (a13.rd 1 (f := AV.asInt .i64) rfl (kb _ _)) ?_
  obtain ⟨_, h18, e18, u1, u2, rfl, n1, n2, g18, w1, w2⟩ := kun (h := h13) l xs[i].1 xs[i].2 G N
  refine Runs.step e18 ?_
  refine Runs.step rfl ?_
  refine Runs.step rfl ?_
  refine Runs.ifT rfl ?_
  refine Runs.step rfl ?_
  refine Runs.step (asSl_v _) ?_
  refine Runs.step (asSl_v _) ?_
  refine Runs.step (seen (kb _ _)) ?_
  dsimp only
  refine Runs.new fun h25 b25 g25 => ?_
  refine Runs.puts b25 rfl fun h26 b26 u26 => ?_
  have g26' : Grow h18 h26 := g25.updr (Nat.le_refl _) u26
  have g26 : Grow h h26 := (g13.trans g18).trans g26'
  rw [List.drop_eq_getElem_cons hx]
  rcases kw8 l xs[i].1 xs[i].2 G N with er | er
  ·rw [er]
   refine Runs.ifF rfl ?_
   have hgo : bestGo l G N (xs[i] :: xs.drop (i + 1)) (i : Int) st = bestGo l G N (xs.drop (i + 1)) ((i + 1 : Nat) : Int) (kd0 l G N xs[i] (i : Int) st) := by
    rw [bestGo, if_pos er]
    rfl
   rw [hgo, kbi (by omega)]
   have d13 := (g18.trans g26').has b13
   have skip : ¬ (xs[i].2 > 0 ∧ xs[i].2 < N) → Runs (go (.pt F.kci Td.ke4 [(0, .int .i64 l), (6, .ptr (some (.new iA 0))), (10, .ptr (some (.new iO 0))), (13, .func (.func F.kc3) [] [.ptr (some (.new iB 0)), .ptr (some (.new iO 0))]), (47, s.v), (48, .int .i64 (xs.length : Int)), (49, .int .i64 ((i + 1 : Nat) : Int))]) h26) (IntsP h0 (bestGo l G N (xs.drop (i + 1)) ((i + 1 : Nat) : Int) (kd0 l G N xs[i] (i : Int) st))) := fun hn => by
    unfold kd0
    rw [if_neg hn]
    exact ih (i + 1) (by omega) (e.more g26) (by omega)
   refine Runs.step (d13.rd 1 (f := AV.asInt .i64) rfl (kb _ _)) ?_
   refine Runs.cond (fun k1 => ?_) (fun k1 => ?_)
   ·rw [decide_eq_true_eq] at k1
    refine Runs.step (d13.rd 1 (f := AV.asInt .i64) rfl (kb _ _)) ?_
    refine Runs.step ((g26.has e.hA).rd 1 (f := AV.asInt .i64) rfl (kb _ _)) ?_
    refine Runs.cond (fun k2 => ?_) (fun k2 => ?_)
    ·rw [decide_eq_true_eq] at k2
     refine Runs.step (b26.rd 0 (f := AV.asBool) rfl rfl) ?_
     refine Runs.step (b26.rd 1 (f := AV.asSl) rfl (asSl_v _)) ?_
     refine Runs.step (b26.rd 2 (f := AV.asSl) rfl (asSl_v _)) ?_
     obtain ⟨t1, t2, bB, x1, x2⟩ := e.best
     obtain ⟨so, bO, gf⟩ := e.outs
     have lB := bB.lt
     have lO := bO.lt
     have sz := g13.size
     have off : ∀ {u : Sl} {ys : List Nat}, Nats h18 u ys → Own h13 u → Off h26 u ys iB iO oi := fun nn ww =>
      ⟨(nn.grow g25).upda (Av.of_base nn (Nat.le_refl _)) u26, Av.of_own ww (by omega), Av.of_own ww (by omega), AvO.of_own ww (by
       have := gf.lt
       revert this
       cases oi with
       | none => exact fun _ => trivial
       | some q => exact fun hq => Nat.lt_of_lt_of_le hq sz)⟩
     obtain ⟨_, h33, e33, rfl, oi', e'⟩ := ask_is (g := Fr3.of (gainF l xs[i].1 xs[i].2 G N)) (e.more g26) (by omega) (off n1 w1) (off n2 w2) (i : Int)
     refine Runs.step e33 ?_
     refine Runs.step rfl ?_
     have hs : kd0 l G N xs[i] (i : Int) st = askF (i : Int) (Fr3.of (gainF l xs[i].1 xs[i].2 G N)) st := by
      unfold kd0
      rw [if_pos ⟨k1, k2⟩]
     rw [hs]
     exact ih (i + 1) (by omega) e' (Nat.le_trans (kzd _ _ _) (by omega))
    ·rw [decide_eq_false_iff_not] at k2
     exact skip fun hh => k2 hh.2
   ·rw [decide_eq_false_iff_not] at k1
    exact skip fun hh => k1 hh.1
  ·rw [er]
   refine Runs.ifT rfl ?_
   rw [bestGo, if_neg (by rw [er]; decide)]
   exact Runs.ret ⟨⟨none, 0, .is 0⟩, rfl, Sq.nil _ _ _, e.grow.trans g26⟩
end Go.Ab

/- squeezed -/
set_option linter.unusedVariables false
set_option linter.unusedSimpArgs false
set_option maxRecDepth 10000
namespace Go.Ab
open Go.Proofs Go.Num
def gammaF (γ : Int) : Fr3 := Fr3.of (kr (ofI γ).1 (ofI γ).2 [1])
def bestF (l γ G N : Int) (xs : List (Int × Int)) : List Int × Int :=
 cond (!kv G N) ([], 1) (cond (!kx l) ([], 1) (cond (decide (γ < 0)) ([], 1) (cond (decide (γ > 1048576)) ([], 1) (cond (decide ((xs.length : Int) > 16384)) ([], 1) (bestGo l G N xs 0 ([], gammaF γ))))))
theorem kqn {h : AH} {s : Sl} {xs : List (Int × Int)} (n : Sq E2 h Fp.all s xs) (l γ G N : Int) : Runs (go (.fn F.kci [.int .i64 l, .int .i64 γ, .agg [.int .i64 G, .int .i64 N], s.v]) h) (IntsP h (bestF l γ G N xs)) := by
 have bad : ∀ {h' : AH}, Grow h h' → bestF l γ G N xs = ([], 1) → Runs (some (.tup [(⟨none, 0, .is 0⟩ : Sl).v, .int .i64 1], h')) (IntsP h (bestF l γ G N xs)) := fun g e => by
  rw [e]
  exact Runs.ret ⟨⟨none, 0, .is 0⟩, rfl, Sq.nil _ _ _, g⟩
 rw [ky4]
 refine Runs.new fun h6 b6 g6 => ?_
 refine Runs.step (b6.rd 0 (f := AV.asInt .i64) rfl (kb _ _)) ?_
 refine Runs.step (b6.rd 1 (f := AV.asInt .i64) rfl (kb _ _)) ?_
 obtain ⟨_, h9, e9, rfl, g9⟩ := khf (h := h6) G N
 refine Runs.step e9 ?_
 refine Runs.step (seen rfl) ?_
 refine Runs.cond (fun k1 => ?_) (fun k1 => ?_)
 ·exact bad (g6.trans g9) (by unfold bestF; rw [k1]; rfl)
 obtain ⟨_, h11, e11, rfl, g11⟩ := kly (h := h9) l
 refine Runs.step e11 ?_
 refine Runs.step (seen rfl) ?_
 have G11 := (g6.trans g9).trans g11
 refine Runs.cond (fun k2 => ?_) (fun k2 => ?_)
 ·exact bad G11 (by unfold bestF; rw [k1, cond_false, k2]; rfl)
 refine Runs.cond (fun k3 => ?_) (fun k3 => ?_)
 ·exact bad G11 (by unfold bestF; rw [k1, cond_false, k2, cond_false, k3]; rfl)
 refine Runs.cond (fun k4 => ?_) (fun k4 => ?_)
 ·exact bad G11 (by unfold bestF; rw [k1, cond_false, k2, cond_false, k3, cond_false, k4]; rfl)
 rw [n.len]
 refine Runs.cond (fun k5 => ?_) (fun k5 => ?_)
 ·exact bad G11 (by unfold bestF; rw [k1, cond_false, k2, cond_false, k3, cond_false, k4, cond_false, k5]; rfl)
 have ef : bestF l γ G N xs = bestGo l G N xs 0 ([], gammaF γ) := by
  unfold bestF
  rw [k1, cond_false, k2, cond_false, k3, cond_false, k4, cond_false, k5, cond_false]
 rw [ef]
 rw [decide_eq_false_iff_not] at k3 k4 k5
 dsimp only
 refine Runs.new fun h13 b13 g13 => ?_
 obtain ⟨s14, h14, e14, n14, g14, o14⟩ := knv (h := h13) γ (by omega)
 refine Runs.step e14 ?_
 refine Runs.step rfl ?_
 refine Runs.ifT rfl ?_
 refine Runs.step rfl ?_
 refine Runs.step (asSl_v _) ?_
 dsimp only
 refine Runs.new fun h18 b18 g18 => ?_
 have n1 : Nats h18 (⟨some (.new h14.blks.size 0), 1, .is 1⟩ : Sl) [1] := Nats.of_has (xs := [1]) b18 (by decide) (by simp)
 obtain ⟨_, h19, e19, u1, u2, rfl, m1, m2, g19, w1, w2⟩ := kic (n14.grow g18) n1 (ofI γ).1
 refine Runs.step e19 ?_
 refine Runs.step rfl ?_
 refine Runs.step rfl ?_
 refine Runs.ifT rfl ?_
 refine Runs.step rfl ?_
 refine Runs.step (asSl_v _) ?_
 refine Runs.step (asSl_v _) ?_
 refine Runs.step (seen (kb _ _)) ?_
 dsimp only
 refine Runs.new fun h26 b26 g26 => ?_
 refine Runs.puts b26 rfl fun h27 b27 u27 => ?_
 have l6 : h.blks.size < h6.blks.size := b6.lt
 have s9 := g9.size
 have s11 := g11.size
 have l13 : h11.blks.size < h13.blks.size := b13.lt
 have s14 := g14.size
 have s18 := g18.size
 have s19 := g19.size
 have gU : Grow h19 h27 := g26.updr (Nat.le_refl _) u27
 have off : ∀ {u : Sl} {ys : List Nat}, Nats h19 u ys → Own h18 u → Off h27 u ys h19.blks.size h11.blks.size none := fun nn ww =>
  ⟨(nn.grow g26).upda (Av.of_base nn (Nat.le_refl _)) u27, Av.of_base nn (Nat.le_refl _), Av.of_own ww (by omega), trivial⟩
 have gX := ((g14.trans g18).trans g19).trans gU
 have at0 : BestAt h h27 h.blks.size h19.blks.size h11.blks.size none G N ([], gammaF γ) := by
  refine ⟨(G11.trans g13).trans gX, gX.has (g13.has ((g9.trans g11).has b6)), ⟨u1, u2, b27, off m1 w1, off m2 w2⟩, ⟨_, gX.has b13, GF.none _ _ _ _⟩, ?_, ?_, ?_, trivial, trivial, trivial, ?_, ?_, ?_, trivial⟩ <;> omega
 have := kx8 n (by omega) (l := l) (s := s) xs.length 0 (by omega) at0 (Nat.le_refl _)
 simpa using this
end Go.Ab

/- squeezed -/
set_option linter.unusedVariables false
set_option linter.unusedSimpArgs false
set_option maxRecDepth 10000
namespace Go.Ab
open Go.Proofs Go.Num
theorem kkv (l G N : Int) : ∀ (xs : List (Int × Int)) (i : Int) (st : List Int × Fr3), (∃ x ∈ xs, (kp x.1 x.2 G N).2.2 = false) → bestGo l G N xs i st = ([], 1)
 | [], _, _, ⟨_, h, _⟩ => by cases h
 | x :: xs, i, st, ⟨y, hy, hb⟩ => by
  rw [bestGo]
  by_cases hx : (gainF l x.1 x.2 G N).2.2.2 = 0
  ·rw [if_pos hx]
   rcases List.mem_cons.1 hy with rfl | hy
   ·rw [(kt2 hx).1] at hb
    cases hb
   ·exact kkv l G N xs _ _ ⟨y, hy, hb⟩
  ·rw [if_neg hx]
theorem kvh {h : AH} {x : AV} (a : ArgV Pg h T.kl2 x) : ∃ (s : Sl) (xs : List (Int × Int)), x = s.v ∧ Sq E2 h Fp.all s xs := by
 unfold ArgV at a
 rw [kp2] at a
 obtain ⟨s, xs, e, n⟩ := Sq.of_arg (E := E2) (S := Fp.all) kp2 kik (fun es t => by
  obtain ⟨hl, hf⟩ := t.struct klk
  rw [kik] at hl
  match es, hl with
  | [x0, x1], _ =>
   simp [kjm] at hf
   obtain ⟨h0, h1⟩ := hf
   obtain ⟨m, e0, _⟩ := h0.int kf9
   obtain ⟨n, e1, _⟩ := h1.int kf9
   cases e0; cases e1
   exact ⟨(m, n), [.int .i64 m], [.int .i64 n], rfl, rfl, rfl⟩) a
 cases e
 exact ⟨s, xs, rfl, n⟩
theorem kse {h : AH} {x : AV} (a : ArgV Pg h T.kf8 x) : ∃ m n : Int, x = .agg [.int .i64 m, .int .i64 n] := by
 unfold ArgV at a
 rw [kme] at a
 obtain ⟨cs, rfl, t⟩ := a
 obtain ⟨hl, hf⟩ := t.array kme
 rw [kvu] at hl
 match cs, hl with
 | [x0, x1], _ =>
  have h0 := hf 0 (by omega)
  have h1 := hf 1 (by omega)
  simp [kjm] at h0 h1
  obtain ⟨m, e0, _⟩ := h0.int kf9
  obtain ⟨n, e1, _⟩ := h1.int kf9
  cases e0; cases e1
  exact ⟨m, n, rfl⟩
theorem ku1 {h : AH} {x : AV} (a : ArgV Pg h T.ko x) : ∃ m n : Int, x = .agg [.int .i64 m, .int .i64 n] := by
 unfold ArgV at a
 rw [klk] at a
 obtain ⟨cs, rfl, t⟩ := a
 obtain ⟨hl, hf⟩ := t.struct klk
 rw [kik] at hl
 match cs, hl with
 | [x0, x1], _ =>
  simp [kjm] at hf
  obtain ⟨h0, h1⟩ := hf
  obtain ⟨m, e0, _⟩ := h0.int kf9
  obtain ⟨n, e1, _⟩ := h1.int kf9
  cases e0; cases e1
  exact ⟨m, n, rfl⟩
end Go.Ab

/- squeezed -/
set_option linter.unusedVariables false
set_option linter.unusedSimpArgs false
set_option maxRecDepth 10000
namespace Go.Ab
open Go.Proofs Go.Num
def Fr3.ok (g : Fr3) : Prop := ∃ w e, IsFrac g.1 g.2.1 g.2.2 w e
def cmp3 (a b : Fr3) : Int := kcs a.1 a.2.1 a.2.2 b.1 b.2.1 b.2.2
theorem klh {a b : Fr3} {w w' : Int} {e e' : Nat} (f : IsFrac a.1 a.2.1 a.2.2 w e) (k : IsFrac b.1 b.2.1 b.2.2 w' e') : cmp3 a b ≤ 0 ↔ w * (e' : Int) ≤ w' * (e : Int) := by
 unfold cmp3
 rw [Cmp_of f k]
 split
 ·constructor <;> intro <;> omega
 ·split
  ·constructor <;> intro <;> omega
  ·constructor <;> intro <;> omega
theorem kc1 {a b c : Fr3} (ha : a.ok) (hb : b.ok) (hc : c.ok) (h1 : cmp3 a b ≤ 0) (h2 : cmp3 b c ≤ 0) : cmp3 a c ≤ 0 := by
 obtain ⟨w1, e1, f1⟩ := ha
 obtain ⟨w2, e2, f2⟩ := hb
 obtain ⟨w3, e3, f3⟩ := hc
 rw [klh f1 f2] at h1
 rw [klh f2 f3] at h2
 rw [klh f1 f3]
 have p1 : (0 : Int) < e1 := by have := f1.pos; omega
 have p2 : (0 : Int) < e2 := by have := f2.pos; omega
 have p3 : (0 : Int) < e3 := by have := f3.pos; omega
 have a1 : w1 * e2 * e3 ≤ w2 * e1 * e3 := Int.mul_le_mul_of_nonneg_right h1 (by omega)
 have a2 : w2 * e3 * e1 ≤ w3 * e2 * e1 := Int.mul_le_mul_of_nonneg_right h2 (by omega)
 have a3 : w1 * e3 * e2 ≤ w3 * e1 * e2 := by
  rw [Int.mul_right_comm w1, Int.mul_right_comm w3 (e1 : Int)]
  refine Int.le_trans a1 ?_
  rw [Int.mul_right_comm w2]
  exact a2
 exact Int.le_of_mul_le_mul_right a3 p2
theorem kb5 {a b : Fr3} (ha : a.ok) (hb : b.ok) : (cmp3 a b < 0 ∧ cmp3 b a > 0) ∨ (cmp3 a b = 0 ∧ cmp3 b a = 0) ∨ (cmp3 a b > 0 ∧ cmp3 b a < 0) := by
 obtain ⟨w1, e1, f1⟩ := ha
 obtain ⟨w2, e2, f2⟩ := hb
 unfold cmp3
 rw [Cmp_of f1 f2, Cmp_of f2 f1]
 rcases Int.lt_trichotomy (w1 * (e2 : Int)) (w2 * (e1 : Int)) with h | h | h
 ·left
  rw [if_pos h, if_neg (by omega), if_neg (by omega)]
  omega
 ·right; left
  rw [if_neg (by omega), if_pos h, if_neg (by omega), if_pos h.symm]
  exact ⟨rfl, rfl⟩
 ·right; right
  rw [if_neg (by omega), if_neg (by omega), if_pos h]
  omega
section
variable (l G N : Int) (γ : Fr3)
def cd (X : List (Int × Int)) (j : Nat) : Bool := match X[j]? with
 | some x => decide (x.2 > 0 ∧ x.2 < N)
 | none => false
def gn (X : List (Int × Int)) (j : Nat) : Fr3 := match X[j]? with
 | some x => Fr3.of (gainF l x.1 x.2 G N)
 | none => γ
def topB (X : List (Int × Int)) (b : Fr3) (j : Nat) : Bool := cd N X j && (decide (cmp3 (gn l G N γ X j) b = 0) && decide (cmp3 b γ > 0))
structure Inv (X : List (Int × Int)) (i : Nat) (st : List Int × Fr3) : Prop where
 ok : st.2.ok
 all : ∀ j, j < i → cd N X j = true → cmp3 (gn l G N γ X j) st.2 ≤ 0
 ge : cmp3 γ st.2 ≤ 0
 out : st.1 = ((List.range i).filter (topB l G N γ X st.2)).map Int.ofNat
 ex : st.2 = γ ∨ ∃ j, j < i ∧ cd N X j = true ∧ cmp3 (gn l G N γ X j) st.2 = 0
variable {l G N γ}
theorem Inv.step {X : List (Int × Int)} {i : Nat} {st : List Int × Fr3} {x : Int × Int} (v : Inv l G N γ X i st) (hγ : γ.ok) (hx : X[i]? = some x) (hg : (Fr3.of (gainF l x.1 x.2 G N)).ok) (gok : ∀ j, (gn l G N γ X j).ok) : Inv l G N γ X (i + 1) (kd0 l G N x (i : Int) st) := by
 obtain ⟨hok, hall, hge, hout, hex⟩ := v
 have hgn : gn l G N γ X i = Fr3.of (gainF l x.1 x.2 G N) := by unfold gn; rw [hx]
 have hcd : cd N X i = decide (x.2 > 0 ∧ x.2 < N) := by unfold cd; rw [hx]
 have next : ∀ {b : Fr3}, (List.range (i + 1)).filter (topB l G N γ X b) = (List.range i).filter (topB l G N γ X b) ++ (if topB l G N γ X b i then [i] else []) := fun {b} => by
  rw [List.range_succ, List.filter_append]
  congr 1
  simp [List.filter]
  split <;> simp_all
 unfold kd0
 by_cases hc : x.2 > 0 ∧ x.2 < N
 ·rw [if_pos hc]
  rw [decide_eq_true hc] at hcd
  generalize hgv : Fr3.of (gainF l x.1 x.2 G N) = g at *
  unfold askF
  rw [show kcs g.1 g.2.1 g.2.2 st.2.1 st.2.2.1 st.2.2.2 = cmp3 g st.2 from rfl]
  have all' : cmp3 g st.2 ≤ 0 → ∀ j, j < i + 1 → cd N X j = true → cmp3 (gn l G N γ X j) st.2 ≤ 0 := fun h j hj hcj => by
   rcases Nat.lt_or_ge j i with h' | h'
   ·exact hall j h' hcj
   ·have : j = i := by omega
    subst this
    rw [hgn]
    exact h
  have ex' : st.2 = γ ∨ ∃ j, j < i + 1 ∧ cd N X j = true ∧ cmp3 (gn l G N γ X j) st.2 = 0 := hex.imp id fun ⟨j, a, b⟩ => ⟨j, by omega, b⟩
  rcases kb5 hg hok with ⟨t1, t2⟩ | ⟨t1, t2⟩ | ⟨t1, t2⟩
  ·rw [if_neg (by omega), if_neg (by omega)]
   refine ⟨hok, all' (by omega), hge, ?_, ex'⟩
   have : topB l G N γ X st.2 i = false := by
    unfold topB
    rw [hgn, decide_eq_false (by omega)]
    simp
   rw [next, this]
   simpa using hout
  ·rw [if_neg (by omega)]
   by_cases hl : st.1.length > 0
   ·rw [if_pos ⟨t1, hl⟩]
    refine ⟨hok, all' (by omega), hge, ?_, ex'⟩
    have hb : cmp3 st.2 γ > 0 := by
     rw [hout, List.length_map] at hl
     obtain ⟨j, hj⟩ := List.exists_mem_of_length_pos hl
     have := (List.mem_filter.1 hj).2
     unfold topB at this
     rw [Bool.and_eq_true, Bool.and_eq_true, decide_eq_true_eq, decide_eq_true_eq] at this
     exact this.2.2
    have : topB l G N γ X st.2 i = true := by
     unfold topB
     rw [hcd, hgn, decide_eq_true t1, decide_eq_true hb]
     rfl
    dsimp only
    rw [next, this, if_pos rfl, List.map_append, ← hout]
    rfl
   ·rw [if_neg (fun h => hl h.2)]
    refine ⟨hok, all' (by omega), hge, ?_, ex'⟩
    have : topB l G N γ X st.2 i = false := by
     unfold topB
     by_cases hb : cmp3 st.2 γ > 0
     ·exfalso
      rcases hex with h | ⟨j, h1, h2, h3⟩
      ·rw [h] at hb
       have := (kb5 hγ hγ)
       omega
      ·apply hl
       rw [hout, List.length_map]
       refine List.length_pos_of_mem (a := j) (List.mem_filter.2 ⟨List.mem_range.2 h1, ?_⟩)
       unfold topB
       rw [h2, decide_eq_true h3, decide_eq_true hb]
       rfl
     ·rw [decide_eq_false hb]
      simp
    rw [next, this]
    simpa using hout
  ·rw [if_pos (by omega)]
   have hgγ : cmp3 γ g ≤ 0 := kc1 hγ hok hg hge (by omega)
   have hgγ' : cmp3 g γ > 0 := by
    rcases kb5 hg hγ with h | h | h
    ·omega
    ·have := kc1 hg hγ hok (by omega) hge
     omega
    ·omega
   refine ⟨hg, fun j hj hcj => ?_, hgγ, ?_, .inr ⟨i, by omega, hcd, ?_⟩⟩
   ·show cmp3 (gn l G N γ X j) g ≤ 0
    rcases Nat.lt_or_ge j i with h' | h'
    ·exact kc1 (gok j) hok hg (hall j h' hcj) (by omega)
    ·have : j = i := by omega
     subst this
     rw [hgn]
     rcases kb5 hg hg with h | h | h <;> omega
   ·have e1 : (List.range i).filter (topB l G N γ X g) = [] := by
     rw [List.filter_eq_nil_iff]
     intro j hj
     unfold topB
     cases hcj : cd N X j with
     | false => simp
     | true =>
      have := hall j (List.mem_range.1 hj) hcj
      have : cmp3 (gn l G N γ X j) g ≠ 0 := fun h0 => by
       have h1 : cmp3 g (gn l G N γ X j) ≤ 0 := by
        rcases kb5 (gok j) hg with h | h | h <;> omega
       have := kc1 hg (gok j) hok h1 this
       omega
      rw [decide_eq_false this]
      simp
    have e2 : topB l G N γ X g i = true := by
     unfold topB
     rw [hcd, hgn, decide_eq_true hgγ']
     rw [decide_eq_true (show cmp3 g g = 0 from by rcases kb5 hg hg with h | h | h <;> omega)]
     rfl
    rw [next, e1, e2]
    rfl
   ·show cmp3 (gn l G N γ X i) g = 0
    rw [hgn]
    rcases kb5 hg hg with h | h | h <;> omega
 ·rw [if_neg hc]
  rw [decide_eq_false hc] at hcd
  refine ⟨hok, fun j hj hcj => ?_, hge, ?_, hex.imp id fun ⟨j, a, b⟩ => ⟨j, by omega, b⟩⟩
  ·rcases Nat.lt_or_ge j i with h' | h'
   ·exact hall j h' hcj
   ·have : j = i := by omega
    subst this
    rw [hcd] at hcj
    cases hcj
  ·have : topB l G N γ X st.2 i = false := by
    unfold topB
    rw [hcd]
    rfl
   rw [next, this]
   simpa using hout
end
end Go.Ab

/- squeezed -/
set_option linter.unusedVariables false
set_option linter.unusedSimpArgs false
set_option maxRecDepth 10000
namespace Go.Ab
open Go.Proofs Go.Num
theorem kmc {l g n G N : Int} (h1 : (kp g n G N).2.2 = true) (h2 : kx l = true) : (Fr3.of (gainF l g n G N)).ok := by
 obtain ⟨m1, m2, m3, e⟩ := kqc h1
 unfold Fr3.ok Fr3.of gainF
 rw [h1, h2, e]
 obtain ⟨w, c, _, f, l1, l2⟩ := kou m1 m3 h2
 obtain ⟨w', c', _, f', l1', l2'⟩ := khr m2 h2
 have hb := kpy
 simp only [Bool.not_true, cond_false]
 unfold subQ
 rw [Sub_of f f']
 have p1 : (w * (c' : Int)).natAbs ≤ 1099511627776 * 1099511627776 * 2097152 * 2 * 2097152 := by rw [Int.natAbs_mul, Int.natAbs_natCast]; exact kdb l1 l2'
 have p2 : (w' * (c : Int)).natAbs ≤ 1099511627776 * 1099511627776 * (2097152 * 2097152) := by rw [Int.natAbs_mul, Int.natAbs_natCast]; exact kdb l1' l2
 have p3 : c * c' ≤ 2097152 * 2097152 * 2097152 := kdb l2 l2'
 have p4 : 0 < c * c' := Nat.mul_pos f.pos f'.pos
 obtain ⟨x, y, e1, fx, m1, m2⟩ := kgh (z := w * (c' : Int) - w' * (c : Int)) (d := c * c') p4 (by omega) (by omega)
 exact ⟨x, y, fx⟩
theorem kui {γ : Int} (h : 0 ≤ γ ∧ γ ≤ 1048576) : (gammaF γ).ok := by
 have b64 : (1048577 : Nat) < B ^ 64 := by decide
 have b16 : (1048577 : Nat) < B ^ 16 := by decide
 unfold gammaF
 rw [kp0 (by omega), ← kxg, kjp (z := γ) (d := 1) (by omega) (by decide) (by decide)]
 obtain ⟨w, e, -, f, -, -⟩ := kgh (z := γ) (d := 1) (by decide) (by omega) (by decide)
 exact ⟨w, e, f⟩
section
variable {l G N : Int} {γ : Fr3}
theorem gn_ok {X : List (Int × Int)} (hγ : γ.ok) (hl : kx l = true) (ok : ∀ x ∈ X, (kp x.1 x.2 G N).2.2 = true) (j : Nat) : (gn l G N γ X j).ok := by
 unfold gn
 split
 ·rename_i x hx
  exact kmc (ok x (List.mem_of_getElem? hx)) hl
 ·exact hγ
theorem kmu {X : List (Int × Int)} (hγ : γ.ok) (hl : kx l = true) (ok : ∀ x ∈ X, (kp x.1 x.2 G N).2.2 = true) : ∀ (k i : Nat), i + k = X.length → ∀ {st : List Int × Fr3}, Inv l G N γ X i st → ∃ st', bestGo l G N (X.drop i) (i : Int) st = (st'.1, 0) ∧ Inv l G N γ X X.length st' := by
 intro k
 induction k with
 | zero =>
  intro i hi st v
  have : i = X.length := by omega
  subst this
  rw [List.drop_length]
  exact ⟨st, rfl, v⟩
 | succ k ih =>
  intro i hi st v
  have hx : i < X.length := by omega
  have okx := ok X[i] (List.getElem_mem _)
  rw [List.drop_eq_getElem_cons hx, bestGo, if_pos (koq okx hl)]
  exact ih (i + 1) (by omega) (v.step hγ (List.getElem?_eq_getElem hx) (kmc okx hl) (gn_ok hγ hl ok))
theorem Inv.start {X : List (Int × Int)} (hγ : γ.ok) : Inv l G N γ X 0 ([], γ) :=
 ⟨hγ, fun j hj => by omega, by
  show cmp3 γ γ ≤ 0
  rcases kb5 hγ hγ with h | h | h <;> omega, rfl, .inl rfl⟩
def rot (n k j : Nat) : Nat := (j + k) % n
theorem kp3 {X : List (Int × Int)} {k j : Nat} (hk : k < X.length) (hj : j < X.length) : (X.drop k ++ X.take k)[j]? = X[rot X.length k j]? := by
 unfold rot
 rcases Nat.lt_or_ge (j + k) X.length with h | h
 ·rw [List.getElem?_append_left (by simp; omega), List.getElem?_drop, Nat.mod_eq_of_lt h, Nat.add_comm]
 ·rw [List.getElem?_append_right (by simp; omega), List.length_drop, List.getElem?_take, if_pos (by omega)]
  have : (j + k) % X.length = j - (X.length - k) := by
   rw [Nat.mod_eq_sub_mod h, Nat.mod_eq_of_lt (by omega)]
   omega
  rw [this]
theorem kp5 {n k j : Nat} (hk : k < n) (hj : j < n) : rot n k (rot n (n - k) j) = j := by
 unfold rot
 rw [Nat.mod_add_mod]
 have : j + (n - k) + k = j + n := by omega
 rw [this, Nat.add_mod_right, Nat.mod_eq_of_lt hj]
theorem rot_lt {n k j : Nat} (hn : 0 < n) : rot n k j < n := Nat.mod_lt _ hn
theorem ku5 {n k : Nat} (hk : k < n) : ((List.range n).map (rot n k)).Perm (List.range n) := by
 have : (List.range n).map (rot n k) = (List.range n).drop k ++ (List.range n).take k := by
  apply List.ext_getElem?
  intro j
  rcases Nat.lt_or_ge j n with h | h
  ·rw [List.getElem?_map, List.getElem?_range h, Option.map_some]
   unfold rot
   rcases Nat.lt_or_ge (j + k) n with h' | h'
   ·rw [List.getElem?_append_left (by simp; omega), List.getElem?_drop, Nat.mod_eq_of_lt h', List.getElem?_range (by omega), Nat.add_comm]
   ·rw [List.getElem?_append_right (by simp; omega), List.length_drop, List.length_range, List.getElem?_take, if_pos (by omega), List.getElem?_range (by omega), Nat.mod_eq_sub_mod h', Nat.mod_eq_of_lt (by omega)]
    congr 1
    omega
  ·rw [List.getElem?_eq_none (by simp; omega), List.getElem?_eq_none (by simp; omega)]
 rw [this]
 refine List.perm_append_comm.trans ?_
 rw [List.take_append_drop]
theorem kyo {X : List (Int × Int)} {k : Nat} (hk : k < X.length) (hγ : γ.ok) (hl : kx l = true) (ok : ∀ x ∈ X, (kp x.1 x.2 G N).2.2 = true) {st st' : List Int × Fr3}
  (v : Inv l G N γ X X.length st) (v' : Inv l G N γ (X.drop k ++ X.take k) (X.drop k ++ X.take k).length st') :
  (∀ j, j < X.length → topB l G N γ (X.drop k ++ X.take k) st'.2 j = topB l G N γ X st.2 (rot X.length k j)) ∧ st'.1.length = st.1.length := by
 have hn : 0 < X.length := by omega
 have len : (X.drop k ++ X.take k).length = X.length := by simp; omega
 rw [len] at v'
 have hcd : ∀ j, j < X.length → cd N (X.drop k ++ X.take k) j = cd N X (rot X.length k j) := fun j hj => by
  unfold cd
  rw [kp3 hk hj]
 have hgn : ∀ j, j < X.length → gn l G N γ (X.drop k ++ X.take k) j = gn l G N γ X (rot X.length k j) := fun j hj => by
  unfold gn
  rw [kp3 hk hj]
 have gok := gn_ok (γ := γ) hγ hl ok
 have le1 : cmp3 st'.2 st.2 ≤ 0 := by
  rcases v'.ex with h | ⟨j, h1, h2, h3⟩
  ·rw [h]; exact v.ge
  ·rw [hcd j h1] at h2
   rw [hgn j h1] at h3
   have a := v.all _ (rot_lt hn) h2
   have b : cmp3 st'.2 (gn l G N γ X (rot X.length k j)) ≤ 0 := by
    rcases kb5 (gok (rot X.length k j)) v'.ok with h | h | h <;> omega
   exact kc1 v'.ok (gok _) v.ok b a
 have le2 : cmp3 st.2 st'.2 ≤ 0 := by
  rcases v.ex with h | ⟨j, h1, h2, h3⟩
  ·rw [h]; exact v'.ge
  ·have hj' : rot X.length (X.length - k) j < X.length := rot_lt hn
   have e := kp5 hk h1
   have c' : cd N (X.drop k ++ X.take k) (rot X.length (X.length - k) j) = true := by rw [hcd _ hj', e]; exact h2
   have a := v'.all _ hj' c'
   rw [hgn _ hj', e] at a
   have b : cmp3 st.2 (gn l G N γ X j) ≤ 0 := by
    rcases kb5 (gok j) v.ok with h | h | h <;> omega
   exact kc1 v.ok (gok _) v'.ok b a
 have key : ∀ j, j < X.length → topB l G N γ (X.drop k ++ X.take k) st'.2 j = topB l G N γ X st.2 (rot X.length k j) := fun j hj => by
  unfold topB
  rw [hcd j hj, hgn j hj]
  have g := gok (rot X.length k j)
  have e1 : decide (cmp3 (gn l G N γ X (rot X.length k j)) st'.2 = 0) = decide (cmp3 (gn l G N γ X (rot X.length k j)) st.2 = 0) := by
   rw [decide_eq_decide]
   have tr : ∀ {b b' : Fr3}, b.ok → b'.ok → cmp3 b b' ≤ 0 → cmp3 b' b ≤ 0 → cmp3 (gn l G N γ X (rot X.length k j)) b = 0 → cmp3 (gn l G N γ X (rot X.length k j)) b' = 0 := fun hb hb' h1 h2 h3 => by
    have a1 := kc1 g hb hb' (by omega) h1
    have a2 : cmp3 _ (gn l G N γ X (rot X.length k j)) ≤ 0 := kc1 hb' hb g h2 (by rcases kb5 g hb with h | h | h <;> omega)
    rcases kb5 g hb' with h | h | h <;> omega
   exact ⟨tr v'.ok v.ok le1 le2, tr v.ok v'.ok le2 le1⟩
  have e2 : decide (cmp3 st'.2 γ > 0) = decide (cmp3 st.2 γ > 0) := by
   rw [decide_eq_decide]
   have tr : ∀ {b b' : Fr3}, b.ok → b'.ok → cmp3 b b' ≤ 0 → cmp3 b γ > 0 → cmp3 b' γ > 0 := fun hb hb' h1 h3 => by
    rcases kb5 hb' hγ with h | h | h
    ·have := kc1 hb hb' hγ h1 (by omega); omega
    ·have := kc1 hb hb' hγ h1 (by omega); omega
    ·omega
   exact ⟨tr v'.ok v.ok le1, tr v.ok v'.ok le2⟩
  rw [e1, e2]
 refine ⟨key, ?_⟩
 rw [v'.out, v.out, List.length_map, List.length_map, ← List.countP_eq_length_filter, ← List.countP_eq_length_filter]
 rw [← (ku5 hk).countP_eq (topB l G N γ X st.2), List.countP_map]
 exact List.countP_congr fun j hj => by
  show _ = true ↔ topB l G N γ X st.2 (rot X.length k j) = true
  rw [key j (List.mem_range.1 hj)]
end
end Go.Ab
