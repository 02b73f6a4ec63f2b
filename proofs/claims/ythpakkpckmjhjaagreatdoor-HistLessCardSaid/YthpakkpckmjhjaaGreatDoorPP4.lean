/- squeezed -/
import Derived.Test.YthpakkpckmjhjaaGreatDoorPS52
import Derived.Test.YthpakkpckmjhjaaGreatDoorPS36
import Derived.Test.YthpakkpckmjhjaaGreatDoorU1

set_option linter.unusedVariables false
set_option linter.unusedSimpArgs false
set_option maxRecDepth 10000
namespace Go.Ab
open Go.Proofs Go.Num
theorem getD0 (xs : List Nat) : xs.getD 0 0 = xs.headD 0 := by cases xs <;> rfl
theorem ks4 {b : Nat} {xs : List Nat} (h : ∀ x ∈ xs, x < b) (hb : 0 < b) : xs.headD 0 = num b xs % b := by
 cases xs with
 | nil => simp [num]
 | cons x xs =>
  rw [kme, Nat.add_mul_mod_self_left, Nat.mod_eq_of_lt (h x (by simp))]
  rfl
def montR (ts ys ns : List Nat) (v x : Nat) : List Nat :=
 let p := addMul ts ys x 0
 (addMul p ns (p.headD 0 * v % B) 0).tail ++ [0]
theorem k0u {ts ys ns : List Nat} {v x k : Nat} (lt : ∀ t ∈ ts, t < B) (hl : ts.length = k + 2) (hx : x < B) (hv : (num B ns * v + 1) % B = 0) (hY : num B ys < B ^ k) (hN : num B ns < B ^ k) (hT : num B ts < num B ys + num B ns) :
  (montR ts ys ns v x).length = k + 2 ∧ (∀ t ∈ montR ts ys ns v x, t < B) ∧ (∃ m, m < B ∧ num B ts + num B ys * x + num B ns * m = num B (montR ts ys ns v x) * B) := by
 have B0 : 0 < B := by decide
 unfold montR
 dsimp only
 generalize hp : addMul ts ys x 0 = p
 generalize hT' : num B ts = T at *
 generalize hY' : num B ys = Y at *
 generalize hN' : num B ns = N at *
 have lp : p.length = k + 2 := by rw [← hp, kkw, hl]
 have ltp : ∀ t ∈ p, t < B := by rw [← hp]; exact kmf _ _ _ _
 have e1 : Y * x ≤ B ^ k * B := Nat.mul_le_mul (by omega) (by omega)
 have e3 : B ^ (k + 2) = B ^ k * B * B := by rw [Nat.pow_succ, Nat.pow_succ]
 have e4 : B ^ k * B * 4 ≤ B ^ k * B * B := Nat.mul_le_mul_left _ (by decide)
 have e5 : B ^ k * 2 ≤ B ^ k * B := Nat.mul_le_mul_left _ (by decide)
 have np : num B p = T + Y * x := by
  rw [← hp, kos, hT', hY', hl, Nat.add_zero]
  refine Nat.mod_eq_of_lt ?_
  omega
 have hh : p.headD 0 = (T + Y * x) % B := by rw [ks4 ltp B0, np]
 rw [hh]
 generalize hm : (T + Y * x) % B * v % B = m
 have mB : m < B := by rw [← hm]; exact Nat.mod_lt _ B0
 have e2 : N * m ≤ B ^ k * B := Nat.mul_le_mul (by omega) (by omega)
 generalize hp' : addMul p ns m 0 = p'
 have lp' : p'.length = k + 2 := by rw [← hp', kkw, lp]
 have ltp' : ∀ t ∈ p', t < B := by rw [← hp']; exact kmf _ _ _ _
 have np' : num B p' = T + Y * x + N * m := by
  rw [← hp', kos, np, hN', lp, Nat.add_zero]
  refine Nat.mod_eq_of_lt ?_
  omega
 have h0 : p'.headD 0 = 0 := by
  rw [ks4 ltp' B0, np', ← hm]
  exact k1u B0 hv
 refine ⟨by simp; omega, ?_, m, mB, ?_⟩
 ·intro t ht
  rcases List.mem_append.1 ht with h | h
  ·exact ltp' t (List.mem_of_mem_tail h)
  ·rw [List.mem_singleton.1 h]; exact B0
 ·rw [← np', kpq B p', h0, show [0] = List.replicate 1 0 from rfl, kf2, Nat.zero_add, Nat.mul_comm]
theorem k05 {p : List Nat} {k : Nat} (h : p.length = k + 2) : List.take (k + 1) (List.drop 1 p) = p.tail := by
 rw [List.drop_one, List.take_of_length_le (by simp; omega)]
theorem kbbm {p : List Nat} {k : Nat} (h : p.length = k + 2) : ∃ z, overW p p.tail = some (p.tail ++ [z]) := by
 unfold overW
 rw [if_pos (by simp)]
 have hd : (p.drop p.tail.length).length = 1 := by simp; omega
 obtain ⟨z, hz⟩ := List.length_eq_one_iff.1 hd
 exact ⟨z, by rw [hz]⟩
theorem koy {xs : List Nat} {i : Nat} (h : xs.length ≤ i) : xs.getD i 0 = 0 := by simp [List.getD, List.getElem?_eq_none h]
theorem knu {xs ys : List Nat} (hx : rt xs = true) (hy : rt ys = true) : cmpN xs ys = cmp (num B xs) (num B ys) := by
 unfold cmpN
 rw [if_pos ⟨hx, hy⟩]
theorem kx4 (b : Nat) {xs : List Nat} (i : Nat) : num b (xs.take (i + 1)) = num b (xs.take i) + b ^ i * xs.getD i 0 := by
 rcases Nat.lt_or_ge i xs.length with h | h
 ·rw [kcc b h, kbd h]
 ·rw [List.take_of_length_le (by omega), List.take_of_length_le h, koy h]
  simp
section
variable {ns xs ys ones nexts : List Nat} {v k N X Y : Nat}
theorem ky3 (hk : k ≤ 60) (ln : ns.length = k) (ltn : ∀ t ∈ ns, t < B) (lx : ∀ t ∈ xs, t < B) (ly : ∀ t ∈ ys, t < B) (hvB : v < B) (hv : (num B ns * v + 1) % B = 0) (hY : num B ys < num B ns) {ts : List Nat} (lt : ∀ t ∈ ts, t < B) (hl : ts.length = k + 2) {i : Nat} (hi : i < k) (hT : num B ts < num B ys + num B ns) :
  kiy ns (v : Int) ones nexts xs ys (k : Int) ts (k : Int) (i : Int) = some (.inl (.p4 ns (v : Int) ones nexts xs ys (k : Int) (montR ts ys ns v (xs.getD i 0)) (k : Int) ((i + 1 : Nat) : Int))) := by
 have hN : num B ns < B ^ k := ln ▸ num_lt B1 ltn
 have run : ∀ x : Nat, x < B → ∀ p, addMul ts ys x 0 = p → ∀ q, addMul p ns (p.headD 0 * v % B) 0 = q →
   p.length = k + 2 ∧ q.length = k + 2 ∧ runP ket (.fn ts ys (x : Int)) = some p ∧ runP ket (.fn p ns (IntKind.wrap .u64 (((List.getD p 0 0 : Nat) : Int) * (v : Int)))) = some q := by
  intro x hx p hp q hq
  have l1 : p.length = k + 2 := by rw [← hp, kkw, hl]
  refine ⟨l1, by rw [← hq, kkw, l1], ?_, ?_⟩
  ·rw [kuv lt ly hx (by omega), hp]
  ·rw [← Int.natCast_mul, wrapU, getD0]
   have : (((p.headD 0 * v : Nat) : Int)) % 18446744073709551616 = ((p.headD 0 * v % B : Nat) : Int) := rfl
   rw [this, kuv (hp ▸ kmf _ _ _ _) ltn (Nat.mod_lt _ (by decide)) (by omega), hq]
 unfold kiy
 rw [condT (by rw [decide_eq_true_eq]; omega)]
 have fin : ∀ q : List Nat, q.length = k + 2 → ∀ r : Option (kjn ⊕ km3), r = ((cutP ts.length 1 (ts.length : Int)).bind fun p14 => (overW q (List.take p14.2 (List.drop p14.1 q))).bind fun y15 => (inI ts.length (IntKind.wrap .i64 ((k : Int) + 1))).bind fun j16 => (u64P 0).bind fun w17 => some (.inl (.p4 ns (v : Int) ones nexts xs ys (k : Int) (List.set y15 j16 w17) (k : Int) (IntKind.wrap .i64 ((i : Int) + 1))))) →
   r = some (.inl (.p4 ns (v : Int) ones nexts xs ys (k : Int) (q.tail ++ [0]) (k : Int) ((i + 1 : Nat) : Int))) := by
  intro q lq r hr
  rw [hr, hl]
  have c := kwb (len := k + 2) (lo := 1) (n := k + 1) (by omega) (by omega)
  rw [show 1 + (k + 1) = k + 2 from by omega] at c
  rw [show ((1 : Nat) : Int) = 1 from rfl] at c
  obtain ⟨z, hz⟩ := kbbm lq
  rw [c, Option.bind_some]
  dsimp only
  rw [k05 lq, hz, Option.bind_some, ko (by omega), ku (by omega), Option.bind_some, show u64P 0 = some 0 from rfl, Option.bind_some, ko (by omega)]
  have := kps q.tail z 0 [] (n := k + 1) (by simp; omega)
  rw [this, List.append_nil]
 by_cases hx : i < xs.length
 ·have hxB := lx xs[i] (List.getElem_mem _)
  obtain ⟨l1, l2, r1, r2⟩ := run xs[i] hxB _ rfl _ rfl
  rw [condT (by rw [decide_eq_true_eq]; omega), kbg hx, Option.bind_some, r1, Option.bind_some, ki (by rw [l1, hl]), Option.bind_some, show (0 : Int) = ((0 : Nat) : Int) from rfl, ku (by omega), Option.bind_some, r2, Option.bind_some, ki (by rw [l1, l2]), Option.bind_some]
  refine (fin _ l2 _ rfl).trans ?_
  unfold montR
  rw [kbd hx]
 ·obtain ⟨l1, l2, r1, r2⟩ := run 0 (by decide) _ rfl _ rfl
  rw [show ((0 : Nat) : Int) = 0 from rfl] at r1
  rw [condF (by rw [decide_eq_false_iff_not]; omega), r1, Option.bind_some, ki (by rw [l1, hl]), Option.bind_some, show (0 : Int) = ((0 : Nat) : Int) from rfl, ku (by omega), Option.bind_some, r2, Option.bind_some, ki (by rw [l1, l2]), Option.bind_some]
  refine (fin _ l2 _ rfl).trans ?_
  unfold montR
  rw [koy (show xs.length ≤ i from by omega)]
theorem kuq (hk : k ≤ 60) (ln : ns.length = k) (ltn : ∀ t ∈ ns, t < B) (tn : Trim ns) (lx : ∀ t ∈ xs, t < B) (ly : ∀ t ∈ ys, t < B) (hvB : v < B) (hv : (num B ns * v + 1) % B = 0) (ho : num B ns % 2 = 1) (hX : xs.length ≤ k) (hY : num B ys < num B ns) :
  ∀ (d i : Nat), i + d = k → ∀ ts : List Nat, (∀ t ∈ ts, t < B) → ts.length = k + 2 → num B ts < num B ys + num B ns → (∃ M, num B ts * B ^ i = num B (xs.take i) * num B ys + num B ns * M) →
   Iter kly (.p4 ns (v : Int) ones nexts xs ys (k : Int) ts (k : Int) (i : Int)) (digs B (redc (num B ns) (64 * k) (num B xs * num B ys)))
 | 0, i, hi, ts, lt, hl, hT, ⟨M, hM⟩ => by
  have hi : i = k := by omega
  subst hi
  have hN : num B ns < B ^ i := ln ▸ num_lt B1 ltn
  have h64 : B ^ i * 2 ≤ B ^ 64 := by
   calc B ^ i * 2 ≤ B ^ i * B := Nat.mul_le_mul_left _ (by decide)
    _ = B ^ (i + 1) := (Nat.pow_succ ..).symm
    _ ≤ B ^ 64 := Nat.pow_le_pow_right (by decide) (by omega)
  have rn : rt ns = true := rt_iff.2 ⟨by omega, tn⟩
  have rT : rt (digs B (num B ts)) = true := kx (by omega)
  rw [List.take_of_length_le hX] at hM
  have e64 : B ^ i = 2 ^ (64 * i) := by rw [show B = 2 ^ 64 from rfl, ← Nat.pow_mul]
  rw [e64] at hM
  refine .done ?_
  show kiy _ _ _ _ _ _ _ _ _ _ = _
  unfold kiy
  rw [condF (by rw [decide_eq_false_iff_not]; omega), knu rT rn, kg B2]
  by_cases hc : num B ts < num B ns
  ·have : cmp (num B ts) (num B ns) = -1 := by unfold cmp; rw [if_pos hc]
   rw [this, show decide ((-1 : Int) ≥ 0) = false from rfl, cond_false]
   rw [← kv2 ho hc (by rw [hM, Nat.add_mul_mod_self_left])]
  ·have : decide (cmp (num B ts) (num B ns) ≥ 0) = true := by
    unfold cmp
    rw [if_neg hc]
    split <;> rfl
   rw [this, cond_true]
   unfold subN
   rw [if_pos ⟨rT, rn⟩, kg B2, if_neg hc]
   rw [← kv2 (r := num B ts - num B ns) ho (by omega)]
   rw [Nat.sub_mul, hM, ← Nat.add_mul_mod_self_left (_ - _) (num B ns) (2 ^ (64 * i)), Nat.sub_add_cancel]
   ·rw [Nat.add_mul_mod_self_left]
   ·rw [← hM]
    exact Nat.mul_le_mul_right _ (by omega)
 | d + 1, i, hi, ts, lt, hl, hT, ⟨M, hM⟩ => by
  have hN : num B ns < B ^ k := ln ▸ num_lt B1 ltn
  have hx : xs.getD i 0 < B := by
   rcases Nat.lt_or_ge i xs.length with h | h
   ·rw [kbd h]; exact lx _ (List.getElem_mem _)
   ·rw [koy h]; decide
  obtain ⟨o1, o2, m, hm, o3⟩ := k0u (v := v) (ns := ns) (ys := ys) lt hl hx hv (by omega) hN hT
  refine .next (ky3 hk ln ltn lx ly hvB hv hY lt hl (by omega) hT) (kuq hk ln ltn tn lx ly hvB hv ho hX hY d (i + 1) (by omega) _ o2 o1 ?_ ⟨M + B ^ i * m, ?_⟩)
  ·have := kbak hT hx hm
   rwa [o3, Nat.mul_div_cancel _ (by decide)] at this
  ·rw [kx4, Nat.pow_succ]
   have := k07 hM o3
   rw [this, Nat.mul_comm (B ^ i) m, Nat.mul_comm m]
theorem kbbh (hk : k ≤ 60) (ln : ns.length = k) (ltn : ∀ t ∈ ns, t < B) (tn : Trim ns) (lx : ∀ t ∈ xs, t < B) (ly : ∀ t ∈ ys, t < B) (hvB : v < B) (hv : (num B ns * v + 1) % B = 0) (ho : num B ns % 2 = 1) (hX : xs.length ≤ k) (hY : num B ys < num B ns) :
  runP kly (.fn ns (v : Int) ones nexts xs ys) = some (digs B (redc (num B ns) (64 * k) (num B xs * num B ys))) := by
 refine ke3 (.next (s' := .p4 ns (v : Int) ones nexts xs ys (k : Int) (List.replicate (k + 2) 0) (k : Int) ((0 : Nat) : Int)) ?_ (kuq hk ln ltn tn lx ly hvB hv ho hX hY k 0 (by omega) _ ?_ (by simp) ?_ ⟨0, ?_⟩))
 ·show kqj _ _ _ _ _ _ = _
  unfold kqj
  rw [ln, show ((k : Int) + 2) = ((k + 2 : Nat) : Int) from by omega, kbx (by omega), kd4 (by omega), Option.bind_some]
  rfl
 ·intro t ht
  rw [List.eq_of_mem_replicate ht]
  decide
 ·have : num B (List.replicate (k + 2) 0) = 0 := by have := kf2 B [] (k + 2); simpa [num] using this
  rw [this]
  omega
 ·have : num B (List.replicate (k + 2) 0) = 0 := by have := kf2 B [] (k + 2); simpa [num] using this
  simp [this, num]
end
end Go.Ab

/- squeezed -/
set_option linter.unusedVariables false
set_option linter.unusedSimpArgs false
set_option maxRecDepth 10000
namespace Go.Ab
open Go.Proofs Go.Num
theorem Bl.det {x m n : Nat} (a : Bl x m) (b : Bl x n) : m = n := Nat.le_antisymm (a.le b.1) (b.le a.1)
theorem k2r {a : Int} {h : AH} (c : 0 ≤ a ∧ a < 18446744073709551616) : go (.fn F.kh0 [.int .u64 a]) h = some (.int .i64 ((bl (Int.toNat a) : Nat) : Int), h) := by
 obtain ⟨x, rfl⟩ : ∃ x : Nat, a = (x : Int) := ⟨a.toNat, by omega⟩
 obtain ⟨n, e, b⟩ := kse (x := x) (by omega) (h := h)
 rw [e, Int.toNat_natCast, b.det (bl_Bl x)]
inductive kib
 | fn (x1 : List Nat)
 | no
abbrev kfi := Int
noncomputable def kjq (x1 : List Nat) : Option (kib ⊕ kfi) :=
 cond (!(rt x1)) (some (.inr 0)) (cond (decide ((List.length x1 : Int) = 0)) (some (.inr 0)) ((atI x1 (IntKind.wrap .i64 ((List.length x1 : Int) - 1))).bind fun y5 => (need (0 ≤ ((y5 : Int)) ∧ ((y5 : Int)) < 18446744073709551616)).bind fun c6_0 => some (.inr (IntKind.wrap .i64 ((IntKind.wrap .i64 (64 * (IntKind.wrap .i64 ((List.length x1 : Int) - 1)))) + (((bl (Int.toNat ((y5 : Int))) : Nat) : Int)))))))
noncomputable def kon : kib → Option (kib ⊕ kfi)
 | .fn x1 => kjq x1
 | .no => none
@[reducible] def kow (h0 : AH) (r : kfi) (v : AV) (h' : AH) : Prop := v = .int .i64 r ∧ Grow h0 h'
def kq9 (r : kfi) : kib → Prop
 | .fn x1 => ∀ {h : AH} {a1 : Sl}, Nats h a1 x1 → Runs (go (.fn F.kjs [a1.v]) h) (kow h r)
 | .no => True
theorem k78 {r : kfi} {o : kib ⊕ kfi} {x1 : List Nat} (e : kjq x1 = some o) (good : GoodS (kq9 r) r o) : kq9 r (.fn x1) := by
 intro h a1 n1
 rw [k01]
 unfold kjq at e
 rw [n1.len]
 refine Runs.step (kdg n1) ?_
 refine Runs.step (seen rfl) ?_
 refine Runs.cond (fun k3 => ?_) (fun k3 => ?_)
 ·replace e := (condT k3).symm.trans e
  cases e
  cases good
  exact Runs.ret ⟨rfl, (Grow.refl _)⟩
 ·replace e := (condF k3).symm.trans e
  refine Runs.cond (fun k4 => ?_) (fun k4 => ?_)
  ·replace e := (condT k4).symm.trans e
   cases e
   cases good
   exact Runs.ret ⟨rfl, (Grow.refl _)⟩
  ·replace e := (condF k4).symm.trans e
   obtain ⟨y5, q5, e⟩ := Option.bind_eq_some_iff.1 e
   obtain ⟨r5, j5, l5⟩ := n1.atI q5
   refine Runs.step j5 ?_
   refine Runs.step (rdc l5 (kb _ _)) ?_
   obtain ⟨c6_0, q6_0, e⟩ := Option.bind_eq_some_iff.1 e
   refine Runs.step (k2r  c6_0.down) ?_
   refine Runs.step (seen (kb _ _)) ?_
   cases e
   cases good
   exact Runs.ret ⟨rfl, (Grow.refl _)⟩
theorem kbcr {s : kib} {r : kfi} (it : Iter kon s r) : kq9 r s := Iter.ind (fun s o e good => by
 cases s with
 | fn x1 => exact @k78 _ _ x1 e good
 | no => exact True.intro
 ) it
theorem k1q {h : AH} {a1 : Sl} {x1 : List Nat} (n1 : Nats h a1 x1) {r : kfi} (q : runP kon (.fn x1) = some r) : Runs (go (.fn F.kjs [a1.v]) h) (kow h r) := kbcr (kh4 q) n1
inductive khq
 | fn (x1 : List Nat) (a2 : Int)
 | no
abbrev kfa := Bool
noncomputable def kjm (x1 : List Nat) (a2 : Int) : Option (khq ⊕ kfa) :=
 cond ((rt x1)) (cond (decide (a2 ≥ 0)) (cond (decide ((IntKind.wrap .i64 (Int.tdiv a2 64)) < (List.length x1 : Int))) ((atI x1 (IntKind.wrap .i64 (Int.tdiv a2 64))).bind fun y7 => cond (decide ((Int.tmod a2 64) < 0)) (none) (some (.inr (decide ((iand .u64 (ishr .u64 ((y7 : Int)) (Int.tmod a2 64)) 1) = 1))))) (some (.inr false))) (some (.inr false))) (some (.inr false))
noncomputable def kpu : khq → Option (khq ⊕ kfa)
 | .fn x1 a2 => kjm x1 a2
 | .no => none
@[reducible] def krg (h0 : AH) (r : kfa) (v : AV) (h' : AH) : Prop := v = .bool r ∧ Grow h0 h'
def kq2 (r : kfa) : khq → Prop
 | .fn x1 a2 => ∀ {h : AH} {a1 : Sl}, Nats h a1 x1 → Runs (go (.fn F.kkq [a1.v, .int .i64 a2]) h) (krg h r)
 | .no => True
theorem k2t {r : kfa} {o : khq ⊕ kfa} {x1 : List Nat} {a2 : Int} (e : kjm x1 a2 = some o) (good : GoodS (kq2 r) r o) : kq2 r (.fn x1 a2) := by
 intro h a1 n1
 rw [kzx]
 unfold kjm at e
 rw [n1.len]
 refine Runs.step (kdg n1) ?_
 refine Runs.step (seen rfl) ?_
 refine Runs.cond (fun k4 => ?_) (fun k4 => ?_)
 ·replace e := (condT k4).symm.trans e
  refine Runs.cond (fun k5 => ?_) (fun k5 => ?_)
  ·replace e := (condT k5).symm.trans e
   refine Runs.cond (fun k6 => ?_) (fun k6 => ?_)
   ·replace e := (condT k6).symm.trans e
    obtain ⟨y7, q7, e⟩ := Option.bind_eq_some_iff.1 e
    obtain ⟨r7, j7, l7⟩ := n1.atI q7
    refine Runs.step j7 ?_
    refine Runs.step (rdc l7 (kb _ _)) ?_
    refine Runs.cond (fun k8 => ?_) (fun k8 => ?_)
    ·replace e := (condT k8).symm.trans e
     cases e
    ·replace e := (condF k8).symm.trans e
     cases e
     cases good
     exact Runs.ret ⟨rfl, (Grow.refl _)⟩
   ·replace e := (condF k6).symm.trans e
    cases e
    cases good
    exact Runs.ret ⟨rfl, (Grow.refl _)⟩
  ·replace e := (condF k5).symm.trans e
   cases e
   cases good
   exact Runs.ret ⟨rfl, (Grow.refl _)⟩
 ·replace e := (condF k4).symm.trans e
  cases e
  cases good
  exact Runs.ret ⟨rfl, (Grow.refl _)⟩
theorem k1k {s : khq} {r : kfa} (it : Iter kpu s r) : kq2 r s := Iter.ind (fun s o e good => by
 cases s with
 | fn x1 a2 => exact @k2t _ _ x1 a2 e good
 | no => exact True.intro
 ) it
theorem k1h {h : AH} {a1 : Sl} {x1 : List Nat} {a2 : Int} (n1 : Nats h a1 x1) {r : kfa} (q : runP kpu (.fn x1 a2) = some r) : Runs (go (.fn F.kkq [a1.v, .int .i64 a2]) h) (krg h r) := k1k (kh4 q) n1
inductive kfv
 | fn (x1 : List Nat)
 | p6 (x1 : List Nat) (a2 : Int) (a3 : Int)
abbrev kdn := Int
noncomputable def ke9 (x1 : List Nat) : Option (kfv ⊕ kdn) :=
 cond (!(rt x1)) (some (.inr 0)) (cond (decide ((List.length x1 : Int) = 0)) (some (.inr 0)) ((atI x1 (IntKind.wrap .i64 ((List.length x1 : Int) - 1))).bind fun y5 => some (.inl (.p6 x1 0 ((y5 : Int))))))
noncomputable def khg (x1 : List Nat) (a2 : Int) (a3 : Int) : Option (kfv ⊕ kdn) :=
 cond (decide (a3 > 0)) (some (.inl (.p6 x1 (IntKind.wrap .i64 (a2 + 1)) (IntKind.wrap .u64 (Int.tdiv a3 2))))) (some (.inr (IntKind.wrap .i64 (a2 + (IntKind.wrap .i64 (64 * (IntKind.wrap .i64 ((List.length x1 : Int) - 1))))))))
noncomputable def klm : kfv → Option (kfv ⊕ kdn)
 | .fn x1 => ke9 x1
 | .p6 x1 a2 a3 => khg x1 a2 a3
@[reducible] def kli (h0 : AH) (r : kdn) (v : AV) (h' : AH) : Prop := v = .int .i64 r ∧ Grow h0 h'
def kku (r : kdn) : kfv → Prop
 | .fn x1 => ∀ {h : AH} {a1 : Sl}, Nats h a1 x1 → Runs (go (.fn F.keq [a1.v]) h) (kli h r)
 | .p6 x1 a2 a3 => ∀ {h0 h : AH} {a1 : Sl}, Grow h0 h → Nats h a1 x1 → Runs (go (.pt F.keq Td.km9 [(0, a1.v), (4, .int .i64 a2), (5, .int .u64 a3)]) h) (kli h0 r)
theorem k0w {r : kdn} {o : kfv ⊕ kdn} {x1 : List Nat} (e : ke9 x1 = some o) (good : GoodS (kku r) r o) : kku r (.fn x1) := by
 intro h a1 n1
 rw [kba4]
 unfold ke9 at e
 rw [n1.len]
 refine Runs.step (kbr n1) ?_
 refine Runs.step (seen rfl) ?_
 refine Runs.cond (fun k3 => ?_) (fun k3 => ?_)
 ·replace e := (condT k3).symm.trans e
  cases e
  cases good
  exact Runs.ret ⟨rfl, (Grow.refl _)⟩
 ·replace e := (condF k3).symm.trans e
  refine Runs.cond (fun k4 => ?_) (fun k4 => ?_)
  ·replace e := (condT k4).symm.trans e
   cases e
   cases good
   exact Runs.ret ⟨rfl, (Grow.refl _)⟩
  ·replace e := (condF k4).symm.trans e
   obtain ⟨y5, q5, e⟩ := Option.bind_eq_some_iff.1 e
   obtain ⟨r5, j5, l5⟩ := n1.atI q5
   refine Runs.step j5 ?_
   refine Runs.step (rdc l5 (kb _ _)) ?_
   cases e
   exact good (Grow.refl _) n1
theorem kyd {r : kdn} {o : kfv ⊕ kdn} {x1 : List Nat} {a2 : Int} {a3 : Int} (e : khg x1 a2 a3 = some o) (good : GoodS (kku r) r o) : kku r (.p6 x1 a2 a3) := by
 intro h0 h a1 g0 n1
 rw [k4j]
 unfold khg at e
 rw [n1.len]
 refine Runs.cond (fun k4 => ?_) (fun k4 => ?_)
 ·replace e := (condT k4).symm.trans e
  cases e
  exact good g0 n1
 ·replace e := (condF k4).symm.trans e
  cases e
  cases good
  exact Runs.ret ⟨rfl, g0⟩
theorem kbbc {s : kfv} {r : kdn} (it : Iter klm s r) : kku r s := Iter.ind (fun s o e good => by
 cases s with
 | fn x1 => exact @k0w _ _ x1 e good
 | p6 x1 a2 a3 => exact @kyd _ _ x1 a2 a3 e good
 ) it
theorem k4w {h : AH} {a1 : Sl} {x1 : List Nat} (n1 : Nats h a1 x1) {r : kdn} (q : runP klm (.fn x1) = some r) : Runs (go (.fn F.keq [a1.v]) h) (kli h r) := kbbc (kh4 q) n1
end Go.Ab

/- squeezed -/
set_option linter.unusedVariables false
set_option linter.unusedSimpArgs false
set_option maxRecDepth 10000
namespace Go.Ab
open Go.Proofs Go.Num
def bitsN (xs : List Nat) : Nat := if rt xs = true then bl (num B xs) else 0
def bitN (xs : List Nat) (i : Int) : Bool := rt xs && (decide (0 ≤ i) && (num B xs).testBit i.toNat)
theorem kqb {xs : List Nat} (l : ∀ x ∈ xs, x < B) : ∀ i : Nat, num B xs / B ^ i = num B (xs.drop i)
 | 0 => by simp
 | i + 1 => by
  rw [Nat.pow_succ, Nat.mul_comm, ← Nat.div_div_eq_div_mul, kpq B xs]
  have h : xs.headD 0 < B := by
   cases xs with
   | nil => decide
   | cons x xs => exact l x (by simp)
  rw [Nat.add_mul_div_left _ _ (show 0 < B by decide), Nat.div_eq_of_lt h, Nat.zero_add, kqb (xs := xs.tail) (fun x hx => l x (List.mem_of_mem_tail hx)) i]
  rw [← List.drop_one, List.drop_drop, Nat.add_comm]
theorem B_pow2 (i : Nat) : B ^ i = 2 ^ (64 * i) := by rw [show B = 2 ^ 64 from rfl, ← Nat.pow_mul]
theorem bl_num {xs : List Nat} (l : ∀ x ∈ xs, x < B) (h : xs.length ≠ 0) (h0 : xs[xs.length - 1] ≠ 0) : bl (num B xs) = 64 * (xs.length - 1) + bl xs[xs.length - 1] := by
 have hd := kqb l (xs.length - 1)
 rw [List.drop_eq_getElem_cons (by omega), show xs.length - 1 + 1 = xs.length from by omega, List.drop_length, B_pow2] at hd
 have e : num B xs / 2 ^ (64 * (xs.length - 1)) = xs[xs.length - 1] := by rw [hd]; simp [num]
 refine (bl_Bl _).det (Bl.up (n := bl xs[xs.length - 1]) ?_ ?_)
 ·rw [e]; exact bl_Bl _
 ·rw [e]; omega
theorem bl_le {x m : Nat} (h : x < 2 ^ m) : bl x ≤ m := (bl_Bl x).le h
theorem kw9 {xs : List Nat} (h : rt xs = true) (hl : xs.length ≠ 0) : xs[xs.length - 1] ≠ 0 := by
 have t := (rt_iff.1 h).2 (fun e => hl (by rw [e]; rfl))
 rwa [List.getLast_eq_getElem] at t
theorem k8f {xs : List Nat} (l : ∀ x ∈ xs, x < B) : runP kon (.fn xs) = some ((bitsN xs : Nat) : Int) := by
 refine ke3 (.done ?_)
 show kjq _ = _
 unfold kjq bitsN
 by_cases hr : rt xs = true
 ·rw [hr, if_pos rfl, show (!true) = false from rfl, cond_false]
  have h64 := (rt_iff.1 hr).1
  by_cases hl : xs.length = 0
  ·rw [condT (by rw [decide_eq_true_eq]; omega), List.length_eq_zero_iff.1 hl]
   rfl
  ·have hb := l xs[xs.length - 1] (List.getElem_mem _)
   have hb' : xs[xs.length - 1] < 18446744073709551616 := hb
   have hbl := bl_le (x := xs[xs.length - 1]) (m := 64) hb
   rw [condF (by rw [decide_eq_false_iff_not]; omega), show ((xs.length : Int) - 1) = ((xs.length - 1 : Nat) : Int) from by omega, kbx (by omega), kbg (by omega), Option.bind_some]
   have hn : 0 ≤ ((xs[xs.length - 1] : Nat) : Int) ∧ ((xs[xs.length - 1] : Nat) : Int) < 18446744073709551616 := by omega
   simp only [ki hn, Option.bind_some]
   rw [Int.toNat_natCast, bl_num l hl (kw9 hr hl), show (64 * ((xs.length - 1 : Nat) : Int)) = ((64 * (xs.length - 1) : Nat) : Int) from by omega, kbx (by omega), ← Int.natCast_add, kbx (by omega)]
 ·rw [if_neg hr, show rt xs = false from by simpa using hr]
  rfl
theorem kx7 {h : AH} {s : Sl} {xs : List Nat} (n : Nats h s xs) : Runs (go (.fn F.kjs [s.v]) h) (kow h (bitsN xs)) := k1q n (k8f n.lt)
theorem k1t : bl 0 = 0 := rfl
theorem kyt {x : Nat} (h : 0 < x) : bl x = bl (x / 2) + 1 := by
 by_cases h2 : x / 2 = 0
 ·have : x = 1 := by omega
  subst this
  decide
 ·have := Bl.up (x := x) (k := 1) (n := bl (x / 2)) (by rw [Nat.pow_one]; exact bl_Bl _) (by rw [Nat.pow_one]; omega)
  rw [(bl_Bl x).det this]
  omega
theorem tdiv2 (n : Nat) : Int.tdiv (n : Int) 2 = ((n / 2 : Nat) : Int) := rfl
theorem kbbi {n : Nat} (h : n < 18446744073709551616) : IntKind.wrap .u64 (n : Int) = (n : Int) := by rw [wrapU]; omega
theorem kbcq {xs : List Nat} (hl : xs.length ≤ 64) (h0 : xs.length ≠ 0) : ∀ (x c : Nat), x < 18446744073709551616 → c + bl x ≤ 64 →
  Iter klm (.p6 xs (c : Int) (x : Int)) ((64 * (xs.length - 1) + (c + bl x) : Nat) : Int) := by
 intro x
 induction x using Nat.strongRecOn with
 | ind x ih =>
  intro c hx hc
  by_cases h : x = 0
  ·subst h
   refine .done ?_
   show khg _ _ _ = _
   unfold khg
   rw [condF (by simp), k1t, Nat.add_zero, show ((xs.length : Int) - 1) = ((xs.length - 1 : Nat) : Int) from by omega, kbx (by omega), show (64 * ((xs.length - 1 : Nat) : Int)) = ((64 * (xs.length - 1) : Nat) : Int) from by omega, kbx (by omega), ← Int.natCast_add, kbx (by omega), Nat.add_comm]
  ·have hb := kyt (x := x) (by omega)
   refine .next (s' := .p6 xs ((c + 1 : Nat) : Int) ((x / 2 : Nat) : Int)) ?_ ?_
   ·show khg _ _ _ = _
    unfold khg
    rw [condT (by rw [decide_eq_true_eq]; omega), ko (by omega), tdiv2, kbbi (by omega)]
   ·have := ih (x / 2) (by omega) (c + 1) (by omega) (by omega)
    rwa [show c + 1 + bl (x / 2) = c + bl x from by omega] at this
theorem kza {xs : List Nat} (l : ∀ x ∈ xs, x < B) : runP klm (.fn xs) = some ((bitsN xs : Nat) : Int) := by
 refine ke3 ?_
 unfold bitsN
 by_cases hr : rt xs = true
 ·have h64 := (rt_iff.1 hr).1
  by_cases hl : xs.length = 0
  ·refine .done ?_
   show ke9 _ = _
   unfold ke9
   rw [hr, if_pos rfl, show (!true) = false from rfl, cond_false, condT (by rw [decide_eq_true_eq]; omega), List.length_eq_zero_iff.1 hl]
   rfl
  ·have hb := l xs[xs.length - 1] (List.getElem_mem _)
   have hb' : xs[xs.length - 1] < 18446744073709551616 := hb
   have hbl := bl_le (x := xs[xs.length - 1]) (m := 64) hb
   have := kbcq h64 hl xs[xs.length - 1] 0 hb (by omega)
   rw [Nat.zero_add] at this
   rw [if_pos hr, bl_num l hl (kw9 hr hl)]
   refine .next ?_ this
   show ke9 _ = _
   unfold ke9
   rw [hr, show (!true) = false from rfl, cond_false, condF (by rw [decide_eq_false_iff_not]; omega), show ((xs.length : Int) - 1) = ((xs.length - 1 : Nat) : Int) from by omega, kbx (by omega), kbg (by omega), Option.bind_some]
   rfl
 ·refine .done ?_
  show ke9 _ = _
  unfold ke9
  rw [if_neg hr, show rt xs = false from by simpa using hr]
  rfl
theorem kbay {h : AH} {s : Sl} {xs : List Nat} (n : Nats h s xs) : Runs (go (.fn F.keq [s.v]) h) (kli h (bitsN xs)) := k4w n (kza n.lt)
theorem k0f {x : Nat} (hx : x < 18446744073709551616) : iand .u64 (x : Int) 1 = ((x % 2 : Nat) : Int) := by
 unfold iand
 rw [show IntKind.bits .u64 = 64 from rfl, wrapU]
 have e1 : BitVec.ofInt 64 (x : Int) = BitVec.ofNat 64 x := rfl
 have e2 : BitVec.ofInt 64 1 = BitVec.ofNat 64 1 := rfl
 rw [e1, e2, BitVec.toNat_and, BitVec.toNat_ofNat, BitVec.toNat_ofNat]
 rw [Nat.mod_eq_of_lt (show x < 2 ^ 64 from hx), Nat.mod_eq_of_lt (show 1 < 2 ^ 64 from by decide), Nat.and_one_is_mod]
 omega
theorem kt6 {xs : List Nat} (l : ∀ x ∈ xs, x < B) {q r : Nat} (hq : q < xs.length) (hr : r < 64) : (num B xs).testBit (64 * q + r) = decide (xs[q] / 2 ^ r % 2 = 1) := by
 rw [Nat.testBit_eq_decide_div_mod_eq, Nat.pow_add, ← Nat.div_div_eq_div_mul, ← B_pow2, kqb l, List.drop_eq_getElem_cons hq, kme]
 generalize num B (xs.drop (q + 1)) = Y
 congr 2
 have e : B = 2 ^ r * (2 ^ (63 - r) * 2) := by
  rw [← Nat.pow_succ, ← Nat.pow_add, show r + (63 - r).succ = 64 from by omega]
 have e2 : xs[q] + B * Y = xs[q] + 2 ^ r * (2 ^ (63 - r) * 2 * Y) := by rw [← Nat.mul_assoc, ← e]
 rw [e2, Nat.add_mul_div_left _ _ (Nat.pow_pos (by decide)), show 2 ^ (63 - r) * 2 * Y = 2 * (2 ^ (63 - r) * Y) from by rw [Nat.mul_comm (2 ^ (63 - r)) 2, Nat.mul_assoc], Nat.add_mul_mod_self_left]
theorem kym {xs : List Nat} (l : ∀ x ∈ xs, x < B) {i : Nat} (hq : xs.length ≤ i / 64) : (num B xs).testBit i = false := by
 refine Nat.testBit_lt_two_pow ?_
 have h1 := num_lt B1 l
 rw [B_pow2] at h1
 have h2 : 2 ^ (64 * xs.length) ≤ 2 ^ i := Nat.pow_le_pow_right (by decide) (by omega)
 omega
theorem tdiv64 (n : Nat) : Int.tdiv (n : Int) 64 = ((n / 64 : Nat) : Int) := rfl
theorem tmod64 (n : Nat) : Int.tmod (n : Int) 64 = ((n % 64 : Nat) : Int) := rfl
theorem tmod2 (n : Nat) : Int.tmod (n : Int) 2 = ((n % 2 : Nat) : Int) := rfl
theorem kbax {xs : List Nat} {i : Int} (h : rt xs = false) : bitN xs i = false := by unfold bitN; rw [h]; rfl
theorem k90 {xs : List Nat} {i : Int} (h : i < 0) : bitN xs i = false := by unfold bitN; rw [show decide (0 ≤ i) = false from by rw [decide_eq_false_iff_not]; omega]; cases rt xs <;> rfl
theorem kou {xs : List Nat} {i : Nat} (h : rt xs = true) : bitN xs (i : Int) = (num B xs).testBit i := by unfold bitN; rw [h, show decide (0 ≤ (i : Int)) = true from by rw [decide_eq_true_eq]; omega]; rfl
theorem k1b {xs : List Nat} (l : ∀ x ∈ xs, x < B) {i : Int} (hi : i ≤ 9223372036854775807) : runP kpu (.fn xs i) = some (bitN xs i) := by
 refine ke3 (.done ?_)
 show kjm _ _ = _
 unfold kjm
 by_cases hr : rt xs = true
 ·rw [hr, cond_true]
  by_cases h0 : i < 0
  ·rw [condF (by rw [decide_eq_false_iff_not]; omega), k90 h0]
  ·obtain ⟨j, rfl⟩ : ∃ j : Nat, i = (j : Int) := ⟨i.toNat, by omega⟩
   rw [condT (by rw [decide_eq_true_eq]; omega), kou hr, tdiv64, tmod64, kbx (by omega)]
   by_cases hq : j / 64 < xs.length
   ·have hb : xs[j / 64] < 18446744073709551616 := l _ (List.getElem_mem _)
    have h2 : xs[j / 64] / 2 ^ (j % 64) < 18446744073709551616 := Nat.lt_of_le_of_lt (Nat.div_le_self _ _) hb
    rw [condT (by rw [decide_eq_true_eq]; omega), kbg hq, Option.bind_some, condF (by rw [decide_eq_false_iff_not]; omega), kby, Nat.min_eq_left (by omega), k0f h2]
    have := kt6 l hq (Nat.mod_lt j (show 0 < 64 by decide))
    rw [Nat.div_add_mod] at this
    rw [this]
    generalize xs[j / 64] / 2 ^ (j % 64) = z
    congr 3
    exact propext (by omega)
   ·rw [condF (by rw [decide_eq_false_iff_not]; omega), kym l (by omega)]
 ·rw [show rt xs = false from by simpa using hr, cond_false, kbax (by simpa using hr)]
theorem kzm {h : AH} {s : Sl} {xs : List Nat} (n : Nats h s xs) {i : Int} (hi : i ≤ 9223372036854775807) : Runs (go (.fn F.kkq [s.v, .int .i64 i]) h) (krg h (bitN xs i)) := k1h n (k1b n.lt hi)
end Go.Ab

/- squeezed -/
set_option linter.unusedVariables false
set_option linter.unusedSimpArgs false
set_option maxRecDepth 10000
namespace Go.Ab
open Go.Proofs Go.Num
end Go.Ab

/- squeezed -/
set_option linter.unusedVariables false
set_option linter.unusedSimpArgs false
set_option maxRecDepth 10000
namespace Go.Ab
open Go.Proofs Go.Num
end Go.Ab

/- squeezed -/
set_option linter.unusedVariables false
set_option linter.unusedSimpArgs false
set_option maxRecDepth 10000
namespace Go.Ab
open Go.Proofs Go.Num
structure RingOk (N k v : Nat) : Prop where
 hk : k ≤ 60
 lt : N < B ^ k
 one : 1 < N
 odd : N % 2 = 1
 hv : v < B
 inv : (N * v + 1) % B = 0
 len : (digs B N).length = k
def form (N k u : Nat) : List Nat := digs B (u * 2 ^ (64 * k) % N)
section
variable {N k v : Nat} {ones nexts : List Nat}
theorem RingOk.prod (r : RingOk N k v) {X Y : Nat} (hX : X < N) (hY : Y < N) : runP kly (.fn (digs B N) (v : Int) ones nexts (digs B X) (digs B Y)) = some (digs B (redc N (64 * k) (X * Y))) := by
 have := kbbh (ns := digs B N) (xs := digs B X) (ys := digs B Y) (ones := ones) (nexts := nexts) r.hk r.len (kv B2 N) (kb1 B2 N) (kv B2 X) (kv B2 Y) r.hv
  (by rw [kg B2]; exact r.inv) (by rw [kg B2]; exact r.odd) ((kq B2 X k).2 (Nat.lt_trans hX r.lt)) (by rw [kg B2, kg B2]; exact hY)
 simpa only [kg B2] using this
theorem RingOk.out (r : RingOk N k v) (x : Nat) : runP kly (.fn (digs B N) (v : Int) ones nexts (form N k x) [1]) = some (digs B (x % N)) := by
 have hN : 0 < N := by have := r.one; omega
 have h1 : ([1] : List Nat) = digs B 1 := by rw [kd1 B2 (by decide), show 1 / B = 0 from rfl, kbh]; rfl
 unfold form
 rw [h1, r.prod (Nat.mod_lt _ hN) r.one, k36 r.odd]
end
end Go.Ab

/- squeezed -/
set_option linter.unusedVariables false
set_option linter.unusedSimpArgs false
set_option maxRecDepth 10000
namespace Go.Ab
open Go.Proofs Go.Num
end Go.Ab

/- squeezed -/
set_option linter.unusedVariables false
set_option linter.unusedSimpArgs false
set_option maxRecDepth 10000
namespace Go.Ab
open Go.Proofs Go.Num
end Go.Ab

/- squeezed -/
set_option linter.unusedVariables false
set_option linter.unusedSimpArgs false
set_option maxRecDepth 10000
namespace Go.Ab
open Go.Proofs Go.Num
def kbo (x1 : List Nat) : List Nat :=
 (mulN x1 x1).1
theorem k8a {h : AH} {a1 : Sl} {x1 : List Nat} (n1 : Nats h a1 x1)  : Runs (go (.fn F.kpa [a1.v]) h) fun v h' => ∃ s1 : Sl, v = s1.v ∧ Nats h' s1 (kbo x1) ∧ Grow h h' ∧ Own h s1 := by
 rw [k43]
 obtain ⟨s2, H2, e2, n2, g2, o2⟩ := kju n1 n1
 refine Runs.step e2 ?_
 refine Runs.step rfl ?_
 refine Runs.step (seen (asSl_v _)) ?_
 refine Runs.step (seen (kb _ _)) ?_
 have z : kbo x1 = (mulN x1 x1).1 := by unfold kbo; exact rfl
 rw [z]
 exact Runs.ret ⟨s2, rfl, n2, g2, (o2.of_le (Grow.refl _))⟩
def kbu (x1 : List Nat) : Bool :=
 cond ((rt x1)) (cond (((bitN x1 0))) (cond (decide ((((bitsN x1 : Nat) : Int)) ≥ 15)) (decide ((((bitsN x1 : Nat) : Int)) ≤ 80)) (false)) (false)) (false)
theorem ksg {h : AH} {a1 : Sl} {x1 : List Nat} (n1 : Nats h a1 x1)  : Runs (go (.fn F.kl0 [a1.v]) h) fun v h' => v = .bool (kbu x1) ∧ Grow h h' := by
 rw [kbco]
 obtain ⟨_, H2, e2, rfl, g2⟩ := kx7 n1
 refine Runs.step e2 ?_
 refine Runs.step (seen (kb _ _)) ?_
 refine Runs.step (kdg (n1.grow g2)) ?_
 refine Runs.step (seen rfl) ?_
 refine Runs.cond (fun k4 => ?_) (fun k4 => ?_)
 ·obtain ⟨_, H5, e5, rfl, g5⟩ := kzm (n1.grow g2) (i := 0) (by decide)
  refine Runs.step e5 ?_
  refine Runs.step (seen rfl) ?_
  refine Runs.cond (fun k6 => ?_) (fun k6 => ?_)
  ·refine Runs.cond (fun k7 => ?_) (fun k7 => ?_)
   ·have z : kbu x1 = decide ((((bitsN x1 : Nat) : Int)) ≤ 80) := by unfold kbu; exact (condT k4).trans ((condT k6).trans ((condT k7).trans rfl))
    rw [z]
    exact Runs.ret ⟨rfl, (g2.trans g5)⟩
   ·have z : kbu x1 = false := by unfold kbu; exact (condT k4).trans ((condT k6).trans ((condF k7).trans rfl))
    rw [z]
    exact Runs.ret ⟨rfl, (g2.trans g5)⟩
  ·have z : kbu x1 = false := by unfold kbu; exact (condT k4).trans ((condF k6).trans rfl)
   rw [z]
   exact Runs.ret ⟨rfl, (g2.trans g5)⟩
 ·have z : kbu x1 = false := by unfold kbu; exact (condF k4).trans rfl
  rw [z]
  exact Runs.ret ⟨rfl, g2⟩
def kbv (x1 : List Nat) (x2 : List Nat) (x3 : List Nat) : Bool :=
 cond (!(rt x1)) (false) (cond (decide ((List.length x1 : Int) = 0)) (false) (cond (decide ((cmpN x1 x3) ≥ 0)) (false) (decide ((cmpN ((gcdN x1 x2).1) [1]) = 0))))
theorem k2v {h : AH} {a1 : Sl} {x1 : List Nat} {a2 : Sl} {x2 : List Nat} {a3 : Sl} {x3 : List Nat} (n1 : Nats h a1 x1) (n2 : Nats h a2 x2) (n3 : Nats h a3 x3)  : Runs (go (.fn F.krd [a1.v, a2.v, a3.v]) h) fun v h' => v = .bool (kbv x1 x2 x3) ∧ Grow h h' := by
 rw [k88]
 rw [n1.len]
 refine Runs.step (kdg n1) ?_
 refine Runs.step (seen rfl) ?_
 refine Runs.cond (fun k5 => ?_) (fun k5 => ?_)
 ·have z : kbv x1 x2 x3 = false := by unfold kbv; exact (condT k5).trans rfl
  rw [z]
  exact Runs.ret ⟨rfl, (Grow.refl _)⟩
 ·refine Runs.cond (fun k6 => ?_) (fun k6 => ?_)
  ·have z : kbv x1 x2 x3 = false := by unfold kbv; exact (condF k5).trans ((condT k6).trans rfl)
   rw [z]
   exact Runs.ret ⟨rfl, (Grow.refl _)⟩
  ·obtain ⟨H7, e7, g7⟩ := kjo n1 n3
   refine Runs.step e7 ?_
   refine Runs.step (seen (kb _ _)) ?_
   refine Runs.cond (fun k8 => ?_) (fun k8 => ?_)
   ·have z : kbv x1 x2 x3 = false := by unfold kbv; exact (condF k5).trans ((condF k6).trans ((condT k8).trans rfl))
    rw [z]
    exact Runs.ret ⟨rfl, g7⟩
   ·obtain ⟨_, H9, e9, s9, rfl, n9, g9, o9⟩ := k7y (n1.grow g7) (n2.grow g7)
    refine Runs.step e9 ?_
    refine Runs.step rfl ?_
    refine Runs.step (seen (asSl_v _)) ?_
    refine Runs.step (seen (kb _ _)) ?_
    refine Runs.new fun H10 b10 g10 => ?_
    obtain ⟨H11, e11, g11⟩ := kjo (n9.grow g10) (Nats.of_has (xs := [1]) b10 (by decide) (by decide))
    refine Runs.step e11 ?_
    refine Runs.step (seen (kb _ _)) ?_
    have z : kbv x1 x2 x3 = decide ((cmpN ((gcdN x1 x2).1) [1]) = 0) := by unfold kbv; exact (condF k5).trans ((condF k6).trans ((condF k8).trans rfl))
    rw [z]
    have G12 := (((g7.trans g9).trans g10).trans g11)
    exact Runs.ret ⟨rfl, G12⟩
def kdi (x1 : List Nat) (x2 : List Nat) : Bool :=
 cond (((kbu x1))) (((kbv x2 x1 (kbo x1)))) (false)
theorem kt7 {h : AH} {a1 : Sl} {x1 : List Nat} {a2 : Sl} {x2 : List Nat} (n1 : Nats h a1 x1) (n2 : Nats h a2 x2)  : Runs (go (.fn F.kl9 [a1.v, a2.v]) h) fun v h' => v = .bool (kdi x1 x2) ∧ Grow h h' := by
 rw [k4m]
 obtain ⟨_, H3, e3, rfl, g3⟩ := ksg n1
 refine Runs.step e3 ?_
 refine Runs.step (seen rfl) ?_
 refine Runs.cond (fun k4 => ?_) (fun k4 => ?_)
 ·obtain ⟨_, H5, e5, s5, rfl, n5, g5, o5⟩ := k8a (n1.grow g3)
  refine Runs.step e5 ?_
  refine Runs.step (seen (asSl_v _)) ?_
  obtain ⟨_, H6, e6, rfl, g6⟩ := k2v (n2.grow (g3.trans g5)) (n1.grow (g3.trans g5)) n5
  refine Runs.step e6 ?_
  refine Runs.step (seen rfl) ?_
  have z : kdi x1 x2 = ((kbv x2 x1 (kbo x1))) := by unfold kdi; exact (condT k4).trans rfl
  rw [z]
  have G7 := ((g3.trans g5).trans g6)
  exact Runs.ret ⟨rfl, G7⟩
 ·have z : kdi x1 x2 = false := by unfold kdi; exact (condF k4).trans rfl
  rw [z]
  exact Runs.ret ⟨rfl, g3⟩
def kl2 (x1 : List Nat) : List Nat :=
 (mulN x1 x1).1
theorem kba0 {h : AH} {a1 : Sl} {x1 : List Nat} (n1 : Nats h a1 x1)  : Runs (go (.fn F.kji [a1.v]) h) fun v h' => ∃ s1 : Sl, v = s1.v ∧ Nats h' s1 (kl2 x1) ∧ Grow h h' ∧ Own h s1 := by
 rw [k6n]
 obtain ⟨s2, H2, e2, n2, g2, o2⟩ := ko4 n1 n1
 refine Runs.step e2 ?_
 refine Runs.step rfl ?_
 refine Runs.step (seen (asSl_v _)) ?_
 refine Runs.step (seen (kb _ _)) ?_
 have z : kl2 x1 = (mulN x1 x1).1 := by unfold kl2; exact rfl
 rw [z]
 exact Runs.ret ⟨s2, rfl, n2, g2, (o2.of_le (Grow.refl _))⟩
def kd0 (x1 : List Nat) (x2 : List Nat) (x3 : List Nat) : Bool :=
 cond (!(rt x1)) (false) (cond (decide ((List.length x1 : Int) = 0)) (false) (cond (decide ((cmpN x1 x3) ≥ 0)) (false) (decide ((cmpN ((gcdN x1 x2).1) [1]) = 0))))
theorem k2n {h : AH} {a1 : Sl} {x1 : List Nat} {a2 : Sl} {x2 : List Nat} {a3 : Sl} {x3 : List Nat} (n1 : Nats h a1 x1) (n2 : Nats h a2 x2) (n3 : Nats h a3 x3)  : Runs (go (.fn F.kms [a1.v, a2.v, a3.v]) h) fun v h' => v = .bool (kd0 x1 x2 x3) ∧ Grow h h' := by
 rw [k7m]
 rw [n1.len]
 refine Runs.step (kbr n1) ?_
 refine Runs.step (seen rfl) ?_
 refine Runs.cond (fun k5 => ?_) (fun k5 => ?_)
 ·have z : kd0 x1 x2 x3 = false := by unfold kd0; exact (condT k5).trans rfl
  rw [z]
  exact Runs.ret ⟨rfl, (Grow.refl _)⟩
 ·refine Runs.cond (fun k6 => ?_) (fun k6 => ?_)
  ·have z : kd0 x1 x2 x3 = false := by unfold kd0; exact (condF k5).trans ((condT k6).trans rfl)
   rw [z]
   exact Runs.ret ⟨rfl, (Grow.refl _)⟩
  ·obtain ⟨H7, e7, g7⟩ := kjl n1 n3
   refine Runs.step e7 ?_
   refine Runs.step (seen (kb _ _)) ?_
   refine Runs.cond (fun k8 => ?_) (fun k8 => ?_)
   ·have z : kd0 x1 x2 x3 = false := by unfold kd0; exact (condF k5).trans ((condF k6).trans ((condT k8).trans rfl))
    rw [z]
    exact Runs.ret ⟨rfl, g7⟩
   ·obtain ⟨_, H9, e9, s9, rfl, n9, g9, o9⟩ := kyl (n1.grow g7) (n2.grow g7)
    refine Runs.step e9 ?_
    refine Runs.step rfl ?_
    refine Runs.step (seen (asSl_v _)) ?_
    refine Runs.step (seen (kb _ _)) ?_
    obtain ⟨s10, H10, e10, n10, g10, o10⟩ := k6x
    refine Runs.step e10 ?_
    refine Runs.step (seen (asSl_v _)) ?_
    obtain ⟨H11, e11, g11⟩ := kjl (n9.grow g10) n10
    refine Runs.step e11 ?_
    refine Runs.step (seen (kb _ _)) ?_
    have z : kd0 x1 x2 x3 = decide ((cmpN ((gcdN x1 x2).1) [1]) = 0) := by unfold kd0; exact (condF k5).trans ((condF k6).trans ((condF k8).trans rfl))
    rw [z]
    have G12 := (((g7.trans g9).trans g10).trans g11)
    exact Runs.ret ⟨rfl, G12⟩
def ki0 (x1 : List Nat) (x2 : List Nat) (x3 : List Nat) : List Nat :=
 (divN ((mulN x1 x2).1) x3).2.1
theorem k9p {h : AH} {a1 : Sl} {x1 : List Nat} {a2 : Sl} {x2 : List Nat} {a3 : Sl} {x3 : List Nat} (n1 : Nats h a1 x1) (n2 : Nats h a2 x2) (n3 : Nats h a3 x3)  : Runs (go (.fn F.kqp [a1.v, a2.v, a3.v]) h) fun v h' => ∃ s1 : Sl, v = s1.v ∧ Nats h' s1 (ki0 x1 x2 x3) ∧ Grow h h' ∧ Own h s1 := by
 rw [k73]
 obtain ⟨s4, H4, e4, n4, g4, o4⟩ := ko4 n1 n2
 refine Runs.step e4 ?_
 refine Runs.step rfl ?_
 refine Runs.step (seen (asSl_v _)) ?_
 refine Runs.step (seen (kb _ _)) ?_
 obtain ⟨s5, H5, e5, n5, g5, o5⟩ := kpz n4 (n3.grow g4)
 refine Runs.step e5 ?_
 refine Runs.step (seen (asSl_v _)) ?_
 have z : ki0 x1 x2 x3 = (divN ((mulN x1 x2).1) x3).2.1 := by unfold ki0; exact rfl
 rw [z]
 exact Runs.ret ⟨s5, rfl, n5, (g4.trans g5), (o5.of_le g4)⟩
theorem kba1 : kl2 = kbo := rfl
theorem kw6 {h : AH} {a1 : Sl} {x1 : List Nat} (n1 : Nats h a1 x1)  : Runs (go (.fn F.kji [a1.v]) h) fun v h' => ∃ s1 : Sl, v = s1.v ∧ Nats h' s1 (kbo x1) ∧ Grow h h' ∧ Own h s1 := by
 rw [← kba1]
 exact kba0 n1
theorem k4s : kd0 = kbv := rfl
theorem k60 {h : AH} {a1 : Sl} {x1 : List Nat} {a2 : Sl} {x2 : List Nat} {a3 : Sl} {x3 : List Nat} (n1 : Nats h a1 x1) (n2 : Nats h a2 x2) (n3 : Nats h a3 x3)  : Runs (go (.fn F.kms [a1.v, a2.v, a3.v]) h) fun v h' => v = .bool (kbv x1 x2 x3) ∧ Grow h h' := by
 rw [← k4s]
 exact k2n n1 n2 n3
inductive khi
 | fn (x1 : List Nat)
 | no
abbrev kft := Bool
noncomputable def kkn (x1 : List Nat) : Option (khi ⊕ kft) :=
 cond ((rt x1)) (cond (decide ((List.length x1 : Int) > 0)) ((atI x1 0).bind fun y6 => cond (decide ((Int.tmod ((y6 : Int)) 2) = 1)) (cond (decide ((((bitsN x1 : Nat) : Int)) ≥ 15)) (some (.inr (decide ((((bitsN x1 : Nat) : Int)) ≤ 80)))) (some (.inr false))) (some (.inr false))) (some (.inr false))) (some (.inr false))
noncomputable def koo : khi → Option (khi ⊕ kft)
 | .fn x1 => kkn x1
 | .no => none
@[reducible] def kva (h0 : AH) (r : kft) (v : AV) (h' : AH) : Prop := v = .bool r ∧ Grow h0 h'
def kra (r : kft) : khi → Prop
 | .fn x1 => ∀ {h : AH} {a1 : Sl}, Nats h a1 x1 → Runs (go (.fn F.kic [a1.v]) h) (kva h r)
 | .no => True
theorem kbaz {r : kft} {o : khi ⊕ kft} {x1 : List Nat} (e : kkn x1 = some o) (good : GoodS (kra r) r o) : kra r (.fn x1) := by
 intro h a1 n1
 rw [k6e]
 unfold kkn at e
 rw [n1.len]
 refine Runs.step (kbr n1) ?_
 refine Runs.step (seen rfl) ?_
 obtain ⟨_, H3, e3, rfl, g3⟩ := kbay n1
 refine Runs.step e3 ?_
 refine Runs.step (seen (kb _ _)) ?_
 refine Runs.cond (fun k4 => ?_) (fun k4 => ?_)
 ·replace e := (condT k4).symm.trans e
  refine Runs.cond (fun k5 => ?_) (fun k5 => ?_)
  ·replace e := (condT k5).symm.trans e
   obtain ⟨y6, q6, e⟩ := Option.bind_eq_some_iff.1 e
   obtain ⟨r6, j6, l6⟩ := (n1.grow g3).atI q6
   refine Runs.step j6 ?_
   refine Runs.step (rdc l6 (kb _ _)) ?_
   refine Runs.cond (fun k7 => ?_) (fun k7 => ?_)
   ·replace e := (condT k7).symm.trans e
    refine Runs.cond (fun k8 => ?_) (fun k8 => ?_)
    ·replace e := (condT k8).symm.trans e
     cases e
     cases good
     exact Runs.ret ⟨rfl, g3⟩
    ·replace e := (condF k8).symm.trans e
     cases e
     cases good
     exact Runs.ret ⟨rfl, g3⟩
   ·replace e := (condF k7).symm.trans e
    cases e
    cases good
    exact Runs.ret ⟨rfl, g3⟩
  ·replace e := (condF k5).symm.trans e
   cases e
   cases good
   exact Runs.ret ⟨rfl, g3⟩
 ·replace e := (condF k4).symm.trans e
  cases e
  cases good
  exact Runs.ret ⟨rfl, g3⟩
theorem k6b {s : khi} {r : kft} (it : Iter koo s r) : kra r s := Iter.ind (fun s o e good => by
 cases s with
 | fn x1 => exact @kbaz _ _ x1 e good
 | no => exact True.intro
 ) it
theorem k4k {h : AH} {a1 : Sl} {x1 : List Nat} (n1 : Nats h a1 x1) {r : kft} (q : runP koo (.fn x1) = some r) : Runs (go (.fn F.kic [a1.v]) h) (kva h r) := k6b (kh4 q) n1
theorem bit0 {xs : List Nat} (l : ∀ x ∈ xs, x < B) (h : 0 < xs.length) (r : rt xs = true) : bitN xs 0 = decide (xs[0] % 2 = 1) := by
 have := kt6 l (q := 0) (r := 0) h (by decide)
 rw [Nat.pow_zero, Nat.div_one] at this
 rw [show (0 : Int) = ((0 : Nat) : Int) from rfl, kou r]
 exact this
theorem kya {xs : List Nat} (l : ∀ x ∈ xs, x < B) : Iter koo (.fn xs) (kbu xs) := by
 refine .done ?_
 show kkn _ = _
 unfold kkn kbu
 cases hr : rt xs with
 | false => rfl
 | true =>
  rw [cond_true, cond_true]
  by_cases hl : 0 < xs.length
  ·rw [condT (by rw [decide_eq_true_eq]; omega), show (0 : Int) = ((0 : Nat) : Int) from rfl, kbg hl, Option.bind_some, tmod2, show ((0 : Nat) : Int) = 0 from rfl, bit0 l hl hr]
   have : decide (((xs[0] % 2 : Nat) : Int) = 1) = decide (xs[0] % 2 = 1) := by rw [decide_eq_decide]; omega
   rw [this]
   cases decide (xs[0] % 2 = 1)
   ·rfl
   ·rw [cond_true, cond_true]
    cases decide (((bitsN xs : Nat) : Int) ≥ 15) <;> rfl
  ·have : xs = [] := List.length_eq_zero_iff.1 (by omega)
   subst this
   rfl
theorem krs {h : AH} {s : Sl} {xs : List Nat} (n : Nats h s xs) : Runs (go (.fn F.kic [s.v]) h) fun v h' => v = .bool (kbu xs) ∧ Grow h h' := k4k n (ke3 (kya n.lt))
def kh9 (x1 : List Nat) (x2 : List Nat) : Bool :=
 cond (((kbu x1))) (((kbv x2 x1 (kbo x1)))) (false)
theorem kbbe {h : AH} {a1 : Sl} {x1 : List Nat} {a2 : Sl} {x2 : List Nat} (n1 : Nats h a1 x1) (n2 : Nats h a2 x2)  : Runs (go (.fn F.ki3 [a1.v, a2.v]) h) fun v h' => v = .bool (kh9 x1 x2) ∧ Grow h h' := by
 rw [kbbu]
 obtain ⟨_, H3, e3, rfl, g3⟩ := krs n1
 refine Runs.step e3 ?_
 refine Runs.step (seen rfl) ?_
 refine Runs.cond (fun k4 => ?_) (fun k4 => ?_)
 ·obtain ⟨_, H5, e5, s5, rfl, n5, g5, o5⟩ := kw6 (n1.grow g3)
  refine Runs.step e5 ?_
  refine Runs.step (seen (asSl_v _)) ?_
  obtain ⟨_, H6, e6, rfl, g6⟩ := k60 (n2.grow (g3.trans g5)) (n1.grow (g3.trans g5)) n5
  refine Runs.step e6 ?_
  refine Runs.step (seen rfl) ?_
  have z : kh9 x1 x2 = ((kbv x2 x1 (kbo x1))) := by unfold kh9; exact (condT k4).trans rfl
  rw [z]
  have G7 := ((g3.trans g5).trans g6)
  exact Runs.ret ⟨rfl, G7⟩
 ·have z : kh9 x1 x2 = false := by unfold kh9; exact (condF k4).trans rfl
  rw [z]
  exact Runs.ret ⟨rfl, g3⟩
theorem k0s : kh9 = kdi := rfl
theorem kv5 {h : AH} {a1 : Sl} {x1 : List Nat} {a2 : Sl} {x2 : List Nat} (n1 : Nats h a1 x1) (n2 : Nats h a2 x2)  : Runs (go (.fn F.ki3 [a1.v, a2.v]) h) fun v h' => v = .bool (kdi x1 x2) ∧ Grow h h' := by
 rw [← k0s]
 exact kbbe n1 n2
end Go.Ab

/- squeezed -/
set_option linter.unusedVariables false
set_option linter.unusedSimpArgs false
set_option maxRecDepth 10000
namespace Go.Ab
open Go.Proofs Go.Num
end Go.Ab

/- squeezed -/
set_option linter.unusedVariables false
set_option linter.unusedSimpArgs false
set_option maxRecDepth 10000
namespace Go.Ab
open Go.Proofs Go.Num
theorem k3g {a b : Nat} (ha : a < B ^ 30) (hb : b < B ^ 30) : mulN (digs B a) (digs B b) = (digs B (a * b), 0) := by
 have h60 : a * b < B ^ 64 := by
  calc a * b < B ^ 30 * B ^ 30 := Nat.mul_lt_mul_of_lt_of_lt ha hb
   _ = B ^ 60 := by rw [← Nat.pow_add]
   _ ≤ B ^ 64 := Nat.pow_le_pow_right (by decide) (by decide)
 have up : ∀ {c : Nat}, c < B ^ 30 → c < B ^ 64 := fun h => Nat.lt_of_lt_of_le h (Nat.pow_le_pow_right (by decide) (by decide))
 unfold mulN
 rw [if_pos ⟨kx (up ha), kx (up hb)⟩, kg B2, kg B2]
 unfold told
 rw [if_pos h60]
theorem k34 {xs : List Nat} (l : ∀ x ∈ xs, x < B) (r : rt xs = true) : digs B (num B xs) = xs := kdz B2 l (rt_iff.1 r).2
theorem kr8 {ns : List Nat} (l : ∀ x ∈ ns, x < B) (h : kbu ns = true) : rt ns = true ∧ num B ns % 2 = 1 ∧ 16384 ≤ num B ns ∧ num B ns < 2 ^ 80 := by
 unfold kbu at h
 simp only [Bool.cond_eq_true_distrib, Bool.cond_false_right, Bool.and_eq_true, decide_eq_true_eq] at h
 obtain ⟨h1, h2, h3, h4⟩ := h
 have hb : bitsN ns = bl (num B ns) := by unfold bitsN; rw [if_pos h1]
 rw [hb] at h3 h4
 obtain ⟨b1, b2⟩ := bl_Bl (num B ns)
 refine ⟨h1, ?_, ?_, ?_⟩
 ·rw [show (0 : Int) = ((0 : Nat) : Int) from rfl, kou h1, Nat.testBit_zero, decide_eq_true_eq] at h2
  exact h2
 ·rcases b2 with b2 | b2
  ·omega
  ·exact Nat.le_trans (Nat.pow_le_pow_right (n := 2) (i := 14) (by decide) (by omega)) b2
 ·exact Nat.lt_of_lt_of_le b1 (Nat.pow_le_pow_right (by decide) (by omega))
theorem k5x {ns : List Nat} (l : ∀ x ∈ ns, x < B) (h : kbu ns = true) : kbo ns = digs B (num B ns * num B ns) ∧ num B ns * num B ns < B ^ 3 ∧ 1 < num B ns * num B ns ∧ num B ns * num B ns % 2 = 1 := by
 obtain ⟨h1, h2, h3, h4⟩ := kr8 l h
 have h30 : num B ns < B ^ 30 := Nat.lt_trans h4 (by decide)
 refine ⟨?_, ?_, ?_, ?_⟩
 ·unfold kbo
  have := k3g h30 h30
  rw [k34 l h1] at this
  rw [this]
 ·calc num B ns * num B ns < 2 ^ 80 * 2 ^ 80 := Nat.mul_lt_mul_of_lt_of_lt h4 h4
   _ < B ^ 3 := by decide
 ·calc 1 < 16384 * 16384 := by decide
   _ ≤ num B ns * num B ns := Nat.mul_le_mul h3 h3
 ·rw [Nat.mul_mod, h2]
end Go.Ab

/- squeezed -/
set_option linter.unusedVariables false
set_option linter.unusedSimpArgs false
set_option maxRecDepth 10000
namespace Go.Ab
open Go.Proofs Go.Num
end Go.Ab

/- squeezed -/
set_option linter.unusedVariables false
set_option linter.unusedSimpArgs false
set_option maxRecDepth 10000
namespace Go.Ab
open Go.Proofs Go.Num
end Go.Ab

/- squeezed -/
set_option linter.unusedVariables false
set_option linter.unusedSimpArgs false
set_option maxRecDepth 10000
namespace Go.Ab
open Go.Proofs Go.Num
end Go.Ab

/- squeezed -/
set_option linter.unusedVariables false
set_option linter.unusedSimpArgs false
set_option maxRecDepth 10000
namespace Go.Ab
open Go.Proofs Go.Num
theorem k9q {xs ys : List Nat} (hx : rt xs = true) (hy : rt ys = true) (h : cmpN xs ys < 0) : num B xs < num B ys := by
 rw [knu hx hy] at h
 unfold cmp at h
 split at h
 ·assumption
 ·split at h <;> simp at h
theorem k6j {cs ns bs : List Nat} (h : kbv cs ns bs = true) (hb : rt bs = true) : rt cs = true ∧ num B cs < num B bs := by
 unfold kbv at h
 cases hr : rt cs with
 | false => rw [hr] at h; cases h
 | true =>
  rw [hr] at h
  refine ⟨rfl, k9q hr hb ?_⟩
  simp only [Bool.not_true, cond_false] at h
  by_cases h0 : decide ((cs.length : Int) = 0) = true
  ·rw [h0] at h; cases h
  ·rw [Bool.not_eq_true] at h0
   rw [h0, cond_false] at h
   by_cases h1 : decide (cmpN cs bs ≥ 0) = true
   ·rw [h1] at h; cases h
   ·rw [decide_eq_true_eq] at h1
    omega
section
variable {ns xs es : List Nat} (ln : ∀ x ∈ ns, x < B) (le : ∀ x ∈ es, x < B)
include ln le
end
section
variable {ns xs ys : List Nat} (ln : ∀ x ∈ ns, x < B) (lx : ∀ x ∈ xs, x < B) (ly : ∀ x ∈ ys, x < B)
include ln lx
end
section
variable {h : AH} {s t u : Sl} {ns xs ys : List Nat} (n : Nats h s ns) (m : Nats h t xs) (k : Nats h u ys)
include n m k
end
end Go.Ab

/- squeezed -/
set_option linter.unusedVariables false
set_option linter.unusedSimpArgs false
set_option maxRecDepth 10000
namespace Go.Ab
open Go.Proofs Go.Num
end Go.Ab

/- squeezed -/
set_option linter.unusedVariables false
set_option linter.unusedSimpArgs false
set_option maxRecDepth 10000
namespace Go.Ab
open Go.Proofs
def idsR (l : List Int) : Bool := decide (l.length ≤ 256) && (!(l.any fun x => decide (x < 0) || decide (x > 1073741824)) && decide l.Nodup)
structure Tb where
 ids : List Int
 bins : List Int
 cols : List (List Int)
def colR (t : Tb) (i : Nat) : Bool := !decide (t.bins.getD i 0 < 2) && !decide (t.bins.getD i 0 > 32) && decide ((t.cols.getD i []).length = t.ids.length) && !((t.cols.getD i []).any fun x => decide (x < 0) || decide (x ≥ t.bins.getD i 0))
def tabR (t : Tb) : Bool := idsR t.ids && !decide (t.cols.length > 16) && decide (t.bins.length = t.cols.length) && (List.range t.cols.length).all (colR t)
structure TabAt (h : AH) (S : Fp) (s1 s2 s3 : Sl) (t : Tb) : Prop where
 ids : Sq EI h S s1 t.ids
 bins : Sq EI h S s2 t.bins
 cols : Sq (Ef.seq EI) h S s3 t.cols
theorem TabAt.md {h h' : AH} {S T : Fp} {s1 s2 s3 : Sl} {t : Tb} (n : TabAt h S s1 s2 s3 t) (m : Md T h h') (d : Dis S T) : TabAt h' S s1 s2 s3 t := ⟨n.ids.md m d, n.bins.md m d, n.cols.md m d⟩
theorem TabAt.grow {h h' : AH} {S : Fp} {s1 s2 s3 : Sl} {t : Tb} (n : TabAt h S s1 s2 s3 t) (g : Grow h h') : TabAt h' S s1 s2 s3 t := ⟨n.ids.grow g, n.bins.grow g, n.cols.grow g⟩
section
variable {h0 : AH} {S : Fp} {s : Sl} {xs : List Int}
theorem k5m (n : Sq EI h0 S s xs) : Runs (go (.fn F.kc3 [s.v, .func (.func F.kc5) [] []]) h0) fun v h' => v = .bool (xs.any fun x => decide (x < 0) || decide (x > 1073741824)) ∧ Grow h0 h' := by
 rw [kze]
 refine Runs.contains (xs := xs) ?_
 rw [k6z, n.len]
 refine kmi (n := xs.length) (G := fun z h => go (.pt F.kbb Td.kb6 [(0, s.v), (1, .func (.func F.kc5) [] []), (7, .int .i64 (xs.length : Int)), (8, .int .i64 z)]) h) (fun i h P hi g hT hF => ?_) (fun h g => ?_) xs.length 0 (by omega) (Grow.refl h0) (fun j hj => by omega)
 ·obtain ⟨r, e1, e2⟩ := (n.grow g).int hi
  rw [List.getElem?_eq_getElem hi] at hT hF
  simp only [Option.any_some] at hT hF
  show Runs (go _ _) _
  rw [kta]
  refine Runs.ifT (decide_eq_true (by omega)) (Runs.step e1 (Runs.step e2 ?_))
  have key : go (.fn F.kc5 [.int .i64 xs[i]]) h = some (.bool (decide (xs[i] < 0) || decide (xs[i] > 1073741824)), h) := by
   rw [kxx]
   cases decide (xs[i] < 0) <;> rfl
  refine Runs.step key (Runs.step (seen rfl) ?_)
  rw [ko (by have := n.short; omega)]
  exact Runs.cond (fun c => Runs.ret (hT h g c)) fun c => hF h g c
 ·rw [kta, condF (decide_eq_false (by omega))]
theorem kban (n : Sq EI h0 S s xs) (hl : xs.length ≤ 256) {m : Nat} (hm : h0.blks.size ≤ m) : ∀ (k i : Nat), i + k = xs.length → ∀ {h : AH} {l : List (Int × AV)}, Grow h0 h → MapIs h m l → (∀ x, (kvGet l x).isSome = true ↔ x ∈ xs.take i) → l.length ≤ i → (l.length = i ↔ (xs.take i).Nodup) →
  Runs (go (.pt F.kg3 Td.klx [(3, .map (some m)), (7, s.v), (8, .int .i64 (xs.length : Int)), (9, .int .i64 (i : Int))]) h) fun v h' => Grow h0 h' ∧ v = .map (some m) ∧ ∃ l, MapIs h' m l ∧ (l.length = xs.length ↔ xs.Nodup) := by
 intro k
 induction k with
 | zero =>
  intro i hi h l g M hk hle hn
  rw [kt1]
  refine Runs.ifF (decide_eq_false (by omega)) (Runs.ret ⟨g, rfl, l, M, ?_⟩)
  rw [show i = xs.length from by omega, List.take_length] at hn
  exact hn
 | succ k ih =>
  intro i hi h l g M hk hle hn
  have hlt : i < xs.length := by omega
  obtain ⟨r, e1, e2⟩ := (n.grow g).int hlt
  rw [kt1]
  refine Runs.ifT (decide_eq_true (by omega)) (Runs.step e1 (Runs.step e2 ?_))
  obtain ⟨h1, e3, M1, u1⟩ := M.put xs[i] (.int .i64 (i : Int))
  refine Runs.step e3 ?_
  rw [ko (by omega)]
  have ht : xs.take (i + 1) = xs.take i ++ [xs[i]] := List.take_succ_eq_append_getElem hlt
  have hi := hk xs[i]
  refine ih (i + 1) (by omega) (g.updr hm u1) M1 (fun x => ?_) ?_ ?_
  ·rw [kx1, ht, List.mem_append, List.mem_singleton]
   by_cases hx : x = xs[i]
   ·rw [if_pos hx]
    exact ⟨fun _ => .inr hx, fun _ => rfl⟩
   ·rw [if_neg hx, hk x]
    exact ⟨.inl, fun h => h.resolve_right hx⟩
  ·cases hg : kvGet l xs[i] with
   | none => rw [kty _ hg]; simp; omega
   | some w => rw [ks5 _ hg]; omega
  ·rw [ht, List.nodup_append]
   cases hg : kvGet l xs[i] with
   | none =>
    rw [hg] at hi
    have hni : xs[i] ∉ xs.take i := fun h => by simpa using hi.2 h
    rw [kty _ hg]
    simp only [List.length_append, List.length_singleton]
    constructor
    ·intro e
     refine ⟨hn.1 (by omega), by simp, fun a ha b hb => ?_⟩
     rw [List.mem_singleton] at hb
     subst hb
     rintro rfl
     exact hni ha
    ·intro e
     rw [hn.2 e.1]
   | some w =>
    rw [hg] at hi
    have hin : xs[i] ∈ xs.take i := hi.1 rfl
    rw [ks5 _ hg]
    constructor
    ·intro e
     omega
    ·intro e
     exact absurd rfl (e.2.2 _ hin _ (by simp))
theorem k8c (n : Sq EI h0 S s xs) : Runs (go (.fn F.kof [s.v]) h0) fun v h' => v = .bool (idsR xs) ∧ Grow h0 h' := by
 rw [kye, n.len]
 unfold idsR
 refine Runs.cond (fun c => ?_) (fun c => ?_)
 ·rw [decide_eq_true_eq] at c
  rw [decide_eq_true (show xs.length ≤ 256 by omega), Bool.true_and]
  refine (k5m n).call fun v h1 ⟨e, g1⟩ => ?_
  subst e
  refine Runs.step (seen rfl) ?_
  refine Runs.cond (fun c2 => ?_) (fun c2 => ?_)
  ·rw [c2, Bool.true_and]
   have key : Runs (go (.fn F.kg3 [s.v]) h1) fun v h' => Grow h1 h' ∧ ∃ m l, v = .map (some m) ∧ MapIs h' m l ∧ (l.length = xs.length ↔ xs.Nodup) := by
    rw [kbaq, n.len]
    refine Runs.newMap fun h2 M g2 => ?_
    exact (kban (n.grow g1) (by omega) (m := h1.blks.size) (Nat.le_refl _) xs.length 0 (by omega) (l := []) g2 M (fun x => by simp [kvGet]) (Nat.le_refl _) (by simp)).imp fun v h' ⟨g, e, l, M, hn⟩ => ⟨g, _, l, e, M, hn⟩
   refine key.call fun v h2 ⟨g2, m, l, e, M, hn⟩ => ?_
   subst e
   refine Runs.step (seen rfl) (Runs.step M.size (Runs.ret ⟨congrArg AV.bool ?_, g1.trans g2⟩))
   rw [decide_eq_decide, ← hn]
   omega
  ·rw [c2, Bool.false_and]
   exact Runs.ret ⟨rfl, g1⟩
 ·rw [decide_eq_false_iff_not] at c
  rw [decide_eq_false (show ¬ xs.length ≤ 256 by omega), Bool.false_and]
  exact Runs.ret ⟨rfl, Grow.refl _⟩
end
end Go.Ab

/- squeezed -/
set_option linter.unusedVariables false
set_option linter.unusedSimpArgs false
set_option maxRecDepth 10000
namespace Go.Ab
open Go.Proofs
theorem k5a {h0 : AH} {S : Fp} {s : Sl} {xs : List Int} (n : Sq EI h0 S s xs) {b : Nat} {z : Int} {e : TypeId} (hb : h0.has b [.int .i64 z] e) : Runs (go (.fn F.kc3 [s.v, .func (.func F.kcv) [] [.ptr (some (.new b 0))]]) h0) fun v h' => v = .bool (xs.any fun x => decide (x < 0) || decide (x ≥ z)) ∧ Grow h0 h' := by
 rw [k0a]
 refine Runs.contains (xs := xs) ?_
 rw [kxh, n.len]
 refine kmi (n := xs.length) (G := fun y h => go (.pt F.kbb Td.kb6 [(0, s.v), (1, .func (.func F.kcv) [] [.ptr (some (.new b 0))]), (7, .int .i64 (xs.length : Int)), (8, .int .i64 y)]) h) (fun i h P hi g hT hF => ?_) (fun h g => ?_) xs.length 0 (by omega) (Grow.refl h0) (fun j hj => by omega)
 ·obtain ⟨r, e1, e2⟩ := (n.grow g).int hi
  rw [List.getElem?_eq_getElem hi] at hT hF
  simp only [Option.any_some] at hT hF
  show Runs (go _ _) _
  rw [ku7]
  refine Runs.ifT (decide_eq_true (by omega)) (Runs.step e1 (Runs.step e2 ?_))
  have key : Runs (go (.fn F.kcv [.int .i64 xs[i], .ptr (some (.new b 0))]) h) fun v h' => v = .bool (decide (xs[i] < 0) || decide (xs[i] ≥ z)) ∧ h' = h := by
   rw [k04]
   cases decide (xs[i] < 0)
   ·refine Runs.ifF rfl (Runs.step rfl (Runs.step ((g.has hb).rd0 rfl (kb _ _)) ?_))
    exact Runs.ret ⟨rfl, rfl⟩
   ·exact Runs.ret ⟨rfl, rfl⟩
  refine key.call fun v h' ⟨ev, eh⟩ => ?_
  subst ev; subst eh
  refine Runs.step (seen rfl) ?_
  rw [ko (by have := n.short; omega)]
  exact Runs.cond (fun c => Runs.ret (hT _ g c)) fun c => hF _ g c
 ·rw [ku7, condF (decide_eq_false (by omega))]
section
variable {h0 : AH} {S : Fp} {s1 s2 s3 : Sl} {t : Tb}
theorem k0o (n : TabAt h0 S s1 s2 s3 t) (hl : t.cols.length ≤ 16) (hb : t.bins.length = t.cols.length) {b : Nat} (hbb : h0.blks.size ≤ b) : ∀ (k i : Nat), i + k = t.cols.length → ∀ {h : AH}, Grow h0 h → h.has b [s1.v, s2.v, s3.v] T.kea →
  Runs (go (.pt F.kfl Td.kni [(1, .ptr (some (.new b 0))), (27, s3.v), (28, .int .i64 (t.cols.length : Int)), (29, .int .i64 (i : Int))]) h) fun v h' => v = .bool (((List.range t.cols.length).drop i).all (colR t)) ∧ Grow h0 h' := by
 intro k
 induction k with
 | zero =>
  intro i hi h g B
  rw [ktj]
  refine Runs.ifF (decide_eq_false (by omega)) (Runs.ret ⟨?_, g⟩)
  rw [k9o (by simp; omega)]
 | succ k ih =>
  intro i hi h g B
  have hc : i < t.cols.length := by omega
  have hbi : i < t.bins.length := by omega
  obtain ⟨r, s', e1, e2, -, n'⟩ := (n.cols.grow g).sl hc
  obtain ⟨r2, e3, e4⟩ := (n.bins.grow g).int hbi
  rw [ktj]
  refine Runs.ifT (decide_eq_true (by omega)) (Runs.step e1 (Runs.step e2 (Runs.step (B.rd 1 rfl (asSl_v _)) (Runs.step e3 (Runs.step e4 ?_)))))
  refine Runs.new fun h1 b1 g1 => Runs.puts b1 rfl fun h2 b2 u2 => ?_
  have G : Grow h h2 := g1.updr (Nat.le_refl _) u2
  have B2 := G.has B
  rw [k69 hc]
  have hcol : colR t i = (!decide (t.bins[i] < 2) && !decide (t.bins[i] > 32) && decide (t.cols[i].length = t.ids.length) && !(t.cols[i].any fun x => decide (x < 0) || decide (x ≥ t.bins[i]))) := by
   simp [colR, List.getD, hbi, hc]
  rw [hcol]
  refine Runs.step (b2.rd0 rfl (kb _ _)) (Runs.cond (fun c => Runs.ret ⟨by rw [c]; rfl, g.trans G⟩) fun c => ?_)
  refine Runs.step (b2.rd0 rfl (kb _ _)) (Runs.cond (fun c2 => Runs.ret ⟨by rw [c, c2]; rfl, g.trans G⟩) fun c2 => ?_)
  refine Runs.step (B2.rd 0 rfl (asSl_v _)) ?_
  rw [n'.len, n.ids.len]
  refine Runs.cond (fun c3 => Runs.ret ⟨?_, g.trans G⟩) fun c3 => ?_
  ·have : ¬ t.cols[i].length = t.ids.length := by simpa [Int.ofNat_inj] using c3
   rw [c, c2, decide_eq_false this]
   rfl
  have c3 : t.cols[i].length = t.ids.length := by simpa [Int.ofNat_inj] using c3
  refine (k5a (n'.grow G) b2).call fun v h3 ⟨ev, g3⟩ => ?_
  subst ev
  refine Runs.step (seen rfl) (Runs.cond (fun c4 => Runs.ret ⟨by rw [c, c2, decide_eq_true c3, c4]; rfl, (g.trans G).trans g3⟩) fun c4 => ?_)
  rw [c, c2, decide_eq_true c3, c4, ko (by omega)]
  exact ih (i + 1) (by omega) ((g.trans G).trans g3) (g3.has B2)
theorem ktb (n : TabAt h0 S s1 s2 s3 t) : Runs (go (.fn F.kfl [.agg [s1.v, s2.v, s3.v]]) h0) fun v h' => v = .bool (tabR t) ∧ Grow h0 h' := by
 rw [kbat]
 refine Runs.new fun h4 b4 g4 => Runs.step (b4.rd 0 rfl (asSl_v _)) ?_
 refine (k8c (n.ids.grow g4)).call fun v h6 ⟨ev, g6⟩ => ?_
 subst ev
 have B := g6.has b4
 have G := g4.trans g6
 unfold tabR
 refine Runs.step (seen rfl) (Runs.cond (fun c => Runs.ret ⟨by rw [show idsR t.ids = false by simpa using c]; rfl, G⟩) fun c => ?_)
 rw [show idsR t.ids = true by simpa using c, Bool.true_and]
 refine Runs.step (B.rd 2 rfl (asSl_v _)) ?_
 rw [n.cols.len]
 refine Runs.cond (fun c2 => Runs.ret ⟨?_, G⟩) fun c2 => ?_
 ·rw [decide_eq_true_eq] at c2
  rw [decide_eq_true (show t.cols.length > 16 by omega)]
  rfl
 rw [decide_eq_false_iff_not] at c2
 rw [decide_eq_false (show ¬ t.cols.length > 16 by omega)]
 refine Runs.step (B.rd 1 rfl (asSl_v _)) (Runs.step (B.rd 2 rfl (asSl_v _)) ?_)
 rw [n.bins.len, n.cols.len]
 refine Runs.cond (fun c3 => Runs.ret ⟨?_, G⟩) fun c3 => ?_
 ·have : ¬ t.bins.length = t.cols.length := by simpa [Int.ofNat_inj] using c3
  rw [decide_eq_false this]
  rfl
 have c3 : t.bins.length = t.cols.length := by simpa [Int.ofNat_inj] using c3
 rw [decide_eq_true c3]
 refine Runs.step (B.rd 2 rfl (asSl_v _)) ?_
 rw [n.cols.len]
 exact k0o n (by omega) c3 (Nat.le_refl _) t.cols.length 0 (by omega) G B
end
end Go.Ab

/- squeezed -/
set_option linter.unusedVariables false
namespace Go.Ab
theorem kti : ∀ (n w : Nat), w ≠ 0 → w < 2 ^ n → ∃ k m, k < n ∧ w = 2 ^ (k + 1) * m + 2 ^ k := by
 intro n
 induction n with
 | zero => intro w h0 h; omega
 | succ n ih =>
  intro w h0 h
  rcases Nat.mod_two_eq_zero_or_one w with e | e
  ·obtain ⟨k, m, hk, hm⟩ := ih (w / 2) (by omega) (by rw [Nat.pow_succ] at h; omega)
   refine ⟨k + 1, m, by omega, ?_⟩
   have : w = 2 * (w / 2) := by omega
   rw [this, hm, Nat.mul_add, ← Nat.mul_assoc, ← Nat.pow_succ', ← Nat.pow_succ']
  ·exact ⟨0, w / 2, by omega, by simp; omega⟩
theorem khz {k m : Nat} (j : Nat) : (2 ^ (k + 1) * m + 2 ^ k).testBit j = if j < k then false else if j = k then true else m.testBit (j - (k + 1)) := by
 rw [Nat.testBit_two_pow_mul_add _ (Nat.pow_lt_pow_right (by decide) (Nat.lt_succ_self k)), Nat.testBit_two_pow]
 grind
theorem kba3 (k m : Nat) : (2 ^ (k + 1) * m + 2 ^ k) &&& (2 ^ (k + 1) * m + 2 ^ k - 1) = 2 ^ (k + 1) * m := by
 have hp : 0 < 2 ^ k := Nat.two_pow_pos k
 have e : 2 ^ (k + 1) * m + 2 ^ k - 1 = 2 ^ (k + 1) * m + (2 ^ k - 1) := by omega
 rw [e]
 apply Nat.eq_of_testBit_eq
 intro j
 rw [Nat.testBit_and, khz, Nat.testBit_two_pow_mul_add _ (by rw [Nat.pow_succ]; omega), Nat.testBit_two_pow_sub_one, Nat.testBit_two_pow_mul]
 grind
theorem k41 {k m n : Nat} (h : 2 ^ (k + 1) * m + 2 ^ k < 2 ^ n) : (2 ^ (k + 1) * m + 2 ^ k) &&& (2 ^ n - (2 ^ (k + 1) * m + 2 ^ k)) = 2 ^ k := by
 have hk : k < n := by
  rcases Nat.lt_or_ge k n with h1 | h1
  ·exact h1
  ·have := Nat.pow_le_pow_right (n := 2) (by decide) h1
   omega
 obtain ⟨d, rfl⟩ : ∃ d, n = (k + 1) + d := ⟨n - (k + 1), by omega⟩
 have hm : m < 2 ^ d := by
  rcases Nat.lt_or_ge m (2 ^ d) with h1 | h1
  ·exact h1
  ·have := Nat.mul_le_mul_left (2 ^ (k + 1)) h1
   rw [← Nat.pow_add] at this
   exact absurd h (Nat.not_lt.2 (Nat.le_trans this (Nat.le_add_right _ _)))
 have e : 2 ^ (k + 1 + d) - (2 ^ (k + 1) * m + 2 ^ k) = 2 ^ (k + 1) * (2 ^ d - (m + 1)) + 2 ^ k := by
  have a : 2 ^ (k + 1 + d) = 2 ^ (k + 1) * 2 ^ d := Nat.pow_add ..
  have b : 2 ^ (k + 1) * 2 ^ d = 2 ^ (k + 1) * (2 ^ d - (m + 1)) + 2 ^ (k + 1) * (m + 1) := by rw [← Nat.mul_add]; congr 1; omega
  have c : 2 ^ (k + 1) * (m + 1) = 2 ^ (k + 1) * m + 2 ^ (k + 1) := by rw [Nat.mul_add, Nat.mul_one]
  have f : 2 ^ (k + 1) = 2 ^ k + 2 ^ k := by rw [Nat.pow_succ]; omega
  omega
 rw [e]
 apply Nat.eq_of_testBit_eq
 intro j
 rw [Nat.testBit_and, khz, khz, Nat.testBit_two_pow]
 by_cases h1 : j < k
 ·have : ¬ k = j := by omega
  simp [h1, this]
 ·by_cases h2 : j = k
  ·subst h2; simp
  ·have : ¬ k = j := by omega
   rw [if_neg h1, if_neg h2, if_neg h1, if_neg h2, Nat.testBit_two_pow_sub_succ hm]
   simp [this]
   intro a b
   exact a
def ones (w : Nat) : List Nat := (List.range 64).filter w.testBit
theorem k2z {p q : Nat → Bool} {k : Nat} : ∀ {n : Nat}, k < n → p k = true → (∀ j, j < k → p j = false) → (∀ j, j < n → q j = (p j && decide (j ≠ k))) → (List.range n).filter p = k :: (List.range n).filter q := by
 intro n
 induction n with
 | zero => intro h; omega
 | succ n ih =>
  intro h hp hl hq
  rw [List.range_succ, List.filter_append, List.filter_append]
  by_cases e : k = n
  ·subst e
   have a : (List.range k).filter p = [] := List.filter_eq_nil_iff.2 fun j hj => by rw [hl j (List.mem_range.1 hj)]; simp
   have b : (List.range k).filter q = [] := List.filter_eq_nil_iff.2 fun j hj => by
    have := List.mem_range.1 hj
    rw [hq j (by omega), hl j this]; simp
   rw [a, b]
   have : q k = false := by rw [hq k (by omega)]; simp
   simp [hp, this]
  ·rw [ih (by omega) hp hl fun j hj => hq j (by omega)]
   have : q n = p n := by rw [hq n (by omega)]; simp; intro _; omega
   simp [this, List.filter_cons]
theorem ktn : ones 0 = [] := by
 unfold ones
 exact List.filter_eq_nil_iff.2 fun j _ => by simp
theorem krt {k m : Nat} (hk : k < 64) : ones (2 ^ (k + 1) * m + 2 ^ k) = k :: ones (2 ^ (k + 1) * m) := by
 unfold ones
 refine k2z hk (by rw [khz]; simp) (fun j hj => by rw [khz]; simp [hj]) fun j _ => ?_
 rw [khz, Nat.testBit_two_pow_mul]
 by_cases h1 : j < k
 ·have : ¬ k + 1 ≤ j := by omega
  simp [h1, this]
 ·by_cases h2 : j = k
  ·subst h2
   have : ¬ j + 1 ≤ j := by omega
   simp [this]
  ·have : k + 1 ≤ j := by omega
   simp [h1, h2, this]
end Go.Ab

/- squeezed -/
set_option linter.unusedVariables false
set_option linter.unusedSimpArgs false
set_option maxRecDepth 10000
namespace Go.Ab
open Go.Proofs
theorem krn {a b : Nat} (ha : a < 18446744073709551616) (hb : b < 18446744073709551616) : iand .u64 (a : Int) (b : Int) = ((a &&& b : Nat) : Int) := by
 unfold iand
 rw [show IntKind.bits .u64 = 64 from rfl, wrapU]
 have e1 : BitVec.ofInt 64 (a : Int) = BitVec.ofNat 64 a := rfl
 have e2 : BitVec.ofInt 64 (b : Int) = BitVec.ofNat 64 b := rfl
 rw [e1, e2, BitVec.toNat_and, BitVec.toNat_ofNat, BitVec.toNat_ofNat, Nat.mod_eq_of_lt (show a < 2 ^ 64 from ha), Nat.mod_eq_of_lt (show b < 2 ^ 64 from hb)]
 have : a &&& b ≤ a := Nat.and_le_left
 omega
theorem or_nat {a b : Nat} (ha : a < 18446744073709551616) (hb : b < 18446744073709551616) : ior .u64 (a : Int) (b : Int) = ((a ||| b : Nat) : Int) := by
 unfold ior
 rw [show IntKind.bits .u64 = 64 from rfl, wrapU]
 have e1 : BitVec.ofInt 64 (a : Int) = BitVec.ofNat 64 a := rfl
 have e2 : BitVec.ofInt 64 (b : Int) = BitVec.ofNat 64 b := rfl
 rw [e1, e2, BitVec.toNat_or, BitVec.toNat_ofNat, BitVec.toNat_ofNat, Nat.mod_eq_of_lt (show a < 2 ^ 64 from ha), Nat.mod_eq_of_lt (show b < 2 ^ 64 from hb)]
 have : a ||| b < 2 ^ 64 := Nat.or_lt_two_pow ha hb
 omega
theorem ksp (x n : Nat) : ishr .u64 (x : Int) (n : Int) = ((x / 2 ^ min n 64 : Nat) : Int) := by
 unfold ishr
 rw [Int.toNat_natCast, show IntKind.bits .u64 = 64 from rfl]
 have : ((2 : Int) ^ min n 64) = ((2 ^ min n 64 : Nat) : Int) := by simp
 rw [this, Int.fdiv_eq_ediv_of_nonneg _ (Int.natCast_nonneg _)]
 exact (Int.natCast_ediv _ _).symm
theorem kbca {n : Nat} (hn : n < 64) : ishl .u64 1 (n : Int) = ((2 ^ n : Nat) : Int) := by
 unfold ishl
 rw [Int.toNat_natCast, show IntKind.bits .u64 = 64 from rfl, Nat.min_eq_left (by omega), wrapU]
 have h1 : (1 : Int) * (2 : Int) ^ n = ((2 ^ n : Nat) : Int) := by simp
 have h2 : 2 ^ n < 2 ^ 64 := Nat.pow_lt_pow_right (by decide) hn
 rw [h1]
 generalize 2 ^ n = q at *
 omega
def tzTab : List Nat := [0, 1, 56, 2, 57, 49, 28, 3, 61, 58, 42, 50, 38, 29, 17, 4, 62, 47, 59, 36, 45, 43, 51, 22, 53, 39, 33, 30, 24, 18, 12, 5, 63, 55, 48, 27, 60, 41, 37, 16, 46, 35, 44, 21, 52, 32, 23, 11, 54, 26, 40, 15, 34, 20, 31, 10, 25, 14, 19, 9, 13, 8, 7, 6]
theorem tz_idx : ∀ k : _root_.Fin 64, tzTab.getD ((2 ^ k.val * 285870213051353865 % 18446744073709551616) / 288230376151711744) 0 = k.val := by decide +kernel
def Tab (h : AH) : Prop := ∀ k : Nat, k < 64 → h.cell (.old ⟨Gl.math_bits_deBruijn64tab, k, none⟩) = some (.int .u8 ((tzTab.getD k 0 : Nat) : Int))
theorem Tab.md {h h' : AH} {T : Fp} (t : Tab h) (m : Md T h h') : Tab h' := fun k hk => by
 rw [← t k hk]
 simp only [AH.cell, m.old]
theorem Tab.grow {h h' : AH} (t : Tab h) (g : Grow h h') : Tab h' := t.md (g.md Fp.no)
theorem tz_is {h : AH} (T : Tab h) {k m : Nat} (hk : k < 64) (hw : 2 ^ (k + 1) * m + 2 ^ k < 18446744073709551616) : go (.fn F.ko8 [.int .u64 ((2 ^ (k + 1) * m + 2 ^ k : Nat) : Int)]) h = some (.int .i64 (k : Int), h) := by
 rw [kz4]
 have hp := Nat.two_pow_pos k
 have en := k41 (k := k) (m := m) (n := 64) hw
 generalize hW : 2 ^ (k + 1) * m + 2 ^ k = W at *
 have hW0 : 0 < W := by omega
 have e1 : IntKind.wrap .u64 (0 - (W : Int)) = ((18446744073709551616 - W : Nat) : Int) := by rw [wrapU]; omega
 rw [condF (decide_eq_false (by omega)), e1, krn hw (by omega), en]
 have e2 : IntKind.wrap .u64 (((2 ^ k : Nat) : Int) * 285870213051353865) = ((2 ^ k * 285870213051353865 % 18446744073709551616 : Nat) : Int) := by
  rw [wrapU, show ((2 ^ k : Nat) : Int) * 285870213051353865 = ((2 ^ k * 285870213051353865 : Nat) : Int) from by simp]
  rfl
 have ht := tz_idx ⟨k, hk⟩
 dsimp only at ht
 rw [e2, show (58 : Int) = ((58 : Nat) : Int) from rfl, ksp, show 2 ^ min 58 64 = 288230376151711744 from rfl]
 generalize hJ : 2 ^ k * 285870213051353865 % 18446744073709551616 / 288230376151711744 = J at *
 have hJ64 : J < 64 := by
  rw [← hJ, Nat.div_lt_iff_lt_mul (by decide)]
  exact Nat.mod_lt _ (by decide)
 have ei : idx (some (Ref.old ⟨Gl.math_bits_deBruijn64tab, 0, none⟩)) 64 (J : Int) 1 = some (.old ⟨Gl.math_bits_deBruijn64tab, J, none⟩) := by
  rw [kc6 _ _ _ _ (by omega) (by omega), Int.toNat_natCast, Nat.mul_one]
  simp [Ref.add, Addr.add]
  exact fun h => h.symm
 rw [ei, Option.bind_some, T J hJ64, ht]
 show some (AV.int .i64 (IntKind.wrap .i64 (k : Int)), h) = _
 rw [wrap64 (by omega) (by omega)]
def wbit (w : List Nat) (i : Nat) : Bool := (w.getD (i / 64) 0).testBit (i % 64)
def btR (n : Int) (w : List Nat) : Bool := decide (0 ≤ n) && (decide (n ≤ 65536) && (decide (w.length = (n.toNat + 63) / 64) && (List.range (64 * w.length)).all fun i => decide (i < n.toNat) || !wbit w i))
theorem k8h {x k : Nat} : x < 2 ^ k ↔ ∀ i, k ≤ i → x.testBit i = false :=
 ⟨fun h i hi => Nat.testBit_lt_two_pow (Nat.lt_of_lt_of_le h (Nat.pow_le_pow_right (by decide) hi)), fun h => Nat.lt_pow_two_of_testBit x h⟩
section
variable {h0 : AH} {s : Sl} {w : List Nat} {n : Int}
theorem Nats.rdN {h : AH} (N : Nats h s w) {i : Nat} (hi : i < w.length) : ∃ r : Ref, idx s.ref s.len (i : Int) 1 = some r ∧ (h.cell r).bind (AV.asInt .u64) = some (w[i] : Int) := by
 obtain ⟨r, e1, e2⟩ := N.at hi
 exact ⟨r, e1, rdc e2 (kb _ _)⟩
theorem kk4 (N : Nats h0 s w) : Runs (go (.fn F.khm [.agg [.int .i64 n, s.v]]) h0) fun v h' => v = .bool (btR n w) ∧ Grow h0 h' := by
 rw [kzn]
 refine Runs.new fun h1 b1 g1 => Runs.step (b1.rd 0 rfl (kb _ _)) (Runs.cond (fun c => ?_) fun c => ?_)
 ·rw [decide_eq_true_eq] at c
  refine Runs.ret ⟨?_, g1⟩
  unfold btR
  rw [decide_eq_false (by omega)]; rfl
 rw [decide_eq_false_iff_not] at c
 refine Runs.step (b1.rd 0 rfl (kb _ _)) (Runs.cond (fun c2 => ?_) fun c2 => ?_)
 ·rw [decide_eq_true_eq] at c2
  refine Runs.ret ⟨?_, g1⟩
  unfold btR
  rw [decide_eq_false (show ¬ n ≤ 65536 by omega)]; simp
 rw [decide_eq_false_iff_not] at c2
 obtain ⟨z, rfl⟩ : ∃ z : Nat, n = (z : Int) := ⟨n.toNat, by omega⟩
 have N1 := N.grow g1
 refine Runs.step (b1.rd 1 rfl (asSl_v _)) (Runs.step (b1.rd 0 rfl (kb _ _)) ?_)
 rw [N.len, wrap64 (n := (z : Int) + 64) (by omega) (by omega), wrap64 (n := (z : Int) + 64 - 1) (by omega) (by omega), show (z : Int) + 64 - 1 = ((z + 63 : Nat) : Int) from by omega, show Int.tdiv ((z + 63 : Nat) : Int) 64 = (((z + 63) / 64 : Nat) : Int) from rfl, wrap64 (by omega) (by omega)]
 have hb : btR (z : Int) w = (decide (w.length = (z + 63) / 64) && (List.range (64 * w.length)).all fun i => decide (i < z) || !wbit w i) := by
  unfold btR
  rw [decide_eq_true (show (0 : Int) ≤ (z : Int) by omega), decide_eq_true (show (z : Int) ≤ 65536 by omega), Int.toNat_natCast]; rfl
 rw [hb]
 refine Runs.cond (fun c3 => ?_) fun c3 => ?_
 ·refine Runs.ret ⟨?_, g1⟩
  rw [Bool.not_eq_true', decide_eq_false_iff_not] at c3
  rw [decide_eq_false (by omega)]; rfl
 rw [Bool.not_eq_false', decide_eq_true_eq] at c3
 have hl : w.length = (z + 63) / 64 := by omega
 rw [decide_eq_true hl, Bool.true_and]
 refine Runs.step (b1.rd 0 rfl (kb _ _)) ?_
 rw [show Int.tmod (z : Int) 64 = ((z % 64 : Nat) : Int) from rfl]
 refine Runs.cond (fun c4 => ?_) fun c4 => ?_
 ·rw [decide_eq_true_eq] at c4
  refine Runs.ret ⟨congrArg AV.bool ?_, g1⟩
  symm
  rw [List.all_eq_true]
  intro i hi
  rw [List.mem_range] at hi
  rw [decide_eq_true (by omega)]; rfl
 rw [decide_eq_false_iff_not] at c4
 have hi : z / 64 < w.length := by omega
 obtain ⟨r, e1, e2⟩ := N1.rdN hi
 refine Runs.step (b1.rd 1 rfl (asSl_v _)) (Runs.step (b1.rd 1 rfl (asSl_v _)) ?_)
 rw [N.len, show ((w.length : Nat) : Int) - 1 = ((z / 64 : Nat) : Int) from by omega, wrap64 (by omega) (by omega)]
 rw [N.len] at e1
 refine Runs.step e1 (Runs.step e2 (Runs.step (b1.rd 0 rfl (kb _ _)) ?_))
 rw [show Int.tmod (z : Int) 64 = ((z % 64 : Nat) : Int) from rfl, ksp]
 refine Runs.ifF (decide_eq_false (by omega)) (Runs.ret ⟨congrArg AV.bool ?_, g1⟩)
 rw [Bool.eq_iff_iff, decide_eq_true_eq, List.all_eq_true, Nat.min_eq_left (by omega)]
 have hx : ((w[z / 64] / 2 ^ (z % 64) : Nat) : Int) = 0 ↔ w[z / 64] < 2 ^ (z % 64) := by
  have := Nat.div_eq_zero_iff (a := w[z / 64]) (b := 2 ^ (z % 64))
  have := Nat.two_pow_pos (z % 64)
  omega
 rw [hx, k8h]
 have hg : w.getD (z / 64) 0 = w[z / 64] := by simp [List.getD, hi]
 constructor
 ·intro H i hi'
  rw [List.mem_range] at hi'
  rcases Nat.lt_or_ge i z with h | h
  ·rw [decide_eq_true h]; rfl
  ·have : i / 64 = z / 64 := by omega
   unfold wbit
   rw [this, hg, H (i % 64) (by omega)]; simp
 ·intro H j hj
  rcases Nat.lt_or_ge j 64 with h | h
  ·have := H (64 * (z / 64) + j) (by rw [List.mem_range]; omega)
   unfold wbit at this
   rw [decide_eq_false (by omega), show (64 * (z / 64) + j) / 64 = z / 64 from by omega, show (64 * (z / 64) + j) % 64 = j from by omega, hg] at this
   simpa using this
  ·exact Nat.testBit_lt_two_pow (Nat.lt_of_lt_of_le (N.lt _ (List.getElem_mem hi)) (show 2 ^ 64 ≤ 2 ^ j from Nat.pow_le_pow_right (by decide) h))
end
end Go.Ab

/- squeezed -/
set_option linter.unusedVariables false
set_option linter.unusedSimpArgs false
set_option maxRecDepth 10000
namespace Go.Ab
open Go.Proofs
def zs (l : List Nat) : List Int := l.map fun x : Nat => (x : Int)
theorem zs_len (l : List Nat) : (zs l).length = l.length := List.length_map _
theorem zs_app (l m : List Nat) : zs (l ++ m) = zs l ++ zs m := List.map_append
theorem kwq {n : Nat} (h : n ≤ 1000000) : growOk Pg n T.int 1 = true := by
 unfold growOk
 rw [k66, k21]
 have h1 : n * 8 ≤ kbc := by simp only [kbc]; omega
 have h2 : n ≤ kbc := by simp only [kbc]; omega
 simp [h1, h2]
def btL (n : Int) (w : List Nat) : List Nat := if btR n w then (List.range n.toNat).filter (wbit w) else []
theorem btR_n {n : Int} {w : List Nat} (h : btR n w = true) : 0 ≤ n ∧ n ≤ 65536 ∧ w.length = (n.toNat + 63) / 64 ∧ ∀ i, i < 64 * w.length → n.toNat ≤ i → wbit w i = false := by
 unfold btR at h
 simp only [Bool.and_eq_true, decide_eq_true_eq, List.all_eq_true, List.mem_range, Bool.or_eq_true, Bool.not_eq_true'] at h
 exact ⟨h.1, h.2.1, h.2.2.1, fun i hi hn => (h.2.2.2 i hi).resolve_left (by omega)⟩
theorem btR_of {n : Int} {w : List Nat} (h1 : 0 ≤ n) (h2 : n ≤ 65536) (h3 : w.length = (n.toNat + 63) / 64) (h4 : ∀ i, i < 64 * w.length → n.toNat ≤ i → wbit w i = false) : btR n w = true := by
 unfold btR
 simp only [Bool.and_eq_true, decide_eq_true_eq, List.all_eq_true, List.mem_range, Bool.or_eq_true, Bool.not_eq_true']
 exact ⟨h1, h2, h3, fun i hi => (Nat.lt_or_ge i n.toNat).imp_right (h4 i hi)⟩
section
variable {h0 : AH} {s : Sl} {w : List Nat} {n : Int}
end
end Go.Ab

/- squeezed -/
set_option linter.unusedVariables false
set_option linter.unusedSimpArgs false
set_option maxRecDepth 10000
namespace Go.Ab
open Go.Proofs
theorem k1c {w : List Nat} {i j : Nat} (hi : i / 64 < w.length) : wbit (w.set (i / 64) (w[i / 64] ||| 2 ^ (i % 64))) j = (decide (j = i) || wbit w j) := by
 unfold wbit
 by_cases h : j / 64 = i / 64
 ·rw [h]
  have : (w.set (i / 64) (w[i / 64] ||| 2 ^ (i % 64))).getD (i / 64) 0 = w[i / 64] ||| 2 ^ (i % 64) := by simp [List.getD, hi]
  rw [this, Nat.testBit_or, Nat.testBit_two_pow]
  have h2 : w.getD (i / 64) 0 = w[i / 64] := by simp [List.getD, hi]
  rw [h2, Bool.or_comm]
  congr 1
  rw [decide_eq_decide]
  omega
 ·have h1 : (w.set (i / 64) (w[i / 64] ||| 2 ^ (i % 64))).getD (j / 64) 0 = w.getD (j / 64) 0 := by
   simp only [List.getD]
   rw [List.getElem?_set_ne (by omega)]
  rw [h1]
  have : ¬ j = i := fun e => h (by rw [e])
  simp [this]
theorem k9s (n i : Nat) : wbit (List.replicate n 0) i = false := by
 unfold wbit
 have : (List.replicate n 0).getD (i / 64) 0 = 0 := by
  simp only [List.getD, List.getElem?_replicate]
  split <;> rfl
 rw [this]
 exact Nat.zero_testBit _
section
variable {h0 : AH}
theorem kt4 {n : Nat} (hn : n ≤ 65536) : Runs (go (.fn F.kk3 [.int .i64 (n : Int)]) h0) fun v h' => Grow h0 h' ∧ ∃ (s : Sl) (i : Nat), v = .tup [.agg [.int .i64 (n : Int), s.v], .int .i64 0] ∧ h0.blks.size ≤ i ∧ Vec h' s i (List.replicate ((n + 63) / 64) 0) := by
 rw [kbb7]
 refine Runs.new fun h1 b1 g1 => Runs.ifF (decide_eq_false (by omega)) (Runs.ifF (decide_eq_false (by omega)) ?_)
 rw [wrap64 (n := (n : Int) + 64) (by omega) (by omega), wrap64 (n := (n : Int) + 64 - 1) (by omega) (by omega), show (n : Int) + 64 - 1 = ((n + 63 : Nat) : Int) from by omega, show Int.tdiv ((n + 63 : Nat) : Int) 64 = (((n + 63) / 64 : Nat) : Int) from rfl, wrap64 (by omega) (by omega)]
 refine Runs.mk (kd4 (by omega)) kc8 fun s h2 V g2 => ?_
 refine Runs.puts (g2.has b1) rfl fun h3 b3 u3 => ?_
 refine Runs.step (b3.rd 0 rfl (kb _ _)) (Runs.step (b3.rd 1 rfl (asSl_v _)) (Runs.ret ⟨(g1.trans g2).updr (Nat.le_refl _) u3, s, h1.blks.size, rfl, g1.size, V.updr (by have := b1.lt; omega) u3⟩))
end
end Go.Ab

/- squeezed -/
set_option linter.unusedVariables false
set_option linter.unusedSimpArgs false
set_option maxRecDepth 10000
namespace Go.Ab
open Go.Proofs
theorem k3d {w : List Nat} {i : Nat} (hi : i < w.length) : (List.range (64 * (i + 1))).filter (wbit w) = (List.range (64 * i)).filter (wbit w) ++ (ones w[i]).map (fun k => 64 * i + k) := by
 rw [Nat.mul_add, Nat.mul_one, List.range_add, List.filter_append, List.filter_map]
 congr 1
 unfold ones
 congr 1
 apply List.filter_congr
 intro k hk
 rw [List.mem_range] at hk
 simp only [Function.comp, wbit]
 rw [show (64 * i + k) / 64 = i from by omega, show (64 * i + k) % 64 = k from by omega]
 simp [List.getD, hi]
section
variable {w : List Nat} {s : Sl} {l : Nat}
theorem k50 {Inv : List Nat → AH → Prop} (hT : ∀ d h, Inv d h → Tab h) (hround : ∀ d i h, Inv d h → i < 64 * w.length → d.length < 64 * w.length → Runs (go (.round l [.int .i64 (i : Int)]) h) fun v h' => v = .bool true ∧ Inv (d ++ [i]) h') (hl : w.length ≤ 2000) {i : Nat} (hi : i < w.length) {P : AV → AH → Prop} :
  ∀ (n x : Nat), x < 18446744073709551616 → (ones x).length = n → ∀ (d : List Nat) (h : AH), d.length + n ≤ 64 * w.length → Inv d h → (∀ h', Inv (d ++ (ones x).map (fun k => 64 * i + k)) h' → Runs (go (.pt F.kb2 Td.kjf [(0, .func (.yield l) [] []), (6, s.v), (7, .int .i64 (w.length : Int)), (8, .int .i64 ((i + 1 : Nat) : Int))]) h') P) →
  Runs (go (.pt F.kb2 Td.knw [(0, .func (.yield l) [] []), (3, .int .i64 (i : Int)), (4, .int .u64 (x : Int)), (6, s.v), (7, .int .i64 (w.length : Int)), (8, .int .i64 (i : Int))]) h) P := by
 intro n
 induction n with
 | zero =>
  intro x hx hn d h hd I H
  have hx0 : x = 0 := by
   rcases Nat.eq_zero_or_pos x with h0 | h0
   ·exact h0
   ·obtain ⟨k, m, hk, rfl⟩ := kti 64 x (by omega) hx
    rw [krt hk] at hn
    simp at hn
  subst hx0
  rw [kvk]
  refine Runs.ifF (by rfl) ?_
  rw [ko (by omega)]
  rw [ktn] at H
  exact H h (by simpa using I)
 | succ n ih =>
  intro x hx hn d h hd I H
  have hx0 : x ≠ 0 := fun e => by subst e; rw [ktn] at hn; simp at hn
  obtain ⟨k, m, hk, hxe⟩ := kti 64 x hx0 hx
  subst hxe
  rw [krt hk] at hn H
  rw [kvk]
  refine Runs.ifT (by rw [decide_eq_false (by omega)]; rfl) ?_
  refine Runs.step (tz_is (hT _ _ I) hk hx) (Runs.step (seen rfl) ?_)
  rw [wrap64 (n := 64 * (i : Int)) (by omega) (by omega), wrap64 (by omega) (by omega), show 64 * (i : Int) + (k : Int) = ((64 * i + k : Nat) : Int) from by omega]
  refine (hround d (64 * i + k) h I (by omega) (by omega)).call fun v h1 ⟨e, I1⟩ => ?_
  subst e
  refine Runs.step (seen rfl) (Runs.ifF rfl ?_)
  have e1 : IntKind.wrap .u64 (((2 ^ (k + 1) * m + 2 ^ k : Nat) : Int) - 1) = ((2 ^ (k + 1) * m + 2 ^ k - 1 : Nat) : Int) := by
   have := Nat.two_pow_pos k
   generalize 2 ^ (k + 1) * m + 2 ^ k = W at *
   rw [wrapU]
   omega
  have hle : 2 ^ (k + 1) * m < 18446744073709551616 := by
   have := Nat.two_pow_pos k
   exact Nat.lt_of_le_of_lt (Nat.le_add_right _ _) hx
  dsimp only
  rw [e1, krn hx (by omega), kba3]
  refine ih _ hle (by simpa using hn) (d ++ [64 * i + k]) h1 (by rw [List.length_append, List.length_singleton]; omega) I1 fun h' I' => H h' ?_
  simpa using I'
theorem k68 {Inv : List Nat → AH → Prop} (hT : ∀ d h, Inv d h → Tab h) (hN : ∀ d h, Inv d h → Nats h s w) (hround : ∀ d i h, Inv d h → i < 64 * w.length → d.length < 64 * w.length → Runs (go (.round l [.int .i64 (i : Int)]) h) fun v h' => v = .bool true ∧ Inv (d ++ [i]) h') (hl : w.length ≤ 2000) :
  ∀ (k i : Nat), i + k = w.length → ∀ h, Inv ((List.range (64 * i)).filter (wbit w)) h →
  Runs (go (.pt F.kb2 Td.kjf [(0, .func (.yield l) [] []), (6, s.v), (7, .int .i64 (w.length : Int)), (8, .int .i64 (i : Int))]) h) fun v h' => v = .tup [] ∧ Inv ((List.range (64 * w.length)).filter (wbit w)) h' := by
 intro k
 induction k with
 | zero =>
  intro i hi h I
  obtain rfl : i = w.length := by omega
  rw [ks0]
  exact Runs.ifF (decide_eq_false (by omega)) (Runs.ret ⟨rfl, I⟩)
 | succ k ih =>
  intro i hi h I
  have hlt : i < w.length := by omega
  obtain ⟨r, e1, e2⟩ := (hN _ _ I).rdN hlt
  rw [ks0]
  refine Runs.ifT (decide_eq_true (by omega)) (Runs.step e1 (Runs.step e2 ?_))
  refine k50 hT hround hl hlt _ _ ((hN _ _ I).lt _ (List.getElem_mem hlt)) rfl _ h ?_ I fun h' I' => ?_
  ·have h1 := List.length_filter_le (wbit w) (List.range (64 * i))
   have h2 := List.length_filter_le w[i].testBit (List.range 64)
   rw [List.length_range] at h1 h2
   show _ + ((List.range 64).filter _).length ≤ _
   omega
  rw [← k3d hlt] at I'
  exact ih (i + 1) (by omega) h' I'
end
end Go.Ab

/- squeezed -/
set_option linter.unusedVariables false
set_option linter.unusedSimpArgs false
set_option maxRecDepth 10000
namespace Go.Ab
open Go.Proofs
noncomputable def aNote (st : LoopState) (b : Nat) (g : AV) : ABlk := kgj Fx.kqd F.kd7 0 st none [(0, (⟨none, 0, .is 0⟩ : Sl).v), (1, g), (2, .ptr (some (.new b 0))), (4, (⟨none, 0, .is 0⟩ : Sl).v), (6, g)]
structure Coll (h0 : AH) (b l : Nat) (g : AV) (d : List Nat) (h : AH) : Prop where
 grow : Grow h0 h
 note : h.blks[l]? = some (aNote .ready b g)
 out : ∃ (t : Sl) (j : Option Nat), h.has b [t.v] T.ke6 ∧ LeO (l + 1) j ∧ GF EI T.int h Fp.no t j (zs d)
theorem kfp {m n : Nat} (h : m < n) : ∀ {j : Option Nat}, LeO n j → ∀ k, j = some k → k ≠ m
 | some x, l, k, e => by cases e; have : n ≤ x := l; omega
theorem k85 {h0 h : AH} {b l : Nat} {g : AV} {d : List Nat} (hb : h0.blks.size ≤ b) (hbl : b < l) (I : Coll h0 b l g d h) (hd : d.length < 900000) (i : Nat) : Runs (go (.round l [.int .i64 (i : Int)]) h) fun v h' => v = .bool true ∧ Coll h0 b l g (d ++ [i]) h' := by
 obtain ⟨G, hn, t, j, B, lj, V⟩ := I
 have hl : l < h.blks.size := (Array.getElem?_eq_some_iff.1 hn).1
 rw [k5o l none _ _ _ _ _ _ _ hn, kte (h := h) hn, Option.bind_some]
 generalize hq : h.setBlk l _ = h1
 have u1 : Upd h h1 l := by rw [← hq]; exact AH.setBlk_Upd _
 have n1 : h1.blks[l]? = some (aNote .busy b g) := by rw [← hq]; exact AH.setBlk_get hl
 have B1 : h1.has b [t.v] T.ke6 := B.updr (by omega) u1
 have V1 : GF EI T.int h1 Fp.no t j (zs d) := V.upd u1 Fp.not_no (kfp (Nat.lt_succ_self l) lj)
 refine Runs.step (B1.rd0 rfl (asSl_v _)) ?_
 refine Runs.new fun h2 b2 g2 => ?_
 refine Runs.step (kqn b2 (by rw [ku1]; rfl)) ?_
 obtain ⟨t', h3, e3, V3, u3⟩ := (V1.grow g2).push (T := Fp.no) (cs := [.int .i64 (i : Int)]) (x := (i : Int)) rfl NotO.no (kwq (by rw [zs_len]; omega))
 refine Runs.step e3 (Runs.step (asSl_v _) ?_)
 have m3 : Md (Fp.opt j) h2 h3 := u3.md fun k e => e
 have no : ∀ {m : Nat}, m ≤ l → ¬ Fp.opt j m := fun hm e => kfp (Nat.lt_succ_of_le hm) lj _ e rfl
 have B3 : h3.has b [t.v] T.ke6 := m3.has (g2.has B1) (no (by omega))
 have n3 : h3.blks[l]? = some (aNote .busy b g) := m3.get ((g2.blk l (Array.getElem?_eq_some_iff.1 n1).1).trans n1) (no (Nat.le_refl _))
 refine Runs.puts B3 rfl fun h4 B4 u4 => ?_
 have n4 : h4.blks[l]? = some (aNote .busy b g) := (u4.blk l (by omega) (Array.getElem?_eq_some_iff.1 n3).1).trans n3
 rw [ktk n4]
 have u5 : Upd h4 (h4.setBlk l (aNote .ready b g)) l := AH.setBlk_Upd _
 have hs : h.blks.size ≤ h2.blks.size := Nat.le_trans u1.size g2.size
 refine Runs.ret ⟨rfl, ?_, AH.setBlk_get (Array.getElem?_eq_some_iff.1 n4).1, t', some h2.blks.size, B4.updr (by omega) u5, show l + 1 ≤ h2.blks.size by omega, ?_⟩
 ·have G2 : Grow h0 h2 := (G.updr (by omega) u1).trans g2
  have G3 : Grow h0 h3 := G2.updo (LeO.trans (by omega) lj) u3
  exact (G3.updr hb u4).updr (by omega) u5
 ·rw [zs_app]
  have V4 : GF EI T.int h3 Fp.no t' (some h2.blks.size) (zs d ++ [(i : Int)]) := V3.mono (fun j x => x.1.elim id id) NotO.no
  have := (V4.upd u4 Fp.not_no fun k e => by cases e; omega).upd u5 Fp.not_no fun k e => by cases e; omega
  exact this
section
variable {h0 : AH} {s : Sl} {w : List Nat} {n : Int}
theorem k0y (T0 : Tab h0) (N : Nats h0 s w) : Runs (go (.fn F.kl5 [.agg [.int .i64 n, s.v]]) h0) fun v h' => Grow h0 h' ∧ ∃ (t' : Sl) (j' : Option Nat), v = t'.v ∧ LeO h0.blks.size j' ∧ GF EI T.int h' Fp.no t' j' (zs (btL n w)) := by
 rw [kyq]
 refine Runs.new fun h1 b1 g1 => Runs.step (b1.rd 0 rfl (kb _ _)) (Runs.step (b1.rd 1 rfl (asSl_v _)) ?_)
 refine (kk4 (N.grow g1)).call fun v h2 ⟨e, g2⟩ => ?_
 subst e
 refine Runs.step (seen rfl) ?_
 cases hR : btR n w with
 | false =>
  refine Runs.ifT rfl (Runs.ret ⟨g1.trans g2, _, none, rfl, trivial, ?_⟩)
  unfold btL
  rw [hR]
  exact GF.none _ _ _ _
 | true =>
  obtain ⟨hn0, hn1, hlen, hov⟩ := btR_n hR
  refine Runs.ifF rfl (Runs.step ((g2.has b1).rd 0 rfl (kb _ _)) (Runs.step ((g2.has b1).rd 1 rfl (asSl_v _)) ?_))
  have k0 : Runs (go (.fn F.koh [.agg [.int .i64 n, s.v]]) h2) fun v h' => v = .func (.func F.kb2) [] [.ptr (some (.new h2.blks.size 0))] ∧ h'.has h2.blks.size [.int .i64 n, s.v] T.ks ∧ Grow h2 h' := by
   rw [k46]
   exact Runs.new fun h3 b3 g3 => Runs.ret ⟨rfl, b3, g3⟩
  refine k0.call fun v h3 ⟨e, b3, g3⟩ => ?_
  subst e
  have G3 : Grow h0 h3 := (g1.trans g2).trans g3
  have key : Runs (go (.fn F.kd7 [(⟨none, 0, .is 0⟩ : Sl).v, .func (.func F.kb2) [] [.ptr (some (.new h2.blks.size 0))]]) h3) fun v h' => Grow h3 h' ∧ ∃ (t' : Sl) (j' : Option Nat), v = t'.v ∧ LeO h3.blks.size j' ∧ GF EI T.int h' Fp.no t' j' (zs (btL n w)) := by
   rw [k8z]
   refine Runs.new fun h4 b4 g4 => ?_
   rw [k2c, kw7]
   refine Runs.newM fun h5 hb g5 => ?_
   rw [k5j]
   generalize hgv : (AV.func (.func F.kb2) [] [AV.ptr (some (Ref.new h2.blks.size 0))]) = gv at hb
   have s4 : h3.blks.size < h4.blks.size := b4.lt
   have b3' : h5.has h2.blks.size [.int .i64 n, s.v] T.ks := g5.has (g4.has b3)
   have I0 : Coll h3 h3.blks.size h4.blks.size gv [] h5 := ⟨g4.trans g5, hb, _, none, g5.has b4, trivial, GF.none _ _ _ _⟩
   have N3 : Nats h3 s w := N.grow G3
   have T3 : Tab h3 := T0.grow G3
   have k1 : Runs (go (.fn F.kb2 [.func (.yield h4.blks.size) [] [], .ptr (some (.new h2.blks.size 0))]) h5) fun v h' => v = .tup [] ∧ Coll h3 h3.blks.size h4.blks.size gv ((List.range (64 * w.length)).filter (wbit w)) h' := by
    rw [k06]
    refine Runs.step (b3'.rd 1 rfl (asSl_v _)) ?_
    rw [N.len]
    exact k68 (Inv := Coll h3 h3.blks.size h4.blks.size gv) (fun d h I => T3.grow I.grow) (fun d h I => N3.grow I.grow) (fun d i h I hi hd => k85 (Nat.le_refl _) s4 I (by omega) i) (by omega) w.length 0 (by omega) h5 (by simpa using I0)
   refine k1.call fun v h6 ⟨e, I⟩ => ?_
   obtain ⟨G, hn, t, j, B, lj, V⟩ := I
   rw [ku6 hn, Option.bind_some]
   rw [k0c]
   have hl := (Array.getElem?_eq_some_iff.1 hn).1
   have u6 : Upd h6 (h6.setBlk h4.blks.size .dead) h4.blks.size := AH.setBlk_Upd _
   refine Runs.step ((B.updr (by omega) u6).rd0 rfl (asSl_v _)) (Runs.ret ⟨G.updr (by omega) u6, t, j, rfl, LeO.trans (by omega) lj, ?_⟩)
   have e : btL n w = (List.range (64 * w.length)).filter (wbit w) := by
    unfold btL
    rw [hR, if_pos rfl]
    obtain ⟨z, rfl⟩ : ∃ z : Nat, n = (z : Int) := ⟨n.toNat, by omega⟩
    rw [Int.toNat_natCast] at hlen hov ⊢
    obtain ⟨q, hq⟩ : ∃ q, 64 * w.length = z + q := ⟨64 * w.length - z, by omega⟩
    rw [hq, List.range_add, List.filter_append]
    have : ((List.range q).map (z + ·)).filter (wbit w) = [] := List.filter_eq_nil_iff.2 fun x hx => by
     rw [List.mem_map] at hx
     obtain ⟨y, hy, rfl⟩ := hx
     rw [List.mem_range] at hy
     rw [hov (z + y) (by omega) (by omega)]
     simp
    rw [this, List.append_nil]
   rw [e]
   exact V.upd u6 Fp.not_no (kfp (Nat.lt_succ_self _) lj)
  have k2 : Runs (go (.fn F.koa [.func (.func F.kb2) [] [.ptr (some (.new h2.blks.size 0))]]) h3) fun v h' => Grow h3 h' ∧ ∃ (t' : Sl) (j' : Option Nat), v = t'.v ∧ LeO h3.blks.size j' ∧ GF EI T.int h' Fp.no t' j' (zs (btL n w)) := by
   rw [k18]
   refine key.call fun v h' ⟨g, t', j', e, lj, V⟩ => ?_
   subst e
   exact Runs.step (seen (asSl_v _)) (Runs.ret ⟨g, t', j', rfl, lj, V⟩)
  refine k2.call fun v h' ⟨g, t', j', e, lj, V⟩ => ?_
  subst e
  exact Runs.step (seen (asSl_v _)) (Runs.ret ⟨G3.trans g, t', j', rfl, LeO.trans G3.size lj, V⟩)
end
end Go.Ab

/- squeezed -/
set_option linter.unusedVariables false
set_option linter.unusedSimpArgs false
set_option maxRecDepth 10000
namespace Go.Ab
open Go.Proofs
theorem k02 {w : List Nat} {i x : Nat} (hi : i < w.length) (j : Nat) : wbit (w.set i x) j = if j / 64 = i then x.testBit (j % 64) else wbit w j := by
 unfold wbit
 split
 ·rename_i h
  rw [h]
  have : (w.set i x).getD i 0 = x := by simp [List.getD, hi]
  rw [this]
 ·rename_i h
  have : (w.set i x).getD (j / 64) 0 = w.getD (j / 64) 0 := by
   simp only [List.getD]
   rw [List.getElem?_set_ne (by omega)]
  rw [this]
theorem kwz {w : List Nat} {j : Nat} (h : w.length ≤ j / 64) : wbit w j = false := by
 unfold wbit
 have : w.getD (j / 64) 0 = 0 := by simp [List.getD, h]
 rw [this]
 exact Nat.zero_testBit _
section
variable {h0 : AH} {S : Fp} {s : Sl}
theorem k9i {xs : List Int} (n : Sq EI h0 S s xs) {b : Nat} {z : Int} {e : TypeId} (hb : h0.has b [.int .i64 z] e) : Runs (go (.fn F.kc3 [s.v, .func (.func F.kc0) [] [.ptr (some (.new b 0))]]) h0) fun v h' => v = .bool (xs.any fun x => decide (x < 0) || decide (x ≥ z)) ∧ Grow h0 h' := by
 rw [k5d]
 refine Runs.contains (xs := xs) ?_
 rw [k8o, n.len]
 refine kmi (n := xs.length) (G := fun y h => go (.pt F.kbb Td.kb6 [(0, s.v), (1, .func (.func F.kc0) [] [.ptr (some (.new b 0))]), (7, .int .i64 (xs.length : Int)), (8, .int .i64 y)]) h) (fun i h P hi g hT hF => ?_) (fun h g => ?_) xs.length 0 (by omega) (Grow.refl h0) (fun j hj => by omega)
 ·obtain ⟨r, e1, e2⟩ := (n.grow g).int hi
  rw [List.getElem?_eq_getElem hi] at hT hF
  simp only [Option.any_some] at hT hF
  show Runs (go _ _) _
  rw [ksc]
  refine Runs.ifT (decide_eq_true (by omega)) (Runs.step e1 (Runs.step e2 ?_))
  have key : Runs (go (.fn F.kc0 [.int .i64 xs[i], .ptr (some (.new b 0))]) h) fun v h' => v = .bool (decide (xs[i] < 0) || decide (xs[i] ≥ z)) ∧ h' = h := by
   rw [k0z]
   cases decide (xs[i] < 0)
   ·refine Runs.ifF rfl (Runs.step rfl (Runs.step ((g.has hb).rd0 rfl (kb _ _)) ?_))
    exact Runs.ret ⟨rfl, rfl⟩
   ·exact Runs.ret ⟨rfl, rfl⟩
  refine key.call fun v h' ⟨ev, eh⟩ => ?_
  subst ev; subst eh
  refine Runs.step (seen rfl) ?_
  rw [ko (by have := n.short; omega)]
  exact Runs.cond (fun c => Runs.ret (hT _ g c)) fun c => hF _ g c
 ·rw [ksc, condF (decide_eq_false (by omega))]
theorem k1o {l : List Nat} {n : Nat} (q : Sq EI h0 S s (zs l)) (hl : ∀ x ∈ l, x < n) (hn : n ≤ 65536) {b c i : Nat} {t : Sl} (hb : h0.blks.size ≤ b) (hci : c ≠ i) (hbc : b ≠ c) (hbi : b ≠ i) (hi : h0.blks.size ≤ i) : ∀ (k j : Nat), j + k = l.length → ∀ (h : AH) (w : List Nat), Grow h0 h → (∃ cs : List AV, cs.length = 2 ∧ h.has b cs T.ks) → h.has c [.int .i64 (n : Int), t.v] T.ks → Vec h t i w → w.length = (n + 63) / 64 → (∀ m, wbit w m = decide (m ∈ l.take j)) →
  Runs (go (.pt F.kha Td.klz [(4, .ptr (some (.new b 0))), (6, .ptr (some (.new c 0))), (23, s.v), (24, .int .i64 (l.length : Int)), (25, .int .i64 (j : Int))]) h) fun v h' => Grow h0 h' ∧ ∃ (t : Sl) (w : List Nat), v = .tup [.agg [.int .i64 (n : Int), t.v], .int .i64 0] ∧ Nats h' t w ∧ w.length = (n + 63) / 64 ∧ Own h0 t ∧ ∀ m, wbit w m = decide (m ∈ l) := by
 intro k
 induction k with
 | zero =>
  intro j hj h w g ⟨cs, hcs, B⟩ C V hw hm
  obtain rfl : j = l.length := by omega
  rw [ksv]
  refine Runs.ifF (decide_eq_false (by omega)) (Runs.step (C.rd 0 rfl (kb _ _)) (Runs.step (C.rd 1 rfl (asSl_v _)) ?_))
  refine Runs.puts B (by rw [hcs]; rfl) fun h1 B1 u1 => ?_
  refine Runs.step (B1.rd 0 rfl (kb _ _)) (Runs.step (B1.rd 1 rfl (asSl_v _)) (Runs.ret ⟨g.updr hb u1, t, w, rfl, (V.updr (fun e => hbi e.symm) u1).nats, hw, V.own hi, fun m => ?_⟩))
  rw [hm, List.take_length]
 | succ k ih =>
  intro j hj h w g hB C V hw hm
  have hj' : j < (zs l).length := by rw [zs_len]; omega
  obtain ⟨r, e1, e2⟩ := (q.grow g).int hj'
  have hx : (zs l)[j] = ((l[j]'(by omega) : Nat) : Int) := by simp [zs]
  have hjl : j < l.length := by omega
  have hxn : l[j] < n := hl _ (List.getElem_mem hjl)
  have hq : l[j] / 64 < w.length := by omega
  rw [ksv]
  refine Runs.ifT (decide_eq_true (by omega)) (Runs.step e1 (Runs.step e2 ?_))
  rw [hx]
  refine Runs.step (C.rd 1 rfl (asSl_v _)) ?_
  rw [show Int.tdiv ((l[j] : Nat) : Int) 64 = ((l[j] / 64 : Nat) : Int) from rfl, wrap64 (by omega) (by omega), show Int.tmod ((l[j] : Nat) : Int) 64 = ((l[j] % 64 : Nat) : Int) from rfl, V.len]
  refine Runs.step (V.idx rfl (ku hq)) (Runs.step (V.rd rfl (ku hq) (kb _ _)) (Runs.ifF (decide_eq_false (by omega)) (Runs.step (V.idx rfl (ku hq)) ?_)))
  have hwl : w[l[j] / 64] < 18446744073709551616 := V.lt _ (List.getElem_mem hq)
  have hpl : 2 ^ (l[j] % 64) < 2 ^ 64 := Nat.pow_lt_pow_right (by decide) (by omega)
  have hgd : w.getD (l[j] / 64) 0 = w[l[j] / 64] := by simp [List.getD, hq]
  rw [hgd, kbca (by omega), or_nat hwl hpl]
  refine Runs.vput V rfl (ku hq) (kz (Nat.or_lt_two_pow (n := 64) hwl hpl)) fun h1 V1 u1 => ?_
  rw [ko (by have := q.short; rw [zs_len] at this; omega)]
  obtain ⟨cs, hcs, B⟩ := hB
  refine ih (j + 1) (by omega) h1 _ (g.updr hi u1) ⟨cs, hcs, B.updr hbi u1⟩ (C.updr hci u1) V1 (by rw [List.length_set]; exact hw) fun m => ?_
  rw [k1c hq, hm, List.take_succ_eq_append_getElem hjl, Bool.eq_iff_iff]
  simp only [Bool.or_eq_true, decide_eq_true_eq, List.mem_append, List.mem_singleton]
  exact Or.comm
theorem kbbq {l : List Nat} {n : Nat} (q : Sq EI h0 S s (zs l)) (hl : ∀ x ∈ l, x < n) (hn : n ≤ 65536) : Runs (go (.fn F.kha [.int .i64 (n : Int), s.v]) h0) fun v h' => Grow h0 h' ∧ ∃ (t : Sl) (w : List Nat), v = .tup [.agg [.int .i64 (n : Int), t.v], .int .i64 0] ∧ Nats h' t w ∧ w.length = (n + 63) / 64 ∧ Own h0 t ∧ ∀ m, wbit w m = decide (m ∈ l) := by
 rw [kbau]
 refine Runs.new fun h1 b1 g1 => Runs.new fun h2 b2 g2 => Runs.step ((g2.has b1).rd0 rfl (kb _ _)) ?_
 refine (kt4 hn).call fun v h3 ⟨g3, t, i, e, hi, V⟩ => ?_
 subst e
 refine Runs.step rfl (Runs.step rfl (Runs.ifT rfl (Runs.step rfl (Runs.step (seenAt rfl (asSl_v _)) (Runs.step rfl ?_)))))
 dsimp only
 refine Runs.new fun h4 b4 g4 => Runs.puts b4 rfl fun h5 b5 u5 => Runs.ifF rfl ?_
 have s1 : h0.blks.size < h1.blks.size := b1.lt
 have s2 : h1.blks.size < h2.blks.size := b2.lt
 have s3 : i < h3.blks.size := V.inn
 have s4 : h2.blks.size ≤ h3.blks.size := g3.size
 have G4 : Grow h0 h4 := (((g1.trans g2).trans g3).trans g4)
 have G5 : Grow h0 h5 := G4.updr (by have := G4.size; omega) u5
 have G25 : Grow h2 h5 := (g3.trans g4).updr (by omega) u5
 refine (k9i (q.grow G5) (G25.has (g2.has b1))).call fun v h6 ⟨e, g6⟩ => ?_
 subst e
 have hany : ((zs l).any fun x => decide (x < 0) || decide (x ≥ (n : Int))) = false := by
  rw [List.any_eq_false]
  intro x hx
  unfold zs at hx
  rw [List.mem_map] at hx
  obtain ⟨y, hy, rfl⟩ := hx
  have := hl y hy
  simp
  omega
 rw [hany]
 refine Runs.step (seen rfl) (Runs.ifF rfl ?_)
 rw [q.len, zs_len]
 have V6 : Vec h6 t i (List.replicate ((n + 63) / 64) 0) := ((V.grow g4).updr (by omega) u5).grow g6
 exact k1o q hl hn (b := h1.blks.size) (c := h3.blks.size) (i := i) (by omega) (by omega) (by omega) (by omega) (by omega) l.length 0 (by omega) h6 _ (G5.trans g6) ⟨_, rfl, g6.has (G25.has b2)⟩ (g6.has b5) V6 (by simp) (fun m => by rw [k9s]; simp)
end
end Go.Ab

/- squeezed -/
set_option linter.unusedVariables false
set_option linter.unusedSimpArgs false
set_option maxRecDepth 10000
namespace Go.Ab
open Go.Proofs
def andL (n1 : Int) (w1 : List Nat) (n2 : Int) (w2 : List Nat) : List Nat := if btR n1 w1 && (btR n2 w2 && decide (n1 = n2)) then (btL n1 w1).filter (wbit w2) else []
def SetP (h0 : AH) (l : List Nat) (v : AV) (h' : AH) : Prop := Grow h0 h' ∧ ∃ (n : Int) (t : Sl) (w : List Nat) (e : Int), v = .tup [.agg [.int .i64 n, t.v], .int .i64 e] ∧ Nats h' t w ∧ Own h0 t ∧ btL n w = l
theorem k3y : btL 0 [] = [] := by
 unfold btL
 split <;> rfl
section
variable {h0 : AH} {s1 s2 : Sl} {w1 w2 : List Nat} {n1 n2 : Int}
theorem kz7 (N1 : Nats h0 s1 w1) (N2 : Nats h0 s2 w2) (hl : w1.length = w2.length) (hs : w1.length ≤ 2000) {b1 b2 b3 b4 i : Nat} {t : Sl} {x1 x2 : Int} (i1 : b1 ≠ i) (i2 : b2 ≠ i) (i3 : b3 ≠ i) (i4 : b4 ≠ i) (h3 : h0.blks.size ≤ b3) (hi : h0.blks.size ≤ i) : ∀ (k j : Nat), j + k = w1.length → ∀ (h : AH) (w : List Nat), Grow h0 h → h.has b1 [.int .i64 x1, s1.v] T.ks → h.has b2 [.int .i64 x2, s2.v] T.ks → (∃ cs : List AV, cs.length = 2 ∧ h.has b3 cs T.ks) → h.has b4 [.int .i64 n1, t.v] T.ks → Vec h t i w → w.length = w1.length → (∀ m, m / 64 < j → wbit w m = (wbit w1 m && wbit w2 m)) →
  Runs (go (.pt F.kga Td.kll [(2, .func (.func F.kek) [] []), (3, .ptr (some (.new b1 0))), (4, .ptr (some (.new b2 0))), (6, .ptr (some (.new b3 0))), (8, .ptr (some (.new b4 0))), (9, .int .i64 0), (35, .int .i64 (w1.length : Int)), (36, .int .i64 (j : Int))]) h) fun v h' => Grow h0 h' ∧ ∃ (t : Sl) (w : List Nat), v = .tup [.agg [.int .i64 n1, t.v], .int .i64 0] ∧ Nats h' t w ∧ w.length = w1.length ∧ Own h0 t ∧ ∀ m, wbit w m = (wbit w1 m && wbit w2 m) := by
 intro k
 induction k with
 | zero =>
  intro j hj h w g B1 B2 ⟨cs, hcs, B3⟩ B4 V hw hm
  obtain rfl : j = w1.length := by omega
  rw [ktl]
  refine Runs.ifF (decide_eq_false (by omega)) (Runs.step (B4.rd 0 rfl (kb _ _)) (Runs.step (B4.rd 1 rfl (asSl_v _)) ?_))
  refine Runs.puts B3 (by rw [hcs]; rfl) fun h1 B5 u1 => ?_
  refine Runs.step (B5.rd 0 rfl (kb _ _)) (Runs.step (B5.rd 1 rfl (asSl_v _)) (Runs.ret ⟨g.updr h3 u1, t, w, rfl, (V.updr (fun e => i3 e.symm) u1).nats, hw, V.own hi, fun m => ?_⟩))
  rcases Nat.lt_or_ge (m / 64) w1.length with h' | h'
  ·exact hm m h'
  ·rw [kwz (by omega), kwz (w := w1) h']; rfl
 | succ k ih =>
  intro j hj h w g B1 B2 ⟨cs, hcs, B3⟩ B4 V hw hm
  have j1 : j < w1.length := by omega
  have j2 : j < w2.length := by omega
  obtain ⟨r1, e1, e2⟩ := (N1.grow g).rdN j1
  obtain ⟨r2, e3, e4⟩ := (N2.grow g).rdN j2
  rw [ktl]
  refine Runs.ifT (decide_eq_true (by omega)) (Runs.step (B4.rd 1 rfl (asSl_v _)) (Runs.step (B1.rd 1 rfl (asSl_v _)) (Runs.step e1 (Runs.step e2 (Runs.step (B2.rd 1 rfl (asSl_v _)) (Runs.step e3 (Runs.step e4 ?_)))))))
  have a1 : w1[j] < 18446744073709551616 := N1.lt _ (List.getElem_mem j1)
  have a2 : w2[j] < 18446744073709551616 := N2.lt _ (List.getElem_mem j2)
  refine Runs.step (k9n _ _ _) (Runs.step (seen rfl) ?_)
  rw [krn a1 a2]
  refine Runs.when ((Grow.refl h).same B4 1 1) ?_
  rw [V.len]
  have hq : j < w.length := by omega
  have hlt : w1[j] &&& w2[j] < 18446744073709551616 := Nat.lt_of_le_of_lt Nat.and_le_left a1
  refine Runs.step (V.idx rfl (ku hq)) (Runs.vput V rfl (ku hq) (kz hlt) fun h1 V1 u1 => ?_)
  rw [ko (by omega)]
  refine ih (j + 1) (by omega) h1 _ (g.updr hi u1) (B1.updr i1 u1) (B2.updr i2 u1) ⟨cs, hcs, B3.updr i3 u1⟩ (B4.updr i4 u1) V1 (by rw [List.length_set]; exact hw) fun m hm' => ?_
  rw [k02 hq]
  split
  ·rename_i hmj
   subst hmj
   rw [Nat.testBit_and]
   unfold wbit
   simp [List.getD, j1, j2]
  ·exact hm m (by omega)
theorem ky6 (N1 : Nats h0 s1 w1) (N2 : Nats h0 s2 w2) : Runs (go (.fn F.kga [.agg [.int .i64 n1, s1.v], .agg [.int .i64 n2, s2.v], .func (.func F.kek) [] []]) h0) (SetP h0 (andL n1 w1 n2 w2)) := by
 rw [k2d]
 refine Runs.new fun h1 b1 g1 => Runs.new fun h2 b2 g2 => Runs.new fun h3 b3 g3 => ?_
 have B1 := g3.has (g2.has b1)
 have B2 := g3.has b2
 have G3 : Grow h0 h3 := (g1.trans g2).trans g3
 have s1' : h0.blks.size < h1.blks.size := b1.lt
 have s2' : h1.blks.size < h2.blks.size := b2.lt
 have s3' : h2.blks.size < h3.blks.size := b3.lt
 refine Runs.step (B1.rd 0 rfl (kb _ _)) (Runs.step (B1.rd 1 rfl (asSl_v _)) ?_)
 refine (kk4 (N1.grow G3)).call fun v h4 ⟨e, g4⟩ => ?_
 subst e
 refine Runs.step (seen rfl) ?_
 have bad : ∀ {h : AH}, Grow h3 h → andL n1 w1 n2 w2 = [] → Runs ((h.puts (Ref.new h2.blks.size 0) [.int .i64 0, (⟨none, 0, .is 0⟩ : Sl).v]).bind fun h12 =>
   ((h12.cell ((Ref.new h2.blks.size 0).add 0)).bind (AV.asInt .i64)).bind fun n13 => ((h12.cell ((Ref.new h2.blks.size 0).add 1)).bind AV.asSl).bind fun l14 => some (.tup [.agg [.int .i64 n13, l14.v], .int .i64 1], h12)) (SetP h0 (andL n1 w1 n2 w2)) := by
  intro h g e
  refine Runs.puts (g.has b3) rfl fun h' b' u' => Runs.step (b'.rd 0 rfl (kb _ _)) (Runs.step (b'.rd 1 rfl (asSl_v _)) (Runs.ret ⟨(G3.trans g).updr (by omega) u', 0, _, [], 1, rfl, Nats.nil _, Own.nil _, ?_⟩))
  rw [e, k3y]
 refine Runs.cond (fun c => bad g4 ?_) fun c => ?_
 ·rw [Bool.not_eq_true'] at c
  unfold andL
  rw [c]; rfl
 rw [Bool.not_eq_false'] at c
 have B2' := g4.has B2
 refine Runs.step (B2'.rd 0 rfl (kb _ _)) (Runs.step (B2'.rd 1 rfl (asSl_v _)) ?_)
 refine (kk4 (N2.grow (G3.trans g4))).call fun v h5 ⟨e, g5⟩ => ?_
 subst e
 refine Runs.step (seen rfl) ?_
 have g35 : Grow h3 h5 := g4.trans g5
 refine Runs.cond (fun c2 => bad g35 ?_) fun c2 => ?_
 ·rw [Bool.not_eq_true'] at c2
  unfold andL
  rw [c, c2]; rfl
 rw [Bool.not_eq_false'] at c2
 refine Runs.step ((g35.has B1).rd 0 rfl (kb _ _)) (Runs.step ((g35.has B2).rd 0 rfl (kb _ _)) ?_)
 refine Runs.cond (fun c3 => bad g35 ?_) fun c3 => ?_
 ·rw [Bool.not_eq_true', decide_eq_false_iff_not] at c3
  unfold andL
  rw [c, c2, decide_eq_false c3]; rfl
 rw [Bool.not_eq_false', decide_eq_true_eq] at c3
 subst c3
 obtain ⟨p0, p1, p2, p3⟩ := btR_n c
 obtain ⟨-, -, q2, q3⟩ := btR_n c2
 obtain ⟨z, rfl⟩ : ∃ z : Nat, n1 = (z : Int) := ⟨n1.toNat, by omega⟩
 rw [Int.toNat_natCast] at p2 q2 p3 q3
 refine Runs.step ((g35.has B1).rd 0 rfl (kb _ _)) ?_
 refine (kt4 (n := z) (by omega)).call fun v h6 ⟨g6, t, i, e, hi, V⟩ => ?_
 have hi : h5.blks.size ≤ i := hi
 subst e
 refine Runs.step rfl (Runs.step rfl (Runs.ifT rfl (Runs.step rfl (Runs.step (seenAt rfl (asSl_v _)) (Runs.step rfl ?_)))))
 dsimp only
 refine Runs.new fun h7 b7 g7 => Runs.puts b7 rfl fun h8 b8 u8 => Runs.step (b8.rd 1 rfl (asSl_v _)) ?_
 have s6 : i < h6.blks.size := V.inn
 have s5 : h3.blks.size ≤ h5.blks.size := g35.size
 have s6' : h5.blks.size ≤ h6.blks.size := g6.size
 have g38 : Grow h3 h8 := ((g35.trans g6).trans g7).updr (by omega) u8
 have V8 : Vec h8 t i (List.replicate ((z + 63) / 64) 0) := (V.grow g7).updr (by omega) u8
 rw [V8.len, List.length_replicate, ← p2]
 have := kz7 (n1 := (z : Int)) (x1 := (z : Int)) (x2 := (z : Int)) N1 N2 (by omega) (by omega) (b1 := h0.blks.size) (b2 := h1.blks.size) (b3 := h2.blks.size) (b4 := h6.blks.size) (i := i) (t := t) (by omega) (by omega) (by omega) (by omega) (by omega) (by omega) w1.length 0 (by omega) h8 _ (G3.trans g38) (g38.has B1) (g38.has B2) ⟨_, rfl, g38.has b3⟩ b8 V8 (by rw [List.length_replicate, p2]) (fun m hm => absurd hm (Nat.not_lt_zero _))
 refine this.imp fun v h' ⟨g, t', w, e, N, hw, o, hm⟩ => ⟨g, (z : Int), t', w, 0, e, N, o, ?_⟩
 have hR : btR (z : Int) w = true := btR_of p0 p1 (by rw [Int.toNat_natCast]; omega) fun m hm1 hm2 => by
  rw [hm, p3 m (by omega) hm2]; rfl
 unfold andL btL
 rw [hR, c, c2, decide_eq_true rfl, Int.toNat_natCast]
 simp only [Bool.and_self, if_true, List.filter_filter]
 apply List.filter_congr
 intro x _
 rw [hm, Bool.and_comm]
theorem kzv (N1 : Nats h0 s1 w1) (N2 : Nats h0 s2 w2) : Runs (go (.fn F.knc [.agg [.int .i64 n1, s1.v], .agg [.int .i64 n2, s2.v]]) h0) (SetP h0 (andL n1 w1 n2 w2)) := by
 rw [k8r]
 refine Runs.new fun h1 b1 g1 => Runs.new fun h2 b2 g2 => Runs.new fun h3 b3 g3 => ?_
 have B1 := g3.has (g2.has b1)
 have B2 := g3.has b2
 have G3 : Grow h0 h3 := (g1.trans g2).trans g3
 refine Runs.step (B1.rd 0 rfl (kb _ _)) (Runs.step (B1.rd 1 rfl (asSl_v _)) (Runs.step (B2.rd 0 rfl (kb _ _)) (Runs.step (B2.rd 1 rfl (asSl_v _)) ?_)))
 refine (ky6 (N1.grow G3) (N2.grow G3)).call fun v h4 ⟨g4, n, t, w, e, he, N, ho, hb⟩ => ?_
 subst he
 refine Runs.step rfl (Runs.step rfl (Runs.ifT rfl (Runs.step rfl (Runs.step (seenAt rfl (asSl_v _)) (Runs.step rfl ?_)))))
 dsimp only
 have s1 : h0.blks.size < h1.blks.size := b1.lt
 have s2 : h1.blks.size < h2.blks.size := b2.lt
 refine Runs.puts (g4.has b3) rfl fun h5 b5 u5 => Runs.step (b5.rd 0 rfl (kb _ _)) (Runs.step (b5.rd 1 rfl (asSl_v _)) (Runs.ret ⟨(G3.trans g4).updr (by omega) u5, n, t, w, e, rfl, N.updr ho b3.lt u5, ho.of_le G3, hb⟩))
end
end Go.Ab

/- squeezed -/
set_option linter.unusedVariables false
set_option linter.unusedSimpArgs false
set_option maxRecDepth 10000
namespace Go.Ab
open Go.Proofs
theorem kjk {t : Tb} (h : tabR t = true) : t.ids.length ≤ 256 ∧ t.cols.length ≤ 16 ∧ t.bins.length = t.cols.length ∧ ∀ i, i < t.cols.length → colR t i = true := by
 unfold tabR idsR at h
 simp only [Bool.and_eq_true, decide_eq_true_eq, List.all_eq_true, List.mem_range, Bool.not_eq_true', decide_eq_false_iff_not] at h
 exact ⟨h.1.1.1.1, by omega, h.1.2, h.2⟩
theorem kng {t : Tb} {i : Nat} (h : colR t i = true) (hi : i < t.cols.length) (hb : t.bins.length = t.cols.length) : ∃ hb' : i < t.bins.length, 2 ≤ t.bins[i] ∧ t.bins[i] ≤ 32 ∧ t.cols[i].length = t.ids.length := by
 unfold colR at h
 have hb' : i < t.bins.length := by omega
 simp only [Bool.and_eq_true, decide_eq_true_eq, Bool.not_eq_true', decide_eq_false_iff_not, List.getD, List.getElem?_eq_getElem hi, List.getElem?_eq_getElem hb', Option.getD_some] at h
 exact ⟨hb', by omega, by omega, h.1.2⟩
def leftP (t : Tb) (f : Nat) (c : Int) (i : Nat) : Bool := decide ((t.cols.getD f []).getD i 0 ≤ c)
def leftR (t : Tb) (f : Nat) (c : Int) : List Nat := (List.range t.ids.length).filter (leftP t f c)
section
variable {h0 : AH} {S : Fp} {s1 s2 s3 : Sl} {t : Tb}
theorem k1d {s : Sl} {f : Nat} {c : Int} (hf : f < t.cols.length) (hc : t.cols[f].length = t.ids.length) (hids : t.ids.length ≤ 256) (q : Sq EI h0 S s t.cols[f]) {b1 b2 : Nat} {cs2 : List AV} (n1 : Sq EI h0 S s1 t.ids) (B1 : h0.has b1 [s1.v, s2.v, s3.v] T.kea) (B2 : h0.has b2 [.int .i64 0, (⟨none, 0, .is 0⟩ : Sl).v] T.ks) {ha : AH} (ga : Grow ha h0) (hb2 : ha.blks.size ≤ b2) : ∀ (k i : Nat), i + k = t.ids.length → ∀ (h : AH) (x : Sl) (j : Option Nat), Grow h0 h → LeO h0.blks.size j → GF EI T.int h Fp.no x j (zs ((List.range i).filter (leftP t f c))) →
  Runs (go (.pt F.ke8 Td.kjv [(2, .int .i64 c), (3, .ptr (some (.new b1 0))), (6, .ptr (some (.new b2 0))), (8, x.v), (44, s.v), (45, .int .i64 (t.ids.length : Int)), (46, .int .i64 (i : Int))]) h) fun v h' => Grow ha h' ∧ ∃ (y : Sl) (w : List Nat), v = .tup [.agg [.int .i64 (t.ids.length : Int), y.v], .int .i64 0] ∧ Nats h' y w ∧ Own ha y ∧ w.length = (t.ids.length + 63) / 64 ∧ ∀ m, wbit w m = decide (m ∈ leftR t f c) := by
 intro k
 induction k with
 | zero =>
  intro i hi h x j g lj V
  obtain rfl : i = t.ids.length := by omega
  rw [kwy]
  refine Runs.ifF (decide_eq_false (by omega)) (Runs.step ((g.has B1).rd 0 rfl (asSl_v _)) ?_)
  rw [n1.len]
  refine (kbbq (S := Fp.or (Fp.opt j) Fp.no) (l := leftR t f c) (n := t.ids.length) V.sq (fun y hy => ?_) (by omega)).call fun v h1 ⟨g1, y, w, e, N, hw, o, hm⟩ => ?_
  ·unfold leftR at hy
   rw [List.mem_filter, List.mem_range] at hy
   exact hy.1
  subst e
  refine Runs.step rfl (Runs.step rfl (Runs.ifT rfl (Runs.step rfl (Runs.step (seenAt rfl (asSl_v _)) (Runs.step rfl ?_)))))
  dsimp only
  have hlt := (g.has B2).lt
  refine Runs.puts (g1.has (g.has B2)) rfl fun h2 b2' u2 => Runs.step (b2'.rd 0 rfl (kb _ _)) (Runs.step (b2'.rd 1 rfl (asSl_v _)) (Runs.ret ⟨?_, y, w, rfl, N.updr o hlt u2, ?_, hw, hm⟩))
  ·exact ((ga.trans g).trans g1).updr hb2 u2
  ·exact o.of_le (ga.trans g)
 | succ k ih =>
  intro i hi h x j g lj V
  have hi' : i < t.cols[f].length := by omega
  obtain ⟨r, e1, e2⟩ := (q.grow g).int hi'
  rw [q.len, hc] at e1
  rw [kwy]
  have hp : leftP t f c i = decide (t.cols[f][i] ≤ c) := by
   unfold leftP
   simp [List.getD, hf, hi']
  have hr : (List.range (i + 1)).filter (leftP t f c) = (List.range i).filter (leftP t f c) ++ if leftP t f c i then [i] else [] := by
   rw [List.range_succ, List.filter_append]
   cases hq : leftP t f c i <;> simp [hq]
  have hlen : (zs ((List.range i).filter (leftP t f c))).length ≤ i := by
   rw [zs_len]
   exact Nat.le_trans (List.length_filter_le _ _) (by simp)
  refine Runs.ifT (decide_eq_true (by omega)) ?_
  rw [q.len, hc]
  refine Runs.step e1 (Runs.step e2 (Runs.cond (fun k1 => ?_) fun k1 => ?_))
  ·refine Runs.new fun h2 b2 g2 => ?_
   refine Runs.step (kqn b2 (by rw [ku1]; rfl)) ?_
   have V2 := V.grow g2
   obtain ⟨y, h3, e3, V3, u3⟩ := V2.push (T := Fp.no) (cs := [.int .i64 (i : Int)]) (x := (i : Int)) rfl NotO.no (kwq (by omega))
   refine Runs.step e3 (Runs.step (asSl_v _) ?_)
   rw [ko (by omega)]
   refine ih (i + 1) (by omega) h3 y (some h2.blks.size) ((g.trans g2).updo lj u3) (show _ ≤ _ from (g.trans g2).size) ?_
   rw [hr, hp, k1, if_pos rfl, zs_app]
   exact V3.mono (fun j x => x.1.elim id id) NotO.no
  ·rw [ko (by omega)]
   refine ih (i + 1) (by omega) h x j g lj ?_
   rw [hr, hp, k1]
   simpa using V
theorem kbcg (n : TabAt h0 S s1 s2 s3 t) (hR : tabR t = true) {f : Nat} {c : Nat} (hf : f < t.cols.length) (hc : (c : Int) < t.bins.getD f 0) : Runs (go (.fn F.ke8 [.agg [s1.v, s2.v, s3.v], .int .i64 (f : Int), .int .i64 (c : Int)]) h0) fun v h' => Grow h0 h' ∧ ∃ (y : Sl) (w : List Nat), v = .tup [.agg [.int .i64 (t.ids.length : Int), y.v], .int .i64 0] ∧ Nats h' y w ∧ Own h0 y ∧ w.length = (t.ids.length + 63) / 64 ∧ ∀ m, wbit w m = decide (m ∈ leftR t f (c : Int)) := by
 obtain ⟨hids, hcols, hbins, hall⟩ := kjk hR
 obtain ⟨hb, h2, h32, hcl⟩ := kng (hall f hf) hf hbins
 rw [k5r]
 refine Runs.new fun h1 b1 g1 => Runs.new fun h2 b2 g2 => ?_
 have B1 := g2.has b1
 refine Runs.step (B1.rd 0 rfl (asSl_v _)) (Runs.step (B1.rd 1 rfl (asSl_v _)) (Runs.step (B1.rd 2 rfl (asSl_v _)) ?_))
 refine (ktb (n.grow (g1.trans g2))).call fun v h3 ⟨e, g3⟩ => ?_
 subst e
 rw [hR]
 refine Runs.step (seen rfl) (Runs.ifF rfl (Runs.ifF (decide_eq_false (by omega)) ?_))
 have G3 : Grow h0 h3 := (g1.trans g2).trans g3
 have B1' := g3.has B1
 refine Runs.step (B1'.rd 2 rfl (asSl_v _)) ?_
 rw [n.cols.len]
 refine Runs.ifF (decide_eq_false (by omega)) (Runs.ifF (decide_eq_false (by omega)) (Runs.step (B1'.rd 1 rfl (asSl_v _)) ?_))
 obtain ⟨r, e1, e2⟩ := (n.bins.grow G3).int hb
 have hgd : t.bins.getD f 0 = t.bins[f] := by simp [List.getD, hb]
 rw [hgd] at hc
 refine Runs.step e1 (Runs.step e2 (Runs.ifF (decide_eq_false (by omega)) (Runs.step (B1'.rd 2 rfl (asSl_v _)) ?_)))
 obtain ⟨r2, s', e3, e4, -, q⟩ := (n.cols.grow G3).sl hf
 refine Runs.step e3 (Runs.step e4 ?_)
 rw [q.len, hcl]
 have s1' := b1.lt
 exact k1d (cs2 := []) hf hcl hids q ((n.grow G3).ids) B1' (g3.has b2) G3 (by have := g1.size; omega) t.ids.length 0 (by omega) h3 _ none (Grow.refl h3) trivial (GF.none _ _ _ _)
end
end Go.Ab

/- squeezed -/
set_option linter.unusedVariables false
set_option linter.unusedSimpArgs false
set_option maxRecDepth 10000
namespace Go.Ab
open Go.Proofs
def nb (t : Tb) (f : Nat) : Nat := (t.bins.getD f 0).toNat - 1
def cutsTo (t : Tb) (f : Nat) : List (Nat × Nat) := (List.range f).flatMap fun f => (List.range (nb t f)).map fun c => (f, c)
def cutsL (t : Tb) : List (Nat × Nat) := if tabR t then cutsTo t t.cols.length else []
def rowsL (t : Tb) (n : Int) (w : List Nat) (p : Nat × Nat) : List Nat := if btR n w && decide ((t.ids.length : Int) = n) then (leftR t p.1 (p.2 : Int)).filter (wbit w) else []
theorem ktq (t : Tb) (f : Nat) : cutsTo t (f + 1) = cutsTo t f ++ (List.range (nb t f)).map fun c => (f, c) := by
 unfold cutsTo
 rw [List.range_succ, List.flatMap_append]
 simp
theorem kry (t : Tb) : ∀ f : Nat, (∀ i, i < f → nb t i ≤ 31) → (cutsTo t f).length ≤ 31 * f
 | 0, _ => by simp [cutsTo]
 | f + 1, h => by
  rw [ktq, List.length_append, List.length_map, List.length_range]
  have := kry t f fun i hi => h i (by omega)
  have := h f (by omega)
  omega
section
variable {S : Fp} {s1 s2 s3 s : Sl} {t : Tb} {n : Int} {w : List Nat} {l b1 b2 : Nat}
structure EachOk (S : Fp) (s1 s2 s3 s : Sl) (t : Tb) (n : Int) (w : List Nat) (b1 b2 : Nat) (h : AH) : Prop where
 tab : Tab h
 at' : TabAt h S s1 s2 s3 t
 nats : Nats h s w
 has1 : h.has b1 [s1.v, s2.v, s3.v] T.kea
 has2 : h.has b2 [.int .i64 n, s.v] T.ks
theorem EachOk.grow {h h' : AH} (e : EachOk S s1 s2 s3 s t n w b1 b2 h) (g : Grow h h') : EachOk S s1 s2 s3 s t n w b1 b2 h' := ⟨e.tab.grow g, e.at'.grow g, e.nats.grow g, g.has e.has1, g.has e.has2⟩
theorem k56 {h : AH} (E : EachOk S s1 s2 s3 s t n w b1 b2 h) (hR : tabR t = true) {f c : Nat} (hf : f < t.cols.length) (hc : (c : Int) < t.bins.getD f 0) {K : Sl → AH → Option (AV × AH)} {P : AV → AH → Prop} (H : ∀ (y : Sl) (j : Option Nat) (h' : AH), Grow h h' → GF EI T.int h' Fp.no y j (zs (rowsL t n w (f, c))) → Runs (K y h') P) :
  Runs (((h.cell ((Ref.new b1 0).add 0)).bind AV.asSl).bind fun l10 =>
   ((h.cell ((Ref.new b1 0).add 1)).bind AV.asSl).bind fun l11 =>
   ((h.cell ((Ref.new b1 0).add 2)).bind AV.asSl).bind fun l12 =>
   (go (.fn F.ke8 [.agg [l10.v, l11.v, l12.v], .int .i64 (f : Int), .int .i64 (c : Int)]) h).bind fun q13 =>
   (AV.asTup2 q13.1).bind fun p14 =>
   (AV.asAgg p14.1).bind fun cs15 =>
   cond (Nat.beq cs15.length 2) (
   ((cs15[0]?).bind (AV.asInt .i64)).bind fun n16 =>
   ((cs15[1]?).bind AV.asSl).bind fun l17 =>
   ((some p14.2).bind (AV.asInt .i64)).bind fun n18 =>
   newK q13.2 (.cells [.int .i64 0, (⟨none, 0, .is 0⟩ : Sl).v] T.ks) fun h19r h19 =>
   (h19.puts h19r [.int .i64 n16, l17.v]).bind fun h20 =>
   ((h20.cell (h19r.add 0)).bind (AV.asInt .i64)).bind fun n21 =>
   ((h20.cell (h19r.add 1)).bind AV.asSl).bind fun l22 =>
   ((h20.cell ((Ref.new b2 0).add 0)).bind (AV.asInt .i64)).bind fun n23 =>
   ((h20.cell ((Ref.new b2 0).add 1)).bind AV.asSl).bind fun l24 =>
   (go (.fn F.knc [.agg [.int .i64 n21, l22.v], .agg [.int .i64 n23, l24.v]]) h20).bind fun q25 =>
   (AV.asTup2 q25.1).bind fun p26 =>
   (AV.asAgg p26.1).bind fun cs27 =>
   cond (Nat.beq cs27.length 2) (
   ((cs27[0]?).bind (AV.asInt .i64)).bind fun n28 =>
   ((cs27[1]?).bind AV.asSl).bind fun l29 =>
   ((some p26.2).bind (AV.asInt .i64)).bind fun n30 =>
   (q25.2.puts h19r [.int .i64 n28, l29.v]).bind fun h31 =>
   ((h31.cell (h19r.add 0)).bind (AV.asInt .i64)).bind fun n32 =>
   ((h31.cell (h19r.add 1)).bind AV.asSl).bind fun l33 =>
   (go (.fn F.kl5 [.agg [.int .i64 n32, l33.v]]) h31).bind fun q34 =>
   ((some q34.1).bind AV.asSl).bind fun l35 => K l35 q34.2) none) none) P := by
 refine Runs.step (E.has1.rd 0 rfl (asSl_v _)) (Runs.step (E.has1.rd 1 rfl (asSl_v _)) (Runs.step (E.has1.rd 2 rfl (asSl_v _)) ?_))
 refine (kbcg E.at' hR hf hc).call fun v h1 ⟨g1, y1, w1, e, N1, o1, l1, m1⟩ => ?_
 subst e
 refine Runs.step rfl (Runs.step rfl (Runs.ifT rfl (Runs.step rfl (Runs.step (seenAt rfl (asSl_v _)) (Runs.step rfl ?_)))))
 dsimp only
 refine Runs.new fun h2 b3 g2 => Runs.puts b3 rfl fun h3 b4 u3 => ?_
 have G3 : Grow h1 h3 := g2.updr (Nat.le_refl _) u3
 have E3 := E.grow (g1.trans G3)
 refine Runs.step (b4.rd 0 rfl (kb _ _)) (Runs.step (b4.rd 1 rfl (asSl_v _)) (Runs.step (E3.has2.rd 0 rfl (kb _ _)) (Runs.step (E3.has2.rd 1 rfl (asSl_v _)) ?_)))
 refine (kzv (N1.grow G3) E3.nats).call fun v h4 ⟨g4, n4, y4, w4, e4, he, N4, o4, hb⟩ => ?_
 subst he
 refine Runs.step rfl (Runs.step rfl (Runs.ifT rfl (Runs.step rfl (Runs.step (seenAt rfl (asSl_v _)) (Runs.step rfl ?_)))))
 dsimp only
 refine Runs.puts (g4.has b4) rfl fun h5 b5 u5 => Runs.step (b5.rd 0 rfl (kb _ _)) (Runs.step (b5.rd 1 rfl (asSl_v _)) ?_)
 have G5 : Grow h1 h5 := (G3.trans g4).updr (Nat.le_refl _) u5
 have G05 : Grow h h5 := g1.trans G5
 refine (k0y (n := n4) (E.tab.grow G05) (N4.updr o4 b4.lt u5)).call fun v h6 ⟨g6, y6, j6, e, lj, V⟩ => ?_
 subst e
 refine Runs.step (seen (asSl_v _)) ?_
 refine H y6 j6 h6 (G05.trans g6) ?_
 rw [hb] at V
 have hids := (kjk hR).1
 have hov : ∀ i, t.ids.length ≤ i → wbit w1 i = false := fun i hi => by
  rw [m1, decide_eq_false]
  intro hm
  unfold leftR at hm
  rw [List.mem_filter, List.mem_range] at hm
  omega
 have hR1 : btR (t.ids.length : Int) w1 = true := btR_of (by omega) (by omega) (by rw [Int.toNat_natCast]; exact l1) fun i _ hi => hov i (by rw [Int.toNat_natCast] at hi; exact hi)
 have hL1 : btL (t.ids.length : Int) w1 = leftR t f (c : Int) := by
  unfold btL
  rw [hR1, if_pos rfl, Int.toNat_natCast]
  unfold leftR
  apply List.filter_congr
  intro i hi
  rw [m1]
  unfold leftR
  rw [Bool.eq_iff_iff, decide_eq_true_eq, List.mem_filter]
  exact ⟨fun h => h.2, fun h => ⟨hi, h⟩⟩
 have : andL (t.ids.length : Int) w1 n w = rowsL t n w (f, c) := by
  unfold andL rowsL
  rw [hR1, hL1, Bool.true_and]
 rw [this] at V
 exact V
theorem k0b {Inv : List (Nat × Nat) → AH → Prop} (hE : ∀ d h, Inv d h → EachOk S s1 s2 s3 s t n w b1 b2 h) (hG : ∀ d h h', Inv d h → Grow h h' → Inv d h') (hR : tabR t = true)
  (hround : ∀ (d : List (Nat × Nat)) (f c : Nat) (h : AH) (y : Sl) (j : Option Nat), f < t.cols.length → (c : Int) < t.bins.getD f 0 → d.length < 1000 → Inv d h → GF EI T.int h Fp.no y j (zs (rowsL t n w (f, c))) → Runs (go (.round l [.agg [.int .i64 (f : Int), .int .i64 (c : Int)], y.v]) h) fun v h' => v = .bool true ∧ Inv (d ++ [(f, c)]) h')
  {f : Nat} (hf : f < t.cols.length) {P : AV → AH → Prop} (hP : ∀ h, Inv (cutsTo t (f + 1)) h → Runs (go (.pt F.kb0 Td.kks [(0, .func (.yield l) [] []), (1, .ptr (some (.new b1 0))), (2, .ptr (some (.new b2 0))), (10, s2.v), (11, .int .i64 (t.bins.length : Int)), (12, .int .i64 ((f + 1 : Nat) : Int))]) h) P) :
  ∀ (k c : Nat), c + k = nb t f → ∀ h, Inv (cutsTo t f ++ (List.range c).map fun c => (f, c)) h →
  Runs (go (.pt F.kb0 Td.kjr [(0, .func (.yield l) [] []), (1, .ptr (some (.new b1 0))), (2, .ptr (some (.new b2 0))), (4, .int .i64 (f : Int)), (10, s2.v), (11, .int .i64 (t.bins.length : Int)), (12, .int .i64 (f : Int)), (18, .int .i64 (nb t f : Int)), (19, .int .i64 (c : Int))]) h) P := by
 obtain ⟨hids, hcols, hbins, hall⟩ := kjk hR
 obtain ⟨hb, hb2, hb32, hcl⟩ := kng (hall f hf) hf hbins
 have hgd : t.bins.getD f 0 = t.bins[f] := by simp [List.getD, hb]
 have hnb : (nb t f : Int) = t.bins[f] - 1 := by
  unfold nb
  rw [hgd]
  omega
 have hlen : (cutsTo t f).length ≤ 31 * f := kry t f fun i hi => by
  obtain ⟨hb', h2', h32', -⟩ := kng (hall i (by omega)) (by omega) hbins
  have : t.bins.getD i 0 = t.bins[i] := by simp [List.getD, hb']
  unfold nb
  rw [this]
  omega
 intro k
 induction k with
 | zero =>
  intro c hc h I
  obtain rfl : c = nb t f := by omega
  rw [← ktq] at I
  rw [ktf]
  refine Runs.ifF (decide_eq_false (by omega)) ?_
  rw [ko (by omega)]
  exact hP h I
 | succ k ih =>
  intro c hc h I
  rw [ktf]
  refine Runs.ifT (decide_eq_true (by omega)) ?_
  have hcb : (c : Int) < t.bins.getD f 0 := by rw [hgd]; omega
  refine k56 (hE _ _ I) hR hf hcb (K := fun y h' => (go (.round l [.agg [.int .i64 (f : Int), .int .i64 (c : Int)], y.v]) h').bind fun q36 => ((some q36.1).bind AV.asBool).bind fun b37 => cond (!b37) (some (.tup [], q36.2)) (go (.pt F.kb0 Td.kjr [(0, .func (.yield l) [] []), (1, .ptr (some (.new b1 0))), (2, .ptr (some (.new b2 0))), (4, .int .i64 (f : Int)), (10, s2.v), (11, .int .i64 (t.bins.length : Int)), (12, .int .i64 (f : Int)), (18, .int .i64 (nb t f : Int)), (19, .int .i64 (IntKind.wrap .i64 ((c : Int) + 1)))]) q36.2)) fun y j h1 g1 V => ?_
  refine (hround _ f c h1 y j hf hcb ?_ (hG _ _ _ I g1) V).call fun v h2 ⟨e, I2⟩ => ?_
  ·rw [List.length_append, List.length_map, List.length_range]
   omega
  subst e
  refine Runs.step (seen rfl) (Runs.ifF rfl ?_)
  rw [ko (by omega)]
  refine ih (c + 1) (by omega) h2 ?_
  rw [List.range_succ, List.map_append, ← List.append_assoc]
  exact I2
theorem k6k {Inv : List (Nat × Nat) → AH → Prop} (hE : ∀ d h, Inv d h → EachOk S s1 s2 s3 s t n w b1 b2 h) (hG : ∀ d h h', Inv d h → Grow h h' → Inv d h') (hR : tabR t = true)
  (hround : ∀ (d : List (Nat × Nat)) (f c : Nat) (h : AH) (y : Sl) (j : Option Nat), f < t.cols.length → (c : Int) < t.bins.getD f 0 → d.length < 1000 → Inv d h → GF EI T.int h Fp.no y j (zs (rowsL t n w (f, c))) → Runs (go (.round l [.agg [.int .i64 (f : Int), .int .i64 (c : Int)], y.v]) h) fun v h' => v = .bool true ∧ Inv (d ++ [(f, c)]) h') :
  ∀ (k f : Nat), f + k = t.cols.length → ∀ h, Inv (cutsTo t f) h →
  Runs (go (.pt F.kb0 Td.kks [(0, .func (.yield l) [] []), (1, .ptr (some (.new b1 0))), (2, .ptr (some (.new b2 0))), (10, s2.v), (11, .int .i64 (t.bins.length : Int)), (12, .int .i64 (f : Int))]) h) fun v h' => v = .tup [] ∧ Inv (cutsTo t t.cols.length) h' := by
 obtain ⟨hids, hcols, hbins, hall⟩ := kjk hR
 intro k
 induction k with
 | zero =>
  intro f hf h I
  obtain rfl : f = t.cols.length := by omega
  rw [kui]
  exact Runs.ifF (decide_eq_false (by omega)) (Runs.ret ⟨rfl, I⟩)
 | succ k ih =>
  intro f hf h I
  have hf' : f < t.cols.length := by omega
  obtain ⟨hb, hb2, hb32, hcl⟩ := kng (hall f hf') hf' hbins
  obtain ⟨r, e1, e2⟩ := (hE _ _ I).at'.bins.int hb
  rw [(hE _ _ I).at'.bins.len] at e1
  rw [kui]
  refine Runs.ifT (decide_eq_true (by omega)) ?_
  rw [(hE _ _ I).at'.bins.len]
  refine Runs.step e1 (Runs.step e2 ?_)
  have hgd : t.bins.getD f 0 = t.bins[f] := by simp [List.getD, hb]
  rw [wrap64 (by omega) (by omega), show t.bins[f] - 1 = (nb t f : Int) from by unfold nb; rw [hgd]; omega]
  exact k0b hE hG hR hround hf' (fun h I => ih (f + 1) (by omega) h I) (nb t f) 0 (by omega) h (by simpa using I)
theorem k2b {Inv : List (Nat × Nat) → AH → Prop} (hE : ∀ d h, Inv d h → EachOk S s1 s2 s3 s t n w b1 b2 h) (hG : ∀ d h h', Inv d h → Grow h h' → Inv d h') (hR : tabR t = true)
  (hround : ∀ (d : List (Nat × Nat)) (f c : Nat) (h : AH) (y : Sl) (j : Option Nat), f < t.cols.length → (c : Int) < t.bins.getD f 0 → d.length < 1000 → Inv d h → GF EI T.int h Fp.no y j (zs (rowsL t n w (f, c))) → Runs (go (.round l [.agg [.int .i64 (f : Int), .int .i64 (c : Int)], y.v]) h) fun v h' => v = .bool true ∧ Inv (d ++ [(f, c)]) h') {h : AH} (I : Inv [] h) :
  Runs (go (.fn F.kb0 [.func (.yield l) [] [], .ptr (some (.new b1 0)), .ptr (some (.new b2 0))]) h) fun v h' => v = .tup [] ∧ Inv (cutsL t) h' := by
 rw [k1g]
 refine Runs.step ((hE _ _ I).has1.rd 1 rfl (asSl_v _)) ?_
 rw [(hE _ _ I).at'.bins.len]
 unfold cutsL
 rw [hR, if_pos rfl]
 exact k6k hE hG hR hround t.cols.length 0 (by omega) h I
end
end Go.Ab

/- squeezed -/
set_option linter.unusedVariables false
set_option linter.unusedSimpArgs false
set_option maxRecDepth 10000
namespace Go.Ab
open Go.Proofs
@[reducible] def EP : Ef (Int × Int) := Ef.pair EI EI
theorem EP.of {h : AH} {S : Fp} (a b : Int) : EP.has h S [.int .i64 a, .int .i64 b] (a, b) := ⟨[.int .i64 a], [.int .i64 b], rfl, rfl, rfl⟩
theorem Sq.two {h : AH} {S : Fp} {s : Sl} {xs : List (Int × Int)} (n : Sq EP h S s xs) {i : Nat} (hi : i < xs.length) : ∃ r : Ref, idx s.ref s.len (i : Int) 2 = some r ∧ (h.cell (r.add 0)).bind (AV.asInt .i64) = some xs[i].1 ∧ (h.cell (r.add 1)).bind (AV.asInt .i64) = some xs[i].2 := by
 obtain ⟨r, cs, e1, ⟨c1, c2, rfl, a1, a2⟩, l⟩ := n.at (kns hi)
 have a1 : c1 = [.int .i64 xs[i].1] := a1
 have a2 : c2 = [.int .i64 xs[i].2] := a2
 subst a1; subst a2
 rw [n.len]
 exact ⟨r, e1, l.rd (Grow.refl _) 0 rfl (kb _ _), l.rd (Grow.refl _) 1 rfl (kb _ _)⟩
structure Lp {α : Type} (E : Ef α) (elem tl : TypeId) (note : LoopState → ABlk) (hs : AH) (bo l : Nat) (xs : List α) (h : AH) : Prop where
 md : Md (fun m => m = bo ∨ m = l) hs h
 note : h.blks[l]? = some (note .ready)
 out : ∃ (t : Sl) (j : Option Nat), h.has bo [t.v] tl ∧ LeO hs.blks.size j ∧ GF E elem h Fp.no t j xs
section
variable {α : Type} {E : Ef α} {elem tl : TypeId} {note : LoopState → ABlk} {hs h : AH} {bo l : Nat} {xs : List α}
theorem Lp.grow {h' : AH} (L : Lp E elem tl note hs bo l xs h) (g : Grow h h') : Lp E elem tl note hs bo l xs h' :=
 ⟨L.md.thenG g, (g.blk l (Array.getElem?_eq_some_iff.1 L.note).1).trans L.note, L.out.imp fun _ ⟨j, B, lj, V⟩ => ⟨j, g.has B, lj, V.grow g⟩⟩
theorem kbb1 {t : Sl} {j : Option Nat} {x : α} {cs : List AV} {k : Nat} {e' : TypeId} (B : h.has bo [t.v] tl) (hn : h.blks[l]? = some (note .busy)) (hbl : bo ≠ l) (hbs : bo < hs.blks.size) (hls : l < hs.blks.size) (hsh : hs.blks.size ≤ h.blks.size) (lj : LeO hs.blks.size j) (V : GF E elem h Fp.no t j xs) (hx : E.has h Fp.no cs x) (hg : growOk Pg (xs.length + 1) elem E.w = true) (bx : h.has k cs e') (hcs : 1 * Pg.cellsOf elem = cs.length) (hend : ∀ h', h'.blks[l]? = some (note .busy) → kdm l none h' = some (.bool true, h'.setBlk l (note .ready))) :
  Runs ((kbf Pg elem ((⟨some (.new k 0), 1, .is 1⟩ : Sl).v) h).bind fun p => (kp Pg t p.1 p.2 elem E.w h).bind fun q => (AV.asSl q.1).bind fun l12 => (q.2.puts (.new bo 0) [l12.v]).bind fun h13 => kdm l none h13) fun v h' => v = .bool true ∧ Md (fun m => m = bo ∨ m = l ∨ j = some m) h h' ∧ h'.blks[l]? = some (note .ready) ∧ ∃ (t : Sl) (j : Option Nat), h'.has bo [t.v] tl ∧ LeO hs.blks.size j ∧ GF E elem h' Fp.no t j (xs ++ [x]) := by
 refine Runs.step (kqn bx hcs) ?_
 obtain ⟨t', h3, e3, V3, u3⟩ := V.push (T := Fp.no) hx NotO.no hg
 refine Runs.step e3 (Runs.step (asSl_v _) ?_)
 have m3 : Md (Fp.opt j) h h3 := u3.md fun k e => e
 have no : ∀ {m : Nat}, m < hs.blks.size → ¬ Fp.opt j m := fun hm e => kfp hm lj _ e rfl
 have B3 : h3.has bo [t.v] tl := m3.has B (no hbs)
 have n3 : h3.blks[l]? = some (note .busy) := m3.get hn (no hls)
 refine Runs.puts B3 rfl fun h4 B4 u4 => ?_
 have n4 : h4.blks[l]? = some (note .busy) := (u4.blk l (fun e => hbl e.symm) (Array.getElem?_eq_some_iff.1 n3).1).trans n3
 rw [hend _ n4]
 have u5 : Upd h4 (h4.setBlk l (note .ready)) l := AH.setBlk_Upd _
 refine Runs.ret ⟨rfl, ?_, AH.setBlk_get (Array.getElem?_eq_some_iff.1 n4).1, t', some h.blks.size, B4.updr hbl u5, hsh, ?_⟩
 ·refine ((m3.mono fun m _ e => .inr (.inr e)).trans (u4.md (.inl rfl))).trans (u5.md (.inr (.inl rfl)))
 ·have V4 : GF E elem h3 Fp.no t' (some h.blks.size) (xs ++ [x]) := V3.mono (fun j x => x.1.elim id id) NotO.no
  exact (V4.upd u4 Fp.not_no fun k e => by cases e; omega).upd u5 Fp.not_no fun k e => by cases e; omega
theorem Lp.next {xs ys : List α} {h h1 h' : AH} {j : Option Nat} (m1 : Md (fun m => m = bo ∨ m = l) hs h1) (lj : LeO hs.blks.size j) (m2 : Md (fun m => m = bo ∨ m = l ∨ j = some m) h1 h') (hn : h'.blks[l]? = some (note .ready)) (o : ∃ (t : Sl) (j : Option Nat), h'.has bo [t.v] tl ∧ LeO hs.blks.size j ∧ GF E elem h' Fp.no t j ys) : Lp E elem tl note hs bo l ys h' :=
 ⟨m1.next m2 fun m hm t => t.elim .inl fun t => t.elim .inr fun e => absurd rfl (kfp hm lj _ e), hn, o⟩
end
theorem EachOk.md {S T : Fp} {s1 s2 s3 s : Sl} {t : Tb} {n : Int} {w : List Nat} {b1 b2 : Nat} {h h' : AH} (e : EachOk S s1 s2 s3 s t n w b1 b2 h) (m : Md T h h') (d : Dis S T) (dn : ∀ j, ¬ Av s j w → S j) (n1 : ¬ T b1) (n2 : ¬ T b2) : EachOk S s1 s2 s3 s t n w b1 b2 h' :=
 ⟨e.tab.md m, e.at'.md m d, e.nats.mdE dn m d, m.has e.has1 n1, m.has e.has2 n2⟩
theorem TabAt.bound {h : AH} {S : Fp} {s1 s2 s3 : Sl} {t : Tb} (n : TabAt h S s1 s2 s3 t) : TabAt h (Fp.below h.blks.size) s1 s2 s3 t :=
 ⟨n.ids.bound.mono fun _ x => x.2, n.bins.bound.mono fun _ x => x.2, n.cols.bound.mono fun _ x => x.2⟩
section
variable {h0 : AH} {S : Fp} {s1 s2 s3 : Sl} {t : Tb}
end
end Go.Ab

/- squeezed -/
set_option linter.unusedVariables false
set_option linter.unusedSimpArgs false
set_option maxRecDepth 10000
namespace Go.Ab
open Go.Proofs
def faultH (t : Tb) (n : Int) (w : List Nat) (m : Int) : Int := if !tabR t then 20 else if !btR n w then 1 else if !decide (n = (t.ids.length : Int)) then 1 else if !decide (m = (t.ids.length : Int)) then 1 else 0
theorem k86 {t : Tb} {n : Int} {w : List Nat} {m : Int} (h : faultH t n w m = 0) : tabR t = true ∧ btR n w = true ∧ n = (t.ids.length : Int) ∧ m = (t.ids.length : Int) := by
 unfold faultH at h
 grind
def sumG (g : List Int) (l : List Nat) (a : Int) : Int := l.foldl (fun a i => IntKind.wrap .i64 (a + g.getD i 0)) a
def sumsL (g : List Int) (R : Nat × Nat → List Nat) (l : List (Nat × Nat)) : List (Int × Int) := l.map fun p => (sumG g (R p) 0, ((R p).length : Int))
theorem k7i {n : Nat} (h : n ≤ 1000000) : growOk Pg n T.kb5 2 = true := by
 unfold growOk
 rw [kxl, k3t]
 have h1 : n * 16 ≤ kbc := by simp only [kbc]; omega
 have h2 : n * 2 ≤ kbc := by simp only [kbc]; omega
 have h3 : n ≤ kbc := by simp only [kbc]; omega
 simp [h1, h2, h3]
theorem k81 {t : Tb} {n : Int} {w : List Nat} {p : Nat × Nat} : ∀ x ∈ rowsL t n w p, x < t.ids.length := by
 intro x hx
 unfold rowsL at hx
 split at hx
 ·rw [List.mem_filter] at hx
  have := hx.1
  unfold leftR at this
  rw [List.mem_filter, List.mem_range] at this
  exact this.1
 ·simp at hx
theorem kz5 {t : Tb} {n : Int} {w : List Nat} {p : Nat × Nat} : (rowsL t n w p).length ≤ t.ids.length := by
 unfold rowsL
 split
 ·refine Nat.le_trans (List.length_filter_le _ _) ?_
  unfold leftR
  exact Nat.le_trans (List.length_filter_le _ _) (by simp)
 ·simp
section
variable {h0 : AH} {S : Fp} {s1 s2 s3 s u : Sl} {t : Tb} {n : Int} {w : List Nat} {g : List Int}
theorem k40 (q : TabAt h0 S s1 s2 s3 t) (N : Nats h0 s w) {m : Int} : Runs (go (.fn F.kp2 [.agg [s1.v, s2.v, s3.v], .agg [.int .i64 n, s.v], .int .i64 m]) h0) fun v h' => v = .int .i64 (faultH t n w m) ∧ Grow h0 h' := by
 rw [k3a]
 refine Runs.new fun h1 b1 g1 => Runs.new fun h2 b2 g2 => ?_
 have B1 := g2.has b1
 have G2 := g1.trans g2
 refine Runs.step (B1.rd 0 rfl (asSl_v _)) (Runs.step (B1.rd 1 rfl (asSl_v _)) (Runs.step (B1.rd 2 rfl (asSl_v _)) ?_))
 refine (ktb (q.grow G2)).call fun v h3 ⟨e, g3⟩ => ?_
 subst e
 unfold faultH
 refine Runs.step (seen rfl) (Runs.cond (fun c => Runs.ret ⟨by rw [if_pos c], G2.trans g3⟩) fun c => ?_)
 rw [if_neg (by rw [c]; simp)]
 refine Runs.step ((g3.has b2).rd 0 rfl (kb _ _)) (Runs.step ((g3.has b2).rd 1 rfl (asSl_v _)) ?_)
 refine (kk4 (N.grow (G2.trans g3))).call fun v h4 ⟨e, g4⟩ => ?_
 subst e
 have G4 := (G2.trans g3).trans g4
 have b2' := g4.has (g3.has b2)
 have B1' := g4.has (g3.has B1)
 refine Runs.step (seen rfl) (Runs.cond (fun c => Runs.ret ⟨by rw [if_pos c], G4⟩) fun c => ?_)
 rw [if_neg (by rw [c]; simp)]
 refine Runs.step (b2'.rd 0 rfl (kb _ _)) (Runs.step (B1'.rd 0 rfl (asSl_v _)) ?_)
 rw [q.ids.len]
 refine Runs.cond (fun c => Runs.ret ⟨by rw [if_pos c], G4⟩) fun c => ?_
 rw [if_neg (by rw [c]; simp)]
 refine Runs.step (B1'.rd 0 rfl (asSl_v _)) ?_
 rw [q.ids.len]
 refine Runs.cond (fun c => Runs.ret ⟨by rw [if_pos c], G4⟩) fun c => ?_
 rw [if_neg (by rw [c]; simp)]
 exact Runs.ret ⟨rfl, G4⟩
theorem kx5 (q : Sq EI h0 S u g) : Runs (go (.fn F.kc3 [u.v, .func (.func F.kcu) [] []]) h0) fun v h' => v = .bool (g.any fun x => decide (x < -1048576) || decide (x > 1048576)) ∧ Grow h0 h' := by
 rw [k44]
 refine Runs.contains (xs := g) ?_
 rw [k2a, q.len]
 refine kmi (n := g.length) (G := fun z h => go (.pt F.kbb Td.kb6 [(0, u.v), (1, .func (.func F.kcu) [] []), (7, .int .i64 (g.length : Int)), (8, .int .i64 z)]) h) (fun i h P hi gg hT hF => ?_) (fun h gg => ?_) g.length 0 (by omega) (Grow.refl h0) (fun j hj => by omega)
 ·obtain ⟨r, e1, e2⟩ := (q.grow gg).int hi
  rw [List.getElem?_eq_getElem hi] at hT hF
  simp only [Option.any_some] at hT hF
  show Runs (go _ _) _
  rw [kwt]
  refine Runs.ifT (decide_eq_true (by omega)) (Runs.step e1 (Runs.step e2 ?_))
  have key : go (.fn F.kcu [.int .i64 g[i]]) h = some (.bool (decide (g[i] < -1048576) || decide (g[i] > 1048576)), h) := by
   rw [k7k]
   cases decide (g[i] < -1048576) <;> rfl
  refine Runs.step key (Runs.step (seen rfl) ?_)
  rw [ko (by have := q.short; omega)]
  exact Runs.cond (fun c => Runs.ret (hT h gg c)) fun c => hF _ gg c
 ·rw [kwt, condF (decide_eq_false (by omega))]
noncomputable def pNote (s1 s2 s3 : Sl) (n : Int) (s u : Sl) (m : Int) (b1 b2 b3 bo : Nat) (g : AV) (st : LoopState) : ABlk := kgj Fx.kox F.kch 0 st none [(0, .agg [s1.v, s2.v, s3.v]), (1, .agg [.int .i64 n, s.v]), (2, u.v), (3, .ptr (some (.new b1 0))), (4, .ptr (some (.new b2 0))), (5, .ptr (some (.new b3 0))), (6, (⟨none, 0, .is 0⟩ : Sl).v), (7, .int .i64 0), (8, .int .i64 0), (9, .ptr (some (.new bo 0))), (15, .agg [s1.v, s2.v, s3.v]), (16, .agg [.int .i64 n, s.v]), (17, u.v), (18, .int .i64 m), (19, .int .i64 0), (20, .int .i64 0), (21, .bool false), (23, u.v), (24, .bool false), (25, .agg [s1.v, s2.v, s3.v]), (26, .agg [.int .i64 n, s.v]), (27, g)]
theorem k3v {note : LoopState → ABlk} {hs : AH} {b3 bo l bx : Nat} {x4 y : Sl} {j jo : Option Nat} {e3 : TypeId} {R : List Nat} {xs : List (Int × Int)} {to : Sl} (hbl : bo ≠ l) (hbs : bo < hs.blks.size) (hls : l < hs.blks.size) (h3 : b3 < hs.blks.size) (hx : hs.blks.size ≤ bx) (ljo : LeO hs.blks.size jo) (hjx : ∀ k, jo = some k → k ≠ bx) (hlt : ∀ x ∈ R, x < g.length) (hR : R.length ≤ 300) (hxs : xs.length < 1000)
  (hend : ∀ h', h'.blks[l]? = some (note .busy) → kdm l none h' = some (.bool true, h'.setBlk l (note .ready))) : ∀ (k i : Nat), i + k = R.length → ∀ (h : AH) (a : Int), hs.blks.size ≤ h.blks.size → (∀ k, j = some k → k ≠ bx) → GF EI T.int h Fp.no y j (zs R) → h.has b3 [u.v] e3 → (∃ S : Fp, ¬ S bx ∧ Sq EI h S u g) → h.has bx [.int .i64 a, .int .i64 (R.length : Int)] T.kb5 → h.blks[l]? = some (note .busy) → h.has bo [to.v] T.kg1 → GF EP T.kb5 h Fp.no to jo xs →
  Runs (go (.rpt l F.kch Td.kky [(5, .ptr (some (.new b3 0))), (6, x4.v), (7, .int .i64 0), (9, .ptr (some (.new bo 0))), (12, .ptr (some (.new bx 0))), (33, y.v), (34, .int .i64 (R.length : Int)), (35, .int .i64 (i : Int))]) h) fun v h' => v = .bool true ∧ Md (fun m => m = bo ∨ m = l ∨ jo = some m ∨ m = bx) h h' ∧ h'.blks[l]? = some (note .ready) ∧ ∃ (t : Sl) (j : Option Nat), h'.has bo [t.v] T.kg1 ∧ LeO hs.blks.size j ∧ GF EP T.kb5 h' Fp.no t j (xs ++ [(sumG g (R.drop i) a, (R.length : Int))]) := by
 intro k
 induction k with
 | zero =>
  intro i hi h a hsh hj V B3 Q Bx hn Bo Vo
  rw [kw1]
  refine Runs.ifF (decide_eq_false (by omega)) (Runs.step (Bo.rd0 rfl (asSl_v _)) (Runs.step (Bx.rd 0 rfl (kb _ _)) (Runs.step (Bx.rd 1 rfl (kb _ _)) ?_)))
  refine Runs.new fun h1 b1 g1 => ?_
  have n1 := (g1.blk l (Array.getElem?_eq_some_iff.1 hn).1).trans hn
  have := kbb1 (note := note) (hs := hs) (E := EP) (x := (a, (R.length : Int))) (g1.has Bo) n1 hbl hbs hls (Nat.le_trans hsh g1.size) ljo (Vo.grow g1) (EP.of _ _) (k7i (by omega)) b1 (by rw [k8j]; rfl) hend
  refine this.imp fun v h' ⟨e, m5, n5, o5⟩ => ⟨e, (g1.thenM m5).mono fun m _ x => by rcases x with x | x | x <;> simp [x], n5, ?_⟩
  rw [List.drop_eq_nil_of_le (by omega)]
  exact o5
 | succ k ih =>
  intro i hi h a hsh hj V B3 ⟨S, hS, Q⟩ Bx hn Bo Vo
  have hi' : i < R.length := by omega
  have hz : i < (zs R).length := by rw [zs_len]; exact hi'
  obtain ⟨r, e1, e2⟩ := V.sq.int hz
  have hx' : (zs R)[i] = ((R[i] : Nat) : Int) := by simp [zs]
  have hg := hlt _ (List.getElem_mem hi')
  obtain ⟨r2, e4, e5⟩ := Q.int hg
  rw [kw1]
  refine Runs.ifT (decide_eq_true (by omega)) (Runs.step e1 (Runs.step e2 (Runs.step (Bx.rd 0 rfl (kb _ _)) (Runs.step (B3.rd0 rfl (asSl_v _)) ?_))))
  rw [hx']
  refine Runs.step e4 (Runs.step e5 ?_)
  refine Runs.putAt (o := 0) Bx (by simp) (cs' := [.int .i64 (IntKind.wrap .i64 (a + g[R[i]])), .int .i64 (R.length : Int)]) rfl fun h1 Bx1 u1 => ?_
  rw [ko (by omega)]
  have := ih (i + 1) (by omega) h1 (IntKind.wrap .i64 (a + g[R[i]])) (Nat.le_trans hsh u1.size) hj (V.upd u1 Fp.not_no hj) (B3.updr (by omega) u1) ⟨S, hS, Q.upd hS u1⟩ Bx1 ((u1.blk l (by omega) (Array.getElem?_eq_some_iff.1 hn).1).trans hn) (Bo.updr (by omega) u1) (Vo.upd u1 Fp.not_no hjx)
  refine this.imp fun v h' ⟨e, m, n', o⟩ => ⟨e, (u1.md (.inr (.inr (.inr rfl)))).trans m, n', ?_⟩
  have hd : R.drop i = R[i] :: R.drop (i + 1) := List.drop_eq_getElem_cons hi'
  rw [hd]
  unfold sumG at o ⊢
  rw [List.foldl_cons]
  have : g.getD R[i] 0 = g[R[i]] := by simp [List.getD, hg]
  rw [this]
  exact o
end
end Go.Ab

/- squeezed -/
set_option linter.unusedVariables false
set_option linter.unusedSimpArgs false
set_option maxRecDepth 10000
namespace Go.Ab
open Go.Proofs
def oddG (g : List Int) : Bool := g.any fun x => decide (x < -1048576) || decide (x > 1048576)
def plainH (t : Tb) (n : Int) (w : List Nat) (g : List Int) : List (Int × Int) × Int := if faultH t n w (g.length : Int) = 0 then if oddG g then ([], 1) else (sumsL g (rowsL t n w) (cutsL t), 0) else ([], faultH t n w (g.length : Int))
section
variable {h0 : AH} {S : Fp} {s1 s2 s3 s u : Sl} {t : Tb} {n : Int} {w : List Nat} {g : List Int}
theorem kx9 {hs h : AH} {b1 b2 b3 bo l : Nat} {gv : AV} {m : Int} {d : List (Nat × Nat)} {f c : Nat} {y : Sl} {j : Option Nat} (hbl : bo ≠ l) (hbs : bo < hs.blks.size) (hls : l < hs.blks.size) (h3 : b3 < hs.blks.size) (h3o : b3 ≠ bo) (h3l : b3 ≠ l) (hd : d.length < 1000) (hb : g.length = t.ids.length) (hids : t.ids.length ≤ 256) (B3 : hs.has b3 [u.v] T.ke6) {N0 : Nat} (hN0 : N0 ≤ bo) (hNl : N0 ≤ l) (hNs : N0 ≤ hs.blks.size) (Q : Sq EI hs (Fp.below N0) u g)
  (I : Lp EP T.kb5 T.kg1 (pNote s1 s2 s3 n s u m b1 b2 b3 bo gv) hs bo l (sumsL g (rowsL t n w) d) h) (V : GF EI T.int h Fp.no y j (zs (rowsL t n w (f, c)))) : Runs (go (.round l [.agg [.int .i64 (f : Int), .int .i64 (c : Int)], y.v]) h) fun v h' => v = .bool true ∧ Lp EP T.kb5 T.kg1 (pNote s1 s2 s3 n s u m b1 b2 b3 bo gv) hs bo l (sumsL g (rowsL t n w) (d ++ [(f, c)])) h' := by
 obtain ⟨M, hn, to, jo, Bo, ljo, Vo⟩ := I
 have hll : l < h.blks.size := (Array.getElem?_eq_some_iff.1 hn).1
 have hsz := M.size
 have B3h : h.has b3 [u.v] T.ke6 := M.has B3 (by omega)
 have Qh : Sq EI h (Fp.below N0) u g := Q.md M fun k a b => by
  have a : k < N0 := a
  rcases b with rfl | rfl <;> omega
 rw [kzf l none _ _ _ _ _ _ _ _ _ _ _ _ _ _ _ _ _ _ _ _ _ _ _ _ _ _ _ _ _ _ _ _ _ _ hn, kte (h := h) hn, Option.bind_some]
 generalize hq : h.setBlk l _ = h1
 have u1 : Upd h h1 l := by rw [← hq]; exact AH.setBlk_Upd _
 have n1 : h1.blks[l]? = some (pNote s1 s2 s3 n s u m b1 b2 b3 bo gv .busy) := by rw [← hq]; exact AH.setBlk_get hll
 have V1lt : LtO h.blks.size j := V.lt
 refine Runs.new fun h2 b2' g2 => Runs.puts b2' rfl fun h3' b3' u3 => ?_
 have hu1 := u1.size
 have G13 : Grow h1 h3' := g2.updr (Nat.le_refl _) u3
 have hjl : ∀ k, j = some k → k ≠ h1.blks.size := fun k e => by
  subst e
  have : k < h.blks.size := V1lt
  omega
 have Vol := Vo.lt
 have hjo : ∀ k, jo = some k → k ≠ h1.blks.size := fun k e => by
  subst e
  have : k < h.blks.size := Vol
  omega
 by_cases hyl : j = some l
 ·subst hyl
  exfalso
  obtain ⟨_, _, _, _, rows, e, b, _⟩ := V
  rw [AH.has, hn] at b
  unfold pNote kgj at b
  cases b
 have V3 : GF EI T.int h3' Fp.no y j (zs (rowsL t n w (f, c))) := (V.upd u1 Fp.not_no fun k e e2 => hyl (by rw [e, e2])).grow G13
 have Vo3 : GF EP T.kb5 h3' Fp.no to jo (sumsL g (rowsL t n w) d) := (Vo.upd u1 Fp.not_no (kfp hls ljo)).grow G13
 rw [V.len, zs_len]
 rw [V.len, zs_len] at b3'
 have := k3v (g := g) (note := pNote s1 s2 s3 n s u m b1 b2 b3 bo gv) (hs := hs) (x4 := ⟨none, 0, .is 0⟩) (e3 := T.ke6) (R := rowsL t n w (f, c)) (xs := sumsL g (rowsL t n w) d) hbl hbs hls h3 (show hs.blks.size ≤ h1.blks.size by omega) ljo hjo (fun x hx => by rw [hb]; exact k81 x hx) (by have := kz5 (t := t) (n := n) (w := w) (p := (f, c)); omega) (by unfold sumsL; rw [List.length_map]; exact hd) (fun h' hn' => by rw [ktk hn']; rfl) (rowsL t n w (f, c)).length 0 (by omega) h3' 0 (by have := G13.size; omega) hjl V3 (G13.has (B3h.updr h3l u1)) ⟨Fp.below N0, by intro k; have k : h1.blks.size < N0 := k; omega, (Qh.upd (by intro k; have k : l < N0 := k; omega) u1).grow G13⟩ b3' ((G13.blk l (Array.getElem?_eq_some_iff.1 n1).1).trans n1) (G13.has (Bo.updr hbl u1)) Vo3
 refine this.imp fun v h' ⟨e, m5, n5, o5⟩ => ⟨e, ?_⟩
 have hsum : sumsL g (rowsL t n w) (d ++ [(f, c)]) = sumsL g (rowsL t n w) d ++ [(sumG g ((rowsL t n w (f, c)).drop 0) 0, ((rowsL t n w (f, c)).length : Int))] := by
  unfold sumsL
  rw [List.map_append, List.drop_zero]
  rfl
 rw [hsum]
 refine ⟨?_, n5, o5⟩
 have m4 : Md (fun m => m = bo ∨ m = l) hs h3' := (M.trans (u1.md (.inr rfl))).thenG G13
 refine m4.next m5 fun k hk x => ?_
 rcases x with x | x | x | x
 ·exact .inl x
 ·exact .inr x
 ·exact absurd rfl (kfp hk ljo _ x)
 ·omega
theorem k70 (T0 : Tab h0) (q : TabAt h0 S s1 s2 s3 t) (N : Nats h0 s w) (Q : Sq EI h0 S u g) : Runs (go (.fn F.kch [.agg [s1.v, s2.v, s3.v], .agg [.int .i64 n, s.v], u.v]) h0) fun v h' => Grow h0 h' ∧ ∃ (y : Sl) (j : Option Nat), v = .tup [y.v, .int .i64 (plainH t n w g).2] ∧ LeO h0.blks.size j ∧ GF EP T.kb5 h' Fp.no y j (plainH t n w g).1 := by
 rw [kx8]
 refine Runs.new fun h1 b1 g1 => Runs.new fun h2 b2 g2 => Runs.new fun h3 b3 g3 => ?_
 have B1 := g3.has (g2.has b1)
 have B2 := g3.has b2
 have z1 := b1.lt
 have z2 := b2.lt
 have z3 := b3.lt
 have G3 : Grow h0 h3 := (g1.trans g2).trans g3
 refine Runs.step (B1.rd 0 rfl (asSl_v _)) (Runs.step (B1.rd 1 rfl (asSl_v _)) (Runs.step (B1.rd 2 rfl (asSl_v _)) (Runs.step (B2.rd 0 rfl (kb _ _)) (Runs.step (B2.rd 1 rfl (asSl_v _)) (Runs.step (b3.rd0 rfl (asSl_v _)) ?_)))))
 rw [Q.len]
 refine (k40 (q.grow G3) (N.grow G3)).call fun v h4 ⟨e, g4⟩ => ?_
 subst e
 refine Runs.step (seen rfl) ?_
 have G4 := G3.trans g4
 refine Runs.cond (fun c => ?_) fun c => ?_
 ·rw [Bool.not_eq_true', decide_eq_false_iff_not] at c
  refine Runs.ret ⟨G4, (⟨none, 0, .is 0⟩ : Sl), none, ?_, trivial, ?_⟩
  ·unfold plainH
   rw [if_neg c]
  ·unfold plainH
   rw [if_neg c]
   exact GF.none _ _ _ _
 rw [Bool.not_eq_false', decide_eq_true_eq] at c
 obtain ⟨hR, hR2, hn, hm⟩ := k86 c
 rw [c]
 refine Runs.step ((g4.has b3).rd0 rfl (asSl_v _)) ?_
 refine (kx5 (Q.grow G4)).call fun v h5 ⟨e, g5⟩ => ?_
 subst e
 have G5 := G4.trans g5
 refine Runs.step (seen rfl) (Runs.cond (fun c2 => ?_) fun c2 => ?_)
 ·refine Runs.ret ⟨G5, (⟨none, 0, .is 0⟩ : Sl), none, ?_, trivial, ?_⟩
  ·unfold plainH
   rw [if_pos c, if_pos (show oddG g = true from c2)]
  ·unfold plainH
   rw [if_pos c, if_pos (show oddG g = true from c2)]
   exact GF.none _ _ _ _
 have hpl : plainH t n w g = (sumsL g (rowsL t n w) (cutsL t), 0) := by
  unfold plainH
  rw [if_pos c, if_neg (by rw [show oddG g = false from c2]; simp)]
 rw [hpl]
 have g35 := g4.trans g5
 dsimp only
 refine Runs.new fun h6 b6 g6 => ?_
 have g36 := g35.trans g6
 have B1' := g36.has B1
 have B2' := g36.has B2
 have z4 := g35.size
 have z6 := b6.lt
 refine Runs.step (B1'.rd 0 rfl (asSl_v _)) (Runs.step (B1'.rd 1 rfl (asSl_v _)) (Runs.step (B1'.rd 2 rfl (asSl_v _)) (Runs.step (B2'.rd 0 rfl (kb _ _)) (Runs.step (B2'.rd 1 rfl (asSl_v _)) ?_))))
 have k0 : Runs (go (.fn F.kqw [.agg [s1.v, s2.v, s3.v], .agg [.int .i64 n, s.v]]) h6) fun v h' => ∃ c1 c2 : Nat, v = .func (.func F.kb0) [] [.ptr (some (.new c1 0)), .ptr (some (.new c2 0))] ∧ h6.blks.size ≤ c1 ∧ h6.blks.size ≤ c2 ∧ h'.has c1 [s1.v, s2.v, s3.v] T.kea ∧ h'.has c2 [.int .i64 n, s.v] T.ks ∧ Grow h6 h' := by
  rw [kbae]
  exact Runs.new fun h4 b4 g4 => Runs.new fun h5 b5 g5 => Runs.ret ⟨_, _, rfl, Nat.le_refl _, g4.size, g5.has b4, b5, g4.trans g5⟩
 refine k0.call fun v h7 ⟨c1, c2', e, l1, l2, d1, d2, g7⟩ => ?_
 subst e
 dsimp only
 rw [k93, kw7]
 refine Runs.newM fun h8 hb g8 => ?_
 rw [kbbf]
 generalize hgv : (AV.func (.func F.kb0) [] [AV.ptr (some (Ref.new c1 0)), AV.ptr (some (Ref.new c2' 0))]) = gv at hb
 have g38 := (g36.trans g7).trans g8
 have G8 : Grow h0 h8 := G3.trans g38
 have z7 := d1.lt
 have z8 := d2.lt
 have z9 : h7.blks.size < h8.blks.size := (Array.getElem?_eq_some_iff.1 hb).1
 have E8 : EachOk (Fp.below h0.blks.size) s1 s2 s3 s t n w c1 c2' h8 := ⟨T0.grow G8, q.bound.grow G8, N.grow G8, g8.has d1, g8.has d2⟩
 have I0 : Lp EP T.kb5 T.kg1 (pNote s1 s2 s3 n s u (g.length : Int) h0.blks.size h1.blks.size h2.blks.size h5.blks.size gv) h8 h5.blks.size h7.blks.size (sumsL g (rowsL t n w) []) h8 := ⟨Md.refl _ _, hb, _, none, g8.has (g7.has b6), trivial, GF.none _ _ _ _⟩
 have k1 := k2b (l := h7.blks.size) (Inv := fun d h => Lp EP T.kb5 T.kg1 (pNote s1 s2 s3 n s u (g.length : Int) h0.blks.size h1.blks.size h2.blks.size h5.blks.size gv) h8 h5.blks.size h7.blks.size (sumsL g (rowsL t n w) d) h) (fun d h I => E8.md I.md (fun j a b => by have a : j < h0.blks.size := a; rcases b with rfl | rfl <;> omega) (fun j hj => Classical.byContradiction fun k => hj (Av.of_base N (Nat.le_of_not_lt k))) (by omega) (by omega)) (fun d h h' I g => I.grow g) hR (fun d f c h y j hf hc hd I V => kx9 (by omega) (by omega) (by omega) (by omega) (by omega) (by omega) hd (by omega) (kjk hR).1 (g38.has b3) (N0 := h0.blks.size) (by omega) (by omega) (by omega) ((Q.bound.mono fun _ x => x.2).grow G8) I V) I0
 show Runs ((go (.fn F.kb0 [.func (.yield h7.blks.size) [] [], .ptr (some (.new c1 0)), .ptr (some (.new c2' 0))]) h8).bind _) _
 refine k1.call fun v h9 ⟨e, I⟩ => ?_
 obtain ⟨M, hn9, t', j, B, lj, V⟩ := I
 dsimp only
 rw [ku6 hn9, Option.bind_some, k42]
 have u7 : Upd h9 (h9.setBlk h7.blks.size .dead) h7.blks.size := AH.setBlk_Upd _
 have zz := M.size
 have G9 : Grow h0 h9 := (G8.thenM M).grow fun j hj => by intro k; rcases k with rfl | rfl <;> omega
 refine Runs.step ((B.updr (by omega) u7).rd0 rfl (asSl_v _)) (Runs.ret ⟨G9.updr (by omega) u7, t', j, rfl, LeO.trans (by omega) lj, ?_⟩)
 exact V.upd u7 Fp.not_no (kfp (by omega) lj)
end
end Go.Ab

/- squeezed -/
set_option linter.unusedVariables false
set_option linter.unusedSimpArgs false
set_option maxRecDepth 10000
namespace Go.Ab
open Go.Proofs
section
variable {h0 : AH} {S : Fp} {s1 s2 s3 s u : Sl} {t : Tb} {n : Int} {w : List Nat} {g : List Int}
end
end Go.Ab

/- squeezed -/
set_option linter.unusedVariables false
set_option linter.unusedSimpArgs false
set_option maxRecDepth 10000
namespace Go.Ab
open Go.Proofs
section
variable {h0 : AH} {S : Fp} {s1 s2 s3 s u : Sl} {t : Tb} {n : Int} {w : List Nat} {g : List Int}
end
end Go.Ab
