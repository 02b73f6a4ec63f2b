/- squeezed -/
import Derived.Test.YtpmbjekomcldmaaGreatPS57
import Derived.Test.YtpmbjekomcldmaaGreatPS38
import Derived.Test.YtpmbjekomcldmaaGreatPAbsQ

set_option linter.unusedVariables false
set_option linter.unusedSimpArgs false
set_option maxRecDepth 10000
namespace Go.Ab
open Go.Proofs Go.Num
theorem kbbp (n : Nat) : num B (List.replicate n 0 ++ [1]) = B ^ n := by
 have h : num B (List.replicate n 0) = 0 := by have := kex B [] n; simpa [num] using this
 rw [kcg, h, List.length_replicate]
 simp [num]
theorem kub {ns c2 c3 : List Nat} (z : Int) {p k : Nat} (hk : ns.length = k) (hp : p ≤ 2) (h8 : k ≤ 8) (h0 : k ≠ 0) (r : rt ns = true) : runP kri (.fn ns z c2 c3 (p : Int)) = some (digs B (B ^ (p * k) % num B ns)) := by
 have hpk : p * k ≤ 2 * 8 := Nat.mul_le_mul hp h8
 refine kbp (.done ?_)
 show klc ns z c2 c3 (p : Int) = _
 unfold klc
 have e : IntKind.wrap .i64 ((p : Int) * (k : Int)) = ((p * k : Nat) : Int) := by rw [← Int.natCast_mul, kbg (by omega)]
 rw [hk, e, kw (by omega), kd2 (by omega), Option.bind_some, List.length_replicate, kbh (by omega), Option.bind_some, show u64P 1 = some 1 from rfl, Option.bind_some]
 have hs : (List.replicate (p * k + 1) 0).set (p * k) 1 = List.replicate (p * k) 0 ++ [1] := by
  rw [List.replicate_succ']
  have := kpd (List.replicate (p * k) 0) 0 1 [] (n := p * k) (by simp)
  rw [this, List.append_nil]
 have rx : rt (List.replicate (p * k) 0 ++ [1]) = true := rt_iff.2 ⟨by simp; omega, fun h => by simp⟩
 rw [hs, ksl rx r (fun e => h0 (by rw [← hk, e]; rfl)), kbbp]
theorem k3w (n x : Int) : IntKind.wrap .u64 (x * IntKind.wrap .u64 (2 - IntKind.wrap .u64 (n * x))) = (x * (2 - n * x)) % 18446744073709551616 := by
 rw [wrapU, wrapU, wrapU]
 have : (2 - n * x % 18446744073709551616) % 18446744073709551616 = (2 - n * x) % 18446744073709551616 := by
  generalize n * x = t
  omega
 rw [this, newton.Int.mul_emod_aux]
theorem k6t {n x i : Nat} (hi : i < 6) (h : (n * x) % 2 ^ (2 ^ i) = 1 % 2 ^ (2 ^ i)) : ∃ y : Nat, y < 18446744073709551616 ∧ (((x : Int) * (2 - (n : Int) * (x : Int))) % 18446744073709551616) = (y : Int) ∧ (n * y) % 2 ^ (2 ^ (i + 1)) = 1 % 2 ^ (2 ^ (i + 1)) := by
 have h1 := Int.emod_nonneg ((x : Int) * (2 - (n : Int) * (x : Int))) (show (18446744073709551616 : Int) ≠ 0 by decide)
 have h2 := Int.emod_lt_of_pos ((x : Int) * (2 - (n : Int) * (x : Int))) (show (0 : Int) < 18446744073709551616 by decide)
 refine ⟨(((x : Int) * (2 - (n : Int) * (x : Int))) % 18446744073709551616).toNat, by omega, by omega, ?_⟩
 have hw : (2 : Nat) ^ (2 ^ (i + 1)) = 2 ^ (2 ^ i) * 2 ^ (2 ^ i) := by rw [← Nat.pow_add, Nat.pow_succ, Nat.mul_two]
 have hd : (2 : Nat) ^ (2 ^ (i + 1)) ∣ 18446744073709551616 := Nat.pow_dvd_pow 2 (show 2 ^ (i + 1) ≤ 2 ^ 6 from Nat.pow_le_pow_right (by decide) (by omega))
 generalize (2 : Nat) ^ (2 ^ (i + 1)) = w at hw hd ⊢
 have hd' : (w : Int) ∣ 18446744073709551616 := Int.natCast_dvd_natCast.2 hd
 have := newton hw h (((x : Int) * (2 - (n : Int) * (x : Int))) % 18446744073709551616) (Int.emod_emod_of_dvd _ hd')
 have e : ((((x : Int) * (2 - (n : Int) * (x : Int))) % 18446744073709551616).toNat : Int) = ((x : Int) * (2 - (n : Int) * (x : Int))) % 18446744073709551616 := by omega
 rw [← e] at this
 generalize (((x : Int) * (2 - (n : Int) * (x : Int))) % 18446744073709551616).toNat = y at this ⊢
 rw [← Int.natCast_mul] at this
 exact Int.ofNat.inj this
theorem kbay {n x : Nat} (h : (n * x) % 2 ^ (2 ^ 6) = 1 % 2 ^ (2 ^ 6)) : ∃ v : Nat, v < 18446744073709551616 ∧ IntKind.wrap .u64 (0 - (x : Int)) = (v : Int) ∧ (n * v + 1) % 18446744073709551616 = 0 := by
 rw [wrapU]
 refine ⟨((0 - (x : Int)) % 18446744073709551616).toNat, by omega, by omega, ?_⟩
 have e : ((((0 - (x : Int)) % 18446744073709551616).toNat : Nat) : Int) = (0 - (x : Int)) % 18446744073709551616 := by omega
 have h' : (n * x) % 18446744073709551616 = 1 := h
 have k : ((n : Int) * ((0 - (x : Int)) % 18446744073709551616) + 1) % 18446744073709551616 = 0 := by
  rw [Int.add_emod, newton.Int.mul_emod_aux, ← Int.add_emod, Int.zero_sub, Int.mul_neg, ← Int.natCast_mul]
  omega
 rw [← e] at k
 generalize ((0 - (x : Int)) % 18446744073709551616).toNat = y at k ⊢
 rw [← Int.natCast_mul] at k
 omega
def NewP (h : AH) (ns : List Nat) (w : AV) (h' : AH) : Prop :=
 ∃ (j v : Nat) (s0 s2 s3 : Sl), w = .tup [.ptr (some (.new j 0)), .int .i64 0] ∧ v < B ∧ (num B ns * v + 1) % B = 0 ∧ h'.has j [s0.v, .int .u64 (v : Int), s2.v, s3.v] T.kcd ∧ Nats h' s0 ns ∧ Nats h' s2 (digs B (B ^ (1 * ns.length) % num B ns)) ∧ Nats h' s3 (digs B (B ^ (2 * ns.length) % num B ns)) ∧ Grow h h'
theorem kxe {h0 h : AH} {s : Sl} {ns : List Nat} (n : Nats h s ns) (hn : 0 < ns.length) (h8 : ns.length ≤ 8) (r : rt ns = true) (g : Grow h0 h) : ∀ (d i x : Nat), i + d = 6 → x < 18446744073709551616 → (ns[0] * x) % 2 ^ (2 ^ i) = 1 % 2 ^ (2 ^ i) →
  Runs (go (.pt F.kdg Td.kiv [(0, s.v), (4, .int .u64 (x : Int)), (40, .int .i64 (i : Int))]) h) (NewP h0 ns)
 | 0, i, x, hi, hx, e => by
  have hi : i = 6 := by omega
  subst hi
  obtain ⟨v, v1, v2, v3⟩ := kbay e
  rw [kxx]
  refine Runs.ifF (by decide) ?_
  obtain ⟨s1, h1, e1, n1, g1, o1⟩ := khz n (by omega)
  refine Runs.step e1 ?_
  refine Runs.step (seen (asSl_v _)) ?_
  rw [v2]
  refine Runs.new fun h2 b2 g2 => ?_
  obtain ⟨_, h3, e3, s3, rfl, n3, g3, o3⟩ := kv3 b2 (n1.grow g2) (Nats.nil _) (Nats.nil _) (kub (v : Int) rfl (show 1 ≤ 2 by decide) h8 (by omega) r)
  refine Runs.step e3 ?_
  refine Runs.step (seen (asSl_v _)) ?_
  refine Runs.putAt (o := 2) (cs' := [s1.v, .int .u64 (v : Int), s3.v, (⟨none, 0, .is 0⟩ : Sl).v]) (vs := [s3.v]) (g3.has b2) (by simp) rfl fun h4 b4 u4 => ?_
  have n3' := n3.upda (Av.of_own o3 b2.lt) u4
  have gg : Grow h1 h4 := (g2.trans g3).updr (Nat.le_refl _) u4
  obtain ⟨_, h5, e5, s5, rfl, n5, g5, o5⟩ := kv3 (a2 := ((2 : Nat) : Int)) b4 (n1.grow gg) n3' (Nats.nil _) (kub (v : Int) rfl (show 2 ≤ 2 by decide) h8 (by omega) r)
  refine Runs.step e5 ?_
  refine Runs.step (seen (asSl_v _)) ?_
  refine Runs.putAt (o := 3) (cs' := [s1.v, .int .u64 (v : Int), s3.v, s5.v]) (vs := [s5.v]) (g5.has b4) (by simp) rfl fun h6 b6 u6 => ?_
  have gg6 : Grow h1 h6 := (gg.trans g5).updr (Nat.le_refl _) u6
  refine Runs.ret ⟨_, v, s1, s3, s5, rfl, v1, ?_, b6, n1.grow gg6, (n3'.grow g5).upda (Av.of_own o3 b2.lt) u6, n5.upda (Av.of_own o5 b4.lt) u6, (g.trans g1).trans gg6⟩
  rw [kkq B ns, Nat.add_mul, Nat.mul_assoc, Nat.add_right_comm, Nat.add_mul_mod_self_left]
  have : ns.headD 0 = ns[0] := by
   cases ns with
   | nil => simp at hn
   | cons y ys => rfl
  rw [this]
  exact v3
 | d + 1, i, x, hi, hx, e => by
  rw [kxx]
  refine Runs.ifT (by rw [decide_eq_true_eq]; omega) ?_
  obtain ⟨q, e1, e2⟩ := n.at (i := 0) hn
  rw [n.len] at e1 ⊢
  refine Runs.step e1 ?_
  refine Runs.step (rdc e2 (kb _ _)) ?_
  obtain ⟨y, y1, y2, y3⟩ := k6t (by omega) e
  rw [k3w, y2, kw (by omega)]
  exact kxe n hn h8 r g d (i + 1) y (by omega) y1 y3
theorem kyq {h : AH} {s : Sl} {ns : List Nat} (n : Nats h s ns) (r : rt ns = true) (hn : ns.length ≠ 0) (h8 : ns.length ≤ 8) (ho : num B ns % 2 = 1) (h1 : 1 < num B ns) : Runs (go (.fn F.kdg [s.v]) h) (NewP h ns) := by
 have hp : 0 < ns.length := by omega
 have hd : ns.headD 0 = ns[0] := by
  cases ns with
  | nil => simp at hp
  | cons y ys => rfl
 have hb : ns[0] < 18446744073709551616 := n.lt _ (List.getElem_mem _)
 have hodd : ns[0] % 2 = 1 := by
  rw [kkq B ns, hd] at ho
  have : (ns[0] + 18446744073709551616 * num B ns.tail) % 2 = 1 := ho
  omega
 have hs : (ns[0] * ns[0]) % 2 ^ (2 ^ 0) = 1 % 2 ^ (2 ^ 0) := by
  show (ns[0] * ns[0]) % 2 = 1
  rw [Nat.mul_mod, hodd]
 have rd : ∀ {K : Ref → Option (AV × AH)} {Q : AV → AH → Prop}, (∀ q, h.cell q = some (.int .u64 ((ns[0] : Nat) : Int)) → Runs (K q) Q) → Runs ((idx s.ref ns.length 0 1).bind K) Q := by
  intro K Q H
  obtain ⟨q, e1, e2⟩ := n.at (i := 0) hp
  rw [n.len] at e1
  exact Runs.step e1 (H q e2)
 rw [kbar]
 refine Runs.step (kb9 n) ?_
 refine Runs.step (seen rfl) ?_
 rw [show s.len = ns.length from n.len]
 refine Runs.ifF (by rw [r]; rfl) ?_
 refine Runs.ifF (by rw [decide_eq_false_iff_not]; omega) ?_
 refine Runs.ifF (by rw [decide_eq_false_iff_not]; omega) ?_
 refine rd fun q hq => ?_
 refine Runs.step (rdc hq (kb _ _)) ?_
 refine Runs.ifF (by rw [kxd hb, decide_eq_false_iff_not]; omega) ?_
 have lp : Runs (go (.pt F.kdg Td.kiv [(0, s.v), (4, .int .u64 ((ns[0] : Nat) : Int)), (40, .int .i64 0)]) h) (NewP h ns) := kxe n hp h8 r (Grow.refl h) 6 0 ns[0] rfl hb hs
 refine Runs.cond (fun k => ?_) (fun k => ?_)
 ·refine rd fun q hq => ?_
  refine Runs.step (rdc hq (kb _ _)) ?_
  refine Runs.ifF ?_ ?_
  ·rw [decide_eq_false_iff_not]
   intro e
   have hl : ns.length = 1 := by rw [decide_eq_true_eq] at k; omega
   obtain ⟨y, hy⟩ := List.length_eq_one_iff.1 hl
   subst hy
   simp [num] at h1 e
   omega
  ·refine rd fun q hq => ?_
   refine Runs.step (rdc hq (kb _ _)) ?_
   exact lp
 ·refine rd fun q hq => ?_
  refine Runs.step (rdc hq (kb _ _)) ?_
  exact lp
end Go.Ab

/- squeezed -/
set_option linter.unusedVariables false
set_option linter.unusedSimpArgs false
set_option maxRecDepth 10000
namespace Go.Ab
open Go.Proofs Go.Num
def kv (x1 : List Nat) : List Nat :=
 (mulN x1 x1).1
theorem kkz {h : AH} {a1 : Sl} {x1 : List Nat} (n1 : Nats h a1 x1)  : Runs (go (.fn F.khn [a1.v]) h) fun v h' => ∃ s1 : Sl, v = s1.v ∧ Nats h' s1 (kv x1) ∧ Grow h h' ∧ Own h s1 := by
 rw [k1u]
 obtain ⟨s2, H2, e2, n2, g2, o2⟩ := ken n1 n1
 refine Runs.step e2 ?_
 refine Runs.step rfl ?_
 refine Runs.step (seen (asSl_v _)) ?_
 refine Runs.step (seen (kb _ _)) ?_
 have z : kv x1 = (mulN x1 x1).1 := by unfold kv; exact rfl
 rw [z]
 exact Runs.ret ⟨s2, rfl, n2, g2, (o2.of_le (Grow.refl _))⟩
def kp (x1 : List Nat) : Bool :=
 cond ((rt x1)) (cond (((bitN x1 0))) (cond (decide ((((bitsN x1 : Nat) : Int)) ≥ 15)) (decide ((((bitsN x1 : Nat) : Int)) ≤ 80)) (false)) (false)) (false)
theorem krp {h : AH} {a1 : Sl} {x1 : List Nat} (n1 : Nats h a1 x1)  : Runs (go (.fn F.kln [a1.v]) h) fun v h' => v = .bool (kp x1) ∧ Grow h h' := by
 rw [kbcv]
 obtain ⟨_, H2, e2, rfl, g2⟩ := kt7 n1
 refine Runs.step e2 ?_
 refine Runs.step (seen (kb _ _)) ?_
 refine Runs.step (kb9 (n1.grow g2)) ?_
 refine Runs.step (seen rfl) ?_
 refine Runs.cond (fun k4 => ?_) (fun k4 => ?_)
 ·obtain ⟨_, H5, e5, rfl, g5⟩ := kt6 (n1.grow g2) (i := 0) (by decide)
  refine Runs.step e5 ?_
  refine Runs.step (seen rfl) ?_
  refine Runs.cond (fun k6 => ?_) (fun k6 => ?_)
  ·refine Runs.cond (fun k7 => ?_) (fun k7 => ?_)
   ·have z : kp x1 = decide ((((bitsN x1 : Nat) : Int)) ≤ 80) := by unfold kp; exact (condT k4).trans ((condT k6).trans ((condT k7).trans rfl))
    rw [z]
    exact Runs.ret ⟨rfl, (g2.trans g5)⟩
   ·have z : kp x1 = false := by unfold kp; exact (condT k4).trans ((condT k6).trans ((condF k7).trans rfl))
    rw [z]
    exact Runs.ret ⟨rfl, (g2.trans g5)⟩
  ·have z : kp x1 = false := by unfold kp; exact (condT k4).trans ((condF k6).trans rfl)
   rw [z]
   exact Runs.ret ⟨rfl, (g2.trans g5)⟩
 ·have z : kp x1 = false := by unfold kp; exact (condF k4).trans rfl
  rw [z]
  exact Runs.ret ⟨rfl, g2⟩
def kbf (x1 : List Nat) (x2 : List Nat) : Bool :=
 cond ((rt x2)) (decide ((cmpN x2 x1) < 0)) (false)
theorem kp6 {h : AH} {a1 : Sl} {x1 : List Nat} {a2 : Sl} {x2 : List Nat} (n1 : Nats h a1 x1) (n2 : Nats h a2 x2)  : Runs (go (.fn F.kky [a1.v, a2.v]) h) fun v h' => v = .bool (kbf x1 x2) ∧ Grow h h' := by
 rw [k49]
 refine Runs.step (kb9 n2) ?_
 refine Runs.step (seen rfl) ?_
 refine Runs.cond (fun k4 => ?_) (fun k4 => ?_)
 ·obtain ⟨H5, e5, g5⟩ := kdd n2 n1
  refine Runs.step e5 ?_
  refine Runs.step (seen (kb _ _)) ?_
  have z : kbf x1 x2 = decide ((cmpN x2 x1) < 0) := by unfold kbf; exact (condT k4).trans rfl
  rw [z]
  exact Runs.ret ⟨rfl, g5⟩
 ·have z : kbf x1 x2 = false := by unfold kbf; exact (condF k4).trans rfl
  rw [z]
  exact Runs.ret ⟨rfl, (Grow.refl _)⟩
def k0 (x1 : List Nat) (x2 : List Nat) (x3 : List Nat) : Bool :=
 cond (!(rt x1)) (false) (cond (decide ((List.length x1 : Int) = 0)) (false) (cond (decide ((cmpN x1 x3) ≥ 0)) (false) (decide ((cmpN ((gcdN x1 x2).1) [1]) = 0))))
theorem ktp {h : AH} {a1 : Sl} {x1 : List Nat} {a2 : Sl} {x2 : List Nat} {a3 : Sl} {x3 : List Nat} (n1 : Nats h a1 x1) (n2 : Nats h a2 x2) (n3 : Nats h a3 x3)  : Runs (go (.fn F.kjp [a1.v, a2.v, a3.v]) h) fun v h' => v = .bool (k0 x1 x2 x3) ∧ Grow h h' := by
 rw [kz8]
 rw [n1.len]
 refine Runs.step (kb9 n1) ?_
 refine Runs.step (seen rfl) ?_
 refine Runs.cond (fun k5 => ?_) (fun k5 => ?_)
 ·have z : k0 x1 x2 x3 = false := by unfold k0; exact (condT k5).trans rfl
  rw [z]
  exact Runs.ret ⟨rfl, (Grow.refl _)⟩
 ·refine Runs.cond (fun k6 => ?_) (fun k6 => ?_)
  ·have z : k0 x1 x2 x3 = false := by unfold k0; exact (condF k5).trans ((condT k6).trans rfl)
   rw [z]
   exact Runs.ret ⟨rfl, (Grow.refl _)⟩
  ·obtain ⟨H7, e7, g7⟩ := kdd n1 n3
   refine Runs.step e7 ?_
   refine Runs.step (seen (kb _ _)) ?_
   refine Runs.cond (fun k8 => ?_) (fun k8 => ?_)
   ·have z : k0 x1 x2 x3 = false := by unfold k0; exact (condF k5).trans ((condF k6).trans ((condT k8).trans rfl))
    rw [z]
    exact Runs.ret ⟨rfl, g7⟩
   ·obtain ⟨_, H9, e9, s9, rfl, n9, g9, o9⟩ := kxg (n1.grow g7) (n2.grow g7)
    refine Runs.step e9 ?_
    refine Runs.step rfl ?_
    refine Runs.step (seen (asSl_v _)) ?_
    refine Runs.step (seen (kb _ _)) ?_
    refine Runs.new fun H10 b10 g10 => ?_
    obtain ⟨H11, e11, g11⟩ := kdd (n9.grow g10) (Nats.of_has (xs := [1]) b10 (by decide) (by decide))
    refine Runs.step e11 ?_
    refine Runs.step (seen (kb _ _)) ?_
    have z : k0 x1 x2 x3 = decide ((cmpN ((gcdN x1 x2).1) [1]) = 0) := by unfold k0; exact (condF k5).trans ((condF k6).trans ((condF k8).trans rfl))
    rw [z]
    have G12 := (((g7.trans g9).trans g10).trans g11)
    exact Runs.ret ⟨rfl, G12⟩
def kq (x1 : List Nat) (x2 : List Nat) : Bool :=
 cond (((kp x1))) (((k0 x2 x1 (kv x1)))) (false)
theorem kv1 {h : AH} {a1 : Sl} {x1 : List Nat} {a2 : Sl} {x2 : List Nat} (n1 : Nats h a1 x1) (n2 : Nats h a2 x2)  : Runs (go (.fn F.koh [a1.v, a2.v]) h) fun v h' => v = .bool (kq x1 x2) ∧ Grow h h' := by
 rw [k7x]
 obtain ⟨_, H3, e3, rfl, g3⟩ := krp n1
 refine Runs.step e3 ?_
 refine Runs.step (seen rfl) ?_
 refine Runs.cond (fun k4 => ?_) (fun k4 => ?_)
 ·obtain ⟨_, H5, e5, s5, rfl, n5, g5, o5⟩ := kkz (n1.grow g3)
  refine Runs.step e5 ?_
  refine Runs.step (seen (asSl_v _)) ?_
  obtain ⟨_, H6, e6, rfl, g6⟩ := ktp (n2.grow (g3.trans g5)) (n1.grow (g3.trans g5)) n5
  refine Runs.step e6 ?_
  refine Runs.step (seen rfl) ?_
  have z : kq x1 x2 = ((k0 x2 x1 (kv x1))) := by unfold kq; exact (condT k4).trans rfl
  rw [z]
  have G7 := ((g3.trans g5).trans g6)
  exact Runs.ret ⟨rfl, G7⟩
 ·have z : kq x1 x2 = false := by unfold kq; exact (condF k4).trans rfl
  rw [z]
  exact Runs.ret ⟨rfl, g3⟩
def kfn (x1 : List Nat) (x2 : List Nat) (x3 : List Nat) : List Nat :=
 (divN ((mulN x2 x3).1) (kv x1)).2.1
theorem kms {h : AH} {a1 : Sl} {x1 : List Nat} {a2 : Sl} {x2 : List Nat} {a3 : Sl} {x3 : List Nat} (n1 : Nats h a1 x1) (n2 : Nats h a2 x2) (n3 : Nats h a3 x3)  : Runs (go (.fn F.kjf [a1.v, a2.v, a3.v]) h) fun v h' => ∃ s1 : Sl, v = s1.v ∧ Nats h' s1 (kfn x1 x2 x3) ∧ Grow h h' ∧ Own h s1 := by
 rw [k86]
 obtain ⟨s4, H4, e4, n4, g4, o4⟩ := ken n2 n3
 refine Runs.step e4 ?_
 refine Runs.step rfl ?_
 refine Runs.step (seen (asSl_v _)) ?_
 refine Runs.step (seen (kb _ _)) ?_
 obtain ⟨_, H5, e5, s5, rfl, n5, g5, o5⟩ := kkz (n1.grow g4)
 refine Runs.step e5 ?_
 refine Runs.step (seen (asSl_v _)) ?_
 obtain ⟨s6, s6b, H6, e6, n6, n6b, g6, o6, o6b⟩ := ke7 (n4.grow g5) n5
 refine Runs.step e6 ?_
 refine Runs.step rfl ?_
 refine Runs.step (seen (asSl_v _)) ?_
 refine Runs.step (seen (asSl_v _)) ?_
 refine Runs.step (seen (kb _ _)) ?_
 have z : kfn x1 x2 x3 = (divN ((mulN x2 x3).1) (kv x1)).2.1 := by unfold kfn; exact rfl
 rw [z]
 have G7 := ((g4.trans g5).trans g6)
 exact Runs.ret ⟨s6b, rfl, n6b, G7, (o6b.of_le (g4.trans g5))⟩
def kcu (x1 : List Nat) (x2 : List Nat) : List Nat :=
 (addN ((mulN x2 x1).1) [1]).1
theorem kps {h : AH} {a1 : Sl} {x1 : List Nat} {a2 : Sl} {x2 : List Nat} (n1 : Nats h a1 x1) (n2 : Nats h a2 x2)  : Runs (go (.fn F.kkw [a1.v, a2.v]) h) fun v h' => ∃ s1 : Sl, v = s1.v ∧ Nats h' s1 (kcu x1 x2) ∧ Grow h h' ∧ Own h s1 := by
 rw [k5r]
 obtain ⟨s3, H3, e3, n3, g3, o3⟩ := ken n2 n1
 refine Runs.step e3 ?_
 refine Runs.step rfl ?_
 refine Runs.step (seen (asSl_v _)) ?_
 refine Runs.step (seen (kb _ _)) ?_
 refine Runs.new fun H4 b4 g4 => ?_
 obtain ⟨s5, H5, e5, n5, g5, o5⟩ := kmd (n3.grow g4) (Nats.of_has (xs := [1]) b4 (by decide) (by decide))
 refine Runs.step e5 ?_
 refine Runs.step rfl ?_
 refine Runs.step (seen (asSl_v _)) ?_
 refine Runs.step (seen (kb _ _)) ?_
 have z : kcu x1 x2 = (addN ((mulN x2 x1).1) [1]).1 := by unfold kcu; exact rfl
 rw [z]
 have G6 := ((g3.trans g4).trans g5)
 exact Runs.ret ⟨s5, rfl, n5, G6, (o5.of_le (g3.trans g4))⟩
def kdx (x1 : List Nat) (x2 : List Nat) (x3 : List Nat) : List Nat :=
 (divN ((mulN x1 x2).1) x3).2.1
end Go.Ab

/- squeezed -/
set_option linter.unusedVariables false
set_option linter.unusedSimpArgs false
set_option maxRecDepth 10000
namespace Go.Ab
open Go.Proofs Go.Num
end Go.Ab

/- squeezed -/
set_option linter.unusedVariables false
set_option linter.unusedSimpArgs false
set_option maxRecDepth 10000
namespace Go.Ab
open Go.Proofs Go.Num
def powOk (xs es ns : List Nat) : Prop := rt xs = true ∧ rt es = true ∧ rt ns = true ∧ ns.length ≤ 30 ∧ 1 < num B ns ∧ num B xs < num B ns
def powN (xs es ns : List Nat) : List Nat := digs B (num B xs ^ num B es % num B ns)
theorem kdv {a b : Nat} (ha : a < B ^ 30) (hb : b < B ^ 30) : mulN (digs B a) (digs B b) = (digs B (a * b), 0) := by
 have h60 : a * b < B ^ 64 := by
  calc a * b < B ^ 30 * B ^ 30 := Nat.mul_lt_mul_of_lt_of_lt ha hb
   _ = B ^ 60 := by rw [← Nat.pow_add]
   _ ≤ B ^ 64 := Nat.pow_le_pow_right (by decide) (by decide)
 have up : ∀ {c : Nat}, c < B ^ 30 → c < B ^ 64 := fun h => Nat.lt_of_lt_of_le h (Nat.pow_le_pow_right (by decide) (by decide))
 unfold mulN
 rw [if_pos ⟨kn (up ha), kn (up hb)⟩, kf B2, kf B2]
 unfold told
 rw [if_pos h60]
theorem kh9 {xs : List Nat} (l : ∀ x ∈ xs, x < B) (r : rt xs = true) : digs B (num B xs) = xs := kdo B2 l (rt_iff.1 r).2
theorem kn4 {ns : List Nat} (l : ∀ x ∈ ns, x < B) (h : kp ns = true) : rt ns = true ∧ num B ns % 2 = 1 ∧ 16384 ≤ num B ns ∧ num B ns < 2 ^ 80 := by
 unfold kp at h
 simp only [Bool.cond_eq_true_distrib, Bool.cond_false_right, Bool.and_eq_true, decide_eq_true_eq] at h
 obtain ⟨h1, h2, h3, h4⟩ := h
 have hb : bitsN ns = bl (num B ns) := by unfold bitsN; rw [if_pos h1]
 rw [hb] at h3 h4
 obtain ⟨b1, b2⟩ := bl_Bl (num B ns)
 refine ⟨h1, ?_, ?_, ?_⟩
 ·rw [show (0 : Int) = ((0 : Nat) : Int) from rfl, kre h1, Nat.testBit_zero, decide_eq_true_eq] at h2
  exact h2
 ·rcases b2 with b2 | b2
  ·omega
  ·exact Nat.le_trans (Nat.pow_le_pow_right (n := 2) (i := 14) (by decide) (by omega)) b2
 ·exact Nat.lt_of_lt_of_le b1 (Nat.pow_le_pow_right (by decide) (by omega))
theorem ktu {ns : List Nat} (l : ∀ x ∈ ns, x < B) (h : kp ns = true) : kv ns = digs B (num B ns * num B ns) ∧ num B ns * num B ns < B ^ 3 ∧ 1 < num B ns * num B ns ∧ num B ns * num B ns % 2 = 1 := by
 obtain ⟨h1, h2, h3, h4⟩ := kn4 l h
 have h30 : num B ns < B ^ 30 := Nat.lt_trans h4 (by decide)
 refine ⟨?_, ?_, ?_, ?_⟩
 ·unfold kv
  have := kdv h30 h30
  rw [kh9 l h1] at this
  rw [this]
 ·calc num B ns * num B ns < 2 ^ 80 * 2 ^ 80 := Nat.mul_lt_mul_of_lt_of_lt h4 h4
   _ < B ^ 3 := by decide
 ·calc 1 < 16384 * 16384 := by decide
   _ ≤ num B ns * num B ns := Nat.mul_le_mul h3 h3
 ·rw [Nat.mul_mod, h2]
def kgn (ns xs es : List Nat) : Prop := kp ns = true ∧ rt xs = true ∧ num B xs < num B ns * num B ns ∧ rt es = true ∧ es.length ≤ 8
theorem kra {h : AH} {s t u : Sl} {ns xs es : List Nat} (nn : Nats h s ns) (nx : Nats h t xs) (ne : Nats h u es) (c : kgn ns xs es) :
  Runs (go (.fn F.kke [s.v, t.v, u.v]) h) fun v h' => ∃ s1 : Sl, v = s1.v ∧ Nats h' s1 (powN xs es (kv ns)) ∧ Grow h h' ∧ Own h s1 := by
 obtain ⟨c1, c2, c3, c4, c5⟩ := c
 obtain ⟨q1, q2, q3, q4⟩ := ktu nn.lt c1
 have hN0 : num B ns * num B ns ≠ 0 := by omega
 rw [k7f]
 obtain ⟨_, h1, e1, s1, rfl, n1, g1, o1⟩ := kkz nn
 refine Runs.step e1 ?_
 refine Runs.step (seen (asSl_v _)) ?_
 rw [q1] at n1 ⊢
 have hl3 : (digs B (num B ns * num B ns)).length ≤ 3 := (kx B2 _ 3).2 q2
 have hn : num B (digs B (num B ns * num B ns)) = num B ns * num B ns := kf B2 _
 obtain ⟨_, h2, e2, j, v, s0, s2, s3, rfl, v1, v2, b, m0, m2, m3, g2⟩ := kyq n1 (kn (Nat.lt_of_lt_of_le q2 (Nat.pow_le_pow_right (by decide) (by decide)))) (fun e => hN0 (by rw [List.length_eq_zero_iff] at e; exact (kd6 B2).1 e)) (by omega) (by rw [hn]; exact q4) (by rw [hn]; exact q3)
 refine Runs.step e2 ?_
 refine Runs.step rfl ?_
 refine Runs.step (seen rfl) ?_
 refine Runs.step (seen (kb _ _)) ?_
 rw [hn] at v2 m2 m3
 have ring : RingOk (num B ns * num B ns) (digs B (num B ns * num B ns)).length v := ⟨by omega, by have := num_lt B1 (kz B2 (num B ns * num B ns)); rwa [hn] at this, q3, q4, v1, v2, rfl⟩
 have f1 : digs B (B ^ (1 * (digs B (num B ns * num B ns)).length) % (num B ns * num B ns)) = form (num B ns * num B ns) (digs B (num B ns * num B ns)).length 1 := by
  unfold form
  rw [Nat.one_mul, Nat.one_mul, B_pow2]
 have f2 : B ^ (2 * (digs B (num B ns * num B ns)).length) = 2 ^ (64 * (digs B (num B ns * num B ns)).length) * 2 ^ (64 * (digs B (num B ns * num B ns)).length) := by
  rw [Nat.two_mul, Nat.pow_add, B_pow2]
 rw [f1] at m2
 rw [f2] at m3
 have it := kyd ring c3 ne.lt c4 c5
 rw [kh9 nx.lt c2] at it
 obtain ⟨_, h3, e3, s4, rfl, n4, g4, o4⟩ := kwy b m0 m2 m3 (nx.grow (g1.trans g2)) (ne.grow (g1.trans g2)) it
 refine Runs.step e3 ?_
 refine Runs.step rfl ?_
 refine Runs.step (seen (asSl_v _)) ?_
 refine Runs.step (seen (kb _ _)) ?_
 refine Runs.ret ⟨s4, rfl, ?_, (g1.trans g2).trans g4, o4.of_le (g1.trans g2)⟩
 unfold powN
 rw [hn]
 exact n4
end Go.Ab

/- squeezed -/
set_option linter.unusedVariables false
set_option linter.unusedSimpArgs false
set_option maxRecDepth 10000
namespace Go.Ab
open Go.Proofs Go.Num
inductive kgi
 | fn (x1 : List Nat) (x2 : List (List Nat))
 | p4 (x1 : List Nat) (x2 : List (List Nat)) (a3 : Int) (a4 : Int)
abbrev kdn := Int
noncomputable def kg2 (x1 : List Nat) (x2 : List (List Nat)) : Option (kgi ⊕ kdn) :=
 cond (!((kp x1))) (some (.inr 1)) (some (.inl (.p4 x1 x2 (List.length x2 : Int) 0)))
noncomputable def kfg (x1 : List Nat) (x2 : List (List Nat)) (a3 : Int) (a4 : Int) : Option (kgi ⊕ kdn) :=
 cond (decide (a4 < a3)) ((atX x2 a4).bind fun y6 => cond (!((kq x1 y6))) (some (.inr 11)) (some (.inl (.p4 x1 x2 a3 (IntKind.wrap .i64 (a4 + 1)))))) (some (.inr 0))
noncomputable def knb : kgi → Option (kgi ⊕ kdn)
 | .fn x1 x2 => kg2 x1 x2
 | .p4 x1 x2 a3 a4 => kfg x1 x2 a3 a4
@[reducible] def kl9 (h0 : AH) (r : kdn) (v : AV) (h' : AH) : Prop := v = .int .i64 r ∧ Grow h0 h'
def klu (r : kdn) : kgi → Prop
 | .fn x1 x2 => ∀ {h : AH} {a1 : Sl} {a2 : Sl}, Nats h a1 x1 → Seq El.nats h a2 x2 → Runs (go (.fn F.kc4 [a1.v, a2.v]) h) (kl9 h r)
 | .p4 x1 x2 a3 a4 => ∀ {h0 h : AH} {a1 : Sl} {a2 : Sl}, Grow h0 h → Nats h a1 x1 → Seq El.nats h a2 x2 → Runs (go (.pt F.kc4 Td.knn [(0, a1.v), (10, a2.v), (11, .int .i64 a3), (12, .int .i64 a4)]) h) (kl9 h0 r)
theorem kbbu {r : kdn} {o : kgi ⊕ kdn} {x1 : List Nat} {x2 : List (List Nat)} (e : kg2 x1 x2 = some o) (good : GoodS (klu r) r o) : klu r (.fn x1 x2) := by
 intro h a1 a2 n1 n2
 rw [kbem]
 unfold kg2 at e
 rw [n2.len]
 obtain ⟨_, H3, e3, rfl, g3⟩ := krp n1
 refine Runs.step e3 ?_
 refine Runs.step (seen rfl) ?_
 refine Runs.cond (fun k4 => ?_) (fun k4 => ?_)
 ·replace e := (condT k4).symm.trans e
  cases e
  cases good
  exact Runs.ret ⟨rfl, g3⟩
 ·replace e := (condF k4).symm.trans e
  cases e
  exact good g3 (n1.grow g3) (n2.grow g3)
theorem k62 {r : kdn} {o : kgi ⊕ kdn} {x1 : List Nat} {x2 : List (List Nat)} {a3 : Int} {a4 : Int} (e : kfg x1 x2 a3 a4 = some o) (good : GoodS (klu r) r o) : klu r (.p4 x1 x2 a3 a4) := by
 intro h0 h a1 a2 g0 n1 n2
 rw [k39]
 unfold kfg at e
 rw [n2.len]
 refine Runs.cond (fun k5 => ?_) (fun k5 => ?_)
 ·replace e := (condT k5).symm.trans e
  obtain ⟨y6, q6, e⟩ := Option.bind_eq_some_iff.1 e
  obtain ⟨r6, cs6, j6, E6, l6⟩ := (n2).at q6
  obtain ⟨s6, rfl, n6⟩ := E6
  refine Runs.step j6 ?_
  refine Runs.step (l6.rd0 (Grow.refl _) rfl (asSl_v _)) ?_
  obtain ⟨_, H7, e7, rfl, g7⟩ := kv1 n1 n6
  refine Runs.step e7 ?_
  refine Runs.step (seen rfl) ?_
  refine Runs.cond (fun k8 => ?_) (fun k8 => ?_)
  ·replace e := (condT k8).symm.trans e
   cases e
   cases good
   exact Runs.ret ⟨rfl, (g0.trans g7)⟩
  ·replace e := (condF k8).symm.trans e
   cases e
   exact good (g0.trans g7) (n1.grow g7) (n2.grow g7)
 ·replace e := (condF k5).symm.trans e
  cases e
  cases good
  exact Runs.ret ⟨rfl, g0⟩
theorem k7l {s : kgi} {r : kdn} (it : Iter knb s r) : klu r s := Iter.ind (fun s o e good => by
 cases s with
 | fn x1 x2 => exact @kbbu _ _ x1 x2 e good
 | p4 x1 x2 a3 a4 => exact @k62 _ _ x1 x2 a3 a4 e good
 ) it
theorem kbbh {h : AH} {a1 : Sl} {a2 : Sl} {x1 : List Nat} {x2 : List (List Nat)} (n1 : Nats h a1 x1) (n2 : Seq El.nats h a2 x2) {r : kdn} (q : runP knb (.fn x1 x2) = some r) : Runs (go (.fn F.kc4 [a1.v, a2.v]) h) (kl9 h r) := k7l (kbz q) n1 n2
inductive kf4
 | fn (x1 : List (List Nat))
 | p2 (x1 : List (List Nat)) (a2 : Int)
abbrev kdm := Bool
noncomputable def kq5 (x1 : List (List Nat)) : Option (kf4 ⊕ kdm) :=
 some (.inl (.p2 x1 0))
noncomputable def ke0 (x1 : List (List Nat)) (a2 : Int) : Option (kf4 ⊕ kdm) :=
 cond (decide (a2 < (List.length x1 : Int))) ((atX x1 a2).bind fun y4 => cond (decide ((List.length y4 : Int) > 20)) (some (.inr false)) (some (.inl (.p2 x1 (IntKind.wrap .i64 (a2 + 1)))))) (some (.inr true))
noncomputable def knf : kf4 → Option (kf4 ⊕ kdm)
 | .fn x1 => kq5 x1
 | .p2 x1 a2 => ke0 x1 a2
@[reducible] def kob (h0 : AH) (r : kdm) (v : AV) (h' : AH) : Prop := v = .bool r ∧ Grow h0 h'
def kjv (r : kdm) : kf4 → Prop
 | .fn x1 => ∀ {h : AH} {a1 : Sl}, Seq El.nats h a1 x1 → Runs (go (.fn F.kff [a1.v]) h) (kob h r)
 | .p2 x1 a2 => ∀ {h0 h : AH} {a1 : Sl}, Grow h0 h → Seq El.nats h a1 x1 → Runs (go (.pt F.kff Td.koc [(0, a1.v), (3, .int .i64 a2)]) h) (kob h0 r)
theorem kbei {r : kdm} {o : kf4 ⊕ kdm} {x1 : List (List Nat)} (e : kq5 x1 = some o) (good : GoodS (kjv r) r o) : kjv r (.fn x1) := by
 intro h a1 n1
 rw [k87]
 unfold kq5 at e
 cases e
 exact good (Grow.refl _) n1
theorem k4c {r : kdm} {o : kf4 ⊕ kdm} {x1 : List (List Nat)} {a2 : Int} (e : ke0 x1 a2 = some o) (good : GoodS (kjv r) r o) : kjv r (.p2 x1 a2) := by
 intro h0 h a1 g0 n1
 rw [kbac]
 unfold ke0 at e
 rw [n1.len]
 refine Runs.cond (fun k3 => ?_) (fun k3 => ?_)
 ·replace e := (condT k3).symm.trans e
  obtain ⟨y4, q4, e⟩ := Option.bind_eq_some_iff.1 e
  obtain ⟨r4, cs4, j4, E4, l4⟩ := (n1).at q4
  obtain ⟨s4, rfl, n4⟩ := E4
  refine Runs.step j4 ?_
  refine Runs.step (l4.rd0 (Grow.refl _) rfl (asSl_v _)) ?_
  rw [n4.len]
  refine Runs.cond (fun k5 => ?_) (fun k5 => ?_)
  ·replace e := (condT k5).symm.trans e
   cases e
   cases good
   exact Runs.ret ⟨rfl, g0⟩
  ·replace e := (condF k5).symm.trans e
   cases e
   exact good g0 n1
 ·replace e := (condF k3).symm.trans e
  cases e
  cases good
  exact Runs.ret ⟨rfl, g0⟩
theorem k63 {s : kf4} {r : kdm} (it : Iter knf s r) : kjv r s := Iter.ind (fun s o e good => by
 cases s with
 | fn x1 => exact @kbei _ _ x1 e good
 | p2 x1 a2 => exact @k4c _ _ x1 a2 e good
 ) it
theorem k0u {h : AH} {a1 : Sl} {x1 : List (List Nat)} (n1 : Seq El.nats h a1 x1) {r : kdm} (q : runP knf (.fn x1) = some r) : Runs (go (.fn F.kff [a1.v]) h) (kob h r) := k63 (kbz q) n1
end Go.Ab

/- squeezed -/
set_option linter.unusedVariables false
set_option linter.unusedSimpArgs false
set_option maxRecDepth 10000
namespace Go.Ab
open Go.Proofs Go.Num
def faultF (ns : List Nat) (cs : List (List Nat)) : Int := cond (!kp ns) 1 (cond (cs.all fun c => kq ns c) 0 11)
def few06 (l : List (List Nat)) : Bool := l.all fun x => decide (x.length ≤ 20)
theorem kv7 {ns : List Nat} {cs : List (List Nat)} (hl : cs.length ≤ 1000000) : ∀ (d i : Nat), i + d = cs.length → Iter knb (.p4 ns cs (cs.length : Int) (i : Int)) (cond ((cs.drop i).all fun c => kq ns c) 0 11)
 | 0, i, hi => by
  refine .done ?_
  show kfg _ _ _ _ = _
  unfold kfg
  rw [condF (by rw [decide_eq_false_iff_not]; omega), List.drop_eq_nil_of_le (by omega)]
  rfl
 | d + 1, i, hi => by
  have hi' : i < cs.length := by omega
  have K := kv7 (ns := ns) hl d (i + 1) (by omega)
  rw [List.drop_eq_getElem_cons hi', List.all_cons]
  have step : kfg ns cs (cs.length : Int) (i : Int) = cond (!(kq ns cs[i])) (some (.inr 11)) (some (.inl (.p4 ns cs (cs.length : Int) ((i + 1 : Nat) : Int)))) := by
   unfold kfg
   rw [condT (by rw [decide_eq_true_eq]; omega), kqt hi', Option.bind_some, kw (by omega)]
  cases hv : kq ns cs[i]
  ·refine .done ?_
   show kfg _ _ _ _ = _
   rw [step, hv]
   rfl
  ·refine .next ?_ K
   show kfg _ _ _ _ = _
   rw [step, hv]
   rfl
theorem k0c {ns : List Nat} {cs : List (List Nat)} (hl : cs.length ≤ 1000000) : Iter knb (.fn ns cs) (faultF ns cs) := by
 have K := kv7 (ns := ns) hl cs.length 0 (by omega)
 unfold faultF
 cases hm : kp ns
 ·refine .done ?_
  show kg2 _ _ = _
  unfold kg2
  rw [hm]
  rfl
 ·refine .next ?_ K
  show kg2 _ _ = _
  unfold kg2
  rw [hm]
  rfl
theorem kyy {l : List (List Nat)} (hl : l.length ≤ 1000000) : ∀ (d i : Nat), i + d = l.length → Iter knf (.p2 l (i : Int)) ((l.drop i).all fun x => decide (x.length ≤ 20))
 | 0, i, hi => by
  refine .done ?_
  show ke0 _ _ = _
  unfold ke0
  rw [condF (by rw [decide_eq_false_iff_not]; omega), List.drop_eq_nil_of_le (by omega)]
  rfl
 | d + 1, i, hi => by
  have hi' : i < l.length := by omega
  have K := kyy hl d (i + 1) (by omega)
  rw [List.drop_eq_getElem_cons hi', List.all_cons]
  have step : ke0 l (i : Int) = cond (decide (((l[i]).length : Int) > 20)) (some (.inr false)) (some (.inl (.p2 l ((i + 1 : Nat) : Int)))) := by
   unfold ke0
   rw [condT (by rw [decide_eq_true_eq]; omega), kqt hi', Option.bind_some, kw (by omega)]
  by_cases h20 : (l[i]).length ≤ 20
  ·rw [show decide ((l[i]).length ≤ 20) = true from by rw [decide_eq_true_eq]; exact h20, Bool.true_and]
   refine .next ?_ K
   show ke0 _ _ = _
   rw [step, condF (by rw [decide_eq_false_iff_not]; omega)]
  ·rw [show decide ((l[i]).length ≤ 20) = false from by rw [decide_eq_false_iff_not]; exact h20, Bool.false_and]
   refine .done ?_
   show ke0 _ _ = _
   rw [step, condT (by rw [decide_eq_true_eq]; omega)]
theorem k7i {l : List (List Nat)} (hl : l.length ≤ 1000000) : Iter knf (.fn l) (few06 l) := by
 refine .next rfl ?_
 have := kyy hl l.length 0 (by omega)
 exact this
theorem kna {h : AH} {s t : Sl} {ns : List Nat} {cs : List (List Nat)} (n : Nats h s ns) (m : Seq El.nats h t cs) (hl : cs.length ≤ 1000000) : Runs (go (.fn F.kc4 [s.v, t.v]) h) (kl9 h (faultF ns cs)) := kbbh n m (kbp (k0c hl))
theorem kbec {h : AH} {t : Sl} {l : List (List Nat)} (m : Seq El.nats h t l) (hl : l.length ≤ 1000000) : Runs (go (.fn F.kff [t.v]) h) (kob h (few06 l)) := k0u m (kbp (k7i hl))
end Go.Ab

/- squeezed -/
set_option linter.unusedVariables false
set_option linter.unusedSimpArgs false
set_option maxRecDepth 10000
namespace Go.Ab
open Go.Proofs Go.Num
inductive kqd
 | fn (x1 : List Nat) (x2 : List Nat)
 | no
abbrev kx2 := List Nat
noncomputable def krv (x1 : List Nat) (x2 : List Nat) : Option (kqd ⊕ kx2) :=
 (need (powOk x2 x1 (kv x1))).bind fun c4_0 => some (.inr (powN x2 x1 (kv x1)))
noncomputable def ksu : kqd → Option (kqd ⊕ kx2)
 | .fn x1 x2 => krv x1 x2
 | .no => none
inductive kik
 | fn (x1 : List Nat) (x2 : List Nat) (x3 : List Nat)
 | no
abbrev kf7 := List Nat × Int
noncomputable def kk6 (x1 : List Nat) (x2 : List Nat) (x3 : List Nat) : Option (kik ⊕ kf7) :=
 cond (!((kp x1))) (some (.inr ([], 1))) (cond (!((kbf x1 x2))) (some (.inr ([], 10))) (cond (!((k0 x3 x1 x1))) (some (.inr ([], 1))) ((need (kgn x1 x3 x1)).bind fun c16_0 => some (.inr ((kfn x1 (kcu x1 x2) (powN x3 x1 (kv x1))), 0)))))
noncomputable def knp : kik → Option (kik ⊕ kf7)
 | .fn x1 x2 x3 => kk6 x1 x2 x3
 | .no => none
@[reducible] def kwh (h0 : AH) (r : kf7) (v : AV) (h' : AH) : Prop := ∃ s1 : Sl, v = .tup [s1.v, .int .i64 r.2] ∧ Nats h' s1 r.1 ∧ Grow h0 h' ∧ Own h0 s1
def kro (r : kf7) : kik → Prop
 | .fn x1 x2 x3 => ∀ {h : AH} {a1 : Sl} {a2 : Sl} {a3 : Sl}, Nats h a1 x1 → Nats h a2 x2 → Nats h a3 x3 → Runs (go (.fn F.kmp [a1.v, a2.v, a3.v]) h) (kwh h r)
 | .no => True
theorem kbc6 {r : kf7} {o : kik ⊕ kf7} {x1 : List Nat} {x2 : List Nat} {x3 : List Nat} (e : kk6 x1 x2 x3 = some o) (good : GoodS (kro r) r o) : kro r (.fn x1 x2 x3) := by
 intro h a1 a2 a3 n1 n2 n3
 rw [kbbg]
 unfold kk6 at e
 obtain ⟨_, H4, e4, rfl, g4⟩ := krp n1
 refine Runs.step e4 ?_
 refine Runs.step (seen rfl) ?_
 refine Runs.cond (fun k5 => ?_) (fun k5 => ?_)
 ·replace e := (condT k5).symm.trans e
  cases e
  cases good
  exact Runs.ret ⟨(⟨none, 0, .is 0⟩ : Sl), rfl, (Nats.nil _), g4, (Own.nil _)⟩
 ·replace e := (condF k5).symm.trans e
  obtain ⟨_, H6, e6, rfl, g6⟩ := kp6 (n1.grow g4) (n2.grow g4)
  refine Runs.step e6 ?_
  refine Runs.step (seen rfl) ?_
  refine Runs.cond (fun k7 => ?_) (fun k7 => ?_)
  ·replace e := (condT k7).symm.trans e
   cases e
   cases good
   exact Runs.ret ⟨(⟨none, 0, .is 0⟩ : Sl), rfl, (Nats.nil _), (g4.trans g6), (Own.nil _)⟩
  ·replace e := (condF k7).symm.trans e
   obtain ⟨_, H8, e8, rfl, g8⟩ := ktp (n3.grow (g4.trans g6)) (n1.grow (g4.trans g6)) (n1.grow (g4.trans g6))
   refine Runs.step e8 ?_
   refine Runs.step (seen rfl) ?_
   refine Runs.cond (fun k9 => ?_) (fun k9 => ?_)
   ·replace e := (condT k9).symm.trans e
    cases e
    cases good
    have G10 := ((g4.trans g6).trans g8)
    exact Runs.ret ⟨(⟨none, 0, .is 0⟩ : Sl), rfl, (Nats.nil _), G10, (Own.nil _)⟩
   ·replace e := (condF k9).symm.trans e
    have G10 := ((g4.trans g6).trans g8)
    have n1_11 := n1.grow G10
    have n2_12 := n2.grow G10
    obtain ⟨_, H13, e13, s13, rfl, n13, g13, o13⟩ := kps n1_11 n2_12
    refine Runs.step e13 ?_
    refine Runs.step (seen (asSl_v _)) ?_
    have G14 := (G10.trans g13)
    have n3_15 := n3.grow G14
    obtain ⟨c16_0, q16_0, e⟩ := Option.bind_eq_some_iff.1 e
    obtain ⟨_, H16, e16, s16, rfl, n16, g16, o16⟩ := kra (n1_11.grow g13) n3_15 (n1_11.grow g13)  c16_0.down
    refine Runs.step e16 ?_
    refine Runs.step (seen (asSl_v _)) ?_
    obtain ⟨_, H17, e17, s17, rfl, n17, g17, o17⟩ := kms (n1_11.grow (g13.trans g16)) (n13.grow g16) n16
    refine Runs.step e17 ?_
    refine Runs.step (seen (asSl_v _)) ?_
    cases e
    cases good
    have G18 := (G14.trans g16)
    have G19 := (G18.trans g17)
    exact Runs.ret ⟨s17, rfl, n17, G19, (o17.of_le G18)⟩
theorem k8h {s : kik} {r : kf7} (it : Iter knp s r) : kro r s := Iter.ind (fun s o e good => by
 cases s with
 | fn x1 x2 x3 => exact @kbc6 _ _ x1 x2 x3 e good
 | no => exact True.intro
 ) it
theorem kbah {h : AH} {a1 : Sl} {a2 : Sl} {a3 : Sl} {x1 : List Nat} {x2 : List Nat} {x3 : List Nat} (n1 : Nats h a1 x1) (n2 : Nats h a2 x2) (n3 : Nats h a3 x3) {r : kf7} (q : runP knp (.fn x1 x2 x3) = some r) : Runs (go (.fn F.kmp [a1.v, a2.v, a3.v]) h) (kwh h r) := k8h (kbz q) n1 n2 n3
inductive ksi
 | fn (x1 : List Nat) (x2 : List Nat) (x3 : List Nat)
 | no
abbrev kzl := List Nat × Int
noncomputable def krg (x1 : List Nat) (x2 : List Nat) (x3 : List Nat) : Option (ksi ⊕ kzl) :=
 cond (!((kp x1))) (some (.inr ([], 1))) (cond (!((kbf x1 x2))) (some (.inr ([], 10))) (cond (!((k0 x3 x1 x1))) (some (.inr ([], 1))) ((runP ksu (.fn x1 x3)).bind fun p16 => some (.inr ((kdx (kcu x1 x2) p16 (kv x1)), 0)))))
noncomputable def kbda : ksi → Option (ksi ⊕ kzl)
 | .fn x1 x2 x3 => krg x1 x2 x3
 | .no => none
inductive kjc
 | fn (x1 : List Nat) (x2 : List Nat) (x3 : List Nat)
 | no
abbrev kfr := List Nat × Int
noncomputable def kjq (x1 : List Nat) (x2 : List Nat) (x3 : List Nat) : Option (kjc ⊕ kfr) :=
 cond (!decide (((faultF x1 [x2, x3])) = 0)) (some (.inr ([], ((faultF x1 [x2, x3]))))) (some (.inr ((kfn x1 x2 x3), 0)))
noncomputable def kqq : kjc → Option (kjc ⊕ kfr)
 | .fn x1 x2 x3 => kjq x1 x2 x3
 | .no => none
@[reducible] def ksq (h0 : AH) (r : kfr) (v : AV) (h' : AH) : Prop := ∃ s1 : Sl, v = .tup [s1.v, .int .i64 r.2] ∧ Nats h' s1 r.1 ∧ Grow h0 h' ∧ Own h0 s1
def ktl (r : kfr) : kjc → Prop
 | .fn x1 x2 x3 => ∀ {h : AH} {a1 : Sl} {a2 : Sl} {a3 : Sl}, Nats h a1 x1 → Nats h a2 x2 → Nats h a3 x3 → Runs (go (.fn F.kj8 [a1.v, a2.v, a3.v]) h) (ksq h r)
 | .no => True
theorem k54 {r : kfr} {o : kjc ⊕ kfr} {x1 : List Nat} {x2 : List Nat} {x3 : List Nat} (e : kjq x1 x2 x3 = some o) (good : GoodS (ktl r) r o) : ktl r (.fn x1 x2 x3) := by
 intro h a1 a2 a3 n1 n2 n3
 rw [k1i]
 unfold kjq at e
 refine Runs.new fun H4 b4 g4 => ?_
 obtain ⟨_, H5, e5, rfl, g5⟩ := kna (n1.grow g4) (Seq.lit (E := El.nats) (rows := [[(a2).v], [(a3).v]]) (n := 2) b4 (.cons ⟨_, rfl, (n2.grow g4)⟩ (.cons ⟨_, rfl, (n3.grow g4)⟩ .nil)) rfl) (by simp)
 refine Runs.step e5 ?_
 refine Runs.step (seen (kb _ _)) ?_
 refine Runs.cond (fun k6 => ?_) (fun k6 => ?_)
 ·replace e := (condT k6).symm.trans e
  cases e
  cases good
  exact Runs.ret ⟨(⟨none, 0, .is 0⟩ : Sl), rfl, (Nats.nil _), (g4.trans g5), (Own.nil _)⟩
 ·replace e := (condF k6).symm.trans e
  obtain ⟨_, H7, e7, s7, rfl, n7, g7, o7⟩ := kms (n1.grow (g4.trans g5)) (n2.grow (g4.trans g5)) (n3.grow (g4.trans g5))
  refine Runs.step e7 ?_
  refine Runs.step (seen (asSl_v _)) ?_
  cases e
  cases good
  have G8 := ((g4.trans g5).trans g7)
  exact Runs.ret ⟨s7, rfl, n7, G8, (o7.of_le (g4.trans g5))⟩
theorem k6r {s : kjc} {r : kfr} (it : Iter kqq s r) : ktl r s := Iter.ind (fun s o e good => by
 cases s with
 | fn x1 x2 x3 => exact @k54 _ _ x1 x2 x3 e good
 | no => exact True.intro
 ) it
theorem k1d {h : AH} {a1 : Sl} {a2 : Sl} {a3 : Sl} {x1 : List Nat} {x2 : List Nat} {x3 : List Nat} (n1 : Nats h a1 x1) (n2 : Nats h a2 x2) (n3 : Nats h a3 x3) {r : kfr} (q : runP kqq (.fn x1 x2 x3) = some r) : Runs (go (.fn F.kj8 [a1.v, a2.v, a3.v]) h) (ksq h r) := k6r (kbz q) n1 n2 n3
inductive ktz
 | fn (x1 : List Nat) (x2 : List Nat) (x3 : List Nat)
 | no
abbrev kxc := List Nat × Int
noncomputable def krk (x1 : List Nat) (x2 : List Nat) (x3 : List Nat) : Option (ktz ⊕ kxc) :=
 cond (!((kp x1))) (some (.inr ([], 1))) (cond (!((kq x1 x2))) (some (.inr ([], 11))) (cond (!((kq x1 x3))) (some (.inr ([], 11))) (some (.inr ((kdx x2 x3 (kv x1)), 0)))))
noncomputable def k2r : ktz → Option (ktz ⊕ kxc)
 | .fn x1 x2 x3 => krk x1 x2 x3
 | .no => none
inductive kjk
 | fn (x1 : List Nat) (x2 : List Nat) (x3 : List Nat)
 | no
abbrev kgc := List Nat × Int
noncomputable def kjm (x1 : List Nat) (x2 : List Nat) (x3 : List Nat) : Option (kjk ⊕ kgc) :=
 cond (!decide (((faultF x1 [x2])) = 0)) (some (.inr ([], ((faultF x1 [x2]))))) (cond (!((kbf x1 x3))) (some (.inr ([], 10))) (some (.inr ((kfn x1 x2 (kcu x1 x3)), 0))))
noncomputable def ks7 : kjk → Option (kjk ⊕ kgc)
 | .fn x1 x2 x3 => kjm x1 x2 x3
 | .no => none
@[reducible] def kqr (h0 : AH) (r : kgc) (v : AV) (h' : AH) : Prop := ∃ s1 : Sl, v = .tup [s1.v, .int .i64 r.2] ∧ Nats h' s1 r.1 ∧ Grow h0 h' ∧ Own h0 s1
def kst (r : kgc) : kjk → Prop
 | .fn x1 x2 x3 => ∀ {h : AH} {a1 : Sl} {a2 : Sl} {a3 : Sl}, Nats h a1 x1 → Nats h a2 x2 → Nats h a3 x3 → Runs (go (.fn F.kis [a1.v, a2.v, a3.v]) h) (kqr h r)
 | .no => True
theorem k3s {r : kgc} {o : kjk ⊕ kgc} {x1 : List Nat} {x2 : List Nat} {x3 : List Nat} (e : kjm x1 x2 x3 = some o) (good : GoodS (kst r) r o) : kst r (.fn x1 x2 x3) := by
 intro h a1 a2 a3 n1 n2 n3
 rw [kbco]
 unfold kjm at e
 refine Runs.new fun H4 b4 g4 => ?_
 obtain ⟨_, H5, e5, rfl, g5⟩ := kna (n1.grow g4) (Seq.lit (E := El.nats) (rows := [[(a2).v]]) (n := 1) b4 (.cons ⟨_, rfl, (n2.grow g4)⟩ .nil) rfl) (by simp)
 refine Runs.step e5 ?_
 refine Runs.step (seen (kb _ _)) ?_
 refine Runs.cond (fun k6 => ?_) (fun k6 => ?_)
 ·replace e := (condT k6).symm.trans e
  cases e
  cases good
  exact Runs.ret ⟨(⟨none, 0, .is 0⟩ : Sl), rfl, (Nats.nil _), (g4.trans g5), (Own.nil _)⟩
 ·replace e := (condF k6).symm.trans e
  obtain ⟨_, H7, e7, rfl, g7⟩ := kp6 (n1.grow (g4.trans g5)) (n3.grow (g4.trans g5))
  refine Runs.step e7 ?_
  refine Runs.step (seen rfl) ?_
  refine Runs.cond (fun k8 => ?_) (fun k8 => ?_)
  ·replace e := (condT k8).symm.trans e
   cases e
   cases good
   have G9 := ((g4.trans g5).trans g7)
   exact Runs.ret ⟨(⟨none, 0, .is 0⟩ : Sl), rfl, (Nats.nil _), G9, (Own.nil _)⟩
  ·replace e := (condF k8).symm.trans e
   have G9 := ((g4.trans g5).trans g7)
   have n1_10 := n1.grow G9
   have n3_11 := n3.grow G9
   obtain ⟨_, H12, e12, s12, rfl, n12, g12, o12⟩ := kps n1_10 n3_11
   refine Runs.step e12 ?_
   refine Runs.step (seen (asSl_v _)) ?_
   have G13 := (G9.trans g12)
   have n2_14 := n2.grow G13
   obtain ⟨_, H15, e15, s15, rfl, n15, g15, o15⟩ := kms (n1_10.grow g12) n2_14 n12
   refine Runs.step e15 ?_
   refine Runs.step (seen (asSl_v _)) ?_
   cases e
   cases good
   have G16 := (G13.trans g15)
   exact Runs.ret ⟨s15, rfl, n15, G16, (o15.of_le G13)⟩
theorem k5j {s : kjk} {r : kgc} (it : Iter ks7 s r) : kst r s := Iter.ind (fun s o e good => by
 cases s with
 | fn x1 x2 x3 => exact @k3s _ _ x1 x2 x3 e good
 | no => exact True.intro
 ) it
theorem kbct {h : AH} {a1 : Sl} {a2 : Sl} {a3 : Sl} {x1 : List Nat} {x2 : List Nat} {x3 : List Nat} (n1 : Nats h a1 x1) (n2 : Nats h a2 x2) (n3 : Nats h a3 x3) {r : kgc} (q : runP ks7 (.fn x1 x2 x3) = some r) : Runs (go (.fn F.kis [a1.v, a2.v, a3.v]) h) (kqr h r) := k5j (kbz q) n1 n2 n3
inductive kp7
 | fn (x1 : List Nat) (x2 : List Nat) (x3 : List Nat)
 | no
abbrev kwl := List Nat × Int
noncomputable def ksd (x1 : List Nat) (x2 : List Nat) (x3 : List Nat) : Option (kp7 ⊕ kwl) :=
 cond (!((kp x1))) (some (.inr ([], 1))) (cond (!((kq x1 x2))) (some (.inr ([], 11))) (cond (!((kbf x1 x3))) (some (.inr ([], 10))) (some (.inr ((kdx x2 (kcu x1 x3) (kv x1)), 0)))))
noncomputable def kbc4 : kp7 → Option (kp7 ⊕ kwl)
 | .fn x1 x2 x3 => ksd x1 x2 x3
 | .no => none
inductive kin
 | fn (x1 : List Nat) (x2 : List Nat) (x3 : List Nat)
 | no
abbrev kf1 := List Nat × Int
noncomputable def kj9 (x1 : List Nat) (x2 : List Nat) (x3 : List Nat) : Option (kin ⊕ kf1) :=
 cond (!decide (((faultF x1 [x2])) = 0)) (some (.inr ([], ((faultF x1 [x2]))))) (cond (!((kbf x1 x3))) (some (.inr ([], 10))) ((need (kgn x1 x2 x3)).bind fun c13_0 => some (.inr ((powN x2 x3 (kv x1)), 0))))
noncomputable def kqz : kin → Option (kin ⊕ kf1)
 | .fn x1 x2 x3 => kj9 x1 x2 x3
 | .no => none
@[reducible] def ksn (h0 : AH) (r : kf1) (v : AV) (h' : AH) : Prop := ∃ s1 : Sl, v = .tup [s1.v, .int .i64 r.2] ∧ Nats h' s1 r.1 ∧ Grow h0 h' ∧ Own h0 s1
def krh (r : kf1) : kin → Prop
 | .fn x1 x2 x3 => ∀ {h : AH} {a1 : Sl} {a2 : Sl} {a3 : Sl}, Nats h a1 x1 → Nats h a2 x2 → Nats h a3 x3 → Runs (go (.fn F.ki2 [a1.v, a2.v, a3.v]) h) (ksn h r)
 | .no => True
theorem kbat {r : kf1} {o : kin ⊕ kf1} {x1 : List Nat} {x2 : List Nat} {x3 : List Nat} (e : kj9 x1 x2 x3 = some o) (good : GoodS (krh r) r o) : krh r (.fn x1 x2 x3) := by
 intro h a1 a2 a3 n1 n2 n3
 rw [kbb1]
 unfold kj9 at e
 refine Runs.new fun H4 b4 g4 => ?_
 obtain ⟨_, H5, e5, rfl, g5⟩ := kna (n1.grow g4) (Seq.lit (E := El.nats) (rows := [[(a2).v]]) (n := 1) b4 (.cons ⟨_, rfl, (n2.grow g4)⟩ .nil) rfl) (by simp)
 refine Runs.step e5 ?_
 refine Runs.step (seen (kb _ _)) ?_
 refine Runs.cond (fun k6 => ?_) (fun k6 => ?_)
 ·replace e := (condT k6).symm.trans e
  cases e
  cases good
  exact Runs.ret ⟨(⟨none, 0, .is 0⟩ : Sl), rfl, (Nats.nil _), (g4.trans g5), (Own.nil _)⟩
 ·replace e := (condF k6).symm.trans e
  obtain ⟨_, H7, e7, rfl, g7⟩ := kp6 (n1.grow (g4.trans g5)) (n3.grow (g4.trans g5))
  refine Runs.step e7 ?_
  refine Runs.step (seen rfl) ?_
  refine Runs.cond (fun k8 => ?_) (fun k8 => ?_)
  ·replace e := (condT k8).symm.trans e
   cases e
   cases good
   have G9 := ((g4.trans g5).trans g7)
   exact Runs.ret ⟨(⟨none, 0, .is 0⟩ : Sl), rfl, (Nats.nil _), G9, (Own.nil _)⟩
  ·replace e := (condF k8).symm.trans e
   have G9 := ((g4.trans g5).trans g7)
   have n1_10 := n1.grow G9
   have n2_11 := n2.grow G9
   have n3_12 := n3.grow G9
   obtain ⟨c13_0, q13_0, e⟩ := Option.bind_eq_some_iff.1 e
   obtain ⟨_, H13, e13, s13, rfl, n13, g13, o13⟩ := kra n1_10 n2_11 n3_12  c13_0.down
   refine Runs.step e13 ?_
   refine Runs.step (seen (asSl_v _)) ?_
   cases e
   cases good
   have G14 := (G9.trans g13)
   exact Runs.ret ⟨s13, rfl, n13, G14, (o13.of_le G9)⟩
theorem k9e {s : kin} {r : kf1} (it : Iter kqz s r) : krh r s := Iter.ind (fun s o e good => by
 cases s with
 | fn x1 x2 x3 => exact @kbat _ _ x1 x2 x3 e good
 | no => exact True.intro
 ) it
theorem k4g {h : AH} {a1 : Sl} {a2 : Sl} {a3 : Sl} {x1 : List Nat} {x2 : List Nat} {x3 : List Nat} (n1 : Nats h a1 x1) (n2 : Nats h a2 x2) (n3 : Nats h a3 x3) {r : kf1} (q : runP kqz (.fn x1 x2 x3) = some r) : Runs (go (.fn F.ki2 [a1.v, a2.v, a3.v]) h) (ksn h r) := k9e (kbz q) n1 n2 n3
inductive krj
 | fn (x1 : List Nat) (x2 : List Nat) (x3 : List Nat)
 | no
abbrev kxb := List Nat × Int
noncomputable def kpk (x1 : List Nat) (x2 : List Nat) (x3 : List Nat) : Option (krj ⊕ kxb) :=
 cond (!((kp x1))) (some (.inr ([], 1))) (cond (!((kq x1 x2))) (some (.inr ([], 11))) (cond (!((kbf x1 x3))) (some (.inr ([], 10))) ((need (powOk x2 x3 (kv x1))).bind fun c16_0 => some (.inr ((powN x2 x3 (kv x1)), 0)))))
noncomputable def k8q : krj → Option (krj ⊕ kxb)
 | .fn x1 x2 x3 => kpk x1 x2 x3
 | .no => none
inductive kio
 | fn (x1 : List Nat) (x2 : List Nat) (x3 : List Nat)
 | no
abbrev kgb := List Nat × Int
noncomputable def kki (x1 : List Nat) (x2 : List Nat) (x3 : List Nat) : Option (kio ⊕ kgb) :=
 cond (!decide (((faultF x1 [x2])) = 0)) (some (.inr ([], ((faultF x1 [x2]))))) (cond (!((k0 x3 x1 x1))) (some (.inr ([], 1))) ((need (kgn x1 x3 x1)).bind fun c12_0 => some (.inr ((kfn x1 x2 (powN x3 x1 (kv x1))), 0))))
noncomputable def kqu : kio → Option (kio ⊕ kgb)
 | .fn x1 x2 x3 => kki x1 x2 x3
 | .no => none
@[reducible] def kse (h0 : AH) (r : kgb) (v : AV) (h' : AH) : Prop := ∃ s1 : Sl, v = .tup [s1.v, .int .i64 r.2] ∧ Nats h' s1 r.1 ∧ Grow h0 h' ∧ Own h0 s1
def ksc (r : kgb) : kio → Prop
 | .fn x1 x2 x3 => ∀ {h : AH} {a1 : Sl} {a2 : Sl} {a3 : Sl}, Nats h a1 x1 → Nats h a2 x2 → Nats h a3 x3 → Runs (go (.fn F.klv [a1.v, a2.v, a3.v]) h) (kse h r)
 | .no => True
theorem kbaq {r : kgb} {o : kio ⊕ kgb} {x1 : List Nat} {x2 : List Nat} {x3 : List Nat} (e : kki x1 x2 x3 = some o) (good : GoodS (ksc r) r o) : ksc r (.fn x1 x2 x3) := by
 intro h a1 a2 a3 n1 n2 n3
 rw [k8r]
 unfold kki at e
 refine Runs.new fun H4 b4 g4 => ?_
 obtain ⟨_, H5, e5, rfl, g5⟩ := kna (n1.grow g4) (Seq.lit (E := El.nats) (rows := [[(a2).v]]) (n := 1) b4 (.cons ⟨_, rfl, (n2.grow g4)⟩ .nil) rfl) (by simp)
 refine Runs.step e5 ?_
 refine Runs.step (seen (kb _ _)) ?_
 refine Runs.cond (fun k6 => ?_) (fun k6 => ?_)
 ·replace e := (condT k6).symm.trans e
  cases e
  cases good
  exact Runs.ret ⟨(⟨none, 0, .is 0⟩ : Sl), rfl, (Nats.nil _), (g4.trans g5), (Own.nil _)⟩
 ·replace e := (condF k6).symm.trans e
  obtain ⟨_, H7, e7, rfl, g7⟩ := ktp (n3.grow (g4.trans g5)) (n1.grow (g4.trans g5)) (n1.grow (g4.trans g5))
  refine Runs.step e7 ?_
  refine Runs.step (seen rfl) ?_
  refine Runs.cond (fun k8 => ?_) (fun k8 => ?_)
  ·replace e := (condT k8).symm.trans e
   cases e
   cases good
   have G9 := ((g4.trans g5).trans g7)
   exact Runs.ret ⟨(⟨none, 0, .is 0⟩ : Sl), rfl, (Nats.nil _), G9, (Own.nil _)⟩
  ·replace e := (condF k8).symm.trans e
   have G9 := ((g4.trans g5).trans g7)
   have n1_10 := n1.grow G9
   have n3_11 := n3.grow G9
   obtain ⟨c12_0, q12_0, e⟩ := Option.bind_eq_some_iff.1 e
   obtain ⟨_, H12, e12, s12, rfl, n12, g12, o12⟩ := kra n1_10 n3_11 n1_10  c12_0.down
   refine Runs.step e12 ?_
   refine Runs.step (seen (asSl_v _)) ?_
   have G13 := (G9.trans g12)
   have n2_14 := n2.grow G13
   obtain ⟨_, H15, e15, s15, rfl, n15, g15, o15⟩ := kms (n1_10.grow g12) n2_14 n12
   refine Runs.step e15 ?_
   refine Runs.step (seen (asSl_v _)) ?_
   cases e
   cases good
   have G16 := (G13.trans g15)
   exact Runs.ret ⟨s15, rfl, n15, G16, (o15.of_le G13)⟩
theorem k1j {s : kio} {r : kgb} (it : Iter kqu s r) : ksc r s := Iter.ind (fun s o e good => by
 cases s with
 | fn x1 x2 x3 => exact @kbaq _ _ x1 x2 x3 e good
 | no => exact True.intro
 ) it
theorem kba2 {h : AH} {a1 : Sl} {a2 : Sl} {a3 : Sl} {x1 : List Nat} {x2 : List Nat} {x3 : List Nat} (n1 : Nats h a1 x1) (n2 : Nats h a2 x2) (n3 : Nats h a3 x3) {r : kgb} (q : runP kqu (.fn x1 x2 x3) = some r) : Runs (go (.fn F.klv [a1.v, a2.v, a3.v]) h) (kse h r) := k1j (kbz q) n1 n2 n3
inductive kp8
 | fn (x1 : List Nat) (x2 : List Nat) (x3 : List Nat)
 | no
abbrev kwr := List Nat × Int
noncomputable def kpy (x1 : List Nat) (x2 : List Nat) (x3 : List Nat) : Option (kp8 ⊕ kwr) :=
 cond (!((kp x1))) (some (.inr ([], 1))) (cond (!((kq x1 x2))) (some (.inr ([], 11))) (cond (!((k0 x3 x1 x1))) (some (.inr ([], 1))) ((runP ksu (.fn x1 x3)).bind fun p13 => some (.inr ((kdx x2 p13 (kv x1)), 0)))))
noncomputable def kben : kp8 → Option (kp8 ⊕ kwr)
 | .fn x1 x2 x3 => kpy x1 x2 x3
 | .no => none
inductive kiy
 | fn
 | no
abbrev khq := Bool
noncomputable def klw  : Option (kiy ⊕ khq) :=
 (u64P 17947).bind fun w4 => (u64P 5).bind fun w5 => (u64P 1).bind fun w6 => (runP knp (.fn [w4] [w5] [w6])).bind fun p7 => cond (decide ((p7.2) = 0)) (cond (decide ((List.length p7.1 : Int) = 1)) ((atI p7.1 0).bind fun y10 => some (.inr (decide (((y10 : Int)) = 89736)))) (some (.inr false))) (some (.inr false))
noncomputable def ky3 : kiy → Option (kiy ⊕ khq)
 | .fn  => klw
 | .no => none
@[reducible] def kbcj (h0 : AH) (r : khq) (v : AV) (h' : AH) : Prop := v = .bool r ∧ Grow h0 h'
def kpz (r : khq) : kiy → Prop
 | .fn  => ∀ {h : AH}, Runs (go (.fn F.ko8 []) h) (kbcj h r)
 | .no => True
theorem k6q {r : khq} {o : kiy ⊕ khq}  (e : klw  = some o) (good : GoodS (kpz r) r o) : kpz r (.fn ) := by
 intro h
 rw [kbdv]
 unfold klw at e
 refine Runs.new fun H1 b1 g1 => ?_
 refine Runs.new fun H2 b2 g2 => ?_
 refine Runs.new fun H3 b3 g3 => ?_
 obtain ⟨w4, z4, e⟩ := Option.bind_eq_some_iff.1 e
 obtain ⟨w5, z5, e⟩ := Option.bind_eq_some_iff.1 e
 obtain ⟨w6, z6, e⟩ := Option.bind_eq_some_iff.1 e
 obtain ⟨p7, q7, e⟩ := Option.bind_eq_some_iff.1 e
 obtain ⟨_, H7, e7, s7, rfl, n7, g7, o7⟩ := kbah (Nats.of_has1 ((g2.trans g3).has b1) z4) (Nats.of_has1 (g3.has b2) z5) (Nats.of_has1 b3 z6) q7
 refine Runs.step e7 ?_
 refine Runs.step rfl ?_
 refine Runs.step (seen (asSl_v _)) ?_
 rw [n7.len]
 refine Runs.step (seen (kb _ _)) ?_
 refine Runs.cond (fun k8 => ?_) (fun k8 => ?_)
 ·replace e := (condT k8).symm.trans e
  refine Runs.cond (fun k9 => ?_) (fun k9 => ?_)
  ·replace e := (condT k9).symm.trans e
   obtain ⟨y10, q10, e⟩ := Option.bind_eq_some_iff.1 e
   obtain ⟨r10, j10, l10⟩ := n7.atI q10
   refine Runs.step j10 ?_
   refine Runs.step (rdc l10 (kb _ _)) ?_
   cases e
   cases good
   have G11 := (((g1.trans g2).trans g3).trans g7)
   exact Runs.ret ⟨rfl, G11⟩
  ·replace e := (condF k9).symm.trans e
   cases e
   cases good
   have G10 := (((g1.trans g2).trans g3).trans g7)
   exact Runs.ret ⟨rfl, G10⟩
 ·replace e := (condF k8).symm.trans e
  cases e
  cases good
  have G9 := (((g1.trans g2).trans g3).trans g7)
  exact Runs.ret ⟨rfl, G9⟩
theorem k46 {s : kiy} {r : khq} (it : Iter ky3 s r) : kpz r s := Iter.ind (fun s o e good => by
 cases s with
 | fn  => exact @k6q _ _  e good
 | no => exact True.intro
 ) it
end Go.Ab

/- squeezed -/
set_option linter.unusedVariables false
set_option linter.unusedSimpArgs false
set_option maxRecDepth 10000
namespace Go.Ab
open Go.Proofs Go.Num
theorem kw6 (ns xs ys : List Nat) : kfn ns xs ys = kdx xs ys (kv ns) := rfl
theorem ktb {xs ys : List Nat} (hx : rt xs = true) (hy : rt ys = true) (h : cmpN xs ys < 0) : num B xs < num B ys := by
 rw [kl6 hx hy] at h
 unfold cmp at h
 split at h
 ·assumption
 ·split at h <;> simp at h
theorem kvs {cs ns bs : List Nat} (h : k0 cs ns bs = true) (hb : rt bs = true) : rt cs = true ∧ num B cs < num B bs := by
 unfold k0 at h
 cases hr : rt cs with
 | false => rw [hr] at h; cases h
 | true =>
  rw [hr] at h
  refine ⟨rfl, ktb hr hb ?_⟩
  simp only [Bool.not_true, cond_false] at h
  by_cases h0 : decide ((cs.length : Int) = 0) = true
  ·rw [h0] at h; cases h
  ·rw [Bool.not_eq_true] at h0
   rw [h0, cond_false] at h
   by_cases h1 : decide (cmpN cs bs ≥ 0) = true
   ·rw [h1] at h; cases h
   ·rw [decide_eq_true_eq] at h1
    omega
theorem k06 {ns ms : List Nat} (h : kbf ns ms = true) (hn : rt ns = true) : rt ms = true ∧ num B ms < num B ns := by
 unfold kbf at h
 cases hr : rt ms with
 | false => rw [hr] at h; cases h
 | true =>
  rw [hr, cond_true, decide_eq_true_eq] at h
  exact ⟨rfl, ktb hr hn h⟩
section
variable {ns xs es : List Nat} (ln : ∀ x ∈ ns, x < B) (le : ∀ x ∈ es, x < B)
include ln le
theorem kzt (m : kp ns = true) (hx : rt xs = true) (h1 : num B xs < num B ns * num B ns) (he : rt es = true) (h2 : num B es ≤ num B ns) : kgn ns xs es ∧ powOk xs es (kv ns) := by
 obtain ⟨m1, m2, m3, m4⟩ := kn4 ln m
 obtain ⟨q1, q2, q3, q4⟩ := ktu ln m
 have h8 : es.length ≤ 8 := by
  have := (kx B2 (num B es) 8).2 (Nat.lt_of_le_of_lt h2 (Nat.lt_trans m4 (by decide)))
  rwa [kh9 le he] at this
 have h3 : (kv ns).length ≤ 3 := by rw [q1]; exact (kx B2 _ 3).2 q2
 have hn : num B (kv ns) = num B ns * num B ns := by rw [q1, kf B2]
 refine ⟨⟨m, hx, h1, he, h8⟩, hx, he, ?_, by omega, by rw [hn]; exact q3, by rw [hn]; exact h1⟩
 rw [q1]
 exact kn (Nat.lt_of_lt_of_le q2 (Nat.pow_le_pow_right (by decide) (by decide)))
end
section
variable {ns xs ys : List Nat} (ln : ∀ x ∈ ns, x < B) (lx : ∀ x ∈ xs, x < B) (ly : ∀ x ∈ ys, x < B)
theorem kp5 (ln : ∀ x ∈ ns, x < B) (lx : ∀ x ∈ xs, x < B) (m : kp ns = true) (a : k0 xs ns ns = true) : kgn ns xs ns ∧ powOk xs ns (kv ns) := by
 obtain ⟨m1, m2, m3, m4⟩ := kn4 ln m
 obtain ⟨a1, a2⟩ := kvs a m1
 refine kzt ln ln m a1 (Nat.lt_of_lt_of_le a2 ?_) m1 (Nat.le_refl _)
 have := Nat.mul_le_mul_left (num B ns) (show 1 ≤ num B ns by omega)
 omega
theorem kyg (ln : ∀ x ∈ ns, x < B) (lx : ∀ x ∈ xs, x < B) (ly : ∀ x ∈ ys, x < B) (v : kq ns xs = true) (p : kbf ns ys = true) : kgn ns xs ys ∧ powOk xs ys (kv ns) := by
 unfold kq at v
 cases m : kp ns with
 | false => rw [m] at v; cases v
 | true =>
  rw [m, cond_true] at v
  obtain ⟨m1, m2, m3, m4⟩ := kn4 ln m
  obtain ⟨q1, q2, q3, q4⟩ := ktu ln m
  have rs : rt (kv ns) = true := by rw [q1]; exact kn (Nat.lt_of_lt_of_le q2 (Nat.pow_le_pow_right (by decide) (by decide)))
  obtain ⟨a1, a2⟩ := kvs v rs
  obtain ⟨p1, p2⟩ := k06 p m1
  rw [q1, kf B2] at a2
  exact kzt ln ly m a1 a2 p1 (Nat.le_of_lt p2)
def encF (ns ms rs : List Nat) : List Nat × Int :=
 cond (!kp ns) ([], 1) (cond (!kbf ns ms) ([], 10) (cond (!k0 rs ns ns) ([], 1) (kdx (kcu ns ms) (powN rs ns (kv ns)) (kv ns), 0)))
def addF (ns xs ys : List Nat) : List Nat × Int :=
 cond (!kp ns) ([], 1) (cond (!kq ns xs) ([], 11) (cond (!kq ns ys) ([], 11) (kdx xs ys (kv ns), 0)))
def plainF (ns xs ms : List Nat) : List Nat × Int :=
 cond (!kp ns) ([], 1) (cond (!kq ns xs) ([], 11) (cond (!kbf ns ms) ([], 10) (kdx xs (kcu ns ms) (kv ns), 0)))
def scaleF (ns xs ks : List Nat) : List Nat × Int :=
 cond (!kp ns) ([], 1) (cond (!kq ns xs) ([], 11) (cond (!kbf ns ks) ([], 10) (powN xs ks (kv ns), 0)))
def againF (ns xs rs : List Nat) : List Nat × Int :=
 cond (!kp ns) ([], 1) (cond (!kq ns xs) ([], 11) (cond (!k0 rs ns ns) ([], 1) (kdx xs (powN rs ns (kv ns)) (kv ns), 0)))
theorem fault1 (ns xs : List Nat) : faultF ns [xs] = cond (!kp ns) 1 (cond (!kq ns xs) 11 0) := by
 unfold faultF
 cases kp ns
 ·rfl
 ·simp only [List.all_cons, List.all_nil, Bool.and_true]
  cases kq ns xs <;> rfl
theorem fault2 (ns xs ys : List Nat) : faultF ns [xs, ys] = cond (!kp ns) 1 (cond (!kq ns xs) 11 (cond (!kq ns ys) 11 0)) := by
 unfold faultF
 cases kp ns
 ·rfl
 ·simp only [List.all_cons, List.all_nil, Bool.and_true]
  cases kq ns xs <;> cases kq ns ys <;> rfl
include ln lx
theorem kup (m : kp ns = true) (a : k0 xs ns ns = true) : runP ksu (.fn ns xs) = some (powN xs ns (kv ns)) := by
 refine kbp (.done ?_)
 show krv _ _ = _
 unfold krv
 rw [ki (kp5 ln lx m a).2]
 rfl
theorem k03 (ms : List Nat) : Iter knp (.fn ns ms xs) (encF ns ms xs) ∧ Iter kbda (.fn ns ms xs) (encF ns ms xs) := by
 refine ⟨.done ?_, .done ?_⟩
 ·show kk6 _ _ _ = _
  unfold kk6 encF
  cases m : kp ns
  ·rfl
  cases p : kbf ns ms
  ·rfl
  cases a : k0 xs ns ns
  ·rfl
  rw [ki (kp5 ln lx m a).1]
  rfl
 ·show krg _ _ _ = _
  unfold krg encF
  cases m : kp ns
  ·rfl
  cases p : kbf ns ms
  ·rfl
  cases a : k0 xs ns ns
  ·rfl
  rw [kup ln lx m a]
  rfl
omit ln lx in
theorem k21 : Iter kqq (.fn ns xs ys) (addF ns xs ys) ∧ Iter k2r (.fn ns xs ys) (addF ns xs ys) := by
 refine ⟨.done ?_, .done ?_⟩
 ·show kjq _ _ _ = _
  unfold kjq addF
  rw [fault2, kw6]
  cases kp ns
  ·rfl
  cases kq ns xs
  ·rfl
  cases kq ns ys <;> rfl
 ·show krk _ _ _ = _
  unfold krk addF
  cases kp ns
  ·rfl
  cases kq ns xs
  ·rfl
  cases kq ns ys <;> rfl
omit ln lx in
theorem k2y : Iter ks7 (.fn ns xs ys) (plainF ns xs ys) ∧ Iter kbc4 (.fn ns xs ys) (plainF ns xs ys) := by
 refine ⟨.done ?_, .done ?_⟩
 ·show kjm _ _ _ = _
  unfold kjm plainF
  rw [fault1, kw6]
  cases kp ns
  ·rfl
  cases kq ns xs
  ·rfl
  cases kbf ns ys <;> rfl
 ·show ksd _ _ _ = _
  unfold ksd plainF
  cases kp ns
  ·rfl
  cases kq ns xs
  ·rfl
  cases kbf ns ys <;> rfl
theorem kbbn (ly : ∀ x ∈ ys, x < B) : Iter kqz (.fn ns xs ys) (scaleF ns xs ys) ∧ Iter k8q (.fn ns xs ys) (scaleF ns xs ys) := by
 refine ⟨.done ?_, .done ?_⟩
 ·show kj9 _ _ _ = _
  unfold kj9 scaleF
  rw [fault1]
  cases m : kp ns
  ·rfl
  cases v : kq ns xs
  ·rfl
  cases p : kbf ns ys
  ·rfl
  rw [ki (kyg ln lx ly v p).1]
  rfl
 ·show kpk _ _ _ = _
  unfold kpk scaleF
  cases m : kp ns
  ·rfl
  cases v : kq ns xs
  ·rfl
  cases p : kbf ns ys
  ·rfl
  rw [ki (kyg ln lx ly v p).2]
  rfl
omit lx in
theorem k74 (ly : ∀ x ∈ ys, x < B) : Iter kqu (.fn ns xs ys) (againF ns xs ys) ∧ Iter kben (.fn ns xs ys) (againF ns xs ys) := by
 refine ⟨.done ?_, .done ?_⟩
 ·show kki _ _ _ = _
  unfold kki againF
  rw [fault1]
  cases m : kp ns
  ·rfl
  cases v : kq ns xs
  ·rfl
  cases a : k0 ys ns ns
  ·rfl
  rw [ki (kp5 ln ly m a).1]
  rfl
 ·show kpy _ _ _ = _
  unfold kpy againF
  cases m : kp ns
  ·rfl
  cases v : kq ns xs
  ·rfl
  cases a : k0 ys ns ns
  ·rfl
  rw [kup ln ly m a]
  rfl
end
section
variable {h : AH} {s t u : Sl} {ns xs ys : List Nat} (n : Nats h s ns) (m : Nats h t xs) (k : Nats h u ys)
include n m k
theorem k9b : Runs (go (.fn F.kj8 [s.v, t.v, u.v]) h) (ksq h (addF ns xs ys)) := k1d n m k (kbp k21.1)
theorem kws : Runs (go (.fn F.kis [s.v, t.v, u.v]) h) (kqr h (plainF ns xs ys)) := kbct n m k (kbp k2y.1)
theorem kzh : Runs (go (.fn F.ki2 [s.v, t.v, u.v]) h) (ksn h (scaleF ns xs ys)) := k4g n m k (kbp (kbbn n.lt m.lt k.lt).1)
theorem kbb4 : Runs (go (.fn F.klv [s.v, t.v, u.v]) h) (kse h (againF ns xs ys)) := kba2 n m k (kbp (k74 n.lt k.lt).1)
end
end Go.Ab

/- squeezed -/
set_option linter.unusedVariables false
set_option linter.unusedSimpArgs false
set_option maxRecDepth 10000
namespace Go.Ab
open Go.Proofs Go.Num
theorem enc_5 : encF [17947] [5] [1] = ([89736], 0) := by decide +kernel
theorem k66 {h : AH} : ∃ h', go (.fn F.ko8 []) h = some (.bool true, h') ∧ Grow h h' := by
 have it : Iter ky3 .fn true := .done (by
  show klw = _
  unfold klw
  rw [show u64P 17947 = some 17947 from rfl, Option.bind_some, show u64P 5 = some 5 from rfl, Option.bind_some, show u64P 1 = some 1 from rfl, Option.bind_some, kbp (k03 (by decide) (by decide) [5]).1, Option.bind_some, enc_5]
  rfl)
 obtain ⟨_, h', e, rfl, g⟩ := k46 it (h := h)
 exact ⟨h', e, g⟩
end Go.Ab

/- squeezed -/
set_option linter.unusedVariables false
set_option linter.unusedSimpArgs false
set_option maxRecDepth 10000
namespace Go.Ab
open Go.Proofs Go.Num
end Go.Ab

/- squeezed -/
set_option linter.unusedVariables false
set_option linter.unusedSimpArgs false
set_option maxRecDepth 10000
namespace Go.Ab
open Go.Proofs Go.Num
theorem kyo {h : AH} {x : AV} (a : ArgV Pg h T.kgs x) : ∃ (s t : Sl) (xs ys : List Nat), x = .agg [s.v, t.v] ∧ Nats h s xs ∧ Nats h t ys := by
 unfold ArgV at a
 rw [kuj] at a
 obtain ⟨cs, rfl, t⟩ := a
 obtain ⟨hl, hf⟩ := t.array kuj
 rw [k4o] at hl
 match cs, hl with
 | [x0, x1], _ =>
  have h0 := hf 0 (by omega)
  have h1 := hf 1 (by omega)
  simp [kw3] at h0 h1
  obtain ⟨s1, xs, e0, n⟩ := kvr h0
  obtain ⟨s2, ys, e1, m⟩ := kvr h1
  cases e0; cases e1
  exact ⟨s1, s2, xs, ys, rfl, n, m⟩
end Go.Ab

/- squeezed -/
set_option linter.unusedVariables false
set_option linter.unusedSimpArgs false
namespace Go.Ab
theorem AH.setBlk_get {h : AH} {l : Nat} {b : ABlk} (hl : l < h.blks.size) : (h.setBlk l b).blks[l]? = some b := by
 simp [AH.setBlk, hl]
theorem AH.setBlk_ne {h : AH} {l i : Nat} {b : ABlk} (hi : i ≠ l) : (h.setBlk l b).blks[i]? = h.blks[i]? := by
 simp only [AH.setBlk]
 rw [Array.getElem?_setIfInBounds_ne (fun e => hi e.symm)]
theorem AH.setBlk_size (h : AH) (l : Nat) (b : ABlk) : (h.setBlk l b).blks.size = h.blks.size := by simp [AH.setBlk]
theorem AH.setBlk_setBlk (h : AH) (l : Nat) (b c : ABlk) : (h.setBlk l b).setBlk l c = h.setBlk l c := by
 simp [AH.setBlk]
theorem AH.setBlk_same {h : AH} {l : Nat} {b : ABlk} (hb : h.blks[l]? = some b) : h.setBlk l b = h := by
 obtain ⟨hl, he⟩ := Array.getElem?_eq_some_iff.1 hb
 have : h.blks.setIfInBounds l b = h.blks := by
  apply Array.ext
  ·simp
  ·intro i h1 h2
   rw [Array.getElem_setIfInBounds]
   split
   ·subst_vars; rfl
   ·rfl
 unfold AH.setBlk
 rw [this]
theorem Grow.setBlk {h h1 : AH} (g : Grow h h1) {l : Nat} (hl : h.blks.size ≤ l) (b : ABlk) : Grow h (h1.setBlk l b) :=
 ⟨g.old, by rw [AH.setBlk_size]; exact g.size, fun i hi => by rw [AH.setBlk_ne (by omega)]; exact g.blk i hi⟩
theorem k3k {h : AH} {l : Nat} {pe : Option Code} {f : FuncId} {fr : Fr} {ps : Array Tmp} {bs bd : Code} {d : Nat} (hb : h.blks[l]? = some (.loop .ready pe f fr ps bs bd d)) :
  beginA l h = some (h.setBlk l (.loop .busy pe f fr ps bs bd d)) := by
 simp only [beginA, hb]
theorem ku2 {h : AH} {l : Nat} {st : LoopState} {pe : Option Code} {f : FuncId} {fr : Fr} {ps : Array Tmp} {bs bd : Code} {d : Nat} (hb : h.blks[l]? = some (.loop st pe f fr ps bs bd d)) (j : Option Code) :
  kfh l j h = some (.bool j.isNone, h.setBlk l (.loop (cond j.isNone .ready .done) j f fr ps bs bd d)) := by
 simp only [kfh, hb]
theorem kbal {h : AH} {l : Nat} {pe : Option Code} {f : FuncId} {fr : Fr} {ps : Array Tmp} {bs bd : Code} {d : Nat} (hb : h.blks[l]? = some (.loop .ready pe f fr ps bs bd d)) : kdh l h = some (pe, h.setBlk l .dead) := by
 simp only [kdh, hb]
 rfl
theorem k6x {h : AH} {l : Nat} {pe : Option Code} {f : FuncId} {fr : Fr} {ps : Array Tmp} {bs bd : Code} {d : Nat} (hb : h.blks[l]? = some (.loop .done pe f fr ps bs bd d)) : kdh l h = some (pe, h.setBlk l .dead) := by
 simp only [kdh, hb]
 rfl
theorem k2o {R : Type} {f : FuncId} {a c : List AV} {k : FuncId → List AV → List AV → Option R} : funcK (.func (.func f) a c) k = k f a c := rfl
theorem Runs.newM {P : AV → AH → Prop} {h : AH} {b : ABlk} {K : Nat → AH → Option (AV × AH)} (H : ∀ h', h'.blks[h.blks.size]? = some b → Grow h h' → Runs (K h.blks.size h') P) : Runs (newM h b K) P :=
 H _ (by simp [AH.alloc]) (Grow.push h _)
end Go.Ab

/- squeezed -/
set_option linter.unusedVariables false
set_option linter.unusedSimpArgs false
namespace Go.Num
def Cg (n a b : Nat) : Prop := a % n = b % n
theorem Cg.rfl {n a : Nat} : Cg n a a := Eq.refl _
theorem Cg.symm {n a b : Nat} (h : Cg n a b) : Cg n b a := Eq.symm h
theorem Cg.trans {n a b c : Nat} (h : Cg n a b) (k : Cg n b c) : Cg n a c := Eq.trans h k
theorem Cg.of_eq {n a b : Nat} (h : a = b) : Cg n a b := by subst h; exact Cg.rfl
theorem Cg.mod {n a : Nat} : Cg n (a % n) a := Nat.mod_mod _ _
theorem Cg.add {n a b c d : Nat} (h : Cg n a b) (k : Cg n c d) : Cg n (a + c) (b + d) := by
 unfold Cg at *
 rw [Nat.add_mod, h, k, ← Nat.add_mod]
theorem Cg.mul {n a b c d : Nat} (h : Cg n a b) (k : Cg n c d) : Cg n (a * c) (b * d) := by
 unfold Cg at *
 rw [Nat.mul_mod, h, k, ← Nat.mul_mod]
theorem Cg.pow {n a b : Nat} (h : Cg n a b) : ∀ k : Nat, Cg n (a ^ k) (b ^ k)
 | 0 => Cg.rfl
 | k + 1 => (h.pow k).mul h
theorem Cg.zero {n a : Nat} : Cg n (n * a) 0 := by unfold Cg; rw [Nat.mul_mod_right, Nat.zero_mod]
theorem Cg.add_mul {n a b : Nat} : Cg n (a + n * b) a := by unfold Cg; rw [Nat.add_mul_mod_self_left]
theorem Cg.of_dvd {m n a b : Nat} (d : m ∣ n) (h : Cg n a b) : Cg m a b := by
 unfold Cg at *
 rw [← Nat.mod_mod_of_dvd a d, h, Nat.mod_mod_of_dvd b d]
theorem Cg.eq {n a b : Nat} (h : Cg n a b) (ha : a < n) (hb : b < n) : a = b := by
 unfold Cg at h
 rwa [Nat.mod_eq_of_lt ha, Nat.mod_eq_of_lt hb] at h
theorem Cg.dvd_sub {n a b : Nat} (h : Cg n a b) (hl : b ≤ a) : n ∣ a - b := Nat.dvd_of_mod_eq_zero (Nat.sub_mod_eq_zero_of_mod_eq h)
theorem Cg.of_dvd_sub {n a b : Nat} (hl : b ≤ a) (h : n ∣ a - b) : Cg n a b := by
 obtain ⟨c, hc⟩ := h
 have : a = b + n * c := by omega
 rw [this]
 exact Cg.add_mul
theorem Cg.cancel_le {n a b c : Nat} (co : Nat.Coprime n c) (hl : b ≤ a) (h : Cg n (a * c) (b * c)) : Cg n a b := by
 have h1 := h.dvd_sub (Nat.mul_le_mul_right _ hl)
 rw [← Nat.sub_mul] at h1
 exact Cg.of_dvd_sub hl (Nat.Coprime.dvd_of_dvd_mul_right co h1)
theorem Cg.cancel {n a b c : Nat} (co : Nat.Coprime n c) (h : Cg n (a * c) (b * c)) : Cg n a b := by
 rcases Nat.le_total b a with hl | hl
 ·exact Cg.cancel_le co hl h
 ·exact (Cg.cancel_le co hl h.symm).symm
theorem Cg.cancel_left {n a b c : Nat} (co : Nat.Coprime n c) (h : Cg n (c * a) (c * b)) : Cg n a b := by
 rw [Nat.mul_comm c, Nat.mul_comm c] at h
 exact h.cancel co
theorem Cg.div {m n a b : Nat} (hm : 0 < m) (h : Cg (m * n) (m * a) (m * b)) : Cg n a b := by
 unfold Cg at *
 rw [Nat.mul_mod_mul_left, Nat.mul_mod_mul_left] at h
 exact Nat.eq_of_mul_eq_mul_left hm h
theorem Cg.times {m n a b : Nat} (h : Cg n a b) : Cg (m * n) (m * a) (m * b) := by
 unfold Cg at *
 rw [Nat.mul_mod_mul_left, Nat.mul_mod_mul_left, h]
theorem Cg.cancel_add {n a b c : Nat} (h : Cg n (c + a) (c + b)) : Cg n a b := by
 rcases Nat.le_total b a with hl | hl
 ·refine Cg.of_dvd_sub hl ?_
  have := h.dvd_sub (by omega)
  rwa [Nat.add_sub_add_left] at this
 ·refine (Cg.of_dvd_sub hl ?_).symm
  have := h.symm.dvd_sub (by omega)
  rwa [Nat.add_sub_add_left] at this
theorem Cg.both {m n a b : Nat} (co : Nat.Coprime m n) (h : Cg m a b) (k : Cg n a b) : Cg (m * n) a b := by
 rcases Nat.le_total b a with hl | hl
 ·exact Cg.of_dvd_sub hl (co.mul_dvd_of_dvd_of_dvd (h.dvd_sub hl) (k.dvd_sub hl))
 ·exact (Cg.of_dvd_sub hl (co.mul_dvd_of_dvd_of_dvd (h.symm.dvd_sub hl) (k.symm.dvd_sub hl))).symm
def prodL : List Nat → Nat
 | [] => 1
 | x :: xs => x * prodL xs
theorem k7u {l m : List Nat} (h : l.Perm m) : prodL l = prodL m := by
 induction h with
 | nil => rfl
 | cons x _ ih => rw [prodL, prodL, ih]
 | swap x y l => simp only [prodL]; rw [Nat.mul_left_comm]
 | trans _ _ i j => rw [i, j]
theorem kq7 : ∀ {l m : List Nat}, l.Nodup → (∀ x ∈ l, x ∈ m) → l.length = m.length → l.Perm m
 | [], m, _, _, h => by
  have : m = [] := List.length_eq_zero_iff.1 h.symm
  subst this
  exact .nil
 | x :: l, m, hn, hs, h => by
  have hx : x ∈ m := hs x (by simp)
  obtain ⟨h1, h2⟩ := List.nodup_cons.1 hn
  have hl : (m.erase x).length = l.length := by rw [List.length_erase_of_mem hx, ← h]; simp
  refine List.Perm.trans (List.Perm.cons x (kq7 h2 (fun y hy => ?_) hl.symm)) (List.perm_cons_erase hx).symm
  have : y ≠ x := fun e => h1 (e ▸ hy)
  exact (List.mem_erase_of_ne this).2 (hs y (by simp [hy]))
def IsPrime (p : Nat) : Prop := 2 ≤ p ∧ ∀ d, d ∣ p → d = 1 ∨ d = p
theorem IsPrime.coprime {p a : Nat} (h : IsPrime p) (ha : ¬ p ∣ a) : Nat.Coprime p a := by
 rcases h.2 _ (Nat.gcd_dvd_left p a) with e | e
 ·exact e
 ·exact absurd (e ▸ Nat.gcd_dvd_right p a) ha
theorem IsPrime.dvd_mul {p a b : Nat} (h : IsPrime p) (d : p ∣ a * b) : p ∣ a ∨ p ∣ b := by
 by_cases ha : p ∣ a
 ·exact .inl ha
 ·exact .inr ((h.coprime ha).dvd_of_dvd_mul_left d)
theorem kvp {p a : Nat} : ∀ l : List Nat, Cg p (prodL (l.map fun i => a * i % p)) (a ^ l.length * prodL l)
 | [] => Cg.of_eq (by simp [prodL])
 | x :: l => by
  have := (Cg.mod (n := p) (a := a * x)).mul (kvp (p := p) (a := a) l)
  refine this.trans (Cg.of_eq ?_)
  rw [List.length_cons, Nat.pow_succ, prodL]
  simp only [Nat.mul_assoc, Nat.mul_comm, Nat.mul_left_comm]
theorem kwb {p : Nat} (h : IsPrime p) : ∀ l : List Nat, (∀ x ∈ l, ¬ p ∣ x) → ¬ p ∣ prodL l
 | [], _, d => by
  have := Nat.le_of_dvd (by decide) d
  have := h.1
  simp [prodL] at *
  omega
 | x :: l, hx, d => by
  rcases h.dvd_mul d with e | e
  ·exact hx x (by simp) e
  ·exact kwb h l (fun y hy => hx y (by simp [hy])) e
theorem krr {f : Nat → Nat} : ∀ {l : List Nat}, l.Nodup → (∀ x ∈ l, ∀ y ∈ l, f x = f y → x = y) → (l.map f).Nodup
 | [], _, _ => by simp
 | x :: l, hn, hi => by
  obtain ⟨h1, h2⟩ := List.nodup_cons.1 hn
  rw [List.map_cons, List.nodup_cons]
  refine ⟨fun hm => ?_, krr h2 fun a ha b hb => hi a (by simp [ha]) b (by simp [hb])⟩
  obtain ⟨y, hy, e⟩ := List.mem_map.1 hm
  exact h1 (hi y (by simp [hy]) x (by simp) e ▸ hy)
theorem fermat {p a : Nat} (h : IsPrime p) (ha : ¬ p ∣ a) : Cg p (a ^ (p - 1)) 1 := by
 have hp := h.1
 have hl : (List.range' 1 (p - 1)).length = p - 1 := by simp
 have hmem : ∀ x, x ∈ List.range' 1 (p - 1) ↔ 1 ≤ x ∧ x < p := fun x => by rw [List.mem_range'_1]; omega
 have nd : ∀ x, 1 ≤ x ∧ x < p → ¬ p ∣ x := fun x hx d => by have := Nat.le_of_dvd (by omega) d; omega
 have inj : ∀ x ∈ List.range' 1 (p - 1), ∀ y ∈ List.range' 1 (p - 1), a * x % p = a * y % p → x = y := fun x hx y hy e => by
  have h1 := (hmem x).1 hx
  have h2 := (hmem y).1 hy
  exact (Cg.cancel_left (h.coprime ha) e).eq h1.2 h2.2
 have pm : ((List.range' 1 (p - 1)).map fun i => a * i % p).Perm (List.range' 1 (p - 1)) := by
  refine kq7 (krr List.nodup_range' inj) (fun z hz => ?_) (by simp)
  obtain ⟨x, hx, e⟩ := List.mem_map.1 hz
  subst e
  rw [hmem]
  refine ⟨?_, Nat.mod_lt _ (by omega)⟩
  rcases Nat.eq_zero_or_pos (a * x % p) with e | e
  ·rcases h.dvd_mul (Nat.dvd_of_mod_eq_zero e) with d | d
   ·exact absurd d ha
   ·exact absurd d (nd x ((hmem x).1 hx))
  ·exact e
 have e := kvp (p := p) (a := a) (List.range' 1 (p - 1))
 rw [k7u pm, hl] at e
 have co : Nat.Coprime p (prodL (List.range' 1 (p - 1))) := h.coprime (kwb h _ fun x hx => nd x ((hmem x).1 hx))
 refine (Cg.cancel co ?_).symm
 rw [Nat.one_mul]
 exact e
theorem binom1 (n x : Nat) : ∀ k : Nat, Cg (n * n) ((1 + n * x) ^ k) (1 + n * (x * k))
 | 0 => Cg.of_eq (by simp)
 | k + 1 => by
  have := (binom1 n x k).mul (Cg.rfl (n := n * n) (a := 1 + n * x))
  refine this.trans ?_
  have e : (1 + n * (x * k)) * (1 + n * x) = 1 + n * (x * (k + 1)) + n * n * (x * k * x) := by
   rw [Nat.add_mul, Nat.mul_add, Nat.mul_add, Nat.mul_add]
   simp only [Nat.mul_assoc, Nat.mul_comm, Nat.mul_left_comm, Nat.one_mul, Nat.mul_one, Nat.mul_add]
   omega
  rw [e]
  exact Cg.add_mul
end Go.Num

/- squeezed -/
set_option linter.unusedVariables false
set_option linter.unusedSimpArgs false
namespace Go.Num
theorem kbai {n f : Nat} (co : Nat.Coprime n f) (hn : 1 < n) : ∃ g, g < n ∧ Cg n (f * g) 1 := by
 have pm : ((List.range n).map fun i => f * i % n).Perm (List.range n) := by
  refine kq7 (krr List.nodup_range fun x hx y hy e => ?_) (fun z hz => ?_) (by simp)
  ·exact (Cg.cancel_left co e).eq (List.mem_range.1 hx) (List.mem_range.1 hy)
  ·obtain ⟨x, _, e⟩ := List.mem_map.1 hz
   subst e
   exact List.mem_range.2 (Nat.mod_lt _ (by omega))
 have h1 : 1 ∈ (List.range n).map fun i => f * i % n := pm.mem_iff.2 (List.mem_range.2 hn)
 obtain ⟨g, hg, e⟩ := List.mem_map.1 h1
 exact ⟨g, List.mem_range.1 hg, by unfold Cg; rw [e, Nat.mod_eq_of_lt hn]⟩
def Hid (n f c m : Nat) : Prop := m < n ∧ Cg (n * n) (c ^ f) (1 + n * (m * f))
theorem Hid.cg {n f c d m : Nat} (h : Hid n f c m) (e : Cg (n * n) c d) : Hid n f d m := ⟨h.1, (e.symm.pow f).trans h.2⟩
theorem Hid.uniq {n f c x y : Nat} (co : Nat.Coprime n f) (hn : 0 < n) (h : Hid n f c x) (k : Hid n f c y) : x = y := by
 have e := (h.2.symm.trans k.2).cancel_add
 exact ((e.div hn).cancel co).eq h.1 k.1
theorem Hid.mul {n f c d x y : Nat} (hn : 0 < n) (h : Hid n f c x) (k : Hid n f d y) : Hid n f (c * d) ((x + y) % n) := by
 refine ⟨Nat.mod_lt _ hn, ?_⟩
 rw [Nat.mul_pow]
 refine (h.2.mul k.2).trans ?_
 have e : (1 + n * (x * f)) * (1 + n * (y * f)) = 1 + n * ((x + y) * f) + n * n * (x * f * (y * f)) := by
  rw [Nat.add_mul, Nat.mul_add, Nat.mul_add, Nat.add_mul x y, Nat.mul_add]
  simp only [Nat.mul_assoc, Nat.mul_comm, Nat.mul_left_comm, Nat.one_mul, Nat.mul_one]
  omega
 rw [e]
 refine Cg.add_mul.trans (Cg.rfl.add (Cg.times ?_))
 exact (Cg.mod.symm).mul Cg.rfl
theorem Hid.pow {n f c x : Nat} (hn : 0 < n) (h : Hid n f c x) (k : Nat) : Hid n f (c ^ k) (x * k % n) := by
 refine ⟨Nat.mod_lt _ hn, ?_⟩
 rw [← Nat.pow_mul, Nat.mul_comm k f, Nat.pow_mul]
 refine ((h.2.pow k).trans (binom1 n (x * f) k)).trans (Cg.rfl.add (Cg.times ?_))
 have e : x * f * k = x * k * f := by simp only [Nat.mul_assoc, Nat.mul_comm, Nat.mul_left_comm]
 rw [e]
 exact (Cg.mod.symm).mul Cg.rfl
theorem Hid.shown {n f m : Nat} (h : m < n) : Hid n f (m * n + 1) m := ⟨h, by
 rw [Nat.add_comm, Nat.mul_comm m n]
 exact binom1 n m f⟩
structure KeyOk (p q : Nat) : Prop where
 hp : IsPrime p
 hq : IsPrime q
 ne : p ≠ q
 co : Nat.Coprime (p * q) ((p - 1) * (q - 1))
theorem KeyOk.swap {p q : Nat} (k : KeyOk p q) : KeyOk q p := ⟨k.hq, k.hp, fun e => k.ne e.symm, by rw [Nat.mul_comm q p, Nat.mul_comm (q - 1)]; exact k.co⟩
section
variable {p q : Nat} (k : KeyOk p q)
include k
theorem KeyOk.not_dvd : ¬ p ∣ q := fun d => by
 rcases k.hq.2 p d with e | e
 ·have := k.hp.1
  omega
 ·exact k.ne e
theorem KeyOk.copq : Nat.Coprime p q := k.hp.coprime k.not_dvd
theorem KeyOk.pos : 1 < p * q := by
 have := Nat.mul_le_mul k.hp.1 k.hq.1
 omega
theorem KeyOk.cof : Nat.Coprime p (q - 1) := Nat.Coprime.coprime_dvd_left (Nat.dvd_mul_right p q) (Nat.Coprime.coprime_dvd_right (Nat.dvd_mul_left (q - 1) (p - 1)) k.co)
theorem KeyOk.ndq : ¬ p ∣ q * (p - 1) := fun d => by
 rcases k.hp.dvd_mul d with d | d
 ·exact k.not_dvd d
 ·have := Nat.le_of_dvd (by have := k.hp.1; omega) d
  have := k.hp.1
  omega
theorem KeyOk.unit {c : Nat} (h : Nat.Coprime c (p * q)) : ¬ p ∣ c := fun d => by
 have h1 : p ∣ Nat.gcd c (p * q) := Nat.dvd_gcd d (Nat.dvd_mul_right p q)
 rw [h] at h1
 have := Nat.le_of_dvd (by decide) h1
 have := k.hp.1
 omega
theorem KeyOk.euler {c : Nat} (h : Nat.Coprime c (p * q)) : Cg (p * q) (c ^ ((p - 1) * (q - 1))) 1 := by
 refine Cg.both k.copq ?_ ?_
 ·rw [Nat.pow_mul]
  refine ((fermat k.hp (k.unit h)).pow _).trans (Cg.of_eq (Nat.one_pow _))
 ·rw [Nat.mul_comm, Nat.pow_mul]
  refine ((fermat k.hq (k.swap.unit (by rw [Nat.mul_comm]; exact h))).pow _).trans (Cg.of_eq (Nat.one_pow _))
omit k in
theorem ks9 {n u : Nat} (hn : 1 < n) (h : Cg n u 1) : u = 1 + n * (u / n) := by
 unfold Cg at h
 rw [Nat.mod_eq_of_lt hn] at h
 have := Nat.div_add_mod u n
 omega
theorem KeyOk.hid {c : Nat} (h : Nat.Coprime c (p * q)) : ∃ m, Hid (p * q) ((p - 1) * (q - 1)) c m := by
 obtain ⟨g, hg, eg⟩ := kbai k.co k.pos
 have e := ks9 k.pos (k.euler h)
 generalize hf : (p - 1) * (q - 1) = f at *
 generalize hn : p * q = n at *
 refine ⟨c ^ f / n * g % n, Nat.mod_lt _ (by have := k.pos; omega), ?_⟩
 refine (Cg.of_eq e).trans (Cg.rfl.add (Cg.times ?_))
 refine Cg.trans ?_ ((Cg.mod.symm).mul Cg.rfl)
 have e2 : c ^ f / n * g * f = c ^ f / n * (f * g) := by simp only [Nat.mul_assoc, Nat.mul_comm, Nat.mul_left_comm]
 rw [e2]
 have := (Cg.rfl (n := n) (a := c ^ f / n)).mul eg.symm
 rwa [Nat.mul_one] at this
theorem KeyOk.hider {r : Nat} (h : Nat.Coprime r (p * q)) : Hid (p * q) ((p - 1) * (q - 1)) (r ^ (p * q)) 0 := by
 have e := ks9 k.pos (k.euler h)
 generalize hf : (p - 1) * (q - 1) = f at *
 generalize hn : p * q = n at *
 refine ⟨by have := k.pos; omega, ?_⟩
 rw [← Nat.pow_mul, Nat.mul_comm n f, Nat.pow_mul, e]
 refine (binom1 n _ n).trans ?_
 rw [Nat.zero_mul, Nat.mul_zero]
 have : n * (r ^ f / n * n) = n * n * (r ^ f / n) := by simp only [Nat.mul_assoc, Nat.mul_comm, Nat.mul_left_comm]
 rw [this]
 exact Cg.add_mul
def sayP (p x : Nat) : Nat := (x % (p * p)) ^ (p - 1) % (p * p) / p
theorem KeyOk.say {x : Nat} (h : ¬ p ∣ x) : (x % (p * p)) ^ (p - 1) % (p * p) = 1 + p * sayP p x ∧ sayP p x < p ∧ Cg (p * p) (x ^ (p - 1)) (1 + p * sayP p x) := by
 have hp := k.hp.1
 have e0 : Cg (p * p) ((x % (p * p)) ^ (p - 1) % (p * p)) (x ^ (p - 1)) := Cg.mod.trans (Cg.mod.pow _)
 have e1 : Cg p ((x % (p * p)) ^ (p - 1) % (p * p)) 1 := (e0.of_dvd (Nat.dvd_mul_right p p)).trans (fermat k.hp h)
 have e2 := ks9 (by omega : 1 < p) e1
 refine ⟨e2, ?_, ?_⟩
 ·unfold sayP
  rw [Nat.div_lt_iff_lt_mul (by omega)]
  exact Nat.mod_lt _ (Nat.mul_pos (by omega) (by omega))
 ·exact e0.symm.trans (Cg.of_eq e2)
theorem KeyOk.say_one : Cg p (sayP p (1 * (p * q) + 1)) (q * (p - 1)) := by
 have hp := k.hp.1
 have nd : ¬ p ∣ 1 * (p * q) + 1 := fun d => by
  have : p ∣ 1 := (Nat.dvd_add_right (Nat.dvd_trans (Nat.dvd_mul_right p q) (Nat.dvd_mul_left _ _))).1 d
  have := Nat.le_of_dvd (by decide) this
  omega
 obtain ⟨_, _, e⟩ := k.say nd
 have e1 : 1 * (p * q) + 1 = 1 + p * q := by omega
 rw [e1] at e ⊢
 exact ((e.symm.trans (binom1 p q (p - 1))).cancel_add).div (by omega)
theorem KeyOk.part {c m : Nat} (h : Nat.Coprime c (p * q)) (d : Hid (p * q) ((p - 1) * (q - 1)) c m) : Cg p (sayP p c) (m * sayP p (1 * (p * q) + 1)) := by
 have hp := k.hp.1
 obtain ⟨_, _, e⟩ := k.say (k.unit h)
 have e1 : Cg (p * p) (c ^ ((p - 1) * (q - 1))) (1 + p * (sayP p c * (q - 1))) := by
  rw [Nat.pow_mul]
  exact (e.pow _).trans (binom1 p _ _)
 have e2 : Cg (p * p) (c ^ ((p - 1) * (q - 1))) (1 + p * q * (m * ((p - 1) * (q - 1)))) := d.2.of_dvd (Nat.mul_dvd_mul (Nat.dvd_mul_right p q) (Nat.dvd_mul_right p q))
 have e3 := (e1.symm.trans e2).cancel_add
 rw [Nat.mul_assoc] at e3
 have e4 := e3.div (by omega)
 have e5 : q * (m * ((p - 1) * (q - 1))) = m * (q * (p - 1)) * (q - 1) := by simp only [Nat.mul_assoc, Nat.mul_comm, Nat.mul_left_comm]
 rw [e5] at e4
 refine (e4.cancel k.cof).trans ?_
 exact Cg.rfl.mul k.say_one.symm
theorem KeyOk.say_unit : Nat.Coprime p (sayP p (1 * (p * q) + 1)) := k.hp.coprime fun d => k.ndq (by
 have e := k.say_one
 unfold Cg at e
 rw [Nat.mod_eq_zero_of_dvd d] at e
 exact Nat.dvd_of_mod_eq_zero e.symm)
theorem KeyOk.found {c m i : Nat} (h : Nat.Coprime c (p * q)) (d : Hid (p * q) ((p - 1) * (q - 1)) c m) (hi : Cg p (sayP p (1 * (p * q) + 1) * i) 1) : sayP p c * i % p = m % p := by
 have e := (k.part h d).mul (Cg.rfl (n := p) (a := i))
 refine e.trans ?_
 rw [Nat.mul_assoc]
 have := (Cg.rfl (n := p) (a := m)).mul hi
 rwa [Nat.mul_one] at this
end
end Go.Num

/- squeezed -/
set_option linter.unusedVariables false
set_option linter.unusedSimpArgs false
namespace Go.Num
def Least (n d : Nat) : Prop := 2 ≤ d ∧ d ∣ n ∧ ∀ e, 2 ≤ e → e ∣ n → d ≤ e
theorem Least.uniq {n d e : Nat} (a : Least n d) (b : Least n e) : d = e := Nat.le_antisymm (a.2.2 e b.1 b.2.1) (b.2.2 d a.1 a.2.1)
theorem kva {n : Nat} (h : 2 ≤ n) : ∃ d, Least n d := by
 have key : ∀ k, (∃ d, d ≤ k ∧ 2 ≤ d ∧ d ∣ n) → ∃ d, Least n d := by
  intro k
  induction k with
  | zero => rintro ⟨d, h1, h2, _⟩; omega
  | succ k ih =>
   rintro ⟨d, h1, h2, h3⟩
   by_cases hk : ∃ e, e ≤ k ∧ 2 ≤ e ∧ e ∣ n
   ·exact ih hk
   ·refine ⟨d, h2, h3, fun e he hd => ?_⟩
    rcases Nat.lt_or_ge e d with h | h
    ·exact absurd ⟨e, by omega, he, hd⟩ hk
    ·exact h
 exact key n ⟨n, Nat.le_refl _, h, Nat.dvd_refl _⟩
noncomputable def leastN (n : Nat) : Nat := by
 classical
 exact if h : ∃ d, Least n d then h.choose else 0
theorem kgy {n d : Nat} (h : Least n d) : leastN n = d := by
 unfold leastN
 have hx : ∃ d, Least n d := ⟨d, h⟩
 rw [dif_pos hx]
 exact hx.choose_spec.uniq h
theorem k0h {n : Nat} (h : 2 ≤ n) : Least n (leastN n) := by
 obtain ⟨d, hd⟩ := kva h
 rw [kgy hd]; exact hd
theorem Least.prime {n d : Nat} (h : Least n d) : IsPrime d := ⟨h.1, fun e he => by
 rcases Nat.eq_zero_or_pos e with h0 | h0
 ·rw [h0] at he
  have := Nat.eq_zero_of_zero_dvd he
  have := h.1
  omega
 ·rcases Nat.lt_or_ge e 2 with h1 | h1
  ·left; omega
  ·right
   exact Nat.le_antisymm (Nat.le_of_dvd (by have := h.1; omega) he) (h.2.2 e h1 (Nat.dvd_trans he h.2.1))⟩
theorem kkk {n : Nat} (h : 2 ≤ n) (no : ∀ e, 2 ≤ e → e * e ≤ n → ¬ e ∣ n) : Least n n := by
 obtain ⟨d, hd⟩ := kva h
 rcases Nat.lt_or_ge n (d * d) with hl | hl
 ·obtain ⟨c, hc⟩ := hd.2.1
  have : c = 1 := by
   rcases Nat.lt_or_ge c 2 with h2 | h2
   ·rcases Nat.eq_zero_or_pos c with h0 | h0
    ·rw [h0] at hc; omega
    ·omega
   ·have h3 := hd.2.2 c h2 ⟨d, by rw [hc, Nat.mul_comm]⟩
    have : d * d ≤ d * c := Nat.mul_le_mul_left _ h3
    omega
  rw [this, Nat.mul_one] at hc
  rw [← hc] at hd
  exact hd
 ·exact absurd hd.2.1 (no d hd.1 hl)
theorem kn0 {n d : Nat} (h : 2 ≤ d) (hd : d ∣ n) (no : ∀ e, 2 ≤ e → e < d → ¬ e ∣ n) : Least n d := ⟨h, hd, fun e he hn => by
 rcases Nat.lt_or_ge e d with h' | h'
 ·exact absurd hn (no e he h')
 ·exact h'⟩
theorem kv5 {n : Nat} (h : 2 ≤ n) : leastN n = n ↔ IsPrime n := by
 constructor
 ·intro e
  have := (k0h h).prime
  rwa [e] at this
 ·intro hp
  refine kgy ⟨h, Nat.dvd_refl _, fun e he hd => ?_⟩
  rcases hp.2 e hd with h1 | h1 <;> omega
end Go.Num

/- squeezed -/
set_option linter.unusedVariables false
set_option linter.unusedSimpArgs false
set_option maxRecDepth 10000
namespace Go.Ab
open Go.Proofs Go.Num
section
variable {h : AH} {l i2 i3 n : Nat}
noncomputable def lnote (st : LoopState) (pe : Option Code) (n i2 i3 : Nat) (g : AV) : ABlk := kp1 Fx.ktt F.kce 0 st pe [(0, .int .u64 (n : Int)), (1, .ptr (some (.new i2 0))), (2, .ptr (some (.new i3 0))), (4, .int .u64 (n : Int)), (5, g)]
noncomputable def lfin (h : AH) (l n i2 i3 : Nat) (g : AV) (d : Nat) : AH := (h.upd i3 [.int .u64 (d : Int)] T.kc).setBlk l (lnote .done (some .ret) n i2 i3 g)
theorem rdU {h : AH} {i : Nat} {x : Int} {e : TypeId} (b : h.has i [.int .u64 x] e) : (h.cell (.new i 0)).bind (AV.asInt .u64) = some x := b.rd0 rfl rfl
theorem wrapSq {d : Nat} (hd : d < 4294967296) : IntKind.wrap .u64 ((d : Int) * (d : Int)) = ((d * d : Nat) : Int) := by
 rw [← Int.natCast_mul, wrapU]
 have : d * d < 18446744073709551616 := Nat.lt_of_lt_of_le (Nat.mul_lt_mul'' hd hd) (by decide)
 omega
theorem km9 {g : AV} (hb : h.blks[l]? = some (lnote .ready none n i2 i3 g)) (b2 : h.has i2 [.int .u64 (n : Int)] T.kc) (b3 : h.has i3 [.int .u64 0] T.kc) {d : Nat} (hd : 0 < d) :
  go (.round l [.int .u64 (d : Int)]) h = if d ∣ n then some (.bool false, lfin h l n i2 i3 g d) else some (.bool true, h) := by
 have hl : l < h.blks.size := (Array.getElem?_eq_some_iff.1 hb).1
 have n2 : i2 ≠ l := fun e => by rw [e] at b2; rw [AH.has, hb] at b2; cases b2
 have n3 : i3 ≠ l := fun e => by rw [e] at b3; rw [AH.has, hb] at b3; cases b3
 rw [k85 l none _ _ _ _ _ _ _ hb, k3k (h := h) hb, Option.bind_some]
 generalize hq : h.setBlk l _ = h'
 have b2' : h'.has i2 [.int .u64 (n : Int)] T.kc := by rw [AH.has, ← hq, AH.setBlk_ne n2]; exact b2
 have b3' : h'.has i3 [.int .u64 0] T.kc := by rw [AH.has, ← hq, AH.setBlk_ne n3]; exact b3
 have bl : h'.blks[l]? = some (lnote .busy none n i2 i3 g) := by rw [← hq]; exact AH.setBlk_get hl
 rw [rdU b2', Option.bind_some, condF (by rw [decide_eq_false_iff_not]; omega)]
 have hmod : Int.tmod (n : Int) (d : Int) = ((n % d : Nat) : Int) := rfl
 rw [hmod]
 by_cases hdv : d ∣ n
 ·rw [if_pos hdv, condT (by rw [decide_eq_true_eq, Nat.mod_eq_zero_of_dvd hdv]; rfl), b3'.puts_all (vs := [AV.int .u64 (d : Int)]) rfl, Option.bind_some]
  have hb4 : (h'.upd i3 [AV.int .u64 (d : Int)] T.kc).blks[l]? = some (lnote .busy none n i2 i3 g) := by
   simp only [AH.upd]
   rw [Array.getElem?_setIfInBounds_ne n3]
   exact bl
  rw [ku2 hb4]
  have e : (h'.upd i3 [AV.int .u64 (d : Int)] T.kc) = (h.upd i3 [AV.int .u64 (d : Int)] T.kc).setBlk l (lnote .busy none n i2 i3 g) := by
   rw [← hq]
   simp only [AH.upd, AH.setBlk]
   rw [Array.setIfInBounds_comm _ _ n3.symm]
   rfl
  rw [e, AH.setBlk_setBlk]
  rfl
 ·rw [if_neg hdv, condF (by rw [decide_eq_false_iff_not]; intro e; exact hdv (Nat.dvd_of_mod_eq_zero (by omega))), ku2 bl]
  rw [← hq, AH.setBlk_setBlk]
  show some (AV.bool true, h.setBlk l (lnote .ready none n i2 i3 g)) = _
  rw [AH.setBlk_same hb]
def Found (h : AH) (l n i2 i3 : Nat) (g : AV) (x : Option (AV × AH)) : Prop := (x = some (.tup [], h) ∧ Least n n) ∨ x = some (.tup [], lfin h l n i2 i3 g (leastN n))
theorem wheel {g : AV} (h2n : 2 ≤ n) (hn : n < 1099511627776) (hb : h.blks[l]? = some (lnote .ready none n i2 i3 g)) (b2 : h.has i2 [.int .u64 (n : Int)] T.kc) (b3 : h.has i3 [.int .u64 0] T.kc) {j2 : Nat} (c2 : h.has j2 [.int .u64 (n : Int)] T.kc) :
  ∀ k d, 1048600 ≤ d + 6 * k → d ≤ 1048600 → 5 ≤ d → d % 6 = 5 → (∀ e, 2 ≤ e → e < d → ¬ e ∣ n) → Found h l n i2 i3 g (go (.pt F.kbu Td.kl3 [(0, .func (.yield l) [] []), (1, .ptr (some (.new j2 0))), (5, .int .u64 (d : Int))]) h) := by
 intro k
 induction k with
 | zero =>
  intro d h1 h2 h5 h6 no
  rw [ksa, rdU c2, Option.bind_some, wrapSq (by omega)]
  have : 1048600 * 1048600 ≤ d * d := Nat.mul_le_mul (by omega) (by omega)
  rw [condF (by rw [decide_eq_false_iff_not]; omega)]
  refine .inl ⟨rfl, kkk h2n fun e he hee => ?_⟩
  exact no e he (by
   rcases Nat.lt_or_ge e d with h | h
   ·exact h
   ·have : d * d ≤ e * e := Nat.mul_le_mul h h
    omega)
 | succ k ih =>
  intro d h1 h2 h5 h6 no
  rw [ksa, rdU c2, Option.bind_some, wrapSq (by omega)]
  by_cases hdd : d * d ≤ n
  ·rw [condT (by rw [decide_eq_true_eq]; omega), km9 hb b2 b3 (by omega)]
   have hd20 : d < 1048576 := by
    rcases Nat.lt_or_ge d 1048576 with h | h
    ·exact h
    ·have : 1048576 * 1048576 ≤ d * d := Nat.mul_le_mul h h
     omega
   by_cases hdv : d ∣ n
   ·rw [if_pos hdv, Option.bind_some]
    refine .inr ?_
    rw [kgy (kn0 (by omega) hdv no)]
    rfl
   ·rw [if_neg hdv, Option.bind_some]
    show Found h l n i2 i3 g (((h.cell (.new j2 0)).bind (AV.asInt .u64)).bind _)
    rw [rdU c2, Option.bind_some]
    have w2 : IntKind.wrap .u64 ((d : Int) + 2) = ((d + 2 : Nat) : Int) := by
     rw [show ((d : Int) + 2) = ((d + 2 : Nat) : Int) from by omega, wrapU]; omega
    have w6 : IntKind.wrap .u64 ((d : Int) + 6) = ((d + 6 : Nat) : Int) := by
     rw [show ((d : Int) + 6) = ((d + 6 : Nat) : Int) from by omega, wrapU]; omega
    rw [w2, w6, wrapSq (by omega)]
    have even : ∀ e, e % 2 = 0 → ¬ e ∣ n := fun e he hv => no 2 (by omega) (by omega) (Nat.dvd_trans (Nat.dvd_of_mod_eq_zero he) hv)
    have three : ∀ e, e % 3 = 0 → ¬ e ∣ n := fun e he hv => no 3 (by omega) (by omega) (Nat.dvd_trans (Nat.dvd_of_mod_eq_zero he) hv)
    have no2 : ∀ e, 2 ≤ e → e < d + 2 → ¬ e ∣ n := fun e he hl hv => by
     rcases Nat.lt_or_ge e d with h | h
     ·exact no e he h hv
     ·rcases Nat.lt_or_ge d e with h' | h'
      ·exact even e (by omega) hv
      ·have : e = d := by omega
       subst this
       exact hdv hv
    by_cases hd2 : (d + 2) * (d + 2) ≤ n
    ·rw [condT (by rw [decide_eq_true_eq]; omega), km9 hb b2 b3 (by omega)]
     by_cases hdv2 : d + 2 ∣ n
     ·rw [if_pos hdv2, Option.bind_some]
      refine .inr ?_
      rw [kgy (kn0 (by omega) hdv2 no2)]
      rfl
     ·rw [if_neg hdv2, Option.bind_some]
      refine ih (d + 6) (by omega) (by omega) (by omega) (by omega) fun e he hl hv => ?_
      rcases Nat.lt_or_ge e (d + 2) with h | h
      ·exact no2 e he h hv
      ·have : e = d + 2 ∨ e = d + 3 ∨ e = d + 4 ∨ e = d + 5 := by omega
       rcases this with rfl | rfl | rfl | rfl
       ·exact hdv2 hv
       ·exact even _ (by omega) hv
       ·exact three _ (by omega) hv
       ·exact even _ (by omega) hv
    ·rw [condF (by rw [decide_eq_false_iff_not]; omega)]
     have self : Least n n := kkk h2n fun e he hee hv => by
      rcases Nat.lt_or_ge e (d + 2) with h | h
      ·exact no2 e he h hv
      ·have : (d + 2) * (d + 2) ≤ e * e := Nat.mul_le_mul h h
       omega
     refine .inl ⟨?_, self⟩
     rw [ksa, rdU c2, Option.bind_some, wrapSq (by omega)]
     have : (d + 2) * (d + 2) ≤ (d + 6) * (d + 6) := Nat.mul_le_mul (by omega) (by omega)
     rw [condF (by rw [decide_eq_false_iff_not]; omega)]
  ·rw [condF (by rw [decide_eq_false_iff_not]; omega)]
   refine .inl ⟨rfl, kkk h2n fun e he hee hv => ?_⟩
   rcases Nat.lt_or_ge e d with h | h
   ·exact no e he h hv
   ·have : d * d ≤ e * e := Nat.mul_le_mul h h
    omega
theorem small {g : AV} (h2n : 2 ≤ n) (hn : n < 1099511627776) (hb : h.blks[l]? = some (lnote .ready none n i2 i3 g)) (b2 : h.has i2 [.int .u64 (n : Int)] T.kc) (b3 : h.has i3 [.int .u64 0] T.kc) {j2 j : Nat} (c2 : h.has j2 [.int .u64 (n : Int)] T.kc) (cj : h.has j [.int .u64 2, .int .u64 3] T.kc) :
  Found h l n i2 i3 g (go (.pt F.kbu Td.kgk [(0, .func (.yield l) [] []), (1, .ptr (some (.new j2 0))), (6, (⟨some (.new j 0), 2, .is 2⟩ : Sl).v), (7, .int .i64 2), (8, .int .i64 0)]) h) := by
 have r2 := km9 (d := 2) hb b2 b3 (by decide)
 have r3 := km9 (d := 3) hb b2 b3 (by decide)
 have e0 : idx (⟨some (.new j 0), 2, .is 2⟩ : Sl).ref (⟨some (.new j 0), 2, .is 2⟩ : Sl).len 0 1 = some (.new j 0) := rfl
 have e1 : idx (⟨some (.new j 0), 2, .is 2⟩ : Sl).ref (⟨some (.new j 0), 2, .is 2⟩ : Sl).len 1 1 = some (.new j 1) := rfl
 have l0 : (h.cell (Ref.new j 0)).bind (AV.asInt .u64) = some 2 := by rw [cj.cell]; rfl
 have l1 : (h.cell (Ref.new j 1)).bind (AV.asInt .u64) = some 3 := by rw [cj.cell]; rfl
 have w4 : IntKind.wrap .u64 ((2 : Int) * 2) = 4 := by decide
 have w9 : IntKind.wrap .u64 ((3 : Int) * 3) = 9 := by decide
 have i1 : IntKind.wrap .i64 ((0 : Int) + 1) = 1 := by decide
 have i2' : IntKind.wrap .i64 ((1 : Int) + 1) = 2 := by decide
 rw [kp0, condT (show decide ((0 : Int) < 2) = true from rfl), e0, Option.bind_some, l0, Option.bind_some, rdU c2, Option.bind_some, w4]
 by_cases h4 : n < 4
 ·rw [condT (by rw [decide_eq_true_eq]; omega)]
  refine .inl ⟨rfl, kkk h2n fun e he hee => ?_⟩
  have : 2 * 2 ≤ e * e := Nat.mul_le_mul he he
  omega
 ·rw [condF (by rw [decide_eq_false_iff_not]; omega), show (2 : Int) = ((2 : Nat) : Int) from rfl, r2]
  by_cases d2 : 2 ∣ n
  ·rw [if_pos d2, Option.bind_some]
   refine .inr ?_
   rw [kgy (d := 2) (kn0 (by decide) d2 fun e h1 h2 => by omega)]
   rfl
  ·rw [if_neg d2, Option.bind_some]
   show Found h l n i2 i3 g (go (.pt F.kbu Td.kgk [(0, .func (.yield l) [] []), (1, .ptr (some (.new j2 0))), (6, (⟨some (.new j 0), 2, .is 2⟩ : Sl).v), (7, .int .i64 2), (8, .int .i64 (IntKind.wrap .i64 ((0 : Int) + 1)))]) h)
   rw [i1, kp0, condT (show decide ((1 : Int) < 2) = true from rfl), e1, Option.bind_some, l1, Option.bind_some, rdU c2, Option.bind_some, w9]
   by_cases h9 : n < 9
   ·rw [condT (by rw [decide_eq_true_eq]; omega)]
    refine .inl ⟨rfl, kkk h2n fun e he hee => ?_⟩
    rcases Nat.lt_or_ge e 3 with h | h
    ·have : e = 2 := by omega
     subst this
     exact d2
    ·have : 3 * 3 ≤ e * e := Nat.mul_le_mul h h
     omega
   ·rw [condF (by rw [decide_eq_false_iff_not]; omega), show (3 : Int) = ((3 : Nat) : Int) from rfl, r3]
    by_cases d3 : 3 ∣ n
    ·rw [if_pos d3, Option.bind_some]
     refine .inr ?_
     have d23 : ∀ e, 2 ≤ e → e < 3 → ¬ e ∣ n := fun e h1 h2 => by
      have : e = 2 := by omega
      subst this
      exact d2
     rw [kgy (d := 3) (kn0 (by decide) d3 d23)]
     rfl
    ·rw [if_neg d3, Option.bind_some]
     show Found h l n i2 i3 g (go (.pt F.kbu Td.kgk [(0, .func (.yield l) [] []), (1, .ptr (some (.new j2 0))), (6, (⟨some (.new j 0), 2, .is 2⟩ : Sl).v), (7, .int .i64 2), (8, .int .i64 (IntKind.wrap .i64 ((1 : Int) + 1)))]) h)
     rw [i2', kp0, condF (show decide ((2 : Int) < 2) = false from rfl)]
     refine wheel h2n hn hb b2 b3 c2 174766 5 (by omega) (by omega) (by omega) (by omega) fun e h1 h2 hv => ?_
     have : e = 2 ∨ e = 3 ∨ e = 4 := by omega
     rcases this with rfl | rfl | rfl
     ·exact d2 hv
     ·exact d3 hv
     ·exact d2 (Nat.dvd_trans (by decide) hv)
end
theorem a_none {a1 : Int} {a2 a3 : Ref} {a4 : Int} {a5 : AV} {h : AH} : go (.pt F.kce (((none : Option Code).map Item.code).toList ++ Ta.kkd) [(0, .int .u64 a1), (1, .ptr (some a2)), (2, .ptr (some a3)), (4, .int .u64 a4), (5, a5)]) h =
 ((h.cell a2).bind (AV.asInt .u64)).bind fun n6 => (h.puts a3 [.int .u64 n6]).bind fun h7 => ((h7.cell a3).bind (AV.asInt .u64)).bind fun n8 => some (.int .u64 n8, h7) := k3z a1 a2 a3 a4 a5 h
theorem kbc8 {n : Nat} (h2n : 2 ≤ n) (hn : n < 1099511627776) (h : AH) : Runs (go (.fn F.kce [.int .u64 (n : Int)]) h) fun v h' => v = .int .u64 ((leastN n : Nat) : Int) ∧ Grow h h' := by
 rw [k3l]
 refine Runs.new fun h1 b1 g1 => Runs.new fun h2 b2 g2 => ?_
 have b1' := g2.has b1
 refine Runs.step (rdU b1') ?_
 rw [k70]
 show Runs (newK h2 (.cells [.int .u64 (n : Int)] T.kc) fun h2r h3 => go (.pt F.kce Tr.ks0 [(0, .int .u64 (n : Int)), (1, .ptr (some (.new h.blks.size 0))), (2, .ptr (some (.new h1.blks.size 0))), (4, .int .u64 (n : Int)), (5, .func (.func F.kbu) [] [.ptr (some h2r)])]) h3) _
 refine Runs.new fun h3 b3 g3 => ?_
 rw [kbdr, k2o]
 refine Runs.newM fun h4 hb g4 => ?_
 rw [k8z]
 have c1 : h4.has h.blks.size [.int .u64 (n : Int)] T.kc := g4.has (g3.has b1')
 have c2 : h4.has h1.blks.size [.int .u64 0] T.kc := g4.has (g3.has b2)
 have c3 : h4.has h2.blks.size [.int .u64 (n : Int)] T.kc := g4.has b3
 have hs1 : h.blks.size < h1.blks.size := b1.lt
 have hs2 : h1.blks.size < h2.blks.size := b2.lt
 have hs3 : h2.blks.size < h3.blks.size := b3.lt
 have hs4 : h3.blks.size < h4.blks.size := (Array.getElem?_eq_some_iff.1 hb).1
 have gA : Grow h h4 := ((g1.trans g2).trans g3).trans g4
 generalize hg : (AV.func (.func F.kbu) [] [AV.ptr (some (Ref.new h2.blks.size 0))]) = gv at hb
 show Runs ((go (.fn F.kbu [.func (.yield h3.blks.size) [] [], .ptr (some (.new h2.blks.size 0))]) h4).bind _) _
 rw [k4q]
 generalize hK : (fun q8 : AV × AH => (kdh h3.blks.size q8.2).bind fun p9 => go (.pt F.kce ((p9.1.map Item.code).toList ++ Ta.kkd) [(0, .int .u64 (n : Int)), (1, .ptr (some (.new h.blks.size 0))), (2, .ptr (some (.new h1.blks.size 0))), (4, .int .u64 (n : Int)), (5, gv)]) p9.2) = K
 show Runs ((newK h4 (.cells [.int .u64 2, .int .u64 3] T.kc) fun h3r h5 => (go (.pt F.kbu Td.kgk [(0, .func (.yield h3.blks.size) [] []), (1, .ptr (some (.new h2.blks.size 0))), (6, (⟨some h3r, 2, .is 2⟩ : Sl).v), (7, .int .i64 2), (8, .int .i64 0)]) h5).bind K)) _
 refine Runs.new fun h5 b5 g5 => ?_
 have hb5 : h5.blks[h3.blks.size]? = some (lnote .ready none n h.blks.size h1.blks.size gv) := (g5.blk _ hs4).trans hb
 have gB := gA.trans g5
 rcases small h2n hn hb5 (g5.has c1) (g5.has c2) (g5.has c3) b5 with ⟨e, hl⟩ | e
 ·rw [e, ← hK]
  show Runs ((kdh h3.blks.size h5).bind _) _
  rw [kbal hb5, Option.bind_some, a_none]
  have d1 : (h5.setBlk h3.blks.size .dead).has h.blks.size [.int .u64 (n : Int)] T.kc := by rw [AH.has, AH.setBlk_ne (by omega)]; exact g5.has c1
  have d2 : (h5.setBlk h3.blks.size .dead).has h1.blks.size [.int .u64 0] T.kc := by rw [AH.has, AH.setBlk_ne (by omega)]; exact g5.has c2
  refine Runs.step (rdU d1) (Runs.puts d2 rfl fun h6 b6 u6 => Runs.step (rdU b6) (Runs.ret ⟨by rw [kgy hl], ?_⟩))
  exact (gB.setBlk (l := h3.blks.size) (by omega) .dead).updr (by omega) u6
 ·rw [e, ← hK]
  have f1 : (lfin h5 h3.blks.size n h.blks.size h1.blks.size gv (leastN n)).blks[h3.blks.size]? = some (lnote .done (some .ret) n h.blks.size h1.blks.size gv) := AH.setBlk_get (by simp only [AH.upd]; simp; exact (Array.getElem?_eq_some_iff.1 hb5).1)
  show Runs ((kdh h3.blks.size _).bind _) _
  rw [k6x f1, Option.bind_some, k2f]
  have f2 : ((lfin h5 h3.blks.size n h.blks.size h1.blks.size gv (leastN n)).setBlk h3.blks.size .dead).has h1.blks.size [.int .u64 ((leastN n : Nat) : Int)] T.kc := by
   rw [AH.has, AH.setBlk_ne (by omega)]
   unfold lfin
   rw [AH.setBlk_ne (by omega)]
   exact AH.has_upd (g5.has c2) _ _
  refine Runs.step (rdU f2) (Runs.ret ⟨rfl, ?_⟩)
  exact ((gB.upd (by omega) _ _).setBlk (by omega) _).setBlk (by omega) _
end Go.Ab

/- squeezed -/
set_option linter.unusedVariables false
set_option linter.unusedSimpArgs false
set_option maxRecDepth 10000
namespace Go.Ab
open Go.Proofs Go.Num
theorem kbba {a : Int} {h : AH} (c : (2 : Int) ≤ a ∧ a < 1099511627776) : Runs (go (.fn F.kce [.int .u64 a]) h) fun v h' => v = .int .u64 ((leastN (Int.toNat a) : Nat) : Int) ∧ Grow h h' := by
 obtain ⟨x, rfl⟩ : ∃ x : Nat, a = (x : Int) := ⟨a.toNat, by omega⟩
 exact kbc8 (by omega) (by omega) h
inductive kh8
 | fn (a1 : Int)
 | no
abbrev kgg := Bool
noncomputable def klj (a1 : Int) : Option (kh8 ⊕ kgg) :=
 cond (decide (a1 < 128)) (some (.inr true)) (cond (decide (a1 ≥ 1099511627776)) (some (.inr true)) ((need ((2 : Int) ≤ a1 ∧ a1 < 1099511627776)).bind fun c4_0 => some (.inr (!decide ((((leastN (Int.toNat a1) : Nat) : Int)) = a1)))))
noncomputable def kyr : kh8 → Option (kh8 ⊕ kgg)
 | .fn a1 => klj a1
 | .no => none
@[reducible] def kuc (h0 : AH) (r : kgg) (v : AV) (h' : AH) : Prop := v = .bool r ∧ Grow h0 h'
def kqx (r : kgg) : kh8 → Prop
 | .fn a1 => ∀ {h : AH}, Runs (go (.fn F.kh1 [.int .u64 a1]) h) (kuc h r)
 | .no => True
theorem kbe8 {r : kgg} {o : kh8 ⊕ kgg} {a1 : Int} (e : klj a1 = some o) (good : GoodS (kqx r) r o) : kqx r (.fn a1) := by
 intro h
 rw [k5q]
 unfold klj at e
 refine Runs.cond (fun k2 => ?_) (fun k2 => ?_)
 ·replace e := (condT k2).symm.trans e
  cases e
  cases good
  exact Runs.ret ⟨rfl, (Grow.refl _)⟩
 ·replace e := (condF k2).symm.trans e
  refine Runs.cond (fun k3 => ?_) (fun k3 => ?_)
  ·replace e := (condT k3).symm.trans e
   cases e
   cases good
   exact Runs.ret ⟨rfl, (Grow.refl _)⟩
  ·replace e := (condF k3).symm.trans e
   obtain ⟨c4_0, q4_0, e⟩ := Option.bind_eq_some_iff.1 e
   obtain ⟨_, H4, e4, rfl, g4⟩ := kbba  c4_0.down
   refine Runs.step e4 ?_
   refine Runs.step (seen (kb _ _)) ?_
   cases e
   cases good
   exact Runs.ret ⟨rfl, g4⟩
theorem kbch {s : kh8} {r : kgg} (it : Iter kyr s r) : kqx r s := Iter.ind (fun s o e good => by
 cases s with
 | fn a1 => exact @kbe8 _ _ a1 e good
 | no => exact True.intro
 ) it
theorem k2m {h : AH} {a1 : Int}  {r : kgg} (q : runP kyr (.fn a1) = some r) : Runs (go (.fn F.kh1 [.int .u64 a1]) h) (kuc h r) := kbch (kbz q)
end Go.Ab

/- squeezed -/
set_option linter.unusedVariables false
set_option linter.unusedSimpArgs false
set_option maxRecDepth 10000
namespace Go.Ab
open Go.Proofs Go.Num
noncomputable def oddF (a : Int) : Bool := cond (decide (a < 128)) true (cond (decide (a ≥ 1099511627776)) true (!decide (((leastN (Int.toNat a) : Nat) : Int) = a)))
theorem kxm {h : AH} (a : Int) : Runs (go (.fn F.kh1 [.int .u64 a]) h) fun v h' => v = .bool (oddF a) ∧ Grow h h' := k2m (kbp (.done (by
 show klj a = _
 unfold klj oddF
 by_cases h1 : a < 128
 ·rw [decide_eq_true h1]; rfl
 ·rw [decide_eq_false h1]
  by_cases h2 : a ≥ 1099511627776
  ·rw [decide_eq_true h2]; rfl
  ·rw [decide_eq_false h2, ki (by omega)]
   rfl)))
end Go.Ab

/- squeezed -/
set_option linter.unusedVariables false
set_option linter.unusedSimpArgs false
set_option maxRecDepth 10000
namespace Go.Ab
open Go.Proofs Go.Num
inductive kif
 | fn (a1 : Int) (a2 : Int)
 | no
abbrev kfz := Int
noncomputable def kls (a1 : Int) (a2 : Int) : Option (kif ⊕ kfz) :=
 cond (((oddF a1))) (some (.inr 9)) (cond (((oddF a2))) (some (.inr 9)) (cond (decide (a1 = a2)) (some (.inr 9)) ((need (0 ≤ a1 ∧ a1 < 18446744073709551616)).bind fun c9_0 => (need (0 ≤ a2 ∧ a2 < 18446744073709551616)).bind fun c10_0 => cond (!decide ((((bl (Int.toNat a1) : Nat) : Int)) = (((bl (Int.toNat a2) : Nat) : Int)))) (some (.inr 9)) ((u64P a1).bind fun w16 => (u64P a2).bind fun w17 => (u64P (IntKind.wrap .u64 (a1 - 1))).bind fun w23 => (u64P (IntKind.wrap .u64 (a2 - 1))).bind fun w24 => (u64P 1).bind fun w30 => cond (!decide ((cmpN ((gcdN ((mulN [w16] [w17]).1) ((mulN [w23] [w24]).1)).1) [w30]) = 0)) (some (.inr 9)) (some (.inr 0))))))
noncomputable def ks4 : kif → Option (kif ⊕ kfz)
 | .fn a1 a2 => kls a1 a2
 | .no => none
@[reducible] def kpn (h0 : AH) (r : kfz) (v : AV) (h' : AH) : Prop := v = .int .i64 r ∧ Grow h0 h'
def krw (r : kfz) : kif → Prop
 | .fn a1 a2 => ∀ {h : AH}, Runs (go (.fn F.kld [.agg [.int .u64 a1, .int .u64 a2]]) h) (kpn h r)
 | .no => True
theorem k36 {r : kfz} {o : kif ⊕ kfz} {a1 : Int} {a2 : Int} (e : kls a1 a2 = some o) (good : GoodS (krw r) r o) : krw r (.fn a1 a2) := by
 intro h
 rw [k3c]
 unfold kls at e
 refine Runs.new fun H3 b3 g3 => ?_
 refine Runs.step (AH.has.rd b3 0 rfl (kb _ _)) ?_
 obtain ⟨_, H4, e4, rfl, g4⟩ := kxm a1
 refine Runs.step e4 ?_
 refine Runs.step (seen rfl) ?_
 refine Runs.cond (fun k5 => ?_) (fun k5 => ?_)
 ·replace e := (condT k5).symm.trans e
  cases e
  cases good
  exact Runs.ret ⟨rfl, (g3.trans g4)⟩
 ·replace e := (condF k5).symm.trans e
  refine Runs.step (AH.has.rd (g4.has b3) 1 rfl (kb _ _)) ?_
  obtain ⟨_, H6, e6, rfl, g6⟩ := kxm a2
  refine Runs.step e6 ?_
  refine Runs.step (seen rfl) ?_
  refine Runs.cond (fun k7 => ?_) (fun k7 => ?_)
  ·replace e := (condT k7).symm.trans e
   cases e
   cases good
   have G8 := ((g3.trans g4).trans g6)
   exact Runs.ret ⟨rfl, G8⟩
  ·replace e := (condF k7).symm.trans e
   refine Runs.step (AH.has.rd ((g4.trans g6).has b3) 0 rfl (kb _ _)) ?_
   refine Runs.step (AH.has.rd ((g4.trans g6).has b3) 1 rfl (kb _ _)) ?_
   refine Runs.cond (fun k8 => ?_) (fun k8 => ?_)
   ·replace e := (condT k8).symm.trans e
    cases e
    cases good
    have G9 := ((g3.trans g4).trans g6)
    exact Runs.ret ⟨rfl, G9⟩
   ·replace e := (condF k8).symm.trans e
    refine Runs.step (AH.has.rd ((g4.trans g6).has b3) 0 rfl (kb _ _)) ?_
    refine Runs.step (AH.has.rd ((g4.trans g6).has b3) 1 rfl (kb _ _)) ?_
    obtain ⟨c9_0, q9_0, e⟩ := Option.bind_eq_some_iff.1 e
    refine Runs.step (kpx  c9_0.down) ?_
    refine Runs.step (seen (kb _ _)) ?_
    refine Runs.when ((Grow.refl _).same ((g4.trans g6).has b3) 1 1) ?_
    obtain ⟨c10_0, q10_0, e⟩ := Option.bind_eq_some_iff.1 e
    refine Runs.step (kpx  c10_0.down) ?_
    refine Runs.step (seen (kb _ _)) ?_
    refine Runs.cond (fun k11 => ?_) (fun k11 => ?_)
    ·replace e := (condT k11).symm.trans e
     cases e
     cases good
     have G12 := ((g3.trans g4).trans g6)
     exact Runs.ret ⟨rfl, G12⟩
    ·replace e := (condF k11).symm.trans e
     refine Runs.step (AH.has.rd ((g4.trans g6).has b3) 0 rfl (kb _ _)) ?_
     refine Runs.new fun H12 b12 g12 => ?_
     have G13 := ((g4.trans g6).trans g12)
     have b3_14 := G13.has b3
     refine Runs.step (AH.has.rd b3_14 1 rfl (kb _ _)) ?_
     refine Runs.new fun H15 b15 g15 => ?_
     obtain ⟨w16, z16, e⟩ := Option.bind_eq_some_iff.1 e
     obtain ⟨w17, z17, e⟩ := Option.bind_eq_some_iff.1 e
     obtain ⟨s18, H18, e18, n18, g18, o18⟩ := ken (Nats.of_has1 (g15.has b12) z16) (Nats.of_has1 b15 z17)
     refine Runs.step e18 ?_
     refine Runs.step rfl ?_
     refine Runs.step (seen (asSl_v _)) ?_
     refine Runs.step (seen (kb _ _)) ?_
     refine Runs.step (AH.has.rd ((g15.trans g18).has b3_14) 0 rfl (kb _ _)) ?_
     refine Runs.new fun H19 b19 g19 => ?_
     have G20 := ((g15.trans g18).trans g19)
     have b3_21 := G20.has b3_14
     refine Runs.step (AH.has.rd b3_21 1 rfl (kb _ _)) ?_
     refine Runs.new fun H22 b22 g22 => ?_
     obtain ⟨w23, z23, e⟩ := Option.bind_eq_some_iff.1 e
     obtain ⟨w24, z24, e⟩ := Option.bind_eq_some_iff.1 e
     obtain ⟨s25, H25, e25, n25, g25, o25⟩ := ken (Nats.of_has1 (g22.has b19) z23) (Nats.of_has1 b22 z24)
     refine Runs.step e25 ?_
     refine Runs.step rfl ?_
     refine Runs.step (seen (asSl_v _)) ?_
     refine Runs.step (seen (kb _ _)) ?_
     have G26 := ((g19.trans g22).trans g25)
     have n18_27 := n18.grow G26
     obtain ⟨_, H28, e28, s28, rfl, n28, g28, o28⟩ := kxg n18_27 n25
     refine Runs.step e28 ?_
     refine Runs.step rfl ?_
     refine Runs.step (seen (asSl_v _)) ?_
     refine Runs.step (seen (kb _ _)) ?_
     refine Runs.new fun H29 b29 g29 => ?_
     obtain ⟨w30, z30, e⟩ := Option.bind_eq_some_iff.1 e
     obtain ⟨H31, e31, g31⟩ := kdd (n28.grow g29) (Nats.of_has1 b29 z30)
     refine Runs.step e31 ?_
     refine Runs.step (seen (kb _ _)) ?_
     refine Runs.cond (fun k32 => ?_) (fun k32 => ?_)
     ·replace e := (condT k32).symm.trans e
      cases e
      cases good
      have G33 := (((((((((((g3.trans g4).trans g6).trans g12).trans g15).trans g18).trans g19).trans g22).trans g25).trans g28).trans g29).trans g31)
      exact Runs.ret ⟨rfl, G33⟩
     ·replace e := (condF k32).symm.trans e
      cases e
      cases good
      have G33 := (((((((((((g3.trans g4).trans g6).trans g12).trans g15).trans g18).trans g19).trans g22).trans g25).trans g28).trans g29).trans g31)
      exact Runs.ret ⟨rfl, G33⟩
theorem kbef {s : kif} {r : kfz} (it : Iter ks4 s r) : krw r s := Iter.ind (fun s o e good => by
 cases s with
 | fn a1 a2 => exact @k36 _ _ a1 a2 e good
 | no => exact True.intro
 ) it
theorem k96 {h : AH} {a1 : Int} {a2 : Int}  {r : kfz} (q : runP ks4 (.fn a1 a2) = some r) : Runs (go (.fn F.kld [.agg [.int .u64 a1, .int .u64 a2]]) h) (kpn h r) := kbef (kbz q)
end Go.Ab

/- squeezed -/
set_option linter.unusedVariables false
set_option linter.unusedSimpArgs false
set_option maxRecDepth 10000
namespace Go.Ab
open Go.Proofs Go.Num
theorem kd3 {x : Nat} (h0 : 0 < x) (h : x < B) : digs B x = [x] := by
 rw [ked B2 (by omega), Nat.mod_eq_of_lt h, Nat.div_eq_of_lt h, kbq]
theorem kpc {x : Nat} (h0 : 0 < x) (h : x < B) : rt [x] = true := by
 rw [← kd3 h0 h]
 exact kn (Nat.lt_of_lt_of_le h (by decide))
theorem kei {a : Nat} (h : a < 1099511627776) : a < B ^ 30 := Nat.lt_of_lt_of_le h (by decide)
noncomputable def badF (a b : Int) : Bool := oddF a || (oddF b || (decide (a = b) || (!decide (bl a.toNat = bl b.toNat) || !decide (Nat.gcd (a.toNat * b.toNat) ((a.toNat - 1) * (b.toNat - 1)) = 1))))
noncomputable def keyF (a b : Int) : Int := cond (badF a b) 9 0
theorem ko4 {a : Int} (h : oddF a = false) : ∃ p : Nat, a = (p : Int) ∧ 128 ≤ p ∧ p < 1099511627776 ∧ leastN p = p := by
 unfold oddF at h
 by_cases h1 : a < 128
 ·rw [decide_eq_true h1] at h; cases h
 ·rw [decide_eq_false h1, cond_false] at h
  by_cases h2 : a ≥ 1099511627776
  ·rw [decide_eq_true h2] at h; cases h
  ·rw [decide_eq_false h2, cond_false] at h
   have h3 : ((leastN (Int.toNat a) : Nat) : Int) = a := by simpa using h
   exact ⟨a.toNat, by omega, by omega, by omega, by omega⟩
theorem B40 : (1099511627776 : Nat) < B := by decide
theorem k7t {p q : Nat} (hp : 128 ≤ p) (hp2 : p < 1099511627776) (hq : 128 ≤ q) (hq2 : q < 1099511627776) :
  (gcdN ((mulN [p] [q]).1) ((mulN [p - 1] [q - 1]).1)).1 = digs B (Nat.gcd (p * q) ((p - 1) * (q - 1))) := by
 have b40 := B40
 have lt : ∀ {a b : Nat}, a < 1099511627776 → b < 1099511627776 → a * b < B ^ 2 := fun ha hb => Nat.lt_of_lt_of_le (Nat.mul_lt_mul'' ha hb) (by decide)
 have e1 : mulN [p] [q] = (digs B (p * q), 0) := by
  rw [← kd3 (x := p) (by omega) (by omega), ← kd3 (x := q) (by omega) (by omega), kdv (kei hp2) (kei hq2)]
 have e2 : mulN [p - 1] [q - 1] = (digs B ((p - 1) * (q - 1)), 0) := by
  rw [← kd3 (x := p - 1) (by omega) (by omega), ← kd3 (x := q - 1) (by omega) (by omega), kdv (kei (by omega)) (kei (by omega))]
 have r1 : rt (digs B (p * q)) = true := kn (Nat.lt_of_lt_of_le (lt hp2 hq2) (Nat.pow_le_pow_right (by decide) (by decide)))
 have r2 : rt (digs B ((p - 1) * (q - 1))) = true := kn (Nat.lt_of_lt_of_le (lt (by omega) (by omega)) (Nat.pow_le_pow_right (by decide) (by decide)))
 rw [e1, e2]
 unfold gcdN
 rw [if_pos ⟨r1, r2⟩, kf B2, kf B2]
theorem gcd_lt {p q : Nat} (hp : 128 ≤ p) (hp2 : p < 1099511627776) (hq : 128 ≤ q) (hq2 : q < 1099511627776) : Nat.gcd (p * q) ((p - 1) * (q - 1)) < B ^ 64 := by
 have h1 : Nat.gcd (p * q) ((p - 1) * (q - 1)) ≤ p * q := Nat.gcd_le_left _ (Nat.mul_pos (by omega) (by omega))
 have h2 : p * q < 1099511627776 * 1099511627776 := Nat.mul_lt_mul'' hp2 hq2
 exact Nat.lt_of_le_of_lt h1 (Nat.lt_of_lt_of_le h2 (by decide))
theorem kzy {g : Nat} (h : g < B ^ 64) : decide (cmpN (digs B g) [1] = 0) = decide (g = 1) := by
 rw [kl6 (kn h) (by decide), kf B2]
 have : num B [1] = 1 := by decide
 rw [this, decide_eq_decide]
 unfold cmp
 split
 ·omega
 ·split <;> omega
theorem ksw {p : Nat} (h1 : 1 ≤ p) (h : p < B) : IntKind.wrap .u64 ((p : Int) - 1) = ((p - 1 : Nat) : Int) := by
 have e : ((p : Int) - 1) = ((p - 1 : Nat) : Int) := by omega
 rw [e, wrapU]
 have : p - 1 < 18446744073709551616 := Nat.lt_of_le_of_lt (Nat.sub_le _ _) h
 omega
theorem u64P_B {p : Nat} (h : p < B) : u64P (p : Int) = some p := kbc h
theorem k9n (a b : Int) : Iter ks4 (.fn a b) (keyF a b) := by
 refine .done ?_
 show kls a b = _
 unfold kls keyF badF
 cases ha : oddF a
 case true => rfl
 cases hb : oddF b
 case true => rfl
 obtain ⟨p, rfl, p1, p2, p3⟩ := ko4 ha
 obtain ⟨q, rfl, q1, q2, q3⟩ := ko4 hb
 have b40 := B40
 rw [cond_false, cond_false, Bool.false_or, Bool.false_or]
 cases hpq : decide ((p : Int) = (q : Int))
 case true => rfl
 rw [cond_false, Bool.false_or, ki (by omega), Option.bind_some, ki (by omega), Option.bind_some, Int.toNat_natCast, Int.toNat_natCast]
 have e1 : decide (((bl p : Nat) : Int) = ((bl q : Nat) : Int)) = decide (bl p = bl q) := by rw [decide_eq_decide]; omega
 rw [e1]
 cases hl : decide (bl p = bl q)
 case false => rfl
 rw [Bool.not_true, cond_false, Bool.false_or, u64P_B (by omega), Option.bind_some, u64P_B (by omega), Option.bind_some, ksw (by omega) (by omega), ksw (by omega) (by omega), u64P_B (by omega), Option.bind_some, u64P_B (by omega), Option.bind_some, show u64P 1 = some 1 from rfl, Option.bind_some, k7t p1 p2 q1 q2, kzy (gcd_lt p1 p2 q1 q2)]
 cases decide (Nat.gcd (p * q) ((p - 1) * (q - 1)) = 1) <;> rfl
theorem k7d {h : AH} (a b : Int) : Runs (go (.fn F.kld [.agg [.int .u64 a, .int .u64 b]]) h) (kpn h (keyF a b)) := k96 (kbp (k9n a b))
end Go.Ab

/- squeezed -/
set_option linter.unusedVariables false
set_option linter.unusedSimpArgs false
set_option maxRecDepth 10000
namespace Go.Ab
open Go.Proofs Go.Num
inductive kh4
 | fn (a1 : Int) (a2 : Int)
 | no
abbrev kfx := List Nat × Int
noncomputable def kk4 (a1 : Int) (a2 : Int) : Option (kh4 ⊕ kfx) :=
 cond (!decide (((keyF a1 a2)) = 0)) (some (.inr ([], ((keyF a1 a2))))) ((u64P a1).bind fun w8 => (u64P a2).bind fun w9 => some (.inr ((mulN [w8] [w9]).1, ((mulN [w8] [w9]).2))))
noncomputable def kru : kh4 → Option (kh4 ⊕ kfx)
 | .fn a1 a2 => kk4 a1 a2
 | .no => none
@[reducible] def kr9 (h0 : AH) (r : kfx) (v : AV) (h' : AH) : Prop := ∃ s1 : Sl, v = .tup [s1.v, .int .i64 r.2] ∧ Nats h' s1 r.1 ∧ Grow h0 h' ∧ Own h0 s1
def ksm (r : kfx) : kh4 → Prop
 | .fn a1 a2 => ∀ {h : AH}, Runs (go (.fn F.kh6 [.agg [.int .u64 a1, .int .u64 a2]]) h) (kr9 h r)
 | .no => True
theorem k91 {r : kfx} {o : kh4 ⊕ kfx} {a1 : Int} {a2 : Int} (e : kk4 a1 a2 = some o) (good : GoodS (ksm r) r o) : ksm r (.fn a1 a2) := by
 intro h
 rw [kz7]
 unfold kk4 at e
 refine Runs.new fun H3 b3 g3 => ?_
 refine Runs.step (AH.has.rd b3 0 rfl (kb _ _)) ?_
 refine Runs.step (AH.has.rd b3 1 rfl (kb _ _)) ?_
 obtain ⟨_, H4, e4, rfl, g4⟩ := k7d a1 a2
 refine Runs.step e4 ?_
 refine Runs.step (seen (kb _ _)) ?_
 refine Runs.cond (fun k5 => ?_) (fun k5 => ?_)
 ·replace e := (condT k5).symm.trans e
  cases e
  cases good
  exact Runs.ret ⟨(⟨none, 0, .is 0⟩ : Sl), rfl, (Nats.nil _), (g3.trans g4), (Own.nil _)⟩
 ·replace e := (condF k5).symm.trans e
  refine Runs.step (AH.has.rd (g4.has b3) 0 rfl (kb _ _)) ?_
  refine Runs.new fun H6 b6 g6 => ?_
  refine Runs.step (AH.has.rd ((g4.trans g6).has b3) 1 rfl (kb _ _)) ?_
  refine Runs.new fun H7 b7 g7 => ?_
  obtain ⟨w8, z8, e⟩ := Option.bind_eq_some_iff.1 e
  obtain ⟨w9, z9, e⟩ := Option.bind_eq_some_iff.1 e
  obtain ⟨s10, H10, e10, n10, g10, o10⟩ := ken (Nats.of_has1 (g7.has b6) z8) (Nats.of_has1 b7 z9)
  refine Runs.step e10 ?_
  refine Runs.step rfl ?_
  refine Runs.step (seen (asSl_v _)) ?_
  refine Runs.step (seen (kb _ _)) ?_
  cases e
  cases good
  have G11 := (((g3.trans g4).trans g6).trans g7)
  have G12 := (G11.trans g10)
  exact Runs.ret ⟨s10, rfl, n10, G12, (o10.of_le G11)⟩
theorem k3v {s : kh4} {r : kfx} (it : Iter kru s r) : ksm r s := Iter.ind (fun s o e good => by
 cases s with
 | fn a1 a2 => exact @k91 _ _ a1 a2 e good
 | no => exact True.intro
 ) it
theorem k9a {h : AH} {a1 : Int} {a2 : Int}  {r : kfx} (q : runP kru (.fn a1 a2) = some r) : Runs (go (.fn F.kh6 [.agg [.int .u64 a1, .int .u64 a2]]) h) (kr9 h r) := k3v (kbz q)
end Go.Ab

/- squeezed -/
set_option linter.unusedVariables false
set_option linter.unusedSimpArgs false
set_option maxRecDepth 10000
namespace Go.Ab
open Go.Proofs Go.Num
noncomputable def pubF (a b : Int) : List Nat × Int := cond (badF a b) ([], 9) (digs B (a.toNat * b.toNat), 0)
theorem kp2 {a b : Int} (h : badF a b = false) : ∃ p q : Nat, a = (p : Int) ∧ b = (q : Int) ∧ 128 ≤ p ∧ p < 1099511627776 ∧ leastN p = p ∧ 128 ≤ q ∧ q < 1099511627776 ∧ leastN q = q ∧ p ≠ q ∧ bl p = bl q ∧ Nat.gcd (p * q) ((p - 1) * (q - 1)) = 1 := by
 unfold badF at h
 rw [Bool.or_eq_false_iff, Bool.or_eq_false_iff, Bool.or_eq_false_iff, Bool.or_eq_false_iff] at h
 obtain ⟨ha, hb, hne, hl, hg⟩ := h
 obtain ⟨p, rfl, p1, p2, p3⟩ := ko4 ha
 obtain ⟨q, rfl, q1, q2, q3⟩ := ko4 hb
 refine ⟨p, q, rfl, rfl, p1, p2, p3, q1, q2, q3, ?_, ?_, ?_⟩
 ·intro e
  subst e
  simp at hne
 ·simpa using hl
 ·simpa using hg
theorem k4d {p q : Nat} (hp : 128 ≤ p) (hp2 : p < 1099511627776) (hq : 128 ≤ q) (hq2 : q < 1099511627776) : mulN [p] [q] = (digs B (p * q), 0) := by
 have b40 := B40
 rw [← kd3 (x := p) (by omega) (by omega), ← kd3 (x := q) (by omega) (by omega), kdv (kei hp2) (kei hq2)]
theorem k9d (a b : Int) : Iter kru (.fn a b) (pubF a b) := by
 refine .done ?_
 show kk4 a b = _
 unfold kk4 keyF pubF
 cases hb : badF a b
 ·obtain ⟨p, q, rfl, rfl, p1, p2, -, q1, q2, -, -, -, -⟩ := kp2 hb
  have b40 := B40
  rw [cond_false, condF (show (!decide ((0 : Int) = 0)) = false from rfl), u64P_B (by omega), Option.bind_some, u64P_B (by omega), Option.bind_some, k4d p1 p2 q1 q2]
  rfl
 ·rfl
theorem kx0 {h : AH} (a b : Int) : Runs (go (.fn F.kh6 [.agg [.int .u64 a, .int .u64 b]]) h) (kr9 h (pubF a b)) := k9a (kbp (k9d a b))
theorem kbbo {h : AH} {x : AV} (a : ArgV Pg h T.kfi x) : ∃ m n : Int, x = .agg [.int .u64 m, .int .u64 n] := by
 unfold ArgV at a
 rw [kyn] at a
 obtain ⟨cs, rfl, t⟩ := a
 obtain ⟨hl, hf⟩ := t.struct kyn
 rw [k27] at hl
 match cs, hl with
 | [x0, x1], _ =>
  simp [kit] at hf
  obtain ⟨h0, h1⟩ := hf
  obtain ⟨m, e0, _⟩ := h0.int kpq
  obtain ⟨n, e1, _⟩ := h1.int kpq
  cases e0; cases e1
  exact ⟨m, n, rfl⟩
end Go.Ab

/- squeezed -/
set_option linter.unusedVariables false
set_option linter.unusedSimpArgs false
set_option maxRecDepth 10000
namespace Go.Ab
open Go.Proofs Go.Num
end Go.Ab

/- squeezed -/
set_option linter.unusedVariables false
set_option linter.unusedSimpArgs false
set_option maxRecDepth 10000
namespace Go.Ab
open Go.Proofs Go.Num
end Go.Ab

/- squeezed -/
set_option linter.unusedVariables false
set_option linter.unusedSimpArgs false
set_option maxRecDepth 10000
namespace Go.Ab
open Go.Proofs Go.Num
def RingAt (h : AH) (j N : Nat) : Prop := ∃ (v : Nat) (s0 s2 s3 : Sl), RingOk N (digs B N).length v ∧ h.has j [s0.v, .int .u64 (v : Int), s2.v, s3.v] T.kcd ∧ Nats h s0 (digs B N) ∧ Nats h s2 (form N (digs B N).length 1) ∧
 Nats h s3 (digs B (2 ^ (64 * (digs B N).length) * 2 ^ (64 * (digs B N).length) % N))
theorem RingAt.grow {h h' : AH} {j N : Nat} (r : RingAt h j N) (g : Grow h h') : RingAt h' j N := by
 obtain ⟨v, s0, s2, s3, a, b, c, d, e⟩ := r
 exact ⟨v, s0, s2, s3, a, g.has b, c.grow g, d.grow g, e.grow g⟩
theorem k0l {h : AH} {s : Sl} {N : Nat} (n : Nats h s (digs B N)) (h8 : N < B ^ 8) (h1 : 1 < N) (ho : N % 2 = 1) : Runs (go (.fn F.kdg [s.v]) h) fun w h' => ∃ j, w = .tup [.ptr (some (.new j 0)), .int .i64 0] ∧ RingAt h' j N ∧ Grow h h' := by
 have hn : num B (digs B N) = N := kf B2 _
 have l8 : (digs B N).length ≤ 8 := (kx B2 _ 8).2 h8
 obtain ⟨_, h2, e2, j, v, s0, s2, s3, rfl, v1, v2, b, m0, m2, m3, g2⟩ := kyq n (kn (Nat.lt_of_lt_of_le h8 (Nat.pow_le_pow_right (by decide) (by decide)))) (fun e => by rw [List.length_eq_zero_iff] at e; have := (kd6 B2).1 e; omega) l8 (by rw [hn]; exact ho) (by rw [hn]; exact h1)
 refine ⟨_, h2, e2, j, rfl, ⟨v, s0, s2, s3, ?_, b, m0, ?_, ?_⟩, g2⟩
 ·rw [hn] at v2
  exact ⟨by omega, by have := num_lt B1 (kz B2 N); rwa [hn] at this, h1, ho, v1, v2, rfl⟩
 ·rw [hn] at m2
  unfold form
  rw [Nat.one_mul, ← B_pow2]
  rwa [Nat.one_mul] at m2
 ·rw [hn] at m3
  rw [← Nat.pow_add, ← Nat.two_mul, show 2 * (64 * (digs B N).length) = 64 * (2 * (digs B N).length) from by omega, ← B_pow2]
  exact m3
theorem kba7 {h : AH} {j N A : Nat} (r : RingAt h j N) (hA : A < N) {t u : Sl} {es : List Nat} (n : Nats h t (digs B A)) (m : Nats h u es) (re : rt es = true) (h8 : es.length ≤ 8) :
  Runs (go (.fn F.kbv [.ptr (some (.new j 0)), t.v, u.v]) h) fun w h' => ∃ s' : Sl, w = .tup [s'.v, .int .i64 0] ∧ Nats h' s' (digs B (A ^ num B es % N)) ∧ Grow h h' ∧ Own h s' := by
 obtain ⟨v, s0, s2, s3, a, b, c, d, e⟩ := r
 obtain ⟨_, h3, e3, s4, rfl, n4, g4, o4⟩ := kwy b c d e n m (kyd a hA m.lt re h8)
 exact ⟨_, h3, e3, s4, rfl, n4, g4, o4⟩
theorem kgv {h : AH} {i x : Nat} {e : TypeId} (b : h.has i [.int .u64 (x : Int)] e) (hx : x < B) : Nats h (⟨some (.new i 0), 1, .is 1⟩ : Sl) [x] := Nats.of_has (xs := [x]) b (by intro y hy; rw [List.mem_singleton.1 hy]; exact hx) (by simp)
theorem kw2 {p : Nat} (hp : 0 < p) (hp2 : p < 1099511627776) : kv [p] = digs B (p * p) := by
 unfold kv
 rw [← kd3 (x := p) hp (Nat.lt_trans hp2 B40), kdv (kei hp2) (kei hp2)]
theorem sq_lt {p : Nat} (hp2 : p < 1099511627776) : p * p < B ^ 2 := Nat.lt_of_lt_of_le (Nat.mul_lt_mul'' hp2 hp2) (by decide)
theorem up64 {a : Nat} (h : a < B ^ 2) : a < B ^ 64 := Nat.lt_of_lt_of_le h (Nat.pow_le_pow_right (by decide) (by decide))
theorem knl {xs : List Nat} (lx : ∀ x ∈ xs, x < B) (hx : rt xs = true) {m : Nat} (h0 : 0 < m) (hm : m < B ^ 64) : divN xs (digs B m) = (digs B (num B xs / m), digs B (num B xs % m), 0) := by
 unfold divN
 rw [if_pos ⟨hx, kn hm⟩, if_neg (fun e => by have := (kd6 B2).1 e; omega), kf B2]
section
variable {h : AH} {p i2 i3 i4 j : Nat} {s : Sl}
structure SayAt (h : AH) (p i2 i3 i4 j : Nat) (s : Sl) : Prop where
 b2 : h.has i2 [s.v] T.ku
 n2 : Nats h s [p]
 b3 : h.has i3 [.ptr (some (.new j 0))] T.kmz
 ring : RingAt h j (p * p)
 b4 : h.has i4 [.int .u64 (p : Int)] T.kc
theorem SayAt.grow {h' : AH} (a : SayAt h p i2 i3 i4 j s) (g : Grow h h') : SayAt h' p i2 i3 i4 j s := ⟨g.has a.b2, a.n2.grow g, g.has a.b3, a.ring.grow g, g.has a.b4⟩
theorem say_is (a : SayAt h p i2 i3 i4 j s) {q : Nat} (k : KeyOk p q) (p1 : 128 ≤ p) (p2 : p < 1099511627776) {t : Sl} {xs : List Nat} (n : Nats h t xs) (hx : rt xs = true) (nd : ¬ p ∣ num B xs) :
  Runs (go (.fn F.km5 [t.v, .ptr (some (.new i2 0)), .ptr (some (.new i3 0)), .ptr (some (.new i4 0))]) h) fun w h' => ∃ s' : Sl, w = s'.v ∧ Nats h' s' (digs B (sayP p (num B xs))) ∧ Grow h h' ∧ Own h s' := by
 have b40 := B40
 have hpp : 0 < p * p := Nat.mul_pos (by omega) (by omega)
 rw [k9u]
 refine Runs.step (a.b2.rd0 (f := AV.asSl) rfl (asSl_v _)) ?_
 obtain ⟨_, h1, e1, s1, rfl, n1, g1, o1⟩ := kkz a.n2
 refine Runs.step e1 ?_
 refine Runs.step (seen (asSl_v _)) ?_
 rw [kw2 (by omega) p2] at n1
 obtain ⟨sa, sb, h2, e2, na, nb, g2, -, -⟩ := ke7 (n.grow g1) n1
 rw [knl n.lt hx hpp (up64 (sq_lt p2))] at e2 na nb
 have G2 := g1.trans g2
 refine Runs.step e2 ?_
 refine Runs.step rfl ?_
 refine Runs.step (seen (asSl_v _)) ?_
 refine Runs.step (seen (asSl_v _)) ?_
 refine Runs.step (seen (kb _ _)) ?_
 refine Runs.step ((G2.has a.b3).rd0 (f := AV.asPtr) rfl rfl) ?_
 refine Runs.step ((G2.has a.b4).rd0 (f := AV.asInt .u64) rfl (kb _ _)) ?_
 rw [ksw (by omega) (by omega)]
 refine Runs.new fun h3 b3 g3 => ?_
 have ne : Nats h3 (⟨some (.new h2.blks.size 0), 1, .is 1⟩ : Sl) [p - 1] := kgv b3 (by omega)
 have G3 := G2.trans g3
 obtain ⟨_, h4, e4, s4, rfl, n4, g4, -⟩ := kba7 (a.ring.grow G3) (Nat.mod_lt _ hpp) (nb.grow g3) ne (kpc (by omega) (by omega)) (by simp)
 refine Runs.step e4 ?_
 refine Runs.step rfl ?_
 refine Runs.step (seen (asSl_v _)) ?_
 refine Runs.step (seen (kb _ _)) ?_
 refine Runs.new fun h5 b5 g5 => ?_
 have n1' : Nats h5 (⟨some (.new h4.blks.size 0), 1, .is 1⟩ : Sl) [1] := kgv b5 (by decide)
 obtain ⟨s6, h6, e6, n6, g6, -⟩ := klz (n4.grow g5) n1'
 obtain ⟨u1, u2, -⟩ := k.say nd
 have num1 : ∀ y : Nat, num B [y] = y := fun y => by simp [num]
 rw [num1, u1] at n6 e6
 generalize hy : sayP p (num B xs) = y at *
 have hu : 1 + p * y < B ^ 64 := by
  have : p * y < p * p := Nat.mul_lt_mul_of_pos_left u2 (by omega)
  have := sq_lt p2
  exact Nat.lt_of_lt_of_le (show 1 + p * y < B ^ 3 from by
   have : B ^ 2 + 1 < B ^ 3 := by decide
   omega) (Nat.pow_le_pow_right (by decide) (by decide))
 have es : subN (digs B (1 + p * y)) [1] = (digs B (p * y), 0) := by
  unfold subN
  rw [if_pos ⟨kn hu, by decide⟩, kf B2, num1, if_neg (by omega), Nat.add_sub_cancel_left]
 rw [es] at n6 e6
 refine Runs.step e6 ?_
 refine Runs.step rfl ?_
 refine Runs.step (seen (asSl_v _)) ?_
 refine Runs.step (seen (kb _ _)) ?_
 have G6 := ((G3.trans g4).trans g5).trans g6
 refine Runs.step ((G6.has a.b2).rd0 (f := AV.asSl) rfl (asSl_v _)) ?_
 have hpy : p * y < B ^ 64 := by omega
 have np := a.n2.grow G6
 rw [← kd3 (x := p) (by omega) (by omega)] at np
 obtain ⟨sc, sd, h7, e7, nc, nd', g7, oc, -⟩ := ke7 n6 np
 rw [knl n6.lt (kn hpy) (by omega) (Nat.lt_of_lt_of_le (show p < B from by omega) (by decide)), kf B2, Nat.mul_div_cancel_left _ (show 0 < p from by omega)] at e7 nc
 refine Runs.step e7 ?_
 refine Runs.step rfl ?_
 refine Runs.step (seen (asSl_v _)) ?_
 refine Runs.step (seen (asSl_v _)) ?_
 refine Runs.step (seen (kb _ _)) ?_
 exact Runs.ret ⟨sc, rfl, nc, G6.trans g7, oc.of_le G6⟩
end
end Go.Ab

/- squeezed -/
set_option linter.unusedVariables false
set_option linter.unusedSimpArgs false
set_option maxRecDepth 10000
namespace Go.Ab
open Go.Proofs Go.Num
theorem kda (y : Nat) : num B [y] = y := by simp [num]
section
variable {p q : Nat} (k : KeyOk p q) (p1 : 128 ≤ p) (p2 : p < 1099511627776) (q2 : q < 1099511627776)
include k p1 p2 q2
omit k p1 in
theorem kbdj : kcu (digs B (p * q)) [1] = digs B (1 * (p * q) + 1) := by
 have h1 : p * q < B ^ 2 := Nat.lt_of_lt_of_le (Nat.mul_lt_mul'' p2 q2) (by decide)
 have h2 : 1 * (p * q) + 1 < B ^ 64 := by
  have : B ^ 2 + 1 < B ^ 64 := by decide
  omega
 unfold kcu
 rw [← klh, kdv (by decide) (Nat.lt_of_lt_of_le h1 (Nat.pow_le_pow_right (by decide) (by decide)))]
 unfold addN told
 rw [if_pos ⟨kn (by omega), kn (by decide)⟩, kf B2, kf B2]
 rw [if_pos h2]
theorem kzp {h : AH} {s t : Sl} {cs : List Nat} (nc : Nats h s cs) (nn : Nats h t (digs B (p * q))) (rc : rt cs = true) (co : Nat.Coprime (num B cs) (p * q)) {m : Nat} (d : Hid (p * q) ((p - 1) * (q - 1)) (num B cs) m) :
  Runs (go (.fn F.kok [s.v, t.v, .int .u64 (p : Int)]) h) fun w h' => ∃ s' : Sl, w = s'.v ∧ Nats h' s' (digs B (m % p)) ∧ Grow h h' ∧ Own h s' := by
 have b40 := B40
 have hpp : 1 < p * p := Nat.lt_of_lt_of_le (by decide) (Nat.mul_le_mul p1 p1)
 have odd : p % 2 = 1 := by
  rcases Nat.mod_two_eq_zero_or_one p with e | e
  ·rcases k.hp.2 2 (Nat.dvd_of_mod_eq_zero e) with h | h <;> omega
  ·exact e
 rw [k9t]
 refine Runs.new fun h4 b4 g4 => ?_
 refine Runs.step (b4.rd0 (f := AV.asInt .u64) rfl (kb _ _)) ?_
 refine Runs.new fun h6 b6 g6 => ?_
 refine Runs.new fun h7 b7 g7 => ?_
 have l4 : h.blks.size < h4.blks.size := b4.lt
 have l6 : h4.blks.size < h6.blks.size := b6.lt
 have l7 : h6.blks.size < h7.blks.size := b7.lt
 refine Runs.puts b7 rfl fun h8 b8 u8 => ?_
 have G7 := (g4.trans g6).trans g7
 have G8 : Grow h h8 := G7.updr (by omega) u8
 have c4 : h8.has h.blks.size [.int .u64 (p : Int)] T.kc := (g7.has (g6.has b4)).updr (by omega) u8
 have c6 : h8.has h4.blks.size [.int .u64 (p : Int)] T.kc := (g7.has b6).updr (by omega) u8
 have l8 : h7.blks.size ≤ h8.blks.size := u8.size
 generalize hs : (⟨some (.new h4.blks.size 0), 1, .is 1⟩ : Sl) = ps at *
 have np : Nats h8 ps [p] := by rw [← hs]; exact kgv c6 (by omega)
 refine Runs.step (b8.rd0 (f := AV.asSl) rfl (asSl_v _)) ?_
 obtain ⟨_, h9, e9, s9, rfl, n9, g9, -⟩ := kkz np
 refine Runs.step e9 ?_
 refine Runs.step (seen (asSl_v _)) ?_
 rw [kw2 (by omega) p2] at n9
 obtain ⟨_, h10, e10, j, rfl, r10, g10⟩ := k0l n9 (Nat.lt_of_lt_of_le (sq_lt p2) (by decide)) hpp (by rw [Nat.mul_mod, odd])
 refine Runs.step e10 ?_
 refine Runs.step rfl ?_
 refine Runs.step (seen rfl) ?_
 refine Runs.step (seen (kb _ _)) ?_
 refine Runs.new fun h11 b11 g11 => ?_
 have l11 : h10.blks.size < h11.blks.size := b11.lt
 have lA := g9.size
 have lB := g10.size
 have jlt : j < h10.blks.size := by
  obtain ⟨_, _, _, _, _, bb, _⟩ := r10
  exact bb.lt
 refine Runs.puts b11 rfl fun h12 b12 u12 => ?_
 have GG := (g9.trans g10).trans g11
 have d4 := (GG.has c4).updr (i := h10.blks.size) (by omega) u12
 have d6 := (GG.has c6).updr (i := h10.blks.size) (by omega) u12
 have d8 := (GG.has b8).updr (i := h10.blks.size) (by omega) u12
 have gU : Grow h10 h12 := g11.updr (Nat.le_refl _) u12
 have r12 : RingAt h12 j (p * p) := r10.grow gU
 have G12 : Grow h h12 := ((G8.trans g9).trans g10).trans gU
 have at12 : SayAt h12 p h6.blks.size h10.blks.size h.blks.size j ps := ⟨d8, by rw [← hs]; exact kgv d6 (by omega), b12, r12, d4⟩
 refine Runs.step (d8.rd0 (f := AV.asSl) rfl (asSl_v _)) ?_
 refine Runs.new fun h13 b13 g13 => ?_
 refine Runs.when (g13.same d8 0 1) ?_
 obtain ⟨_, h14, e14, s14, rfl, n14, g14, -⟩ := kps (nn.grow (G12.trans g13)) (kgv b13 (x := 1) (by decide))
 refine Runs.step e14 ?_
 refine Runs.step (seen (asSl_v _)) ?_
 rw [kbdj p2 q2] at n14
 refine Runs.when (g14.same (g13.has d8) 0 1) ?_
 have sh64 : 1 * (p * q) + 1 < B ^ 64 := by
  have h1 : p * q < B ^ 2 := Nat.lt_of_lt_of_le (Nat.mul_lt_mul'' p2 q2) (by decide)
  have : B ^ 2 + 1 < B ^ 64 := by decide
  omega
 have nd1 : ¬ p ∣ num B (digs B (1 * (p * q) + 1)) := by
  rw [kf B2]
  intro hd
  have : p ∣ 1 := (Nat.dvd_add_right (Nat.dvd_trans (Nat.dvd_mul_right p q) (by rw [Nat.one_mul]; exact Nat.dvd_refl _))).1 hd
  have := Nat.le_of_dvd (by decide) this
  omega
 have at14 := at12.grow (g13.trans g14)
 obtain ⟨_, h15, e15, s15, rfl, n15, g15, -⟩ := say_is at14 k p1 p2 n14 (kn sh64) nd1
 refine Runs.step e15 ?_
 refine Runs.step (seen (asSl_v _)) ?_
 rw [kf B2] at n15
 refine Runs.when (g15.same at14.b2 0 1) ?_
 have at15 := at14.grow g15
 have sayB : ∀ {x : Nat}, ¬ p ∣ x → sayP p x < p := fun h => (k.say h).2.1
 rw [kf B2] at nd1
 have hA := sayB nd1
 have np15 := at15.n2
 obtain ⟨_, h16, e16, s16, rfl, n16, g16, -⟩ := kvm n15 np15
 have sp := (ktd n15.lt np15.lt).2.2.1 ⟨kn (Nat.lt_trans hA (Nat.lt_of_lt_of_le (show p < B from by omega) (by decide))), kpc (by omega) (by omega), by rw [kda]; omega⟩
 rw [kda, kf B2] at sp
 obtain ⟨w, w1, w2, w3⟩ := sp.2 (by
  rw [Nat.gcd_comm, ← Nat.gcd_rec]
  exact k.say_unit)
 rw [w2] at e16 n16
 refine Runs.step e16 ?_
 refine Runs.step rfl ?_
 refine Runs.step (seen (asSl_v _)) ?_
 refine Runs.step (seen (kb _ _)) ?_
 have at16 := at15.grow g16
 have ndc : ¬ p ∣ num B cs := k.unit co
 have G16 := ((((G12.trans g13).trans g14).trans g15).trans g16)
 obtain ⟨_, h17, e17, s17, rfl, n17, g17, -⟩ := say_is at16 k p1 p2 (nc.grow G16) rc ndc
 refine Runs.step e17 ?_
 refine Runs.step (seen (asSl_v _)) ?_
 obtain ⟨s18, h18, e18, n18, g18, -⟩ := ken n17 (n16.grow g17)
 have hC := sayB ndc
 rw [kdv (kei (by omega)) (kei (by omega))] at e18 n18
 refine Runs.step e18 ?_
 refine Runs.step rfl ?_
 refine Runs.step (seen (asSl_v _)) ?_
 refine Runs.step (seen (kb _ _)) ?_
 have at18 := (at16.grow g17).grow g18
 refine Runs.step (at18.b2.rd0 (f := AV.asSl) rfl (asSl_v _)) ?_
 have np18 := at18.n2
 rw [← kd3 (x := p) (by omega) (by omega)] at np18
 obtain ⟨sx, sy, h19, e19, nx, ny, g19, ox, oy⟩ := ke7 n18 np18
 have hprod : sayP p (num B cs) * w < B ^ 64 := Nat.lt_of_lt_of_le (Nat.mul_lt_mul'' (show _ < 1099511627776 from by omega) (show w < 1099511627776 from by omega)) (by decide)
 rw [knl n18.lt (kn hprod) (by omega) (Nat.lt_of_lt_of_le (show p < B from by omega) (by decide)), kf B2] at e19 ny
 rw [k.found co d (i := w) (by
  show _ % p = 1 % p
  rw [Nat.mul_comm, w3, Nat.mod_eq_of_lt (show 1 < p from by omega)])] at e19 ny
 refine Runs.step e19 ?_
 refine Runs.step rfl ?_
 refine Runs.step (seen (asSl_v _)) ?_
 refine Runs.step (seen (asSl_v _)) ?_
 refine Runs.step (seen (kb _ _)) ?_
 have G18 := (G16.trans g17).trans g18
 exact Runs.ret ⟨sy, rfl, ny, G18.trans g19, oy.of_le G18⟩
end
end Go.Ab

/- squeezed -/
set_option linter.unusedVariables false
set_option linter.unusedSimpArgs false
set_option maxRecDepth 10000
namespace Go.Ab
open Go.Proofs Go.Num
noncomputable def hidOf (p q c : Nat) : Nat := by
 classical
 exact if h : ∃ m, Hid (p * q) ((p - 1) * (q - 1)) c m then h.choose else 0
theorem ktk {p q : Nat} (k : KeyOk p q) : 0 < p * q := by have := k.pos; omega
theorem kp3 {p q c : Nat} (k : KeyOk p q) (h : Nat.Coprime c (p * q)) : Hid (p * q) ((p - 1) * (q - 1)) c (hidOf p q c) := by
 unfold hidOf
 have hx := k.hid h
 rw [dif_pos hx]
 exact hx.choose_spec
theorem kbde {p q c m : Nat} (k : KeyOk p q) (h : Hid (p * q) ((p - 1) * (q - 1)) c m) : hidOf p q c = m := by
 unfold hidOf
 have hx : ∃ m, Hid (p * q) ((p - 1) * (q - 1)) c m := ⟨m, h⟩
 rw [dif_pos hx]
 exact hx.choose_spec.uniq k.co (ktk k) h
theorem kvw {p q : Nat} (p1 : 128 ≤ p) (hp : leastN p = p) (q1 : 128 ≤ q) (hq : leastN q = q) (ne : p ≠ q) (hg : Nat.gcd (p * q) ((p - 1) * (q - 1)) = 1) : KeyOk p q :=
 ⟨(kv5 (by omega)).1 hp, (kv5 (by omega)).1 hq, ne, hg⟩
theorem kxz {cs ns bs : List Nat} (lc : ∀ x ∈ cs, x < B) (hn : rt ns = true) (ln : ∀ x ∈ ns, x < B) (hb : rt bs = true) : k0 cs ns bs = true ↔ rt cs = true ∧ cs ≠ [] ∧ num B cs < num B bs ∧ Nat.gcd (num B cs) (num B ns) = 1 := by
 unfold k0
 cases hc : rt cs with
 | false => simp
 | true =>
  rw [Bool.not_true, cond_false]
  by_cases h0 : (List.length cs : Int) = 0
  ·rw [decide_eq_true h0, cond_true]
   have : cs = [] := List.length_eq_zero_iff.1 (by omega)
   simp [this]
  ·rw [decide_eq_false h0, cond_false, kl6 hc hb]
   have hne : cs ≠ [] := fun e => h0 (by simp [e])
   have hg : Nat.gcd (num B cs) (num B ns) < B ^ 64 := by
    have h1 := km7 lc hc
    have h2 : 0 < num B cs := kts B1 (rt_iff.1 hc).2 hne
    exact Nat.lt_of_le_of_lt (Nat.gcd_le_left _ h2) h1
   have e1 : decide (cmpN ((gcdN cs ns).1) [1] = 0) = decide (Nat.gcd (num B cs) (num B ns) = 1) := by
    unfold gcdN
    rw [if_pos ⟨hc, hn⟩, kzy hg]
   rw [e1]
   by_cases hl : num B cs < num B bs
   ·have : cmp (num B cs) (num B bs) < 0 := cmp_lt.2 hl
    rw [decide_eq_false (show ¬ cmp (num B cs) (num B bs) ≥ 0 from by omega), cond_false]
    simp [hne, hl]
   ·have : ¬ cmp (num B cs) (num B bs) < 0 := fun h => hl (cmp_lt.1 h)
    rw [decide_eq_true (show cmp (num B cs) (num B bs) ≥ 0 from by omega), cond_true]
    simp [hl]
theorem kt9 {N : Nat} (h : N < B ^ 30) : kv (digs B N) = digs B (N * N) := by
 unfold kv
 rw [kdv h h]
theorem key_lt {p q : Nat} (p2 : p < 1099511627776) (q2 : q < 1099511627776) : p * q < B ^ 2 := Nat.lt_of_lt_of_le (Nat.mul_lt_mul'' p2 q2) (by decide)
theorem kvu {p q : Nat} (p2 : p < 1099511627776) (q2 : q < 1099511627776) : p * q < B ^ 30 := Nat.lt_of_lt_of_le (key_lt p2 q2) (Nat.pow_le_pow_right (by decide) (by decide))
theorem key_sq {p q : Nat} (p2 : p < 1099511627776) (q2 : q < 1099511627776) : p * q * (p * q) < B ^ 4 := Nat.lt_of_lt_of_le (Nat.mul_lt_mul'' (key_lt p2 q2) (key_lt p2 q2)) (by decide)
theorem kn6 {p q : Nat} (p2 : p < 1099511627776) (q2 : q < 1099511627776) {cs : List Nat} (lc : ∀ x ∈ cs, x < B) :
  kq (digs B (p * q)) cs = true ↔ kp (digs B (p * q)) = true ∧ rt cs = true ∧ cs ≠ [] ∧ num B cs < p * q * (p * q) ∧ Nat.Coprime (num B cs) (p * q) := by
 unfold kq
 rw [kt9 (kvu p2 q2)]
 cases kp (digs B (p * q)) with
 | false => simp
 | true =>
  rw [cond_true, kxz lc (kn (up64 (key_lt p2 q2))) (kz B2 _) (kn (Nat.lt_of_lt_of_le (key_sq p2 q2) (Nat.pow_le_pow_right (by decide) (by decide)))), kf B2, kf B2]
  simp [Nat.Coprime]
noncomputable def decF (a b : Int) (cs : List Nat) : List Nat × Int := cond (badF a b) ([], 9) (cond (!kq (digs B (a.toNat * b.toNat)) cs) ([], 11) (digs B (hidOf a.toNat b.toNat (num B cs)), 0))
@[reducible] def kbcw (h0 : AH) (r : List Nat × Int) (v : AV) (h' : AH) : Prop := ∃ s1 : Sl, v = .tup [s1.v, .int .i64 r.2] ∧ Nats h' s1 r.1 ∧ Grow h0 h' ∧ Own h0 s1
theorem kbbl {p q m : Nat} (k : KeyOk p q) (p1 : 128 ≤ p) (p2 : p < 1099511627776) (q1 : 128 ≤ q) (q2 : q < 1099511627776) (hm : m < p * q) : crtN (digs B (m % p)) [p] (digs B (m % q)) [q] = (digs B m, 0) := by
 have b40 := B40
 have lp : m % p < B := Nat.lt_trans (Nat.mod_lt _ (by omega)) (by omega)
 have lq : m % q < B := Nat.lt_trans (Nat.mod_lt _ (by omega)) (by omega)
 have one : ∀ {x : Nat}, x < B → ∀ y ∈ [x], y < B := fun h y hy => by rw [List.mem_singleton.1 hy]; exact h
 obtain ⟨-, -, -, s2, s3⟩ := kw4 (x1 := digs B (m % p)) (x2 := [p]) (x3 := digs B (m % q)) (x4 := [q]) (kz B2 _) (one (by omega)) (kz B2 _) (one (by omega))
 have l1 : ∀ {x : Nat}, x < B → (digs B x).length ≤ 8 := fun h => (kx B2 _ 8).2 (Nat.lt_of_lt_of_le h (by decide))
 have r1 : ∀ {x : Nat}, x < B → rt (digs B x) = true := fun h => kn (Nat.lt_of_lt_of_le h (by decide))
 have ok : CrtOk (digs B (m % p)) [p] (digs B (m % q)) [q] := by
  refine ⟨⟨r1 lp, l1 lp⟩, ⟨kpc (by omega) (by omega), by simp⟩, ⟨r1 lq, l1 lq⟩, ⟨kpc (by omega) (by omega), by simp⟩, ?_, ?_, ?_, ?_⟩
  ·rw [kda]; omega
  ·rw [kda]; omega
  ·rw [kda, kf B2]; exact Nat.mod_lt _ (by omega)
  ·rw [kda, kf B2]; exact Nat.mod_lt _ (by omega)
 have cop : Nat.gcd q p = 1 := by rw [Nat.gcd_comm]; exact k.copq
 obtain ⟨X, e1, -, e2, e3, e4⟩ := s3 (s2 ok (by rw [kda, kda, Nat.gcd_comm, ← Nat.gcd_rec]; exact cop))
 rw [kda, kda] at e2
 rw [kda, kf B2] at e3
 rw [kda, kf B2] at e4
 have : Cg (p * q) X m := Cg.both k.copq e3 e4
 rw [e1, this.eq e2 hm]
theorem kfv {h : AH} {s : Sl} {cs : List Nat} (n : Nats h s cs) (a b : Int) : Runs (go (.fn F.kd8 [.agg [.int .u64 a, .int .u64 b], s.v]) h) (kbcw h (decF a b cs)) := by
 rw [kbe4]
 refine Runs.new fun h4 b4 g4 => ?_
 refine Runs.step (b4.rd 0 (f := AV.asInt .u64) rfl (kb _ _)) ?_
 refine Runs.step (b4.rd 1 (f := AV.asInt .u64) rfl (kb _ _)) ?_
 obtain ⟨_, h7, e7, s7, rfl, n7, g7, o7⟩ := kx0 (h := h4) a b
 refine Runs.step e7 ?_
 refine Runs.step rfl ?_
 refine Runs.step (seen (asSl_v _)) ?_
 refine Runs.step (seen (kb _ _)) ?_
 have nilN : ∀ h : AH, Nats h (⟨none, 0, .is 0⟩ : Sl) [] := fun h => Nats.nil h
 cases hb : badF a b with
 | true =>
  have e : pubF a b = ([], 9) := by unfold pubF; rw [hb]; rfl
  rw [e]
  refine Runs.ifT rfl ?_
  have dec : decF a b cs = ([], 9) := by unfold decF; rw [hb]; rfl
  rw [dec]
  exact Runs.ret ⟨(⟨none, 0, .is 0⟩ : Sl), rfl, nilN _, g4.trans g7, Own.nil _⟩
 | false =>
  have e : pubF a b = (digs B (a.toNat * b.toNat), 0) := by unfold pubF; rw [hb]; rfl
  rw [e] at n7 ⊢
  refine Runs.ifF rfl ?_
  obtain ⟨p, q, rfl, rfl, p1, p2, p3, q1, q2, q3, ne, -, hg⟩ := kp2 hb
  rw [Int.toNat_natCast, Int.toNat_natCast] at n7
  have k := kvw p1 p3 q1 q3 ne hg
  obtain ⟨_, h11, e11, rfl, g11⟩ := kv1 n7 (n.grow (g4.trans g7))
  refine Runs.step e11 ?_
  refine Runs.step (seen rfl) ?_
  have dec : decF (p : Int) (q : Int) cs = cond (!kq (digs B (p * q)) cs) ([], 11) (digs B (hidOf p q (num B cs)), 0) := by
   unfold decF
   rw [hb, cond_false, Int.toNat_natCast, Int.toNat_natCast]
  rw [dec]
  cases hv : kq (digs B (p * q)) cs with
  | false =>
   refine Runs.ifT rfl ?_
   exact Runs.ret ⟨(⟨none, 0, .is 0⟩ : Sl), rfl, nilN _, (g4.trans g7).trans g11, Own.nil _⟩
  | true =>
   refine Runs.ifF rfl ?_
   obtain ⟨-, rc, -, -, co⟩ := (kn6 p2 q2 n.lt).1 hv
   have hm := kp3 k co
   have co' : Nat.Coprime (num B cs) (q * p) := by rw [Nat.mul_comm]; exact co
   have hm' : Hid (q * p) ((q - 1) * (p - 1)) (num B cs) (hidOf p q (num B cs)) := by rw [Nat.mul_comm q p, Nat.mul_comm (q - 1)]; exact hm
   have G11 := (g7.trans g11)
   have c4 := G11.has b4
   refine Runs.step (c4.rd 0 (f := AV.asInt .u64) rfl (kb _ _)) ?_
   refine Runs.step (c4.rd 1 (f := AV.asInt .u64) rfl (kb _ _)) ?_
   refine Runs.new fun h15 b15 g15 => Runs.new fun h16 b16 g16 => ?_
   have d4 := g16.has (g15.has c4)
   have d15 := g16.has b15
   refine Runs.step (d4.rd 0 (f := AV.asInt .u64) rfl (kb _ _)) ?_
   refine Runs.step (d4.rd 0 (f := AV.asInt .u64) rfl (kb _ _)) ?_
   refine Runs.step (d4.rd 1 (f := AV.asInt .u64) rfl (kb _ _)) ?_
   refine Runs.step (d4.rd 1 (f := AV.asInt .u64) rfl (kb _ _)) ?_
   have G16 : Grow h h16 := ((g4.trans G11).trans g15).trans g16
   have nn : Nats h16 s7 (digs B (p * q)) := n7.grow ((g11.trans g15).trans g16)
   obtain ⟨_, h21, e21, s21, rfl, n21, g21, -⟩ := kzp k p1 p2 q2 (n.grow G16) nn rc co hm
   refine Runs.step e21 ?_
   refine Runs.step (seen (asSl_v _)) ?_
   refine Runs.when (g21.same d4 1 1) (Runs.when (g21.same d4 1 1) (Runs.when (g21.same d4 0 1) (Runs.when (g21.same b16 0 0) (Runs.when (g21.same d15 0 0) ?_))))
   have nn' := nn.grow g21
   rw [Nat.mul_comm p q] at nn'
   obtain ⟨_, h23, e23, s23, rfl, n23, g23, -⟩ := kzp k.swap q1 q2 p2 (n.grow (G16.trans g21)) nn' rc co' hm'
   refine Runs.step e23 ?_
   refine Runs.step (seen (asSl_v _)) ?_
   refine Runs.when (g23.same (g21.has d4) 1 1) (Runs.when (g23.same (g21.has d4) 0 1) (Runs.when (g23.same (g21.has b16) 0 0) (Runs.when (g23.same (g21.has d15) 0 0) ?_)))
   have b40 := B40
   obtain ⟨_, h25, e25, s25, rfl, n25, g25, o25⟩ := k9m (n21.grow g23) (kgv (g23.has (g21.has d15)) (by omega)) n23 (kgv (g23.has (g21.has b16)) (by omega))
   rw [kbbl k p1 p2 q1 q2 hm.1] at e25 n25
   refine Runs.step e25 ?_
   refine Runs.step rfl ?_
   refine Runs.step (seen (asSl_v _)) ?_
   refine Runs.step (seen (kb _ _)) ?_
   refine Runs.when rfl ?_
   have G23 := (G16.trans g21).trans g23
   exact Runs.ret ⟨s25, rfl, n25, G23.trans g25, o25.of_le G23⟩
end Go.Ab

/- squeezed -/
set_option linter.unusedVariables false
set_option linter.unusedSimpArgs false
set_option maxRecDepth 10000
namespace Go.Ab
open Go.Proofs Go.Num
theorem kxu {h : AH} {s t : Sl} {xs ys : List Nat} (n : Nats h s xs) (m : Nats h t ys) (hl : xs.length = ys.length) : ∀ (k i : Nat), i + k = xs.length →
  go (.pt F.kc5 Td.kmw [(0, s.v), (1, t.v), (5, .int .i64 (i : Int))]) h = some (.bool (decide (xs.drop i = ys.drop i)), h)
 | 0, i, hi => by
  rw [kuf, condF (by rw [decide_eq_false_iff_not, n.len]; omega), List.drop_of_length_le (by omega), List.drop_of_length_le (by omega)]
  rfl
 | k + 1, i, hi => by
  have hx : i < xs.length := by omega
  have hy : i < ys.length := by omega
  obtain ⟨r1, a1, a2⟩ := n.at hx
  obtain ⟨r2, b1, b2⟩ := m.at hy
  have hs := n.short
  rw [kuf, condT (by rw [decide_eq_true_eq, n.len]; omega), a1, Option.bind_some, rdc a2 (kb _ _), Option.bind_some, b1, Option.bind_some, rdc b2 (kb _ _), Option.bind_some]
  have ex := List.drop_eq_getElem_cons hx
  have ey := List.drop_eq_getElem_cons hy
  by_cases e : xs[i] = ys[i]
  ·rw [condF (by rw [e]; simp), kw (by omega), kxu n m hl k (i + 1) (by omega)]
   congr 3
   rw [decide_eq_decide, ex, ey, List.cons.injEq]
   exact ⟨fun h => ⟨e, h⟩, fun h => h.2⟩
  ·rw [condT (by rw [decide_eq_false (show ¬ ((xs[i] : Nat) : Int) = ((ys[i] : Nat) : Int) from by omega)]; rfl)]
   congr 3
   symm
   rw [decide_eq_false_iff_not, ex, ey, List.cons.injEq]
   exact fun h => e h.1
theorem kia {h : AH} {s t : Sl} {xs ys : List Nat} (n : Nats h s xs) (m : Nats h t ys) : go (.fn F.kc5 [s.v, t.v]) h = some (.bool (decide (xs = ys)), h) := by
 rw [kbel, n.len, m.len]
 by_cases hl : xs.length = ys.length
 ·rw [condF (by rw [hl]; simp)]
  have := kxu n m hl xs.length 0 (by omega)
  simpa using this
 ·rw [condT (by rw [decide_eq_false (show ¬ ((xs.length : Nat) : Int) = ((ys.length : Nat) : Int) from by omega)]; rfl), decide_eq_false (fun e => hl (by rw [e]))]
end Go.Ab

/- squeezed -/
set_option linter.unusedVariables false
set_option linter.unusedSimpArgs false
set_option maxRecDepth 10000
namespace Go.Ab
open Go.Proofs Go.Num
end Go.Ab

/- squeezed -/
set_option linter.unusedVariables false
set_option linter.unusedSimpArgs false
set_option maxRecDepth 10000
namespace Go.Ab
open Go.Proofs Go.Num
theorem kty {X Y : Nat} (hX : X < B ^ 64) (hY : Y < B ^ 64) (h0 : 0 < Y) : (divN (digs B X) (digs B Y)).2.1 = digs B (X % Y) := by
 rw [knl (kz B2 X) (kn hX) h0 hY, kf B2]
end Go.Ab

/- squeezed -/
set_option linter.unusedVariables false
set_option linter.unusedSimpArgs false
set_option maxRecDepth 10000
namespace Go.Ab
open Go.Proofs Go.Num
end Go.Ab

/- squeezed -/
set_option linter.unusedVariables false
set_option linter.unusedSimpArgs false
set_option maxRecDepth 10000
namespace Go.Ab
open Go.Proofs Go.Num
end Go.Ab

/- squeezed -/
set_option linter.unusedVariables false
set_option linter.unusedSimpArgs false
set_option maxRecDepth 10000
namespace Go.Ab
open Go.Proofs Go.Num
end Go.Ab

/- squeezed -/
set_option linter.unusedVariables false
set_option linter.unusedSimpArgs false
set_option maxRecDepth 10000
namespace Go.Ab
open Go.Proofs Go.Num
end Go.Ab
