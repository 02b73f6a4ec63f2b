/- Layer 2: rests of R, their walk: printed by wip/tools/walk.py. -/
import Derived.Test.YtpmbjekomcldmaaPS40
import Derived.Test.YtpmbjekomcldmaaPAbsP

set_option linter.unusedVariables false
set_option linter.unusedSimpArgs false
set_option maxRecDepth 10000
namespace Go.Ab
open Go.Proofs Go.Num

inductive mont_Ring_rest_St
  | fn (x1c0 : List Nat) (z1c1 : Int) (x1c2 : List Nat) (x1c3 : List Nat) (a2 : Int)
  | no

abbrev mont_Ring_rest_Res := List Nat

noncomputable def mont_Ring_rest_fn' (x1c0 : List Nat) (z1c1 : Int) (x1c2 : List Nat) (x1c3 : List Nat) (a2 : Int) : Option (mont_Ring_rest_St ⊕ mont_Ring_rest_Res) :=
  (mkI (IntKind.wrap .i64 ((IntKind.wrap .i64 (a2 * (List.length x1c0 : Int))) + 1)) (IntKind.wrap .i64 ((IntKind.wrap .i64 (a2 * (List.length x1c0 : Int))) + 1))).bind fun m3 => (inI (List.length (List.replicate m3 0)) (IntKind.wrap .i64 (a2 * (List.length x1c0 : Int)))).bind fun j4 => (u64P 1).bind fun w5 => some (.inr ((divN (List.set (List.replicate m3 0) j4 w5) x1c0).2.1))

noncomputable def mont_Ring_rest_step : mont_Ring_rest_St → Option (mont_Ring_rest_St ⊕ mont_Ring_rest_Res)
  | .fn x1c0 z1c1 x1c2 x1c3 a2 => mont_Ring_rest_fn' x1c0 z1c1 x1c2 x1c3 a2
  | .no => none

@[reducible] def mont_Ring_rest_post (h0 : AH) (r : mont_Ring_rest_Res) (v : AV) (h' : AH) : Prop := ∃ s1 : Sl, v = s1.v ∧ Nats h' s1 r ∧ Grow h0 h' ∧ Own h0 s1

def mont_Ring_rest_At (r : mont_Ring_rest_Res) : mont_Ring_rest_St → Prop
  | .fn x1c0 z1c1 x1c2 x1c3 a2 => ∀ {h : AH} {s1c0 : Sl} {s1c2 : Sl} {s1c3 : Sl} {i1 : Nat}, h.has i1 [s1c0.v, .int .u64 z1c1, s1c2.v, s1c3.v] T.mont_Ring → Nats h s1c0 x1c0 → Nats h s1c2 x1c2 → Nats h s1c3 x1c3 → Runs (go (.fn F.mont_Ring_rest [.ptr (some (.new i1 0)), .int .i64 a2]) h) (mont_Ring_rest_post h r)
  | .no => True

theorem mont_Ring_rest_fn_walk {r : mont_Ring_rest_Res} {o : mont_Ring_rest_St ⊕ mont_Ring_rest_Res} {x1c0 : List Nat} {z1c1 : Int} {x1c2 : List Nat} {x1c3 : List Nat} {a2 : Int} (e : mont_Ring_rest_fn' x1c0 z1c1 x1c2 x1c3 a2 = some o) (good : GoodS (mont_Ring_rest_At r) r o) : mont_Ring_rest_At r (.fn x1c0 z1c1 x1c2 x1c3 a2) := by
  intro h s1c0 s1c2 s1c3 i1 b1 n1c0 n1c2 n1c3
  rw [u_mont_Ring_rest]
  unfold mont_Ring_rest_fn' at e
  refine Runs.step rfl ?_
  refine Runs.step (AH.has.rd b1 0 rfl (asSl_v _)) ?_
  rw [n1c0.len]
  obtain ⟨m3, q3, e⟩ := Option.bind_eq_some_iff.1 e
  refine Runs.mk q3 bytes_uint64 fun s3 H3 v3 g3 => ?_
  rw [v3.nats.len]
  refine Runs.step rfl ?_
  refine Runs.step (AH.has.rd (g3.has b1) 0 rfl (asSl_v _)) ?_
  rw [(n1c0.grow g3).len]
  obtain ⟨j4, q4, e⟩ := Option.bind_eq_some_iff.1 e
  refine Runs.step (v3.idx rfl q4) ?_
  obtain ⟨w5, z5, e⟩ := Option.bind_eq_some_iff.1 e
  refine Runs.vput v3 rfl q4 z5 fun H5 v5 u5 => ?_
  refine Runs.step rfl ?_
  refine Runs.step (AH.has.rd ((g3.updr (Nat.le_refl _) u5).has b1) 0 rfl (asSl_v _)) ?_
  obtain ⟨s6, s6b, H6, e6, n6, n6b, g6, o6, o6b⟩ := nat_Div_spec v5.nats (n1c0.grow (g3.updr (Nat.le_refl _) u5))
  refine Runs.step e6 ?_
  refine Runs.step rfl ?_
  refine Runs.step (seen (asSl_v _)) ?_
  refine Runs.step (seen (asSl_v _)) ?_
  refine Runs.step (seen (avInt_int _ _)) ?_
  cases e
  cases good
  have G7 := ((g3.updr (Nat.le_refl _) u5).trans g6)
  exact Runs.ret ⟨s6b, rfl, n6b, G7, (o6b.of_le (g3.updr (Nat.le_refl _) u5))⟩

theorem mont_Ring_rest_run {s : mont_Ring_rest_St} {r : mont_Ring_rest_Res} (it : Iter mont_Ring_rest_step s r) : mont_Ring_rest_At r s := Iter.ind (fun s o e good => by
  cases s with
  | fn x1c0 z1c1 x1c2 x1c3 a2 => exact @mont_Ring_rest_fn_walk _ _ x1c0 z1c1 x1c2 x1c3 a2 e good
  | no => exact True.intro
  ) it

theorem mont_Ring_rest_opt {h : AH} {s1c0 : Sl} {s1c2 : Sl} {s1c3 : Sl} {i1 : Nat} {x1c0 : List Nat} {z1c1 : Int} {x1c2 : List Nat} {x1c3 : List Nat} {a2 : Int} (b1 : h.has i1 [s1c0.v, .int .u64 z1c1, s1c2.v, s1c3.v] T.mont_Ring) (n1c0 : Nats h s1c0 x1c0) (n1c2 : Nats h s1c2 x1c2) (n1c3 : Nats h s1c3 x1c3) {r : mont_Ring_rest_Res} (q : runP mont_Ring_rest_step (.fn x1c0 z1c1 x1c2 x1c3 a2) = some r) : Runs (go (.fn F.mont_Ring_rest [.ptr (some (.new i1 0)), .int .i64 a2]) h) (mont_Ring_rest_post h r) := mont_Ring_rest_run (runP_iter q) b1 n1c0 n1c2 n1c3

end Go.Ab

/- Layer 2: a ring is made. -/
set_option linter.unusedVariables false
set_option linter.unusedSimpArgs false
set_option maxRecDepth 10000
namespace Go.Ab
open Go.Proofs Go.Num

theorem num_rep1 (n : Nat) : num B (List.replicate n 0 ++ [1]) = B ^ n := by
  have h : num B (List.replicate n 0) = 0 := by have := num_noughts B [] n; simpa [num] using this
  rw [num_append, h, List.length_replicate]
  simp [num]

theorem rest_iter {ns c2 c3 : List Nat} (z : Int) {p k : Nat} (hk : ns.length = k) (hp : p ≤ 2) (h8 : k ≤ 8) (h0 : k ≠ 0) (r : rt ns = true) : runP mont_Ring_rest_step (.fn ns z c2 c3 (p : Int)) = some (digs B (B ^ (p * k) % num B ns)) := by
  have hpk : p * k ≤ 2 * 8 := Nat.mul_le_mul hp h8
  refine runP_of (.done ?_)
  show mont_Ring_rest_fn' ns z c2 c3 (p : Int) = _
  unfold mont_Ring_rest_fn'
  have e : IntKind.wrap .i64 ((p : Int) * (k : Int)) = ((p * k : Nat) : Int) := by rw [← Int.natCast_mul, wrap_nat (by omega)]
  rw [hk, e, wrap_succ (by omega), mkI_nat (by omega), Option.bind_some, List.length_replicate, inI_nat (by omega), Option.bind_some, show u64P 1 = some 1 from rfl, Option.bind_some]
  have hs : (List.replicate (p * k + 1) 0).set (p * k) 1 = List.replicate (p * k) 0 ++ [1] := by
    rw [List.replicate_succ']
    have := set_mid (List.replicate (p * k) 0) 0 1 [] (n := p * k) (by simp)
    rw [this, List.append_nil]
  have rx : rt (List.replicate (p * k) 0 ++ [1]) = true := rt_iff.2 ⟨by simp; omega, fun h => by simp⟩
  rw [hs, divN_rest rx r (fun e => h0 (by rw [← hk, e]; rfl)), num_rep1]

theorem wrap_newton (n x : Int) : IntKind.wrap .u64 (x * IntKind.wrap .u64 (2 - IntKind.wrap .u64 (n * x))) = (x * (2 - n * x)) % 18446744073709551616 := by
  rw [wrapU, wrapU, wrapU]
  have : (2 - n * x % 18446744073709551616) % 18446744073709551616 = (2 - n * x) % 18446744073709551616 := by
    generalize n * x = t
    omega
  rw [this, newton.Int.mul_emod_aux]

theorem newton_round {n x i : Nat} (hi : i < 6) (h : (n * x) % 2 ^ (2 ^ i) = 1 % 2 ^ (2 ^ i)) : ∃ y : Nat, y < 18446744073709551616 ∧ (((x : Int) * (2 - (n : Int) * (x : Int))) % 18446744073709551616) = (y : Int) ∧ (n * y) % 2 ^ (2 ^ (i + 1)) = 1 % 2 ^ (2 ^ (i + 1)) := by
  have h1 := Int.emod_nonneg ((x : Int) * (2 - (n : Int) * (x : Int))) (show (18446744073709551616 : Int) ≠ 0 by decide)
  have h2 := Int.emod_lt_of_pos ((x : Int) * (2 - (n : Int) * (x : Int))) (show (0 : Int) < 18446744073709551616 by decide)
  refine ⟨(((x : Int) * (2 - (n : Int) * (x : Int))) % 18446744073709551616).toNat, by omega, by omega, ?_⟩
  have hw : (2 : Nat) ^ (2 ^ (i + 1)) = 2 ^ (2 ^ i) * 2 ^ (2 ^ i) := by rw [← Nat.pow_add, Nat.pow_succ, Nat.mul_two]
  have hd : (2 : Nat) ^ (2 ^ (i + 1)) ∣ 18446744073709551616 := Nat.pow_dvd_pow 2 (show 2 ^ (i + 1) ≤ 2 ^ 6 from Nat.pow_le_pow_right (by decide) (by omega))
  generalize (2 : Nat) ^ (2 ^ (i + 1)) = w at hw hd ⊢
  have hd' : (w : Int) ∣ 18446744073709551616 := Int.natCast_dvd_natCast.2 hd
  have := newton hw h (((x : Int) * (2 - (n : Int) * (x : Int))) % 18446744073709551616) (Int.emod_emod_of_dvd _ hd')
  have e : ((((x : Int) * (2 - (n : Int) * (x : Int))) % 18446744073709551616).toNat : Int) = ((x : Int) * (2 - (n : Int) * (x : Int))) % 18446744073709551616 := by omega
  rw [← e] at this
  generalize (((x : Int) * (2 - (n : Int) * (x : Int))) % 18446744073709551616).toNat = y at this ⊢
  rw [← Int.natCast_mul] at this
  exact Int.ofNat.inj this

theorem minus_ok {n x : Nat} (h : (n * x) % 2 ^ (2 ^ 6) = 1 % 2 ^ (2 ^ 6)) : ∃ v : Nat, v < 18446744073709551616 ∧ IntKind.wrap .u64 (0 - (x : Int)) = (v : Int) ∧ (n * v + 1) % 18446744073709551616 = 0 := by
  rw [wrapU]
  refine ⟨((0 - (x : Int)) % 18446744073709551616).toNat, by omega, by omega, ?_⟩
  have e : ((((0 - (x : Int)) % 18446744073709551616).toNat : Nat) : Int) = (0 - (x : Int)) % 18446744073709551616 := by omega
  have h' : (n * x) % 18446744073709551616 = 1 := h
  have k : ((n : Int) * ((0 - (x : Int)) % 18446744073709551616) + 1) % 18446744073709551616 = 0 := by
    rw [Int.add_emod, newton.Int.mul_emod_aux, ← Int.add_emod, Int.zero_sub, Int.mul_neg, ← Int.natCast_mul]
    omega
  rw [← e] at k
  generalize ((0 - (x : Int)) % 18446744073709551616).toNat = y at k ⊢
  rw [← Int.natCast_mul] at k
  omega

/-- What New makes of a modulus. -/
def NewP (h : AH) (ns : List Nat) (w : AV) (h' : AH) : Prop :=
  ∃ (j v : Nat) (s0 s2 s3 : Sl), w = .tup [.ptr (some (.new j 0)), .int .i64 0] ∧ v < B ∧ (num B ns * v + 1) % B = 0 ∧ h'.has j [s0.v, .int .u64 (v : Int), s2.v, s3.v] T.mont_Ring ∧ Nats h' s0 ns ∧ Nats h' s2 (digs B (B ^ (1 * ns.length) % num B ns)) ∧ Nats h' s3 (digs B (B ^ (2 * ns.length) % num B ns)) ∧ Grow h h'

theorem mont_New_loop {h0 h : AH} {s : Sl} {ns : List Nat} (n : Nats h s ns) (hn : 0 < ns.length) (h8 : ns.length ≤ 8) (r : rt ns = true) (g : Grow h0 h) : ∀ (d i x : Nat), i + d = 6 → x < 18446744073709551616 → (ns[0] * x) % 2 ^ (2 ^ i) = 1 % 2 ^ (2 ^ i) →
    Runs (go (.pt F.mont_New Td.mont_New_5 [(0, s.v), (4, .int .u64 (x : Int)), (40, .int .i64 (i : Int))]) h) (NewP h0 ns)
  | 0, i, x, hi, hx, e => by
    have hi : i = 6 := by omega
    subst hi
    obtain ⟨v, v1, v2, v3⟩ := minus_ok e
    rw [p_mont_New_5]
    refine Runs.ifF (by decide) ?_
    obtain ⟨s1, h1, e1, n1, g1, o1⟩ := clone_spec n (by omega)
    refine Runs.step e1 ?_
    refine Runs.step (seen (asSl_v _)) ?_
    rw [v2]
    refine Runs.new fun h2 b2 g2 => ?_
    obtain ⟨_, h3, e3, s3, rfl, n3, g3, o3⟩ := mont_Ring_rest_opt b2 (n1.grow g2) (Nats.nil _) (Nats.nil _) (rest_iter (v : Int) rfl (show 1 ≤ 2 by decide) h8 (by omega) r)
    refine Runs.step e3 ?_
    refine Runs.step (seen (asSl_v _)) ?_
    refine Runs.putAt (o := 2) (cs' := [s1.v, .int .u64 (v : Int), s3.v, (⟨none, 0, .is 0⟩ : Sl).v]) (vs := [s3.v]) (g3.has b2) (by simp) rfl fun h4 b4 u4 => ?_
    have n3' := n3.upda (Av.of_own o3 b2.lt) u4
    have gg : Grow h1 h4 := (g2.trans g3).updr (Nat.le_refl _) u4
    obtain ⟨_, h5, e5, s5, rfl, n5, g5, o5⟩ := mont_Ring_rest_opt (a2 := ((2 : Nat) : Int)) b4 (n1.grow gg) n3' (Nats.nil _) (rest_iter (v : Int) rfl (show 2 ≤ 2 by decide) h8 (by omega) r)
    refine Runs.step e5 ?_
    refine Runs.step (seen (asSl_v _)) ?_
    refine Runs.putAt (o := 3) (cs' := [s1.v, .int .u64 (v : Int), s3.v, s5.v]) (vs := [s5.v]) (g5.has b4) (by simp) rfl fun h6 b6 u6 => ?_
    have gg6 : Grow h1 h6 := (gg.trans g5).updr (Nat.le_refl _) u6
    refine Runs.ret ⟨_, v, s1, s3, s5, rfl, v1, ?_, b6, n1.grow gg6, (n3'.grow g5).upda (Av.of_own o3 b2.lt) u6, n5.upda (Av.of_own o5 b4.lt) u6, (g.trans g1).trans gg6⟩
    rw [num_headD B ns, Nat.add_mul, Nat.mul_assoc, Nat.add_right_comm, Nat.add_mul_mod_self_left]
    have : ns.headD 0 = ns[0] := by
      cases ns with
      | nil => simp at hn
      | cons y ys => rfl
    rw [this]
    exact v3
  | d + 1, i, x, hi, hx, e => by
    rw [p_mont_New_5]
    refine Runs.ifT (by rw [decide_eq_true_eq]; omega) ?_
    obtain ⟨q, e1, e2⟩ := n.at (i := 0) hn
    rw [n.len] at e1 ⊢
    refine Runs.step e1 ?_
    refine Runs.step (rdc e2 (avInt_int _ _)) ?_
    obtain ⟨y, y1, y2, y3⟩ := newton_round (by omega) e
    rw [wrap_newton, y2, wrap_succ (by omega)]
    exact mont_New_loop n hn h8 r g d (i + 1) y (by omega) y1 y3

theorem mont_New_ok {h : AH} {s : Sl} {ns : List Nat} (n : Nats h s ns) (r : rt ns = true) (hn : ns.length ≠ 0) (h8 : ns.length ≤ 8) (ho : num B ns % 2 = 1) (h1 : 1 < num B ns) : Runs (go (.fn F.mont_New [s.v]) h) (NewP h ns) := by
  have hp : 0 < ns.length := by omega
  have hd : ns.headD 0 = ns[0] := by
    cases ns with
    | nil => simp at hp
    | cons y ys => rfl
  have hb : ns[0] < 18446744073709551616 := n.lt _ (List.getElem_mem _)
  have hodd : ns[0] % 2 = 1 := by
    rw [num_headD B ns, hd] at ho
    have : (ns[0] + 18446744073709551616 * num B ns.tail) % 2 = 1 := ho
    omega
  have hs : (ns[0] * ns[0]) % 2 ^ (2 ^ 0) = 1 % 2 ^ (2 ^ 0) := by
    show (ns[0] * ns[0]) % 2 = 1
    rw [Nat.mul_mod, hodd]
  have rd : ∀ {K : Ref → Option (AV × AH)} {Q : AV → AH → Prop}, (∀ q, h.cell q = some (.int .u64 ((ns[0] : Nat) : Int)) → Runs (K q) Q) → Runs ((idx s.ref ns.length 0 1).bind K) Q := by
    intro K Q H
    obtain ⟨q, e1, e2⟩ := n.at (i := 0) hp
    rw [n.len] at e1
    exact Runs.step e1 (H q e2)
  rw [u_mont_New]
  refine Runs.step (nat_Right_spec n) ?_
  refine Runs.step (seen rfl) ?_
  rw [show s.len = ns.length from n.len]
  refine Runs.ifF (by rw [r]; rfl) ?_
  refine Runs.ifF (by rw [decide_eq_false_iff_not]; omega) ?_
  refine Runs.ifF (by rw [decide_eq_false_iff_not]; omega) ?_
  refine rd fun q hq => ?_
  refine Runs.step (rdc hq (avInt_int _ _)) ?_
  refine Runs.ifF (by rw [iand_one hb, decide_eq_false_iff_not]; omega) ?_
  have lp : Runs (go (.pt F.mont_New Td.mont_New_5 [(0, s.v), (4, .int .u64 ((ns[0] : Nat) : Int)), (40, .int .i64 0)]) h) (NewP h ns) := mont_New_loop n hp h8 r (Grow.refl h) 6 0 ns[0] rfl hb hs
  refine Runs.cond (fun k => ?_) (fun k => ?_)
  · refine rd fun q hq => ?_
    refine Runs.step (rdc hq (avInt_int _ _)) ?_
    refine Runs.ifF ?_ ?_
    · rw [decide_eq_false_iff_not]
      intro e
      have hl : ns.length = 1 := by rw [decide_eq_true_eq] at k; omega
      obtain ⟨y, hy⟩ := List.length_eq_one_iff.1 hl
      subst hy
      simp [num] at h1 e
      omega
    · refine rd fun q hq => ?_
      refine Runs.step (rdc hq (avInt_int _ _)) ?_
      exact lp
  · refine rd fun q hq => ?_
    refine Runs.step (rdc hq (avInt_int _ _)) ?_
    exact lp

end Go.Ab

/- Layer 6: what is asked first, its walk: printed by wip/tools/walk.py. -/
set_option linter.unusedVariables false
set_option linter.unusedSimpArgs false
set_option maxRecDepth 10000
namespace Go.Ab
open Go.Proofs Go.Num

def paillier_square' (x1 : List Nat) : List Nat :=
  (mulN x1 x1).1

theorem paillier_square_spec {h : AH} {a1 : Sl} {x1 : List Nat} (n1 : Nats h a1 x1)  : Runs (go (.fn F.paillier_square [a1.v]) h) fun v h' => ∃ s1 : Sl, v = s1.v ∧ Nats h' s1 (paillier_square' x1) ∧ Grow h h' ∧ Own h s1 := by
  rw [u_paillier_square]
  obtain ⟨s2, H2, e2, n2, g2, o2⟩ := nat_Mul_spec n1 n1
  refine Runs.step e2 ?_
  refine Runs.step rfl ?_
  refine Runs.step (seen (asSl_v _)) ?_
  refine Runs.step (seen (avInt_int _ _)) ?_
  have z : paillier_square' x1 = (mulN x1 x1).1 := by unfold paillier_square'; exact rfl
  rw [z]
  exact Runs.ret ⟨s2, rfl, n2, g2, (o2.of_le (Grow.refl _))⟩

def paillier_May' (x1 : List Nat) : Bool :=
  cond ((rt x1)) (cond (((bitN x1 0))) (cond (decide ((((bitsN x1 : Nat) : Int)) ≥ 15)) (decide ((((bitsN x1 : Nat) : Int)) ≤ 80)) (false)) (false)) (false)

theorem paillier_May_spec {h : AH} {a1 : Sl} {x1 : List Nat} (n1 : Nats h a1 x1)  : Runs (go (.fn F.paillier_May [a1.v]) h) fun v h' => v = .bool (paillier_May' x1) ∧ Grow h h' := by
  rw [u_paillier_May]
  obtain ⟨_, H2, e2, rfl, g2⟩ := nat_Bits_is n1
  refine Runs.step e2 ?_
  refine Runs.step (seen (avInt_int _ _)) ?_
  refine Runs.step (nat_Right_spec (n1.grow g2)) ?_
  refine Runs.step (seen rfl) ?_
  refine Runs.cond (fun k4 => ?_) (fun k4 => ?_)
  · obtain ⟨_, H5, e5, rfl, g5⟩ := nat_Bit_need (n1.grow g2) (i := 0) (by decide)
    refine Runs.step e5 ?_
    refine Runs.step (seen rfl) ?_
    refine Runs.cond (fun k6 => ?_) (fun k6 => ?_)
    · refine Runs.cond (fun k7 => ?_) (fun k7 => ?_)
      · have z : paillier_May' x1 = decide ((((bitsN x1 : Nat) : Int)) ≤ 80) := by unfold paillier_May'; exact (condT k4).trans ((condT k6).trans ((condT k7).trans rfl))
        rw [z]
        exact Runs.ret ⟨rfl, (g2.trans g5)⟩
      · have z : paillier_May' x1 = false := by unfold paillier_May'; exact (condT k4).trans ((condT k6).trans ((condF k7).trans rfl))
        rw [z]
        exact Runs.ret ⟨rfl, (g2.trans g5)⟩
    · have z : paillier_May' x1 = false := by unfold paillier_May'; exact (condT k4).trans ((condF k6).trans rfl)
      rw [z]
      exact Runs.ret ⟨rfl, (g2.trans g5)⟩
  · have z : paillier_May' x1 = false := by unfold paillier_May'; exact (condF k4).trans rfl
    rw [z]
    exact Runs.ret ⟨rfl, g2⟩

def paillier_isPlain' (x1 : List Nat) (x2 : List Nat) : Bool :=
  cond ((rt x2)) (decide ((cmpN x2 x1) < 0)) (false)

theorem paillier_isPlain_spec {h : AH} {a1 : Sl} {x1 : List Nat} {a2 : Sl} {x2 : List Nat} (n1 : Nats h a1 x1) (n2 : Nats h a2 x2)  : Runs (go (.fn F.paillier_isPlain [a1.v, a2.v]) h) fun v h' => v = .bool (paillier_isPlain' x1 x2) ∧ Grow h h' := by
  rw [u_paillier_isPlain]
  refine Runs.step (nat_Right_spec n2) ?_
  refine Runs.step (seen rfl) ?_
  refine Runs.cond (fun k4 => ?_) (fun k4 => ?_)
  · obtain ⟨H5, e5, g5⟩ := nat_Cmp_spec n2 n1
    refine Runs.step e5 ?_
    refine Runs.step (seen (avInt_int _ _)) ?_
    have z : paillier_isPlain' x1 x2 = decide ((cmpN x2 x1) < 0) := by unfold paillier_isPlain'; exact (condT k4).trans rfl
    rw [z]
    exact Runs.ret ⟨rfl, g5⟩
  · have z : paillier_isPlain' x1 x2 = false := by unfold paillier_isPlain'; exact (condF k4).trans rfl
    rw [z]
    exact Runs.ret ⟨rfl, (Grow.refl _)⟩

def paillier_alone' (x1 : List Nat) (x2 : List Nat) (x3 : List Nat) : Bool :=
  cond (!(rt x1)) (false) (cond (decide ((List.length x1 : Int) = 0)) (false) (cond (decide ((cmpN x1 x3) ≥ 0)) (false) (decide ((cmpN ((gcdN x1 x2).1) [1]) = 0))))

theorem paillier_alone_spec {h : AH} {a1 : Sl} {x1 : List Nat} {a2 : Sl} {x2 : List Nat} {a3 : Sl} {x3 : List Nat} (n1 : Nats h a1 x1) (n2 : Nats h a2 x2) (n3 : Nats h a3 x3)  : Runs (go (.fn F.paillier_alone [a1.v, a2.v, a3.v]) h) fun v h' => v = .bool (paillier_alone' x1 x2 x3) ∧ Grow h h' := by
  rw [u_paillier_alone]
  rw [n1.len]
  refine Runs.step (nat_Right_spec n1) ?_
  refine Runs.step (seen rfl) ?_
  refine Runs.cond (fun k5 => ?_) (fun k5 => ?_)
  · have z : paillier_alone' x1 x2 x3 = false := by unfold paillier_alone'; exact (condT k5).trans rfl
    rw [z]
    exact Runs.ret ⟨rfl, (Grow.refl _)⟩
  · refine Runs.cond (fun k6 => ?_) (fun k6 => ?_)
    · have z : paillier_alone' x1 x2 x3 = false := by unfold paillier_alone'; exact (condF k5).trans ((condT k6).trans rfl)
      rw [z]
      exact Runs.ret ⟨rfl, (Grow.refl _)⟩
    · obtain ⟨H7, e7, g7⟩ := nat_Cmp_spec n1 n3
      refine Runs.step e7 ?_
      refine Runs.step (seen (avInt_int _ _)) ?_
      refine Runs.cond (fun k8 => ?_) (fun k8 => ?_)
      · have z : paillier_alone' x1 x2 x3 = false := by unfold paillier_alone'; exact (condF k5).trans ((condF k6).trans ((condT k8).trans rfl))
        rw [z]
        exact Runs.ret ⟨rfl, g7⟩
      · obtain ⟨_, H9, e9, s9, rfl, n9, g9, o9⟩ := modint_Gcd_spec (n1.grow g7) (n2.grow g7)
        refine Runs.step e9 ?_
        refine Runs.step rfl ?_
        refine Runs.step (seen (asSl_v _)) ?_
        refine Runs.step (seen (avInt_int _ _)) ?_
        refine Runs.new fun H10 b10 g10 => ?_
        obtain ⟨H11, e11, g11⟩ := nat_Cmp_spec (n9.grow g10) (Nats.of_has (xs := [1]) b10 (by decide) (by decide))
        refine Runs.step e11 ?_
        refine Runs.step (seen (avInt_int _ _)) ?_
        have z : paillier_alone' x1 x2 x3 = decide ((cmpN ((gcdN x1 x2).1) [1]) = 0) := by unfold paillier_alone'; exact (condF k5).trans ((condF k6).trans ((condF k8).trans rfl))
        rw [z]
        have G12 := (((g7.trans g9).trans g10).trans g11)
        exact Runs.ret ⟨rfl, G12⟩

def paillier_Valid' (x1 : List Nat) (x2 : List Nat) : Bool :=
  cond (((paillier_May' x1))) (((paillier_alone' x2 x1 (paillier_square' x1)))) (false)

theorem paillier_Valid_spec {h : AH} {a1 : Sl} {x1 : List Nat} {a2 : Sl} {x2 : List Nat} (n1 : Nats h a1 x1) (n2 : Nats h a2 x2)  : Runs (go (.fn F.paillier_Valid [a1.v, a2.v]) h) fun v h' => v = .bool (paillier_Valid' x1 x2) ∧ Grow h h' := by
  rw [u_paillier_Valid]
  obtain ⟨_, H3, e3, rfl, g3⟩ := paillier_May_spec n1
  refine Runs.step e3 ?_
  refine Runs.step (seen rfl) ?_
  refine Runs.cond (fun k4 => ?_) (fun k4 => ?_)
  · obtain ⟨_, H5, e5, s5, rfl, n5, g5, o5⟩ := paillier_square_spec (n1.grow g3)
    refine Runs.step e5 ?_
    refine Runs.step (seen (asSl_v _)) ?_
    obtain ⟨_, H6, e6, rfl, g6⟩ := paillier_alone_spec (n2.grow (g3.trans g5)) (n1.grow (g3.trans g5)) n5
    refine Runs.step e6 ?_
    refine Runs.step (seen rfl) ?_
    have z : paillier_Valid' x1 x2 = ((paillier_alone' x2 x1 (paillier_square' x1))) := by unfold paillier_Valid'; exact (condT k4).trans rfl
    rw [z]
    have G7 := ((g3.trans g5).trans g6)
    exact Runs.ret ⟨rfl, G7⟩
  · have z : paillier_Valid' x1 x2 = false := by unfold paillier_Valid'; exact (condF k4).trans rfl
    rw [z]
    exact Runs.ret ⟨rfl, g3⟩

def paillier_times' (x1 : List Nat) (x2 : List Nat) (x3 : List Nat) : List Nat :=
  (divN ((mulN x2 x3).1) (paillier_square' x1)).2.1

theorem paillier_times_spec {h : AH} {a1 : Sl} {x1 : List Nat} {a2 : Sl} {x2 : List Nat} {a3 : Sl} {x3 : List Nat} (n1 : Nats h a1 x1) (n2 : Nats h a2 x2) (n3 : Nats h a3 x3)  : Runs (go (.fn F.paillier_times [a1.v, a2.v, a3.v]) h) fun v h' => ∃ s1 : Sl, v = s1.v ∧ Nats h' s1 (paillier_times' x1 x2 x3) ∧ Grow h h' ∧ Own h s1 := by
  rw [u_paillier_times]
  obtain ⟨s4, H4, e4, n4, g4, o4⟩ := nat_Mul_spec n2 n3
  refine Runs.step e4 ?_
  refine Runs.step rfl ?_
  refine Runs.step (seen (asSl_v _)) ?_
  refine Runs.step (seen (avInt_int _ _)) ?_
  obtain ⟨_, H5, e5, s5, rfl, n5, g5, o5⟩ := paillier_square_spec (n1.grow g4)
  refine Runs.step e5 ?_
  refine Runs.step (seen (asSl_v _)) ?_
  obtain ⟨s6, s6b, H6, e6, n6, n6b, g6, o6, o6b⟩ := nat_Div_spec (n4.grow g5) n5
  refine Runs.step e6 ?_
  refine Runs.step rfl ?_
  refine Runs.step (seen (asSl_v _)) ?_
  refine Runs.step (seen (asSl_v _)) ?_
  refine Runs.step (seen (avInt_int _ _)) ?_
  have z : paillier_times' x1 x2 x3 = (divN ((mulN x2 x3).1) (paillier_square' x1)).2.1 := by unfold paillier_times'; exact rfl
  rw [z]
  have G7 := ((g4.trans g5).trans g6)
  exact Runs.ret ⟨s6b, rfl, n6b, G7, (o6b.of_le (g4.trans g5))⟩

def paillier_shown' (x1 : List Nat) (x2 : List Nat) : List Nat :=
  (addN ((mulN x2 x1).1) [1]).1

theorem paillier_shown_spec {h : AH} {a1 : Sl} {x1 : List Nat} {a2 : Sl} {x2 : List Nat} (n1 : Nats h a1 x1) (n2 : Nats h a2 x2)  : Runs (go (.fn F.paillier_shown [a1.v, a2.v]) h) fun v h' => ∃ s1 : Sl, v = s1.v ∧ Nats h' s1 (paillier_shown' x1 x2) ∧ Grow h h' ∧ Own h s1 := by
  rw [u_paillier_shown]
  obtain ⟨s3, H3, e3, n3, g3, o3⟩ := nat_Mul_spec n2 n1
  refine Runs.step e3 ?_
  refine Runs.step rfl ?_
  refine Runs.step (seen (asSl_v _)) ?_
  refine Runs.step (seen (avInt_int _ _)) ?_
  refine Runs.new fun H4 b4 g4 => ?_
  obtain ⟨s5, H5, e5, n5, g5, o5⟩ := nat_Add_spec (n3.grow g4) (Nats.of_has (xs := [1]) b4 (by decide) (by decide))
  refine Runs.step e5 ?_
  refine Runs.step rfl ?_
  refine Runs.step (seen (asSl_v _)) ?_
  refine Runs.step (seen (avInt_int _ _)) ?_
  have z : paillier_shown' x1 x2 = (addN ((mulN x2 x1).1) [1]).1 := by unfold paillier_shown'; exact rfl
  rw [z]
  have G6 := ((g3.trans g4).trans g5)
  exact Runs.ret ⟨s5, rfl, n5, G6, (o5.of_le (g3.trans g4))⟩

def ref06_Square' (x1 : List Nat) : List Nat :=
  (mulN x1 x1).1

theorem ref06_Square_spec {h : AH} {a1 : Sl} {x1 : List Nat} (n1 : Nats h a1 x1)  : Runs (go (.fn F.ref06_Square [a1.v]) h) fun v h' => ∃ s1 : Sl, v = s1.v ∧ Nats h' s1 (ref06_Square' x1) ∧ Grow h h' ∧ Own h s1 := by
  rw [u_ref06_Square]
  obtain ⟨s2, H2, e2, n2, g2, o2⟩ := ref01_Mul_spec n1 n1
  refine Runs.step e2 ?_
  refine Runs.step rfl ?_
  refine Runs.step (seen (asSl_v _)) ?_
  refine Runs.step (seen (avInt_int _ _)) ?_
  have z : ref06_Square' x1 = (mulN x1 x1).1 := by unfold ref06_Square'; exact rfl
  rw [z]
  exact Runs.ret ⟨s2, rfl, n2, g2, (o2.of_le (Grow.refl _))⟩

def ref06_unit' (x1 : List Nat) (x2 : List Nat) (x3 : List Nat) : Bool :=
  cond (!(rt x1)) (false) (cond (decide ((List.length x1 : Int) = 0)) (false) (cond (decide ((cmpN x1 x3) ≥ 0)) (false) (decide ((cmpN ((gcdN x1 x2).1) [1]) = 0))))

theorem ref06_unit_spec {h : AH} {a1 : Sl} {x1 : List Nat} {a2 : Sl} {x2 : List Nat} {a3 : Sl} {x3 : List Nat} (n1 : Nats h a1 x1) (n2 : Nats h a2 x2) (n3 : Nats h a3 x3)  : Runs (go (.fn F.ref06_unit [a1.v, a2.v, a3.v]) h) fun v h' => v = .bool (ref06_unit' x1 x2 x3) ∧ Grow h h' := by
  rw [u_ref06_unit]
  rw [n1.len]
  refine Runs.step (ref01_Right_spec n1) ?_
  refine Runs.step (seen rfl) ?_
  refine Runs.cond (fun k5 => ?_) (fun k5 => ?_)
  · have z : ref06_unit' x1 x2 x3 = false := by unfold ref06_unit'; exact (condT k5).trans rfl
    rw [z]
    exact Runs.ret ⟨rfl, (Grow.refl _)⟩
  · refine Runs.cond (fun k6 => ?_) (fun k6 => ?_)
    · have z : ref06_unit' x1 x2 x3 = false := by unfold ref06_unit'; exact (condF k5).trans ((condT k6).trans rfl)
      rw [z]
      exact Runs.ret ⟨rfl, (Grow.refl _)⟩
    · obtain ⟨H7, e7, g7⟩ := ref01_Cmp_spec n1 n3
      refine Runs.step e7 ?_
      refine Runs.step (seen (avInt_int _ _)) ?_
      refine Runs.cond (fun k8 => ?_) (fun k8 => ?_)
      · have z : ref06_unit' x1 x2 x3 = false := by unfold ref06_unit'; exact (condF k5).trans ((condF k6).trans ((condT k8).trans rfl))
        rw [z]
        exact Runs.ret ⟨rfl, g7⟩
      · obtain ⟨_, H9, e9, s9, rfl, n9, g9, o9⟩ := ref03_Gcd_spec (n1.grow g7) (n2.grow g7)
        refine Runs.step e9 ?_
        refine Runs.step rfl ?_
        refine Runs.step (seen (asSl_v _)) ?_
        refine Runs.step (seen (avInt_int _ _)) ?_
        obtain ⟨s10, H10, e10, n10, g10, o10⟩ := ref01_Of_one
        refine Runs.step e10 ?_
        refine Runs.step (seen (asSl_v _)) ?_
        obtain ⟨H11, e11, g11⟩ := ref01_Cmp_spec (n9.grow g10) n10
        refine Runs.step e11 ?_
        refine Runs.step (seen (avInt_int _ _)) ?_
        have z : ref06_unit' x1 x2 x3 = decide ((cmpN ((gcdN x1 x2).1) [1]) = 0) := by unfold ref06_unit'; exact (condF k5).trans ((condF k6).trans ((condF k8).trans rfl))
        rw [z]
        have G12 := (((g7.trans g9).trans g10).trans g11)
        exact Runs.ret ⟨rfl, G12⟩

def ref02_Times' (x1 : List Nat) (x2 : List Nat) (x3 : List Nat) : List Nat :=
  (divN ((mulN x1 x2).1) x3).2.1

theorem ref06_Square_eq : ref06_Square' = paillier_square' := rfl

theorem ref06_Square_is {h : AH} {a1 : Sl} {x1 : List Nat} (n1 : Nats h a1 x1)  : Runs (go (.fn F.ref06_Square [a1.v]) h) fun v h' => ∃ s1 : Sl, v = s1.v ∧ Nats h' s1 (paillier_square' x1) ∧ Grow h h' ∧ Own h s1 := by
  rw [← ref06_Square_eq]
  exact ref06_Square_spec n1

theorem ref06_unit_eq : ref06_unit' = paillier_alone' := rfl

theorem ref06_unit_is {h : AH} {a1 : Sl} {x1 : List Nat} {a2 : Sl} {x2 : List Nat} {a3 : Sl} {x3 : List Nat} (n1 : Nats h a1 x1) (n2 : Nats h a2 x2) (n3 : Nats h a3 x3)  : Runs (go (.fn F.ref06_unit [a1.v, a2.v, a3.v]) h) fun v h' => v = .bool (paillier_alone' x1 x2 x3) ∧ Grow h h' := by
  rw [← ref06_unit_eq]
  exact ref06_unit_spec n1 n2 n3

inductive ref06_May_St
  | fn (x1 : List Nat)
  | no

abbrev ref06_May_Res := Bool

noncomputable def ref06_May_fn' (x1 : List Nat) : Option (ref06_May_St ⊕ ref06_May_Res) :=
  cond ((rt x1)) (cond (decide ((List.length x1 : Int) > 0)) ((atI x1 0).bind fun y6 => cond (decide ((Int.tmod ((y6 : Int)) 2) = 1)) (cond (decide ((((bitsN x1 : Nat) : Int)) ≥ 15)) (some (.inr (decide ((((bitsN x1 : Nat) : Int)) ≤ 80)))) (some (.inr false))) (some (.inr false))) (some (.inr false))) (some (.inr false))

noncomputable def ref06_May_step : ref06_May_St → Option (ref06_May_St ⊕ ref06_May_Res)
  | .fn x1 => ref06_May_fn' x1
  | .no => none

@[reducible] def ref06_May_post (h0 : AH) (r : ref06_May_Res) (v : AV) (h' : AH) : Prop := v = .bool r ∧ Grow h0 h'

def ref06_May_At (r : ref06_May_Res) : ref06_May_St → Prop
  | .fn x1 => ∀ {h : AH} {a1 : Sl}, Nats h a1 x1 → Runs (go (.fn F.ref06_May [a1.v]) h) (ref06_May_post h r)
  | .no => True

theorem ref06_May_fn_walk {r : ref06_May_Res} {o : ref06_May_St ⊕ ref06_May_Res} {x1 : List Nat} (e : ref06_May_fn' x1 = some o) (good : GoodS (ref06_May_At r) r o) : ref06_May_At r (.fn x1) := by
  intro h a1 n1
  rw [u_ref06_May]
  unfold ref06_May_fn' at e
  rw [n1.len]
  refine Runs.step (ref01_Right_spec n1) ?_
  refine Runs.step (seen rfl) ?_
  obtain ⟨_, H3, e3, rfl, g3⟩ := ref01_Bits_is n1
  refine Runs.step e3 ?_
  refine Runs.step (seen (avInt_int _ _)) ?_
  refine Runs.cond (fun k4 => ?_) (fun k4 => ?_)
  · replace e := (condT k4).symm.trans e
    refine Runs.cond (fun k5 => ?_) (fun k5 => ?_)
    · replace e := (condT k5).symm.trans e
      obtain ⟨y6, q6, e⟩ := Option.bind_eq_some_iff.1 e
      obtain ⟨r6, j6, l6⟩ := (n1.grow g3).atI q6
      refine Runs.step j6 ?_
      refine Runs.step (rdc l6 (avInt_int _ _)) ?_
      refine Runs.cond (fun k7 => ?_) (fun k7 => ?_)
      · replace e := (condT k7).symm.trans e
        refine Runs.cond (fun k8 => ?_) (fun k8 => ?_)
        · replace e := (condT k8).symm.trans e
          cases e
          cases good
          exact Runs.ret ⟨rfl, g3⟩
        · replace e := (condF k8).symm.trans e
          cases e
          cases good
          exact Runs.ret ⟨rfl, g3⟩
      · replace e := (condF k7).symm.trans e
        cases e
        cases good
        exact Runs.ret ⟨rfl, g3⟩
    · replace e := (condF k5).symm.trans e
      cases e
      cases good
      exact Runs.ret ⟨rfl, g3⟩
  · replace e := (condF k4).symm.trans e
    cases e
    cases good
    exact Runs.ret ⟨rfl, g3⟩

theorem ref06_May_run {s : ref06_May_St} {r : ref06_May_Res} (it : Iter ref06_May_step s r) : ref06_May_At r s := Iter.ind (fun s o e good => by
  cases s with
  | fn x1 => exact @ref06_May_fn_walk _ _ x1 e good
  | no => exact True.intro
  ) it

theorem ref06_May_opt {h : AH} {a1 : Sl} {x1 : List Nat} (n1 : Nats h a1 x1) {r : ref06_May_Res} (q : runP ref06_May_step (.fn x1) = some r) : Runs (go (.fn F.ref06_May [a1.v]) h) (ref06_May_post h r) := ref06_May_run (runP_iter q) n1

theorem bit0 {xs : List Nat} (l : ∀ x ∈ xs, x < B) (h : 0 < xs.length) (r : rt xs = true) : bitN xs 0 = decide (xs[0] % 2 = 1) := by
  have := bit_limb l (q := 0) (r := 0) h (by decide)
  rw [Nat.pow_zero, Nat.div_one] at this
  rw [show (0 : Int) = ((0 : Nat) : Int) from rfl, bitN_nat r]
  exact this

theorem ref06_May_iter {xs : List Nat} (l : ∀ x ∈ xs, x < B) : Iter ref06_May_step (.fn xs) (paillier_May' xs) := by
  refine .done ?_
  show ref06_May_fn' _ = _
  unfold ref06_May_fn' paillier_May'
  cases hr : rt xs with
  | false => rfl
  | true =>
    rw [cond_true, cond_true]
    by_cases hl : 0 < xs.length
    · rw [condT (by rw [decide_eq_true_eq]; omega), show (0 : Int) = ((0 : Nat) : Int) from rfl, atI_nat hl, Option.bind_some, tmod2, show ((0 : Nat) : Int) = 0 from rfl, bit0 l hl hr]
      have : decide (((xs[0] % 2 : Nat) : Int) = 1) = decide (xs[0] % 2 = 1) := by rw [decide_eq_decide]; omega
      rw [this]
      cases decide (xs[0] % 2 = 1)
      · rfl
      · rw [cond_true, cond_true]
        cases decide (((bitsN xs : Nat) : Int) ≥ 15) <;> rfl
    · have : xs = [] := List.length_eq_zero_iff.1 (by omega)
      subst this
      rfl

theorem ref06_May_is {h : AH} {s : Sl} {xs : List Nat} (n : Nats h s xs) : Runs (go (.fn F.ref06_May [s.v]) h) fun v h' => v = .bool (paillier_May' xs) ∧ Grow h h' := ref06_May_opt n (runP_of (ref06_May_iter n.lt))

def ref06_Valid' (x1 : List Nat) (x2 : List Nat) : Bool :=
  cond (((paillier_May' x1))) (((paillier_alone' x2 x1 (paillier_square' x1)))) (false)

theorem ref06_Valid_spec {h : AH} {a1 : Sl} {x1 : List Nat} {a2 : Sl} {x2 : List Nat} (n1 : Nats h a1 x1) (n2 : Nats h a2 x2)  : Runs (go (.fn F.ref06_Valid [a1.v, a2.v]) h) fun v h' => v = .bool (ref06_Valid' x1 x2) ∧ Grow h h' := by
  rw [u_ref06_Valid]
  obtain ⟨_, H3, e3, rfl, g3⟩ := ref06_May_is n1
  refine Runs.step e3 ?_
  refine Runs.step (seen rfl) ?_
  refine Runs.cond (fun k4 => ?_) (fun k4 => ?_)
  · obtain ⟨_, H5, e5, s5, rfl, n5, g5, o5⟩ := ref06_Square_is (n1.grow g3)
    refine Runs.step e5 ?_
    refine Runs.step (seen (asSl_v _)) ?_
    obtain ⟨_, H6, e6, rfl, g6⟩ := ref06_unit_is (n2.grow (g3.trans g5)) (n1.grow (g3.trans g5)) n5
    refine Runs.step e6 ?_
    refine Runs.step (seen rfl) ?_
    have z : ref06_Valid' x1 x2 = ((paillier_alone' x2 x1 (paillier_square' x1))) := by unfold ref06_Valid'; exact (condT k4).trans rfl
    rw [z]
    have G7 := ((g3.trans g5).trans g6)
    exact Runs.ret ⟨rfl, G7⟩
  · have z : ref06_Valid' x1 x2 = false := by unfold ref06_Valid'; exact (condF k4).trans rfl
    rw [z]
    exact Runs.ret ⟨rfl, g3⟩

theorem ref06_Valid_eq : ref06_Valid' = paillier_Valid' := rfl

theorem ref06_Valid_is {h : AH} {a1 : Sl} {x1 : List Nat} {a2 : Sl} {x2 : List Nat} (n1 : Nats h a1 x1) (n2 : Nats h a2 x2)  : Runs (go (.fn F.ref06_Valid [a1.v, a2.v]) h) fun v h' => v = .bool (paillier_Valid' x1 x2) ∧ Grow h h' := by
  rw [← ref06_Valid_eq]
  exact ref06_Valid_spec n1 n2

end Go.Ab

/- Layer 2: the document's power, its walk: printed by wip/tools/walk.py. -/
set_option linter.unusedVariables false
set_option linter.unusedSimpArgs false
set_option maxRecDepth 10000
namespace Go.Ab
open Go.Proofs Go.Num

end Go.Ab

/- Layers 2 and 6: powers, what they are. -/
set_option linter.unusedVariables false
set_option linter.unusedSimpArgs false
set_option maxRecDepth 10000
namespace Go.Ab
open Go.Proofs Go.Num

def powOk (xs es ns : List Nat) : Prop := rt xs = true ∧ rt es = true ∧ rt ns = true ∧ ns.length ≤ 30 ∧ 1 < num B ns ∧ num B xs < num B ns
def powN (xs es ns : List Nat) : List Nat := digs B (num B xs ^ num B es % num B ns)

theorem mulN_digs {a b : Nat} (ha : a < B ^ 30) (hb : b < B ^ 30) : mulN (digs B a) (digs B b) = (digs B (a * b), 0) := by
  have h60 : a * b < B ^ 64 := by
    calc a * b < B ^ 30 * B ^ 30 := Nat.mul_lt_mul_of_lt_of_lt ha hb
      _ = B ^ 60 := by rw [← Nat.pow_add]
      _ ≤ B ^ 64 := Nat.pow_le_pow_right (by decide) (by decide)
  have up : ∀ {c : Nat}, c < B ^ 30 → c < B ^ 64 := fun h => Nat.lt_of_lt_of_le h (Nat.pow_le_pow_right (by decide) (by decide))
  unfold mulN
  rw [if_pos ⟨rt_digs (up ha), rt_digs (up hb)⟩, num_digs B2, num_digs B2]
  unfold told
  rw [if_pos h60]

theorem digs_of_rt {xs : List Nat} (l : ∀ x ∈ xs, x < B) (r : rt xs = true) : digs B (num B xs) = xs := digs_num B2 l (rt_iff.1 r).2

theorem may_facts {ns : List Nat} (l : ∀ x ∈ ns, x < B) (h : paillier_May' ns = true) : rt ns = true ∧ num B ns % 2 = 1 ∧ 16384 ≤ num B ns ∧ num B ns < 2 ^ 80 := by
  unfold paillier_May' at h
  simp only [Bool.cond_eq_true_distrib, Bool.cond_false_right, Bool.and_eq_true, decide_eq_true_eq] at h
  obtain ⟨h1, h2, h3, h4⟩ := h
  have hb : bitsN ns = bl (num B ns) := by unfold bitsN; rw [if_pos h1]
  rw [hb] at h3 h4
  obtain ⟨b1, b2⟩ := bl_Bl (num B ns)
  refine ⟨h1, ?_, ?_, ?_⟩
  · rw [show (0 : Int) = ((0 : Nat) : Int) from rfl, bitN_nat h1, Nat.testBit_zero, decide_eq_true_eq] at h2
    exact h2
  · rcases b2 with b2 | b2
    · omega
    · exact Nat.le_trans (Nat.pow_le_pow_right (n := 2) (i := 14) (by decide) (by omega)) b2
  · exact Nat.lt_of_lt_of_le b1 (Nat.pow_le_pow_right (by decide) (by omega))

theorem square_may {ns : List Nat} (l : ∀ x ∈ ns, x < B) (h : paillier_May' ns = true) : paillier_square' ns = digs B (num B ns * num B ns) ∧ num B ns * num B ns < B ^ 3 ∧ 1 < num B ns * num B ns ∧ num B ns * num B ns % 2 = 1 := by
  obtain ⟨h1, h2, h3, h4⟩ := may_facts l h
  have h30 : num B ns < B ^ 30 := Nat.lt_trans h4 (by decide)
  refine ⟨?_, ?_, ?_, ?_⟩
  · unfold paillier_square'
    have := mulN_digs h30 h30
    rw [digs_of_rt l h1] at this
    rw [this]
  · calc num B ns * num B ns < 2 ^ 80 * 2 ^ 80 := Nat.mul_lt_mul_of_lt_of_lt h4 h4
      _ < B ^ 3 := by decide
  · calc 1 < 16384 * 16384 := by decide
      _ ≤ num B ns * num B ns := Nat.mul_le_mul h3 h3
  · rw [Nat.mul_mod, h2]

def powerOk (ns xs es : List Nat) : Prop := paillier_May' ns = true ∧ rt xs = true ∧ num B xs < num B ns * num B ns ∧ rt es = true ∧ es.length ≤ 8

theorem paillier_power_need {h : AH} {s t u : Sl} {ns xs es : List Nat} (nn : Nats h s ns) (nx : Nats h t xs) (ne : Nats h u es) (c : powerOk ns xs es) :
    Runs (go (.fn F.paillier_power [s.v, t.v, u.v]) h) fun v h' => ∃ s1 : Sl, v = s1.v ∧ Nats h' s1 (powN xs es (paillier_square' ns)) ∧ Grow h h' ∧ Own h s1 := by
  obtain ⟨c1, c2, c3, c4, c5⟩ := c
  obtain ⟨q1, q2, q3, q4⟩ := square_may nn.lt c1
  have hN0 : num B ns * num B ns ≠ 0 := by omega
  rw [u_paillier_power]
  obtain ⟨_, h1, e1, s1, rfl, n1, g1, o1⟩ := paillier_square_spec nn
  refine Runs.step e1 ?_
  refine Runs.step (seen (asSl_v _)) ?_
  rw [q1] at n1 ⊢
  have hl3 : (digs B (num B ns * num B ns)).length ≤ 3 := (digs_len B2 _ 3).2 q2
  have hn : num B (digs B (num B ns * num B ns)) = num B ns * num B ns := num_digs B2 _
  obtain ⟨_, h2, e2, j, v, s0, s2, s3, rfl, v1, v2, b, m0, m2, m3, g2⟩ := mont_New_ok n1 (rt_digs (Nat.lt_of_lt_of_le q2 (Nat.pow_le_pow_right (by decide) (by decide)))) (fun e => hN0 (by rw [List.length_eq_zero_iff] at e; exact (digs_nil B2).1 e)) (by omega) (by rw [hn]; exact q4) (by rw [hn]; exact q3)
  refine Runs.step e2 ?_
  refine Runs.step rfl ?_
  refine Runs.step (seen rfl) ?_
  refine Runs.step (seen (avInt_int _ _)) ?_
  rw [hn] at v2 m2 m3
  have ring : RingOk (num B ns * num B ns) (digs B (num B ns * num B ns)).length v := ⟨by omega, by have := num_lt B1 (digs_lt B2 (num B ns * num B ns)); rwa [hn] at this, q3, q4, v1, v2, rfl⟩
  have f1 : digs B (B ^ (1 * (digs B (num B ns * num B ns)).length) % (num B ns * num B ns)) = form (num B ns * num B ns) (digs B (num B ns * num B ns)).length 1 := by
    unfold form
    rw [Nat.one_mul, Nat.one_mul, B_pow2]
  have f2 : B ^ (2 * (digs B (num B ns * num B ns)).length) = 2 ^ (64 * (digs B (num B ns * num B ns)).length) * 2 ^ (64 * (digs B (num B ns * num B ns)).length) := by
    rw [Nat.two_mul, Nat.pow_add, B_pow2]
  rw [f1] at m2
  rw [f2] at m3
  have it := mont_Ring_Exp_iter ring c3 ne.lt c4 c5
  rw [digs_of_rt nx.lt c2] at it
  obtain ⟨_, h3, e3, s4, rfl, n4, g4, o4⟩ := mont_Ring_Exp_opt b m0 m2 m3 (nx.grow (g1.trans g2)) (ne.grow (g1.trans g2)) it
  refine Runs.step e3 ?_
  refine Runs.step rfl ?_
  refine Runs.step (seen (asSl_v _)) ?_
  refine Runs.step (seen (avInt_int _ _)) ?_
  refine Runs.ret ⟨s4, rfl, ?_, (g1.trans g2).trans g4, o4.of_le (g1.trans g2)⟩
  unfold powN
  rw [hn]
  exact n4

end Go.Ab

/- Layer 6: faults, their walk: printed by wip/tools/walk.py. -/
set_option linter.unusedVariables false
set_option linter.unusedSimpArgs false
set_option maxRecDepth 10000
namespace Go.Ab
open Go.Proofs Go.Num

inductive law06_few_St
  | fn (x1 : List (List Nat))
  | p2 (x1 : List (List Nat)) (a2 : Int)

abbrev law06_few_Res := Bool

noncomputable def law06_few_fn' (x1 : List (List Nat)) : Option (law06_few_St ⊕ law06_few_Res) :=
  some (.inl (.p2 x1 0))

noncomputable def law06_few_p2' (x1 : List (List Nat)) (a2 : Int) : Option (law06_few_St ⊕ law06_few_Res) :=
  cond (decide (a2 < (List.length x1 : Int))) ((atX x1 a2).bind fun y4 => cond (decide ((List.length y4 : Int) > 20)) (some (.inr false)) (some (.inl (.p2 x1 (IntKind.wrap .i64 (a2 + 1)))))) (some (.inr true))

noncomputable def law06_few_step : law06_few_St → Option (law06_few_St ⊕ law06_few_Res)
  | .fn x1 => law06_few_fn' x1
  | .p2 x1 a2 => law06_few_p2' x1 a2

@[reducible] def law06_few_post (h0 : AH) (r : law06_few_Res) (v : AV) (h' : AH) : Prop := v = .bool r ∧ Grow h0 h'

def law06_few_At (r : law06_few_Res) : law06_few_St → Prop
  | .fn x1 => ∀ {h : AH} {a1 : Sl}, Seq El.nats h a1 x1 → Runs (go (.fn F.law06_few [a1.v]) h) (law06_few_post h r)
  | .p2 x1 a2 => ∀ {h0 h : AH} {a1 : Sl}, Grow h0 h → Seq El.nats h a1 x1 → Runs (go (.pt F.law06_few Td.law06_few_2 [(0, a1.v), (3, .int .i64 a2)]) h) (law06_few_post h0 r)

theorem law06_few_fn_walk {r : law06_few_Res} {o : law06_few_St ⊕ law06_few_Res} {x1 : List (List Nat)} (e : law06_few_fn' x1 = some o) (good : GoodS (law06_few_At r) r o) : law06_few_At r (.fn x1) := by
  intro h a1 n1
  rw [u_law06_few]
  unfold law06_few_fn' at e
  cases e
  exact good (Grow.refl _) n1

theorem law06_few_p2_walk {r : law06_few_Res} {o : law06_few_St ⊕ law06_few_Res} {x1 : List (List Nat)} {a2 : Int} (e : law06_few_p2' x1 a2 = some o) (good : GoodS (law06_few_At r) r o) : law06_few_At r (.p2 x1 a2) := by
  intro h0 h a1 g0 n1
  rw [p_law06_few_2]
  unfold law06_few_p2' at e
  rw [n1.len]
  refine Runs.cond (fun k3 => ?_) (fun k3 => ?_)
  · replace e := (condT k3).symm.trans e
    obtain ⟨y4, q4, e⟩ := Option.bind_eq_some_iff.1 e
    obtain ⟨r4, cs4, j4, E4, l4⟩ := (n1).at q4
    obtain ⟨s4, rfl, n4⟩ := E4
    refine Runs.step j4 ?_
    refine Runs.step (l4.rd0 (Grow.refl _) rfl (asSl_v _)) ?_
    rw [n4.len]
    refine Runs.cond (fun k5 => ?_) (fun k5 => ?_)
    · replace e := (condT k5).symm.trans e
      cases e
      cases good
      exact Runs.ret ⟨rfl, g0⟩
    · replace e := (condF k5).symm.trans e
      cases e
      exact good g0 n1
  · replace e := (condF k3).symm.trans e
    cases e
    cases good
    exact Runs.ret ⟨rfl, g0⟩

theorem law06_few_run {s : law06_few_St} {r : law06_few_Res} (it : Iter law06_few_step s r) : law06_few_At r s := Iter.ind (fun s o e good => by
  cases s with
  | fn x1 => exact @law06_few_fn_walk _ _ x1 e good
  | p2 x1 a2 => exact @law06_few_p2_walk _ _ x1 a2 e good
  ) it

theorem law06_few_opt {h : AH} {a1 : Sl} {x1 : List (List Nat)} (n1 : Seq El.nats h a1 x1) {r : law06_few_Res} (q : runP law06_few_step (.fn x1) = some r) : Runs (go (.fn F.law06_few [a1.v]) h) (law06_few_post h r) := law06_few_run (runP_iter q) n1

end Go.Ab

/- Layer 6: faults; few. -/
set_option linter.unusedVariables false
set_option linter.unusedSimpArgs false
set_option maxRecDepth 10000
namespace Go.Ab
open Go.Proofs Go.Num

def few06 (l : List (List Nat)) : Bool := l.all fun x => decide (x.length ≤ 20)

theorem few_loop {l : List (List Nat)} (hl : l.length ≤ 1000000) : ∀ (d i : Nat), i + d = l.length → Iter law06_few_step (.p2 l (i : Int)) ((l.drop i).all fun x => decide (x.length ≤ 20))
  | 0, i, hi => by
    refine .done ?_
    show law06_few_p2' _ _ = _
    unfold law06_few_p2'
    rw [condF (by rw [decide_eq_false_iff_not]; omega), List.drop_eq_nil_of_le (by omega)]
    rfl
  | d + 1, i, hi => by
    have hi' : i < l.length := by omega
    have K := few_loop hl d (i + 1) (by omega)
    rw [List.drop_eq_getElem_cons hi', List.all_cons]
    have step : law06_few_p2' l (i : Int) = cond (decide (((l[i]).length : Int) > 20)) (some (.inr false)) (some (.inl (.p2 l ((i + 1 : Nat) : Int)))) := by
      unfold law06_few_p2'
      rw [condT (by rw [decide_eq_true_eq]; omega), atX_nat hi', Option.bind_some, wrap_succ (by omega)]
    by_cases h20 : (l[i]).length ≤ 20
    · rw [show decide ((l[i]).length ≤ 20) = true from by rw [decide_eq_true_eq]; exact h20, Bool.true_and]
      refine .next ?_ K
      show law06_few_p2' _ _ = _
      rw [step, condF (by rw [decide_eq_false_iff_not]; omega)]
    · rw [show decide ((l[i]).length ≤ 20) = false from by rw [decide_eq_false_iff_not]; exact h20, Bool.false_and]
      refine .done ?_
      show law06_few_p2' _ _ = _
      rw [step, condT (by rw [decide_eq_true_eq]; omega)]

theorem few_iter {l : List (List Nat)} (hl : l.length ≤ 1000000) : Iter law06_few_step (.fn l) (few06 l) := by
  refine .next rfl ?_
  have := few_loop hl l.length 0 (by omega)
  exact this

theorem law06_few_is {h : AH} {t : Sl} {l : List (List Nat)} (m : Seq El.nats h t l) (hl : l.length ≤ 1000000) : Runs (go (.fn F.law06_few [t.v]) h) (law06_few_post h (few06 l)) := law06_few_opt m (runP_of (few_iter hl))

end Go.Ab

/- Layer 6: what a key does, its walk: printed by wip/tools/walk.py. -/
set_option linter.unusedVariables false
set_option linter.unusedSimpArgs false
set_option maxRecDepth 10000
namespace Go.Ab
open Go.Proofs Go.Num

inductive ref06_hidden_St
  | fn (x1 : List Nat) (x2 : List Nat)
  | no

abbrev ref06_hidden_Res := List Nat

noncomputable def ref06_hidden_fn' (x1 : List Nat) (x2 : List Nat) : Option (ref06_hidden_St ⊕ ref06_hidden_Res) :=
  (need (powOk x2 x1 (paillier_square' x1))).bind fun c4_0 => some (.inr (powN x2 x1 (paillier_square' x1)))

noncomputable def ref06_hidden_step : ref06_hidden_St → Option (ref06_hidden_St ⊕ ref06_hidden_Res)
  | .fn x1 x2 => ref06_hidden_fn' x1 x2
  | .no => none

inductive paillier_Encrypt_St
  | fn (x1 : List Nat) (x2 : List Nat) (x3 : List Nat)
  | no

abbrev paillier_Encrypt_Res := List Nat × Int

noncomputable def paillier_Encrypt_fn' (x1 : List Nat) (x2 : List Nat) (x3 : List Nat) : Option (paillier_Encrypt_St ⊕ paillier_Encrypt_Res) :=
  cond (!((paillier_May' x1))) (some (.inr ([], 1))) (cond (!((paillier_isPlain' x1 x2))) (some (.inr ([], 10))) (cond (!((paillier_alone' x3 x1 x1))) (some (.inr ([], 1))) ((need (powerOk x1 x3 x1)).bind fun c16_0 => some (.inr ((paillier_times' x1 (paillier_shown' x1 x2) (powN x3 x1 (paillier_square' x1))), 0)))))

noncomputable def paillier_Encrypt_step : paillier_Encrypt_St → Option (paillier_Encrypt_St ⊕ paillier_Encrypt_Res)
  | .fn x1 x2 x3 => paillier_Encrypt_fn' x1 x2 x3
  | .no => none

@[reducible] def paillier_Encrypt_post (h0 : AH) (r : paillier_Encrypt_Res) (v : AV) (h' : AH) : Prop := ∃ s1 : Sl, v = .tup [s1.v, .int .i64 r.2] ∧ Nats h' s1 r.1 ∧ Grow h0 h' ∧ Own h0 s1

def paillier_Encrypt_At (r : paillier_Encrypt_Res) : paillier_Encrypt_St → Prop
  | .fn x1 x2 x3 => ∀ {h : AH} {a1 : Sl} {a2 : Sl} {a3 : Sl}, Nats h a1 x1 → Nats h a2 x2 → Nats h a3 x3 → Runs (go (.fn F.paillier_Encrypt [a1.v, a2.v, a3.v]) h) (paillier_Encrypt_post h r)
  | .no => True

theorem paillier_Encrypt_fn_walk {r : paillier_Encrypt_Res} {o : paillier_Encrypt_St ⊕ paillier_Encrypt_Res} {x1 : List Nat} {x2 : List Nat} {x3 : List Nat} (e : paillier_Encrypt_fn' x1 x2 x3 = some o) (good : GoodS (paillier_Encrypt_At r) r o) : paillier_Encrypt_At r (.fn x1 x2 x3) := by
  intro h a1 a2 a3 n1 n2 n3
  rw [u_paillier_Encrypt]
  unfold paillier_Encrypt_fn' at e
  obtain ⟨_, H4, e4, rfl, g4⟩ := paillier_May_spec n1
  refine Runs.step e4 ?_
  refine Runs.step (seen rfl) ?_
  refine Runs.cond (fun k5 => ?_) (fun k5 => ?_)
  · replace e := (condT k5).symm.trans e
    cases e
    cases good
    exact Runs.ret ⟨(⟨none, 0, .is 0⟩ : Sl), rfl, (Nats.nil _), g4, (Own.nil _)⟩
  · replace e := (condF k5).symm.trans e
    obtain ⟨_, H6, e6, rfl, g6⟩ := paillier_isPlain_spec (n1.grow g4) (n2.grow g4)
    refine Runs.step e6 ?_
    refine Runs.step (seen rfl) ?_
    refine Runs.cond (fun k7 => ?_) (fun k7 => ?_)
    · replace e := (condT k7).symm.trans e
      cases e
      cases good
      exact Runs.ret ⟨(⟨none, 0, .is 0⟩ : Sl), rfl, (Nats.nil _), (g4.trans g6), (Own.nil _)⟩
    · replace e := (condF k7).symm.trans e
      obtain ⟨_, H8, e8, rfl, g8⟩ := paillier_alone_spec (n3.grow (g4.trans g6)) (n1.grow (g4.trans g6)) (n1.grow (g4.trans g6))
      refine Runs.step e8 ?_
      refine Runs.step (seen rfl) ?_
      refine Runs.cond (fun k9 => ?_) (fun k9 => ?_)
      · replace e := (condT k9).symm.trans e
        cases e
        cases good
        have G10 := ((g4.trans g6).trans g8)
        exact Runs.ret ⟨(⟨none, 0, .is 0⟩ : Sl), rfl, (Nats.nil _), G10, (Own.nil _)⟩
      · replace e := (condF k9).symm.trans e
        have G10 := ((g4.trans g6).trans g8)
        have n1_11 := n1.grow G10
        have n2_12 := n2.grow G10
        obtain ⟨_, H13, e13, s13, rfl, n13, g13, o13⟩ := paillier_shown_spec n1_11 n2_12
        refine Runs.step e13 ?_
        refine Runs.step (seen (asSl_v _)) ?_
        have G14 := (G10.trans g13)
        have n3_15 := n3.grow G14
        obtain ⟨c16_0, q16_0, e⟩ := Option.bind_eq_some_iff.1 e
        obtain ⟨_, H16, e16, s16, rfl, n16, g16, o16⟩ := paillier_power_need (n1_11.grow g13) n3_15 (n1_11.grow g13)  c16_0.down
        refine Runs.step e16 ?_
        refine Runs.step (seen (asSl_v _)) ?_
        obtain ⟨_, H17, e17, s17, rfl, n17, g17, o17⟩ := paillier_times_spec (n1_11.grow (g13.trans g16)) (n13.grow g16) n16
        refine Runs.step e17 ?_
        refine Runs.step (seen (asSl_v _)) ?_
        cases e
        cases good
        have G18 := (G14.trans g16)
        have G19 := (G18.trans g17)
        exact Runs.ret ⟨s17, rfl, n17, G19, (o17.of_le G18)⟩

theorem paillier_Encrypt_run {s : paillier_Encrypt_St} {r : paillier_Encrypt_Res} (it : Iter paillier_Encrypt_step s r) : paillier_Encrypt_At r s := Iter.ind (fun s o e good => by
  cases s with
  | fn x1 x2 x3 => exact @paillier_Encrypt_fn_walk _ _ x1 x2 x3 e good
  | no => exact True.intro
  ) it

theorem paillier_Encrypt_opt {h : AH} {a1 : Sl} {a2 : Sl} {a3 : Sl} {x1 : List Nat} {x2 : List Nat} {x3 : List Nat} (n1 : Nats h a1 x1) (n2 : Nats h a2 x2) (n3 : Nats h a3 x3) {r : paillier_Encrypt_Res} (q : runP paillier_Encrypt_step (.fn x1 x2 x3) = some r) : Runs (go (.fn F.paillier_Encrypt [a1.v, a2.v, a3.v]) h) (paillier_Encrypt_post h r) := paillier_Encrypt_run (runP_iter q) n1 n2 n3

inductive ref06_Encrypt_St
  | fn (x1 : List Nat) (x2 : List Nat) (x3 : List Nat)
  | no

abbrev ref06_Encrypt_Res := List Nat × Int

noncomputable def ref06_Encrypt_fn' (x1 : List Nat) (x2 : List Nat) (x3 : List Nat) : Option (ref06_Encrypt_St ⊕ ref06_Encrypt_Res) :=
  cond (!((paillier_May' x1))) (some (.inr ([], 1))) (cond (!((paillier_isPlain' x1 x2))) (some (.inr ([], 10))) (cond (!((paillier_alone' x3 x1 x1))) (some (.inr ([], 1))) ((runP ref06_hidden_step (.fn x1 x3)).bind fun p16 => some (.inr ((ref02_Times' (paillier_shown' x1 x2) p16 (paillier_square' x1)), 0)))))

noncomputable def ref06_Encrypt_step : ref06_Encrypt_St → Option (ref06_Encrypt_St ⊕ ref06_Encrypt_Res)
  | .fn x1 x2 x3 => ref06_Encrypt_fn' x1 x2 x3
  | .no => none

inductive law06_awake_St
  | fn 
  | no

abbrev law06_awake_Res := Bool

noncomputable def law06_awake_fn'  : Option (law06_awake_St ⊕ law06_awake_Res) :=
  (u64P 17947).bind fun w4 => (u64P 5).bind fun w5 => (u64P 1).bind fun w6 => (runP paillier_Encrypt_step (.fn [w4] [w5] [w6])).bind fun p7 => cond (decide ((p7.2) = 0)) (cond (decide ((List.length p7.1 : Int) = 1)) ((atI p7.1 0).bind fun y10 => some (.inr (decide (((y10 : Int)) = 89736)))) (some (.inr false))) (some (.inr false))

noncomputable def law06_awake_step : law06_awake_St → Option (law06_awake_St ⊕ law06_awake_Res)
  | .fn  => law06_awake_fn' 
  | .no => none

@[reducible] def law06_awake_post (h0 : AH) (r : law06_awake_Res) (v : AV) (h' : AH) : Prop := v = .bool r ∧ Grow h0 h'

def law06_awake_At (r : law06_awake_Res) : law06_awake_St → Prop
  | .fn  => ∀ {h : AH}, Runs (go (.fn F.law06_awake []) h) (law06_awake_post h r)
  | .no => True

theorem law06_awake_fn_walk {r : law06_awake_Res} {o : law06_awake_St ⊕ law06_awake_Res}  (e : law06_awake_fn'  = some o) (good : GoodS (law06_awake_At r) r o) : law06_awake_At r (.fn ) := by
  intro h
  rw [u_law06_awake]
  unfold law06_awake_fn' at e
  refine Runs.new fun H1 b1 g1 => ?_
  refine Runs.new fun H2 b2 g2 => ?_
  refine Runs.new fun H3 b3 g3 => ?_
  obtain ⟨w4, z4, e⟩ := Option.bind_eq_some_iff.1 e
  obtain ⟨w5, z5, e⟩ := Option.bind_eq_some_iff.1 e
  obtain ⟨w6, z6, e⟩ := Option.bind_eq_some_iff.1 e
  obtain ⟨p7, q7, e⟩ := Option.bind_eq_some_iff.1 e
  obtain ⟨_, H7, e7, s7, rfl, n7, g7, o7⟩ := paillier_Encrypt_opt (Nats.of_has1 ((g2.trans g3).has b1) z4) (Nats.of_has1 (g3.has b2) z5) (Nats.of_has1 b3 z6) q7
  refine Runs.step e7 ?_
  refine Runs.step rfl ?_
  refine Runs.step (seen (asSl_v _)) ?_
  rw [n7.len]
  refine Runs.step (seen (avInt_int _ _)) ?_
  refine Runs.cond (fun k8 => ?_) (fun k8 => ?_)
  · replace e := (condT k8).symm.trans e
    refine Runs.cond (fun k9 => ?_) (fun k9 => ?_)
    · replace e := (condT k9).symm.trans e
      obtain ⟨y10, q10, e⟩ := Option.bind_eq_some_iff.1 e
      obtain ⟨r10, j10, l10⟩ := n7.atI q10
      refine Runs.step j10 ?_
      refine Runs.step (rdc l10 (avInt_int _ _)) ?_
      cases e
      cases good
      have G11 := (((g1.trans g2).trans g3).trans g7)
      exact Runs.ret ⟨rfl, G11⟩
    · replace e := (condF k9).symm.trans e
      cases e
      cases good
      have G10 := (((g1.trans g2).trans g3).trans g7)
      exact Runs.ret ⟨rfl, G10⟩
  · replace e := (condF k8).symm.trans e
    cases e
    cases good
    have G9 := (((g1.trans g2).trans g3).trans g7)
    exact Runs.ret ⟨rfl, G9⟩

theorem law06_awake_run {s : law06_awake_St} {r : law06_awake_Res} (it : Iter law06_awake_step s r) : law06_awake_At r s := Iter.ind (fun s o e good => by
  cases s with
  | fn  => exact @law06_awake_fn_walk _ _  e good
  | no => exact True.intro
  ) it

end Go.Ab

/- Layer 6: what a key does, what it answers; the document's is the same. -/
set_option linter.unusedVariables false
set_option linter.unusedSimpArgs false
set_option maxRecDepth 10000
namespace Go.Ab
open Go.Proofs Go.Num

theorem cmpN_lt {xs ys : List Nat} (hx : rt xs = true) (hy : rt ys = true) (h : cmpN xs ys < 0) : num B xs < num B ys := by
  rw [cmpN_rt2 hx hy] at h
  unfold cmp at h
  split at h
  · assumption
  · split at h <;> simp at h

theorem alone_facts {cs ns bs : List Nat} (h : paillier_alone' cs ns bs = true) (hb : rt bs = true) : rt cs = true ∧ num B cs < num B bs := by
  unfold paillier_alone' at h
  cases hr : rt cs with
  | false => rw [hr] at h; cases h
  | true =>
    rw [hr] at h
    refine ⟨rfl, cmpN_lt hr hb ?_⟩
    simp only [Bool.not_true, cond_false] at h
    by_cases h0 : decide ((cs.length : Int) = 0) = true
    · rw [h0] at h; cases h
    · rw [Bool.not_eq_true] at h0
      rw [h0, cond_false] at h
      by_cases h1 : decide (cmpN cs bs ≥ 0) = true
      · rw [h1] at h; cases h
      · rw [decide_eq_true_eq] at h1
        omega

section
variable {ns xs es : List Nat} (ln : ∀ x ∈ ns, x < B) (le : ∀ x ∈ es, x < B)
include ln le

theorem pow_oks (m : paillier_May' ns = true) (hx : rt xs = true) (h1 : num B xs < num B ns * num B ns) (he : rt es = true) (h2 : num B es ≤ num B ns) : powerOk ns xs es ∧ powOk xs es (paillier_square' ns) := by
  obtain ⟨m1, m2, m3, m4⟩ := may_facts ln m
  obtain ⟨q1, q2, q3, q4⟩ := square_may ln m
  have h8 : es.length ≤ 8 := by
    have := (digs_len B2 (num B es) 8).2 (Nat.lt_of_le_of_lt h2 (Nat.lt_trans m4 (by decide)))
    rwa [digs_of_rt le he] at this
  have h3 : (paillier_square' ns).length ≤ 3 := by rw [q1]; exact (digs_len B2 _ 3).2 q2
  have hn : num B (paillier_square' ns) = num B ns * num B ns := by rw [q1, num_digs B2]
  refine ⟨⟨m, hx, h1, he, h8⟩, hx, he, ?_, by omega, by rw [hn]; exact q3, by rw [hn]; exact h1⟩
  rw [q1]
  exact rt_digs (Nat.lt_of_lt_of_le q2 (Nat.pow_le_pow_right (by decide) (by decide)))
end

section
variable {ns xs ys : List Nat} (ln : ∀ x ∈ ns, x < B) (lx : ∀ x ∈ xs, x < B) (ly : ∀ x ∈ ys, x < B)

theorem hide_oks (ln : ∀ x ∈ ns, x < B) (lx : ∀ x ∈ xs, x < B) (m : paillier_May' ns = true) (a : paillier_alone' xs ns ns = true) : powerOk ns xs ns ∧ powOk xs ns (paillier_square' ns) := by
  obtain ⟨m1, m2, m3, m4⟩ := may_facts ln m
  obtain ⟨a1, a2⟩ := alone_facts a m1
  refine pow_oks ln ln m a1 (Nat.lt_of_lt_of_le a2 ?_) m1 (Nat.le_refl _)
  have := Nat.mul_le_mul_left (num B ns) (show 1 ≤ num B ns by omega)
  omega

def encF (ns ms rs : List Nat) : List Nat × Int :=
  cond (!paillier_May' ns) ([], 1) (cond (!paillier_isPlain' ns ms) ([], 10) (cond (!paillier_alone' rs ns ns) ([], 1) (ref02_Times' (paillier_shown' ns ms) (powN rs ns (paillier_square' ns)) (paillier_square' ns), 0)))
include ln lx

theorem hidden_run (m : paillier_May' ns = true) (a : paillier_alone' xs ns ns = true) : runP ref06_hidden_step (.fn ns xs) = some (powN xs ns (paillier_square' ns)) := by
  refine runP_of (.done ?_)
  show ref06_hidden_fn' _ _ = _
  unfold ref06_hidden_fn'
  rw [need_of (hide_oks ln lx m a).2]
  rfl

theorem enc_iter (ms : List Nat) : Iter paillier_Encrypt_step (.fn ns ms xs) (encF ns ms xs) ∧ Iter ref06_Encrypt_step (.fn ns ms xs) (encF ns ms xs) := by
  refine ⟨.done ?_, .done ?_⟩
  · show paillier_Encrypt_fn' _ _ _ = _
    unfold paillier_Encrypt_fn' encF
    cases m : paillier_May' ns
    · rfl
    cases p : paillier_isPlain' ns ms
    · rfl
    cases a : paillier_alone' xs ns ns
    · rfl
    rw [need_of (hide_oks ln lx m a).1]
    rfl
  · show ref06_Encrypt_fn' _ _ _ = _
    unfold ref06_Encrypt_fn' encF
    cases m : paillier_May' ns
    · rfl
    cases p : paillier_isPlain' ns ms
    · rfl
    cases a : paillier_alone' xs ns ns
    · rfl
    rw [hidden_run ln lx m a]
    rfl

end

section
variable {h : AH} {s t u : Sl} {ns xs ys : List Nat} (n : Nats h s ns) (m : Nats h t xs) (k : Nats h u ys)
include n m k
end

end Go.Ab

/- Layer 6: 5, hidden behind 1. -/
set_option linter.unusedVariables false
set_option linter.unusedSimpArgs false
set_option maxRecDepth 10000
namespace Go.Ab
open Go.Proofs Go.Num

theorem enc_5 : encF [17947] [5] [1] = ([89736], 0) := by decide +kernel

theorem awake06 {h : AH} : ∃ h', go (.fn F.law06_awake []) h = some (.bool true, h') ∧ Grow h h' := by
  have it : Iter law06_awake_step .fn true := .done (by
    show law06_awake_fn' = _
    unfold law06_awake_fn'
    rw [show u64P 17947 = some 17947 from rfl, Option.bind_some, show u64P 5 = some 5 from rfl, Option.bind_some, show u64P 1 = some 1 from rfl, Option.bind_some, runP_of (enc_iter (by decide) (by decide) [5]).1, Option.bind_some, enc_5]
    rfl)
  obtain ⟨_, h', e, rfl, g⟩ := law06_awake_run it (h := h)
  exact ⟨h', e, g⟩

end Go.Ab

/- Layer 6: the laws, their walk: printed by wip/tools/walk.py. -/
set_option linter.unusedVariables false
set_option linter.unusedSimpArgs false
set_option maxRecDepth 10000
namespace Go.Ab
open Go.Proofs Go.Num

end Go.Ab

/- Layer 6: the laws Encrypts, Sums, Scales. -/
set_option linter.unusedVariables false
set_option linter.unusedSimpArgs false
set_option maxRecDepth 10000
namespace Go.Ab
open Go.Proofs Go.Num

end Go.Ab

/- Loops over functions: what a round makes of the loop's note. -/
set_option linter.unusedVariables false
set_option linter.unusedSimpArgs false
namespace Go.Ab

theorem AH.setBlk_get {h : AH} {l : Nat} {b : ABlk} (hl : l < h.blks.size) : (h.setBlk l b).blks[l]? = some b := by
  simp [AH.setBlk, hl]
theorem AH.setBlk_ne {h : AH} {l i : Nat} {b : ABlk} (hi : i ≠ l) : (h.setBlk l b).blks[i]? = h.blks[i]? := by
  simp only [AH.setBlk]
  rw [Array.getElem?_setIfInBounds_ne (fun e => hi e.symm)]
theorem AH.setBlk_size (h : AH) (l : Nat) (b : ABlk) : (h.setBlk l b).blks.size = h.blks.size := by simp [AH.setBlk]

theorem AH.setBlk_setBlk (h : AH) (l : Nat) (b c : ABlk) : (h.setBlk l b).setBlk l c = h.setBlk l c := by
  simp [AH.setBlk]
theorem AH.setBlk_same {h : AH} {l : Nat} {b : ABlk} (hb : h.blks[l]? = some b) : h.setBlk l b = h := by
  obtain ⟨hl, he⟩ := Array.getElem?_eq_some_iff.1 hb
  have : h.blks.setIfInBounds l b = h.blks := by
    apply Array.ext
    · simp
    · intro i h1 h2
      rw [Array.getElem_setIfInBounds]
      split
      · subst_vars; rfl
      · rfl
  unfold AH.setBlk
  rw [this]

theorem Grow.setBlk {h h1 : AH} (g : Grow h h1) {l : Nat} (hl : h.blks.size ≤ l) (b : ABlk) : Grow h (h1.setBlk l b) :=
  ⟨g.old, by rw [AH.setBlk_size]; exact g.size, fun i hi => by rw [AH.setBlk_ne (by omega)]; exact g.blk i hi⟩

/-- A round begins. -/
theorem beginA_is {h : AH} {l : Nat} {pe : Option Code} {f : FuncId} {fr : Fr} {ps : Array Tmp} {bs bd : Code} {d : Nat} (hb : h.blks[l]? = some (.loop .ready pe f fr ps bs bd d)) :
    beginA l h = some (h.setBlk l (.loop .busy pe f fr ps bs bd d)) := by
  simp only [beginA, hb]
/-- A round ends. -/
theorem endRoundA_is {h : AH} {l : Nat} {st : LoopState} {pe : Option Code} {f : FuncId} {fr : Fr} {ps : Array Tmp} {bs bd : Code} {d : Nat} (hb : h.blks[l]? = some (.loop st pe f fr ps bs bd d)) (j : Option Code) :
    endRoundA l j h = some (.bool j.isNone, h.setBlk l (.loop (cond j.isNone .ready .done) j f fr ps bs bd d)) := by
  simp only [endRoundA, hb]
theorem endLoopA_ready {h : AH} {l : Nat} {pe : Option Code} {f : FuncId} {fr : Fr} {ps : Array Tmp} {bs bd : Code} {d : Nat} (hb : h.blks[l]? = some (.loop .ready pe f fr ps bs bd d)) : endLoopA l h = some (pe, h.setBlk l .dead) := by
  simp only [endLoopA, hb]
  rfl
theorem endLoopA_done {h : AH} {l : Nat} {pe : Option Code} {f : FuncId} {fr : Fr} {ps : Array Tmp} {bs bd : Code} {d : Nat} (hb : h.blks[l]? = some (.loop .done pe f fr ps bs bd d)) : endLoopA l h = some (pe, h.setBlk l .dead) := by
  simp only [endLoopA, hb]
  rfl

theorem funcK_func {R : Type} {f : FuncId} {a c : List AV} {k : FuncId → List AV → List AV → Option R} : funcK (.func (.func f) a c) k = k f a c := rfl

theorem Runs.newM {P : AV → AH → Prop} {h : AH} {b : ABlk} {K : Nat → AH → Option (AV × AH)} (H : ∀ h', h'.blks[h.blks.size]? = some b → Grow h h' → Runs (K h.blks.size h') P) : Runs (newM h b K) P :=
  H _ (by simp [AH.alloc]) (Grow.push h _)
end Go.Ab

/- Numbers: rests, primes, the small theorem of Fermat; what a key of two primes hides. No program in sight. -/
set_option linter.unusedVariables false
set_option linter.unusedSimpArgs false
namespace Go.Num

def Cg (n a b : Nat) : Prop := a % n = b % n

theorem Cg.rfl {n a : Nat} : Cg n a a := Eq.refl _
theorem Cg.symm {n a b : Nat} (h : Cg n a b) : Cg n b a := Eq.symm h
theorem Cg.trans {n a b c : Nat} (h : Cg n a b) (k : Cg n b c) : Cg n a c := Eq.trans h k
theorem Cg.add {n a b c d : Nat} (h : Cg n a b) (k : Cg n c d) : Cg n (a + c) (b + d) := by
  unfold Cg at *
  rw [Nat.add_mod, h, k, ← Nat.add_mod]
theorem Cg.zero {n a : Nat} : Cg n (n * a) 0 := by unfold Cg; rw [Nat.mul_mod_right, Nat.zero_mod]
theorem Cg.add_mul {n a b : Nat} : Cg n (a + n * b) a := by unfold Cg; rw [Nat.add_mul_mod_self_left]
end Go.Num

/- Layer 5: the least divisor: plain. -/
set_option linter.unusedVariables false
set_option linter.unusedSimpArgs false
namespace Go.Num

/-- The least divisor above 1. -/
def Least (n d : Nat) : Prop := 2 ≤ d ∧ d ∣ n ∧ ∀ e, 2 ≤ e → e ∣ n → d ≤ e

theorem Least.uniq {n d e : Nat} (a : Least n d) (b : Least n e) : d = e := Nat.le_antisymm (a.2.2 e b.1 b.2.1) (b.2.2 d a.1 a.2.1)

theorem least_ex {n : Nat} (h : 2 ≤ n) : ∃ d, Least n d := by
  have key : ∀ k, (∃ d, d ≤ k ∧ 2 ≤ d ∧ d ∣ n) → ∃ d, Least n d := by
    intro k
    induction k with
    | zero => rintro ⟨d, h1, h2, _⟩; omega
    | succ k ih =>
      rintro ⟨d, h1, h2, h3⟩
      by_cases hk : ∃ e, e ≤ k ∧ 2 ≤ e ∧ e ∣ n
      · exact ih hk
      · refine ⟨d, h2, h3, fun e he hd => ?_⟩
        rcases Nat.lt_or_ge e d with h | h
        · exact absurd ⟨e, by omega, he, hd⟩ hk
        · exact h
  exact key n ⟨n, Nat.le_refl _, h, Nat.dvd_refl _⟩

noncomputable def leastN (n : Nat) : Nat := by
  classical
  exact if h : ∃ d, Least n d then h.choose else 0

theorem leastN_of {n d : Nat} (h : Least n d) : leastN n = d := by
  unfold leastN
  have hx : ∃ d, Least n d := ⟨d, h⟩
  rw [dif_pos hx]
  exact hx.choose_spec.uniq h

/-- Where no divisor is found up to the root, there is none. -/
theorem least_self {n : Nat} (h : 2 ≤ n) (no : ∀ e, 2 ≤ e → e * e ≤ n → ¬ e ∣ n) : Least n n := by
  obtain ⟨d, hd⟩ := least_ex h
  rcases Nat.lt_or_ge n (d * d) with hl | hl
  · obtain ⟨c, hc⟩ := hd.2.1
    have : c = 1 := by
      rcases Nat.lt_or_ge c 2 with h2 | h2
      · rcases Nat.eq_zero_or_pos c with h0 | h0
        · rw [h0] at hc; omega
        · omega
      · have h3 := hd.2.2 c h2 ⟨d, by rw [hc, Nat.mul_comm]⟩
        have : d * d ≤ d * c := Nat.mul_le_mul_left _ h3
        omega
    rw [this, Nat.mul_one] at hc
    rw [← hc] at hd
    exact hd
  · exact absurd hd.2.1 (no d hd.1 hl)

theorem least_of {n d : Nat} (h : 2 ≤ d) (hd : d ∣ n) (no : ∀ e, 2 ≤ e → e < d → ¬ e ∣ n) : Least n d := ⟨h, hd, fun e he hn => by
  rcases Nat.lt_or_ge e d with h' | h'
  · exact absurd hn (no e he h')
  · exact h'⟩

end Go.Num

/- Layer 5: the least divisor, by the program's wheel. -/
set_option linter.unusedVariables false
set_option linter.unusedSimpArgs false
set_option maxRecDepth 10000
namespace Go.Ab
open Go.Proofs Go.Num

section
variable {h : AH} {l i2 i3 n : Nat}

/-- The note of the loop in least. -/
noncomputable def lnote (st : LoopState) (pe : Option Code) (n i2 i3 : Nat) (g : AV) : ABlk := loopBlk Try.f37 F.prime_least 0 st pe [(0, .int .u64 (n : Int)), (1, .ptr (some (.new i2 0))), (2, .ptr (some (.new i3 0))), (4, .int .u64 (n : Int)), (5, g)]

/-- The heap once a divisor was found. -/
noncomputable def lfin (h : AH) (l n i2 i3 : Nat) (g : AV) (d : Nat) : AH := (h.upd i3 [.int .u64 (d : Int)] T.uint64).setBlk l (lnote .done (some .ret) n i2 i3 g)

theorem rdU {h : AH} {i : Nat} {x : Int} {e : TypeId} (b : h.has i [.int .u64 x] e) : (h.cell (.new i 0)).bind (AV.asInt .u64) = some x := b.rd0 rfl rfl

theorem wrapSq {d : Nat} (hd : d < 4294967296) : IntKind.wrap .u64 ((d : Int) * (d : Int)) = ((d * d : Nat) : Int) := by
  rw [← Int.natCast_mul, wrapU]
  have : d * d < 18446744073709551616 := Nat.lt_of_lt_of_le (Nat.mul_lt_mul'' hd hd) (by decide)
  omega

theorem round_least {g : AV} (hb : h.blks[l]? = some (lnote .ready none n i2 i3 g)) (b2 : h.has i2 [.int .u64 (n : Int)] T.uint64) (b3 : h.has i3 [.int .u64 0] T.uint64) {d : Nat} (hd : 0 < d) :
    go (.round l [.int .u64 (d : Int)]) h = if d ∣ n then some (.bool false, lfin h l n i2 i3 g d) else some (.bool true, h) := by
  have hl : l < h.blks.size := (Array.getElem?_eq_some_iff.1 hb).1
  have n2 : i2 ≠ l := fun e => by rw [e] at b2; rw [AH.has, hb] at b2; cases b2
  have n3 : i3 ≠ l := fun e => by rw [e] at b3; rw [AH.has, hb] at b3; cases b3
  rw [r_prime_least_0 l none _ _ _ _ _ _ _ hb, beginA_is (h := h) hb, Option.bind_some]
  generalize hq : h.setBlk l _ = h'
  have b2' : h'.has i2 [.int .u64 (n : Int)] T.uint64 := by rw [AH.has, ← hq, AH.setBlk_ne n2]; exact b2
  have b3' : h'.has i3 [.int .u64 0] T.uint64 := by rw [AH.has, ← hq, AH.setBlk_ne n3]; exact b3
  have bl : h'.blks[l]? = some (lnote .busy none n i2 i3 g) := by rw [← hq]; exact AH.setBlk_get hl
  rw [rdU b2', Option.bind_some, condF (by rw [decide_eq_false_iff_not]; omega)]
  have hmod : Int.tmod (n : Int) (d : Int) = ((n % d : Nat) : Int) := rfl
  rw [hmod]
  by_cases hdv : d ∣ n
  · rw [if_pos hdv, condT (by rw [decide_eq_true_eq, Nat.mod_eq_zero_of_dvd hdv]; rfl), b3'.puts_all (vs := [AV.int .u64 (d : Int)]) rfl, Option.bind_some]
    have hb4 : (h'.upd i3 [AV.int .u64 (d : Int)] T.uint64).blks[l]? = some (lnote .busy none n i2 i3 g) := by
      simp only [AH.upd]
      rw [Array.getElem?_setIfInBounds_ne n3]
      exact bl
    rw [endRoundA_is hb4]
    have e : (h'.upd i3 [AV.int .u64 (d : Int)] T.uint64) = (h.upd i3 [AV.int .u64 (d : Int)] T.uint64).setBlk l (lnote .busy none n i2 i3 g) := by
      rw [← hq]
      simp only [AH.upd, AH.setBlk]
      rw [Array.setIfInBounds_comm _ _ n3.symm]
      rfl
    rw [e, AH.setBlk_setBlk]
    rfl
  · rw [if_neg hdv, condF (by rw [decide_eq_false_iff_not]; intro e; exact hdv (Nat.dvd_of_mod_eq_zero (by omega))), endRoundA_is bl]
    rw [← hq, AH.setBlk_setBlk]
    show some (AV.bool true, h.setBlk l (lnote .ready none n i2 i3 g)) = _
    rw [AH.setBlk_same hb]

/-- No divisor was found up to d, or the least one was. -/
def Found (h : AH) (l n i2 i3 : Nat) (g : AV) (x : Option (AV × AH)) : Prop := (x = some (.tup [], h) ∧ Least n n) ∨ x = some (.tup [], lfin h l n i2 i3 g (leastN n))

theorem wheel {g : AV} (h2n : 2 ≤ n) (hn : n < 1099511627776) (hb : h.blks[l]? = some (lnote .ready none n i2 i3 g)) (b2 : h.has i2 [.int .u64 (n : Int)] T.uint64) (b3 : h.has i3 [.int .u64 0] T.uint64) {j2 : Nat} (c2 : h.has j2 [.int .u64 (n : Int)] T.uint64) :
    ∀ k d, 1048600 ≤ d + 6 * k → d ≤ 1048600 → 5 ≤ d → d % 6 = 5 → (∀ e, 2 ≤ e → e < d → ¬ e ∣ n) → Found h l n i2 i3 g (go (.pt F.prime_divisors_1 Td.prime_divisors_1_6 [(0, .func (.yield l) [] []), (1, .ptr (some (.new j2 0))), (5, .int .u64 (d : Int))]) h) := by
  intro k
  induction k with
  | zero =>
    intro d h1 h2 h5 h6 no
    rw [p_prime_divisors_1_6, rdU c2, Option.bind_some, wrapSq (by omega)]
    have : 1048600 * 1048600 ≤ d * d := Nat.mul_le_mul (by omega) (by omega)
    rw [condF (by rw [decide_eq_false_iff_not]; omega)]
    refine .inl ⟨rfl, least_self h2n fun e he hee => ?_⟩
    exact no e he (by
      rcases Nat.lt_or_ge e d with h | h
      · exact h
      · have : d * d ≤ e * e := Nat.mul_le_mul h h
        omega)
  | succ k ih =>
    intro d h1 h2 h5 h6 no
    rw [p_prime_divisors_1_6, rdU c2, Option.bind_some, wrapSq (by omega)]
    by_cases hdd : d * d ≤ n
    · rw [condT (by rw [decide_eq_true_eq]; omega), round_least hb b2 b3 (by omega)]
      have hd20 : d < 1048576 := by
        rcases Nat.lt_or_ge d 1048576 with h | h
        · exact h
        · have : 1048576 * 1048576 ≤ d * d := Nat.mul_le_mul h h
          omega
      by_cases hdv : d ∣ n
      · rw [if_pos hdv, Option.bind_some]
        refine .inr ?_
        rw [leastN_of (least_of (by omega) hdv no)]
        rfl
      · rw [if_neg hdv, Option.bind_some]
        show Found h l n i2 i3 g (((h.cell (.new j2 0)).bind (AV.asInt .u64)).bind _)
        rw [rdU c2, Option.bind_some]
        have w2 : IntKind.wrap .u64 ((d : Int) + 2) = ((d + 2 : Nat) : Int) := by
          rw [show ((d : Int) + 2) = ((d + 2 : Nat) : Int) from by omega, wrapU]; omega
        have w6 : IntKind.wrap .u64 ((d : Int) + 6) = ((d + 6 : Nat) : Int) := by
          rw [show ((d : Int) + 6) = ((d + 6 : Nat) : Int) from by omega, wrapU]; omega
        rw [w2, w6, wrapSq (by omega)]
        -- what is between is divided by 2 or 3
        have even : ∀ e, e % 2 = 0 → ¬ e ∣ n := fun e he hv => no 2 (by omega) (by omega) (Nat.dvd_trans (Nat.dvd_of_mod_eq_zero he) hv)
        have three : ∀ e, e % 3 = 0 → ¬ e ∣ n := fun e he hv => no 3 (by omega) (by omega) (Nat.dvd_trans (Nat.dvd_of_mod_eq_zero he) hv)
        have no2 : ∀ e, 2 ≤ e → e < d + 2 → ¬ e ∣ n := fun e he hl hv => by
          rcases Nat.lt_or_ge e d with h | h
          · exact no e he h hv
          · rcases Nat.lt_or_ge d e with h' | h'
            · exact even e (by omega) hv
            · have : e = d := by omega
              subst this
              exact hdv hv
        by_cases hd2 : (d + 2) * (d + 2) ≤ n
        · rw [condT (by rw [decide_eq_true_eq]; omega), round_least hb b2 b3 (by omega)]
          by_cases hdv2 : d + 2 ∣ n
          · rw [if_pos hdv2, Option.bind_some]
            refine .inr ?_
            rw [leastN_of (least_of (by omega) hdv2 no2)]
            rfl
          · rw [if_neg hdv2, Option.bind_some]
            refine ih (d + 6) (by omega) (by omega) (by omega) (by omega) fun e he hl hv => ?_
            rcases Nat.lt_or_ge e (d + 2) with h | h
            · exact no2 e he h hv
            · have : e = d + 2 ∨ e = d + 3 ∨ e = d + 4 ∨ e = d + 5 := by omega
              rcases this with rfl | rfl | rfl | rfl
              · exact hdv2 hv
              · exact even _ (by omega) hv
              · exact three _ (by omega) hv
              · exact even _ (by omega) hv
        · rw [condF (by rw [decide_eq_false_iff_not]; omega)]
          -- the root is passed
          have self : Least n n := least_self h2n fun e he hee hv => by
            rcases Nat.lt_or_ge e (d + 2) with h | h
            · exact no2 e he h hv
            · have : (d + 2) * (d + 2) ≤ e * e := Nat.mul_le_mul h h
              omega
          refine .inl ⟨?_, self⟩
          rw [p_prime_divisors_1_6, rdU c2, Option.bind_some, wrapSq (by omega)]
          have : (d + 2) * (d + 2) ≤ (d + 6) * (d + 6) := Nat.mul_le_mul (by omega) (by omega)
          rw [condF (by rw [decide_eq_false_iff_not]; omega)]
    · rw [condF (by rw [decide_eq_false_iff_not]; omega)]
      refine .inl ⟨rfl, least_self h2n fun e he hee hv => ?_⟩
      rcases Nat.lt_or_ge e d with h | h
      · exact no e he h hv
      · have : d * d ≤ e * e := Nat.mul_le_mul h h
        omega

theorem small {g : AV} (h2n : 2 ≤ n) (hn : n < 1099511627776) (hb : h.blks[l]? = some (lnote .ready none n i2 i3 g)) (b2 : h.has i2 [.int .u64 (n : Int)] T.uint64) (b3 : h.has i3 [.int .u64 0] T.uint64) {j2 j : Nat} (c2 : h.has j2 [.int .u64 (n : Int)] T.uint64) (cj : h.has j [.int .u64 2, .int .u64 3] T.uint64) :
    Found h l n i2 i3 g (go (.pt F.prime_divisors_1 Td.prime_divisors_1_1 [(0, .func (.yield l) [] []), (1, .ptr (some (.new j2 0))), (6, (⟨some (.new j 0), 2, .is 2⟩ : Sl).v), (7, .int .i64 2), (8, .int .i64 0)]) h) := by
  have r2 := round_least (d := 2) hb b2 b3 (by decide)
  have r3 := round_least (d := 3) hb b2 b3 (by decide)
  have e0 : idx (⟨some (.new j 0), 2, .is 2⟩ : Sl).ref (⟨some (.new j 0), 2, .is 2⟩ : Sl).len 0 1 = some (.new j 0) := rfl
  have e1 : idx (⟨some (.new j 0), 2, .is 2⟩ : Sl).ref (⟨some (.new j 0), 2, .is 2⟩ : Sl).len 1 1 = some (.new j 1) := rfl
  have l0 : (h.cell (Ref.new j 0)).bind (AV.asInt .u64) = some 2 := by rw [cj.cell]; rfl
  have l1 : (h.cell (Ref.new j 1)).bind (AV.asInt .u64) = some 3 := by rw [cj.cell]; rfl
  have w4 : IntKind.wrap .u64 ((2 : Int) * 2) = 4 := by decide
  have w9 : IntKind.wrap .u64 ((3 : Int) * 3) = 9 := by decide
  have i1 : IntKind.wrap .i64 ((0 : Int) + 1) = 1 := by decide
  have i2' : IntKind.wrap .i64 ((1 : Int) + 1) = 2 := by decide
  rw [p_prime_divisors_1_1, condT (show decide ((0 : Int) < 2) = true from rfl), e0, Option.bind_some, l0, Option.bind_some, rdU c2, Option.bind_some, w4]
  by_cases h4 : n < 4
  · rw [condT (by rw [decide_eq_true_eq]; omega)]
    refine .inl ⟨rfl, least_self h2n fun e he hee => ?_⟩
    have : 2 * 2 ≤ e * e := Nat.mul_le_mul he he
    omega
  · rw [condF (by rw [decide_eq_false_iff_not]; omega), show (2 : Int) = ((2 : Nat) : Int) from rfl, r2]
    by_cases d2 : 2 ∣ n
    · rw [if_pos d2, Option.bind_some]
      refine .inr ?_
      rw [leastN_of (d := 2) (least_of (by decide) d2 fun e h1 h2 => by omega)]
      rfl
    · rw [if_neg d2, Option.bind_some]
      show Found h l n i2 i3 g (go (.pt F.prime_divisors_1 Td.prime_divisors_1_1 [(0, .func (.yield l) [] []), (1, .ptr (some (.new j2 0))), (6, (⟨some (.new j 0), 2, .is 2⟩ : Sl).v), (7, .int .i64 2), (8, .int .i64 (IntKind.wrap .i64 ((0 : Int) + 1)))]) h)
      rw [i1, p_prime_divisors_1_1, condT (show decide ((1 : Int) < 2) = true from rfl), e1, Option.bind_some, l1, Option.bind_some, rdU c2, Option.bind_some, w9]
      by_cases h9 : n < 9
      · rw [condT (by rw [decide_eq_true_eq]; omega)]
        refine .inl ⟨rfl, least_self h2n fun e he hee => ?_⟩
        rcases Nat.lt_or_ge e 3 with h | h
        · have : e = 2 := by omega
          subst this
          exact d2
        · have : 3 * 3 ≤ e * e := Nat.mul_le_mul h h
          omega
      · rw [condF (by rw [decide_eq_false_iff_not]; omega), show (3 : Int) = ((3 : Nat) : Int) from rfl, r3]
        by_cases d3 : 3 ∣ n
        · rw [if_pos d3, Option.bind_some]
          refine .inr ?_
          rw [leastN_of (d := 3) (least_of (by decide) d3 fun e h1 h2 => by have : e = 2 := by omega
                                                                            subst this
                                                                            exact d2)]
          rfl
        · rw [if_neg d3, Option.bind_some]
          show Found h l n i2 i3 g (go (.pt F.prime_divisors_1 Td.prime_divisors_1_1 [(0, .func (.yield l) [] []), (1, .ptr (some (.new j2 0))), (6, (⟨some (.new j 0), 2, .is 2⟩ : Sl).v), (7, .int .i64 2), (8, .int .i64 (IntKind.wrap .i64 ((1 : Int) + 1)))]) h)
          rw [i2', p_prime_divisors_1_1, condF (show decide ((2 : Int) < 2) = false from rfl)]
          refine wheel h2n hn hb b2 b3 c2 174766 5 (by omega) (by omega) (by omega) (by omega) fun e h1 h2 hv => ?_
          have : e = 2 ∨ e = 3 ∨ e = 4 := by omega
          rcases this with rfl | rfl | rfl
          · exact d2 hv
          · exact d3 hv
          · exact d2 (Nat.dvd_trans (by decide) hv)
end

theorem a_none {a1 : Int} {a2 a3 : Ref} {a4 : Int} {a5 : AV} {h : AH} : go (.pt F.prime_least (((none : Option Code).map Item.code).toList ++ Ta.prime_least_0) [(0, .int .u64 a1), (1, .ptr (some a2)), (2, .ptr (some a3)), (4, .int .u64 a4), (5, a5)]) h =
  ((h.cell a2).bind (AV.asInt .u64)).bind fun n6 => (h.puts a3 [.int .u64 n6]).bind fun h7 => ((h7.cell a3).bind (AV.asInt .u64)).bind fun n8 => some (.int .u64 n8, h7) := a_prime_least_0_none a1 a2 a3 a4 a5 h

/-- The least divisor above 1, by the wheel. -/
theorem prime_least_is {n : Nat} (h2n : 2 ≤ n) (hn : n < 1099511627776) (h : AH) : Runs (go (.fn F.prime_least [.int .u64 (n : Int)]) h) fun v h' => v = .int .u64 ((leastN n : Nat) : Int) ∧ Grow h h' := by
  rw [u_prime_least]
  refine Runs.new fun h1 b1 g1 => Runs.new fun h2 b2 g2 => ?_
  have b1' := g2.has b1
  refine Runs.step (rdU b1') ?_
  rw [u_prime_divisors]
  show Runs (newK h2 (.cells [.int .u64 (n : Int)] T.uint64) fun h2r h3 => go (.pt F.prime_least Tr.prime_least_0 [(0, .int .u64 (n : Int)), (1, .ptr (some (.new h.blks.size 0))), (2, .ptr (some (.new h1.blks.size 0))), (4, .int .u64 (n : Int)), (5, .func (.func F.prime_divisors_1) [] [.ptr (some h2r)])]) h3) _
  refine Runs.new fun h3 b3 g3 => ?_
  rw [l_prime_least_0, funcK_func]
  refine Runs.newM fun h4 hb g4 => ?_
  rw [callF_prime_divisors_1]
  have c1 : h4.has h.blks.size [.int .u64 (n : Int)] T.uint64 := g4.has (g3.has b1')
  have c2 : h4.has h1.blks.size [.int .u64 0] T.uint64 := g4.has (g3.has b2)
  have c3 : h4.has h2.blks.size [.int .u64 (n : Int)] T.uint64 := g4.has b3
  have hs1 : h.blks.size < h1.blks.size := b1.lt
  have hs2 : h1.blks.size < h2.blks.size := b2.lt
  have hs3 : h2.blks.size < h3.blks.size := b3.lt
  have hs4 : h3.blks.size < h4.blks.size := (Array.getElem?_eq_some_iff.1 hb).1
  have gA : Grow h h4 := ((g1.trans g2).trans g3).trans g4
  generalize hg : (AV.func (.func F.prime_divisors_1) [] [AV.ptr (some (Ref.new h2.blks.size 0))]) = gv at hb
  show Runs ((go (.fn F.prime_divisors_1 [.func (.yield h3.blks.size) [] [], .ptr (some (.new h2.blks.size 0))]) h4).bind _) _
  rw [u_prime_divisors_1]
  generalize hK : (fun q8 : AV × AH => (endLoopA h3.blks.size q8.2).bind fun p9 => go (.pt F.prime_least ((p9.1.map Item.code).toList ++ Ta.prime_least_0) [(0, .int .u64 (n : Int)), (1, .ptr (some (.new h.blks.size 0))), (2, .ptr (some (.new h1.blks.size 0))), (4, .int .u64 (n : Int)), (5, gv)]) p9.2) = K
  show Runs ((newK h4 (.cells [.int .u64 2, .int .u64 3] T.uint64) fun h3r h5 => (go (.pt F.prime_divisors_1 Td.prime_divisors_1_1 [(0, .func (.yield h3.blks.size) [] []), (1, .ptr (some (.new h2.blks.size 0))), (6, (⟨some h3r, 2, .is 2⟩ : Sl).v), (7, .int .i64 2), (8, .int .i64 0)]) h5).bind K)) _
  refine Runs.new fun h5 b5 g5 => ?_
  have hb5 : h5.blks[h3.blks.size]? = some (lnote .ready none n h.blks.size h1.blks.size gv) := (g5.blk _ hs4).trans hb
  have gB := gA.trans g5
  rcases small h2n hn hb5 (g5.has c1) (g5.has c2) (g5.has c3) b5 with ⟨e, hl⟩ | e
  · rw [e, ← hK]
    show Runs ((endLoopA h3.blks.size h5).bind _) _
    rw [endLoopA_ready hb5, Option.bind_some, a_none]
    have d1 : (h5.setBlk h3.blks.size .dead).has h.blks.size [.int .u64 (n : Int)] T.uint64 := by rw [AH.has, AH.setBlk_ne (by omega)]; exact g5.has c1
    have d2 : (h5.setBlk h3.blks.size .dead).has h1.blks.size [.int .u64 0] T.uint64 := by rw [AH.has, AH.setBlk_ne (by omega)]; exact g5.has c2
    refine Runs.step (rdU d1) (Runs.puts d2 rfl fun h6 b6 u6 => Runs.step (rdU b6) (Runs.ret ⟨by rw [leastN_of hl], ?_⟩))
    exact (gB.setBlk (l := h3.blks.size) (by omega) .dead).updr (by omega) u6
  · rw [e, ← hK]
    have f1 : (lfin h5 h3.blks.size n h.blks.size h1.blks.size gv (leastN n)).blks[h3.blks.size]? = some (lnote .done (some .ret) n h.blks.size h1.blks.size gv) := AH.setBlk_get (by simp only [AH.upd]; simp; exact (Array.getElem?_eq_some_iff.1 hb5).1)
    show Runs ((endLoopA h3.blks.size _).bind _) _
    rw [endLoopA_done f1, Option.bind_some, a_prime_least_0_ret]
    have f2 : ((lfin h5 h3.blks.size n h.blks.size h1.blks.size gv (leastN n)).setBlk h3.blks.size .dead).has h1.blks.size [.int .u64 ((leastN n : Nat) : Int)] T.uint64 := by
      rw [AH.has, AH.setBlk_ne (by omega)]
      unfold lfin
      rw [AH.setBlk_ne (by omega)]
      exact AH.has_upd (g5.has c2) _ _
    refine Runs.step (rdU f2) (Runs.ret ⟨rfl, ?_⟩)
    exact ((gB.upd (by omega) _ _).setBlk (by omega) _).setBlk (by omega) _

/-- The least divisor above 1, by trying all. -/
theorem ref05_least_is {n : Nat} (h2n : 2 ≤ n) (hn : n < 1099511627776) (h : AH) : go (.fn F.ref05_least [.int .u64 (n : Int)]) h = some (.int .u64 ((leastN n : Nat) : Int), h) := by
  rw [u_ref05_least]
  have key : ∀ k d, 1048600 ≤ d + k → d ≤ 1048600 → 2 ≤ d → (∀ e, 2 ≤ e → e < d → ¬ e ∣ n) → go (.pt F.ref05_least Td.ref05_least_2 [(0, .int .u64 (n : Int)), (3, .int .u64 (d : Int))]) h = some (.int .u64 ((leastN n : Nat) : Int), h) := by
    intro k
    induction k with
    | zero =>
      intro d h1 h2 h3 no
      have : 1048600 * 1048600 ≤ d * d := Nat.mul_le_mul (by omega) (by omega)
      rw [p_ref05_least_2, wrapSq (by omega), condF (by rw [decide_eq_false_iff_not]; omega), leastN_of (least_self h2n fun e he hee => no e he (by
        rcases Nat.lt_or_ge e d with h | h
        · exact h
        · have : d * d ≤ e * e := Nat.mul_le_mul h h
          omega))]
    | succ k ih =>
      intro d h1 h2 h3 no
      rw [p_ref05_least_2, wrapSq (by omega)]
      by_cases hdd : d * d ≤ n
      · have hmod : Int.tmod (n : Int) (d : Int) = ((n % d : Nat) : Int) := rfl
        rw [condT (by rw [decide_eq_true_eq]; omega), condF (by rw [decide_eq_false_iff_not]; omega), hmod]
        by_cases hdv : d ∣ n
        · rw [condT (by rw [decide_eq_true_eq, Nat.mod_eq_zero_of_dvd hdv]; rfl), leastN_of (least_of h3 hdv no)]
        · have hd20 : d < 1048576 := by
            rcases Nat.lt_or_ge d 1048576 with h | h
            · exact h
            · have : 1048576 * 1048576 ≤ d * d := Nat.mul_le_mul h h
              omega
          have w1 : IntKind.wrap .u64 ((d : Int) + 1) = ((d + 1 : Nat) : Int) := by
            rw [show ((d : Int) + 1) = ((d + 1 : Nat) : Int) from by omega, wrapU]; omega
          rw [condF (by rw [decide_eq_false_iff_not]; intro e; exact hdv (Nat.dvd_of_mod_eq_zero (by omega))), w1]
          refine ih (d + 1) (by omega) (by omega) (by omega) fun e he hl hv => ?_
          rcases Nat.lt_or_ge e d with h | h
          · exact no e he h hv
          · have : e = d := by omega
            subst this
            exact hdv hv
      · rw [condF (by rw [decide_eq_false_iff_not]; omega), leastN_of (least_self h2n fun e he hee => no e he (by
          rcases Nat.lt_or_ge e d with h | h
          · exact h
          · have : d * d ≤ e * e := Nat.mul_le_mul h h
            omega))]
  exact key 1048598 2 (by omega) (by omega) (by omega) fun e h1 h2 => by omega
end Go.Ab

/- Layer 5: keys, their walk: printed by wip/tools/walk.py. -/
set_option linter.unusedVariables false
set_option linter.unusedSimpArgs false
set_option maxRecDepth 10000
namespace Go.Ab
open Go.Proofs Go.Num

theorem prime_least_need {a : Int} {h : AH} (c : (2 : Int) ≤ a ∧ a < 1099511627776) : Runs (go (.fn F.prime_least [.int .u64 a]) h) fun v h' => v = .int .u64 ((leastN (Int.toNat a) : Nat) : Int) ∧ Grow h h' := by
  obtain ⟨x, rfl⟩ : ∃ x : Nat, a = (x : Int) := ⟨a.toNat, by omega⟩
  exact prime_least_is (by omega) (by omega) h

theorem ref05_least_need {a : Int} {h : AH} (c : (2 : Int) ≤ a ∧ a < 1099511627776) : go (.fn F.ref05_least [.int .u64 a]) h = some (.int .u64 ((leastN (Int.toNat a) : Nat) : Int), h) := by
  obtain ⟨x, rfl⟩ : ∃ x : Nat, a = (x : Int) := ⟨a.toNat, by omega⟩
  exact ref05_least_is (by omega) (by omega) h


inductive prime_Check_1_St
  | fn (a1 : Int)
  | no

abbrev prime_Check_1_Res := Bool

noncomputable def prime_Check_1_fn' (a1 : Int) : Option (prime_Check_1_St ⊕ prime_Check_1_Res) :=
  cond (decide (a1 < 128)) (some (.inr true)) (cond (decide (a1 ≥ 1099511627776)) (some (.inr true)) ((need ((2 : Int) ≤ a1 ∧ a1 < 1099511627776)).bind fun c4_0 => some (.inr (!decide ((((leastN (Int.toNat a1) : Nat) : Int)) = a1)))))

noncomputable def prime_Check_1_step : prime_Check_1_St → Option (prime_Check_1_St ⊕ prime_Check_1_Res)
  | .fn a1 => prime_Check_1_fn' a1
  | .no => none

@[reducible] def prime_Check_1_post (h0 : AH) (r : prime_Check_1_Res) (v : AV) (h' : AH) : Prop := v = .bool r ∧ Grow h0 h'

def prime_Check_1_At (r : prime_Check_1_Res) : prime_Check_1_St → Prop
  | .fn a1 => ∀ {h : AH}, Runs (go (.fn F.prime_Check_1 [.int .u64 a1]) h) (prime_Check_1_post h r)
  | .no => True

theorem prime_Check_1_fn_walk {r : prime_Check_1_Res} {o : prime_Check_1_St ⊕ prime_Check_1_Res} {a1 : Int} (e : prime_Check_1_fn' a1 = some o) (good : GoodS (prime_Check_1_At r) r o) : prime_Check_1_At r (.fn a1) := by
  intro h
  rw [u_prime_Check_1]
  unfold prime_Check_1_fn' at e
  refine Runs.cond (fun k2 => ?_) (fun k2 => ?_)
  · replace e := (condT k2).symm.trans e
    cases e
    cases good
    exact Runs.ret ⟨rfl, (Grow.refl _)⟩
  · replace e := (condF k2).symm.trans e
    refine Runs.cond (fun k3 => ?_) (fun k3 => ?_)
    · replace e := (condT k3).symm.trans e
      cases e
      cases good
      exact Runs.ret ⟨rfl, (Grow.refl _)⟩
    · replace e := (condF k3).symm.trans e
      obtain ⟨c4_0, q4_0, e⟩ := Option.bind_eq_some_iff.1 e
      obtain ⟨_, H4, e4, rfl, g4⟩ := prime_least_need  c4_0.down
      refine Runs.step e4 ?_
      refine Runs.step (seen (avInt_int _ _)) ?_
      cases e
      cases good
      exact Runs.ret ⟨rfl, g4⟩

theorem prime_Check_1_run {s : prime_Check_1_St} {r : prime_Check_1_Res} (it : Iter prime_Check_1_step s r) : prime_Check_1_At r s := Iter.ind (fun s o e good => by
  cases s with
  | fn a1 => exact @prime_Check_1_fn_walk _ _ a1 e good
  | no => exact True.intro
  ) it

theorem prime_Check_1_opt {h : AH} {a1 : Int}  {r : prime_Check_1_Res} (q : runP prime_Check_1_step (.fn a1) = some r) : Runs (go (.fn F.prime_Check_1 [.int .u64 a1]) h) (prime_Check_1_post h r) := prime_Check_1_run (runP_iter q) 

inductive ref01_Small_St
  | fn (x1 : List Nat)
  | no

abbrev ref01_Small_Res := Int × Bool

noncomputable def ref01_Small_fn' (x1 : List Nat) : Option (ref01_Small_St ⊕ ref01_Small_Res) :=
  cond (!(rt x1)) (some (.inr (0, false))) (cond (decide ((List.length x1 : Int) > 1)) (some (.inr (0, false))) (cond (decide ((List.length x1 : Int) = 0)) (some (.inr (0, true))) ((atI x1 0).bind fun y6 => some (.inr (((y6 : Int)), true)))))

noncomputable def ref01_Small_step : ref01_Small_St → Option (ref01_Small_St ⊕ ref01_Small_Res)
  | .fn x1 => ref01_Small_fn' x1
  | .no => none

@[reducible] def ref01_Small_post (h0 : AH) (r : ref01_Small_Res) (v : AV) (h' : AH) : Prop := v = .tup [.int .u64 r.1, .bool r.2] ∧ Grow h0 h'

def ref01_Small_At (r : ref01_Small_Res) : ref01_Small_St → Prop
  | .fn x1 => ∀ {h : AH} {a1 : Sl}, Nats h a1 x1 → Runs (go (.fn F.ref01_Small [a1.v]) h) (ref01_Small_post h r)
  | .no => True

theorem ref01_Small_fn_walk {r : ref01_Small_Res} {o : ref01_Small_St ⊕ ref01_Small_Res} {x1 : List Nat} (e : ref01_Small_fn' x1 = some o) (good : GoodS (ref01_Small_At r) r o) : ref01_Small_At r (.fn x1) := by
  intro h a1 n1
  rw [u_ref01_Small]
  unfold ref01_Small_fn' at e
  rw [n1.len]
  refine Runs.step (ref01_Right_spec n1) ?_
  refine Runs.step (seen rfl) ?_
  refine Runs.cond (fun k3 => ?_) (fun k3 => ?_)
  · replace e := (condT k3).symm.trans e
    cases e
    cases good
    exact Runs.ret ⟨rfl, (Grow.refl _)⟩
  · replace e := (condF k3).symm.trans e
    refine Runs.cond (fun k4 => ?_) (fun k4 => ?_)
    · replace e := (condT k4).symm.trans e
      cases e
      cases good
      exact Runs.ret ⟨rfl, (Grow.refl _)⟩
    · replace e := (condF k4).symm.trans e
      refine Runs.cond (fun k5 => ?_) (fun k5 => ?_)
      · replace e := (condT k5).symm.trans e
        cases e
        cases good
        exact Runs.ret ⟨rfl, (Grow.refl _)⟩
      · replace e := (condF k5).symm.trans e
        obtain ⟨y6, q6, e⟩ := Option.bind_eq_some_iff.1 e
        obtain ⟨r6, j6, l6⟩ := n1.atI q6
        refine Runs.step j6 ?_
        refine Runs.step (rdc l6 (avInt_int _ _)) ?_
        cases e
        cases good
        exact Runs.ret ⟨rfl, (Grow.refl _)⟩

theorem ref01_Small_run {s : ref01_Small_St} {r : ref01_Small_Res} (it : Iter ref01_Small_step s r) : ref01_Small_At r s := Iter.ind (fun s o e good => by
  cases s with
  | fn x1 => exact @ref01_Small_fn_walk _ _ x1 e good
  | no => exact True.intro
  ) it

theorem ref01_Small_opt {h : AH} {a1 : Sl} {x1 : List Nat} (n1 : Nats h a1 x1) {r : ref01_Small_Res} (q : runP ref01_Small_step (.fn x1) = some r) : Runs (go (.fn F.ref01_Small [a1.v]) h) (ref01_Small_post h r) := ref01_Small_run (runP_iter q) n1

inductive ref05_bits_St
  | fn (a1 : Int)
  | no

abbrev ref05_bits_Res := Int

noncomputable def ref05_bits_fn' (a1 : Int) : Option (ref05_bits_St ⊕ ref05_bits_Res) :=
  (u64P a1).bind fun p2 => some (.inr (((bitsN (digs B p2) : Nat) : Int)))

noncomputable def ref05_bits_step : ref05_bits_St → Option (ref05_bits_St ⊕ ref05_bits_Res)
  | .fn a1 => ref05_bits_fn' a1
  | .no => none

@[reducible] def ref05_bits_post (h0 : AH) (r : ref05_bits_Res) (v : AV) (h' : AH) : Prop := v = .int .i64 r ∧ Grow h0 h'

def ref05_bits_At (r : ref05_bits_Res) : ref05_bits_St → Prop
  | .fn a1 => ∀ {h : AH}, Runs (go (.fn F.ref05_bits [.int .u64 a1]) h) (ref05_bits_post h r)
  | .no => True

theorem ref05_bits_fn_walk {r : ref05_bits_Res} {o : ref05_bits_St ⊕ ref05_bits_Res} {a1 : Int} (e : ref05_bits_fn' a1 = some o) (good : GoodS (ref05_bits_At r) r o) : ref05_bits_At r (.fn a1) := by
  intro h
  rw [u_ref05_bits]
  unfold ref05_bits_fn' at e
  obtain ⟨p2, q2, e⟩ := Option.bind_eq_some_iff.1 e
  obtain ⟨s2, H2, e2, n2, g2, o2⟩ := ref01_Of_opt q2
  refine Runs.step e2 ?_
  refine Runs.step (seen (asSl_v _)) ?_
  obtain ⟨_, H3, e3, rfl, g3⟩ := ref01_Bits_is n2
  refine Runs.step e3 ?_
  refine Runs.step (seen (avInt_int _ _)) ?_
  cases e
  cases good
  exact Runs.ret ⟨rfl, (g2.trans g3)⟩

theorem ref05_bits_run {s : ref05_bits_St} {r : ref05_bits_Res} (it : Iter ref05_bits_step s r) : ref05_bits_At r s := Iter.ind (fun s o e good => by
  cases s with
  | fn a1 => exact @ref05_bits_fn_walk _ _ a1 e good
  | no => exact True.intro
  ) it

theorem ref05_bits_opt {h : AH} {a1 : Int}  {r : ref05_bits_Res} (q : runP ref05_bits_step (.fn a1) = some r) : Runs (go (.fn F.ref05_bits [.int .u64 a1]) h) (ref05_bits_post h r) := ref05_bits_run (runP_iter q) 

end Go.Ab

/- Layer 5: keys: what is asked of each prime. -/
set_option linter.unusedVariables false
set_option linter.unusedSimpArgs false
set_option maxRecDepth 10000
namespace Go.Ab
open Go.Proofs Go.Num

/-- Is this no prime of a key? -/
noncomputable def oddF (a : Int) : Bool := cond (decide (a < 128)) true (cond (decide (a ≥ 1099511627776)) true (!decide (((leastN (Int.toNat a) : Nat) : Int) = a)))

theorem prime_Check_1_is {h : AH} (a : Int) : Runs (go (.fn F.prime_Check_1 [.int .u64 a]) h) fun v h' => v = .bool (oddF a) ∧ Grow h h' := prime_Check_1_opt (runP_of (.done (by
  show prime_Check_1_fn' a = _
  unfold prime_Check_1_fn' oddF
  by_cases h1 : a < 128
  · rw [decide_eq_true h1]; rfl
  · rw [decide_eq_false h1]
    by_cases h2 : a ≥ 1099511627776
    · rw [decide_eq_true h2]; rfl
    · rw [decide_eq_false h2, need_of (by omega)]
      rfl)))

/-- The small number that limbs say. -/
def smallN (xs : List Nat) : Int × Bool := cond (!rt xs) (0, false) (cond (decide ((List.length xs : Int) > 1)) (0, false) (((xs.headD 0 : Nat) : Int), true))

theorem ref01_Small_is {h : AH} {s : Sl} {xs : List Nat} (n : Nats h s xs) : Runs (go (.fn F.ref01_Small [s.v]) h) (ref01_Small_post h (smallN xs)) := ref01_Small_opt n (runP_of (.done (by
  show ref01_Small_fn' xs = _
  unfold ref01_Small_fn' smallN
  cases (!rt xs)
  · rw [cond_false, cond_false]
    by_cases h1 : (List.length xs : Int) > 1
    · rw [decide_eq_true h1]; rfl
    · rw [decide_eq_false h1, cond_false, cond_false]
      cases xs with
      | nil => rfl
      | cons x xs => rfl
  · rfl)))

theorem ref05_bits_need {h : AH} {a : Int} (c : 0 ≤ a ∧ a < 18446744073709551616) : Runs (go (.fn F.ref05_bits [.int .u64 a]) h) (ref05_bits_post h ((bitsN (digs B (Int.toNat a)) : Nat) : Int)) := ref05_bits_opt (runP_of (.done (by
  show ref05_bits_fn' a = _
  unfold ref05_bits_fn' u64P
  rw [if_pos c]
  rfl)))

end Go.Ab

/- Layer 5: Check, its walk: printed by wip/tools/walk.py. -/
set_option linter.unusedVariables false
set_option linter.unusedSimpArgs false
set_option maxRecDepth 10000
namespace Go.Ab
open Go.Proofs Go.Num

inductive prime_Check_St
  | fn (a1 : Int) (a2 : Int)
  | no

abbrev prime_Check_Res := Int

noncomputable def prime_Check_fn' (a1 : Int) (a2 : Int) : Option (prime_Check_St ⊕ prime_Check_Res) :=
  cond (((oddF a1))) (some (.inr 9)) (cond (((oddF a2))) (some (.inr 9)) (cond (decide (a1 = a2)) (some (.inr 9)) ((need (0 ≤ a1 ∧ a1 < 18446744073709551616)).bind fun c9_0 => (need (0 ≤ a2 ∧ a2 < 18446744073709551616)).bind fun c10_0 => cond (!decide ((((bl (Int.toNat a1) : Nat) : Int)) = (((bl (Int.toNat a2) : Nat) : Int)))) (some (.inr 9)) ((u64P a1).bind fun w16 => (u64P a2).bind fun w17 => (u64P (IntKind.wrap .u64 (a1 - 1))).bind fun w23 => (u64P (IntKind.wrap .u64 (a2 - 1))).bind fun w24 => (u64P 1).bind fun w30 => cond (!decide ((cmpN ((gcdN ((mulN [w16] [w17]).1) ((mulN [w23] [w24]).1)).1) [w30]) = 0)) (some (.inr 9)) (some (.inr 0))))))

noncomputable def prime_Check_step : prime_Check_St → Option (prime_Check_St ⊕ prime_Check_Res)
  | .fn a1 a2 => prime_Check_fn' a1 a2
  | .no => none

@[reducible] def prime_Check_post (h0 : AH) (r : prime_Check_Res) (v : AV) (h' : AH) : Prop := v = .int .i64 r ∧ Grow h0 h'

def prime_Check_At (r : prime_Check_Res) : prime_Check_St → Prop
  | .fn a1 a2 => ∀ {h : AH}, Runs (go (.fn F.prime_Check [.agg [.int .u64 a1, .int .u64 a2]]) h) (prime_Check_post h r)
  | .no => True

theorem prime_Check_fn_walk {r : prime_Check_Res} {o : prime_Check_St ⊕ prime_Check_Res} {a1 : Int} {a2 : Int} (e : prime_Check_fn' a1 a2 = some o) (good : GoodS (prime_Check_At r) r o) : prime_Check_At r (.fn a1 a2) := by
  intro h
  rw [u_prime_Check]
  unfold prime_Check_fn' at e
  refine Runs.new fun H3 b3 g3 => ?_
  refine Runs.step (AH.has.rd b3 0 rfl (avInt_int _ _)) ?_
  obtain ⟨_, H4, e4, rfl, g4⟩ := prime_Check_1_is a1
  refine Runs.step e4 ?_
  refine Runs.step (seen rfl) ?_
  refine Runs.cond (fun k5 => ?_) (fun k5 => ?_)
  · replace e := (condT k5).symm.trans e
    cases e
    cases good
    exact Runs.ret ⟨rfl, (g3.trans g4)⟩
  · replace e := (condF k5).symm.trans e
    refine Runs.step (AH.has.rd (g4.has b3) 1 rfl (avInt_int _ _)) ?_
    obtain ⟨_, H6, e6, rfl, g6⟩ := prime_Check_1_is a2
    refine Runs.step e6 ?_
    refine Runs.step (seen rfl) ?_
    refine Runs.cond (fun k7 => ?_) (fun k7 => ?_)
    · replace e := (condT k7).symm.trans e
      cases e
      cases good
      have G8 := ((g3.trans g4).trans g6)
      exact Runs.ret ⟨rfl, G8⟩
    · replace e := (condF k7).symm.trans e
      refine Runs.step (AH.has.rd ((g4.trans g6).has b3) 0 rfl (avInt_int _ _)) ?_
      refine Runs.step (AH.has.rd ((g4.trans g6).has b3) 1 rfl (avInt_int _ _)) ?_
      refine Runs.cond (fun k8 => ?_) (fun k8 => ?_)
      · replace e := (condT k8).symm.trans e
        cases e
        cases good
        have G9 := ((g3.trans g4).trans g6)
        exact Runs.ret ⟨rfl, G9⟩
      · replace e := (condF k8).symm.trans e
        refine Runs.step (AH.has.rd ((g4.trans g6).has b3) 0 rfl (avInt_int _ _)) ?_
        refine Runs.step (AH.has.rd ((g4.trans g6).has b3) 1 rfl (avInt_int _ _)) ?_
        obtain ⟨c9_0, q9_0, e⟩ := Option.bind_eq_some_iff.1 e
        refine Runs.step (len64_need  c9_0.down) ?_
        refine Runs.step (seen (avInt_int _ _)) ?_
        refine Runs.when ((Grow.refl _).same ((g4.trans g6).has b3) 1 1) ?_
        obtain ⟨c10_0, q10_0, e⟩ := Option.bind_eq_some_iff.1 e
        refine Runs.step (len64_need  c10_0.down) ?_
        refine Runs.step (seen (avInt_int _ _)) ?_
        refine Runs.cond (fun k11 => ?_) (fun k11 => ?_)
        · replace e := (condT k11).symm.trans e
          cases e
          cases good
          have G12 := ((g3.trans g4).trans g6)
          exact Runs.ret ⟨rfl, G12⟩
        · replace e := (condF k11).symm.trans e
          refine Runs.step (AH.has.rd ((g4.trans g6).has b3) 0 rfl (avInt_int _ _)) ?_
          refine Runs.new fun H12 b12 g12 => ?_
          have G13 := ((g4.trans g6).trans g12)
          have b3_14 := G13.has b3
          refine Runs.step (AH.has.rd b3_14 1 rfl (avInt_int _ _)) ?_
          refine Runs.new fun H15 b15 g15 => ?_
          obtain ⟨w16, z16, e⟩ := Option.bind_eq_some_iff.1 e
          obtain ⟨w17, z17, e⟩ := Option.bind_eq_some_iff.1 e
          obtain ⟨s18, H18, e18, n18, g18, o18⟩ := nat_Mul_spec (Nats.of_has1 (g15.has b12) z16) (Nats.of_has1 b15 z17)
          refine Runs.step e18 ?_
          refine Runs.step rfl ?_
          refine Runs.step (seen (asSl_v _)) ?_
          refine Runs.step (seen (avInt_int _ _)) ?_
          refine Runs.step (AH.has.rd ((g15.trans g18).has b3_14) 0 rfl (avInt_int _ _)) ?_
          refine Runs.new fun H19 b19 g19 => ?_
          have G20 := ((g15.trans g18).trans g19)
          have b3_21 := G20.has b3_14
          refine Runs.step (AH.has.rd b3_21 1 rfl (avInt_int _ _)) ?_
          refine Runs.new fun H22 b22 g22 => ?_
          obtain ⟨w23, z23, e⟩ := Option.bind_eq_some_iff.1 e
          obtain ⟨w24, z24, e⟩ := Option.bind_eq_some_iff.1 e
          obtain ⟨s25, H25, e25, n25, g25, o25⟩ := nat_Mul_spec (Nats.of_has1 (g22.has b19) z23) (Nats.of_has1 b22 z24)
          refine Runs.step e25 ?_
          refine Runs.step rfl ?_
          refine Runs.step (seen (asSl_v _)) ?_
          refine Runs.step (seen (avInt_int _ _)) ?_
          have G26 := ((g19.trans g22).trans g25)
          have n18_27 := n18.grow G26
          obtain ⟨_, H28, e28, s28, rfl, n28, g28, o28⟩ := modint_Gcd_spec n18_27 n25
          refine Runs.step e28 ?_
          refine Runs.step rfl ?_
          refine Runs.step (seen (asSl_v _)) ?_
          refine Runs.step (seen (avInt_int _ _)) ?_
          refine Runs.new fun H29 b29 g29 => ?_
          obtain ⟨w30, z30, e⟩ := Option.bind_eq_some_iff.1 e
          obtain ⟨H31, e31, g31⟩ := nat_Cmp_spec (n28.grow g29) (Nats.of_has1 b29 z30)
          refine Runs.step e31 ?_
          refine Runs.step (seen (avInt_int _ _)) ?_
          refine Runs.cond (fun k32 => ?_) (fun k32 => ?_)
          · replace e := (condT k32).symm.trans e
            cases e
            cases good
            have G33 := (((((((((((g3.trans g4).trans g6).trans g12).trans g15).trans g18).trans g19).trans g22).trans g25).trans g28).trans g29).trans g31)
            exact Runs.ret ⟨rfl, G33⟩
          · replace e := (condF k32).symm.trans e
            cases e
            cases good
            have G33 := (((((((((((g3.trans g4).trans g6).trans g12).trans g15).trans g18).trans g19).trans g22).trans g25).trans g28).trans g29).trans g31)
            exact Runs.ret ⟨rfl, G33⟩

theorem prime_Check_run {s : prime_Check_St} {r : prime_Check_Res} (it : Iter prime_Check_step s r) : prime_Check_At r s := Iter.ind (fun s o e good => by
  cases s with
  | fn a1 a2 => exact @prime_Check_fn_walk _ _ a1 a2 e good
  | no => exact True.intro
  ) it

theorem prime_Check_opt {h : AH} {a1 : Int} {a2 : Int}  {r : prime_Check_Res} (q : runP prime_Check_step (.fn a1 a2) = some r) : Runs (go (.fn F.prime_Check [.agg [.int .u64 a1, .int .u64 a2]]) h) (prime_Check_post h r) := prime_Check_run (runP_iter q) 

inductive ref05_Check_St
  | fn (a1 : Int) (a2 : Int)
  | no

abbrev ref05_Check_Res := Int

noncomputable def ref05_Check_fn' (a1 : Int) (a2 : Int) : Option (ref05_Check_St ⊕ ref05_Check_Res) :=
  cond (decide (a1 < 128)) (some (.inr 9)) (cond (decide (a2 < 128)) (some (.inr 9)) (cond (decide (a1 ≥ 1099511627776)) (some (.inr 9)) (cond (decide (a2 ≥ 1099511627776)) (some (.inr 9)) ((need ((2 : Int) ≤ a1 ∧ a1 < 1099511627776)).bind fun c8_0 => cond (!decide ((((leastN (Int.toNat a1) : Nat) : Int)) = a1)) (some (.inr 9)) ((need ((2 : Int) ≤ a2 ∧ a2 < 1099511627776)).bind fun c10_0 => cond (!decide ((((leastN (Int.toNat a2) : Nat) : Int)) = a2)) (some (.inr 9)) (cond (decide (a1 = a2)) (some (.inr 9)) ((need (0 ≤ a1 ∧ a1 < 18446744073709551616)).bind fun c13_0 => (need (0 ≤ a2 ∧ a2 < 18446744073709551616)).bind fun c14_0 => cond (!decide ((((bitsN (digs B (Int.toNat a1)) : Nat) : Int)) = (((bitsN (digs B (Int.toNat a2)) : Nat) : Int)))) (some (.inr 9)) ((u64P a1).bind fun p16 => (u64P a2).bind fun p17 => (u64P (IntKind.wrap .u64 (a1 - 1))).bind fun p21 => (u64P (IntKind.wrap .u64 (a2 - 1))).bind fun p22 => cond (!decide (((smallN ((gcdN ((mulN (digs B p16) (digs B p17)).1) ((mulN (digs B p21) (digs B p22)).1)).1)).1) = 1)) (some (.inr 9)) (some (.inr 0))))))))))

noncomputable def ref05_Check_step : ref05_Check_St → Option (ref05_Check_St ⊕ ref05_Check_Res)
  | .fn a1 a2 => ref05_Check_fn' a1 a2
  | .no => none

@[reducible] def ref05_Check_post (h0 : AH) (r : ref05_Check_Res) (v : AV) (h' : AH) : Prop := v = .int .i64 r ∧ Grow h0 h'

def ref05_Check_At (r : ref05_Check_Res) : ref05_Check_St → Prop
  | .fn a1 a2 => ∀ {h : AH}, Runs (go (.fn F.ref05_Check [.agg [.int .u64 a1, .int .u64 a2]]) h) (ref05_Check_post h r)
  | .no => True

theorem ref05_Check_fn_walk {r : ref05_Check_Res} {o : ref05_Check_St ⊕ ref05_Check_Res} {a1 : Int} {a2 : Int} (e : ref05_Check_fn' a1 a2 = some o) (good : GoodS (ref05_Check_At r) r o) : ref05_Check_At r (.fn a1 a2) := by
  intro h
  rw [u_ref05_Check]
  unfold ref05_Check_fn' at e
  refine Runs.new fun H3 b3 g3 => ?_
  refine Runs.step (AH.has.rd b3 0 rfl (avInt_int _ _)) ?_
  refine Runs.cond (fun k4 => ?_) (fun k4 => ?_)
  · replace e := (condT k4).symm.trans e
    cases e
    cases good
    exact Runs.ret ⟨rfl, g3⟩
  · replace e := (condF k4).symm.trans e
    refine Runs.step (AH.has.rd b3 1 rfl (avInt_int _ _)) ?_
    refine Runs.cond (fun k5 => ?_) (fun k5 => ?_)
    · replace e := (condT k5).symm.trans e
      cases e
      cases good
      exact Runs.ret ⟨rfl, g3⟩
    · replace e := (condF k5).symm.trans e
      refine Runs.step (AH.has.rd b3 0 rfl (avInt_int _ _)) ?_
      refine Runs.cond (fun k6 => ?_) (fun k6 => ?_)
      · replace e := (condT k6).symm.trans e
        cases e
        cases good
        exact Runs.ret ⟨rfl, g3⟩
      · replace e := (condF k6).symm.trans e
        refine Runs.step (AH.has.rd b3 1 rfl (avInt_int _ _)) ?_
        refine Runs.cond (fun k7 => ?_) (fun k7 => ?_)
        · replace e := (condT k7).symm.trans e
          cases e
          cases good
          exact Runs.ret ⟨rfl, g3⟩
        · replace e := (condF k7).symm.trans e
          refine Runs.step (AH.has.rd b3 0 rfl (avInt_int _ _)) ?_
          refine Runs.step (AH.has.rd b3 0 rfl (avInt_int _ _)) ?_
          obtain ⟨c8_0, q8_0, e⟩ := Option.bind_eq_some_iff.1 e
          refine Runs.step (ref05_least_need  c8_0.down) ?_
          refine Runs.step (seen (avInt_int _ _)) ?_
          refine Runs.when ((Grow.refl _).same b3 0 1) ?_
          refine Runs.cond (fun k9 => ?_) (fun k9 => ?_)
          · replace e := (condT k9).symm.trans e
            cases e
            cases good
            exact Runs.ret ⟨rfl, g3⟩
          · replace e := (condF k9).symm.trans e
            refine Runs.step (AH.has.rd b3 1 rfl (avInt_int _ _)) ?_
            refine Runs.step (AH.has.rd b3 1 rfl (avInt_int _ _)) ?_
            obtain ⟨c10_0, q10_0, e⟩ := Option.bind_eq_some_iff.1 e
            refine Runs.step (ref05_least_need  c10_0.down) ?_
            refine Runs.step (seen (avInt_int _ _)) ?_
            refine Runs.when ((Grow.refl _).same b3 1 1) ?_
            refine Runs.cond (fun k11 => ?_) (fun k11 => ?_)
            · replace e := (condT k11).symm.trans e
              cases e
              cases good
              exact Runs.ret ⟨rfl, g3⟩
            · replace e := (condF k11).symm.trans e
              refine Runs.step (AH.has.rd b3 0 rfl (avInt_int _ _)) ?_
              refine Runs.step (AH.has.rd b3 1 rfl (avInt_int _ _)) ?_
              refine Runs.cond (fun k12 => ?_) (fun k12 => ?_)
              · replace e := (condT k12).symm.trans e
                cases e
                cases good
                exact Runs.ret ⟨rfl, g3⟩
              · replace e := (condF k12).symm.trans e
                refine Runs.step (AH.has.rd b3 0 rfl (avInt_int _ _)) ?_
                refine Runs.step (AH.has.rd b3 1 rfl (avInt_int _ _)) ?_
                obtain ⟨c13_0, q13_0, e⟩ := Option.bind_eq_some_iff.1 e
                obtain ⟨_, H13, e13, rfl, g13⟩ := ref05_bits_need  c13_0.down
                refine Runs.step e13 ?_
                refine Runs.step (seen (avInt_int _ _)) ?_
                refine Runs.when (g13.same b3 1 1) ?_
                obtain ⟨c14_0, q14_0, e⟩ := Option.bind_eq_some_iff.1 e
                obtain ⟨_, H14, e14, rfl, g14⟩ := ref05_bits_need  c14_0.down
                refine Runs.step e14 ?_
                refine Runs.step (seen (avInt_int _ _)) ?_
                refine Runs.cond (fun k15 => ?_) (fun k15 => ?_)
                · replace e := (condT k15).symm.trans e
                  cases e
                  cases good
                  have G16 := ((g3.trans g13).trans g14)
                  exact Runs.ret ⟨rfl, G16⟩
                · replace e := (condF k15).symm.trans e
                  refine Runs.step (AH.has.rd ((g13.trans g14).has b3) 0 rfl (avInt_int _ _)) ?_
                  refine Runs.step (AH.has.rd ((g13.trans g14).has b3) 1 rfl (avInt_int _ _)) ?_
                  obtain ⟨p16, q16, e⟩ := Option.bind_eq_some_iff.1 e
                  obtain ⟨s16, H16, e16, n16, g16, o16⟩ := ref01_Of_opt q16
                  refine Runs.step e16 ?_
                  refine Runs.step (seen (asSl_v _)) ?_
                  refine Runs.when (g16.same ((g13.trans g14).has b3) 1 1) ?_
                  obtain ⟨p17, q17, e⟩ := Option.bind_eq_some_iff.1 e
                  obtain ⟨s17, H17, e17, n17, g17, o17⟩ := ref01_Of_opt q17
                  refine Runs.step e17 ?_
                  refine Runs.step (seen (asSl_v _)) ?_
                  obtain ⟨s18, H18, e18, n18, g18, o18⟩ := ref01_Mul_spec (n16.grow g17) n17
                  refine Runs.step e18 ?_
                  refine Runs.step rfl ?_
                  refine Runs.step (seen (asSl_v _)) ?_
                  refine Runs.step (seen (avInt_int _ _)) ?_
                  have G19 := ((((g13.trans g14).trans g16).trans g17).trans g18)
                  have b3_20 := G19.has b3
                  refine Runs.step (AH.has.rd b3_20 0 rfl (avInt_int _ _)) ?_
                  refine Runs.step (AH.has.rd b3_20 1 rfl (avInt_int _ _)) ?_
                  obtain ⟨p21, q21, e⟩ := Option.bind_eq_some_iff.1 e
                  obtain ⟨s21, H21, e21, n21, g21, o21⟩ := ref01_Of_opt q21
                  refine Runs.step e21 ?_
                  refine Runs.step (seen (asSl_v _)) ?_
                  refine Runs.when (g21.same b3_20 1 1) ?_
                  obtain ⟨p22, q22, e⟩ := Option.bind_eq_some_iff.1 e
                  obtain ⟨s22, H22, e22, n22, g22, o22⟩ := ref01_Of_opt q22
                  refine Runs.step e22 ?_
                  refine Runs.step (seen (asSl_v _)) ?_
                  obtain ⟨s23, H23, e23, n23, g23, o23⟩ := ref01_Mul_spec (n21.grow g22) n22
                  refine Runs.step e23 ?_
                  refine Runs.step rfl ?_
                  refine Runs.step (seen (asSl_v _)) ?_
                  refine Runs.step (seen (avInt_int _ _)) ?_
                  have G24 := ((g21.trans g22).trans g23)
                  have n18_25 := n18.grow G24
                  obtain ⟨_, H26, e26, s26, rfl, n26, g26, o26⟩ := ref03_Gcd_spec n18_25 n23
                  refine Runs.step e26 ?_
                  refine Runs.step rfl ?_
                  refine Runs.step (seen (asSl_v _)) ?_
                  refine Runs.step (seen (avInt_int _ _)) ?_
                  obtain ⟨_, H27, e27, rfl, g27⟩ := ref01_Small_is n26
                  refine Runs.step e27 ?_
                  refine Runs.step rfl ?_
                  refine Runs.step (seen (avInt_int _ _)) ?_
                  refine Runs.step (seen rfl) ?_
                  refine Runs.cond (fun k28 => ?_) (fun k28 => ?_)
                  · replace e := (condT k28).symm.trans e
                    cases e
                    cases good
                    have G29 := ((((((((((g3.trans g13).trans g14).trans g16).trans g17).trans g18).trans g21).trans g22).trans g23).trans g26).trans g27)
                    exact Runs.ret ⟨rfl, G29⟩
                  · replace e := (condF k28).symm.trans e
                    cases e
                    cases good
                    have G29 := ((((((((((g3.trans g13).trans g14).trans g16).trans g17).trans g18).trans g21).trans g22).trans g23).trans g26).trans g27)
                    exact Runs.ret ⟨rfl, G29⟩

theorem ref05_Check_run {s : ref05_Check_St} {r : ref05_Check_Res} (it : Iter ref05_Check_step s r) : ref05_Check_At r s := Iter.ind (fun s o e good => by
  cases s with
  | fn a1 a2 => exact @ref05_Check_fn_walk _ _ a1 a2 e good
  | no => exact True.intro
  ) it

theorem ref05_Check_opt {h : AH} {a1 : Int} {a2 : Int}  {r : ref05_Check_Res} (q : runP ref05_Check_step (.fn a1 a2) = some r) : Runs (go (.fn F.ref05_Check [.agg [.int .u64 a1, .int .u64 a2]]) h) (ref05_Check_post h r) := ref05_Check_run (runP_iter q) 

end Go.Ab

/- Layer 5: Check, what it answers; the document's is the same. -/
set_option linter.unusedVariables false
set_option linter.unusedSimpArgs false
set_option maxRecDepth 10000
namespace Go.Ab
open Go.Proofs Go.Num

theorem digs_single {x : Nat} (h0 : 0 < x) (h : x < B) : digs B x = [x] := by
  rw [digs_pos B2 (by omega), Nat.mod_eq_of_lt h, Nat.div_eq_of_lt h, digs_zero]

theorem lt40_30 {a : Nat} (h : a < 1099511627776) : a < B ^ 30 := Nat.lt_of_lt_of_le h (by decide)

/-- May two numbers be no key? -/
noncomputable def badF (a b : Int) : Bool := oddF a || (oddF b || (decide (a = b) || (!decide (bl a.toNat = bl b.toNat) || !decide (Nat.gcd (a.toNat * b.toNat) ((a.toNat - 1) * (b.toNat - 1)) = 1))))
noncomputable def keyF (a b : Int) : Int := cond (badF a b) 9 0

theorem oddF_false {a : Int} (h : oddF a = false) : ∃ p : Nat, a = (p : Int) ∧ 128 ≤ p ∧ p < 1099511627776 ∧ leastN p = p := by
  unfold oddF at h
  by_cases h1 : a < 128
  · rw [decide_eq_true h1] at h; cases h
  · rw [decide_eq_false h1, cond_false] at h
    by_cases h2 : a ≥ 1099511627776
    · rw [decide_eq_true h2] at h; cases h
    · rw [decide_eq_false h2, cond_false] at h
      have h3 : ((leastN (Int.toNat a) : Nat) : Int) = a := by simpa using h
      exact ⟨a.toNat, by omega, by omega, by omega, by omega⟩

theorem B40 : (1099511627776 : Nat) < B := by decide

theorem key_gcd {p q : Nat} (hp : 128 ≤ p) (hp2 : p < 1099511627776) (hq : 128 ≤ q) (hq2 : q < 1099511627776) :
    (gcdN ((mulN [p] [q]).1) ((mulN [p - 1] [q - 1]).1)).1 = digs B (Nat.gcd (p * q) ((p - 1) * (q - 1))) := by
  have b40 := B40
  have lt : ∀ {a b : Nat}, a < 1099511627776 → b < 1099511627776 → a * b < B ^ 2 := fun ha hb => Nat.lt_of_lt_of_le (Nat.mul_lt_mul'' ha hb) (by decide)
  have e1 : mulN [p] [q] = (digs B (p * q), 0) := by
    rw [← digs_single (x := p) (by omega) (by omega), ← digs_single (x := q) (by omega) (by omega), mulN_digs (lt40_30 hp2) (lt40_30 hq2)]
  have e2 : mulN [p - 1] [q - 1] = (digs B ((p - 1) * (q - 1)), 0) := by
    rw [← digs_single (x := p - 1) (by omega) (by omega), ← digs_single (x := q - 1) (by omega) (by omega), mulN_digs (lt40_30 (by omega)) (lt40_30 (by omega))]
  have r1 : rt (digs B (p * q)) = true := rt_digs (Nat.lt_of_lt_of_le (lt hp2 hq2) (Nat.pow_le_pow_right (by decide) (by decide)))
  have r2 : rt (digs B ((p - 1) * (q - 1))) = true := rt_digs (Nat.lt_of_lt_of_le (lt (by omega) (by omega)) (Nat.pow_le_pow_right (by decide) (by decide)))
  rw [e1, e2]
  unfold gcdN
  rw [if_pos ⟨r1, r2⟩, num_digs B2, num_digs B2]

theorem gcd_lt {p q : Nat} (hp : 128 ≤ p) (hp2 : p < 1099511627776) (hq : 128 ≤ q) (hq2 : q < 1099511627776) : Nat.gcd (p * q) ((p - 1) * (q - 1)) < B ^ 64 := by
  have h1 : Nat.gcd (p * q) ((p - 1) * (q - 1)) ≤ p * q := Nat.gcd_le_left _ (Nat.mul_pos (by omega) (by omega))
  have h2 : p * q < 1099511627776 * 1099511627776 := Nat.mul_lt_mul'' hp2 hq2
  exact Nat.lt_of_le_of_lt h1 (Nat.lt_of_lt_of_le h2 (by decide))

theorem cmp_one {g : Nat} (h : g < B ^ 64) : decide (cmpN (digs B g) [1] = 0) = decide (g = 1) := by
  rw [cmpN_rt2 (rt_digs h) (by decide), num_digs B2]
  have : num B [1] = 1 := by decide
  rw [this, decide_eq_decide]
  unfold cmp
  split
  · omega
  · split <;> omega

theorem small_one {g : Nat} (h : g < B ^ 64) : decide ((smallN (digs B g)).1 = 1) = decide (g = 1) := by
  unfold smallN
  rw [rt_digs h, Bool.not_true, cond_false, decide_eq_decide]
  by_cases h1 : (List.length (digs B g) : Int) > 1
  · rw [decide_eq_true h1, cond_true]
    constructor
    · intro h; cases h
    · rintro rfl
      rw [digs_one] at h1
      exact absurd h1 (by decide)
  · rw [decide_eq_false h1, cond_false]
    have hB : g < B := by
      have := (digs_len B2 g 1).1 (by omega)
      simpa using this
    rcases Nat.eq_zero_or_pos g with rfl | hg
    · rw [digs_zero]; decide
    · rw [digs_single hg hB]
      simp only [List.headD_cons]
      omega

theorem wrap_predU {p : Nat} (h1 : 1 ≤ p) (h : p < B) : IntKind.wrap .u64 ((p : Int) - 1) = ((p - 1 : Nat) : Int) := by
  have e : ((p : Int) - 1) = ((p - 1 : Nat) : Int) := by omega
  rw [e, wrapU]
  have : p - 1 < 18446744073709551616 := Nat.lt_of_le_of_lt (Nat.sub_le _ _) h
  omega

theorem u64P_B {p : Nat} (h : p < B) : u64P (p : Int) = some p := u64P_nat h

theorem prime_Check_iter (a b : Int) : Iter prime_Check_step (.fn a b) (keyF a b) := by
  refine .done ?_
  show prime_Check_fn' a b = _
  unfold prime_Check_fn' keyF badF
  cases ha : oddF a
  case true => rfl
  cases hb : oddF b
  case true => rfl
  obtain ⟨p, rfl, p1, p2, p3⟩ := oddF_false ha
  obtain ⟨q, rfl, q1, q2, q3⟩ := oddF_false hb
  have b40 := B40
  rw [cond_false, cond_false, Bool.false_or, Bool.false_or]
  cases hpq : decide ((p : Int) = (q : Int))
  case true => rfl
  rw [cond_false, Bool.false_or, need_of (by omega), Option.bind_some, need_of (by omega), Option.bind_some, Int.toNat_natCast, Int.toNat_natCast]
  have e1 : decide (((bl p : Nat) : Int) = ((bl q : Nat) : Int)) = decide (bl p = bl q) := by rw [decide_eq_decide]; omega
  rw [e1]
  cases hl : decide (bl p = bl q)
  case false => rfl
  rw [Bool.not_true, cond_false, Bool.false_or, u64P_B (by omega), Option.bind_some, u64P_B (by omega), Option.bind_some, wrap_predU (by omega) (by omega), wrap_predU (by omega) (by omega), u64P_B (by omega), Option.bind_some, u64P_B (by omega), Option.bind_some, show u64P 1 = some 1 from rfl, Option.bind_some, key_gcd p1 p2 q1 q2, cmp_one (gcd_lt p1 p2 q1 q2)]
  cases decide (Nat.gcd (p * q) ((p - 1) * (q - 1)) = 1) <;> rfl

theorem ref05_Check_iter (a b : Int) : Iter ref05_Check_step (.fn a b) (keyF a b) := by
  refine .done ?_
  show ref05_Check_fn' a b = _
  have odd1 : ∀ {x : Int}, x < 128 → oddF x = true := fun h => by unfold oddF; rw [decide_eq_true h]; rfl
  have odd2 : ∀ {x : Int}, x ≥ 1099511627776 → oddF x = true := fun h => by
    unfold oddF
    rw [decide_eq_false (by omega), decide_eq_true h]; rfl
  have odd3 : ∀ {x : Int}, ¬ x < 128 → ¬ x ≥ 1099511627776 → oddF x = !decide (((leastN (Int.toNat x) : Nat) : Int) = x) := fun h h' => by
    unfold oddF
    rw [decide_eq_false h, decide_eq_false h']; rfl
  have bad1 : oddF a = true → keyF a b = 9 := fun h => by unfold keyF badF; rw [h]; rfl
  have bad2 : oddF b = true → keyF a b = 9 := fun h => by unfold keyF badF; rw [h]; cases oddF a <;> rfl
  unfold ref05_Check_fn'
  by_cases a1 : a < 128
  · rw [decide_eq_true a1, bad1 (odd1 a1)]; rfl
  rw [decide_eq_false a1, cond_false]
  by_cases b1 : b < 128
  · rw [decide_eq_true b1, bad2 (odd1 b1)]; rfl
  rw [decide_eq_false b1, cond_false]
  by_cases a2 : a ≥ 1099511627776
  · rw [decide_eq_true a2, bad1 (odd2 a2)]; rfl
  rw [decide_eq_false a2, cond_false]
  by_cases b2 : b ≥ 1099511627776
  · rw [decide_eq_true b2, bad2 (odd2 b2)]; rfl
  rw [decide_eq_false b2, cond_false, need_of (by omega), Option.bind_some, need_of (p := (2 : Int) ≤ b ∧ b < 1099511627776) (by omega), Option.bind_some, ← odd3 a1 a2, ← odd3 b1 b2]
  cases ha : oddF a
  case true => rw [bad1 ha]; rfl
  cases hb : oddF b
  case true => rw [bad2 hb]; rfl
  unfold keyF badF
  rw [ha, hb]
  obtain ⟨p, rfl, p1, p2, p3⟩ := oddF_false ha
  obtain ⟨q, rfl, q1, q2, q3⟩ := oddF_false hb
  have b40 := B40
  rw [cond_false, cond_false, Bool.false_or, Bool.false_or]
  cases hpq : decide ((p : Int) = (q : Int))
  case true => rfl
  rw [cond_false, Bool.false_or, need_of (by omega), Option.bind_some, need_of (by omega), Option.bind_some, Int.toNat_natCast, Int.toNat_natCast]
  have eb : ∀ {x : Nat}, x < B → bitsN (digs B x) = bl x := fun h => by
    unfold bitsN
    rw [if_pos (rt_digs (Nat.lt_of_lt_of_le h (by decide))), num_digs B2]
  rw [eb (by omega), eb (by omega)]
  have e1 : decide (((bl p : Nat) : Int) = ((bl q : Nat) : Int)) = decide (bl p = bl q) := by rw [decide_eq_decide]; omega
  rw [e1]
  cases hl : decide (bl p = bl q)
  case false => rfl
  rw [Bool.not_true, cond_false, Bool.false_or, u64P_B (by omega), Option.bind_some, u64P_B (by omega), Option.bind_some, wrap_predU (by omega) (by omega), wrap_predU (by omega) (by omega), u64P_B (by omega), Option.bind_some, u64P_B (by omega), Option.bind_some,
    digs_single (x := p) (by omega) (by omega), digs_single (x := q) (by omega) (by omega), digs_single (x := p - 1) (by omega) (by omega), digs_single (x := q - 1) (by omega) (by omega), key_gcd p1 p2 q1 q2, small_one (gcd_lt p1 p2 q1 q2)]
  cases decide (Nat.gcd (p * q) ((p - 1) * (q - 1)) = 1) <;> rfl

theorem prime_Check_is {h : AH} (a b : Int) : Runs (go (.fn F.prime_Check [.agg [.int .u64 a, .int .u64 b]]) h) (prime_Check_post h (keyF a b)) := prime_Check_opt (runP_of (prime_Check_iter a b))
theorem ref05_Check_is {h : AH} (a b : Int) : Runs (go (.fn F.ref05_Check [.agg [.int .u64 a, .int .u64 b]]) h) (ref05_Check_post h (keyF a b)) := ref05_Check_opt (runP_of (ref05_Check_iter a b))
end Go.Ab

/- Layer 6: public keys, their walk: printed by wip/tools/walk.py. -/
set_option linter.unusedVariables false
set_option linter.unusedSimpArgs false
set_option maxRecDepth 10000
namespace Go.Ab
open Go.Proofs Go.Num

inductive paillier_Public_St
  | fn (a1 : Int) (a2 : Int)
  | no

abbrev paillier_Public_Res := List Nat × Int

noncomputable def paillier_Public_fn' (a1 : Int) (a2 : Int) : Option (paillier_Public_St ⊕ paillier_Public_Res) :=
  cond (!decide (((keyF a1 a2)) = 0)) (some (.inr ([], ((keyF a1 a2))))) ((u64P a1).bind fun w8 => (u64P a2).bind fun w9 => some (.inr ((mulN [w8] [w9]).1, ((mulN [w8] [w9]).2))))

noncomputable def paillier_Public_step : paillier_Public_St → Option (paillier_Public_St ⊕ paillier_Public_Res)
  | .fn a1 a2 => paillier_Public_fn' a1 a2
  | .no => none

@[reducible] def paillier_Public_post (h0 : AH) (r : paillier_Public_Res) (v : AV) (h' : AH) : Prop := ∃ s1 : Sl, v = .tup [s1.v, .int .i64 r.2] ∧ Nats h' s1 r.1 ∧ Grow h0 h' ∧ Own h0 s1

def paillier_Public_At (r : paillier_Public_Res) : paillier_Public_St → Prop
  | .fn a1 a2 => ∀ {h : AH}, Runs (go (.fn F.paillier_Public [.agg [.int .u64 a1, .int .u64 a2]]) h) (paillier_Public_post h r)
  | .no => True

theorem paillier_Public_fn_walk {r : paillier_Public_Res} {o : paillier_Public_St ⊕ paillier_Public_Res} {a1 : Int} {a2 : Int} (e : paillier_Public_fn' a1 a2 = some o) (good : GoodS (paillier_Public_At r) r o) : paillier_Public_At r (.fn a1 a2) := by
  intro h
  rw [u_paillier_Public]
  unfold paillier_Public_fn' at e
  refine Runs.new fun H3 b3 g3 => ?_
  refine Runs.step (AH.has.rd b3 0 rfl (avInt_int _ _)) ?_
  refine Runs.step (AH.has.rd b3 1 rfl (avInt_int _ _)) ?_
  obtain ⟨_, H4, e4, rfl, g4⟩ := prime_Check_is a1 a2
  refine Runs.step e4 ?_
  refine Runs.step (seen (avInt_int _ _)) ?_
  refine Runs.cond (fun k5 => ?_) (fun k5 => ?_)
  · replace e := (condT k5).symm.trans e
    cases e
    cases good
    exact Runs.ret ⟨(⟨none, 0, .is 0⟩ : Sl), rfl, (Nats.nil _), (g3.trans g4), (Own.nil _)⟩
  · replace e := (condF k5).symm.trans e
    refine Runs.step (AH.has.rd (g4.has b3) 0 rfl (avInt_int _ _)) ?_
    refine Runs.new fun H6 b6 g6 => ?_
    refine Runs.step (AH.has.rd ((g4.trans g6).has b3) 1 rfl (avInt_int _ _)) ?_
    refine Runs.new fun H7 b7 g7 => ?_
    obtain ⟨w8, z8, e⟩ := Option.bind_eq_some_iff.1 e
    obtain ⟨w9, z9, e⟩ := Option.bind_eq_some_iff.1 e
    obtain ⟨s10, H10, e10, n10, g10, o10⟩ := nat_Mul_spec (Nats.of_has1 (g7.has b6) z8) (Nats.of_has1 b7 z9)
    refine Runs.step e10 ?_
    refine Runs.step rfl ?_
    refine Runs.step (seen (asSl_v _)) ?_
    refine Runs.step (seen (avInt_int _ _)) ?_
    cases e
    cases good
    have G11 := (((g3.trans g4).trans g6).trans g7)
    have G12 := (G11.trans g10)
    exact Runs.ret ⟨s10, rfl, n10, G12, (o10.of_le G11)⟩

theorem paillier_Public_run {s : paillier_Public_St} {r : paillier_Public_Res} (it : Iter paillier_Public_step s r) : paillier_Public_At r s := Iter.ind (fun s o e good => by
  cases s with
  | fn a1 a2 => exact @paillier_Public_fn_walk _ _ a1 a2 e good
  | no => exact True.intro
  ) it

theorem paillier_Public_opt {h : AH} {a1 : Int} {a2 : Int}  {r : paillier_Public_Res} (q : runP paillier_Public_step (.fn a1 a2) = some r) : Runs (go (.fn F.paillier_Public [.agg [.int .u64 a1, .int .u64 a2]]) h) (paillier_Public_post h r) := paillier_Public_run (runP_iter q) 

inductive ref06_Public_St
  | fn (a1 : Int) (a2 : Int)
  | no

abbrev ref06_Public_Res := List Nat × Int

noncomputable def ref06_Public_fn' (a1 : Int) (a2 : Int) : Option (ref06_Public_St ⊕ ref06_Public_Res) :=
  cond (!decide (((keyF a1 a2)) = 0)) (some (.inr ([], ((keyF a1 a2))))) ((u64P a1).bind fun p6 => (u64P a2).bind fun p7 => some (.inr ((mulN (digs B p6) (digs B p7)).1, ((mulN (digs B p6) (digs B p7)).2))))

noncomputable def ref06_Public_step : ref06_Public_St → Option (ref06_Public_St ⊕ ref06_Public_Res)
  | .fn a1 a2 => ref06_Public_fn' a1 a2
  | .no => none

@[reducible] def ref06_Public_post (h0 : AH) (r : ref06_Public_Res) (v : AV) (h' : AH) : Prop := ∃ s1 : Sl, v = .tup [s1.v, .int .i64 r.2] ∧ Nats h' s1 r.1 ∧ Grow h0 h' ∧ Own h0 s1

def ref06_Public_At (r : ref06_Public_Res) : ref06_Public_St → Prop
  | .fn a1 a2 => ∀ {h : AH}, Runs (go (.fn F.ref06_Public [.agg [.int .u64 a1, .int .u64 a2]]) h) (ref06_Public_post h r)
  | .no => True

theorem ref06_Public_fn_walk {r : ref06_Public_Res} {o : ref06_Public_St ⊕ ref06_Public_Res} {a1 : Int} {a2 : Int} (e : ref06_Public_fn' a1 a2 = some o) (good : GoodS (ref06_Public_At r) r o) : ref06_Public_At r (.fn a1 a2) := by
  intro h
  rw [u_ref06_Public]
  unfold ref06_Public_fn' at e
  refine Runs.new fun H3 b3 g3 => ?_
  refine Runs.step (AH.has.rd b3 0 rfl (avInt_int _ _)) ?_
  refine Runs.step (AH.has.rd b3 1 rfl (avInt_int _ _)) ?_
  obtain ⟨_, H4, e4, rfl, g4⟩ := ref05_Check_is a1 a2
  refine Runs.step e4 ?_
  refine Runs.step (seen (avInt_int _ _)) ?_
  refine Runs.cond (fun k5 => ?_) (fun k5 => ?_)
  · replace e := (condT k5).symm.trans e
    cases e
    cases good
    exact Runs.ret ⟨(⟨none, 0, .is 0⟩ : Sl), rfl, (Nats.nil _), (g3.trans g4), (Own.nil _)⟩
  · replace e := (condF k5).symm.trans e
    refine Runs.step (AH.has.rd (g4.has b3) 0 rfl (avInt_int _ _)) ?_
    refine Runs.step (AH.has.rd (g4.has b3) 1 rfl (avInt_int _ _)) ?_
    obtain ⟨p6, q6, e⟩ := Option.bind_eq_some_iff.1 e
    obtain ⟨s6, H6, e6, n6, g6, o6⟩ := ref01_Of_opt q6
    refine Runs.step e6 ?_
    refine Runs.step (seen (asSl_v _)) ?_
    refine Runs.when (g6.same (g4.has b3) 1 1) ?_
    obtain ⟨p7, q7, e⟩ := Option.bind_eq_some_iff.1 e
    obtain ⟨s7, H7, e7, n7, g7, o7⟩ := ref01_Of_opt q7
    refine Runs.step e7 ?_
    refine Runs.step (seen (asSl_v _)) ?_
    obtain ⟨s8, H8, e8, n8, g8, o8⟩ := ref01_Mul_spec (n6.grow g7) n7
    refine Runs.step e8 ?_
    refine Runs.step rfl ?_
    refine Runs.step (seen (asSl_v _)) ?_
    refine Runs.step (seen (avInt_int _ _)) ?_
    cases e
    cases good
    have G9 := (((g3.trans g4).trans g6).trans g7)
    have G10 := (G9.trans g8)
    exact Runs.ret ⟨s8, rfl, n8, G10, (o8.of_le G9)⟩

theorem ref06_Public_run {s : ref06_Public_St} {r : ref06_Public_Res} (it : Iter ref06_Public_step s r) : ref06_Public_At r s := Iter.ind (fun s o e good => by
  cases s with
  | fn a1 a2 => exact @ref06_Public_fn_walk _ _ a1 a2 e good
  | no => exact True.intro
  ) it

theorem ref06_Public_opt {h : AH} {a1 : Int} {a2 : Int}  {r : ref06_Public_Res} (q : runP ref06_Public_step (.fn a1 a2) = some r) : Runs (go (.fn F.ref06_Public [.agg [.int .u64 a1, .int .u64 a2]]) h) (ref06_Public_post h r) := ref06_Public_run (runP_iter q) 

end Go.Ab

/- Layer 6: public keys; a key as an argument. -/
set_option linter.unusedVariables false
set_option linter.unusedSimpArgs false
set_option maxRecDepth 10000
namespace Go.Ab
open Go.Proofs Go.Num

noncomputable def pubF (a b : Int) : List Nat × Int := cond (badF a b) ([], 9) (digs B (a.toNat * b.toNat), 0)

theorem badF_false {a b : Int} (h : badF a b = false) : ∃ p q : Nat, a = (p : Int) ∧ b = (q : Int) ∧ 128 ≤ p ∧ p < 1099511627776 ∧ leastN p = p ∧ 128 ≤ q ∧ q < 1099511627776 ∧ leastN q = q ∧ p ≠ q ∧ bl p = bl q ∧ Nat.gcd (p * q) ((p - 1) * (q - 1)) = 1 := by
  unfold badF at h
  rw [Bool.or_eq_false_iff, Bool.or_eq_false_iff, Bool.or_eq_false_iff, Bool.or_eq_false_iff] at h
  obtain ⟨ha, hb, hne, hl, hg⟩ := h
  obtain ⟨p, rfl, p1, p2, p3⟩ := oddF_false ha
  obtain ⟨q, rfl, q1, q2, q3⟩ := oddF_false hb
  refine ⟨p, q, rfl, rfl, p1, p2, p3, q1, q2, q3, ?_, ?_, ?_⟩
  · intro e
    subst e
    simp at hne
  · simpa using hl
  · simpa using hg

theorem key_mul {p q : Nat} (hp : 128 ≤ p) (hp2 : p < 1099511627776) (hq : 128 ≤ q) (hq2 : q < 1099511627776) : mulN [p] [q] = (digs B (p * q), 0) := by
  have b40 := B40
  rw [← digs_single (x := p) (by omega) (by omega), ← digs_single (x := q) (by omega) (by omega), mulN_digs (lt40_30 hp2) (lt40_30 hq2)]

theorem paillier_Public_iter (a b : Int) : Iter paillier_Public_step (.fn a b) (pubF a b) := by
  refine .done ?_
  show paillier_Public_fn' a b = _
  unfold paillier_Public_fn' keyF pubF
  cases hb : badF a b
  · obtain ⟨p, q, rfl, rfl, p1, p2, -, q1, q2, -, -, -, -⟩ := badF_false hb
    have b40 := B40
    rw [cond_false, condF (show (!decide ((0 : Int) = 0)) = false from rfl), u64P_B (by omega), Option.bind_some, u64P_B (by omega), Option.bind_some, key_mul p1 p2 q1 q2]
    rfl
  · rfl

theorem ref06_Public_iter (a b : Int) : Iter ref06_Public_step (.fn a b) (pubF a b) := by
  refine .done ?_
  show ref06_Public_fn' a b = _
  unfold ref06_Public_fn' keyF pubF
  cases hb : badF a b
  · obtain ⟨p, q, rfl, rfl, p1, p2, -, q1, q2, -, -, -, -⟩ := badF_false hb
    have b40 := B40
    rw [cond_false, condF (show (!decide ((0 : Int) = 0)) = false from rfl), u64P_B (by omega), Option.bind_some, u64P_B (by omega), Option.bind_some, digs_single (by omega) (by omega), digs_single (by omega) (by omega), key_mul p1 p2 q1 q2]
    rfl
  · rfl

theorem paillier_Public_is {h : AH} (a b : Int) : Runs (go (.fn F.paillier_Public [.agg [.int .u64 a, .int .u64 b]]) h) (paillier_Public_post h (pubF a b)) := paillier_Public_opt (runP_of (paillier_Public_iter a b))
theorem ref06_Public_is {h : AH} (a b : Int) : Runs (go (.fn F.ref06_Public [.agg [.int .u64 a, .int .u64 b]]) h) (ref06_Public_post h (pubF a b)) := ref06_Public_opt (runP_of (ref06_Public_iter a b))

theorem key_of_arg {h : AH} {x : AV} (a : ArgV Pg h T.api_Key x) : ∃ m n : Int, x = .agg [.int .u64 m, .int .u64 n] := by
  unfold ArgV at a
  rw [und_api_Key] at a
  obtain ⟨cs, rfl, t⟩ := a
  obtain ⟨hl, hf⟩ := t.struct und_api_Key
  rw [cells_api_Key] at hl
  match cs, hl with
  | [x0, x1], _ =>
    simp [cells_uint64] at hf
    obtain ⟨h0, h1⟩ := hf
    obtain ⟨m, e0, _⟩ := h0.int und_uint64
    obtain ⟨n, e1, _⟩ := h1.int und_uint64
    cases e0; cases e1
    exact ⟨m, n, rfl⟩
end Go.Ab

/- Layer 6: the law of keys, its walk: printed by wip/tools/walk.py. -/
set_option linter.unusedVariables false
set_option linter.unusedSimpArgs false
set_option maxRecDepth 10000
namespace Go.Ab
open Go.Proofs Go.Num

noncomputable def law06_PaillierKeys' (a1 : Int) (a2 : Int) (x3 : List Nat) (x4 : List Nat) : Bool :=
  cond (!((few06 [x3, x4]))) (true) (cond (true) (cond (true) (cond (decide (((pubF a1 a2).2) = ((pubF a1 a2).2))) (cond (((paillier_May' x3)) == ((paillier_May' x3))) (((paillier_Valid' x3 x4)) == ((paillier_Valid' x3 x4))) (false)) (false)) (false)) (false))

theorem law06_PaillierKeys_spec {h : AH} {a3 : Sl} {x3 : List Nat} {a4 : Sl} {x4 : List Nat} (n3 : Nats h a3 x3) (n4 : Nats h a4 x4) (a1 : Int) (a2 : Int) : Runs (go (.fn F.law06_PaillierKeys [.agg [.int .u64 a1, .int .u64 a2], a3.v, a4.v]) h) fun v h' => v = .bool (law06_PaillierKeys' a1 a2 x3 x4) ∧ Grow h h' := by
  rw [u_law06_PaillierKeys]
  refine Runs.new fun H5 b5 g5 => ?_
  refine Runs.new fun H6 b6 g6 => ?_
  obtain ⟨_, H7, e7, rfl, g7⟩ := law06_few_is (Seq.lit (E := El.nats) (rows := [[(a3).v], [(a4).v]]) (n := 2) b6 (.cons ⟨_, rfl, (n3.grow (g5.trans g6))⟩ (.cons ⟨_, rfl, (n4.grow (g5.trans g6))⟩ .nil)) rfl) (by simp)
  refine Runs.step e7 ?_
  refine Runs.step (seen rfl) ?_
  refine Runs.cond (fun k8 => ?_) (fun k8 => ?_)
  · have z : law06_PaillierKeys' a1 a2 x3 x4 = true := by unfold law06_PaillierKeys'; exact (condT k8).trans rfl
    rw [z]
    have G9 := ((g5.trans g6).trans g7)
    exact Runs.ret ⟨rfl, G9⟩
  · obtain ⟨H9, e9, g9⟩ := awake06
    refine Runs.step e9 ?_
    refine Runs.step (seen rfl) ?_
    have G10 := ((g6.trans g7).trans g9)
    have b5_11 := G10.has b5
    refine Runs.step (AH.has.rd b5_11 0 rfl (avInt_int _ _)) ?_
    refine Runs.step (AH.has.rd b5_11 1 rfl (avInt_int _ _)) ?_
    obtain ⟨_, H12, e12, s12, rfl, n12, g12, o12⟩ := paillier_Public_is a1 a2
    refine Runs.step e12 ?_
    refine Runs.step rfl ?_
    refine Runs.step (seen (asSl_v _)) ?_
    refine Runs.step (seen (avInt_int _ _)) ?_
    refine Runs.step (AH.has.rd (g12.has b5_11) 0 rfl (avInt_int _ _)) ?_
    refine Runs.step (AH.has.rd (g12.has b5_11) 1 rfl (avInt_int _ _)) ?_
    obtain ⟨_, H13, e13, s13, rfl, n13, g13, o13⟩ := ref06_Public_is a1 a2
    refine Runs.step e13 ?_
    refine Runs.step rfl ?_
    refine Runs.step (seen (asSl_v _)) ?_
    refine Runs.step (seen (avInt_int _ _)) ?_
    refine Runs.step (ref01_Same_spec (n12.grow g13) n13) ?_
    refine Runs.step (seen rfl) ?_
    refine Runs.cond (fun k15 => ?_) (fun k15 => ?_)
    · refine Runs.cond (fun k16 => ?_) (fun k16 => ?_)
      · refine Runs.cond (fun k17 => ?_) (fun k17 => ?_)
        · have G18 := (((((g5.trans g6).trans g7).trans g9).trans g12).trans g13)
          have n3_19 := n3.grow G18
          obtain ⟨_, H20, e20, rfl, g20⟩ := paillier_May_spec n3_19
          refine Runs.step e20 ?_
          refine Runs.step (seen rfl) ?_
          obtain ⟨_, H21, e21, rfl, g21⟩ := ref06_May_is (n3_19.grow g20)
          refine Runs.step e21 ?_
          refine Runs.step (seen rfl) ?_
          refine Runs.cond (fun k22 => ?_) (fun k22 => ?_)
          · have G23 := ((G18.trans g20).trans g21)
            have n4_24 := n4.grow G23
            obtain ⟨_, H25, e25, rfl, g25⟩ := paillier_Valid_spec (n3_19.grow (g20.trans g21)) n4_24
            refine Runs.step e25 ?_
            refine Runs.step (seen rfl) ?_
            have G26 := ((g20.trans g21).trans g25)
            have n3_27 := n3_19.grow G26
            obtain ⟨_, H28, e28, rfl, g28⟩ := ref06_Valid_is n3_27 (n4_24.grow g25)
            refine Runs.step e28 ?_
            refine Runs.step (seen rfl) ?_
            have z : law06_PaillierKeys' a1 a2 x3 x4 = (((paillier_Valid' x3 x4)) == ((paillier_Valid' x3 x4))) := by unfold law06_PaillierKeys'; exact (condF k8).trans ((condT k15).trans ((condT k16).trans ((condT k17).trans ((condT k22).trans rfl))))
            rw [z]
            have G29 := ((G23.trans g25).trans g28)
            exact Runs.ret ⟨rfl, G29⟩
          · have z : law06_PaillierKeys' a1 a2 x3 x4 = false := by unfold law06_PaillierKeys'; exact (condF k8).trans ((condT k15).trans ((condT k16).trans ((condT k17).trans ((condF k22).trans rfl))))
            rw [z]
            have G23 := ((G18.trans g20).trans g21)
            exact Runs.ret ⟨rfl, G23⟩
        · have z : law06_PaillierKeys' a1 a2 x3 x4 = false := by unfold law06_PaillierKeys'; exact (condF k8).trans ((condT k15).trans ((condT k16).trans ((condF k17).trans rfl)))
          rw [z]
          have G18 := (((((g5.trans g6).trans g7).trans g9).trans g12).trans g13)
          exact Runs.ret ⟨rfl, G18⟩
      · have z : law06_PaillierKeys' a1 a2 x3 x4 = false := by unfold law06_PaillierKeys'; exact (condF k8).trans ((condT k15).trans ((condF k16).trans rfl))
        rw [z]
        have G17 := (((((g5.trans g6).trans g7).trans g9).trans g12).trans g13)
        exact Runs.ret ⟨rfl, G17⟩
    · have z : law06_PaillierKeys' a1 a2 x3 x4 = false := by unfold law06_PaillierKeys'; exact (condF k8).trans ((condF k15).trans rfl)
      rw [z]
      have G16 := (((((g5.trans g6).trans g7).trans g9).trans g12).trans g13)
      exact Runs.ret ⟨rfl, G16⟩

end Go.Ab

/- Layer 6: the law of keys. -/
set_option linter.unusedVariables false
set_option linter.unusedSimpArgs false
set_option maxRecDepth 10000
namespace Go.Ab
open Go.Proofs Go.Num

theorem PaillierKeys_law (h : AH) {x0 x1 x2 : AV} (z0 : ArgV Pg h T.api_Key x0) (z1 : ArgV Pg h T.api_Nat x1) (z2 : ArgV Pg h T.api_Nat x2) : ∃ h', go (.fn F.law06_PaillierKeys [x0, x1, x2]) h = some (.bool true, h') := by
  obtain ⟨a, b, rfl⟩ := key_of_arg z0
  obtain ⟨s, xs, rfl, n⟩ := nat_of_arg z1
  obtain ⟨t, ys, rfl, m⟩ := nat_of_arg z2
  obtain ⟨_, h', e, rfl, _⟩ := law06_PaillierKeys_spec n m a b
  refine ⟨h', e.trans ?_⟩
  have : law06_PaillierKeys' a b xs ys = true := by
    unfold law06_PaillierKeys'
    refine cond_elim (fun _ => rfl) fun _ => ?_
    simp
  rw [this]
end Go.Ab
