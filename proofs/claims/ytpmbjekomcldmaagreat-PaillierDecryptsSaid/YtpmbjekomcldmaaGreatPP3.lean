/- squeezed -/
import Derived.Test.YtpmbjekomcldmaaGreatPS52
import Derived.Test.YtpmbjekomcldmaaGreatPS36
import Derived.Test.YtpmbjekomcldmaaGreatPAbsQ

set_option linter.unusedVariables false
set_option linter.unusedSimpArgs false
set_option maxRecDepth 10000
namespace Go.Ab
open Go.Proofs Go.Num
inductive kfe
 | fn (x1c0 : List Nat) (z1c1 : Int) (x1c2 : List Nat) (x1c3 : List Nat) (x2 : List Nat) (x3 : List Nat)
 | p4 (x1c0 : List Nat) (z1c1 : Int) (x1c2 : List Nat) (x1c3 : List Nat) (x2 : List Nat) (x3 : List Nat) (a4 : Int) (x5 : List Nat) (a6 : Int) (a7 : Int)
abbrev kde := List Nat
noncomputable def kmx (x1c0 : List Nat) (z1c1 : Int) (x1c2 : List Nat) (x1c3 : List Nat) (x2 : List Nat) (x3 : List Nat) : Option (kfe ⊕ kde) :=
 (mkI (IntKind.wrap .i64 ((List.length x1c0 : Int) + 2)) (IntKind.wrap .i64 ((List.length x1c0 : Int) + 2))).bind fun m4 => some (.inl (.p4 x1c0 z1c1 x1c2 x1c3 x2 x3 (List.length x1c0 : Int) (List.replicate m4 0) (List.length x1c0 : Int) 0))
noncomputable def kir (x1c0 : List Nat) (z1c1 : Int) (x1c2 : List Nat) (x1c3 : List Nat) (x2 : List Nat) (x3 : List Nat) (a4 : Int) (x5 : List Nat) (a6 : Int) (a7 : Int) : Option (kfe ⊕ kde) :=
 cond (decide (a7 < a6)) (cond (decide (a7 < (List.length x2 : Int))) ((atI x2 a7).bind fun y10 => (runP kdp (.fn x5 x3 ((y10 : Int)))).bind fun p11 => (need (List.length p11 = List.length x5)).bind fun c11 => (inI (List.length x5) 0).bind fun j12 => (runP kdp (.fn p11 x1c0 (IntKind.wrap .u64 ((((List.getD p11 j12 0 : Nat) : Int)) * z1c1)))).bind fun p13 => (need (List.length p13 = List.length p11)).bind fun c13 => (cutP (List.length x5) 1 (List.length x5 : Int)).bind fun p14 => (overW p13 (List.take p14.2 (List.drop p14.1 p13))).bind fun y15 => (inI (List.length x5) (IntKind.wrap .i64 (a4 + 1))).bind fun j16 => (u64P 0).bind fun w17 => some (.inl (.p4 x1c0 z1c1 x1c2 x1c3 x2 x3 a4 (List.set y15 j16 w17) a6 (IntKind.wrap .i64 (a7 + 1))))) ((runP kdp (.fn x5 x3 0)).bind fun p10 => (need (List.length p10 = List.length x5)).bind fun c10 => (inI (List.length x5) 0).bind fun j11 => (runP kdp (.fn p10 x1c0 (IntKind.wrap .u64 ((((List.getD p10 j11 0 : Nat) : Int)) * z1c1)))).bind fun p12 => (need (List.length p12 = List.length p10)).bind fun c12 => (cutP (List.length x5) 1 (List.length x5 : Int)).bind fun p13 => (overW p12 (List.take p13.2 (List.drop p13.1 p12))).bind fun y14 => (inI (List.length x5) (IntKind.wrap .i64 (a4 + 1))).bind fun j15 => (u64P 0).bind fun w16 => some (.inl (.p4 x1c0 z1c1 x1c2 x1c3 x2 x3 a4 (List.set y14 j15 w16) a6 (IntKind.wrap .i64 (a7 + 1)))))) (cond (decide ((cmpN (digs B (num B x5)) x1c0) ≥ 0)) (some (.inr ((subN (digs B (num B x5)) x1c0).1))) (some (.inr (digs B (num B x5)))))
noncomputable def kcw : kfe → Option (kfe ⊕ kde)
 | .fn x1c0 z1c1 x1c2 x1c3 x2 x3 => kmx x1c0 z1c1 x1c2 x1c3 x2 x3
 | .p4 x1c0 z1c1 x1c2 x1c3 x2 x3 a4 x5 a6 a7 => kir x1c0 z1c1 x1c2 x1c3 x2 x3 a4 x5 a6 a7
@[reducible] def ktl (h0 : AH) (r : kde) (v : AV) (h' : AH) : Prop := ∃ s1 : Sl, v = s1.v ∧ Nats h' s1 r ∧ Grow h0 h' ∧ Own h0 s1
def klw (r : kde) : kfe → Prop
 | .fn x1c0 z1c1 x1c2 x1c3 x2 x3 => ∀ {h : AH} {s1c0 : Sl} {s1c2 : Sl} {s1c3 : Sl} {a2 : Sl} {a3 : Sl} {i1 : Nat}, h.has i1 [s1c0.v, .int .u64 z1c1, s1c2.v, s1c3.v] T.kcf → Nats h s1c0 x1c0 → Nats h s1c2 x1c2 → Nats h s1c3 x1c3 → Nats h a2 x2 → Nats h a3 x3 → Runs (go (.fn F.kba [.ptr (some (.new i1 0)), a2.v, a3.v]) h) (ktl h r)
 | .p4 x1c0 z1c1 x1c2 x1c3 x2 x3 a4 x5 a6 a7 => ∀ {h0 h : AH} {s1c0 : Sl} {s1c2 : Sl} {s1c3 : Sl} {a2 : Sl} {a3 : Sl} {a5 : Sl} {i5 : Nat} {i1 : Nat}, Grow h0 h → h0.has i1 [s1c0.v, .int .u64 z1c1, s1c2.v, s1c3.v] T.kcf → Nats h0 s1c0 x1c0 → Nats h0 s1c2 x1c2 → Nats h0 s1c3 x1c3 → Nats h0 a2 x2 → Nats h0 a3 x3 → Vec h a5 i5 x5 → h0.blks.size ≤ i5 → Runs (go (.pt F.kba Td.kmq [(0, .ptr (some (.new i1 0))), (1, a2.v), (2, a3.v), (7, .int .i64 a4), (8, a5.v), (20, .int .i64 a6), (21, .int .i64 a7)]) h) (ktl h0 r)
theorem k1y {r : kde} {o : kfe ⊕ kde} {x1c0 : List Nat} {z1c1 : Int} {x1c2 : List Nat} {x1c3 : List Nat} {x2 : List Nat} {x3 : List Nat} (e : kmx x1c0 z1c1 x1c2 x1c3 x2 x3 = some o) (good : GoodS (klw r) r o) : klw r (.fn x1c0 z1c1 x1c2 x1c3 x2 x3) := by
 intro h s1c0 s1c2 s1c3 a2 a3 i1 b1 n1c0 n1c2 n1c3 n2 n3
 rw [kbfd]
 unfold kmx at e
 refine Runs.step rfl ?_
 refine Runs.step (AH.has.rd b1 0 rfl (asSl_v _)) ?_
 rw [n1c0.len]
 obtain ⟨m4, q4, e⟩ := Option.bind_eq_some_iff.1 e
 refine Runs.mk q4 kdi fun s4 H4 v4 g4 => ?_
 cases e
 exact good g4 b1 n1c0 n1c2 n1c3 n2 n3 v4 (Nat.le_refl _)
theorem k5r {r : kde} {o : kfe ⊕ kde} {x1c0 : List Nat} {z1c1 : Int} {x1c2 : List Nat} {x1c3 : List Nat} {x2 : List Nat} {x3 : List Nat} {a4 : Int} {x5 : List Nat} {a6 : Int} {a7 : Int} (e : kir x1c0 z1c1 x1c2 x1c3 x2 x3 a4 x5 a6 a7 = some o) (good : GoodS (klw r) r o) : klw r (.p4 x1c0 z1c1 x1c2 x1c3 x2 x3 a4 x5 a6 a7) := by
 intro h0 h s1c0 s1c2 s1c3 a2 a3 a5 i5 i1 g0 b1 n1c0 n1c2 n1c3 n2 n3 v5 hi5
 rw [kbb6]
 unfold kir at e
 rw [(n2.grow g0).len]
 rw [v5.nats.len]
 refine Runs.cond (fun k8 => ?_) (fun k8 => ?_)
 ·replace e := (condT k8).symm.trans e
  refine Runs.cond (fun k9 => ?_) (fun k9 => ?_)
  ·replace e := (condT k9).symm.trans e
   obtain ⟨y10, q10, e⟩ := Option.bind_eq_some_iff.1 e
   obtain ⟨r10, j10, l10⟩ := (n2.grow g0).atI q10
   refine Runs.step j10 ?_
   refine Runs.step (rdc l10 (kb _ _)) ?_
   obtain ⟨p11, q11, e⟩ := Option.bind_eq_some_iff.1 e
   obtain ⟨_, H11, e11, rfl, v11, u11⟩ := kpc v5 (n3.grow g0) (Av.of_base n3 hi5) q11
   refine Runs.step e11 ?_
   obtain ⟨c11, d11, e⟩ := Option.bind_eq_some_iff.1 e
   have hl11 := c11.down
   refine Runs.step rfl ?_
   refine Runs.step rfl ?_
   refine Runs.step (AH.has.rd ((g0.updr hi5 u11).has b1) 0 rfl (asSl_v _)) ?_
   obtain ⟨j12, q12, e⟩ := Option.bind_eq_some_iff.1 e
   refine Runs.step (v11.idx (by simp only [List.length_set, hl11]) q12) ?_
   refine Runs.step (v11.rd (by simp only [List.length_set, hl11]) q12 (kb _ _)) ?_
   refine Runs.step rfl ?_
   refine Runs.step (AH.has.rd ((g0.updr hi5 u11).has b1) 1 rfl (kb _ _)) ?_
   obtain ⟨p13, q13, e⟩ := Option.bind_eq_some_iff.1 e
   obtain ⟨_, H13, e13, rfl, v13, u13⟩ := kpc v11 (n1c0.grow (g0.updr hi5 u11)) (Av.of_base n1c0 hi5) q13
   refine Runs.step e13 ?_
   obtain ⟨c13, d13, e⟩ := Option.bind_eq_some_iff.1 e
   have hl13 := c13.down
   refine Runs.step rfl ?_
   obtain ⟨p14, q14, e⟩ := Option.bind_eq_some_iff.1 e
   obtain ⟨s14, e14, w14⟩ := v13.cutW (by simp only [List.length_set, hl13, hl11]) q14
   refine Runs.step e14 ?_
   obtain ⟨y15, q15, e⟩ := Option.bind_eq_some_iff.1 e
   have hl15 := kyy q15
   obtain ⟨H15, e15, v15, u15⟩ := v13.copyV (w14.nats v13 (by have := (kno q14).2.2.2; simpa only [List.length_set, hl13, hl11] using this)) q15
   refine Runs.step e15 ?_
   obtain ⟨j16, q16, e⟩ := Option.bind_eq_some_iff.1 e
   refine Runs.step (v15.idx (by simp only [List.length_set, hl15, hl13, hl11]) q16) ?_
   obtain ⟨w17, z17, e⟩ := Option.bind_eq_some_iff.1 e
   refine Runs.vput v15 (by simp only [List.length_set, hl15, hl13, hl11]) q16 z17 fun H17 v17 u17 => ?_
   cases e
   have G18 := ((((g0.updr hi5 u11).updr hi5 u13).updr hi5 u15).updr hi5 u17)
   exact good G18 b1 n1c0 n1c2 n1c3 n2 n3 v17 hi5
  ·replace e := (condF k9).symm.trans e
   obtain ⟨p10, q10, e⟩ := Option.bind_eq_some_iff.1 e
   obtain ⟨_, H10, e10, rfl, v10, u10⟩ := kpc v5 (n3.grow g0) (Av.of_base n3 hi5) q10
   refine Runs.step e10 ?_
   obtain ⟨c10, d10, e⟩ := Option.bind_eq_some_iff.1 e
   have hl10 := c10.down
   refine Runs.step rfl ?_
   refine Runs.step rfl ?_
   refine Runs.step (AH.has.rd ((g0.updr hi5 u10).has b1) 0 rfl (asSl_v _)) ?_
   obtain ⟨j11, q11, e⟩ := Option.bind_eq_some_iff.1 e
   refine Runs.step (v10.idx (by simp only [List.length_set, hl10]) q11) ?_
   refine Runs.step (v10.rd (by simp only [List.length_set, hl10]) q11 (kb _ _)) ?_
   refine Runs.step rfl ?_
   refine Runs.step (AH.has.rd ((g0.updr hi5 u10).has b1) 1 rfl (kb _ _)) ?_
   obtain ⟨p12, q12, e⟩ := Option.bind_eq_some_iff.1 e
   obtain ⟨_, H12, e12, rfl, v12, u12⟩ := kpc v10 (n1c0.grow (g0.updr hi5 u10)) (Av.of_base n1c0 hi5) q12
   refine Runs.step e12 ?_
   obtain ⟨c12, d12, e⟩ := Option.bind_eq_some_iff.1 e
   have hl12 := c12.down
   refine Runs.step rfl ?_
   obtain ⟨p13, q13, e⟩ := Option.bind_eq_some_iff.1 e
   obtain ⟨s13, e13, w13⟩ := v12.cutW (by simp only [List.length_set, hl12, hl10]) q13
   refine Runs.step e13 ?_
   obtain ⟨y14, q14, e⟩ := Option.bind_eq_some_iff.1 e
   have hl14 := kyy q14
   obtain ⟨H14, e14, v14, u14⟩ := v12.copyV (w13.nats v12 (by have := (kno q13).2.2.2; simpa only [List.length_set, hl12, hl10] using this)) q14
   refine Runs.step e14 ?_
   obtain ⟨j15, q15, e⟩ := Option.bind_eq_some_iff.1 e
   refine Runs.step (v14.idx (by simp only [List.length_set, hl14, hl12, hl10]) q15) ?_
   obtain ⟨w16, z16, e⟩ := Option.bind_eq_some_iff.1 e
   refine Runs.vput v14 (by simp only [List.length_set, hl14, hl12, hl10]) q15 z16 fun H16 v16 u16 => ?_
   cases e
   have G17 := ((((g0.updr hi5 u10).updr hi5 u12).updr hi5 u14).updr hi5 u16)
   exact good G17 b1 n1c0 n1c2 n1c3 n2 n3 v16 hi5
 ·replace e := (condF k8).symm.trans e
  obtain ⟨s9, e9, n9, o9⟩ := kbe4 v5.nats
  refine Runs.step e9 ?_
  refine Runs.step (seen (asSl_v _)) ?_
  refine Runs.step rfl ?_
  refine Runs.step (AH.has.rd (g0.has b1) 0 rfl (asSl_v _)) ?_
  obtain ⟨H10, e10, g10⟩ := kc8 n9 (n1c0.grow g0)
  refine Runs.step e10 ?_
  refine Runs.step (seen (kb _ _)) ?_
  refine Runs.cond (fun k11 => ?_) (fun k11 => ?_)
  ·replace e := (condT k11).symm.trans e
   refine Runs.step rfl ?_
   refine Runs.step (AH.has.rd ((g0.trans g10).has b1) 0 rfl (asSl_v _)) ?_
   obtain ⟨s12, H12, e12, n12, g12, o12⟩ := klb (n9.grow g10) (n1c0.grow (g0.trans g10))
   refine Runs.step e12 ?_
   refine Runs.step rfl ?_
   refine Runs.step (seen (asSl_v _)) ?_
   refine Runs.step (seen (kb _ _)) ?_
   cases e
   cases good
   have G13 := ((g0.trans g10).trans g12)
   exact Runs.ret ⟨s12, rfl, n12, G13, (o12.of_le (g0.trans g10))⟩
  ·replace e := (condF k11).symm.trans e
   cases e
   cases good
   exact Runs.ret ⟨s9, rfl, (n9.grow g10), (g0.trans g10), ((o9 _ (v5.own hi5)).of_le (Grow.refl _))⟩
theorem kbal {s : kfe} {r : kde} (it : Iter kcw s r) : klw r s := Iter.ind (fun s o e good => by
 cases s with
 | fn x1c0 z1c1 x1c2 x1c3 x2 x3 => exact @k1y _ _ x1c0 z1c1 x1c2 x1c3 x2 x3 e good
 | p4 x1c0 z1c1 x1c2 x1c3 x2 x3 a4 x5 a6 a7 => exact @k5r _ _ x1c0 z1c1 x1c2 x1c3 x2 x3 a4 x5 a6 a7 e good
 ) it
theorem kk1 {h : AH} {s1c0 : Sl} {s1c2 : Sl} {s1c3 : Sl} {a2 : Sl} {a3 : Sl} {i1 : Nat} {x1c0 : List Nat} {z1c1 : Int} {x1c2 : List Nat} {x1c3 : List Nat} {x2 : List Nat} {x3 : List Nat} (b1 : h.has i1 [s1c0.v, .int .u64 z1c1, s1c2.v, s1c3.v] T.kcf) (n1c0 : Nats h s1c0 x1c0) (n1c2 : Nats h s1c2 x1c2) (n1c3 : Nats h s1c3 x1c3) (n2 : Nats h a2 x2) (n3 : Nats h a3 x3) {r : kde} (q : runP kcw (.fn x1c0 z1c1 x1c2 x1c3 x2 x3) = some r) : Runs (go (.fn F.kba [.ptr (some (.new i1 0)), a2.v, a3.v]) h) (ktl h r) := kbal (kbn q) b1 n1c0 n1c2 n1c3 n2 n3
end Go.Ab

/- squeezed -/
set_option linter.unusedVariables false
set_option linter.unusedSimpArgs false
set_option maxRecDepth 10000
namespace Go.Ab
open Go.Proofs Go.Num
theorem getD0 (xs : List Nat) : xs.getD 0 0 = xs.headD 0 := by cases xs <;> rfl
theorem kxj {b : Nat} {xs : List Nat} (h : ∀ x ∈ xs, x < b) (hb : 0 < b) : xs.headD 0 = num b xs % b := by
 cases xs with
 | nil => simp [num]
 | cons x xs =>
  rw [kn1, Nat.add_mul_mod_self_left, Nat.mod_eq_of_lt (h x (by simp))]
  rfl
def montR (ts ys ns : List Nat) (v x : Nat) : List Nat :=
 let p := addMul ts ys x 0
 (addMul p ns (p.headD 0 * v % B) 0).tail ++ [0]
theorem kbh8 {ts ys ns : List Nat} {v x k : Nat} (lt : ∀ t ∈ ts, t < B) (hl : ts.length = k + 2) (hx : x < B) (hv : (num B ns * v + 1) % B = 0) (hY : num B ys < B ^ k) (hN : num B ns < B ^ k) (hT : num B ts < num B ys + num B ns) :
  (montR ts ys ns v x).length = k + 2 ∧ (∀ t ∈ montR ts ys ns v x, t < B) ∧ (∃ m, m < B ∧ num B ts + num B ys * x + num B ns * m = num B (montR ts ys ns v x) * B) := by
 have B0 : 0 < B := by decide
 unfold montR
 dsimp only
 generalize hp : addMul ts ys x 0 = p
 generalize hT' : num B ts = T at *
 generalize hY' : num B ys = Y at *
 generalize hN' : num B ns = N at *
 have lp : p.length = k + 2 := by rw [← hp, kld, hl]
 have ltp : ∀ t ∈ p, t < B := by rw [← hp]; exact kqv _ _ _ _
 have e1 : Y * x ≤ B ^ k * B := Nat.mul_le_mul (by omega) (by omega)
 have e3 : B ^ (k + 2) = B ^ k * B * B := by rw [Nat.pow_succ, Nat.pow_succ]
 have e4 : B ^ k * B * 4 ≤ B ^ k * B * B := Nat.mul_le_mul_left _ (by decide)
 have e5 : B ^ k * 2 ≤ B ^ k * B := Nat.mul_le_mul_left _ (by decide)
 have np : num B p = T + Y * x := by
  rw [← hp, kr9, hT', hY', hl, Nat.add_zero]
  refine Nat.mod_eq_of_lt ?_
  omega
 have hh : p.headD 0 = (T + Y * x) % B := by rw [kxj ltp B0, np]
 rw [hh]
 generalize hm : (T + Y * x) % B * v % B = m
 have mB : m < B := by rw [← hm]; exact Nat.mod_lt _ B0
 have e2 : N * m ≤ B ^ k * B := Nat.mul_le_mul (by omega) (by omega)
 generalize hp' : addMul p ns m 0 = p'
 have lp' : p'.length = k + 2 := by rw [← hp', kld, lp]
 have ltp' : ∀ t ∈ p', t < B := by rw [← hp']; exact kqv _ _ _ _
 have np' : num B p' = T + Y * x + N * m := by
  rw [← hp', kr9, np, hN', lp, Nat.add_zero]
  refine Nat.mod_eq_of_lt ?_
  omega
 have h0 : p'.headD 0 = 0 := by
  rw [kxj ltp' B0, np', ← hm]
  exact kbis B0 hv
 refine ⟨by simp; omega, ?_, m, mB, ?_⟩
 ·intro t ht
  rcases List.mem_append.1 ht with h | h
  ·exact ltp' t (List.mem_of_mem_tail h)
  ·rw [List.mem_singleton.1 h]; exact B0
 ·rw [← np', kmr B p', h0, show [0] = List.replicate 1 0 from rfl, kfd, Nat.zero_add, Nat.mul_comm]
theorem kbcl {p : List Nat} {k : Nat} (h : p.length = k + 2) : List.take (k + 1) (List.drop 1 p) = p.tail := by
 rw [List.drop_one, List.take_of_length_le (by simp; omega)]
theorem k9p {p : List Nat} {k : Nat} (h : p.length = k + 2) : ∃ z, overW p p.tail = some (p.tail ++ [z]) := by
 unfold overW
 rw [if_pos (by simp)]
 have hd : (p.drop p.tail.length).length = 1 := by simp; omega
 obtain ⟨z, hz⟩ := List.length_eq_one_iff.1 hd
 exact ⟨z, by rw [hz]⟩
theorem kt7 {xs : List Nat} {i : Nat} (h : xs.length ≤ i) : xs.getD i 0 = 0 := by simp [List.getD, List.getElem?_eq_none h]
theorem kmt {xs ys : List Nat} (hx : rt xs = true) (hy : rt ys = true) : cmpN xs ys = cmp (num B xs) (num B ys) := by
 unfold cmpN
 rw [if_pos ⟨hx, hy⟩]
theorem kbf0 (b : Nat) {xs : List Nat} (i : Nat) : num b (xs.take (i + 1)) = num b (xs.take i) + b ^ i * xs.getD i 0 := by
 rcases Nat.lt_or_ge i xs.length with h | h
 ·rw [kcl b h, kbk h]
 ·rw [List.take_of_length_le (by omega), List.take_of_length_le h, kt7 h]
  simp
section
variable {ns xs ys ones nexts : List Nat} {v k N X Y : Nat}
theorem k3a (hk : k ≤ 60) (ln : ns.length = k) (ltn : ∀ t ∈ ns, t < B) (lx : ∀ t ∈ xs, t < B) (ly : ∀ t ∈ ys, t < B) (hvB : v < B) (hv : (num B ns * v + 1) % B = 0) (hY : num B ys < num B ns) {ts : List Nat} (lt : ∀ t ∈ ts, t < B) (hl : ts.length = k + 2) {i : Nat} (hi : i < k) (hT : num B ts < num B ys + num B ns) :
  kir ns (v : Int) ones nexts xs ys (k : Int) ts (k : Int) (i : Int) = some (.inl (.p4 ns (v : Int) ones nexts xs ys (k : Int) (montR ts ys ns v (xs.getD i 0)) (k : Int) ((i + 1 : Nat) : Int))) := by
 have hN : num B ns < B ^ k := ln ▸ num_lt B1 ltn
 have run : ∀ x : Nat, x < B → ∀ p, addMul ts ys x 0 = p → ∀ q, addMul p ns (p.headD 0 * v % B) 0 = q →
   p.length = k + 2 ∧ q.length = k + 2 ∧ runP kdp (.fn ts ys (x : Int)) = some p ∧ runP kdp (.fn p ns (IntKind.wrap .u64 (((List.getD p 0 0 : Nat) : Int) * (v : Int)))) = some q := by
  intro x hx p hp q hq
  have l1 : p.length = k + 2 := by rw [← hp, kld, hl]
  refine ⟨l1, by rw [← hq, kld, l1], ?_, ?_⟩
  ·rw [kxf lt ly hx (by omega), hp]
  ·rw [← Int.natCast_mul, wrapU, getD0]
   have : (((p.headD 0 * v : Nat) : Int)) % 18446744073709551616 = ((p.headD 0 * v % B : Nat) : Int) := rfl
   rw [this, kxf (hp ▸ kqv _ _ _ _) ltn (Nat.mod_lt _ (by decide)) (by omega), hq]
 unfold kir
 rw [condT (by rw [decide_eq_true_eq]; omega)]
 have fin : ∀ q : List Nat, q.length = k + 2 → ∀ r : Option (kfe ⊕ kde), r = ((cutP ts.length 1 (ts.length : Int)).bind fun p14 => (overW q (List.take p14.2 (List.drop p14.1 q))).bind fun y15 => (inI ts.length (IntKind.wrap .i64 ((k : Int) + 1))).bind fun j16 => (u64P 0).bind fun w17 => some (.inl (.p4 ns (v : Int) ones nexts xs ys (k : Int) (List.set y15 j16 w17) (k : Int) (IntKind.wrap .i64 ((i : Int) + 1))))) →
   r = some (.inl (.p4 ns (v : Int) ones nexts xs ys (k : Int) (q.tail ++ [0]) (k : Int) ((i + 1 : Nat) : Int))) := by
  intro q lq r hr
  rw [hr, hl]
  have c := k0u (len := k + 2) (lo := 1) (n := k + 1) (by omega) (by omega)
  rw [show 1 + (k + 1) = k + 2 from by omega] at c
  rw [show ((1 : Nat) : Int) = 1 from rfl] at c
  obtain ⟨z, hz⟩ := k9p lq
  rw [c, Option.bind_some]
  dsimp only
  rw [kbcl lq, hz, Option.bind_some, ks (by omega), kbh (by omega), Option.bind_some, show u64P 0 = some 0 from rfl, Option.bind_some, ks (by omega)]
  have := kp9 q.tail z 0 [] (n := k + 1) (by simp; omega)
  rw [this, List.append_nil]
 by_cases hx : i < xs.length
 ·have hxB := lx xs[i] (List.getElem_mem _)
  obtain ⟨l1, l2, r1, r2⟩ := run xs[i] hxB _ rfl _ rfl
  rw [condT (by rw [decide_eq_true_eq]; omega), kbf hx, Option.bind_some, r1, Option.bind_some, ki (by rw [l1, hl]), Option.bind_some, show (0 : Int) = ((0 : Nat) : Int) from rfl, kbh (by omega), Option.bind_some, r2, Option.bind_some, ki (by rw [l1, l2]), Option.bind_some]
  refine (fin _ l2 _ rfl).trans ?_
  unfold montR
  rw [kbk hx]
 ·obtain ⟨l1, l2, r1, r2⟩ := run 0 (by decide) _ rfl _ rfl
  rw [show ((0 : Nat) : Int) = 0 from rfl] at r1
  rw [condF (by rw [decide_eq_false_iff_not]; omega), r1, Option.bind_some, ki (by rw [l1, hl]), Option.bind_some, show (0 : Int) = ((0 : Nat) : Int) from rfl, kbh (by omega), Option.bind_some, r2, Option.bind_some, ki (by rw [l1, l2]), Option.bind_some]
  refine (fin _ l2 _ rfl).trans ?_
  unfold montR
  rw [kt7 (show xs.length ≤ i from by omega)]
theorem kzd (hk : k ≤ 60) (ln : ns.length = k) (ltn : ∀ t ∈ ns, t < B) (tn : Trim ns) (lx : ∀ t ∈ xs, t < B) (ly : ∀ t ∈ ys, t < B) (hvB : v < B) (hv : (num B ns * v + 1) % B = 0) (ho : num B ns % 2 = 1) (hX : xs.length ≤ k) (hY : num B ys < num B ns) :
  ∀ (d i : Nat), i + d = k → ∀ ts : List Nat, (∀ t ∈ ts, t < B) → ts.length = k + 2 → num B ts < num B ys + num B ns → (∃ M, num B ts * B ^ i = num B (xs.take i) * num B ys + num B ns * M) →
   Iter kcw (.p4 ns (v : Int) ones nexts xs ys (k : Int) ts (k : Int) (i : Int)) (digs B (redc (num B ns) (64 * k) (num B xs * num B ys)))
 | 0, i, hi, ts, lt, hl, hT, ⟨M, hM⟩ => by
  have hi : i = k := by omega
  subst hi
  have hN : num B ns < B ^ i := ln ▸ num_lt B1 ltn
  have h64 : B ^ i * 2 ≤ B ^ 64 := by
   calc B ^ i * 2 ≤ B ^ i * B := Nat.mul_le_mul_left _ (by decide)
    _ = B ^ (i + 1) := (Nat.pow_succ ..).symm
    _ ≤ B ^ 64 := Nat.pow_le_pow_right (by decide) (by omega)
  have rn : rt ns = true := rt_iff.2 ⟨by omega, tn⟩
  have rT : rt (digs B (num B ts)) = true := kj (by omega)
  rw [List.take_of_length_le hX] at hM
  have e64 : B ^ i = 2 ^ (64 * i) := by rw [show B = 2 ^ 64 from rfl, ← Nat.pow_mul]
  rw [e64] at hM
  refine .done ?_
  show kir _ _ _ _ _ _ _ _ _ _ = _
  unfold kir
  rw [condF (by rw [decide_eq_false_iff_not]; omega), kmt rT rn, kf B2]
  by_cases hc : num B ts < num B ns
  ·have : cmp (num B ts) (num B ns) = -1 := by unfold cmp; rw [if_pos hc]
   rw [this, show decide ((-1 : Int) ≥ 0) = false from rfl, cond_false]
   rw [← kz7 ho hc (by rw [hM, Nat.add_mul_mod_self_left])]
  ·have : decide (cmp (num B ts) (num B ns) ≥ 0) = true := by
    unfold cmp
    rw [if_neg hc]
    split <;> rfl
   rw [this, cond_true]
   unfold subN
   rw [if_pos ⟨rT, rn⟩, kf B2, if_neg hc]
   rw [← kz7 (r := num B ts - num B ns) ho (by omega)]
   rw [Nat.sub_mul, hM, ← Nat.add_mul_mod_self_left (_ - _) (num B ns) (2 ^ (64 * i)), Nat.sub_add_cancel]
   ·rw [Nat.add_mul_mod_self_left]
   ·rw [← hM]
    exact Nat.mul_le_mul_right _ (by omega)
 | d + 1, i, hi, ts, lt, hl, hT, ⟨M, hM⟩ => by
  have hN : num B ns < B ^ k := ln ▸ num_lt B1 ltn
  have hx : xs.getD i 0 < B := by
   rcases Nat.lt_or_ge i xs.length with h | h
   ·rw [kbk h]; exact lx _ (List.getElem_mem _)
   ·rw [kt7 h]; decide
  obtain ⟨o1, o2, m, hm, o3⟩ := kbh8 (v := v) (ns := ns) (ys := ys) lt hl hx hv (by omega) hN hT
  refine .next (k3a hk ln ltn lx ly hvB hv hY lt hl (by omega) hT) (kzd hk ln ltn tn lx ly hvB hv ho hX hY d (i + 1) (by omega) _ o2 o1 ?_ ⟨M + B ^ i * m, ?_⟩)
  ·have := k98 hT hx hm
   rwa [o3, Nat.mul_div_cancel _ (by decide)] at this
  ·rw [kbf0, Nat.pow_succ]
   have := kbgv hM o3
   rw [this, Nat.mul_comm (B ^ i) m, Nat.mul_comm m]
theorem kbh4 (hk : k ≤ 60) (ln : ns.length = k) (ltn : ∀ t ∈ ns, t < B) (tn : Trim ns) (lx : ∀ t ∈ xs, t < B) (ly : ∀ t ∈ ys, t < B) (hvB : v < B) (hv : (num B ns * v + 1) % B = 0) (ho : num B ns % 2 = 1) (hX : xs.length ≤ k) (hY : num B ys < num B ns) :
  runP kcw (.fn ns (v : Int) ones nexts xs ys) = some (digs B (redc (num B ns) (64 * k) (num B xs * num B ys))) := by
 refine kbg (.next (s' := .p4 ns (v : Int) ones nexts xs ys (k : Int) (List.replicate (k + 2) 0) (k : Int) ((0 : Nat) : Int)) ?_ (kzd hk ln ltn tn lx ly hvB hv ho hX hY k 0 (by omega) _ ?_ (by simp) ?_ ⟨0, ?_⟩))
 ·show kmx _ _ _ _ _ _ = _
  unfold kmx
  rw [ln, show ((k : Int) + 2) = ((k + 2 : Nat) : Int) from by omega, kz (by omega), keq (by omega), Option.bind_some]
  rfl
 ·intro t ht
  rw [List.eq_of_mem_replicate ht]
  decide
 ·have : num B (List.replicate (k + 2) 0) = 0 := by have := kfd B [] (k + 2); simpa [num] using this
  rw [this]
  omega
 ·have : num B (List.replicate (k + 2) 0) = 0 := by have := kfd B [] (k + 2); simpa [num] using this
  simp [this, num]
end
end Go.Ab

/- squeezed -/
set_option linter.unusedVariables false
set_option linter.unusedSimpArgs false
set_option maxRecDepth 10000
namespace Go.Ab
open Go.Proofs Go.Num
theorem Bl.det {x m n : Nat} (a : Bl x m) (b : Bl x n) : m = n := Nat.le_antisymm (a.le b.1) (b.le a.1)
theorem kt3 {a : Int} {h : AH} (c : 0 ≤ a ∧ a < 18446744073709551616) : go (.fn F.kgd [.int .u64 a]) h = some (.int .i64 ((bl (Int.toNat a) : Nat) : Int), h) := by
 obtain ⟨x, rfl⟩ : ∃ x : Nat, a = (x : Int) := ⟨a.toNat, by omega⟩
 obtain ⟨n, e, b⟩ := kzm (x := x) (by omega) (h := h)
 rw [e, Int.toNat_natCast, b.det (bl_Bl x)]
inductive kj1
 | fn (x1 : List Nat)
 | no
abbrev kgm := Int
noncomputable def kl1 (x1 : List Nat) : Option (kj1 ⊕ kgm) :=
 cond (!(rt x1)) (some (.inr 0)) (cond (decide ((List.length x1 : Int) = 0)) (some (.inr 0)) ((atI x1 (IntKind.wrap .i64 ((List.length x1 : Int) - 1))).bind fun y5 => (need (0 ≤ ((y5 : Int)) ∧ ((y5 : Int)) < 18446744073709551616)).bind fun c6_0 => some (.inr (IntKind.wrap .i64 ((IntKind.wrap .i64 (64 * (IntKind.wrap .i64 ((List.length x1 : Int) - 1)))) + (((bl (Int.toNat ((y5 : Int))) : Nat) : Int)))))))
noncomputable def kuk : kj1 → Option (kj1 ⊕ kgm)
 | .fn x1 => kl1 x1
 | .no => none
@[reducible] def ktr (h0 : AH) (r : kgm) (v : AV) (h' : AH) : Prop := v = .int .i64 r ∧ Grow h0 h'
def ku2 (r : kgm) : kj1 → Prop
 | .fn x1 => ∀ {h : AH} {a1 : Sl}, Nats h a1 x1 → Runs (go (.fn F.kj4 [a1.v]) h) (ktr h r)
 | .no => True
theorem kbik {r : kgm} {o : kj1 ⊕ kgm} {x1 : List Nat} (e : kl1 x1 = some o) (good : GoodS (ku2 r) r o) : ku2 r (.fn x1) := by
 intro h a1 n1
 rw [k71]
 unfold kl1 at e
 rw [n1.len]
 refine Runs.step (kcd n1) ?_
 refine Runs.step (seen rfl) ?_
 refine Runs.cond (fun k3 => ?_) (fun k3 => ?_)
 ·replace e := (condT k3).symm.trans e
  cases e
  cases good
  exact Runs.ret ⟨rfl, (Grow.refl _)⟩
 ·replace e := (condF k3).symm.trans e
  refine Runs.cond (fun k4 => ?_) (fun k4 => ?_)
  ·replace e := (condT k4).symm.trans e
   cases e
   cases good
   exact Runs.ret ⟨rfl, (Grow.refl _)⟩
  ·replace e := (condF k4).symm.trans e
   obtain ⟨y5, q5, e⟩ := Option.bind_eq_some_iff.1 e
   obtain ⟨r5, j5, l5⟩ := n1.atI q5
   refine Runs.step j5 ?_
   refine Runs.step (rdc l5 (kb _ _)) ?_
   obtain ⟨c6_0, q6_0, e⟩ := Option.bind_eq_some_iff.1 e
   refine Runs.step (kt3  c6_0.down) ?_
   refine Runs.step (seen (kb _ _)) ?_
   cases e
   cases good
   exact Runs.ret ⟨rfl, (Grow.refl _)⟩
theorem kbdf {s : kj1} {r : kgm} (it : Iter kuk s r) : ku2 r s := Iter.ind (fun s o e good => by
 cases s with
 | fn x1 => exact @kbik _ _ x1 e good
 | no => exact True.intro
 ) it
theorem k3i {h : AH} {a1 : Sl} {x1 : List Nat} (n1 : Nats h a1 x1) {r : kgm} (q : runP kuk (.fn x1) = some r) : Runs (go (.fn F.kj4 [a1.v]) h) (ktr h r) := kbdf (kbn q) n1
inductive kkc
 | fn (x1 : List Nat) (a2 : Int)
 | no
abbrev khc := Bool
noncomputable def kl3 (x1 : List Nat) (a2 : Int) : Option (kkc ⊕ khc) :=
 cond ((rt x1)) (cond (decide (a2 ≥ 0)) (cond (decide ((IntKind.wrap .i64 (Int.tdiv a2 64)) < (List.length x1 : Int))) ((atI x1 (IntKind.wrap .i64 (Int.tdiv a2 64))).bind fun y7 => cond (decide ((Int.tmod a2 64) < 0)) (none) (some (.inr (decide ((iand .u64 (ishr .u64 ((y7 : Int)) (Int.tmod a2 64)) 1) = 1))))) (some (.inr false))) (some (.inr false))) (some (.inr false))
noncomputable def ku3 : kkc → Option (kkc ⊕ khc)
 | .fn x1 a2 => kl3 x1 a2
 | .no => none
@[reducible] def kt5 (h0 : AH) (r : khc) (v : AV) (h' : AH) : Prop := v = .bool r ∧ Grow h0 h'
def ktw (r : khc) : kkc → Prop
 | .fn x1 a2 => ∀ {h : AH} {a1 : Sl}, Nats h a1 x1 → Runs (go (.fn F.kki [a1.v, .int .i64 a2]) h) (kt5 h r)
 | .no => True
theorem kbfj {r : khc} {o : kkc ⊕ khc} {x1 : List Nat} {a2 : Int} (e : kl3 x1 a2 = some o) (good : GoodS (ktw r) r o) : ktw r (.fn x1 a2) := by
 intro h a1 n1
 rw [kbdt]
 unfold kl3 at e
 rw [n1.len]
 refine Runs.step (kcd n1) ?_
 refine Runs.step (seen rfl) ?_
 refine Runs.cond (fun k4 => ?_) (fun k4 => ?_)
 ·replace e := (condT k4).symm.trans e
  refine Runs.cond (fun k5 => ?_) (fun k5 => ?_)
  ·replace e := (condT k5).symm.trans e
   refine Runs.cond (fun k6 => ?_) (fun k6 => ?_)
   ·replace e := (condT k6).symm.trans e
    obtain ⟨y7, q7, e⟩ := Option.bind_eq_some_iff.1 e
    obtain ⟨r7, j7, l7⟩ := n1.atI q7
    refine Runs.step j7 ?_
    refine Runs.step (rdc l7 (kb _ _)) ?_
    refine Runs.cond (fun k8 => ?_) (fun k8 => ?_)
    ·replace e := (condT k8).symm.trans e
     cases e
    ·replace e := (condF k8).symm.trans e
     cases e
     cases good
     exact Runs.ret ⟨rfl, (Grow.refl _)⟩
   ·replace e := (condF k6).symm.trans e
    cases e
    cases good
    exact Runs.ret ⟨rfl, (Grow.refl _)⟩
  ·replace e := (condF k5).symm.trans e
   cases e
   cases good
   exact Runs.ret ⟨rfl, (Grow.refl _)⟩
 ·replace e := (condF k4).symm.trans e
  cases e
  cases good
  exact Runs.ret ⟨rfl, (Grow.refl _)⟩
theorem k38 {s : kkc} {r : khc} (it : Iter ku3 s r) : ktw r s := Iter.ind (fun s o e good => by
 cases s with
 | fn x1 a2 => exact @kbfj _ _ x1 a2 e good
 | no => exact True.intro
 ) it
theorem k8v {h : AH} {a1 : Sl} {x1 : List Nat} {a2 : Int} (n1 : Nats h a1 x1) {r : khc} (q : runP ku3 (.fn x1 a2) = some r) : Runs (go (.fn F.kki [a1.v, .int .i64 a2]) h) (kt5 h r) := k38 (kbn q) n1
inductive khb
 | fn (x1 : List Nat)
 | p6 (x1 : List Nat) (a2 : Int) (a3 : Int)
abbrev kd8 := Int
noncomputable def kfk (x1 : List Nat) : Option (khb ⊕ kd8) :=
 cond (!(rt x1)) (some (.inr 0)) (cond (decide ((List.length x1 : Int) = 0)) (some (.inr 0)) ((atI x1 (IntKind.wrap .i64 ((List.length x1 : Int) - 1))).bind fun y5 => some (.inl (.p6 x1 0 ((y5 : Int))))))
noncomputable def kht (x1 : List Nat) (a2 : Int) (a3 : Int) : Option (khb ⊕ kd8) :=
 cond (decide (a3 > 0)) (some (.inl (.p6 x1 (IntKind.wrap .i64 (a2 + 1)) (IntKind.wrap .u64 (Int.tdiv a3 2))))) (some (.inr (IntKind.wrap .i64 (a2 + (IntKind.wrap .i64 (64 * (IntKind.wrap .i64 ((List.length x1 : Int) - 1))))))))
noncomputable def knq : khb → Option (khb ⊕ kd8)
 | .fn x1 => kfk x1
 | .p6 x1 a2 a3 => kht x1 a2 a3
@[reducible] def kqh (h0 : AH) (r : kd8) (v : AV) (h' : AH) : Prop := v = .int .i64 r ∧ Grow h0 h'
def kky (r : kd8) : khb → Prop
 | .fn x1 => ∀ {h : AH} {a1 : Sl}, Nats h a1 x1 → Runs (go (.fn F.kdw [a1.v]) h) (kqh h r)
 | .p6 x1 a2 a3 => ∀ {h0 h : AH} {a1 : Sl}, Grow h0 h → Nats h a1 x1 → Runs (go (.pt F.kdw Td.kqy [(0, a1.v), (4, .int .i64 a2), (5, .int .u64 a3)]) h) (kqh h0 r)
theorem kbay {r : kd8} {o : khb ⊕ kd8} {x1 : List Nat} (e : kfk x1 = some o) (good : GoodS (kky r) r o) : kky r (.fn x1) := by
 intro h a1 n1
 rw [kbim]
 unfold kfk at e
 rw [n1.len]
 refine Runs.step (kbr n1) ?_
 refine Runs.step (seen rfl) ?_
 refine Runs.cond (fun k3 => ?_) (fun k3 => ?_)
 ·replace e := (condT k3).symm.trans e
  cases e
  cases good
  exact Runs.ret ⟨rfl, (Grow.refl _)⟩
 ·replace e := (condF k3).symm.trans e
  refine Runs.cond (fun k4 => ?_) (fun k4 => ?_)
  ·replace e := (condT k4).symm.trans e
   cases e
   cases good
   exact Runs.ret ⟨rfl, (Grow.refl _)⟩
  ·replace e := (condF k4).symm.trans e
   obtain ⟨y5, q5, e⟩ := Option.bind_eq_some_iff.1 e
   obtain ⟨r5, j5, l5⟩ := n1.atI q5
   refine Runs.step j5 ?_
   refine Runs.step (rdc l5 (kb _ _)) ?_
   cases e
   exact good (Grow.refl _) n1
theorem kbhk {r : kd8} {o : khb ⊕ kd8} {x1 : List Nat} {a2 : Int} {a3 : Int} (e : kht x1 a2 a3 = some o) (good : GoodS (kky r) r o) : kky r (.p6 x1 a2 a3) := by
 intro h0 h a1 g0 n1
 rw [k1x]
 unfold kht at e
 rw [n1.len]
 refine Runs.cond (fun k4 => ?_) (fun k4 => ?_)
 ·replace e := (condT k4).symm.trans e
  cases e
  exact good g0 n1
 ·replace e := (condF k4).symm.trans e
  cases e
  cases good
  exact Runs.ret ⟨rfl, g0⟩
theorem k6x {s : khb} {r : kd8} (it : Iter knq s r) : kky r s := Iter.ind (fun s o e good => by
 cases s with
 | fn x1 => exact @kbay _ _ x1 e good
 | p6 x1 a2 a3 => exact @kbhk _ _ x1 a2 a3 e good
 ) it
theorem k64 {h : AH} {a1 : Sl} {x1 : List Nat} (n1 : Nats h a1 x1) {r : kd8} (q : runP knq (.fn x1) = some r) : Runs (go (.fn F.kdw [a1.v]) h) (kqh h r) := k6x (kbn q) n1
inductive kgu
 | fn (x1 : List Nat) (a2 : Int)
 | p6 (a1 : Int) (a2 : Int) (a3 : Int)
abbrev kdu := Bool
noncomputable def kdq (x1 : List Nat) (a2 : Int) : Option (kgu ⊕ kdu) :=
 cond (!(rt x1)) (some (.inr false)) (cond (decide (a2 < 0)) (some (.inr false)) (cond (decide ((IntKind.wrap .i64 (Int.tdiv a2 64)) ≥ (List.length x1 : Int))) (some (.inr false)) ((atI x1 (IntKind.wrap .i64 (Int.tdiv a2 64))).bind fun y7 => some (.inl (.p6 a2 ((y7 : Int)) 0)))))
noncomputable def kid (a1 : Int) (a2 : Int) (a3 : Int) : Option (kgu ⊕ kdu) :=
 cond (decide (a3 < (Int.tmod a1 64))) (some (.inl (.p6 a1 (IntKind.wrap .u64 (Int.tdiv a2 2)) (IntKind.wrap .i64 (a3 + 1))))) (some (.inr (decide ((Int.tmod a2 2) = 1))))
noncomputable def kq3 : kgu → Option (kgu ⊕ kdu)
 | .fn x1 a2 => kdq x1 a2
 | .p6 a1 a2 a3 => kid a1 a2 a3
@[reducible] def kqn (h0 : AH) (r : kdu) (v : AV) (h' : AH) : Prop := v = .bool r ∧ Grow h0 h'
def klo (r : kdu) : kgu → Prop
 | .fn x1 a2 => ∀ {h : AH} {a1 : Sl}, Nats h a1 x1 → Runs (go (.fn F.kfb [a1.v, .int .i64 a2]) h) (kqn h r)
 | .p6 a1 a2 a3 => ∀ {h0 h : AH}, Grow h0 h → Runs (go (.pt F.kfb Td.kqg [(1, .int .i64 a1), (6, .int .u64 a2), (7, .int .i64 a3)]) h) (kqn h0 r)
theorem kbbk {r : kdu} {o : kgu ⊕ kdu} {x1 : List Nat} {a2 : Int} (e : kdq x1 a2 = some o) (good : GoodS (klo r) r o) : klo r (.fn x1 a2) := by
 intro h a1 n1
 rw [k9d]
 unfold kdq at e
 rw [n1.len]
 refine Runs.step (kbr n1) ?_
 refine Runs.step (seen rfl) ?_
 refine Runs.cond (fun k4 => ?_) (fun k4 => ?_)
 ·replace e := (condT k4).symm.trans e
  cases e
  cases good
  exact Runs.ret ⟨rfl, (Grow.refl _)⟩
 ·replace e := (condF k4).symm.trans e
  refine Runs.cond (fun k5 => ?_) (fun k5 => ?_)
  ·replace e := (condT k5).symm.trans e
   cases e
   cases good
   exact Runs.ret ⟨rfl, (Grow.refl _)⟩
  ·replace e := (condF k5).symm.trans e
   refine Runs.cond (fun k6 => ?_) (fun k6 => ?_)
   ·replace e := (condT k6).symm.trans e
    cases e
    cases good
    exact Runs.ret ⟨rfl, (Grow.refl _)⟩
   ·replace e := (condF k6).symm.trans e
    obtain ⟨y7, q7, e⟩ := Option.bind_eq_some_iff.1 e
    obtain ⟨r7, j7, l7⟩ := n1.atI q7
    refine Runs.step j7 ?_
    refine Runs.step (rdc l7 (kb _ _)) ?_
    cases e
    exact good (Grow.refl _)
theorem k8r {r : kdu} {o : kgu ⊕ kdu} {a1 : Int} {a2 : Int} {a3 : Int} (e : kid a1 a2 a3 = some o) (good : GoodS (klo r) r o) : klo r (.p6 a1 a2 a3) := by
 intro h0 h g0
 rw [k69]
 unfold kid at e
 refine Runs.cond (fun k4 => ?_) (fun k4 => ?_)
 ·replace e := (condT k4).symm.trans e
  cases e
  exact good g0
 ·replace e := (condF k4).symm.trans e
  cases e
  cases good
  exact Runs.ret ⟨rfl, g0⟩
theorem kbdw {s : kgu} {r : kdu} (it : Iter kq3 s r) : klo r s := Iter.ind (fun s o e good => by
 cases s with
 | fn x1 a2 => exact @kbbk _ _ x1 a2 e good
 | p6 a1 a2 a3 => exact @k8r _ _ a1 a2 a3 e good
 ) it
theorem k55 {h : AH} {a1 : Sl} {x1 : List Nat} {a2 : Int} (n1 : Nats h a1 x1) {r : kdu} (q : runP kq3 (.fn x1 a2) = some r) : Runs (go (.fn F.kfb [a1.v, .int .i64 a2]) h) (kqn h r) := kbdw (kbn q) n1
end Go.Ab

/- squeezed -/
set_option linter.unusedVariables false
set_option linter.unusedSimpArgs false
set_option maxRecDepth 10000
namespace Go.Ab
open Go.Proofs Go.Num
def bitsN (xs : List Nat) : Nat := if rt xs = true then bl (num B xs) else 0
def bitN (xs : List Nat) (i : Int) : Bool := rt xs && (decide (0 ≤ i) && (num B xs).testBit i.toNat)
theorem kvd {xs : List Nat} (l : ∀ x ∈ xs, x < B) : ∀ i : Nat, num B xs / B ^ i = num B (xs.drop i)
 | 0 => by simp
 | i + 1 => by
  rw [Nat.pow_succ, Nat.mul_comm, ← Nat.div_div_eq_div_mul, kmr B xs]
  have h : xs.headD 0 < B := by
   cases xs with
   | nil => decide
   | cons x xs => exact l x (by simp)
  rw [Nat.add_mul_div_left _ _ (show 0 < B by decide), Nat.div_eq_of_lt h, Nat.zero_add, kvd (xs := xs.tail) (fun x hx => l x (List.mem_of_mem_tail hx)) i]
  rw [← List.drop_one, List.drop_drop, Nat.add_comm]
theorem B_pow2 (i : Nat) : B ^ i = 2 ^ (64 * i) := by rw [show B = 2 ^ 64 from rfl, ← Nat.pow_mul]
theorem bl_num {xs : List Nat} (l : ∀ x ∈ xs, x < B) (h : xs.length ≠ 0) (h0 : xs[xs.length - 1] ≠ 0) : bl (num B xs) = 64 * (xs.length - 1) + bl xs[xs.length - 1] := by
 have hd := kvd l (xs.length - 1)
 rw [List.drop_eq_getElem_cons (by omega), show xs.length - 1 + 1 = xs.length from by omega, List.drop_length, B_pow2] at hd
 have e : num B xs / 2 ^ (64 * (xs.length - 1)) = xs[xs.length - 1] := by rw [hd]; simp [num]
 refine (bl_Bl _).det (Bl.up (n := bl xs[xs.length - 1]) ?_ ?_)
 ·rw [e]; exact bl_Bl _
 ·rw [e]; omega
theorem bl_le {x m : Nat} (h : x < 2 ^ m) : bl x ≤ m := (bl_Bl x).le h
theorem kw2 {xs : List Nat} (h : rt xs = true) (hl : xs.length ≠ 0) : xs[xs.length - 1] ≠ 0 := by
 have t := (rt_iff.1 h).2 (fun e => hl (by rw [e]; rfl))
 rwa [List.getLast_eq_getElem] at t
theorem kbhv {xs : List Nat} (l : ∀ x ∈ xs, x < B) : runP kuk (.fn xs) = some ((bitsN xs : Nat) : Int) := by
 refine kbg (.done ?_)
 show kl1 _ = _
 unfold kl1 bitsN
 by_cases hr : rt xs = true
 ·rw [hr, if_pos rfl, show (!true) = false from rfl, cond_false]
  have h64 := (rt_iff.1 hr).1
  by_cases hl : xs.length = 0
  ·rw [condT (by rw [decide_eq_true_eq]; omega), List.length_eq_zero_iff.1 hl]
   rfl
  ·have hb := l xs[xs.length - 1] (List.getElem_mem _)
   have hb' : xs[xs.length - 1] < 18446744073709551616 := hb
   have hbl := bl_le (x := xs[xs.length - 1]) (m := 64) hb
   rw [condF (by rw [decide_eq_false_iff_not]; omega), show ((xs.length : Int) - 1) = ((xs.length - 1 : Nat) : Int) from by omega, kz (by omega), kbf (by omega), Option.bind_some]
   have hn : 0 ≤ ((xs[xs.length - 1] : Nat) : Int) ∧ ((xs[xs.length - 1] : Nat) : Int) < 18446744073709551616 := by omega
   simp only [ki hn, Option.bind_some]
   rw [Int.toNat_natCast, bl_num l hl (kw2 hr hl), show (64 * ((xs.length - 1 : Nat) : Int)) = ((64 * (xs.length - 1) : Nat) : Int) from by omega, kz (by omega), ← Int.natCast_add, kz (by omega)]
 ·rw [if_neg hr, show rt xs = false from by simpa using hr]
  rfl
theorem kyi {h : AH} {s : Sl} {xs : List Nat} (n : Nats h s xs) : Runs (go (.fn F.kj4 [s.v]) h) (ktr h (bitsN xs)) := k3i n (kbhv n.lt)
theorem k7d : bl 0 = 0 := rfl
theorem kbbv {x : Nat} (h : 0 < x) : bl x = bl (x / 2) + 1 := by
 by_cases h2 : x / 2 = 0
 ·have : x = 1 := by omega
  subst this
  decide
 ·have := Bl.up (x := x) (k := 1) (n := bl (x / 2)) (by rw [Nat.pow_one]; exact bl_Bl _) (by rw [Nat.pow_one]; omega)
  rw [(bl_Bl x).det this]
  omega
theorem tdiv2 (n : Nat) : Int.tdiv (n : Int) 2 = ((n / 2 : Nat) : Int) := rfl
theorem k0a {n : Nat} (h : n < 18446744073709551616) : IntKind.wrap .u64 (n : Int) = (n : Int) := by rw [wrapU]; omega
theorem kbgk {xs : List Nat} (hl : xs.length ≤ 64) (h0 : xs.length ≠ 0) : ∀ (x c : Nat), x < 18446744073709551616 → c + bl x ≤ 64 →
  Iter knq (.p6 xs (c : Int) (x : Int)) ((64 * (xs.length - 1) + (c + bl x) : Nat) : Int) := by
 intro x
 induction x using Nat.strongRecOn with
 | ind x ih =>
  intro c hx hc
  by_cases h : x = 0
  ·subst h
   refine .done ?_
   show kht _ _ _ = _
   unfold kht
   rw [condF (by simp), k7d, Nat.add_zero, show ((xs.length : Int) - 1) = ((xs.length - 1 : Nat) : Int) from by omega, kz (by omega), show (64 * ((xs.length - 1 : Nat) : Int)) = ((64 * (xs.length - 1) : Nat) : Int) from by omega, kz (by omega), ← Int.natCast_add, kz (by omega), Nat.add_comm]
  ·have hb := kbbv (x := x) (by omega)
   refine .next (s' := .p6 xs ((c + 1 : Nat) : Int) ((x / 2 : Nat) : Int)) ?_ ?_
   ·show kht _ _ _ = _
    unfold kht
    rw [condT (by rw [decide_eq_true_eq]; omega), ks (by omega), tdiv2, k0a (by omega)]
   ·have := ih (x / 2) (by omega) (c + 1) (by omega) (by omega)
    rwa [show c + 1 + bl (x / 2) = c + bl x from by omega] at this
theorem k5j {xs : List Nat} (l : ∀ x ∈ xs, x < B) : runP knq (.fn xs) = some ((bitsN xs : Nat) : Int) := by
 refine kbg ?_
 unfold bitsN
 by_cases hr : rt xs = true
 ·have h64 := (rt_iff.1 hr).1
  by_cases hl : xs.length = 0
  ·refine .done ?_
   show kfk _ = _
   unfold kfk
   rw [hr, if_pos rfl, show (!true) = false from rfl, cond_false, condT (by rw [decide_eq_true_eq]; omega), List.length_eq_zero_iff.1 hl]
   rfl
  ·have hb := l xs[xs.length - 1] (List.getElem_mem _)
   have hb' : xs[xs.length - 1] < 18446744073709551616 := hb
   have hbl := bl_le (x := xs[xs.length - 1]) (m := 64) hb
   have := kbgk h64 hl xs[xs.length - 1] 0 hb (by omega)
   rw [Nat.zero_add] at this
   rw [if_pos hr, bl_num l hl (kw2 hr hl)]
   refine .next ?_ this
   show kfk _ = _
   unfold kfk
   rw [hr, show (!true) = false from rfl, cond_false, condF (by rw [decide_eq_false_iff_not]; omega), show ((xs.length : Int) - 1) = ((xs.length - 1 : Nat) : Int) from by omega, kz (by omega), kbf (by omega), Option.bind_some]
   rfl
 ·refine .done ?_
  show kfk _ = _
  unfold kfk
  rw [if_neg hr, show rt xs = false from by simpa using hr]
  rfl
theorem ksu {h : AH} {s : Sl} {xs : List Nat} (n : Nats h s xs) : Runs (go (.fn F.kdw [s.v]) h) (kqh h (bitsN xs)) := k64 n (k5j n.lt)
theorem k03 {x : Nat} (hx : x < 18446744073709551616) : iand .u64 (x : Int) 1 = ((x % 2 : Nat) : Int) := by
 unfold iand
 rw [show IntKind.bits .u64 = 64 from rfl, wrapU]
 have e1 : BitVec.ofInt 64 (x : Int) = BitVec.ofNat 64 x := rfl
 have e2 : BitVec.ofInt 64 1 = BitVec.ofNat 64 1 := rfl
 rw [e1, e2, BitVec.toNat_and, BitVec.toNat_ofNat, BitVec.toNat_ofNat]
 rw [Nat.mod_eq_of_lt (show x < 2 ^ 64 from hx), Nat.mod_eq_of_lt (show 1 < 2 ^ 64 from by decide), Nat.and_one_is_mod]
 omega
theorem ksm {xs : List Nat} (l : ∀ x ∈ xs, x < B) {q r : Nat} (hq : q < xs.length) (hr : r < 64) : (num B xs).testBit (64 * q + r) = decide (xs[q] / 2 ^ r % 2 = 1) := by
 rw [Nat.testBit_eq_decide_div_mod_eq, Nat.pow_add, ← Nat.div_div_eq_div_mul, ← B_pow2, kvd l, List.drop_eq_getElem_cons hq, kn1]
 generalize num B (xs.drop (q + 1)) = Y
 congr 2
 have e : B = 2 ^ r * (2 ^ (63 - r) * 2) := by
  rw [← Nat.pow_succ, ← Nat.pow_add, show r + (63 - r).succ = 64 from by omega]
 have e2 : xs[q] + B * Y = xs[q] + 2 ^ r * (2 ^ (63 - r) * 2 * Y) := by rw [← Nat.mul_assoc, ← e]
 rw [e2, Nat.add_mul_div_left _ _ (Nat.pow_pos (by decide)), show 2 ^ (63 - r) * 2 * Y = 2 * (2 ^ (63 - r) * Y) from by rw [Nat.mul_comm (2 ^ (63 - r)) 2, Nat.mul_assoc], Nat.add_mul_mod_self_left]
theorem kvu {xs : List Nat} (l : ∀ x ∈ xs, x < B) {i : Nat} (hq : xs.length ≤ i / 64) : (num B xs).testBit i = false := by
 refine Nat.testBit_lt_two_pow ?_
 have h1 := num_lt B1 l
 rw [B_pow2] at h1
 have h2 : 2 ^ (64 * xs.length) ≤ 2 ^ i := Nat.pow_le_pow_right (by decide) (by omega)
 omega
theorem tdiv64 (n : Nat) : Int.tdiv (n : Int) 64 = ((n / 64 : Nat) : Int) := rfl
theorem tmod64 (n : Nat) : Int.tmod (n : Int) 64 = ((n % 64 : Nat) : Int) := rfl
theorem tmod2 (n : Nat) : Int.tmod (n : Int) 2 = ((n % 2 : Nat) : Int) := rfl
theorem k0r {xs : List Nat} {i : Int} (h : rt xs = false) : bitN xs i = false := by unfold bitN; rw [h]; rfl
theorem kwb {xs : List Nat} {i : Int} (h : i < 0) : bitN xs i = false := by unfold bitN; rw [show decide (0 ≤ i) = false from by rw [decide_eq_false_iff_not]; omega]; cases rt xs <;> rfl
theorem kkf {xs : List Nat} {i : Nat} (h : rt xs = true) : bitN xs (i : Int) = (num B xs).testBit i := by unfold bitN; rw [h, show decide (0 ≤ (i : Int)) = true from by rw [decide_eq_true_eq]; omega]; rfl
theorem kbf2 {xs : List Nat} (l : ∀ x ∈ xs, x < B) {i : Int} (hi : i ≤ 9223372036854775807) : runP ku3 (.fn xs i) = some (bitN xs i) := by
 refine kbg (.done ?_)
 show kl3 _ _ = _
 unfold kl3
 by_cases hr : rt xs = true
 ·rw [hr, cond_true]
  by_cases h0 : i < 0
  ·rw [condF (by rw [decide_eq_false_iff_not]; omega), kwb h0]
  ·obtain ⟨j, rfl⟩ : ∃ j : Nat, i = (j : Int) := ⟨i.toNat, by omega⟩
   rw [condT (by rw [decide_eq_true_eq]; omega), kkf hr, tdiv64, tmod64, kz (by omega)]
   by_cases hq : j / 64 < xs.length
   ·have hb : xs[j / 64] < 18446744073709551616 := l _ (List.getElem_mem _)
    have h2 : xs[j / 64] / 2 ^ (j % 64) < 18446744073709551616 := Nat.lt_of_le_of_lt (Nat.div_le_self _ _) hb
    rw [condT (by rw [decide_eq_true_eq]; omega), kbf hq, Option.bind_some, condF (by rw [decide_eq_false_iff_not]; omega), kb5, Nat.min_eq_left (by omega), k03 h2]
    have := ksm l hq (Nat.mod_lt j (show 0 < 64 by decide))
    rw [Nat.div_add_mod] at this
    rw [this]
    generalize xs[j / 64] / 2 ^ (j % 64) = z
    congr 3
    exact propext (by omega)
   ·rw [condF (by rw [decide_eq_false_iff_not]; omega), kvu l (by omega)]
 ·rw [show rt xs = false from by simpa using hr, cond_false, k0r (by simpa using hr)]
theorem kwu {h : AH} {s : Sl} {xs : List Nat} (n : Nats h s xs) {i : Int} (hi : i ≤ 9223372036854775807) : Runs (go (.fn F.kki [s.v, .int .i64 i]) h) (kt5 h (bitN xs i)) := k8v n (kbf2 n.lt hi)
theorem kv7 {i x0 : Nat} (hx0 : x0 < 18446744073709551616) : ∀ (d c : Nat), c + d = i % 64 → Iter kq3 (.p6 (i : Int) ((x0 / 2 ^ c : Nat) : Int) (c : Int)) (decide (x0 / 2 ^ (i % 64) % 2 = 1))
 | 0, c, hc => by
  refine .done ?_
  show kid _ _ _ = _
  unfold kid
  rw [tmod64, condF (by rw [decide_eq_false_iff_not]; omega), tmod2, ← hc, Nat.add_zero]
  congr 2
  rw [decide_eq_decide]
  omega
 | d + 1, c, hc => by
  have hle : x0 / 2 ^ c.succ ≤ x0 := Nat.div_le_self _ _
  refine .next ?_ (kv7 hx0 d (c + 1) (by omega))
  show kid _ _ _ = _
  unfold kid
  rw [tmod64, condT (by rw [decide_eq_true_eq]; omega), tdiv2, Nat.div_div_eq_div_mul, ← Nat.pow_succ, k0a (by omega), ks (by omega)]
theorem k30 {xs : List Nat} (l : ∀ x ∈ xs, x < B) {i : Int} (hi : i ≤ 9223372036854775807) : runP kq3 (.fn xs i) = some (bitN xs i) := by
 refine kbg ?_
 by_cases hr : rt xs = true
 ·by_cases h0 : i < 0
  ·refine .done ?_
   show kdq _ _ = _
   unfold kdq
   rw [hr, show (!true) = false from rfl, cond_false, condT (by rw [decide_eq_true_eq]; omega), kwb h0]
  ·obtain ⟨j, rfl⟩ : ∃ j : Nat, i = (j : Int) := ⟨i.toNat, by omega⟩
   rw [kkf hr]
   by_cases hq : j / 64 < xs.length
   ·have hb : xs[j / 64] < 18446744073709551616 := l _ (List.getElem_mem _)
    have := ksm l hq (Nat.mod_lt j (show 0 < 64 by decide))
    rw [Nat.div_add_mod] at this
    rw [this]
    have lp := kv7 (i := j) hb (j % 64) 0 (by omega)
    rw [Nat.pow_zero, Nat.div_one] at lp
    refine .next ?_ lp
    show kdq _ _ = _
    unfold kdq
    rw [hr, show (!true) = false from rfl, cond_false, condF (by rw [decide_eq_false_iff_not]; omega), tdiv64, kz (by omega), condF (by rw [decide_eq_false_iff_not]; omega), kbf hq, Option.bind_some]
    rfl
   ·refine .done ?_
    show kdq _ _ = _
    unfold kdq
    rw [hr, show (!true) = false from rfl, cond_false, condF (by rw [decide_eq_false_iff_not]; omega), tdiv64, kz (by omega), condT (by rw [decide_eq_true_eq]; omega), kvu l (by omega)]
 ·refine .done ?_
  show kdq _ _ = _
  unfold kdq
  rw [show rt xs = false from by simpa using hr, k0r (by simpa using hr)]
  rfl
theorem kbfv {h : AH} {s : Sl} {xs : List Nat} (n : Nats h s xs) {i : Int} (hi : i ≤ 9223372036854775807) : Runs (go (.fn F.kfb [s.v, .int .i64 i]) h) (kqn h (bitN xs i)) := k55 n (k30 n.lt hi)
end Go.Ab

/- squeezed -/
set_option linter.unusedVariables false
set_option linter.unusedSimpArgs false
set_option maxRecDepth 10000
namespace Go.Ab
open Go.Proofs Go.Num
def belowF (xs ns : List Nat) : Bool := rt xs && decide (cmpN xs ns < 0)
theorem kbf6 {h : AH} {i p : Nat} {a s0 s2 s3 : Sl} {z : Int} {xs ns : List Nat} (b : h.has i [s0.v, .int .u64 z, s2.v, s3.v] T.kcf) (hp : h.has p [.ptr (some (.new i 0))] T.koh) (m : Nats h s0 ns) (n : Nats h a xs) :
  Runs (go (.fn F.kc6 [a.v, .ptr (some (.new p 0))]) h) fun v h' => v = .bool (!belowF xs ns) ∧ Grow h h' := by
 rw [kbbo]
 refine Runs.step (kcd n) ?_
 refine Runs.step (seen rfl) ?_
 unfold belowF
 refine Runs.cond (fun k => ?_) (fun k => ?_)
 ·rw [show rt xs = false from by simpa using k]
  exact Runs.ret ⟨rfl, Grow.refl _⟩
 ·rw [show rt xs = true from by simpa using k, Bool.true_and]
  refine Runs.step rfl ?_
  refine Runs.step (AH.has.rd0 hp rfl rfl) ?_
  refine Runs.step rfl ?_
  refine Runs.step (AH.has.rd b 0 rfl (asSl_v _)) ?_
  obtain ⟨h', e, g⟩ := kc8 n m
  refine Runs.step e ?_
  refine Runs.step (seen (kb _ _)) ?_
  refine Runs.ret ⟨?_, g⟩
  congr 1
  rw [Bool.eq_iff_iff]
  simp
theorem k8n {h : AH} {i j : Nat} {a s0 s2 s3 : Sl} {z : Int} {xs ns ones nexts : List Nat} {e : TypeId} (b : h.has i [s0.v, .int .u64 z, s2.v, s3.v] T.kcf) (m : Nats h s0 ns) (m2 : Nats h s2 ones) (m3 : Nats h s3 nexts) (c : h.has j [a.v] e) (n : Nats h a xs) :
  Runs (go (.fn F.ktd [.ptr (some (.new i 0)), (⟨some (.new j 0), 1, .is 1⟩ : Sl).v]) h) fun v h' => v = .bool (belowF xs ns) ∧ Grow h h' := by
 rw [kbfx]
 refine Runs.new fun H1 b1 g1 => ?_
 have key : Runs (go (.fn F.kmd [(⟨some (.new j 0), 1, .is 1⟩ : Sl).v, .func (.func F.kc6) [] [.ptr (some (.new h.blks.size 0))]]) H1) fun v h' => v = .bool (!belowF xs ns) ∧ Grow H1 h' := by
  rw [k4w]
  have inner : Runs (go (.fn F.kc9 [(⟨some (.new j 0), 1, .is 1⟩ : Sl).v, .func (.func F.kc6) [] [.ptr (some (.new h.blks.size 0))]]) H1) fun v h' => v = .int .i64 (if belowF xs ns = true then -1 else 0) ∧ Grow H1 h' := by
   rw [kbej, kzq]
   refine Runs.ifT rfl ?_
   refine Runs.step (show idx (some (Ref.new j 0)) 1 0 1 = some ((Ref.new j 0).add 0) from rfl) ?_
   refine Runs.step (AH.has.rd (g1.has c) 0 rfl (asSl_v _)) ?_
   obtain ⟨_, H2, e2, rfl, g2⟩ := kbf6 (g1.has b) b1 (m.grow g1) (n.grow g1)
   refine Runs.step e2 ?_
   refine Runs.step (seen rfl) ?_
   cases hb : belowF xs ns
   ·refine Runs.ifT rfl ?_
    exact Runs.ret ⟨rfl, g2⟩
   ·refine Runs.ifF rfl ?_
    rw [kzq]
    refine Runs.ifF (show decide (IntKind.wrap .i64 (0 + 1) < ((1 : Nat) : Int)) = false from by decide) ?_
    exact Runs.ret ⟨rfl, g2⟩
  obtain ⟨_, H2, e2, rfl, g2⟩ := inner
  refine Runs.step e2 ?_
  refine Runs.step (seen (kb _ _)) ?_
  refine Runs.ret ⟨?_, g2⟩
  cases belowF xs ns <;> rfl
 obtain ⟨_, H2, e2, rfl, g2⟩ := key
 refine Runs.step e2 ?_
 refine Runs.step (seen rfl) ?_
 refine Runs.ret ⟨?_, g1.trans g2⟩
 cases belowF xs ns <;> rfl
end Go.Ab

/- squeezed -/
set_option linter.unusedVariables false
set_option linter.unusedSimpArgs false
set_option maxRecDepth 10000
namespace Go.Ab
open Go.Proofs Go.Num
inductive kc5
 | fn (x1c0 : List Nat) (z1c1 : Int) (x1c2 : List Nat) (x1c3 : List Nat) (x2 : List Nat) (x3 : List Nat)
 | p7 (x1c0 : List Nat) (z1c1 : Int) (x1c2 : List Nat) (x1c3 : List Nat) (x2 : List Nat) (x4 : List (List Nat)) (x5 : List Nat) (a6 : Int)
 | p12 (x1 : List Nat) (x2c0 : List Nat) (z2c1 : Int) (x2c2 : List Nat) (x2c3 : List Nat) (x3 : List (List Nat)) (x4 : List Nat) (a5 : Int)
 | p16 (x1 : List Nat) (x2c0 : List Nat) (z2c1 : Int) (x2c2 : List Nat) (x2c3 : List Nat) (x3 : List (List Nat)) (x4 : List Nat) (a5 : Int) (a6 : Int) (a7 : Int)
abbrev kb8 := List Nat × Int
noncomputable def klj (x1c0 : List Nat) (z1c1 : Int) (x1c2 : List Nat) (x1c3 : List Nat) (x2 : List Nat) (x3 : List Nat) : Option (kc5 ⊕ kb8) :=
 cond (!((belowF x2 x1c0))) (some (.inr ([], 1))) (cond (!(rt x3)) (some (.inr ([], 1))) (cond (decide ((List.length x3 : Int) > 8)) (some (.inr ([], 1))) ((runP kcw (.fn x1c0 z1c1 x1c2 x1c3 x2 x1c3)).bind fun p17 => some (.inl (.p7 x1c0 z1c1 x1c2 x1c3 x3 [x1c2] p17 0)))))
noncomputable def khg (x1c0 : List Nat) (z1c1 : Int) (x1c2 : List Nat) (x1c3 : List Nat) (x2 : List Nat) (x4 : List (List Nat)) (x5 : List Nat) (a6 : Int) : Option (kc5 ⊕ kb8) :=
 cond (decide (a6 < 15)) ((atX x4 (IntKind.wrap .i64 ((List.length x4 : Int) - 1))).bind fun y8 => (runP kcw (.fn x1c0 z1c1 x1c2 x1c3 y8 x5)).bind fun p9 => (need (growOk Pg (List.length x4 + 1) T.kq 1 = true)).bind fun c11 => some (.inl (.p7 x1c0 z1c1 x1c2 x1c3 x2 (x4 ++ [p9]) x5 (IntKind.wrap .i64 (a6 + 1))))) (some (.inl (.p12 x2 x1c0 z1c1 x1c2 x1c3 x4 x1c2 (IntKind.wrap .i64 (Int.tdiv (IntKind.wrap .i64 ((IntKind.wrap .i64 ((((bitsN x2 : Nat) : Int)) + 4)) - 1)) 4)))))
noncomputable def kh5 (x1 : List Nat) (x2c0 : List Nat) (z2c1 : Int) (x2c2 : List Nat) (x2c3 : List Nat) (x3 : List (List Nat)) (x4 : List Nat) (a5 : Int) : Option (kc5 ⊕ kb8) :=
 cond (decide (a5 > 0)) (some (.inl (.p16 x1 x2c0 z2c1 x2c2 x2c3 x3 x4 a5 0 0))) ((u64P 1).bind fun w8 => (runP kcw (.fn x2c0 z2c1 x2c2 x2c3 x4 [w8])).bind fun p9 => some (.inr (p9, 0)))
noncomputable def khk (x1 : List Nat) (x2c0 : List Nat) (z2c1 : Int) (x2c2 : List Nat) (x2c3 : List Nat) (x3 : List (List Nat)) (x4 : List Nat) (a5 : Int) (a6 : Int) (a7 : Int) : Option (kc5 ⊕ kb8) :=
 cond (decide (a7 < 4)) ((runP kcw (.fn x2c0 z2c1 x2c2 x2c3 x4 x4)).bind fun p9 => (need (((IntKind.wrap .i64 ((IntKind.wrap .i64 ((IntKind.wrap .i64 (a5 * 4)) - 1)) - a7)) : Int) ≤ 9223372036854775807)).bind fun c10_0 => cond (((bitN x1 (IntKind.wrap .i64 ((IntKind.wrap .i64 ((IntKind.wrap .i64 (a5 * 4)) - 1)) - a7))))) (cond (decide ((IntKind.wrap .i64 (3 - a7)) < 0)) (none) (some (.inl (.p16 x1 x2c0 z2c1 x2c2 x2c3 x3 p9 a5 (ior .i64 a6 (ishl .i64 1 (IntKind.wrap .i64 (3 - a7)))) (IntKind.wrap .i64 (a7 + 1)))))) (some (.inl (.p16 x1 x2c0 z2c1 x2c2 x2c3 x3 p9 a5 a6 (IntKind.wrap .i64 (a7 + 1)))))) ((atX x3 a6).bind fun y9 => (runP kcw (.fn x2c0 z2c1 x2c2 x2c3 x4 y9)).bind fun p10 => some (.inl (.p12 x1 x2c0 z2c1 x2c2 x2c3 x3 p10 (IntKind.wrap .i64 (a5 - 1)))))
noncomputable def kh2 : kc5 → Option (kc5 ⊕ kb8)
 | .fn x1c0 z1c1 x1c2 x1c3 x2 x3 => klj x1c0 z1c1 x1c2 x1c3 x2 x3
 | .p7 x1c0 z1c1 x1c2 x1c3 x2 x4 x5 a6 => khg x1c0 z1c1 x1c2 x1c3 x2 x4 x5 a6
 | .p12 x1 x2c0 z2c1 x2c2 x2c3 x3 x4 a5 => kh5 x1 x2c0 z2c1 x2c2 x2c3 x3 x4 a5
 | .p16 x1 x2c0 z2c1 x2c2 x2c3 x3 x4 a5 a6 a7 => khk x1 x2c0 z2c1 x2c2 x2c3 x3 x4 a5 a6 a7
@[reducible] def klh (h0 : AH) (r : kb8) (v : AV) (h' : AH) : Prop := ∃ s1 : Sl, v = .tup [s1.v, .int .i64 r.2] ∧ Nats h' s1 r.1 ∧ Grow h0 h' ∧ Own h0 s1
def ke7 (r : kb8) : kc5 → Prop
 | .fn x1c0 z1c1 x1c2 x1c3 x2 x3 => ∀ {h : AH} {s1c0 : Sl} {s1c2 : Sl} {s1c3 : Sl} {a2 : Sl} {a3 : Sl} {i1 : Nat}, h.has i1 [s1c0.v, .int .u64 z1c1, s1c2.v, s1c3.v] T.kcf → Nats h s1c0 x1c0 → Nats h s1c2 x1c2 → Nats h s1c3 x1c3 → Nats h a2 x2 → Nats h a3 x3 → Runs (go (.fn F.kby [.ptr (some (.new i1 0)), a2.v, a3.v]) h) (klh h r)
 | .p7 x1c0 z1c1 x1c2 x1c3 x2 x4 x5 a6 => ∀ {h0 h : AH} {s1c0 : Sl} {s1c2 : Sl} {s1c3 : Sl} {a2 : Sl} {a4 : Sl} {a5 : Sl} {i4 : Option Nat} {i1 : Nat}, Grow h0 h → h0.has i1 [s1c0.v, .int .u64 z1c1, s1c2.v, s1c3.v] T.kcf → Nats h0 s1c0 x1c0 → Nats h0 s1c2 x1c2 → Nats h0 s1c3 x1c3 → Nats h0 a2 x2 → GO El.nats T.kq h a4 i4 x4 → Nats h a5 x5 → LeO h0.blks.size i4 → AvO a5 x5 i4 → Runs (go (.pt F.kby Td.kqd [(0, .ptr (some (.new i1 0))), (2, a2.v), (8, .func (.func F.kba) [.ptr (some (.new i1 0))] []), (9, a4.v), (10, a5.v), (44, .int .i64 a6)]) h) (klh h0 r)
 | .p12 x1 x2c0 z2c1 x2c2 x2c3 x3 x4 a5 => ∀ {h0 h : AH} {a1 : Sl} {s2c0 : Sl} {s2c2 : Sl} {s2c3 : Sl} {a3 : Sl} {a4 : Sl} {i2 : Nat}, Grow h0 h → Nats h0 a1 x1 → h0.has i2 [s2c0.v, .int .u64 z2c1, s2c2.v, s2c3.v] T.kcf → Nats h0 s2c0 x2c0 → Nats h0 s2c2 x2c2 → Nats h0 s2c3 x2c3 → Seq El.nats h a3 x3 → Nats h a4 x4 → Runs (go (.pt F.kby Td.ko3 [(2, a1.v), (8, .func (.func F.kba) [.ptr (some (.new i2 0))] []), (9, a3.v), (11, a4.v), (12, .int .i64 a5)]) h) (klh h0 r)
 | .p16 x1 x2c0 z2c1 x2c2 x2c3 x3 x4 a5 a6 a7 => ∀ {h0 h : AH} {a1 : Sl} {s2c0 : Sl} {s2c2 : Sl} {s2c3 : Sl} {a3 : Sl} {a4 : Sl} {i2 : Nat}, Grow h0 h → Nats h0 a1 x1 → h0.has i2 [s2c0.v, .int .u64 z2c1, s2c2.v, s2c3.v] T.kcf → Nats h0 s2c0 x2c0 → Nats h0 s2c2 x2c2 → Nats h0 s2c3 x2c3 → Seq El.nats h a3 x3 → Nats h a4 x4 → Runs (go (.pt F.kby Td.kls [(2, a1.v), (8, .func (.func F.kba) [.ptr (some (.new i2 0))] []), (9, a3.v), (11, a4.v), (12, .int .i64 a5), (13, .int .i64 a6), (72, .int .i64 a7)]) h) (klh h0 r)
theorem kbh6 {r : kb8} {o : kc5 ⊕ kb8} {x1c0 : List Nat} {z1c1 : Int} {x1c2 : List Nat} {x1c3 : List Nat} {x2 : List Nat} {x3 : List Nat} (e : klj x1c0 z1c1 x1c2 x1c3 x2 x3 = some o) (good : GoodS (ke7 r) r o) : ke7 r (.fn x1c0 z1c1 x1c2 x1c3 x2 x3) := by
 intro h s1c0 s1c2 s1c3 a2 a3 i1 b1 n1c0 n1c2 n1c3 n2 n3
 rw [kbd4]
 unfold klj at e
 rw [n3.len]
 refine Runs.new fun H4 b4 g4 => ?_
 obtain ⟨_, H5, e5, rfl, g5⟩ := k8n (g4.has b1) (n1c0.grow g4) (n1c2.grow g4) (n1c3.grow g4) b4 (n2.grow g4)
 refine Runs.step e5 ?_
 refine Runs.step (seen rfl) ?_
 refine Runs.cond (fun k6 => ?_) (fun k6 => ?_)
 ·replace e := (condT k6).symm.trans e
  cases e
  cases good
  exact Runs.ret ⟨(⟨none, 0, .is 0⟩ : Sl), rfl, (Nats.nil _), (g4.trans g5), (Own.nil _)⟩
 ·replace e := (condF k6).symm.trans e
  refine Runs.step (kcd (n3.grow (g4.trans g5))) ?_
  refine Runs.step (seen rfl) ?_
  refine Runs.cond (fun k8 => ?_) (fun k8 => ?_)
  ·replace e := (condT k8).symm.trans e
   cases e
   cases good
   exact Runs.ret ⟨(⟨none, 0, .is 0⟩ : Sl), rfl, (Nats.nil _), (g4.trans g5), (Own.nil _)⟩
  ·replace e := (condF k8).symm.trans e
   refine Runs.cond (fun k9 => ?_) (fun k9 => ?_)
   ·replace e := (condT k9).symm.trans e
    cases e
    cases good
    exact Runs.ret ⟨(⟨none, 0, .is 0⟩ : Sl), rfl, (Nats.nil _), (g4.trans g5), (Own.nil _)⟩
   ·replace e := (condF k9).symm.trans e
    refine Runs.step rfl ?_
    refine Runs.step (AH.has.rd ((g4.trans g5).has b1) 2 rfl (asSl_v _)) ?_
    refine Runs.new fun H10 b10 g10 => ?_
    refine Runs.step rfl ?_
    have G11 := ((g4.trans g5).trans g10)
    have b1_12 := G11.has b1
    refine Runs.step (AH.has.rd b1_12 3 rfl (asSl_v _)) ?_
    have n1c0_13 := n1c0.grow G11
    have n1c2_14 := n1c2.grow G11
    have n1c3_15 := n1c3.grow G11
    have n2_16 := n2.grow G11
    obtain ⟨p17, q17, e⟩ := Option.bind_eq_some_iff.1 e
    obtain ⟨_, H17, e17, s17, rfl, n17, g17, o17⟩ := kk1 b1_12 n1c0_13 n1c2_14 n1c3_15 n2_16 n1c3_15 q17
    refine Runs.step e17 ?_
    refine Runs.step (seen (asSl_v _)) ?_
    cases e
    have G18 := (G11.trans g17)
    exact good G18 b1 n1c0 n1c2 n1c3 n3 (GO.one (g17.has b10) ⟨_, rfl, (n1c2_14.grow g17)⟩ (AvE.nats (i := some (H5.blks.size)) (Av.of_base n1c2 (Nat.le_trans ((g4.trans g5)).size (Nat.le_refl _))))) n17 (Nat.le_trans ((g4.trans g5)).size (Nat.le_refl _)) (Av.of_own o17 (b10).lt)
theorem kbdu {r : kb8} {o : kc5 ⊕ kb8} {x1c0 : List Nat} {z1c1 : Int} {x1c2 : List Nat} {x1c3 : List Nat} {x2 : List Nat} {x4 : List (List Nat)} {x5 : List Nat} {a6 : Int} (e : khg x1c0 z1c1 x1c2 x1c3 x2 x4 x5 a6 = some o) (good : GoodS (ke7 r) r o) : ke7 r (.p7 x1c0 z1c1 x1c2 x1c3 x2 x4 x5 a6) := by
 intro h0 h s1c0 s1c2 s1c3 a2 a4 a5 i4 i1 g0 b1 n1c0 n1c2 n1c3 n2 v4 n5 hi4 av5_4
 rw [k36]
 unfold khg at e
 rw [(v4).seq.len]
 refine Runs.cond (fun k7 => ?_) (fun k7 => ?_)
 ·replace e := (condT k7).symm.trans e
  obtain ⟨y8, q8, e⟩ := Option.bind_eq_some_iff.1 e
  obtain ⟨r8, cs8, j8, E8, l8⟩ := ((v4).seq).at q8
  obtain ⟨s8, rfl, n8⟩ := E8
  refine Runs.step j8 ?_
  refine Runs.step (l8.rd0 (Grow.refl _) rfl (asSl_v _)) ?_
  obtain ⟨p9, q9, e⟩ := Option.bind_eq_some_iff.1 e
  obtain ⟨_, H9, e9, s9, rfl, n9, g9, o9⟩ := kk1 (g0.has b1) (n1c0.grow g0) (n1c2.grow g0) (n1c3.grow g0) n8 n5 q9
  refine Runs.step e9 ?_
  refine Runs.step (seen (asSl_v _)) ?_
  refine Runs.new fun H10 b10 g10 => ?_
  refine Runs.step (k6i b10 (by rw [kbc2]; rfl)) ?_
  obtain ⟨c11, q11, e⟩ := Option.bind_eq_some_iff.1 e
  obtain ⟨s11, H11, e11, v11, u11⟩ := GO.push (E := El.nats) (v4.grow (g9.trans g10)) ⟨_, rfl, (n9.grow g10)⟩ (AvE.nats (AvO.of_own o9 (v4).lt)) c11.down
  refine Runs.step e11 ?_
  have n5_11 := (n5.grow (g9.trans g10)).updo av5_4 u11
  have n9_11 := (n9.grow g10).updo (AvO.of_own o9 (v4).lt) u11
  have b10_11 := AH.has.updo b10 (NeO.of_lt ((v4.grow g9)).lt (Nat.le_refl _)) u11
  refine Runs.step (asSl_v _) ?_
  have G12 := ((g0.trans g9).trans g10)
  cases e
  have G13 := (G12.updo hi4 u11)
  exact good G13 b1 n1c0 n1c2 n1c3 n2 v11 n5_11 (LeO.trans (G12).size (Nat.le_refl _)) (AvO.of_base n5 (LeO.trans ((g9.trans g10)).size (Nat.le_refl _)))
 ·replace e := (condF k7).symm.trans e
  refine Runs.step rfl ?_
  refine Runs.step (AH.has.rd (g0.has b1) 2 rfl (asSl_v _)) ?_
  obtain ⟨_, H8, e8, rfl, g8⟩ := kyi (n2.grow g0)
  refine Runs.step e8 ?_
  refine Runs.step (seen (kb _ _)) ?_
  cases e
  exact good (g0.trans g8) n2 b1 n1c0 n1c2 n1c3 (((v4.grow g8)).seq) (n1c2.grow (g0.trans g8))
theorem kbg3 {r : kb8} {o : kc5 ⊕ kb8} {x1 : List Nat} {x2c0 : List Nat} {z2c1 : Int} {x2c2 : List Nat} {x2c3 : List Nat} {x3 : List (List Nat)} {x4 : List Nat} {a5 : Int} (e : kh5 x1 x2c0 z2c1 x2c2 x2c3 x3 x4 a5 = some o) (good : GoodS (ke7 r) r o) : ke7 r (.p12 x1 x2c0 z2c1 x2c2 x2c3 x3 x4 a5) := by
 intro h0 h a1 s2c0 s2c2 s2c3 a3 a4 i2 g0 n1 b2 n2c0 n2c2 n2c3 n3 n4
 rw [kbba]
 unfold kh5 at e
 refine Runs.cond (fun k6 => ?_) (fun k6 => ?_)
 ·replace e := (condT k6).symm.trans e
  cases e
  exact good g0 n1 b2 n2c0 n2c2 n2c3 n3 n4
 ·replace e := (condF k6).symm.trans e
  refine Runs.new fun H7 b7 g7 => ?_
  obtain ⟨w8, z8, e⟩ := Option.bind_eq_some_iff.1 e
  obtain ⟨p9, q9, e⟩ := Option.bind_eq_some_iff.1 e
  obtain ⟨_, H9, e9, s9, rfl, n9, g9, o9⟩ := kk1 ((g0.trans g7).has b2) (n2c0.grow (g0.trans g7)) (n2c2.grow (g0.trans g7)) (n2c3.grow (g0.trans g7)) (n4.grow g7) (Nats.of_has1 b7 z8) q9
  refine Runs.step e9 ?_
  refine Runs.step (seen (asSl_v _)) ?_
  cases e
  cases good
  have G10 := ((g0.trans g7).trans g9)
  exact Runs.ret ⟨s9, rfl, n9, G10, (o9.of_le (g0.trans g7))⟩
theorem kbfe {r : kb8} {o : kc5 ⊕ kb8} {x1 : List Nat} {x2c0 : List Nat} {z2c1 : Int} {x2c2 : List Nat} {x2c3 : List Nat} {x3 : List (List Nat)} {x4 : List Nat} {a5 : Int} {a6 : Int} {a7 : Int} (e : khk x1 x2c0 z2c1 x2c2 x2c3 x3 x4 a5 a6 a7 = some o) (good : GoodS (ke7 r) r o) : ke7 r (.p16 x1 x2c0 z2c1 x2c2 x2c3 x3 x4 a5 a6 a7) := by
 intro h0 h a1 s2c0 s2c2 s2c3 a3 a4 i2 g0 n1 b2 n2c0 n2c2 n2c3 n3 n4
 rw [kbdq]
 unfold khk at e
 rw [n3.len]
 refine Runs.cond (fun k8 => ?_) (fun k8 => ?_)
 ·replace e := (condT k8).symm.trans e
  obtain ⟨p9, q9, e⟩ := Option.bind_eq_some_iff.1 e
  obtain ⟨_, H9, e9, s9, rfl, n9, g9, o9⟩ := kk1 (g0.has b2) (n2c0.grow g0) (n2c2.grow g0) (n2c3.grow g0) n4 n4 q9
  refine Runs.step e9 ?_
  refine Runs.step (seen (asSl_v _)) ?_
  obtain ⟨c10_0, q10_0, e⟩ := Option.bind_eq_some_iff.1 e
  obtain ⟨_, H10, e10, rfl, g10⟩ := kwu (n1.grow (g0.trans g9))  c10_0.down
  refine Runs.step e10 ?_
  refine Runs.step (seen rfl) ?_
  refine Runs.cond (fun k11 => ?_) (fun k11 => ?_)
  ·replace e := (condT k11).symm.trans e
   refine Runs.cond (fun k12 => ?_) (fun k12 => ?_)
   ·replace e := (condT k12).symm.trans e
    cases e
   ·replace e := (condF k12).symm.trans e
    cases e
    have G13 := ((g0.trans g9).trans g10)
    exact good G13 n1 b2 n2c0 n2c2 n2c3 (n3.grow (g9.trans g10)) (n9.grow g10)
  ·replace e := (condF k11).symm.trans e
   cases e
   have G12 := ((g0.trans g9).trans g10)
   exact good G12 n1 b2 n2c0 n2c2 n2c3 (n3.grow (g9.trans g10)) (n9.grow g10)
 ·replace e := (condF k8).symm.trans e
  obtain ⟨y9, q9, e⟩ := Option.bind_eq_some_iff.1 e
  obtain ⟨r9, cs9, j9, E9, l9⟩ := (n3).at q9
  obtain ⟨s9, rfl, n9⟩ := E9
  refine Runs.step j9 ?_
  refine Runs.step (l9.rd0 (Grow.refl _) rfl (asSl_v _)) ?_
  obtain ⟨p10, q10, e⟩ := Option.bind_eq_some_iff.1 e
  obtain ⟨_, H10, e10, s10, rfl, n10, g10, o10⟩ := kk1 (g0.has b2) (n2c0.grow g0) (n2c2.grow g0) (n2c3.grow g0) n4 n9 q10
  refine Runs.step e10 ?_
  refine Runs.step (seen (asSl_v _)) ?_
  cases e
  exact good (g0.trans g10) n1 b2 n2c0 n2c2 n2c3 (n3.grow g10) n10
theorem k61 {s : kc5} {r : kb8} (it : Iter kh2 s r) : ke7 r s := Iter.ind (fun s o e good => by
 cases s with
 | fn x1c0 z1c1 x1c2 x1c3 x2 x3 => exact @kbh6 _ _ x1c0 z1c1 x1c2 x1c3 x2 x3 e good
 | p7 x1c0 z1c1 x1c2 x1c3 x2 x4 x5 a6 => exact @kbdu _ _ x1c0 z1c1 x1c2 x1c3 x2 x4 x5 a6 e good
 | p12 x1 x2c0 z2c1 x2c2 x2c3 x3 x4 a5 => exact @kbg3 _ _ x1 x2c0 z2c1 x2c2 x2c3 x3 x4 a5 e good
 | p16 x1 x2c0 z2c1 x2c2 x2c3 x3 x4 a5 a6 a7 => exact @kbfe _ _ x1 x2c0 z2c1 x2c2 x2c3 x3 x4 a5 a6 a7 e good
 ) it
theorem ky2 {h : AH} {s1c0 : Sl} {s1c2 : Sl} {s1c3 : Sl} {a2 : Sl} {a3 : Sl} {i1 : Nat} {x1c0 : List Nat} {z1c1 : Int} {x1c2 : List Nat} {x1c3 : List Nat} {x2 : List Nat} {x3 : List Nat} (b1 : h.has i1 [s1c0.v, .int .u64 z1c1, s1c2.v, s1c3.v] T.kcf) (n1c0 : Nats h s1c0 x1c0) (n1c2 : Nats h s1c2 x1c2) (n1c3 : Nats h s1c3 x1c3) (n2 : Nats h a2 x2) (n3 : Nats h a3 x3) {r : kb8} (q : runP kh2 (.fn x1c0 z1c1 x1c2 x1c3 x2 x3) = some r) : Runs (go (.fn F.kby [.ptr (some (.new i1 0)), a2.v, a3.v]) h) (klh h r) := k61 (kbn q) b1 n1c0 n1c2 n1c3 n2 n3
end Go.Ab

/- squeezed -/
set_option linter.unusedVariables false
set_option linter.unusedSimpArgs false
set_option maxRecDepth 10000
namespace Go.Ab
open Go.Proofs Go.Num
theorem k34 {n : Nat} (h : n ≤ 1000000) : growOk Pg n T.kq 1 = true := by
 unfold growOk
 rw [kbfq, kbgb]
 have h1 : n * 24 ≤ kb2 := by simp only [kb2]; omega
 have h2 : n ≤ kb2 := by simp only [kb2]; omega
 simp [h1, h2]
theorem kbhf : ∀ c : _root_.Fin 4, ∀ m : _root_.Fin (2 ^ c.val), ior .i64 ((m.val * 2 ^ (4 - c.val) : Nat) : Int) (ishl .i64 1 (IntKind.wrap .i64 (3 - (c.val : Int)))) = (((2 * m.val + 1) * 2 ^ (3 - c.val) : Nat) : Int) := by decide +kernel
theorem k1h (E j : Nat) : E / 2 ^ j = 2 * (E / 2 ^ (j + 1)) + (E.testBit j).toNat := by
 rw [Nat.testBit_eq_decide_div_mod_eq, Nat.pow_succ, ← Nat.div_div_eq_div_mul]
 generalize E / 2 ^ j = z
 have := Nat.mod_two_eq_zero_or_one z
 rcases this with h | h <;> rw [h] <;> simp <;> omega
structure RingOk (N k v : Nat) : Prop where
 hk : k ≤ 60
 lt : N < B ^ k
 one : 1 < N
 odd : N % 2 = 1
 hv : v < B
 inv : (N * v + 1) % B = 0
 len : (digs B N).length = k
def form (N k u : Nat) : List Nat := digs B (u * 2 ^ (64 * k) % N)
def kcm (N k A : Nat) (j : Nat) : List (List Nat) := (List.range (j + 1)).map fun i => form N k (A ^ i)
section
variable {N k v : Nat} {ones nexts : List Nat}
theorem RingOk.prod (r : RingOk N k v) {X Y : Nat} (hX : X < N) (hY : Y < N) : runP kcw (.fn (digs B N) (v : Int) ones nexts (digs B X) (digs B Y)) = some (digs B (redc N (64 * k) (X * Y))) := by
 have := kbh4 (ns := digs B N) (xs := digs B X) (ys := digs B Y) (ones := ones) (nexts := nexts) r.hk r.len (ku B2 N) (kb3 B2 N) (ku B2 X) (ku B2 Y) r.hv
  (by rw [kf B2]; exact r.inv) (by rw [kf B2]; exact r.odd) ((kp B2 X k).2 (Nat.lt_trans hX r.lt)) (by rw [kf B2, kf B2]; exact hY)
 simpa only [kf B2] using this
theorem RingOk.forms (r : RingOk N k v) (x y : Nat) : runP kcw (.fn (digs B N) (v : Int) ones nexts (form N k x) (form N k y)) = some (form N k (x * y)) := by
 have hN : 0 < N := by have := r.one; omega
 unfold form
 rw [r.prod (Nat.mod_lt _ hN) (Nat.mod_lt _ hN), k63 r.odd]
theorem RingOk.into (r : RingOk N k v) {a : Nat} (ha : a < N) : runP kcw (.fn (digs B N) (v : Int) ones nexts (digs B a) (digs B (2 ^ (64 * k) * 2 ^ (64 * k) % N))) = some (form N k a) := by
 have hN : 0 < N := by have := r.one; omega
 unfold form
 rw [r.prod ha (Nat.mod_lt _ hN), k2j r.odd]
theorem RingOk.out (r : RingOk N k v) (x : Nat) : runP kcw (.fn (digs B N) (v : Int) ones nexts (form N k x) [1]) = some (digs B (x % N)) := by
 have hN : 0 < N := by have := r.one; omega
 have h1 : ([1] : List Nat) = digs B 1 := by rw [kdf B2 (by decide), show 1 / B = 0 from rfl, kbe]; rfl
 unfold form
 rw [h1, r.prod (Nat.mod_lt _ hN) r.one, kbek r.odd]
theorem kbdj (A j : Nat) : kcm N k A (j + 1) = kcm N k A j ++ [form N k (A ^ (j + 1))] := by
 unfold kcm
 rw [List.range_succ, List.map_append]
 rfl
theorem kws {A j i : Nat} (h : i ≤ j) : atX (kcm N k A j) (i : Int) = some (form N k (A ^ i)) := by
 unfold kcm
 rw [kvr (by rw [List.length_map, List.length_range]; omega), List.getElem_map, List.getElem_range]
theorem kxo (r : RingOk N k v) {es : List Nat} (le : ∀ x ∈ es, x < B) (re : rt es = true) {A t : Nat} (ht : t ≤ 100000) (K : Iter kh2 (.p12 es (digs B N) (v : Int) ones nexts (kcm N k A 15) (form N k (A ^ (num B es / 2 ^ (4 * t)))) (t : Int)) (digs B (A ^ num B es % N), 0)) :
  ∀ (d c m q : Nat), c + d = 4 → num B es / 2 ^ (4 * (t + 1) - c) = q * 2 ^ c + m → m < 2 ^ c →
   Iter kh2 (.p16 es (digs B N) (v : Int) ones nexts (kcm N k A 15) (form N k (A ^ (q * 2 ^ c))) ((t + 1 : Nat) : Int) ((m * 2 ^ (4 - c) : Nat) : Int) (c : Int)) (digs B (A ^ num B es % N), 0)
 | 0, c, m, q, hc, hq, hm => by
  have hc : c = 4 := by omega
  subst hc
  refine .next ?_ K
  show khk _ _ _ _ _ _ _ _ _ _ = _
  unfold khk
  have h16 : (2 : Nat) ^ 4 = 16 := rfl
  rw [h16] at hm
  rw [condF (by decide), show m * 2 ^ (4 - 4) = m from by simp, kws (by omega), Option.bind_some, r.forms, Option.bind_some, show (((t + 1 : Nat) : Int) - 1) = (t : Int) from by omega, kz (by omega), ← Nat.pow_add, ← hq, show 4 * (t + 1) - 4 = 4 * t from by omega]
 | d + 1, c, m, q, hc, hq, hm => by
  have hb := k1h (num B es) (4 * (t + 1) - (c + 1))
  rw [show 4 * (t + 1) - (c + 1) + 1 = 4 * (t + 1) - c from by omega, hq] at hb
  have hd := kbhf ⟨c, by omega⟩ ⟨m, hm⟩
  dsimp only at hd
  have e1 : q * 2 ^ (c + 1) = q * 2 ^ c + q * 2 ^ c := by rw [Nat.pow_succ, ← Nat.mul_assoc]; omega
  have e2 : m * 2 ^ (4 - c) = 2 * m * 2 ^ (4 - (c + 1)) := by rw [show 4 - c = 4 - (c + 1) + 1 from by omega, Nat.pow_succ, Nat.mul_comm (2 ^ (4 - (c + 1))) 2, ← Nat.mul_assoc, Nat.mul_comm m 2]
  have hi : (IntKind.wrap .i64 ((IntKind.wrap .i64 ((IntKind.wrap .i64 (((t + 1 : Nat) : Int) * 4)) - 1)) - (c : Int))) = ((4 * (t + 1) - (c + 1) : Nat) : Int) := by
   rw [show ((t + 1 : Nat) : Int) * 4 = ((4 * (t + 1) : Nat) : Int) from by omega, kz (by omega), show ((4 * (t + 1) : Nat) : Int) - 1 = ((4 * (t + 1) - 1 : Nat) : Int) from by omega, kz (by omega), show ((4 * (t + 1) - 1 : Nat) : Int) - (c : Int) = ((4 * (t + 1) - (c + 1) : Nat) : Int) from by omega, kz (by omega)]
  have hm2 : 2 ^ (c + 1) = 2 * 2 ^ c := by rw [Nat.pow_succ]; omega
  have hneed : ((4 * (t + 1) - (c + 1) : Nat) : Int) ≤ 9223372036854775807 := by omega
  have step : khk es (digs B N) (v : Int) ones nexts (kcm N k A 15) (form N k (A ^ (q * 2 ^ c))) ((t + 1 : Nat) : Int) ((m * 2 ^ (4 - c) : Nat) : Int) (c : Int) =
    some (.inl (.p16 es (digs B N) (v : Int) ones nexts (kcm N k A 15) (form N k (A ^ (q * 2 ^ (c + 1)))) ((t + 1 : Nat) : Int) (((2 * m + ((num B es).testBit (4 * (t + 1) - (c + 1))).toNat) * 2 ^ (4 - (c + 1)) : Nat) : Int) ((c + 1 : Nat) : Int))) := by
   unfold khk
   rw [condT (by rw [decide_eq_true_eq]; omega), r.forms, Option.bind_some, hi, ki hneed, Option.bind_some, kkf re, ks (by omega), ← Nat.pow_add, ← e1]
   cases hbit : (num B es).testBit (4 * (t + 1) - (c + 1))
   ·rw [cond_false, e2]
    rfl
   ·rw [cond_true, condF (by rw [decide_eq_false_iff_not, show (3 : Int) - (c : Int) = ((3 - c : Nat) : Int) from by omega, kz (by omega)]; omega), hd, show 4 - (c + 1) = 3 - c from by omega]
    rfl
  refine .next step (kxo r le re ht K d (c + 1) _ q (by omega) ?_ ?_)
  ·rw [hb, e1]
   omega
  ·cases (num B es).testBit (4 * (t + 1) - (c + 1))
   ·show 2 * m + 0 < _
    omega
   ·show 2 * m + 1 < _
    omega
theorem k05 (r : RingOk N k v) {es : List Nat} (le : ∀ x ∈ es, x < B) (re : rt es = true) {A : Nat} : ∀ t : Nat, t ≤ 100000 →
  Iter kh2 (.p12 es (digs B N) (v : Int) ones nexts (kcm N k A 15) (form N k (A ^ (num B es / 2 ^ (4 * t)))) (t : Int)) (digs B (A ^ num B es % N), 0)
 | 0, _ => by
  refine .done ?_
  show kh5 _ _ _ _ _ _ _ _ = _
  unfold kh5
  rw [condF (by decide), show u64P 1 = some 1 from rfl, Option.bind_some, r.out, Option.bind_some, Nat.mul_zero, Nat.pow_zero, Nat.div_one]
 | t + 1, ht => by
  have K := k05 r le re (A := A) t (by omega)
  have := kxo r le re (by omega) K 4 0 0 (num B es / 2 ^ (4 * (t + 1))) (by omega) (by simp) (by simp)
  rw [Nat.pow_zero, Nat.mul_one, Nat.zero_mul] at this
  refine .next ?_ this
  show kh5 _ _ _ _ _ _ _ _ = _
  unfold kh5
  rw [condT (by rw [decide_eq_true_eq]; omega)]
  rfl
theorem exp_p7 (r : RingOk N k v) (h1 : ones = form N k 1) {es : List Nat} (le : ∀ x ∈ es, x < B) (re : rt es = true) {A : Nat} : ∀ (d j : Nat), j + d = 15 →
  Iter kh2 (.p7 (digs B N) (v : Int) ones nexts es (kcm N k A j) (form N k A) (j : Int)) (digs B (A ^ num B es % N), 0)
 | 0, j, hj => by
  have hj : j = 15 := by omega
  subst hj
  have h64 := (rt_iff.1 re).1
  have hlt := num_lt B1 le
  rw [B_pow2] at hlt
  have hb : bitsN es ≤ 64 * 64 := by
   unfold bitsN
   rw [if_pos re]
   exact Nat.le_trans (bl_le hlt) (Nat.mul_le_mul_left _ h64)
  have hE : num B es < 2 ^ bitsN es := by
   unfold bitsN
   rw [if_pos re]
   exact (bl_Bl _).1
  have := k05 r le re (A := A) (ones := ones) (nexts := nexts) ((bitsN es + 3) / 4) (by omega)
  have hz : num B es / 2 ^ (4 * ((bitsN es + 3) / 4)) = 0 := by
   refine Nat.div_eq_of_lt (Nat.lt_of_lt_of_le hE (Nat.pow_le_pow_right (by decide) (by omega)))
  rw [hz, Nat.pow_zero, ← h1] at this
  refine .next ?_ this
  show khg _ _ _ _ _ _ _ _ = _
  unfold khg
  rw [condF (by decide), show ((bitsN es : Nat) : Int) + 4 = ((bitsN es + 4 : Nat) : Int) from by omega, kz (by omega), show ((bitsN es + 4 : Nat) : Int) - 1 = ((bitsN es + 3 : Nat) : Int) from by omega, kz (by omega), show Int.tdiv ((bitsN es + 3 : Nat) : Int) 4 = (((bitsN es + 3) / 4 : Nat) : Int) from rfl, kz (by omega)]
 | d + 1, j, hj => by
  have hl : (kcm N k A j).length = j + 1 := by unfold kcm; simp
  refine .next ?_ (exp_p7 r h1 le re d (j + 1) (by omega))
  show khg _ _ _ _ _ _ _ _ = _
  unfold khg
  have hg : growOk Pg (j + 1 + 1) T.kq 1 = true := k34 (by omega)
  rw [condT (by rw [decide_eq_true_eq]; omega), hl, show ((j + 1 : Nat) : Int) - 1 = (j : Int) from by omega, kz (by omega), kws (Nat.le_refl _), Option.bind_some, r.forms, Option.bind_some, ki hg, Option.bind_some, ks (by omega), kbdj, Nat.pow_succ]
theorem k02 (r : RingOk N k v) {A : Nat} (hA : A < N) {es : List Nat} (le : ∀ x ∈ es, x < B) (re : rt es = true) (h8 : es.length ≤ 8) :
  runP kh2 (.fn (digs B N) (v : Int) (form N k 1) (digs B (2 ^ (64 * k) * 2 ^ (64 * k) % N)) (digs B A) es) = some (digs B (A ^ num B es % N), 0) := by
 have := exp_p7 r rfl (nexts := digs B (2 ^ (64 * k) * 2 ^ (64 * k) % N)) le re (A := A) 15 0 (by omega)
 refine kbg (.next ?_ this)
 show klj _ _ _ _ _ _ = _
 have h60 : N < B ^ 64 := Nat.lt_of_lt_of_le r.lt (Nat.pow_le_pow_right (by decide) (by have := r.hk; omega))
 have hb : belowF (digs B A) (digs B N) = true := by
  unfold belowF
  rw [kj (Nat.lt_trans hA h60), kmt (kj (Nat.lt_trans hA h60)) (kj h60), kf B2, kf B2]
  unfold cmp
  rw [if_pos hA]
  rfl
 unfold klj
 rw [hb, re, show (!true) = false from rfl, cond_false, cond_false, condF (by rw [decide_eq_false_iff_not]; omega), r.into hA, Option.bind_some]
 simp [kcm, form]
end
end Go.Ab

/- squeezed -/
set_option linter.unusedVariables false
set_option linter.unusedSimpArgs false
set_option maxRecDepth 10000
namespace Go.Ab
open Go.Proofs Go.Num
inductive kjn
 | fn (x1c0 : List Nat) (z1c1 : Int) (x1c2 : List Nat) (x1c3 : List Nat) (a2 : Int)
 | no
abbrev kg7 := List Nat
noncomputable def klr (x1c0 : List Nat) (z1c1 : Int) (x1c2 : List Nat) (x1c3 : List Nat) (a2 : Int) : Option (kjn ⊕ kg7) :=
 (mkI (IntKind.wrap .i64 ((IntKind.wrap .i64 (a2 * (List.length x1c0 : Int))) + 1)) (IntKind.wrap .i64 ((IntKind.wrap .i64 (a2 * (List.length x1c0 : Int))) + 1))).bind fun m3 => (inI (List.length (List.replicate m3 0)) (IntKind.wrap .i64 (a2 * (List.length x1c0 : Int)))).bind fun j4 => (u64P 1).bind fun w5 => some (.inr ((divN (List.set (List.replicate m3 0) j4 w5) x1c0).2.1))
noncomputable def kuh : kjn → Option (kjn ⊕ kg7)
 | .fn x1c0 z1c1 x1c2 x1c3 a2 => klr x1c0 z1c1 x1c2 x1c3 a2
 | .no => none
@[reducible] def k0v (h0 : AH) (r : kg7) (v : AV) (h' : AH) : Prop := ∃ s1 : Sl, v = s1.v ∧ Nats h' s1 r ∧ Grow h0 h' ∧ Own h0 s1
def kr2 (r : kg7) : kjn → Prop
 | .fn x1c0 z1c1 x1c2 x1c3 a2 => ∀ {h : AH} {s1c0 : Sl} {s1c2 : Sl} {s1c3 : Sl} {i1 : Nat}, h.has i1 [s1c0.v, .int .u64 z1c1, s1c2.v, s1c3.v] T.kcf → Nats h s1c0 x1c0 → Nats h s1c2 x1c2 → Nats h s1c3 x1c3 → Runs (go (.fn F.kl4 [.ptr (some (.new i1 0)), .int .i64 a2]) h) (k0v h r)
 | .no => True
theorem k77 {r : kg7} {o : kjn ⊕ kg7} {x1c0 : List Nat} {z1c1 : Int} {x1c2 : List Nat} {x1c3 : List Nat} {a2 : Int} (e : klr x1c0 z1c1 x1c2 x1c3 a2 = some o) (good : GoodS (kr2 r) r o) : kr2 r (.fn x1c0 z1c1 x1c2 x1c3 a2) := by
 intro h s1c0 s1c2 s1c3 i1 b1 n1c0 n1c2 n1c3
 rw [kbau]
 unfold klr at e
 refine Runs.step rfl ?_
 refine Runs.step (AH.has.rd b1 0 rfl (asSl_v _)) ?_
 rw [n1c0.len]
 obtain ⟨m3, q3, e⟩ := Option.bind_eq_some_iff.1 e
 refine Runs.mk q3 kdi fun s3 H3 v3 g3 => ?_
 rw [v3.nats.len]
 refine Runs.step rfl ?_
 refine Runs.step (AH.has.rd (g3.has b1) 0 rfl (asSl_v _)) ?_
 rw [(n1c0.grow g3).len]
 obtain ⟨j4, q4, e⟩ := Option.bind_eq_some_iff.1 e
 refine Runs.step (v3.idx rfl q4) ?_
 obtain ⟨w5, z5, e⟩ := Option.bind_eq_some_iff.1 e
 refine Runs.vput v3 rfl q4 z5 fun H5 v5 u5 => ?_
 refine Runs.step rfl ?_
 refine Runs.step (AH.has.rd ((g3.updr (Nat.le_refl _) u5).has b1) 0 rfl (asSl_v _)) ?_
 obtain ⟨s6, s6b, H6, e6, n6, n6b, g6, o6, o6b⟩ := kfm v5.nats (n1c0.grow (g3.updr (Nat.le_refl _) u5))
 refine Runs.step e6 ?_
 refine Runs.step rfl ?_
 refine Runs.step (seen (asSl_v _)) ?_
 refine Runs.step (seen (asSl_v _)) ?_
 refine Runs.step (seen (kb _ _)) ?_
 cases e
 cases good
 have G7 := ((g3.updr (Nat.le_refl _) u5).trans g6)
 exact Runs.ret ⟨s6b, rfl, n6b, G7, (o6b.of_le (g3.updr (Nat.le_refl _) u5))⟩
theorem k97 {s : kjn} {r : kg7} (it : Iter kuh s r) : kr2 r s := Iter.ind (fun s o e good => by
 cases s with
 | fn x1c0 z1c1 x1c2 x1c3 a2 => exact @k77 _ _ x1c0 z1c1 x1c2 x1c3 a2 e good
 | no => exact True.intro
 ) it
theorem kz4 {h : AH} {s1c0 : Sl} {s1c2 : Sl} {s1c3 : Sl} {i1 : Nat} {x1c0 : List Nat} {z1c1 : Int} {x1c2 : List Nat} {x1c3 : List Nat} {a2 : Int} (b1 : h.has i1 [s1c0.v, .int .u64 z1c1, s1c2.v, s1c3.v] T.kcf) (n1c0 : Nats h s1c0 x1c0) (n1c2 : Nats h s1c2 x1c2) (n1c3 : Nats h s1c3 x1c3) {r : kg7} (q : runP kuh (.fn x1c0 z1c1 x1c2 x1c3 a2) = some r) : Runs (go (.fn F.kl4 [.ptr (some (.new i1 0)), .int .i64 a2]) h) (k0v h r) := k97 (kbn q) b1 n1c0 n1c2 n1c3
end Go.Ab

/- squeezed -/
set_option linter.unusedVariables false
set_option linter.unusedSimpArgs false
set_option maxRecDepth 10000
namespace Go.Ab
open Go.Proofs Go.Num
theorem kbdz (n : Nat) : num B (List.replicate n 0 ++ [1]) = B ^ n := by
 have h : num B (List.replicate n 0) = 0 := by have := kfd B [] n; simpa [num] using this
 rw [kch, h, List.length_replicate]
 simp [num]
theorem kvo {ns c2 c3 : List Nat} (z : Int) {p k : Nat} (hk : ns.length = k) (hp : p ≤ 2) (h8 : k ≤ 8) (h0 : k ≠ 0) (r : rt ns = true) : runP kuh (.fn ns z c2 c3 (p : Int)) = some (digs B (B ^ (p * k) % num B ns)) := by
 have hpk : p * k ≤ 2 * 8 := Nat.mul_le_mul hp h8
 refine kbg (.done ?_)
 show klr ns z c2 c3 (p : Int) = _
 unfold klr
 have e : IntKind.wrap .i64 ((p : Int) * (k : Int)) = ((p * k : Nat) : Int) := by rw [← Int.natCast_mul, kz (by omega)]
 rw [hk, e, ks (by omega), keq (by omega), Option.bind_some, List.length_replicate, kbh (by omega), Option.bind_some, show u64P 1 = some 1 from rfl, Option.bind_some]
 have hs : (List.replicate (p * k + 1) 0).set (p * k) 1 = List.replicate (p * k) 0 ++ [1] := by
  rw [List.replicate_succ']
  have := kp9 (List.replicate (p * k) 0) 0 1 [] (n := p * k) (by simp)
  rw [this, List.append_nil]
 have rx : rt (List.replicate (p * k) 0 ++ [1]) = true := rt_iff.2 ⟨by simp; omega, fun h => by simp⟩
 rw [hs, kkm rx r (fun e => h0 (by rw [← hk, e]; rfl)), kbdz]
theorem kbcp (n x : Int) : IntKind.wrap .u64 (x * IntKind.wrap .u64 (2 - IntKind.wrap .u64 (n * x))) = (x * (2 - n * x)) % 18446744073709551616 := by
 rw [wrapU, wrapU, wrapU]
 have : (2 - n * x % 18446744073709551616) % 18446744073709551616 = (2 - n * x) % 18446744073709551616 := by
  generalize n * x = t
  omega
 rw [this, newton.Int.mul_emod_aux]
theorem k3j {n x i : Nat} (hi : i < 6) (h : (n * x) % 2 ^ (2 ^ i) = 1 % 2 ^ (2 ^ i)) : ∃ y : Nat, y < 18446744073709551616 ∧ (((x : Int) * (2 - (n : Int) * (x : Int))) % 18446744073709551616) = (y : Int) ∧ (n * y) % 2 ^ (2 ^ (i + 1)) = 1 % 2 ^ (2 ^ (i + 1)) := by
 have h1 := Int.emod_nonneg ((x : Int) * (2 - (n : Int) * (x : Int))) (show (18446744073709551616 : Int) ≠ 0 by decide)
 have h2 := Int.emod_lt_of_pos ((x : Int) * (2 - (n : Int) * (x : Int))) (show (0 : Int) < 18446744073709551616 by decide)
 refine ⟨(((x : Int) * (2 - (n : Int) * (x : Int))) % 18446744073709551616).toNat, by omega, by omega, ?_⟩
 have hw : (2 : Nat) ^ (2 ^ (i + 1)) = 2 ^ (2 ^ i) * 2 ^ (2 ^ i) := by rw [← Nat.pow_add, Nat.pow_succ, Nat.mul_two]
 have hd : (2 : Nat) ^ (2 ^ (i + 1)) ∣ 18446744073709551616 := Nat.pow_dvd_pow 2 (show 2 ^ (i + 1) ≤ 2 ^ 6 from Nat.pow_le_pow_right (by decide) (by omega))
 generalize (2 : Nat) ^ (2 ^ (i + 1)) = w at hw hd ⊢
 have hd' : (w : Int) ∣ 18446744073709551616 := Int.natCast_dvd_natCast.2 hd
 have := newton hw h (((x : Int) * (2 - (n : Int) * (x : Int))) % 18446744073709551616) (Int.emod_emod_of_dvd _ hd')
 have e : ((((x : Int) * (2 - (n : Int) * (x : Int))) % 18446744073709551616).toNat : Int) = ((x : Int) * (2 - (n : Int) * (x : Int))) % 18446744073709551616 := by omega
 rw [← e] at this
 generalize (((x : Int) * (2 - (n : Int) * (x : Int))) % 18446744073709551616).toNat = y at this ⊢
 rw [← Int.natCast_mul] at this
 exact Int.ofNat.inj this
theorem k7k {n x : Nat} (h : (n * x) % 2 ^ (2 ^ 6) = 1 % 2 ^ (2 ^ 6)) : ∃ v : Nat, v < 18446744073709551616 ∧ IntKind.wrap .u64 (0 - (x : Int)) = (v : Int) ∧ (n * v + 1) % 18446744073709551616 = 0 := by
 rw [wrapU]
 refine ⟨((0 - (x : Int)) % 18446744073709551616).toNat, by omega, by omega, ?_⟩
 have e : ((((0 - (x : Int)) % 18446744073709551616).toNat : Nat) : Int) = (0 - (x : Int)) % 18446744073709551616 := by omega
 have h' : (n * x) % 18446744073709551616 = 1 := h
 have k : ((n : Int) * ((0 - (x : Int)) % 18446744073709551616) + 1) % 18446744073709551616 = 0 := by
  rw [Int.add_emod, newton.Int.mul_emod_aux, ← Int.add_emod, Int.zero_sub, Int.mul_neg, ← Int.natCast_mul]
  omega
 rw [← e] at k
 generalize ((0 - (x : Int)) % 18446744073709551616).toNat = y at k ⊢
 rw [← Int.natCast_mul] at k
 omega
def NewP (h : AH) (ns : List Nat) (w : AV) (h' : AH) : Prop :=
 ∃ (j v : Nat) (s0 s2 s3 : Sl), w = .tup [.ptr (some (.new j 0)), .int .i64 0] ∧ v < B ∧ (num B ns * v + 1) % B = 0 ∧ h'.has j [s0.v, .int .u64 (v : Int), s2.v, s3.v] T.kcf ∧ Nats h' s0 ns ∧ Nats h' s2 (digs B (B ^ (1 * ns.length) % num B ns)) ∧ Nats h' s3 (digs B (B ^ (2 * ns.length) % num B ns)) ∧ Grow h h'
theorem kxh {h0 h : AH} {s : Sl} {ns : List Nat} (n : Nats h s ns) (hn : 0 < ns.length) (h8 : ns.length ≤ 8) (r : rt ns = true) (g : Grow h0 h) : ∀ (d i x : Nat), i + d = 6 → x < 18446744073709551616 → (ns[0] * x) % 2 ^ (2 ^ i) = 1 % 2 ^ (2 ^ i) →
  Runs (go (.pt F.kdo Td.kjd [(0, s.v), (4, .int .u64 (x : Int)), (40, .int .i64 (i : Int))]) h) (NewP h0 ns)
 | 0, i, x, hi, hx, e => by
  have hi : i = 6 := by omega
  subst hi
  obtain ⟨v, v1, v2, v3⟩ := k7k e
  rw [kv0]
  refine Runs.ifF (by decide) ?_
  obtain ⟨s1, h1, e1, n1, g1, o1⟩ := kjz n (by omega)
  refine Runs.step e1 ?_
  refine Runs.step (seen (asSl_v _)) ?_
  rw [v2]
  refine Runs.new fun h2 b2 g2 => ?_
  obtain ⟨_, h3, e3, s3, rfl, n3, g3, o3⟩ := kz4 b2 (n1.grow g2) (Nats.nil _) (Nats.nil _) (kvo (v : Int) rfl (show 1 ≤ 2 by decide) h8 (by omega) r)
  refine Runs.step e3 ?_
  refine Runs.step (seen (asSl_v _)) ?_
  refine Runs.putAt (o := 2) (cs' := [s1.v, .int .u64 (v : Int), s3.v, (⟨none, 0, .is 0⟩ : Sl).v]) (vs := [s3.v]) (g3.has b2) (by simp) rfl fun h4 b4 u4 => ?_
  have n3' := n3.upda (Av.of_own o3 b2.lt) u4
  have gg : Grow h1 h4 := (g2.trans g3).updr (Nat.le_refl _) u4
  obtain ⟨_, h5, e5, s5, rfl, n5, g5, o5⟩ := kz4 (a2 := ((2 : Nat) : Int)) b4 (n1.grow gg) n3' (Nats.nil _) (kvo (v : Int) rfl (show 2 ≤ 2 by decide) h8 (by omega) r)
  refine Runs.step e5 ?_
  refine Runs.step (seen (asSl_v _)) ?_
  refine Runs.putAt (o := 3) (cs' := [s1.v, .int .u64 (v : Int), s3.v, s5.v]) (vs := [s5.v]) (g5.has b4) (by simp) rfl fun h6 b6 u6 => ?_
  have gg6 : Grow h1 h6 := (gg.trans g5).updr (Nat.le_refl _) u6
  refine Runs.ret ⟨_, v, s1, s3, s5, rfl, v1, ?_, b6, n1.grow gg6, (n3'.grow g5).upda (Av.of_own o3 b2.lt) u6, n5.upda (Av.of_own o5 b4.lt) u6, (g.trans g1).trans gg6⟩
  rw [kmr B ns, Nat.add_mul, Nat.mul_assoc, Nat.add_right_comm, Nat.add_mul_mod_self_left]
  have : ns.headD 0 = ns[0] := by
   cases ns with
   | nil => simp at hn
   | cons y ys => rfl
  rw [this]
  exact v3
 | d + 1, i, x, hi, hx, e => by
  rw [kv0]
  refine Runs.ifT (by rw [decide_eq_true_eq]; omega) ?_
  obtain ⟨q, e1, e2⟩ := n.at (i := 0) hn
  rw [n.len] at e1 ⊢
  refine Runs.step e1 ?_
  refine Runs.step (rdc e2 (kb _ _)) ?_
  obtain ⟨y, y1, y2, y3⟩ := k3j (by omega) e
  rw [kbcp, y2, ks (by omega)]
  exact kxh n hn h8 r g d (i + 1) y (by omega) y1 y3
theorem k1e {h : AH} {s : Sl} {ns : List Nat} (n : Nats h s ns) (r : rt ns = true) (hn : ns.length ≠ 0) (h8 : ns.length ≤ 8) (ho : num B ns % 2 = 1) (h1 : 1 < num B ns) : Runs (go (.fn F.kdo [s.v]) h) (NewP h ns) := by
 have hp : 0 < ns.length := by omega
 have hd : ns.headD 0 = ns[0] := by
  cases ns with
  | nil => simp at hp
  | cons y ys => rfl
 have hb : ns[0] < 18446744073709551616 := n.lt _ (List.getElem_mem _)
 have hodd : ns[0] % 2 = 1 := by
  rw [kmr B ns, hd] at ho
  have : (ns[0] + 18446744073709551616 * num B ns.tail) % 2 = 1 := ho
  omega
 have hs : (ns[0] * ns[0]) % 2 ^ (2 ^ 0) = 1 % 2 ^ (2 ^ 0) := by
  show (ns[0] * ns[0]) % 2 = 1
  rw [Nat.mul_mod, hodd]
 have rd : ∀ {K : Ref → Option (AV × AH)} {Q : AV → AH → Prop}, (∀ q, h.cell q = some (.int .u64 ((ns[0] : Nat) : Int)) → Runs (K q) Q) → Runs ((idx s.ref ns.length 0 1).bind K) Q := by
  intro K Q H
  obtain ⟨q, e1, e2⟩ := n.at (i := 0) hp
  rw [n.len] at e1
  exact Runs.step e1 (H q e2)
 rw [k35]
 refine Runs.step (kcd n) ?_
 refine Runs.step (seen rfl) ?_
 rw [show s.len = ns.length from n.len]
 refine Runs.ifF (by rw [r]; rfl) ?_
 refine Runs.ifF (by rw [decide_eq_false_iff_not]; omega) ?_
 refine Runs.ifF (by rw [decide_eq_false_iff_not]; omega) ?_
 refine rd fun q hq => ?_
 refine Runs.step (rdc hq (kb _ _)) ?_
 refine Runs.ifF (by rw [k03 hb, decide_eq_false_iff_not]; omega) ?_
 have lp : Runs (go (.pt F.kdo Td.kjd [(0, s.v), (4, .int .u64 ((ns[0] : Nat) : Int)), (40, .int .i64 0)]) h) (NewP h ns) := kxh n hp h8 r (Grow.refl h) 6 0 ns[0] rfl hb hs
 refine Runs.cond (fun k => ?_) (fun k => ?_)
 ·refine rd fun q hq => ?_
  refine Runs.step (rdc hq (kb _ _)) ?_
  refine Runs.ifF ?_ ?_
  ·rw [decide_eq_false_iff_not]
   intro e
   have hl : ns.length = 1 := by rw [decide_eq_true_eq] at k; omega
   obtain ⟨y, hy⟩ := List.length_eq_one_iff.1 hl
   subst hy
   simp [num] at h1 e
   omega
  ·refine rd fun q hq => ?_
   refine Runs.step (rdc hq (kb _ _)) ?_
   exact lp
 ·refine rd fun q hq => ?_
  refine Runs.step (rdc hq (kb _ _)) ?_
  exact lp
end Go.Ab

/- squeezed -/
set_option linter.unusedVariables false
set_option linter.unusedSimpArgs false
set_option maxRecDepth 10000
namespace Go.Ab
open Go.Proofs Go.Num
def kw (x1 : List Nat) : List Nat :=
 (mulN x1 x1).1
theorem klv {h : AH} {a1 : Sl} {x1 : List Nat} (n1 : Nats h a1 x1)  : Runs (go (.fn F.khh [a1.v]) h) fun v h' => ∃ s1 : Sl, v = s1.v ∧ Nats h' s1 (kw x1) ∧ Grow h h' ∧ Own h s1 := by
 rw [k3b]
 obtain ⟨s2, H2, e2, n2, g2, o2⟩ := ke9 n1 n1
 refine Runs.step e2 ?_
 refine Runs.step rfl ?_
 refine Runs.step (seen (asSl_v _)) ?_
 refine Runs.step (seen (kb _ _)) ?_
 have z : kw x1 = (mulN x1 x1).1 := by unfold kw; exact rfl
 rw [z]
 exact Runs.ret ⟨s2, rfl, n2, g2, (o2.of_le (Grow.refl _))⟩
def k0 (x1 : List Nat) : Bool :=
 cond ((rt x1)) (cond (((bitN x1 0))) (cond (decide ((((bitsN x1 : Nat) : Int)) ≥ 15)) (decide ((((bitsN x1 : Nat) : Int)) ≤ 80)) (false)) (false)) (false)
theorem kz5 {h : AH} {a1 : Sl} {x1 : List Nat} (n1 : Nats h a1 x1)  : Runs (go (.fn F.kn2 [a1.v]) h) fun v h' => v = .bool (k0 x1) ∧ Grow h h' := by
 rw [k2c]
 obtain ⟨_, H2, e2, rfl, g2⟩ := kyi n1
 refine Runs.step e2 ?_
 refine Runs.step (seen (kb _ _)) ?_
 refine Runs.step (kcd (n1.grow g2)) ?_
 refine Runs.step (seen rfl) ?_
 refine Runs.cond (fun k4 => ?_) (fun k4 => ?_)
 ·obtain ⟨_, H5, e5, rfl, g5⟩ := kwu (n1.grow g2) (i := 0) (by decide)
  refine Runs.step e5 ?_
  refine Runs.step (seen rfl) ?_
  refine Runs.cond (fun k6 => ?_) (fun k6 => ?_)
  ·refine Runs.cond (fun k7 => ?_) (fun k7 => ?_)
   ·have z : k0 x1 = decide ((((bitsN x1 : Nat) : Int)) ≤ 80) := by unfold k0; exact (condT k4).trans ((condT k6).trans ((condT k7).trans rfl))
    rw [z]
    exact Runs.ret ⟨rfl, (g2.trans g5)⟩
   ·have z : k0 x1 = false := by unfold k0; exact (condT k4).trans ((condT k6).trans ((condF k7).trans rfl))
    rw [z]
    exact Runs.ret ⟨rfl, (g2.trans g5)⟩
  ·have z : k0 x1 = false := by unfold k0; exact (condT k4).trans ((condF k6).trans rfl)
   rw [z]
   exact Runs.ret ⟨rfl, (g2.trans g5)⟩
 ·have z : k0 x1 = false := by unfold k0; exact (condF k4).trans rfl
  rw [z]
  exact Runs.ret ⟨rfl, g2⟩
def ken (x1 : List Nat) (x2 : List Nat) : Bool :=
 cond ((rt x2)) (decide ((cmpN x2 x1) < 0)) (false)
theorem kbbh {h : AH} {a1 : Sl} {x1 : List Nat} {a2 : Sl} {x2 : List Nat} (n1 : Nats h a1 x1) (n2 : Nats h a2 x2)  : Runs (go (.fn F.kte [a1.v, a2.v]) h) fun v h' => v = .bool (ken x1 x2) ∧ Grow h h' := by
 rw [kbfc]
 refine Runs.step (kcd n2) ?_
 refine Runs.step (seen rfl) ?_
 refine Runs.cond (fun k4 => ?_) (fun k4 => ?_)
 ·obtain ⟨H5, e5, g5⟩ := kc8 n2 n1
  refine Runs.step e5 ?_
  refine Runs.step (seen (kb _ _)) ?_
  have z : ken x1 x2 = decide ((cmpN x2 x1) < 0) := by unfold ken; exact (condT k4).trans rfl
  rw [z]
  exact Runs.ret ⟨rfl, g5⟩
 ·have z : ken x1 x2 = false := by unfold ken; exact (condF k4).trans rfl
  rw [z]
  exact Runs.ret ⟨rfl, (Grow.refl _)⟩
def kbc (x1 : List Nat) (x2 : List Nat) (x3 : List Nat) : Bool :=
 cond (!(rt x1)) (false) (cond (decide ((List.length x1 : Int) = 0)) (false) (cond (decide ((cmpN x1 x3) ≥ 0)) (false) (decide ((cmpN ((gcdN x1 x2).1) [1]) = 0))))
theorem kzs {h : AH} {a1 : Sl} {x1 : List Nat} {a2 : Sl} {x2 : List Nat} {a3 : Sl} {x3 : List Nat} (n1 : Nats h a1 x1) (n2 : Nats h a2 x2) (n3 : Nats h a3 x3)  : Runs (go (.fn F.knr [a1.v, a2.v, a3.v]) h) fun v h' => v = .bool (kbc x1 x2 x3) ∧ Grow h h' := by
 rw [kbe3]
 rw [n1.len]
 refine Runs.step (kcd n1) ?_
 refine Runs.step (seen rfl) ?_
 refine Runs.cond (fun k5 => ?_) (fun k5 => ?_)
 ·have z : kbc x1 x2 x3 = false := by unfold kbc; exact (condT k5).trans rfl
  rw [z]
  exact Runs.ret ⟨rfl, (Grow.refl _)⟩
 ·refine Runs.cond (fun k6 => ?_) (fun k6 => ?_)
  ·have z : kbc x1 x2 x3 = false := by unfold kbc; exact (condF k5).trans ((condT k6).trans rfl)
   rw [z]
   exact Runs.ret ⟨rfl, (Grow.refl _)⟩
  ·obtain ⟨H7, e7, g7⟩ := kc8 n1 n3
   refine Runs.step e7 ?_
   refine Runs.step (seen (kb _ _)) ?_
   refine Runs.cond (fun k8 => ?_) (fun k8 => ?_)
   ·have z : kbc x1 x2 x3 = false := by unfold kbc; exact (condF k5).trans ((condF k6).trans ((condT k8).trans rfl))
    rw [z]
    exact Runs.ret ⟨rfl, g7⟩
   ·obtain ⟨_, H9, e9, s9, rfl, n9, g9, o9⟩ := k1d (n1.grow g7) (n2.grow g7)
    refine Runs.step e9 ?_
    refine Runs.step rfl ?_
    refine Runs.step (seen (asSl_v _)) ?_
    refine Runs.step (seen (kb _ _)) ?_
    refine Runs.new fun H10 b10 g10 => ?_
    obtain ⟨H11, e11, g11⟩ := kc8 (n9.grow g10) (Nats.of_has (xs := [1]) b10 (by decide) (by decide))
    refine Runs.step e11 ?_
    refine Runs.step (seen (kb _ _)) ?_
    have z : kbc x1 x2 x3 = decide ((cmpN ((gcdN x1 x2).1) [1]) = 0) := by unfold kbc; exact (condF k5).trans ((condF k6).trans ((condF k8).trans rfl))
    rw [z]
    have G12 := (((g7.trans g9).trans g10).trans g11)
    exact Runs.ret ⟨rfl, G12⟩
def kcp (x1 : List Nat) (x2 : List Nat) : Bool :=
 cond (((k0 x1))) (((kbc x2 x1 (kw x1)))) (false)
theorem kbb0 {h : AH} {a1 : Sl} {x1 : List Nat} {a2 : Sl} {x2 : List Nat} (n1 : Nats h a1 x1) (n2 : Nats h a2 x2)  : Runs (go (.fn F.krl [a1.v, a2.v]) h) fun v h' => v = .bool (kcp x1 x2) ∧ Grow h h' := by
 rw [k5a]
 obtain ⟨_, H3, e3, rfl, g3⟩ := kz5 n1
 refine Runs.step e3 ?_
 refine Runs.step (seen rfl) ?_
 refine Runs.cond (fun k4 => ?_) (fun k4 => ?_)
 ·obtain ⟨_, H5, e5, s5, rfl, n5, g5, o5⟩ := klv (n1.grow g3)
  refine Runs.step e5 ?_
  refine Runs.step (seen (asSl_v _)) ?_
  obtain ⟨_, H6, e6, rfl, g6⟩ := kzs (n2.grow (g3.trans g5)) (n1.grow (g3.trans g5)) n5
  refine Runs.step e6 ?_
  refine Runs.step (seen rfl) ?_
  have z : kcp x1 x2 = ((kbc x2 x1 (kw x1))) := by unfold kcp; exact (condT k4).trans rfl
  rw [z]
  have G7 := ((g3.trans g5).trans g6)
  exact Runs.ret ⟨rfl, G7⟩
 ·have z : kcp x1 x2 = false := by unfold kcp; exact (condF k4).trans rfl
  rw [z]
  exact Runs.ret ⟨rfl, g3⟩
def kq2 (x1 : List Nat) (x2 : List Nat) (x3 : List Nat) : List Nat :=
 (divN ((mulN x2 x3).1) (kw x1)).2.1
theorem k8u {h : AH} {a1 : Sl} {x1 : List Nat} {a2 : Sl} {x2 : List Nat} {a3 : Sl} {x3 : List Nat} (n1 : Nats h a1 x1) (n2 : Nats h a2 x2) (n3 : Nats h a3 x3)  : Runs (go (.fn F.kra [a1.v, a2.v, a3.v]) h) fun v h' => ∃ s1 : Sl, v = s1.v ∧ Nats h' s1 (kq2 x1 x2 x3) ∧ Grow h h' ∧ Own h s1 := by
 rw [kbg0]
 obtain ⟨s4, H4, e4, n4, g4, o4⟩ := ke9 n2 n3
 refine Runs.step e4 ?_
 refine Runs.step rfl ?_
 refine Runs.step (seen (asSl_v _)) ?_
 refine Runs.step (seen (kb _ _)) ?_
 obtain ⟨_, H5, e5, s5, rfl, n5, g5, o5⟩ := klv (n1.grow g4)
 refine Runs.step e5 ?_
 refine Runs.step (seen (asSl_v _)) ?_
 obtain ⟨s6, s6b, H6, e6, n6, n6b, g6, o6, o6b⟩ := kfm (n4.grow g5) n5
 refine Runs.step e6 ?_
 refine Runs.step rfl ?_
 refine Runs.step (seen (asSl_v _)) ?_
 refine Runs.step (seen (asSl_v _)) ?_
 refine Runs.step (seen (kb _ _)) ?_
 have z : kq2 x1 x2 x3 = (divN ((mulN x2 x3).1) (kw x1)).2.1 := by unfold kq2; exact rfl
 rw [z]
 have G7 := ((g4.trans g5).trans g6)
 exact Runs.ret ⟨s6b, rfl, n6b, G7, (o6b.of_le (g4.trans g5))⟩
def kgv (x1 : List Nat) (x2 : List Nat) : List Nat :=
 (addN ((mulN x2 x1).1) [1]).1
theorem k1m {h : AH} {a1 : Sl} {x1 : List Nat} {a2 : Sl} {x2 : List Nat} (n1 : Nats h a1 x1) (n2 : Nats h a2 x2)  : Runs (go (.fn F.kpl [a1.v, a2.v]) h) fun v h' => ∃ s1 : Sl, v = s1.v ∧ Nats h' s1 (kgv x1 x2) ∧ Grow h h' ∧ Own h s1 := by
 rw [kbg7]
 obtain ⟨s3, H3, e3, n3, g3, o3⟩ := ke9 n2 n1
 refine Runs.step e3 ?_
 refine Runs.step rfl ?_
 refine Runs.step (seen (asSl_v _)) ?_
 refine Runs.step (seen (kb _ _)) ?_
 refine Runs.new fun H4 b4 g4 => ?_
 obtain ⟨s5, H5, e5, n5, g5, o5⟩ := knp (n3.grow g4) (Nats.of_has (xs := [1]) b4 (by decide) (by decide))
 refine Runs.step e5 ?_
 refine Runs.step rfl ?_
 refine Runs.step (seen (asSl_v _)) ?_
 refine Runs.step (seen (kb _ _)) ?_
 have z : kgv x1 x2 = (addN ((mulN x2 x1).1) [1]).1 := by unfold kgv; exact rfl
 rw [z]
 have G6 := ((g3.trans g4).trans g5)
 exact Runs.ret ⟨s5, rfl, n5, G6, (o5.of_le (g3.trans g4))⟩
def kqz (x1 : List Nat) : List Nat :=
 (mulN x1 x1).1
theorem k6l {h : AH} {a1 : Sl} {x1 : List Nat} (n1 : Nats h a1 x1)  : Runs (go (.fn F.kni [a1.v]) h) fun v h' => ∃ s1 : Sl, v = s1.v ∧ Nats h' s1 (kqz x1) ∧ Grow h h' ∧ Own h s1 := by
 rw [k3y]
 obtain ⟨s2, H2, e2, n2, g2, o2⟩ := khn n1 n1
 refine Runs.step e2 ?_
 refine Runs.step rfl ?_
 refine Runs.step (seen (asSl_v _)) ?_
 refine Runs.step (seen (kb _ _)) ?_
 have z : kqz x1 = (mulN x1 x1).1 := by unfold kqz; exact rfl
 rw [z]
 exact Runs.ret ⟨s2, rfl, n2, g2, (o2.of_le (Grow.refl _))⟩
def ket (x1 : List Nat) (x2 : List Nat) (x3 : List Nat) : Bool :=
 cond (!(rt x1)) (false) (cond (decide ((List.length x1 : Int) = 0)) (false) (cond (decide ((cmpN x1 x3) ≥ 0)) (false) (decide ((cmpN ((gcdN x1 x2).1) [1]) = 0))))
theorem kbgs {h : AH} {a1 : Sl} {x1 : List Nat} {a2 : Sl} {x2 : List Nat} {a3 : Sl} {x3 : List Nat} (n1 : Nats h a1 x1) (n2 : Nats h a2 x2) (n3 : Nats h a3 x3)  : Runs (go (.fn F.ko5 [a1.v, a2.v, a3.v]) h) fun v h' => v = .bool (ket x1 x2 x3) ∧ Grow h h' := by
 rw [kbb5]
 rw [n1.len]
 refine Runs.step (kbr n1) ?_
 refine Runs.step (seen rfl) ?_
 refine Runs.cond (fun k5 => ?_) (fun k5 => ?_)
 ·have z : ket x1 x2 x3 = false := by unfold ket; exact (condT k5).trans rfl
  rw [z]
  exact Runs.ret ⟨rfl, (Grow.refl _)⟩
 ·refine Runs.cond (fun k6 => ?_) (fun k6 => ?_)
  ·have z : ket x1 x2 x3 = false := by unfold ket; exact (condF k5).trans ((condT k6).trans rfl)
   rw [z]
   exact Runs.ret ⟨rfl, (Grow.refl _)⟩
  ·obtain ⟨H7, e7, g7⟩ := kk5 n1 n3
   refine Runs.step e7 ?_
   refine Runs.step (seen (kb _ _)) ?_
   refine Runs.cond (fun k8 => ?_) (fun k8 => ?_)
   ·have z : ket x1 x2 x3 = false := by unfold ket; exact (condF k5).trans ((condF k6).trans ((condT k8).trans rfl))
    rw [z]
    exact Runs.ret ⟨rfl, g7⟩
   ·obtain ⟨_, H9, e9, s9, rfl, n9, g9, o9⟩ := kyx (n1.grow g7) (n2.grow g7)
    refine Runs.step e9 ?_
    refine Runs.step rfl ?_
    refine Runs.step (seen (asSl_v _)) ?_
    refine Runs.step (seen (kb _ _)) ?_
    obtain ⟨s10, H10, e10, n10, g10, o10⟩ := kvs
    refine Runs.step e10 ?_
    refine Runs.step (seen (asSl_v _)) ?_
    obtain ⟨H11, e11, g11⟩ := kk5 (n9.grow g10) n10
    refine Runs.step e11 ?_
    refine Runs.step (seen (kb _ _)) ?_
    have z : ket x1 x2 x3 = decide ((cmpN ((gcdN x1 x2).1) [1]) = 0) := by unfold ket; exact (condF k5).trans ((condF k6).trans ((condF k8).trans rfl))
    rw [z]
    have G12 := (((g7.trans g9).trans g10).trans g11)
    exact Runs.ret ⟨rfl, G12⟩
def kcr (x1 : List Nat) (x2 : List Nat) (x3 : List Nat) : List Nat :=
 (divN ((mulN x1 x2).1) x3).2.1
theorem kuw {h : AH} {a1 : Sl} {x1 : List Nat} {a2 : Sl} {x2 : List Nat} {a3 : Sl} {x3 : List Nat} (n1 : Nats h a1 x1) (n2 : Nats h a2 x2) (n3 : Nats h a3 x3)  : Runs (go (.fn F.kl7 [a1.v, a2.v, a3.v]) h) fun v h' => ∃ s1 : Sl, v = s1.v ∧ Nats h' s1 (kcr x1 x2 x3) ∧ Grow h h' ∧ Own h s1 := by
 rw [kbhc]
 obtain ⟨s4, H4, e4, n4, g4, o4⟩ := khn n1 n2
 refine Runs.step e4 ?_
 refine Runs.step rfl ?_
 refine Runs.step (seen (asSl_v _)) ?_
 refine Runs.step (seen (kb _ _)) ?_
 obtain ⟨s5, H5, e5, n5, g5, o5⟩ := krm n4 (n3.grow g4)
 refine Runs.step e5 ?_
 refine Runs.step (seen (asSl_v _)) ?_
 have z : kcr x1 x2 x3 = (divN ((mulN x1 x2).1) x3).2.1 := by unfold kcr; exact rfl
 rw [z]
 exact Runs.ret ⟨s5, rfl, n5, (g4.trans g5), (o5.of_le g4)⟩
theorem kbed : kqz = kw := rfl
theorem k1j {h : AH} {a1 : Sl} {x1 : List Nat} (n1 : Nats h a1 x1)  : Runs (go (.fn F.kni [a1.v]) h) fun v h' => ∃ s1 : Sl, v = s1.v ∧ Nats h' s1 (kw x1) ∧ Grow h h' ∧ Own h s1 := by
 rw [← kbed]
 exact k6l n1
theorem kbgo : ket = kbc := rfl
theorem kbfm {h : AH} {a1 : Sl} {x1 : List Nat} {a2 : Sl} {x2 : List Nat} {a3 : Sl} {x3 : List Nat} (n1 : Nats h a1 x1) (n2 : Nats h a2 x2) (n3 : Nats h a3 x3)  : Runs (go (.fn F.ko5 [a1.v, a2.v, a3.v]) h) fun v h' => v = .bool (kbc x1 x2 x3) ∧ Grow h h' := by
 rw [← kbgo]
 exact kbgs n1 n2 n3
inductive kiy
 | fn (x1 : List Nat)
 | no
abbrev kgb := Bool
noncomputable def kl0 (x1 : List Nat) : Option (kiy ⊕ kgb) :=
 cond ((rt x1)) (cond (decide ((List.length x1 : Int) > 0)) ((atI x1 0).bind fun y6 => cond (decide ((Int.tmod ((y6 : Int)) 2) = 1)) (cond (decide ((((bitsN x1 : Nat) : Int)) ≥ 15)) (some (.inr (decide ((((bitsN x1 : Nat) : Int)) ≤ 80)))) (some (.inr false))) (some (.inr false))) (some (.inr false))) (some (.inr false))
noncomputable def ksz : kiy → Option (kiy ⊕ kgb)
 | .fn x1 => kl0 x1
 | .no => none
@[reducible] def kx3 (h0 : AH) (r : kgb) (v : AV) (h' : AH) : Prop := v = .bool r ∧ Grow h0 h'
def krf (r : kgb) : kiy → Prop
 | .fn x1 => ∀ {h : AH} {a1 : Sl}, Nats h a1 x1 → Runs (go (.fn F.kmn [a1.v]) h) (kx3 h r)
 | .no => True
theorem kbaj {r : kgb} {o : kiy ⊕ kgb} {x1 : List Nat} (e : kl0 x1 = some o) (good : GoodS (krf r) r o) : krf r (.fn x1) := by
 intro h a1 n1
 rw [kbga]
 unfold kl0 at e
 rw [n1.len]
 refine Runs.step (kbr n1) ?_
 refine Runs.step (seen rfl) ?_
 obtain ⟨_, H3, e3, rfl, g3⟩ := ksu n1
 refine Runs.step e3 ?_
 refine Runs.step (seen (kb _ _)) ?_
 refine Runs.cond (fun k4 => ?_) (fun k4 => ?_)
 ·replace e := (condT k4).symm.trans e
  refine Runs.cond (fun k5 => ?_) (fun k5 => ?_)
  ·replace e := (condT k5).symm.trans e
   obtain ⟨y6, q6, e⟩ := Option.bind_eq_some_iff.1 e
   obtain ⟨r6, j6, l6⟩ := (n1.grow g3).atI q6
   refine Runs.step j6 ?_
   refine Runs.step (rdc l6 (kb _ _)) ?_
   refine Runs.cond (fun k7 => ?_) (fun k7 => ?_)
   ·replace e := (condT k7).symm.trans e
    refine Runs.cond (fun k8 => ?_) (fun k8 => ?_)
    ·replace e := (condT k8).symm.trans e
     cases e
     cases good
     exact Runs.ret ⟨rfl, g3⟩
    ·replace e := (condF k8).symm.trans e
     cases e
     cases good
     exact Runs.ret ⟨rfl, g3⟩
   ·replace e := (condF k7).symm.trans e
    cases e
    cases good
    exact Runs.ret ⟨rfl, g3⟩
  ·replace e := (condF k5).symm.trans e
   cases e
   cases good
   exact Runs.ret ⟨rfl, g3⟩
 ·replace e := (condF k4).symm.trans e
  cases e
  cases good
  exact Runs.ret ⟨rfl, g3⟩
theorem k59 {s : kiy} {r : kgb} (it : Iter ksz s r) : krf r s := Iter.ind (fun s o e good => by
 cases s with
 | fn x1 => exact @kbaj _ _ x1 e good
 | no => exact True.intro
 ) it
theorem k7u {h : AH} {a1 : Sl} {x1 : List Nat} (n1 : Nats h a1 x1) {r : kgb} (q : runP ksz (.fn x1) = some r) : Runs (go (.fn F.kmn [a1.v]) h) (kx3 h r) := k59 (kbn q) n1
theorem bit0 {xs : List Nat} (l : ∀ x ∈ xs, x < B) (h : 0 < xs.length) (r : rt xs = true) : bitN xs 0 = decide (xs[0] % 2 = 1) := by
 have := ksm l (q := 0) (r := 0) h (by decide)
 rw [Nat.pow_zero, Nat.div_one] at this
 rw [show (0 : Int) = ((0 : Nat) : Int) from rfl, kkf r]
 exact this
theorem kbey {xs : List Nat} (l : ∀ x ∈ xs, x < B) : Iter ksz (.fn xs) (k0 xs) := by
 refine .done ?_
 show kl0 _ = _
 unfold kl0 k0
 cases hr : rt xs with
 | false => rfl
 | true =>
  rw [cond_true, cond_true]
  by_cases hl : 0 < xs.length
  ·rw [condT (by rw [decide_eq_true_eq]; omega), show (0 : Int) = ((0 : Nat) : Int) from rfl, kbf hl, Option.bind_some, tmod2, show ((0 : Nat) : Int) = 0 from rfl, bit0 l hl hr]
   have : decide (((xs[0] % 2 : Nat) : Int) = 1) = decide (xs[0] % 2 = 1) := by rw [decide_eq_decide]; omega
   rw [this]
   cases decide (xs[0] % 2 = 1)
   ·rfl
   ·rw [cond_true, cond_true]
    cases decide (((bitsN xs : Nat) : Int) ≥ 15) <;> rfl
  ·have : xs = [] := List.length_eq_zero_iff.1 (by omega)
   subst this
   rfl
theorem k6t {h : AH} {s : Sl} {xs : List Nat} (n : Nats h s xs) : Runs (go (.fn F.kmn [s.v]) h) fun v h' => v = .bool (k0 xs) ∧ Grow h h' := k7u n (kbg (kbey n.lt))
def ki4 (x1 : List Nat) (x2 : List Nat) : Bool :=
 cond (((k0 x1))) (((kbc x2 x1 (kw x1)))) (false)
theorem k4d {h : AH} {a1 : Sl} {x1 : List Nat} {a2 : Sl} {x2 : List Nat} (n1 : Nats h a1 x1) (n2 : Nats h a2 x2)  : Runs (go (.fn F.kqo [a1.v, a2.v]) h) fun v h' => v = .bool (ki4 x1 x2) ∧ Grow h h' := by
 rw [k2r]
 obtain ⟨_, H3, e3, rfl, g3⟩ := k6t n1
 refine Runs.step e3 ?_
 refine Runs.step (seen rfl) ?_
 refine Runs.cond (fun k4 => ?_) (fun k4 => ?_)
 ·obtain ⟨_, H5, e5, s5, rfl, n5, g5, o5⟩ := k1j (n1.grow g3)
  refine Runs.step e5 ?_
  refine Runs.step (seen (asSl_v _)) ?_
  obtain ⟨_, H6, e6, rfl, g6⟩ := kbfm (n2.grow (g3.trans g5)) (n1.grow (g3.trans g5)) n5
  refine Runs.step e6 ?_
  refine Runs.step (seen rfl) ?_
  have z : ki4 x1 x2 = ((kbc x2 x1 (kw x1))) := by unfold ki4; exact (condT k4).trans rfl
  rw [z]
  have G7 := ((g3.trans g5).trans g6)
  exact Runs.ret ⟨rfl, G7⟩
 ·have z : ki4 x1 x2 = false := by unfold ki4; exact (condF k4).trans rfl
  rw [z]
  exact Runs.ret ⟨rfl, g3⟩
theorem k26 : ki4 = kcp := rfl
theorem kbaq {h : AH} {a1 : Sl} {x1 : List Nat} {a2 : Sl} {x2 : List Nat} (n1 : Nats h a1 x1) (n2 : Nats h a2 x2)  : Runs (go (.fn F.kqo [a1.v, a2.v]) h) fun v h' => v = .bool (kcp x1 x2) ∧ Grow h h' := by
 rw [← k26]
 exact k4d n1 n2
end Go.Ab

/- squeezed -/
set_option linter.unusedVariables false
set_option linter.unusedSimpArgs false
set_option maxRecDepth 10000
namespace Go.Ab
open Go.Proofs Go.Num
inductive kgy
 | fn (x1 : List Nat) (x2 : List Nat) (x3 : List Nat)
 | p3 (x1 : List Nat) (x2 : List Nat) (x3 : List Nat) (x4 : List Nat) (a5 : Int)
abbrev kdr := List Nat
noncomputable def klx (x1 : List Nat) (x2 : List Nat) (x3 : List Nat) : Option (kgy ⊕ kdr) :=
 some (.inl (.p3 x1 x2 x3 [1] (IntKind.wrap .i64 ((((bitsN x2 : Nat) : Int)) - 1))))
noncomputable def kh1 (x1 : List Nat) (x2 : List Nat) (x3 : List Nat) (x4 : List Nat) (a5 : Int) : Option (kgy ⊕ kdr) :=
 cond (decide (a5 ≥ 0)) ((need ((a5 : Int) ≤ 9223372036854775807)).bind fun c8_0 => cond (((bitN x2 a5))) (some (.inl (.p3 x1 x2 x3 (kcr (kcr x4 x4 x3) x1 x3) (IntKind.wrap .i64 (a5 - 1))))) (some (.inl (.p3 x1 x2 x3 (kcr x4 x4 x3) (IntKind.wrap .i64 (a5 - 1)))))) (some (.inr x4))
noncomputable def ksv : kgy → Option (kgy ⊕ kdr)
 | .fn x1 x2 x3 => klx x1 x2 x3
 | .p3 x1 x2 x3 x4 a5 => kh1 x1 x2 x3 x4 a5
@[reducible] def ko8 (h0 : AH) (r : kdr) (v : AV) (h' : AH) : Prop := ∃ s1 : Sl, v = s1.v ∧ Nats h' s1 r ∧ Grow h0 h' ∧ Own h0 s1
def klg (r : kdr) : kgy → Prop
 | .fn x1 x2 x3 => ∀ {h : AH} {a1 : Sl} {a2 : Sl} {a3 : Sl}, Nats h a1 x1 → Nats h a2 x2 → Nats h a3 x3 → Runs (go (.fn F.kez [a1.v, a2.v, a3.v]) h) (ko8 h r)
 | .p3 x1 x2 x3 x4 a5 => ∀ {h0 h : AH} {a1 : Sl} {a2 : Sl} {a3 : Sl} {a4 : Sl}, Grow h0 h → Nats h a1 x1 → Nats h a2 x2 → Nats h a3 x3 → Nats h a4 x4 → Own h0 a4 → Runs (go (.pt F.kez Td.kl6 [(0, a1.v), (1, a2.v), (2, a3.v), (7, a4.v), (8, .int .i64 a5)]) h) (ko8 h0 r)
theorem kbeh {r : kdr} {o : kgy ⊕ kdr} {x1 : List Nat} {x2 : List Nat} {x3 : List Nat} (e : klx x1 x2 x3 = some o) (good : GoodS (klg r) r o) : klg r (.fn x1 x2 x3) := by
 intro h a1 a2 a3 n1 n2 n3
 rw [k58]
 unfold klx at e
 obtain ⟨s4, H4, e4, n4, g4, o4⟩ := kvs
 refine Runs.step e4 ?_
 refine Runs.step (seen (asSl_v _)) ?_
 obtain ⟨_, H5, e5, rfl, g5⟩ := ksu (n2.grow g4)
 refine Runs.step e5 ?_
 refine Runs.step (seen (kb _ _)) ?_
 cases e
 exact good (g4.trans g5) (n1.grow (g4.trans g5)) (n2.grow (g4.trans g5)) (n3.grow (g4.trans g5)) (n4.grow g5) (o4.of_le (Grow.refl _))
theorem kbg8 {r : kdr} {o : kgy ⊕ kdr} {x1 : List Nat} {x2 : List Nat} {x3 : List Nat} {x4 : List Nat} {a5 : Int} (e : kh1 x1 x2 x3 x4 a5 = some o) (good : GoodS (klg r) r o) : klg r (.p3 x1 x2 x3 x4 a5) := by
 intro h0 h a1 a2 a3 a4 g0 n1 n2 n3 n4 ow4
 rw [kbii]
 unfold kh1 at e
 refine Runs.cond (fun k6 => ?_) (fun k6 => ?_)
 ·replace e := (condT k6).symm.trans e
  obtain ⟨_, H7, e7, s7, rfl, n7, g7, o7⟩ := kuw n4 n4 n3
  refine Runs.step e7 ?_
  refine Runs.step (seen (asSl_v _)) ?_
  obtain ⟨c8_0, q8_0, e⟩ := Option.bind_eq_some_iff.1 e
  obtain ⟨_, H8, e8, rfl, g8⟩ := kbfv (n2.grow g7)  c8_0.down
  refine Runs.step e8 ?_
  refine Runs.step (seen rfl) ?_
  refine Runs.cond (fun k9 => ?_) (fun k9 => ?_)
  ·replace e := (condT k9).symm.trans e
   obtain ⟨_, H10, e10, s10, rfl, n10, g10, o10⟩ := kuw (n7.grow g8) (n1.grow (g7.trans g8)) (n3.grow (g7.trans g8))
   refine Runs.step e10 ?_
   refine Runs.step (seen (asSl_v _)) ?_
   have G11 := ((g7.trans g8).trans g10)
   have n1_12 := n1.grow G11
   have n2_13 := n2.grow G11
   have n3_14 := n3.grow G11
   have G15 := ((g0.trans g7).trans g8)
   cases e
   have G16 := (G15.trans g10)
   exact good G16 n1_12 n2_13 n3_14 n10 (o10.of_le G15)
  ·replace e := (condF k9).symm.trans e
   cases e
   have G10 := ((g0.trans g7).trans g8)
   exact good G10 (n1.grow (g7.trans g8)) (n2.grow (g7.trans g8)) (n3.grow (g7.trans g8)) (n7.grow g8) (o7.of_le g0)
 ·replace e := (condF k6).symm.trans e
  cases e
  cases good
  exact Runs.ret ⟨a4, rfl, n4, g0, (ow4.of_le (Grow.refl _))⟩
theorem kbak {s : kgy} {r : kdr} (it : Iter ksv s r) : klg r s := Iter.ind (fun s o e good => by
 cases s with
 | fn x1 x2 x3 => exact @kbeh _ _ x1 x2 x3 e good
 | p3 x1 x2 x3 x4 a5 => exact @kbg8 _ _ x1 x2 x3 x4 a5 e good
 ) it
theorem k4g {h : AH} {a1 : Sl} {a2 : Sl} {a3 : Sl} {x1 : List Nat} {x2 : List Nat} {x3 : List Nat} (n1 : Nats h a1 x1) (n2 : Nats h a2 x2) (n3 : Nats h a3 x3) {r : kdr} (q : runP ksv (.fn x1 x2 x3) = some r) : Runs (go (.fn F.kez [a1.v, a2.v, a3.v]) h) (ko8 h r) := kbak (kbn q) n1 n2 n3
end Go.Ab

/- squeezed -/
set_option linter.unusedVariables false
set_option linter.unusedSimpArgs false
set_option maxRecDepth 10000
namespace Go.Ab
open Go.Proofs Go.Num
def powOk (xs es ns : List Nat) : Prop := rt xs = true ∧ rt es = true ∧ rt ns = true ∧ ns.length ≤ 30 ∧ 1 < num B ns ∧ num B xs < num B ns
def powN (xs es ns : List Nat) : List Nat := digs B (num B xs ^ num B es % num B ns)
theorem kdt {a b : Nat} (ha : a < B ^ 30) (hb : b < B ^ 30) : mulN (digs B a) (digs B b) = (digs B (a * b), 0) := by
 have h60 : a * b < B ^ 64 := by
  calc a * b < B ^ 30 * B ^ 30 := Nat.mul_lt_mul_of_lt_of_lt ha hb
   _ = B ^ 60 := by rw [← Nat.pow_add]
   _ ≤ B ^ 64 := Nat.pow_le_pow_right (by decide) (by decide)
 have up : ∀ {c : Nat}, c < B ^ 30 → c < B ^ 64 := fun h => Nat.lt_of_lt_of_le h (Nat.pow_le_pow_right (by decide) (by decide))
 unfold mulN
 rw [if_pos ⟨kj (up ha), kj (up hb)⟩, kf B2, kf B2]
 unfold told
 rw [if_pos h60]
theorem lt30 {ns : List Nat} (l : ∀ x ∈ ns, x < B) (h : ns.length ≤ 30) : num B ns < B ^ 30 := Nat.lt_of_lt_of_le (num_lt B1 l) (Nat.pow_le_pow_right (by decide) h)
theorem kq6 {xs : List Nat} (l : ∀ x ∈ xs, x < B) (r : rt xs = true) : digs B (num B xs) = xs := kcx B2 l (rt_iff.1 r).2
theorem k0i {ns : List Nat} (l : ∀ x ∈ ns, x < B) (r : rt ns = true) (h : ns.length ≤ 30) (h1 : 0 < num B ns) {a b : Nat} (ha : a < num B ns) (hb : b < num B ns) : kcr (digs B a) (digs B b) ns = digs B (a * b % num B ns) := by
 have hn := lt30 l h
 have h60 : a * b < B ^ 64 := by
  calc a * b < B ^ 30 * B ^ 30 := Nat.mul_lt_mul_of_lt_of_lt (Nat.lt_trans ha hn) (Nat.lt_trans hb hn)
   _ = B ^ 60 := by rw [← Nat.pow_add]
   _ ≤ B ^ 64 := Nat.pow_le_pow_right (by decide) (by decide)
 unfold kcr
 rw [kdt (Nat.lt_trans ha hn) (Nat.lt_trans hb hn), kkm (kj h60) r (fun e => by rw [e] at h1; simp [num] at h1), kf B2]
theorem kwt {xs es ns : List Nat} (lx : ∀ x ∈ xs, x < B) (le : ∀ x ∈ es, x < B) (ln : ∀ x ∈ ns, x < B) (c : powOk xs es ns) : ∀ j : Nat, j ≤ 100000 →
  Iter ksv (.p3 xs es ns (digs B (num B xs ^ (num B es / 2 ^ j) % num B ns)) ((j : Int) - 1)) (powN xs es ns)
 | 0, _ => by
  refine .done ?_
  show kh1 _ _ _ _ _ = _
  unfold kh1 powN
  rw [condF (by decide), Nat.pow_zero, Nat.div_one]
 | j + 1, hj => by
  obtain ⟨c1, c2, c3, c4, c5, c6⟩ := c
  have K := kwt lx le ln ⟨c1, c2, c3, c4, c5, c6⟩ j (by omega)
  have h0 : 0 < num B ns := by omega
  have hb := k1h (num B es) j
  refine .next ?_ K
  show kh1 _ _ _ _ _ = _
  unfold kh1
  have hneed : ((j : Nat) : Int) ≤ 9223372036854775807 := by omega
  rw [show ((j + 1 : Nat) : Int) - 1 = (j : Int) from by omega, condT (by rw [decide_eq_true_eq]; omega), ki hneed, Option.bind_some, kkf c2, hb]
  have sq : kcr (digs B (num B xs ^ (num B es / 2 ^ (j + 1)) % num B ns)) (digs B (num B xs ^ (num B es / 2 ^ (j + 1)) % num B ns)) ns = digs B (num B xs ^ (2 * (num B es / 2 ^ (j + 1))) % num B ns) := by
   rw [k0i ln c3 c4 h0 (Nat.mod_lt _ h0) (Nat.mod_lt _ h0), ← Nat.mul_mod, ← Nat.pow_add, Nat.two_mul]
  have hw : IntKind.wrap .i64 ((j : Int) - 1) = (j : Int) - 1 := wrap64 (by omega) (by omega)
  rw [sq, hw]
  cases (num B es).testBit j
  ·rfl
  ·have ml : kcr (digs B (num B xs ^ (2 * (num B es / 2 ^ (j + 1))) % num B ns)) xs ns = digs B (num B xs ^ (2 * (num B es / 2 ^ (j + 1)) + 1) % num B ns) := by
    have := k0i ln c3 c4 h0 (Nat.mod_lt (num B xs ^ (2 * (num B es / 2 ^ (j + 1)))) h0) c6
    rw [kq6 lx c1] at this
    rw [this, Nat.mod_mul_mod, ← Nat.pow_succ]
   rw [ml]
   rfl
theorem kbar {h : AH} {s t u : Sl} {xs es ns : List Nat} (nx : Nats h s xs) (ne : Nats h t es) (nn : Nats h u ns) (c : powOk xs es ns) : Runs (go (.fn F.kez [s.v, t.v, u.v]) h) (ko8 h (powN xs es ns)) := by
 refine k4g nx ne nn (kbg (.next ?_ (kwt nx.lt ne.lt nn.lt c (bitsN es) ?_)))
 ·show klx _ _ _ = _
  have hE : num B es < 2 ^ bitsN es := by
   unfold bitsN
   rw [if_pos c.2.1]
   exact (bl_Bl _).1
  have hw : IntKind.wrap .i64 (((bitsN es : Nat) : Int) - 1) = ((bitsN es : Nat) : Int) - 1 := by
   have hlt := num_lt B1 ne.lt
   have h64 := (rt_iff.1 c.2.1).1
   have hb : bitsN es ≤ 64 * es.length := by
    unfold bitsN
    rw [if_pos c.2.1]
    rw [B_pow2] at hlt
    exact bl_le hlt
   exact wrap64 (by omega) (by omega)
  have h1 : ([1] : List Nat) = digs B 1 := by rw [kdf B2 (by decide), show 1 / B = 0 from rfl, kbe]; rfl
  unfold klx
  rw [hw, Nat.div_eq_of_lt hE, Nat.pow_zero, Nat.mod_eq_of_lt c.2.2.2.2.1, h1]
 ·have hlt := num_lt B1 ne.lt
  have h64 := (rt_iff.1 c.2.1).1
  unfold bitsN
  rw [if_pos c.2.1]
  rw [B_pow2] at hlt
  have := bl_le hlt
  omega
theorem kul {ns : List Nat} (l : ∀ x ∈ ns, x < B) (h : k0 ns = true) : rt ns = true ∧ num B ns % 2 = 1 ∧ 16384 ≤ num B ns ∧ num B ns < 2 ^ 80 := by
 unfold k0 at h
 simp only [Bool.cond_eq_true_distrib, Bool.cond_false_right, Bool.and_eq_true, decide_eq_true_eq] at h
 obtain ⟨h1, h2, h3, h4⟩ := h
 have hb : bitsN ns = bl (num B ns) := by unfold bitsN; rw [if_pos h1]
 rw [hb] at h3 h4
 obtain ⟨b1, b2⟩ := bl_Bl (num B ns)
 refine ⟨h1, ?_, ?_, ?_⟩
 ·rw [show (0 : Int) = ((0 : Nat) : Int) from rfl, kkf h1, Nat.testBit_zero, decide_eq_true_eq] at h2
  exact h2
 ·rcases b2 with b2 | b2
  ·omega
  ·exact Nat.le_trans (Nat.pow_le_pow_right (n := 2) (i := 14) (by decide) (by omega)) b2
 ·exact Nat.lt_of_lt_of_le b1 (Nat.pow_le_pow_right (by decide) (by omega))
theorem kzf {ns : List Nat} (l : ∀ x ∈ ns, x < B) (h : k0 ns = true) : kw ns = digs B (num B ns * num B ns) ∧ num B ns * num B ns < B ^ 3 ∧ 1 < num B ns * num B ns ∧ num B ns * num B ns % 2 = 1 := by
 obtain ⟨h1, h2, h3, h4⟩ := kul l h
 have h30 : num B ns < B ^ 30 := Nat.lt_trans h4 (by decide)
 refine ⟨?_, ?_, ?_, ?_⟩
 ·unfold kw
  have := kdt h30 h30
  rw [kq6 l h1] at this
  rw [this]
 ·calc num B ns * num B ns < 2 ^ 80 * 2 ^ 80 := Nat.mul_lt_mul_of_lt_of_lt h4 h4
   _ < B ^ 3 := by decide
 ·calc 1 < 16384 * 16384 := by decide
   _ ≤ num B ns * num B ns := Nat.mul_le_mul h3 h3
 ·rw [Nat.mul_mod, h2]
def kn9 (ns xs es : List Nat) : Prop := k0 ns = true ∧ rt xs = true ∧ num B xs < num B ns * num B ns ∧ rt es = true ∧ es.length ≤ 8
theorem k4m {h : AH} {s t u : Sl} {ns xs es : List Nat} (nn : Nats h s ns) (nx : Nats h t xs) (ne : Nats h u es) (c : kn9 ns xs es) :
  Runs (go (.fn F.ksr [s.v, t.v, u.v]) h) fun v h' => ∃ s1 : Sl, v = s1.v ∧ Nats h' s1 (powN xs es (kw ns)) ∧ Grow h h' ∧ Own h s1 := by
 obtain ⟨c1, c2, c3, c4, c5⟩ := c
 obtain ⟨q1, q2, q3, q4⟩ := kzf nn.lt c1
 have hN0 : num B ns * num B ns ≠ 0 := by omega
 rw [kbdn]
 obtain ⟨_, h1, e1, s1, rfl, n1, g1, o1⟩ := klv nn
 refine Runs.step e1 ?_
 refine Runs.step (seen (asSl_v _)) ?_
 rw [q1] at n1 ⊢
 have hl3 : (digs B (num B ns * num B ns)).length ≤ 3 := (kp B2 _ 3).2 q2
 have hn : num B (digs B (num B ns * num B ns)) = num B ns * num B ns := kf B2 _
 obtain ⟨_, h2, e2, j, v, s0, s2, s3, rfl, v1, v2, b, m0, m2, m3, g2⟩ := k1e n1 (kj (Nat.lt_of_lt_of_le q2 (Nat.pow_le_pow_right (by decide) (by decide)))) (fun e => hN0 (by rw [List.length_eq_zero_iff] at e; exact (keu B2).1 e)) (by omega) (by rw [hn]; exact q4) (by rw [hn]; exact q3)
 refine Runs.step e2 ?_
 refine Runs.step rfl ?_
 refine Runs.step (seen rfl) ?_
 refine Runs.step (seen (kb _ _)) ?_
 rw [hn] at v2 m2 m3
 have ring : RingOk (num B ns * num B ns) (digs B (num B ns * num B ns)).length v := ⟨by omega, by have := num_lt B1 (ku B2 (num B ns * num B ns)); rwa [hn] at this, q3, q4, v1, v2, rfl⟩
 have f1 : digs B (B ^ (1 * (digs B (num B ns * num B ns)).length) % (num B ns * num B ns)) = form (num B ns * num B ns) (digs B (num B ns * num B ns)).length 1 := by
  unfold form
  rw [Nat.one_mul, Nat.one_mul, B_pow2]
 have f2 : B ^ (2 * (digs B (num B ns * num B ns)).length) = 2 ^ (64 * (digs B (num B ns * num B ns)).length) * 2 ^ (64 * (digs B (num B ns * num B ns)).length) := by
  rw [Nat.two_mul, Nat.pow_add, B_pow2]
 rw [f1] at m2
 rw [f2] at m3
 have it := k02 ring c3 ne.lt c4 c5
 rw [kq6 nx.lt c2] at it
 obtain ⟨_, h3, e3, s4, rfl, n4, g4, o4⟩ := ky2 b m0 m2 m3 (nx.grow (g1.trans g2)) (ne.grow (g1.trans g2)) it
 refine Runs.step e3 ?_
 refine Runs.step rfl ?_
 refine Runs.step (seen (asSl_v _)) ?_
 refine Runs.step (seen (kb _ _)) ?_
 refine Runs.ret ⟨s4, rfl, ?_, (g1.trans g2).trans g4, o4.of_le (g1.trans g2)⟩
 unfold powN
 rw [hn]
 exact n4
end Go.Ab

/- squeezed -/
set_option linter.unusedVariables false
set_option linter.unusedSimpArgs false
set_option maxRecDepth 10000
namespace Go.Ab
open Go.Proofs Go.Num
inductive kgs
 | fn (x1 : List (List Nat))
 | p2 (x1 : List (List Nat)) (a2 : Int)
abbrev kef := Bool
noncomputable def ksy (x1 : List (List Nat)) : Option (kgs ⊕ kef) :=
 some (.inl (.p2 x1 0))
noncomputable def kf1 (x1 : List (List Nat)) (a2 : Int) : Option (kgs ⊕ kef) :=
 cond (decide (a2 < (List.length x1 : Int))) ((atX x1 a2).bind fun y4 => cond (decide ((List.length y4 : Int) > 20)) (some (.inr false)) (some (.inl (.p2 x1 (IntKind.wrap .i64 (a2 + 1)))))) (some (.inr true))
noncomputable def kpw : kgs → Option (kgs ⊕ kef)
 | .fn x1 => ksy x1
 | .p2 x1 a2 => kf1 x1 a2
@[reducible] def kp2 (h0 : AH) (r : kef) (v : AV) (h' : AH) : Prop := v = .bool r ∧ Grow h0 h'
def kkw (r : kef) : kgs → Prop
 | .fn x1 => ∀ {h : AH} {a1 : Sl}, Seq El.nats h a1 x1 → Runs (go (.fn F.kfr [a1.v]) h) (kp2 h r)
 | .p2 x1 a2 => ∀ {h0 h : AH} {a1 : Sl}, Grow h0 h → Seq El.nats h a1 x1 → Runs (go (.pt F.kfr Td.kpx [(0, a1.v), (3, .int .i64 a2)]) h) (kp2 h0 r)
theorem kbhq {r : kef} {o : kgs ⊕ kef} {x1 : List (List Nat)} (e : ksy x1 = some o) (good : GoodS (kkw r) r o) : kkw r (.fn x1) := by
 intro h a1 n1
 rw [kbdy]
 unfold ksy at e
 cases e
 exact good (Grow.refl _) n1
theorem k66 {r : kef} {o : kgs ⊕ kef} {x1 : List (List Nat)} {a2 : Int} (e : kf1 x1 a2 = some o) (good : GoodS (kkw r) r o) : kkw r (.p2 x1 a2) := by
 intro h0 h a1 g0 n1
 rw [k78]
 unfold kf1 at e
 rw [n1.len]
 refine Runs.cond (fun k3 => ?_) (fun k3 => ?_)
 ·replace e := (condT k3).symm.trans e
  obtain ⟨y4, q4, e⟩ := Option.bind_eq_some_iff.1 e
  obtain ⟨r4, cs4, j4, E4, l4⟩ := (n1).at q4
  obtain ⟨s4, rfl, n4⟩ := E4
  refine Runs.step j4 ?_
  refine Runs.step (l4.rd0 (Grow.refl _) rfl (asSl_v _)) ?_
  rw [n4.len]
  refine Runs.cond (fun k5 => ?_) (fun k5 => ?_)
  ·replace e := (condT k5).symm.trans e
   cases e
   cases good
   exact Runs.ret ⟨rfl, g0⟩
  ·replace e := (condF k5).symm.trans e
   cases e
   exact good g0 n1
 ·replace e := (condF k3).symm.trans e
  cases e
  cases good
  exact Runs.ret ⟨rfl, g0⟩
theorem k3f {s : kgs} {r : kef} (it : Iter kpw s r) : kkw r s := Iter.ind (fun s o e good => by
 cases s with
 | fn x1 => exact @kbhq _ _ x1 e good
 | p2 x1 a2 => exact @k66 _ _ x1 a2 e good
 ) it
theorem kbha {h : AH} {a1 : Sl} {x1 : List (List Nat)} (n1 : Seq El.nats h a1 x1) {r : kef} (q : runP kpw (.fn x1) = some r) : Runs (go (.fn F.kfr [a1.v]) h) (kp2 h r) := k3f (kbn q) n1
end Go.Ab

/- squeezed -/
set_option linter.unusedVariables false
set_option linter.unusedSimpArgs false
set_option maxRecDepth 10000
namespace Go.Ab
open Go.Proofs Go.Num
def few06 (l : List (List Nat)) : Bool := l.all fun x => decide (x.length ≤ 20)
theorem k1g {l : List (List Nat)} (hl : l.length ≤ 1000000) : ∀ (d i : Nat), i + d = l.length → Iter kpw (.p2 l (i : Int)) ((l.drop i).all fun x => decide (x.length ≤ 20))
 | 0, i, hi => by
  refine .done ?_
  show kf1 _ _ = _
  unfold kf1
  rw [condF (by rw [decide_eq_false_iff_not]; omega), List.drop_eq_nil_of_le (by omega)]
  rfl
 | d + 1, i, hi => by
  have hi' : i < l.length := by omega
  have K := k1g hl d (i + 1) (by omega)
  rw [List.drop_eq_getElem_cons hi', List.all_cons]
  have step : kf1 l (i : Int) = cond (decide (((l[i]).length : Int) > 20)) (some (.inr false)) (some (.inl (.p2 l ((i + 1 : Nat) : Int)))) := by
   unfold kf1
   rw [condT (by rw [decide_eq_true_eq]; omega), kvr hi', Option.bind_some, ks (by omega)]
  by_cases h20 : (l[i]).length ≤ 20
  ·rw [show decide ((l[i]).length ≤ 20) = true from by rw [decide_eq_true_eq]; exact h20, Bool.true_and]
   refine .next ?_ K
   show kf1 _ _ = _
   rw [step, condF (by rw [decide_eq_false_iff_not]; omega)]
  ·rw [show decide ((l[i]).length ≤ 20) = false from by rw [decide_eq_false_iff_not]; exact h20, Bool.false_and]
   refine .done ?_
   show kf1 _ _ = _
   rw [step, condT (by rw [decide_eq_true_eq]; omega)]
theorem k3k {l : List (List Nat)} (hl : l.length ≤ 1000000) : Iter kpw (.fn l) (few06 l) := by
 refine .next rfl ?_
 have := k1g hl l.length 0 (by omega)
 exact this
theorem kbbe {h : AH} {t : Sl} {l : List (List Nat)} (m : Seq El.nats h t l) (hl : l.length ≤ 1000000) : Runs (go (.fn F.kfr [t.v]) h) (kp2 h (few06 l)) := kbha m (kbg (k3k hl))
end Go.Ab

/- squeezed -/
set_option linter.unusedVariables false
set_option linter.unusedSimpArgs false
set_option maxRecDepth 10000
namespace Go.Ab
open Go.Proofs Go.Num
inductive kui
 | fn (x1 : List Nat) (x2 : List Nat)
 | no
abbrev kxx := List Nat
noncomputable def ksk (x1 : List Nat) (x2 : List Nat) : Option (kui ⊕ kxx) :=
 (need (powOk x2 x1 (kw x1))).bind fun c4_0 => some (.inr (powN x2 x1 (kw x1)))
noncomputable def kyv : kui → Option (kui ⊕ kxx)
 | .fn x1 x2 => ksk x1 x2
 | .no => none
inductive kjy
 | fn (x1 : List Nat) (x2 : List Nat) (x3 : List Nat)
 | no
abbrev kgx := List Nat × Int
noncomputable def knf (x1 : List Nat) (x2 : List Nat) (x3 : List Nat) : Option (kjy ⊕ kgx) :=
 cond (!((k0 x1))) (some (.inr ([], 1))) (cond (!((ken x1 x2))) (some (.inr ([], 10))) (cond (!((kbc x3 x1 x1))) (some (.inr ([], 1))) ((need (kn9 x1 x3 x1)).bind fun c16_0 => some (.inr ((kq2 x1 (kgv x1 x2) (powN x3 x1 (kw x1))), 0)))))
noncomputable def kq9 : kjy → Option (kjy ⊕ kgx)
 | .fn x1 x2 x3 => knf x1 x2 x3
 | .no => none
@[reducible] def kw3 (h0 : AH) (r : kgx) (v : AV) (h' : AH) : Prop := ∃ s1 : Sl, v = .tup [s1.v, .int .i64 r.2] ∧ Nats h' s1 r.1 ∧ Grow h0 h' ∧ Own h0 s1
def kuz (r : kgx) : kjy → Prop
 | .fn x1 x2 x3 => ∀ {h : AH} {a1 : Sl} {a2 : Sl} {a3 : Sl}, Nats h a1 x1 → Nats h a2 x2 → Nats h a3 x3 → Runs (go (.fn F.ko1 [a1.v, a2.v, a3.v]) h) (kw3 h r)
 | .no => True
theorem kbhw {r : kgx} {o : kjy ⊕ kgx} {x1 : List Nat} {x2 : List Nat} {x3 : List Nat} (e : knf x1 x2 x3 = some o) (good : GoodS (kuz r) r o) : kuz r (.fn x1 x2 x3) := by
 intro h a1 a2 a3 n1 n2 n3
 rw [kbhz]
 unfold knf at e
 obtain ⟨_, H4, e4, rfl, g4⟩ := kz5 n1
 refine Runs.step e4 ?_
 refine Runs.step (seen rfl) ?_
 refine Runs.cond (fun k5 => ?_) (fun k5 => ?_)
 ·replace e := (condT k5).symm.trans e
  cases e
  cases good
  exact Runs.ret ⟨(⟨none, 0, .is 0⟩ : Sl), rfl, (Nats.nil _), g4, (Own.nil _)⟩
 ·replace e := (condF k5).symm.trans e
  obtain ⟨_, H6, e6, rfl, g6⟩ := kbbh (n1.grow g4) (n2.grow g4)
  refine Runs.step e6 ?_
  refine Runs.step (seen rfl) ?_
  refine Runs.cond (fun k7 => ?_) (fun k7 => ?_)
  ·replace e := (condT k7).symm.trans e
   cases e
   cases good
   exact Runs.ret ⟨(⟨none, 0, .is 0⟩ : Sl), rfl, (Nats.nil _), (g4.trans g6), (Own.nil _)⟩
  ·replace e := (condF k7).symm.trans e
   obtain ⟨_, H8, e8, rfl, g8⟩ := kzs (n3.grow (g4.trans g6)) (n1.grow (g4.trans g6)) (n1.grow (g4.trans g6))
   refine Runs.step e8 ?_
   refine Runs.step (seen rfl) ?_
   refine Runs.cond (fun k9 => ?_) (fun k9 => ?_)
   ·replace e := (condT k9).symm.trans e
    cases e
    cases good
    have G10 := ((g4.trans g6).trans g8)
    exact Runs.ret ⟨(⟨none, 0, .is 0⟩ : Sl), rfl, (Nats.nil _), G10, (Own.nil _)⟩
   ·replace e := (condF k9).symm.trans e
    have G10 := ((g4.trans g6).trans g8)
    have n1_11 := n1.grow G10
    have n2_12 := n2.grow G10
    obtain ⟨_, H13, e13, s13, rfl, n13, g13, o13⟩ := k1m n1_11 n2_12
    refine Runs.step e13 ?_
    refine Runs.step (seen (asSl_v _)) ?_
    have G14 := (G10.trans g13)
    have n3_15 := n3.grow G14
    obtain ⟨c16_0, q16_0, e⟩ := Option.bind_eq_some_iff.1 e
    obtain ⟨_, H16, e16, s16, rfl, n16, g16, o16⟩ := k4m (n1_11.grow g13) n3_15 (n1_11.grow g13)  c16_0.down
    refine Runs.step e16 ?_
    refine Runs.step (seen (asSl_v _)) ?_
    obtain ⟨_, H17, e17, s17, rfl, n17, g17, o17⟩ := k8u (n1_11.grow (g13.trans g16)) (n13.grow g16) n16
    refine Runs.step e17 ?_
    refine Runs.step (seen (asSl_v _)) ?_
    cases e
    cases good
    have G18 := (G14.trans g16)
    have G19 := (G18.trans g17)
    exact Runs.ret ⟨s17, rfl, n17, G19, (o17.of_le G18)⟩
theorem k2n {s : kjy} {r : kgx} (it : Iter kq9 s r) : kuz r s := Iter.ind (fun s o e good => by
 cases s with
 | fn x1 x2 x3 => exact @kbhw _ _ x1 x2 x3 e good
 | no => exact True.intro
 ) it
theorem kbbr {h : AH} {a1 : Sl} {a2 : Sl} {a3 : Sl} {x1 : List Nat} {x2 : List Nat} {x3 : List Nat} (n1 : Nats h a1 x1) (n2 : Nats h a2 x2) (n3 : Nats h a3 x3) {r : kgx} (q : runP kq9 (.fn x1 x2 x3) = some r) : Runs (go (.fn F.ko1 [a1.v, a2.v, a3.v]) h) (kw3 h r) := k2n (kbn q) n1 n2 n3
inductive ksg
 | fn (x1 : List Nat) (x2 : List Nat) (x3 : List Nat)
 | no
abbrev kzp := List Nat × Int
noncomputable def krg (x1 : List Nat) (x2 : List Nat) (x3 : List Nat) : Option (ksg ⊕ kzp) :=
 cond (!((k0 x1))) (some (.inr ([], 1))) (cond (!((ken x1 x2))) (some (.inr ([], 10))) (cond (!((kbc x3 x1 x1))) (some (.inr ([], 1))) ((runP kyv (.fn x1 x3)).bind fun p16 => some (.inr ((kcr (kgv x1 x2) p16 (kw x1)), 0)))))
noncomputable def kbh7 : ksg → Option (ksg ⊕ kzp)
 | .fn x1 x2 x3 => krg x1 x2 x3
 | .no => none
inductive kjc
 | fn
 | no
abbrev kiu := Bool
noncomputable def kl2  : Option (kjc ⊕ kiu) :=
 (u64P 17947).bind fun w4 => (u64P 5).bind fun w5 => (u64P 1).bind fun w6 => (runP kq9 (.fn [w4] [w5] [w6])).bind fun p7 => cond (decide ((p7.2) = 0)) (cond (decide ((List.length p7.1 : Int) = 1)) ((atI p7.1 0).bind fun y10 => some (.inr (decide (((y10 : Int)) = 89736)))) (some (.inr false))) (some (.inr false))
noncomputable def kyt : kjc → Option (kjc ⊕ kiu)
 | .fn  => kl2
 | .no => none
@[reducible] def kbds (h0 : AH) (r : kiu) (v : AV) (h' : AH) : Prop := v = .bool r ∧ Grow h0 h'
def ksh (r : kiu) : kjc → Prop
 | .fn  => ∀ {h : AH}, Runs (go (.fn F.kn0 []) h) (kbds h r)
 | .no => True
theorem k8o {r : kiu} {o : kjc ⊕ kiu}  (e : kl2  = some o) (good : GoodS (ksh r) r o) : ksh r (.fn ) := by
 intro h
 rw [k6k]
 unfold kl2 at e
 refine Runs.new fun H1 b1 g1 => ?_
 refine Runs.new fun H2 b2 g2 => ?_
 refine Runs.new fun H3 b3 g3 => ?_
 obtain ⟨w4, z4, e⟩ := Option.bind_eq_some_iff.1 e
 obtain ⟨w5, z5, e⟩ := Option.bind_eq_some_iff.1 e
 obtain ⟨w6, z6, e⟩ := Option.bind_eq_some_iff.1 e
 obtain ⟨p7, q7, e⟩ := Option.bind_eq_some_iff.1 e
 obtain ⟨_, H7, e7, s7, rfl, n7, g7, o7⟩ := kbbr (Nats.of_has1 ((g2.trans g3).has b1) z4) (Nats.of_has1 (g3.has b2) z5) (Nats.of_has1 b3 z6) q7
 refine Runs.step e7 ?_
 refine Runs.step rfl ?_
 refine Runs.step (seen (asSl_v _)) ?_
 rw [n7.len]
 refine Runs.step (seen (kb _ _)) ?_
 refine Runs.cond (fun k8 => ?_) (fun k8 => ?_)
 ·replace e := (condT k8).symm.trans e
  refine Runs.cond (fun k9 => ?_) (fun k9 => ?_)
  ·replace e := (condT k9).symm.trans e
   obtain ⟨y10, q10, e⟩ := Option.bind_eq_some_iff.1 e
   obtain ⟨r10, j10, l10⟩ := n7.atI q10
   refine Runs.step j10 ?_
   refine Runs.step (rdc l10 (kb _ _)) ?_
   cases e
   cases good
   have G11 := (((g1.trans g2).trans g3).trans g7)
   exact Runs.ret ⟨rfl, G11⟩
  ·replace e := (condF k9).symm.trans e
   cases e
   cases good
   have G10 := (((g1.trans g2).trans g3).trans g7)
   exact Runs.ret ⟨rfl, G10⟩
 ·replace e := (condF k8).symm.trans e
  cases e
  cases good
  have G9 := (((g1.trans g2).trans g3).trans g7)
  exact Runs.ret ⟨rfl, G9⟩
theorem kbg4 {s : kjc} {r : kiu} (it : Iter kyt s r) : ksh r s := Iter.ind (fun s o e good => by
 cases s with
 | fn  => exact @k8o _ _  e good
 | no => exact True.intro
 ) it
end Go.Ab

/- squeezed -/
set_option linter.unusedVariables false
set_option linter.unusedSimpArgs false
set_option maxRecDepth 10000
namespace Go.Ab
open Go.Proofs Go.Num
theorem kbbd {xs ys : List Nat} (hx : rt xs = true) (hy : rt ys = true) (h : cmpN xs ys < 0) : num B xs < num B ys := by
 rw [kmt hx hy] at h
 unfold cmp at h
 split at h
 ·assumption
 ·split at h <;> simp at h
theorem kbg6 {cs ns bs : List Nat} (h : kbc cs ns bs = true) (hb : rt bs = true) : rt cs = true ∧ num B cs < num B bs := by
 unfold kbc at h
 cases hr : rt cs with
 | false => rw [hr] at h; cases h
 | true =>
  rw [hr] at h
  refine ⟨rfl, kbbd hr hb ?_⟩
  simp only [Bool.not_true, cond_false] at h
  by_cases h0 : decide ((cs.length : Int) = 0) = true
  ·rw [h0] at h; cases h
  ·rw [Bool.not_eq_true] at h0
   rw [h0, cond_false] at h
   by_cases h1 : decide (cmpN cs bs ≥ 0) = true
   ·rw [h1] at h; cases h
   ·rw [decide_eq_true_eq] at h1
    omega
section
variable {ns xs es : List Nat} (ln : ∀ x ∈ ns, x < B) (le : ∀ x ∈ es, x < B)
include ln le
theorem k7i (m : k0 ns = true) (hx : rt xs = true) (h1 : num B xs < num B ns * num B ns) (he : rt es = true) (h2 : num B es ≤ num B ns) : kn9 ns xs es ∧ powOk xs es (kw ns) := by
 obtain ⟨m1, m2, m3, m4⟩ := kul ln m
 obtain ⟨q1, q2, q3, q4⟩ := kzf ln m
 have h8 : es.length ≤ 8 := by
  have := (kp B2 (num B es) 8).2 (Nat.lt_of_le_of_lt h2 (Nat.lt_trans m4 (by decide)))
  rwa [kq6 le he] at this
 have h3 : (kw ns).length ≤ 3 := by rw [q1]; exact (kp B2 _ 3).2 q2
 have hn : num B (kw ns) = num B ns * num B ns := by rw [q1, kf B2]
 refine ⟨⟨m, hx, h1, he, h8⟩, hx, he, ?_, by omega, by rw [hn]; exact q3, by rw [hn]; exact h1⟩
 rw [q1]
 exact kj (Nat.lt_of_lt_of_le q2 (Nat.pow_le_pow_right (by decide) (by decide)))
end
section
variable {ns xs ys : List Nat} (ln : ∀ x ∈ ns, x < B) (lx : ∀ x ∈ xs, x < B) (ly : ∀ x ∈ ys, x < B)
theorem ky4 (ln : ∀ x ∈ ns, x < B) (lx : ∀ x ∈ xs, x < B) (m : k0 ns = true) (a : kbc xs ns ns = true) : kn9 ns xs ns ∧ powOk xs ns (kw ns) := by
 obtain ⟨m1, m2, m3, m4⟩ := kul ln m
 obtain ⟨a1, a2⟩ := kbg6 a m1
 refine k7i ln ln m a1 (Nat.lt_of_lt_of_le a2 ?_) m1 (Nat.le_refl _)
 have := Nat.mul_le_mul_left (num B ns) (show 1 ≤ num B ns by omega)
 omega
def encF (ns ms rs : List Nat) : List Nat × Int :=
 cond (!k0 ns) ([], 1) (cond (!ken ns ms) ([], 10) (cond (!kbc rs ns ns) ([], 1) (kcr (kgv ns ms) (powN rs ns (kw ns)) (kw ns), 0)))
include ln lx
theorem k5i (m : k0 ns = true) (a : kbc xs ns ns = true) : runP kyv (.fn ns xs) = some (powN xs ns (kw ns)) := by
 refine kbg (.done ?_)
 show ksk _ _ = _
 unfold ksk
 rw [ki (ky4 ln lx m a).2]
 rfl
theorem k7m (ms : List Nat) : Iter kq9 (.fn ns ms xs) (encF ns ms xs) ∧ Iter kbh7 (.fn ns ms xs) (encF ns ms xs) := by
 refine ⟨.done ?_, .done ?_⟩
 ·show knf _ _ _ = _
  unfold knf encF
  cases m : k0 ns
  ·rfl
  cases p : ken ns ms
  ·rfl
  cases a : kbc xs ns ns
  ·rfl
  rw [ki (ky4 ln lx m a).1]
  rfl
 ·show krg _ _ _ = _
  unfold krg encF
  cases m : k0 ns
  ·rfl
  cases p : ken ns ms
  ·rfl
  cases a : kbc xs ns ns
  ·rfl
  rw [k5i ln lx m a]
  rfl
end
section
variable {h : AH} {s t u : Sl} {ns xs ys : List Nat} (n : Nats h s ns) (m : Nats h t xs) (k : Nats h u ys)
include n m k
end
end Go.Ab

/- squeezed -/
set_option linter.unusedVariables false
set_option linter.unusedSimpArgs false
set_option maxRecDepth 10000
namespace Go.Ab
open Go.Proofs Go.Num
theorem enc_5 : encF [17947] [5] [1] = ([89736], 0) := by decide +kernel
theorem k73 {h : AH} : ∃ h', go (.fn F.kn0 []) h = some (.bool true, h') ∧ Grow h h' := by
 have it : Iter kyt .fn true := .done (by
  show kl2 = _
  unfold kl2
  rw [show u64P 17947 = some 17947 from rfl, Option.bind_some, show u64P 5 = some 5 from rfl, Option.bind_some, show u64P 1 = some 1 from rfl, Option.bind_some, kbg (k7m (by decide) (by decide) [5]).1, Option.bind_some, enc_5]
  rfl)
 obtain ⟨_, h', e, rfl, g⟩ := kbg4 it (h := h)
 exact ⟨h', e, g⟩
end Go.Ab

/- squeezed -/
set_option linter.unusedVariables false
set_option linter.unusedSimpArgs false
set_option maxRecDepth 10000
namespace Go.Ab
open Go.Proofs Go.Num
end Go.Ab

/- squeezed -/
set_option linter.unusedVariables false
set_option linter.unusedSimpArgs false
set_option maxRecDepth 10000
namespace Go.Ab
open Go.Proofs Go.Num
end Go.Ab

/- squeezed -/
set_option linter.unusedVariables false
set_option linter.unusedSimpArgs false
namespace Go.Ab
theorem AH.setBlk_get {h : AH} {l : Nat} {b : ABlk} (hl : l < h.blks.size) : (h.setBlk l b).blks[l]? = some b := by
 simp [AH.setBlk, hl]
theorem AH.setBlk_ne {h : AH} {l i : Nat} {b : ABlk} (hi : i ≠ l) : (h.setBlk l b).blks[i]? = h.blks[i]? := by
 simp only [AH.setBlk]
 rw [Array.getElem?_setIfInBounds_ne (fun e => hi e.symm)]
theorem AH.setBlk_size (h : AH) (l : Nat) (b : ABlk) : (h.setBlk l b).blks.size = h.blks.size := by simp [AH.setBlk]
theorem AH.setBlk_setBlk (h : AH) (l : Nat) (b c : ABlk) : (h.setBlk l b).setBlk l c = h.setBlk l c := by
 simp [AH.setBlk]
theorem AH.setBlk_same {h : AH} {l : Nat} {b : ABlk} (hb : h.blks[l]? = some b) : h.setBlk l b = h := by
 obtain ⟨hl, he⟩ := Array.getElem?_eq_some_iff.1 hb
 have : h.blks.setIfInBounds l b = h.blks := by
  apply Array.ext
  ·simp
  ·intro i h1 h2
   rw [Array.getElem_setIfInBounds]
   split
   ·subst_vars; rfl
   ·rfl
 unfold AH.setBlk
 rw [this]
theorem Grow.setBlk {h h1 : AH} (g : Grow h h1) {l : Nat} (hl : h.blks.size ≤ l) (b : ABlk) : Grow h (h1.setBlk l b) :=
 ⟨g.old, by rw [AH.setBlk_size]; exact g.size, fun i hi => by rw [AH.setBlk_ne (by omega)]; exact g.blk i hi⟩
theorem k8x {h : AH} {l : Nat} {pe : Option Code} {f : FuncId} {fr : Fr} {ps : Array Tmp} {bs bd : Code} {d : Nat} (hb : h.blks[l]? = some (.loop .ready pe f fr ps bs bd d)) :
  beginA l h = some (h.setBlk l (.loop .busy pe f fr ps bs bd d)) := by
 simp only [beginA, hb]
theorem k1i {h : AH} {l : Nat} {st : LoopState} {pe : Option Code} {f : FuncId} {fr : Fr} {ps : Array Tmp} {bs bd : Code} {d : Nat} (hb : h.blks[l]? = some (.loop st pe f fr ps bs bd d)) (j : Option Code) :
  kf7 l j h = some (.bool j.isNone, h.setBlk l (.loop (cond j.isNone .ready .done) j f fr ps bs bd d)) := by
 simp only [kf7, hb]
theorem kbeu {h : AH} {l : Nat} {pe : Option Code} {f : FuncId} {fr : Fr} {ps : Array Tmp} {bs bd : Code} {d : Nat} (hb : h.blks[l]? = some (.loop .ready pe f fr ps bs bd d)) : kdn l h = some (pe, h.setBlk l .dead) := by
 simp only [kdn, hb]
 rfl
theorem kbb9 {h : AH} {l : Nat} {pe : Option Code} {f : FuncId} {fr : Fr} {ps : Array Tmp} {bs bd : Code} {d : Nat} (hb : h.blks[l]? = some (.loop .done pe f fr ps bs bd d)) : kdn l h = some (pe, h.setBlk l .dead) := by
 simp only [kdn, hb]
 rfl
theorem k51 {R : Type} {f : FuncId} {a c : List AV} {k : FuncId → List AV → List AV → Option R} : funcK (.func (.func f) a c) k = k f a c := rfl
theorem Runs.newM {P : AV → AH → Prop} {h : AH} {b : ABlk} {K : Nat → AH → Option (AV × AH)} (H : ∀ h', h'.blks[h.blks.size]? = some b → Grow h h' → Runs (K h.blks.size h') P) : Runs (newM h b K) P :=
 H _ (by simp [AH.alloc]) (Grow.push h _)
end Go.Ab

/- squeezed -/
set_option linter.unusedVariables false
set_option linter.unusedSimpArgs false
namespace Go.Num
def Cg (n a b : Nat) : Prop := a % n = b % n
theorem Cg.rfl {n a : Nat} : Cg n a a := Eq.refl _
theorem Cg.symm {n a b : Nat} (h : Cg n a b) : Cg n b a := Eq.symm h
theorem Cg.trans {n a b c : Nat} (h : Cg n a b) (k : Cg n b c) : Cg n a c := Eq.trans h k
theorem Cg.of_eq {n a b : Nat} (h : a = b) : Cg n a b := by subst h; exact Cg.rfl
theorem Cg.mod {n a : Nat} : Cg n (a % n) a := Nat.mod_mod _ _
theorem Cg.add {n a b c d : Nat} (h : Cg n a b) (k : Cg n c d) : Cg n (a + c) (b + d) := by
 unfold Cg at *
 rw [Nat.add_mod, h, k, ← Nat.add_mod]
theorem Cg.mul {n a b c d : Nat} (h : Cg n a b) (k : Cg n c d) : Cg n (a * c) (b * d) := by
 unfold Cg at *
 rw [Nat.mul_mod, h, k, ← Nat.mul_mod]
theorem Cg.pow {n a b : Nat} (h : Cg n a b) : ∀ k : Nat, Cg n (a ^ k) (b ^ k)
 | 0 => Cg.rfl
 | k + 1 => (h.pow k).mul h
theorem Cg.zero {n a : Nat} : Cg n (n * a) 0 := by unfold Cg; rw [Nat.mul_mod_right, Nat.zero_mod]
theorem Cg.add_mul {n a b : Nat} : Cg n (a + n * b) a := by unfold Cg; rw [Nat.add_mul_mod_self_left]
theorem Cg.of_dvd {m n a b : Nat} (d : m ∣ n) (h : Cg n a b) : Cg m a b := by
 unfold Cg at *
 rw [← Nat.mod_mod_of_dvd a d, h, Nat.mod_mod_of_dvd b d]
theorem Cg.eq {n a b : Nat} (h : Cg n a b) (ha : a < n) (hb : b < n) : a = b := by
 unfold Cg at h
 rwa [Nat.mod_eq_of_lt ha, Nat.mod_eq_of_lt hb] at h
theorem Cg.dvd_sub {n a b : Nat} (h : Cg n a b) (hl : b ≤ a) : n ∣ a - b := Nat.dvd_of_mod_eq_zero (Nat.sub_mod_eq_zero_of_mod_eq h)
theorem Cg.of_dvd_sub {n a b : Nat} (hl : b ≤ a) (h : n ∣ a - b) : Cg n a b := by
 obtain ⟨c, hc⟩ := h
 have : a = b + n * c := by omega
 rw [this]
 exact Cg.add_mul
theorem Cg.cancel_le {n a b c : Nat} (co : Nat.Coprime n c) (hl : b ≤ a) (h : Cg n (a * c) (b * c)) : Cg n a b := by
 have h1 := h.dvd_sub (Nat.mul_le_mul_right _ hl)
 rw [← Nat.sub_mul] at h1
 exact Cg.of_dvd_sub hl (Nat.Coprime.dvd_of_dvd_mul_right co h1)
theorem Cg.cancel {n a b c : Nat} (co : Nat.Coprime n c) (h : Cg n (a * c) (b * c)) : Cg n a b := by
 rcases Nat.le_total b a with hl | hl
 ·exact Cg.cancel_le co hl h
 ·exact (Cg.cancel_le co hl h.symm).symm
theorem Cg.cancel_left {n a b c : Nat} (co : Nat.Coprime n c) (h : Cg n (c * a) (c * b)) : Cg n a b := by
 rw [Nat.mul_comm c, Nat.mul_comm c] at h
 exact h.cancel co
theorem Cg.div {m n a b : Nat} (hm : 0 < m) (h : Cg (m * n) (m * a) (m * b)) : Cg n a b := by
 unfold Cg at *
 rw [Nat.mul_mod_mul_left, Nat.mul_mod_mul_left] at h
 exact Nat.eq_of_mul_eq_mul_left hm h
theorem Cg.times {m n a b : Nat} (h : Cg n a b) : Cg (m * n) (m * a) (m * b) := by
 unfold Cg at *
 rw [Nat.mul_mod_mul_left, Nat.mul_mod_mul_left, h]
theorem Cg.cancel_add {n a b c : Nat} (h : Cg n (c + a) (c + b)) : Cg n a b := by
 rcases Nat.le_total b a with hl | hl
 ·refine Cg.of_dvd_sub hl ?_
  have := h.dvd_sub (by omega)
  rwa [Nat.add_sub_add_left] at this
 ·refine (Cg.of_dvd_sub hl ?_).symm
  have := h.symm.dvd_sub (by omega)
  rwa [Nat.add_sub_add_left] at this
theorem Cg.both {m n a b : Nat} (co : Nat.Coprime m n) (h : Cg m a b) (k : Cg n a b) : Cg (m * n) a b := by
 rcases Nat.le_total b a with hl | hl
 ·exact Cg.of_dvd_sub hl (co.mul_dvd_of_dvd_of_dvd (h.dvd_sub hl) (k.dvd_sub hl))
 ·exact (Cg.of_dvd_sub hl (co.mul_dvd_of_dvd_of_dvd (h.symm.dvd_sub hl) (k.symm.dvd_sub hl))).symm
def prodL : List Nat → Nat
 | [] => 1
 | x :: xs => x * prodL xs
theorem kbcd {l m : List Nat} (h : l.Perm m) : prodL l = prodL m := by
 induction h with
 | nil => rfl
 | cons x _ ih => rw [prodL, prodL, ih]
 | swap x y l => simp only [prodL]; rw [Nat.mul_left_comm]
 | trans _ _ i j => rw [i, j]
theorem kty : ∀ {l m : List Nat}, l.Nodup → (∀ x ∈ l, x ∈ m) → l.length = m.length → l.Perm m
 | [], m, _, _, h => by
  have : m = [] := List.length_eq_zero_iff.1 h.symm
  subst this
  exact .nil
 | x :: l, m, hn, hs, h => by
  have hx : x ∈ m := hs x (by simp)
  obtain ⟨h1, h2⟩ := List.nodup_cons.1 hn
  have hl : (m.erase x).length = l.length := by rw [List.length_erase_of_mem hx, ← h]; simp
  refine List.Perm.trans (List.Perm.cons x (kty h2 (fun y hy => ?_) hl.symm)) (List.perm_cons_erase hx).symm
  have : y ≠ x := fun e => h1 (e ▸ hy)
  exact (List.mem_erase_of_ne this).2 (hs y (by simp [hy]))
def IsPrime (p : Nat) : Prop := 2 ≤ p ∧ ∀ d, d ∣ p → d = 1 ∨ d = p
theorem IsPrime.coprime {p a : Nat} (h : IsPrime p) (ha : ¬ p ∣ a) : Nat.Coprime p a := by
 rcases h.2 _ (Nat.gcd_dvd_left p a) with e | e
 ·exact e
 ·exact absurd (e ▸ Nat.gcd_dvd_right p a) ha
theorem IsPrime.dvd_mul {p a b : Nat} (h : IsPrime p) (d : p ∣ a * b) : p ∣ a ∨ p ∣ b := by
 by_cases ha : p ∣ a
 ·exact .inl ha
 ·exact .inr ((h.coprime ha).dvd_of_dvd_mul_left d)
theorem kwa {p a : Nat} : ∀ l : List Nat, Cg p (prodL (l.map fun i => a * i % p)) (a ^ l.length * prodL l)
 | [] => Cg.of_eq (by simp [prodL])
 | x :: l => by
  have := (Cg.mod (n := p) (a := a * x)).mul (kwa (p := p) (a := a) l)
  refine this.trans (Cg.of_eq ?_)
  rw [List.length_cons, Nat.pow_succ, prodL]
  simp only [Nat.mul_assoc, Nat.mul_comm, Nat.mul_left_comm]
theorem kz9 {p : Nat} (h : IsPrime p) : ∀ l : List Nat, (∀ x ∈ l, ¬ p ∣ x) → ¬ p ∣ prodL l
 | [], _, d => by
  have := Nat.le_of_dvd (by decide) d
  have := h.1
  simp [prodL] at *
  omega
 | x :: l, hx, d => by
  rcases h.dvd_mul d with e | e
  ·exact hx x (by simp) e
  ·exact kz9 h l (fun y hy => hx y (by simp [hy])) e
theorem kuf {f : Nat → Nat} : ∀ {l : List Nat}, l.Nodup → (∀ x ∈ l, ∀ y ∈ l, f x = f y → x = y) → (l.map f).Nodup
 | [], _, _ => by simp
 | x :: l, hn, hi => by
  obtain ⟨h1, h2⟩ := List.nodup_cons.1 hn
  rw [List.map_cons, List.nodup_cons]
  refine ⟨fun hm => ?_, kuf h2 fun a ha b hb => hi a (by simp [ha]) b (by simp [hb])⟩
  obtain ⟨y, hy, e⟩ := List.mem_map.1 hm
  exact h1 (hi y (by simp [hy]) x (by simp) e ▸ hy)
theorem fermat {p a : Nat} (h : IsPrime p) (ha : ¬ p ∣ a) : Cg p (a ^ (p - 1)) 1 := by
 have hp := h.1
 have hl : (List.range' 1 (p - 1)).length = p - 1 := by simp
 have hmem : ∀ x, x ∈ List.range' 1 (p - 1) ↔ 1 ≤ x ∧ x < p := fun x => by rw [List.mem_range'_1]; omega
 have nd : ∀ x, 1 ≤ x ∧ x < p → ¬ p ∣ x := fun x hx d => by have := Nat.le_of_dvd (by omega) d; omega
 have inj : ∀ x ∈ List.range' 1 (p - 1), ∀ y ∈ List.range' 1 (p - 1), a * x % p = a * y % p → x = y := fun x hx y hy e => by
  have h1 := (hmem x).1 hx
  have h2 := (hmem y).1 hy
  exact (Cg.cancel_left (h.coprime ha) e).eq h1.2 h2.2
 have pm : ((List.range' 1 (p - 1)).map fun i => a * i % p).Perm (List.range' 1 (p - 1)) := by
  refine kty (kuf List.nodup_range' inj) (fun z hz => ?_) (by simp)
  obtain ⟨x, hx, e⟩ := List.mem_map.1 hz
  subst e
  rw [hmem]
  refine ⟨?_, Nat.mod_lt _ (by omega)⟩
  rcases Nat.eq_zero_or_pos (a * x % p) with e | e
  ·rcases h.dvd_mul (Nat.dvd_of_mod_eq_zero e) with d | d
   ·exact absurd d ha
   ·exact absurd d (nd x ((hmem x).1 hx))
  ·exact e
 have e := kwa (p := p) (a := a) (List.range' 1 (p - 1))
 rw [kbcd pm, hl] at e
 have co : Nat.Coprime p (prodL (List.range' 1 (p - 1))) := h.coprime (kz9 h _ fun x hx => nd x ((hmem x).1 hx))
 refine (Cg.cancel co ?_).symm
 rw [Nat.one_mul]
 exact e
theorem binom1 (n x : Nat) : ∀ k : Nat, Cg (n * n) ((1 + n * x) ^ k) (1 + n * (x * k))
 | 0 => Cg.of_eq (by simp)
 | k + 1 => by
  have := (binom1 n x k).mul (Cg.rfl (n := n * n) (a := 1 + n * x))
  refine this.trans ?_
  have e : (1 + n * (x * k)) * (1 + n * x) = 1 + n * (x * (k + 1)) + n * n * (x * k * x) := by
   rw [Nat.add_mul, Nat.mul_add, Nat.mul_add, Nat.mul_add]
   simp only [Nat.mul_assoc, Nat.mul_comm, Nat.mul_left_comm, Nat.one_mul, Nat.mul_one, Nat.mul_add]
   omega
  rw [e]
  exact Cg.add_mul
end Go.Num
