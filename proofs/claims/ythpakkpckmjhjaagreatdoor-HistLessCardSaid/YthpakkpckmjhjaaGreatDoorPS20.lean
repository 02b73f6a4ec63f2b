/- squeezed -/
import Derived.Test.YthpakkpckmjhjaaGreatDoorPS2
import Derived.Test.YthpakkpckmjhjaaGreatDoorPAbsP

set_option linter.unusedVariables false
set_option linter.unusedSimpArgs false
set_option maxRecDepth 10000
namespace Go.Ab
open Go.Proofs Go.Num
theorem tmodD (n : Nat) : Int.tmod (n : Int) 65536 = ((n % 65536 : Nat) : Int) := rfl
theorem tdivD (n : Nat) : Int.tdiv (n : Int) 65536 = ((n / 65536 : Nat) : Int) := rfl
theorem kb9 {n : Nat} (h : n < 18446744073709551616) : IntKind.wrap .u64 (n : Int) = (n : Int) := by
 rw [wrapU]
 omega
theorem ku4 {xs ys : List Nat} {r : kcg} {i T : Nat} (lx : ∀ x ∈ xs, x < D) (ly : ∀ y ∈ ys, y < D) (hn : xs.length + ys.length ≤ 8796093022208) (hi : i < xs.length)
  (K : ∀ o : List Nat, o.length = xs.length + ys.length → (∀ y ∈ o, y < D) → Empty o (i + 1 + ys.length) → num D o = T + D ^ i * (xs[i] * num D ys) → Iter kiu (.p3 xs ys o ((i + 1 : Nat) : Int)) r) :
  ∀ (d k : Nat), k + d = ys.length → ∀ (o : List Nat) (c : Nat), o.length = xs.length + ys.length → (∀ y ∈ o, y < D) → Empty o (i + ys.length) → c < D → Row D o i k c xs[i] ys T →
   Iter kiu (.p7 xs ys o (i : Int) (c : Int) (k : Int)) r
 | 0, k, hk, o, c, lo, to, zo, hc, row => by
  have hk : k = ys.length := by omega
  subst hk
  have hj : i + ys.length < o.length := by omega
  have hc' : c < 65536 := hc
  refine .next ?_ (K (o.set (i + ys.length) c) (by simpa using lo) (set_lt to hc) ?_ ?_)
  ·show kgy _ _ _ _ _ _ = _
   unfold kgy
   rw [condF (by rw [decide_eq_false_iff_not]; omega), ← Int.natCast_add, kbx (by omega), ku hj, Option.bind_some, kz (by omega), Option.bind_some, ko (by omega)]
  ·rw [show i + 1 + ys.length = i + ys.length + 1 from by omega]
   intro j h1 h2
   rw [List.getElem_set_ne (by omega)]
   exact zo j (by simpa using h1) (by omega)
  ·exact row.stop hj (zo _ hj (Nat.le_refl _))
 | d + 1, k, hk, o, c, lo, to, zo, hc, row => by
  have hk' : k < ys.length := by omega
  have hj : i + k < o.length := by omega
  have hx := lx xs[i] (List.getElem_mem _)
  have hy := ly ys[k] (List.getElem_mem _)
  have ho := to o[i + k] (List.getElem_mem _)
  have hc' := krl hx hy ho hc
  have hl := Nat.mod_lt (xs[i] * ys[k] + o[i + k] + c) (show 0 < 65536 by omega)
  refine .next ?_ (ku4 lx ly hn hi K d (k + 1) (by omega) (o.set (i + k) ((xs[i] * ys[k] + o[i + k] + c) % 65536)) ((xs[i] * ys[k] + o[i + k] + c) / 65536) (by simpa using lo) (set_lt to hl) (zo.set (by omega)) hc' (row.step hk' hj (Nat.div_add_mod' _ _).symm))
  ·show kgy _ _ _ _ _ _ = _
   unfold kgy
   have hp : xs[i] * ys[k] ≤ 65535 * 65535 := Nat.mul_le_mul (by have : xs[i] < 65536 := hx; omega) (by have : ys[k] < 65536 := hy; omega)
   have ho' : o[i + k] < 65536 := ho
   have hc'' : c < 65536 := hc
   have e1 : IntKind.wrap .u64 (IntKind.wrap .u64 (((List.getD o (i + k) 0 : Nat) : Int) + IntKind.wrap .u64 ((xs[i] : Int) * (ys[k] : Int))) + (c : Int)) = ((xs[i] * ys[k] + o[i + k] + c : Nat) : Int) := by
    rw [show List.getD o (i + k) 0 = o[i + k] from kbd hj, ← Int.natCast_mul]
    generalize xs[i] * ys[k] = t at *
    generalize o[i + k] = w at *
    rw [kb9 (n := t) (by omega), ← Int.natCast_add, kb9 (by omega), ← Int.natCast_add, kb9 (by omega)]
    omega
   rw [condT (by rw [decide_eq_true_eq]; omega), ← Int.natCast_add, kbx (by omega), ku hj, Option.bind_some, kbg hi, Option.bind_some, kbg hk', Option.bind_some, Option.bind_some, e1, tmodD, tdivD, kz (by omega), Option.bind_some, ko (by omega), kb9]
   have : (xs[i] * ys[k] + o[i + k] + c) / 65536 < 65536 := hc'
   omega
theorem ksb {xs ys : List Nat} (lx : ∀ x ∈ xs, x < D) (ly : ∀ y ∈ ys, y < D) (hn : xs.length + ys.length ≤ 8796093022208) :
  ∀ (d i : Nat), i + d = xs.length → ∀ (o : List Nat), o.length = xs.length + ys.length → (∀ y ∈ o, y < D) → Empty o (i + ys.length) → num D o = num D (xs.take i) * num D ys →
   Iter kiu (.p3 xs ys o (i : Int)) (digs D (num D xs * num D ys))
 | 0, i, hi, o, lo, to, zo, e => by
  have hi : i = xs.length := by omega
  subst hi
  rw [List.take_length] at e
  refine .done ?_
  show kg9 _ _ _ _ = _
  unfold kg9
  rw [condF (by rw [decide_eq_false_iff_not]; omega), ki to, Option.bind_some, e]
 | d + 1, i, hi, o, lo, to, zo, e => by
  have hi' : i < xs.length := by omega
  refine .next (s' := .p7 xs ys o (i : Int) ((0 : Nat) : Int) ((0 : Nat) : Int)) ?_
   (ku4 (T := num D (xs.take i) * num D ys) lx ly hn hi' (fun o' l' t' z' e' => ?_) ys.length 0 (by omega) o 0 lo to zo (show 0 < 65536 by omega) (Row.start e))
  ·show kg9 _ _ _ _ = _
   unfold kg9
   rw [condT (by rw [decide_eq_true_eq]; omega)]
   rfl
  ·refine ksb lx ly hn d (i + 1) (by omega) o' l' t' z' ?_
   rw [e', kwi hi' rfl]
theorem k65 {xs ys : List Nat} (lx : ∀ x ∈ xs, x < D) (ly : ∀ y ∈ ys, y < D) (hn : xs.length + ys.length ≤ 8796093022208) : Iter kiu (.fn xs ys) (digs D (num D xs * num D ys)) := by
 have z : ∀ k, Empty (List.replicate (xs.length + ys.length) 0) k := fun k j hj _ => by simp
 refine .next (s' := .p3 xs ys (List.replicate (xs.length + ys.length) 0) ((0 : Nat) : Int)) ?_ (ksb lx ly hn xs.length 0 (by omega) _ (by simp) ?_ (z _) ?_)
 ·show kj2 _ _ = _
  unfold kj2
  rw [← Int.natCast_add, kbx (by omega), kd4 hn, Option.bind_some]
  rfl
 ·intro y hy
  rw [List.eq_of_mem_replicate hy]
  exact show 0 < 65536 by omega
 ·have := kf2 D [] (xs.length + ys.length)
  simpa [num] using this
theorem kqx {h : AH} {s t : Sl} {xs ys : List Nat} (n : Nats h s xs) (m : Nats h t ys) (lx : ∀ x ∈ xs, x < D) (ly : ∀ y ∈ ys, y < D) (hn : xs.length + ys.length ≤ 8796093022208) : ∃ (s' : Sl) (h' : AH), go (.fn F.kci [s.v, t.v]) h = some (s'.v, h') ∧ Nats h' s' (digs D (num D xs * num D ys)) ∧ Grow h h' ∧ Own h s' := by
 obtain ⟨_, h', e, s', rfl, n', g, o⟩ := k7z (k65 lx ly hn) n m
 exact ⟨s', h', e, n', g, o⟩
end Go.Ab

/- squeezed -/
set_option linter.unusedVariables false
set_option linter.unusedSimpArgs false
set_option maxRecDepth 10000
namespace Go.Ab
open Go.Proofs Go.Num
inductive kfb
 | fn (x1 : List Nat) (x2 : List Nat) (a3 : Int)
 | p2 (x1 : List Nat) (x2 : List Nat) (a3 : Int) (a4 : Int) (a5 : Int)
abbrev kdx := List Nat
noncomputable def kq8 (x1 : List Nat) (x2 : List Nat) (a3 : Int) : Option (kfb ⊕ kdx) :=
 some (.inl (.p2 x1 x2 a3 0 a3))
noncomputable def kel (x1 : List Nat) (x2 : List Nat) (a3 : Int) (a4 : Int) (a5 : Int) : Option (kfb ⊕ kdx) :=
 cond (decide (a5 < (List.length x1 : Int))) (cond (decide ((IntKind.wrap .i64 (a5 - a3)) < (List.length x2 : Int))) (cond (decide ((IntKind.wrap .i64 (a5 - a3)) < (List.length x2 : Int))) ((atI x2 (IntKind.wrap .i64 (a5 - a3))).bind fun y9 => (inI (List.length x1) a5).bind fun j10 => (add64P (((List.getD x1 j10 0 : Nat) : Int)) ((y9 : Int)) a4).bind fun p11 => (inI (List.length x1) a5).bind fun j12 => (u64P (p11.1)).bind fun w13 => some (.inl (.p2 (List.set x1 j12 w13) x2 a3 (p11.2) (IntKind.wrap .i64 (a5 + 1))))) ((inI (List.length x1) a5).bind fun j9 => (add64P (((List.getD x1 j9 0 : Nat) : Int)) 0 a4).bind fun p10 => (inI (List.length x1) a5).bind fun j11 => (u64P (p10.1)).bind fun w12 => some (.inl (.p2 (List.set x1 j11 w12) x2 a3 (p10.2) (IntKind.wrap .i64 (a5 + 1)))))) (cond (decide (a4 > 0)) (cond (decide ((IntKind.wrap .i64 (a5 - a3)) < (List.length x2 : Int))) ((atI x2 (IntKind.wrap .i64 (a5 - a3))).bind fun y10 => (inI (List.length x1) a5).bind fun j11 => (add64P (((List.getD x1 j11 0 : Nat) : Int)) ((y10 : Int)) a4).bind fun p12 => (inI (List.length x1) a5).bind fun j13 => (u64P (p12.1)).bind fun w14 => some (.inl (.p2 (List.set x1 j13 w14) x2 a3 (p12.2) (IntKind.wrap .i64 (a5 + 1))))) ((inI (List.length x1) a5).bind fun j10 => (add64P (((List.getD x1 j10 0 : Nat) : Int)) 0 a4).bind fun p11 => (inI (List.length x1) a5).bind fun j12 => (u64P (p11.1)).bind fun w13 => some (.inl (.p2 (List.set x1 j12 w13) x2 a3 (p11.2) (IntKind.wrap .i64 (a5 + 1)))))) (some (.inr x1)))) (some (.inr x1))
noncomputable def kog : kfb → Option (kfb ⊕ kdx)
 | .fn x1 x2 a3 => kq8 x1 x2 a3
 | .p2 x1 x2 a3 a4 a5 => kel x1 x2 a3 a4 a5
@[reducible] def kua (h0 : AH) (a : Sl) (i : Nat) (r : kdx) (v : AV) (h' : AH) : Prop := v = .tup [] ∧ Vec h' a i r ∧ Upd h0 h' i
def ki2 (r : kdx) : kfb → Prop
 | .fn x1 x2 a3 => ∀ {h : AH} {a1 : Sl} {a2 : Sl} {i1 : Nat}, Vec h a1 i1 x1 → Nats h a2 x2 → Av a2 i1 x2 → Runs (go (.fn F.kcy [a1.v, a2.v, .int .i64 a3]) h) (kua h a1 i1 r)
 | .p2 x1 x2 a3 a4 a5 => ∀ {h0 h : AH} {a1 : Sl} {a2 : Sl} {i1 : Nat}, Upd h0 h i1 → Vec h a1 i1 x1 → Nats h a2 x2 → Av a2 i1 x2 → Runs (go (.pt F.kcy Td.kg6 [(0, a1.v), (1, a2.v), (2, .int .i64 a3), (6, .int .u64 a4), (7, .int .i64 a5)]) h) (kua h0 a1 i1 r)
theorem k5f {r : kdx} {o : kfb ⊕ kdx} {x1 : List Nat} {x2 : List Nat} {a3 : Int} (e : kq8 x1 x2 a3 = some o) (good : GoodS (ki2 r) r o) : ki2 r (.fn x1 x2 a3) := by
 intro h a1 a2 i1 v1 n2 av2_1
 rw [k7h]
 unfold kq8 at e
 cases e
 exact good ((Grow.refl _).toUpd _) v1 n2 av2_1
theorem k1s {r : kdx} {o : kfb ⊕ kdx} {x1 : List Nat} {x2 : List Nat} {a3 : Int} {a4 : Int} {a5 : Int} (e : kel x1 x2 a3 a4 a5 = some o) (good : GoodS (ki2 r) r o) : ki2 r (.p2 x1 x2 a3 a4 a5) := by
 intro h0 h a1 a2 i1 g0 v1 n2 av2_1
 rw [k8v]
 unfold kel at e
 rw [v1.nats.len]
 rw [n2.len]
 refine Runs.cond (fun k6 => ?_) (fun k6 => ?_)
 ·replace e := (condT k6).symm.trans e
  refine Runs.cond (fun k7 => ?_) (fun k7 => ?_)
  ·replace e := (condT k7).symm.trans e
   refine Runs.cond (fun k8 => ?_) (fun k8 => ?_)
   ·replace e := (condT k8).symm.trans e
    obtain ⟨y9, q9, e⟩ := Option.bind_eq_some_iff.1 e
    obtain ⟨r9, j9, l9⟩ := n2.atI q9
    refine Runs.step j9 ?_
    refine Runs.step (rdc l9 (kb _ _)) ?_
    obtain ⟨j10, q10, e⟩ := Option.bind_eq_some_iff.1 e
    refine Runs.step (v1.idx rfl q10) ?_
    refine Runs.step (v1.rd rfl q10 (kb _ _)) ?_
    obtain ⟨p11, q11, e⟩ := Option.bind_eq_some_iff.1 e
    refine Runs.step (kht q11) ?_
    refine Runs.step rfl ?_
    refine Runs.step (seen (kb _ _)) ?_
    refine Runs.step (seen (kb _ _)) ?_
    obtain ⟨j12, q12, e⟩ := Option.bind_eq_some_iff.1 e
    refine Runs.step (v1.idx rfl q12) ?_
    obtain ⟨w13, z13, e⟩ := Option.bind_eq_some_iff.1 e
    refine Runs.vput v1 rfl q12 z13 fun H13 v13 u13 => ?_
    have n2_13 := n2.upda av2_1 u13
    cases e
    exact good (g0.trans u13) v13 n2_13 av2_1
   ·replace e := (condF k8).symm.trans e
    obtain ⟨j9, q9, e⟩ := Option.bind_eq_some_iff.1 e
    refine Runs.step (v1.idx rfl q9) ?_
    refine Runs.step (v1.rd rfl q9 (kb _ _)) ?_
    obtain ⟨p10, q10, e⟩ := Option.bind_eq_some_iff.1 e
    refine Runs.step (kht q10) ?_
    refine Runs.step rfl ?_
    refine Runs.step (seen (kb _ _)) ?_
    refine Runs.step (seen (kb _ _)) ?_
    obtain ⟨j11, q11, e⟩ := Option.bind_eq_some_iff.1 e
    refine Runs.step (v1.idx rfl q11) ?_
    obtain ⟨w12, z12, e⟩ := Option.bind_eq_some_iff.1 e
    refine Runs.vput v1 rfl q11 z12 fun H12 v12 u12 => ?_
    have n2_12 := n2.upda av2_1 u12
    cases e
    exact good (g0.trans u12) v12 n2_12 av2_1
  ·replace e := (condF k7).symm.trans e
   refine Runs.cond (fun k8 => ?_) (fun k8 => ?_)
   ·replace e := (condT k8).symm.trans e
    refine Runs.cond (fun k9 => ?_) (fun k9 => ?_)
    ·replace e := (condT k9).symm.trans e
     obtain ⟨y10, q10, e⟩ := Option.bind_eq_some_iff.1 e
     obtain ⟨r10, j10, l10⟩ := n2.atI q10
     refine Runs.step j10 ?_
     refine Runs.step (rdc l10 (kb _ _)) ?_
     obtain ⟨j11, q11, e⟩ := Option.bind_eq_some_iff.1 e
     refine Runs.step (v1.idx rfl q11) ?_
     refine Runs.step (v1.rd rfl q11 (kb _ _)) ?_
     obtain ⟨p12, q12, e⟩ := Option.bind_eq_some_iff.1 e
     refine Runs.step (kht q12) ?_
     refine Runs.step rfl ?_
     refine Runs.step (seen (kb _ _)) ?_
     refine Runs.step (seen (kb _ _)) ?_
     obtain ⟨j13, q13, e⟩ := Option.bind_eq_some_iff.1 e
     refine Runs.step (v1.idx rfl q13) ?_
     obtain ⟨w14, z14, e⟩ := Option.bind_eq_some_iff.1 e
     refine Runs.vput v1 rfl q13 z14 fun H14 v14 u14 => ?_
     have n2_14 := n2.upda av2_1 u14
     cases e
     exact good (g0.trans u14) v14 n2_14 av2_1
    ·replace e := (condF k9).symm.trans e
     obtain ⟨j10, q10, e⟩ := Option.bind_eq_some_iff.1 e
     refine Runs.step (v1.idx rfl q10) ?_
     refine Runs.step (v1.rd rfl q10 (kb _ _)) ?_
     obtain ⟨p11, q11, e⟩ := Option.bind_eq_some_iff.1 e
     refine Runs.step (kht q11) ?_
     refine Runs.step rfl ?_
     refine Runs.step (seen (kb _ _)) ?_
     refine Runs.step (seen (kb _ _)) ?_
     obtain ⟨j12, q12, e⟩ := Option.bind_eq_some_iff.1 e
     refine Runs.step (v1.idx rfl q12) ?_
     obtain ⟨w13, z13, e⟩ := Option.bind_eq_some_iff.1 e
     refine Runs.vput v1 rfl q12 z13 fun H13 v13 u13 => ?_
     have n2_13 := n2.upda av2_1 u13
     cases e
     exact good (g0.trans u13) v13 n2_13 av2_1
   ·replace e := (condF k8).symm.trans e
    cases e
    cases good
    exact Runs.ret ⟨rfl, v1, g0⟩
 ·replace e := (condF k6).symm.trans e
  cases e
  cases good
  exact Runs.ret ⟨rfl, v1, g0⟩
theorem kbbg {s : kfb} {r : kdx} (it : Iter kog s r) : ki2 r s := Iter.ind (fun s o e good => by
 cases s with
 | fn x1 x2 a3 => exact @k5f _ _ x1 x2 a3 e good
 | p2 x1 x2 a3 a4 a5 => exact @k1s _ _ x1 x2 a3 a4 a5 e good
 ) it
end Go.Ab

/- squeezed -/
set_option linter.unusedVariables false
set_option linter.unusedSimpArgs false
set_option maxRecDepth 10000
namespace Go.Ab
open Go.Proofs Go.Num
theorem kdr {xs : List Nat} {i : Nat} (h : i < xs.length) : List.getD xs i 0 = xs[i] := kbd h
theorem k09 {o xs : List Nat} {at' i c : Nat} (ho : o.length ≤ 4611686018427387904) (hx : xs.length ≤ 4611686018427387904) (h1 : i < o.length) (h2 : at' ≤ i) (hc : c ≤ 1) (hs : i - at' < xs.length ∨ 0 < c) :
  kog (.p2 o xs (at' : Int) (c : Int) (i : Int)) = some (.inl (.p2 (o.set i ((xs.getD (i - at') 0 + o[i] + c) % 18446744073709551616)) xs (at' : Int) (((xs.getD (i - at') 0 + o[i] + c) / 18446744073709551616 : Nat) : Int) ((i + 1 : Nat) : Int))) := by
 show kel _ _ _ _ _ = _
 unfold kel
 have e0 : IntKind.wrap .i64 ((i : Int) - (at' : Int)) = ((i - at' : Nat) : Int) := by rw [wrap64 (by omega) (by omega)]; omega
 have hm : ∀ n : Nat, n % 18446744073709551616 < 18446744073709551616 := fun n => Nat.mod_lt n (by omega)
 rw [condT (by rw [decide_eq_true_eq]; omega), e0]
 by_cases hk : i - at' < xs.length
 ·have a1 := kfc o[i] xs[i - at'] hc
  rw [condT (by rw [decide_eq_true_eq]; omega), condT (by rw [decide_eq_true_eq]; omega), kbg hk, Option.bind_some, ku h1, Option.bind_some, kdr h1, a1, Option.bind_some, Option.bind_some]
  dsimp only
  rw [kz (hm _), Option.bind_some, ko (by omega), kdr hk, Nat.add_comm o[i]]
 ·have hc' : 0 < c := by omega
  have a1 := kfc o[i] 0 hc
  rw [show ((0 : Nat) : Int) = 0 from rfl] at a1
  rw [condF (by rw [decide_eq_false_iff_not]; omega), condT (by rw [decide_eq_true_eq]; omega), condF (by rw [decide_eq_false_iff_not]; omega), ku h1, Option.bind_some, kdr h1, a1, Option.bind_some, Option.bind_some]
  dsimp only
  rw [kz (hm _), Option.bind_some, ko (by omega), show xs.getD (i - at') 0 = 0 from by simp [List.getD, List.getElem?_eq_none (Nat.le_of_not_lt hk)]]
  rw [Nat.add_comm o[i]]
theorem kwj {xs : List Nat} {at' T : Nat} (lx : ∀ x ∈ xs, x < B) (hx : xs.length ≤ 4611686018427387904) :
  ∀ (d i : Nat) (o : List Nat) (c : Nat), i + d = o.length → at' ≤ i → o.length ≤ 4611686018427387904 → (∀ y ∈ o, y < B) → c ≤ 1 → num B o + c * B ^ i = T + B ^ at' * num B (xs.take (i - at')) → T + B ^ at' * num B xs < B ^ o.length →
   ∃ r, Iter kog (.p2 o xs (at' : Int) (c : Int) (i : Int)) r ∧ r.length = o.length ∧ (∀ y ∈ r, y < B) ∧ num B r = T + B ^ at' * num B xs
 | 0, i, o, c, hi, hat, ho, to, hc, inv, bound => by
  have hi : i = o.length := by omega
  subst hi
  have hxs : num B xs = num B (xs.take (o.length - at')) + B ^ (xs.take (o.length - at')).length * num B (xs.drop (o.length - at')) := by
   rw [← kce, List.take_append_drop]
  have hc0 : c = 0 := by
   rcases Nat.eq_zero_or_pos c with e | e
   ·exact e
   ·have : c = 1 := by omega
    subst this
    have : B ^ at' * num B (xs.take (o.length - at')) ≤ B ^ at' * num B xs := Nat.mul_le_mul_left _ (by omega)
    omega
  subst hc0
  have hd : num B (xs.take (o.length - at')) = num B xs := by
   by_cases hl : xs.length ≤ o.length - at'
   ·rw [List.take_of_length_le hl]
   ·rw [List.length_take, Nat.min_eq_left (by omega)] at hxs
    rw [hxs]
    rcases Nat.eq_zero_or_pos (num B (xs.drop (o.length - at'))) with e | e
    ·rw [e]; omega
    ·exfalso
     have h1 : B ^ (o.length - at') ≤ num B xs := by
      have : B ^ (o.length - at') * 1 ≤ B ^ (o.length - at') * num B (xs.drop (o.length - at')) := Nat.mul_le_mul_left _ e
      omega
     have h2 : B ^ at' * B ^ (o.length - at') ≤ B ^ at' * num B xs := Nat.mul_le_mul_left _ h1
     rw [← Nat.pow_add, show at' + (o.length - at') = o.length from by omega] at h2
     omega
  refine ⟨o, .done ?_, rfl, to, ?_⟩
  ·show kel _ _ _ _ _ = _
   unfold kel
   rw [condF (by rw [decide_eq_false_iff_not]; omega)]
  ·rw [← hd]
   omega
 | d + 1, i, o, c, hi, hat, ho, to, hc, inv, bound => by
  have h1 : i < o.length := by omega
  by_cases hs : i - at' < xs.length ∨ 0 < c
  ·have hm := Nat.mod_lt (xs.getD (i - at') 0 + o[i] + c) (show 0 < 18446744073709551616 by omega)
   have hy : xs.getD (i - at') 0 < 18446744073709551616 := by
    by_cases hk : i - at' < xs.length
    ·rw [kdr hk]; exact lx _ (List.getElem_mem _)
    ·rw [show xs.getD (i - at') 0 = 0 from by simp [List.getD, List.getElem?_eq_none (Nat.le_of_not_lt hk)]]
     omega
   have hoi : o[i] < 18446744073709551616 := to _ (List.getElem_mem _)
   obtain ⟨r, it, r1, r2, r3⟩ := kwj (T := T) (at' := at') lx hx d (i + 1) (o.set i ((xs.getD (i - at') 0 + o[i] + c) % 18446744073709551616)) ((xs.getD (i - at') 0 + o[i] + c) / 18446744073709551616) (by simp; omega) (by omega) (by simpa using ho) (set_lt to hm) (by omega) (by
    have k1 := khh (b := B) h1 ((xs.getD (i - at') 0 + o[i] + c) % 18446744073709551616)
    have k2 := ksm k1 (Nat.div_add_mod' (xs.getD (i - at') 0 + o[i] + c) 18446744073709551616).symm inv
    rw [Nat.pow_succ, k2, show i + 1 - at' = i - at' + 1 from by omega, keu, Nat.mul_add, ← Nat.mul_assoc, ← Nat.pow_add, show at' + (i - at') = i from by omega]
    omega) (by simpa using bound)
   exact ⟨r, .next (k09 ho hx h1 hat hc hs) it, by simpa using r1, r2, r3⟩
  ·have hc0 : c = 0 := by omega
   subst hc0
   rw [List.take_of_length_le (by omega)] at inv
   refine ⟨o, .done ?_, rfl, to, by omega⟩
   show kel _ _ _ _ _ = _
   unfold kel
   have e0 : IntKind.wrap .i64 ((i : Int) - (at' : Int)) = ((i - at' : Nat) : Int) := by rw [wrap64 (by omega) (by omega)]; omega
   rw [condT (by rw [decide_eq_true_eq]; omega), e0, condF (by rw [decide_eq_false_iff_not]; omega), condF (by rw [decide_eq_false_iff_not]; omega)]
theorem kw2 {h : AH} {s t : Sl} {i : Nat} {o xs : List Nat} (v : Vec h s i o) (m : Nats h t xs) (av : Av t i xs) {at' : Nat} (hat : at' ≤ o.length) (ho : o.length ≤ 4611686018427387904) (hx : xs.length ≤ 4611686018427387904) (bound : num B o + B ^ at' * num B xs < B ^ o.length) :
  ∃ (h' : AH) (r : List Nat), go (.fn F.kcy [s.v, t.v, .int .i64 (at' : Int)]) h = some (.tup [], h') ∧ Vec h' s i r ∧ Upd h h' i ∧ r.length = o.length ∧ num B r = num B o + B ^ at' * num B xs := by
 obtain ⟨r, it, r1, r2, r3⟩ := kwj (T := num B o) (at' := at') m.lt hx (o.length - at') at' o 0 (by omega) (Nat.le_refl _) ho v.lt (by omega) (by simp [num]) bound
 obtain ⟨_, h', e, rfl, v', u⟩ := kbbg (.next (s := .fn o xs (at' : Int)) rfl it) v m av
 exact ⟨h', r, e, v', u, r1, r3⟩
end Go.Ab

/- squeezed -/
set_option linter.unusedVariables false
set_option linter.unusedSimpArgs false
set_option maxRecDepth 10000
namespace Go.Ab
open Go.Proofs Go.Num
@[reducible] def kpw (p : Ref) : AV := .func (.func F.kjw) [] [.ptr (some p)]
theorem klu (p : Ref) (x y : AV) (h : AH) : callV Pg go (kpw p) [x, y] h = go (.fn F.kjw [x, y, .ptr (some p)]) h := by kernel_rfl
theorem Grow.same_cell {h h' : AH} (g : Grow h h') {p : Ref} {v : AV} (c : h.cell p = some v) : SameAt h h' p 1 := ⟨fun j hj => by
 have : j = 0 := by omega
 subst this
 rw [Ref.add_zero, c, g.cell_some c], fun h => by cases h⟩
theorem kyp {h : AH} {s d : Sl} {i : Nat} {xs ys : List Nat} (n : Nats h s xs) (v : Vec h d i ys) (hl : xs.length ≤ ys.length) : ∃ h', copyH s d 1 h = some h' ∧ Vec h' d i (xs ++ ys.drop xs.length) ∧ Upd h h' i := by
 have hd : d.ref = some (.new i 0) := by rw [v.is]
 have hdl : d.len = ys.length := v.len
 have hg := n.cells.gets
 unfold copyH
 rw [hd]
 cases hs : s.ref with
 | none =>
  have : xs = [] := by
   cases xs with
   | nil => rfl
   | cons x xs =>
    obtain ⟨r, e, _⟩ := n.cells.get 0 _ rfl
    rw [hs] at e
    cases e
  subst this
  exact ⟨h, rfl, by simpa using v, (Grow.refl h).toUpd i⟩
 | some r =>
  rw [hs, n.len] at hg
  simp only [AH.getsO] at hg
  dsimp only
  rw [n.len, hdl, Nat.min_eq_left hl, hg, Option.bind_some]
  obtain ⟨e, b⟩ := v.has
  rw [b.puts (by simp; omega)]
  have e1 : (ys.map u64).take 0 ++ xs.map u64 ++ (ys.map u64).drop (0 + (xs.map u64).length) = (xs ++ ys.drop xs.length).map u64 := by
   simp [List.map_drop]
  rw [e1]
  refine ⟨_, rfl, ⟨?_, ⟨e, AH.has_upd b _ _⟩, ?_, ?_⟩, AH.upd_Upd h i _ e⟩
  ·have : (xs ++ ys.drop xs.length).length = ys.length := by simp; omega
   rw [this]
   exact v.is
  ·intro z hz
   rcases List.mem_append.1 hz with h1 | h1
   ·exact n.lt z h1
   ·exact v.lt z (List.mem_of_mem_drop h1)
  ·have := v.short
   simp
   omega
theorem kla {h : AH} {s : Sl} {xs : List Nat} {p : Ref} {k : Nat} (n : Nats h s xs) (c : h.cell p = some (.int .i64 (k : Int))) : ∃ s', go (.fn F.kh7 [s.v, .ptr (some p)]) h = some (s'.v, h) ∧ Nats h s' (digs B (num B (xs.take (min k xs.length)))) := by
 rw [kzo, c, Option.bind_some, kb, Option.bind_some, kw0, n.len]
 obtain ⟨s1, e1, n1, _⟩ := n.cut (l := 0) (n := min k xs.length) (by omega) (by omega)
 rw [show min (k : Int) (xs.length : Int) = ((min k xs.length : Nat) : Int) from by omega, show (0 : Int) = ((0 : Nat) : Int) from rfl, e1, Option.bind_some]
 obtain ⟨s2, e2, n2, _⟩ := kc4 n1
 rw [e2, Option.bind_some, Option.bind_some, asSl_v, Option.bind_some]
 exact ⟨s2, rfl, by simpa using n2⟩
theorem kmj {h : AH} {s : Sl} {xs : List Nat} {p : Ref} {k : Nat} (n : Nats h s xs) (c : h.cell p = some (.int .i64 (k : Int))) : ∃ s', go (.fn F.kh8 [s.v, .ptr (some p)]) h = some (s'.v, h) ∧ Nats h s' (xs.drop (min k xs.length)) := by
 rw [kbcf, c, Option.bind_some, kb, Option.bind_some, kw0, n.len]
 obtain ⟨s1, e1, n1, _⟩ := n.cut (l := min k xs.length) (n := xs.length) (by omega) (by omega)
 rw [show min (k : Int) (xs.length : Int) = ((min k xs.length : Nat) : Int) from by omega, e1, Option.bind_some]
 refine ⟨s1, rfl, ?_⟩
 rwa [List.take_of_length_le (by simp)] at n1
end Go.Ab

/- squeezed -/
set_option linter.unusedVariables false
set_option linter.unusedSimpArgs false
set_option maxRecDepth 10000
namespace Go.Ab
open Go.Proofs Go.Num
theorem B1 : 1 ≤ B := by decide
theorem kts (b : Nat) (xs : List Nat) (n : Nat) : num b xs = num b (xs.take (min n xs.length)) + b ^ n * num b (xs.drop (min n xs.length)) := by
 have e : num b xs = num b (xs.take (min n xs.length) ++ xs.drop (min n xs.length)) := by rw [List.take_append_drop]
 rw [kce, List.length_take] at e
 by_cases h : n ≤ xs.length
 ·rw [e, show min (min n xs.length) xs.length = n from by omega]
 ·have : xs.drop (min n xs.length) = [] := List.drop_of_length_le (by omega)
  rw [this] at e ⊢
  simpa [num] using e
theorem kk7 {a c : Nat} (h : a ≤ c) : (digs B a).length ≤ (digs B c).length := by
 rw [kq B2]
 exact Nat.lt_of_le_of_lt h ((kq B2 c _).1 (Nat.le_refl _))
theorem kjj {xs : List Nat} (h : ∀ x ∈ xs, x < B) : (digs B (num B xs)).length ≤ xs.length := by
 rw [kq B2]
 exact num_lt B1 h
theorem k9l (P al ah bl bh : Nat) : (al + P * ah) * (bl + P * bh) = al * bl + P * ((al + ah) * (bl + bh) - al * bl - ah * bh) + P * P * (ah * bh) := by
 have e : (al + ah) * (bl + bh) - al * bl - ah * bh = al * bh + ah * bl := by
  rw [Nat.add_mul, Nat.mul_add, Nat.mul_add]
  omega
 rw [e, Nat.add_mul, Nat.mul_add, Nat.mul_add, Nat.mul_add]
 have e1 : al * (P * bh) = P * (al * bh) := Nat.mul_left_comm _ _ _
 have e2 : P * ah * bl = P * (ah * bl) := Nat.mul_assoc _ _ _
 have e3 : P * ah * (P * bh) = P * P * (ah * bh) := Nat.mul_mul_mul_comm _ _ _ _
 rw [e1, e2, e3]
 omega
set_option maxHeartbeats 2000000 in
theorem kl8 : ∀ (N : Nat) {h : AH} {s t : Sl} {xs ys : List Nat} {p : Ref}, xs.length + ys.length < N → N ≤ 268435456 → Nats h s xs → Nats h t ys → h.cell p = some (kpw p) →
  Runs (go (.fn F.kjw [s.v, t.v, .ptr (some p)]) h) fun v h' => ∃ s' : Sl, v = s'.v ∧ Nats h' s' (digs B (num B xs * num B ys)) ∧ Grow h h' ∧ Own h s'
 | 0, _, _, _, _, _, _, hN, _, _, _, _ => by omega
 | N + 1, h, s, t, xs, ys, p, hN, hM, ns, nt, c => by
  rw [k6c, ns.len, nt.len]
  refine Runs.cond (fun k1 => ?_) (fun k1 => ?_)
  ·obtain ⟨s4, h4, e4, n4, g4, o4⟩ := kpo ns nt (by omega)
   refine Runs.step e4 ?_
   refine Runs.step (seen (asSl_v _)) ?_
   exact Runs.ret ⟨s4, rfl, n4, g4, o4⟩
  refine Runs.cond (fun k2 => ?_) (fun k2 => ?_)
  ·obtain ⟨s4, h4, e4, n4, g4, o4⟩ := kpo ns nt (by omega)
   refine Runs.step e4 ?_
   refine Runs.step (seen (asSl_v _)) ?_
   exact Runs.ret ⟨s4, rfl, n4, g4, o4⟩
  rw [decide_eq_false_iff_not] at k1 k2
  obtain ⟨n, hn⟩ : ∃ n, n = (max xs.length ys.length + 1) / 2 := ⟨_, rfl⟩
  have hw : IntKind.wrap .i64 (Int.tdiv (IntKind.wrap .i64 ((imax (xs.length : Int) (ys.length : Int)) + 1)) 2) = (n : Int) := by
   rw [k5q, show max (xs.length : Int) (ys.length : Int) = ((max xs.length ys.length : Nat) : Int) from by omega, ko (by omega)]
   show IntKind.wrap .i64 (((max xs.length ys.length + 1) / 2 : Nat) : Int) = _
   rw [← hn, kbx (by omega)]
  rw [hw]
  have lax : (xs.take (min n xs.length)).length = min n xs.length := by simp
  have lbx : (ys.take (min n ys.length)).length = min n ys.length := by simp
  have tax : ∀ x ∈ xs.take (min n xs.length), x < B := fun x hx => ns.lt x (List.mem_of_mem_take hx)
  have tbx : ∀ x ∈ ys.take (min n ys.length), x < B := fun x hx => nt.lt x (List.mem_of_mem_take hx)
  have tah : ∀ x ∈ xs.drop (min n xs.length), x < B := fun x hx => ns.lt x (List.mem_of_mem_drop hx)
  have tbh : ∀ x ∈ ys.drop (min n ys.length), x < B := fun x hx => nt.lt x (List.mem_of_mem_drop hx)
  have lah : (xs.drop (min n xs.length)).length = xs.length - min n xs.length := by simp
  have lbh : (ys.drop (min n ys.length)).length = ys.length - min n ys.length := by simp
  have da := kjj tax
  have db := kjj tbx
  have dah := kjj tah
  have dbh := kjj tbh
  have ea := kts B xs n
  have eb := kts B ys n
  generalize hal : num B (xs.take (min n xs.length)) = al at *
  generalize hah : num B (xs.drop (min n xs.length)) = ah at *
  generalize hbl : num B (ys.take (min n ys.length)) = bl at *
  generalize hbh : num B (ys.drop (min n ys.length)) = bh at *
  refine Runs.new fun H8 b8 g8 => ?_
  refine Runs.puts b8 rfl fun H9 b9 u9 => ?_
  have gA := g8.updr (Nat.le_refl _) u9
  have c9 := gA.cell_some c
  have k9 : H9.cell (.new h.blks.size 0) = some (.int .i64 (n : Int)) := b9.cell 0
  have ns9 := ns.grow gA
  have nt9 := nt.grow gA
  refine Runs.step c9 ?_
  refine Runs.step c9 ?_
  obtain ⟨s12, e12, n12⟩ := kla ns9 k9
  obtain ⟨s14, e14, n14⟩ := kla nt9 k9
  rw [hal] at n12
  rw [hbl] at n14
  refine Runs.step e12 ?_
  refine Runs.step (seen (asSl_v _)) ?_
  refine Runs.when ((Grow.refl _).same_cell c9) ?_
  refine Runs.when ((Grow.refl _).same_cell c9) ?_
  refine Runs.step e14 ?_
  refine Runs.step (seen (asSl_v _)) ?_
  refine Runs.when ((Grow.refl _).same_cell c9) ?_
  refine Runs.when ((Grow.refl _).same_cell c9) ?_
  obtain ⟨_, H16, e16, s16, rfl, n16, g16, o16⟩ := kl8 N (by omega) (by omega) n12 n14 c9
  rw [kg B2, kg B2] at n16
  refine Runs.step ((klu p _ _ _).trans e16) ?_
  refine Runs.step (seen (asSl_v _)) ?_
  refine Runs.when (g16.same_cell c9) ?_
  have c16 := g16.cell_some c9
  have k16 := g16.cell_some k9
  obtain ⟨s18, e18, n18⟩ := kmj (ns9.grow g16) k16
  obtain ⟨s20, e20, n20⟩ := kmj (nt9.grow g16) k16
  refine Runs.step e18 ?_
  refine Runs.step (seen (asSl_v _)) ?_
  refine Runs.when ((Grow.refl _).same_cell c16) ?_
  refine Runs.step e20 ?_
  refine Runs.step (seen (asSl_v _)) ?_
  refine Runs.when ((Grow.refl _).same_cell c16) ?_
  obtain ⟨_, H22, e22, s22, rfl, n22, g22, o22⟩ := kl8 N (by omega) (by omega) n18 n20 c16
  rw [hah, hbh] at n22
  refine Runs.step ((klu p _ _ _).trans e22) ?_
  refine Runs.step (seen (asSl_v _)) ?_
  have c22 := g22.cell_some c16
  have k22 := g22.cell_some k16
  have gB := g16.trans g22
  refine Runs.step c22 ?_
  obtain ⟨s25, e25, n25⟩ := kla (ns9.grow gB) k22
  obtain ⟨s27, e27, n27⟩ := kmj (ns9.grow gB) k22
  rw [hal] at n25
  refine Runs.step e25 ?_
  refine Runs.step (seen (asSl_v _)) ?_
  refine Runs.when ((Grow.refl _).same_cell c22) ?_
  refine Runs.step e27 ?_
  refine Runs.step (seen (asSl_v _)) ?_
  refine Runs.when ((Grow.refl _).same_cell c22) ?_
  obtain ⟨s29, H29, zs, e29, n29, g29, o29, v29, l29⟩ := kqg n25 n27 (by omega) (by omega)
  rw [kg B2, hah] at v29
  refine Runs.step e29 ?_
  refine Runs.step (seen (asSl_v _)) ?_
  refine Runs.when (g29.same_cell c22) ?_
  have c29 := g29.cell_some c22
  have k29 := g29.cell_some k22
  obtain ⟨s31, e31, n31, _⟩ := kc4 n29
  rw [v29] at n31
  refine Runs.step e31 ?_
  refine Runs.step (seen (asSl_v _)) ?_
  refine Runs.when ((Grow.refl _).same_cell c29) ?_
  obtain ⟨s33, e33, n33⟩ := kla (nt9.grow (gB.trans g29)) k29
  obtain ⟨s35, e35, n35⟩ := kmj (nt9.grow (gB.trans g29)) k29
  rw [hbl] at n33
  refine Runs.step e33 ?_
  refine Runs.step (seen (asSl_v _)) ?_
  refine Runs.when ((Grow.refl _).same_cell c29) ?_
  refine Runs.step e35 ?_
  refine Runs.step (seen (asSl_v _)) ?_
  refine Runs.when ((Grow.refl _).same_cell c29) ?_
  obtain ⟨s37, H37, ws, e37, n37, g37, o37, v37, l37⟩ := kqg n33 n35 (by omega) (by omega)
  rw [kg B2, hbh] at v37
  refine Runs.step e37 ?_
  refine Runs.step (seen (asSl_v _)) ?_
  refine Runs.when (g37.same_cell c29) ?_
  have c37 := g37.cell_some c29
  have k37 := g37.cell_some k29
  obtain ⟨s39, e39, n39, _⟩ := kc4 n37
  rw [v37] at n39
  refine Runs.step e39 ?_
  refine Runs.step (seen (asSl_v _)) ?_
  refine Runs.when ((Grow.refl _).same_cell c37) ?_
  have q1 := kp6 B2 al ah
  have q2 := kp6 B2 bl bh
  obtain ⟨_, H41, e41, s41, rfl, n41, g41, o41⟩ := kl8 N (by omega) (by omega) (n31.grow g37) n39 c37
  rw [kg B2, kg B2] at n41
  refine Runs.step ((klu p _ _ _).trans e41) ?_
  refine Runs.step (seen (asSl_v _)) ?_
  have mm : al * bl + ah * bh ≤ (al + ah) * (bl + bh) := by
   rw [Nat.add_mul, Nat.mul_add, Nat.mul_add]
   omega
  have gC := g22.trans (g29.trans (g37.trans g41))
  have lm : (digs B ((al + ah) * (bl + bh))).length ≤ 2 * n + 2 := by
   rw [kq B2]
   have h1 := (kq B2 (al + ah) (n + 1)).1 (by omega)
   have h2 := (kq B2 (bl + bh) (n + 1)).1 (by omega)
   rw [show 2 * n + 2 = (n + 1) + (n + 1) from by omega, Nat.pow_add]
   exact Nat.mul_lt_mul_of_lt_of_lt h1 h2
  obtain ⟨s43, H43, us, e43, n43, g43, o43, v43, l43⟩ := kna n41 (n16.grow gC) (by omega) (kk7 (by omega)) (by rw [kg B2, kg B2]; omega)
  rw [kg B2, kg B2] at v43
  refine Runs.step e43 ?_
  refine Runs.step (seen (asSl_v _)) ?_
  obtain ⟨s45, e45, n45, _⟩ := kc4 n43
  rw [v43] at n45
  refine Runs.step e45 ?_
  refine Runs.step (seen (asSl_v _)) ?_
  have gD := (g29.trans (g37.trans g41)).trans g43
  have l45 := kk7 (a := (al + ah) * (bl + bh) - al * bl) (c := (al + ah) * (bl + bh)) (by omega)
  obtain ⟨s47, H47, rs, e47, n47, g47, o47, v47, l47⟩ := kna n45 (n22.grow gD) (by omega) (kk7 (by omega)) (by rw [kg B2, kg B2]; omega)
  rw [kg B2, kg B2] at v47
  refine Runs.step e47 ?_
  refine Runs.step (seen (asSl_v _)) ?_
  obtain ⟨s49, e49, n49, _⟩ := kc4 n47
  rw [v47] at n49
  refine Runs.step e49 ?_
  refine Runs.step (seen (asSl_v _)) ?_
  have gE : Grow H9 H47 := (g16.trans gC).trans (g43.trans g47)
  have n16' := n16.grow ((gC.trans g43).trans g47)
  have n22' := n22.grow (gD.trans g47)
  have b47 := gE.has b9
  rw [show IntKind.wrap .i64 ((IntKind.wrap .i64 ((xs.length : Int) + (ys.length : Int))) + 1) = ((xs.length + ys.length + 1 : Nat) : Int) from by
   rw [← Int.natCast_add, kbx (by omega), ko (by omega)]]
  refine Runs.mk (kd4 (by omega)) kc8 fun s51 H51 v51 g51 => ?_
  have total := k9l (B ^ n) al ah bl bh
  rw [← ea, ← eb] at total
  generalize hm : (al + ah) * (bl + bh) - al * bl - ah * bh = m at *
  have lt : num B xs * num B ys < B ^ (xs.length + ys.length) := by
   rw [Nat.pow_add]
   exact Nat.mul_lt_mul_of_lt_of_lt (num_lt B1 ns.lt) (num_lt B1 nt.lt)
  have lt1 : num B xs * num B ys < B ^ (xs.length + ys.length + 1) := Nat.lt_of_lt_of_le lt (Nat.pow_le_pow_right B1 (by omega))
  have lp : (digs B (al * bl)).length ≤ xs.length + ys.length := by
   rw [kq B2]
   omega
  obtain ⟨H52, e52, v52, u52⟩ := kyp (n16'.grow g51) v51 (by simp; omega)
  refine Runs.step e52 ?_
  have i47 := b47.lt
  have ne : h.blks.size ≠ H47.blks.size := Nat.ne_of_lt i47
  have b52 := AH.has.updr (g51.has b47) ne u52
  refine Runs.step (AH.has.rd0 b52 rfl (kb _ _)) ?_
  have av49 := Av.of_base n49 (Nat.le_refl _)
  have av22 := Av.of_base n22' (Nat.le_refl _)
  have w0 : num B (digs B (al * bl) ++ (List.replicate (xs.length + ys.length + 1) 0).drop (digs B (al * bl)).length) = al * bl := by
   rw [List.drop_replicate, kf2, kg B2]
  have lw0 : (digs B (al * bl) ++ (List.replicate (xs.length + ys.length + 1) 0).drop (digs B (al * bl)).length).length = xs.length + ys.length + 1 := by
   simp
   omega
  generalize digs B (al * bl) ++ (List.replicate (xs.length + ys.length + 1) 0).drop (digs B (al * bl)).length = o0 at *
  have lmm := kk7 (a := m) (c := (al + ah) * (bl + bh)) (by omega)
  obtain ⟨H54, o1, e54, v54, u54, l54, w54⟩ := kw2 v52 ((n49.grow g51).upda av49 u52) av49 (at' := n) (by omega) (by omega) (by omega) (by rw [w0, kg B2, lw0]; omega)
  refine Runs.step e54 ?_
  refine Runs.step rfl ?_
  have b54 := AH.has.updr b52 ne u54
  refine Runs.step (AH.has.rd0 b54 rfl (kb _ _)) ?_
  rw [show IntKind.wrap .i64 (2 * (n : Int)) = ((2 * n : Nat) : Int) from by rw [wrap64 (by omega) (by omega)]; omega]
  have pp : B ^ (2 * n) = B ^ n * B ^ n := by rw [← Nat.pow_add]; congr 1; omega
  have lq : (digs B (ah * bh)).length ≤ xs.length + ys.length := by
   rw [kq B2]
   have : 1 * (ah * bh) ≤ B ^ n * B ^ n * (ah * bh) := Nat.mul_le_mul_right _ (Nat.mul_pos (Nat.pow_pos B1) (Nat.pow_pos B1))
   omega
  rw [w0, kg B2] at w54
  obtain ⟨H56, o2, e56, v56, u56, l56, w56⟩ := kw2 v54 (((n22'.grow g51).upda av22 u52).upda av22 u54) av22 (at' := 2 * n) (by omega) (by omega) (by omega) (by rw [w54, kg B2, l54, lw0, pp]; omega)
  rw [kg B2, w54, pp, ← total] at w56
  refine Runs.step e56 ?_
  refine Runs.step rfl ?_
  obtain ⟨s57, e57, n57, o57⟩ := kc4 v56.nats
  rw [w56] at n57
  refine Runs.step e57 ?_
  refine Runs.step (seen (asSl_v _)) ?_
  have gF : Grow h H47 := gA.trans gE
  refine Runs.ret ⟨s57, rfl, n57, (((gF.trans g51).updr gF.size u52).updr gF.size u54).updr gF.size u56, o57 _ (v56.own gF.size)⟩
end Go.Ab

/- squeezed -/
set_option linter.unusedVariables false
set_option linter.unusedSimpArgs false
set_option maxRecDepth 10000
namespace Go.Ab
open Go.Proofs Go.Num
theorem k2e {h : AH} {s t : Sl} {xs ys : List Nat} (n : Nats h s xs) (m : Nats h t ys) (hl : xs.length + ys.length < 268435456) : ∃ (s' : Sl) (h' : AH), go (.fn F.kk9 [s.v, t.v]) h = some (s'.v, h') ∧ Nats h' s' (digs B (num B xs * num B ys)) ∧ Grow h h' ∧ Own h s' := by
 have key : Runs (go (.fn F.kk9 [s.v, t.v]) h) fun v h' => ∃ s' : Sl, v = s'.v ∧ Nats h' s' (digs B (num B xs * num B ys)) ∧ Grow h h' ∧ Own h s' := by
  rw [k9r]
  refine Runs.new fun H3 b3 g3 => ?_
  refine Runs.puts b3 rfl fun H4 b4 u4 => ?_
  have gA := g3.updr (Nat.le_refl _) u4
  have c4 : H4.cell (.new h.blks.size 0) = some (kpw (.new h.blks.size 0)) := b4.cell 0
  refine Runs.step c4 ?_
  obtain ⟨_, H6, e6, s6, rfl, n6, g6, o6⟩ := kl8 268435456 hl (Nat.le_refl _) (n.grow gA) (m.grow gA) c4
  refine Runs.step ((klu _ _ _ _).trans e6) ?_
  refine Runs.step (seen (asSl_v _)) ?_
  exact Runs.ret ⟨s6, rfl, n6, gA.trans g6, o6.of_le gA⟩
 obtain ⟨_, h', e, s', rfl, k⟩ := key
 exact ⟨s', h', e, k⟩
def mulN (xs ys : List Nat) : List Nat × Int := if rt xs = true ∧ rt ys = true then told (num B xs * num B ys) else ([], 1)
theorem kju {h : AH} {s t : Sl} {xs ys : List Nat} (n : Nats h s xs) (m : Nats h t ys) : ∃ (s' : Sl) (h' : AH), go (.fn F.kgw [s.v, t.v]) h = some (.tup [s'.v, .int .i64 (mulN xs ys).2], h') ∧ Nats h' s' (mulN xs ys).1 ∧ Grow h h' ∧ Own h s' := by
 rw [k32]
 simp only [kbm]
 have r := Rows.two n m
 have g := Grow.push h (.cells [s.v, t.v] T.kw)
 generalize h.push (.cells [s.v, t.v] T.kw) = h0 at *
 rw [kka r]
 simp only [Option.bind_some, kbi, List.all_cons, List.all_nil, Bool.and_true]
 cases hx : rt xs with
 | false => exact ⟨⟨none, 0, .is 0⟩, h0, by simp [mulN, hx], by simpa [mulN, hx] using Nats.nil h0, g, Own.nil h⟩
 | true =>
  cases hy : rt ys with
  | false => exact ⟨⟨none, 0, .is 0⟩, h0, by simp [mulN, hx, hy], by simpa [mulN, hx, hy] using Nats.nil h0, g, Own.nil h⟩
  | true =>
   simp only [Bool.and_self, Bool.not_true, cond_false]
   have lx := (rt_iff.1 hx).1
   have ly := (rt_iff.1 hy).1
   rw [show mulN xs ys = told (num B xs * num B ys) from by simp [mulN, hx, hy]]
   obtain ⟨s1, h1, e1, n1, g1, o1⟩ := k2e (n.grow g) (m.grow g) (by omega)
   obtain ⟨s2, e2, n2, o2⟩ := kq7 n1
   rw [kg B2] at e2 n2
   refine ⟨s2, h1, ?_, n2, g.trans g1, o2 _ (o1.of_le g)⟩
   simp only [e1, e2, Option.bind_some, asSl_v, kdf, kb]
theorem ko4 {h : AH} {s t : Sl} {xs ys : List Nat} (n : Nats h s xs) (m : Nats h t ys) : ∃ (s' : Sl) (h' : AH), go (.fn F.kj7 [s.v, t.v]) h = some (.tup [s'.v, .int .i64 (mulN xs ys).2], h') ∧ Nats h' s' (mulN xs ys).1 ∧ Grow h h' ∧ Own h s' := by
 rw [kbbr, kbr n, Option.bind_some, Option.bind_some, kbi, Option.bind_some, kbr m, Option.bind_some, Option.bind_some, kbi, Option.bind_some]
 cases hx : rt xs with
 | false => exact ⟨⟨none, 0, .is 0⟩, h, by simp [mulN, hx], by simpa [mulN, hx] using Nats.nil h, Grow.refl h, Own.nil h⟩
 | true =>
  cases hy : rt ys with
  | false => exact ⟨⟨none, 0, .is 0⟩, h, by simp [mulN, hx, hy], by simpa [mulN, hx, hy] using Nats.nil h, Grow.refl h, Own.nil h⟩
  | true =>
   simp only [Bool.not_true, cond_false]
   have lx := (rt_iff.1 hx).1
   have ly := (rt_iff.1 hy).1
   rw [show mulN xs ys = told (num B xs * num B ys) from by simp [mulN, hx, hy]]
   obtain ⟨d1, h1, e1, n1, g1, o1⟩ := kd9 n (by omega)
   obtain ⟨d2, h2, e2, n2, g2, o2⟩ := kd9 (m.grow g1) (by omega)
   have k1 := kf5 n.lt lx
   have k2 := kf5 m.lt ly
   obtain ⟨d3, h3, e3, n3, g3, o3⟩ := kqx (n1.grow g2) n2 (kv D2 _) (kv D2 _) (by omega)
   rw [kg D2, kg D2] at n3
   have k3 : (digs D (num B xs * num B ys)).length ≤ 536870912 := by
    have h1 := (kq D2 (num B xs) _).1 (Nat.le_refl _)
    have h2 := (kq D2 (num B ys) _).1 (Nat.le_refl _)
    have : (digs D (num B xs * num B ys)).length ≤ (digs D (num B xs)).length + (digs D (num B ys)).length := by
     rw [kq D2, Nat.pow_add]
     exact Nat.mul_lt_mul_of_lt_of_lt h1 h2
    omega
   obtain ⟨d4, h4, e4, n4, g4, o4⟩ := ko5 n3 (kv D2 _) (kb1 D2 _) k3
   rw [kg D2] at e4 n4
   refine ⟨d4, h4, ?_, n4, g1.trans (g2.trans (g3.trans g4)), o4.of_le (g1.trans (g2.trans g3))⟩
   simp only [e1, e2, e3, e4, Option.bind_some, asSl_v, kdf, kb]
end Go.Ab

/- squeezed -/
set_option linter.unusedVariables false
set_option linter.unusedSimpArgs false
set_option maxRecDepth 10000
namespace Go.Ab
open Go.Proofs Go.Num
def kba (a1 : Bool) (x2 : List Nat) (a3 : Bool) (x4 : List Nat) : Bool × List Nat × Int :=
 cond (!((rtI a1 x2 && rtI a3 x4))) ((false, [], 1)) (((((fromI (!(a1 == a3)) ((mulN x2 x4).1)).1)), (fromI (!(a1 == a3)) ((mulN x2 x4).1)).2, ((mulN x2 x4).2)))
theorem kbbl {h : AH} {a2 : Sl} {x2 : List Nat} {a4 : Sl} {x4 : List Nat} (n2 : Nats h a2 x2) (n4 : Nats h a4 x4) (a1 : Bool) (a3 : Bool) : Runs (go (.fn F.kop [.agg [.bool a1, a2.v], .agg [.bool a3, a4.v]]) h) fun v h' => ∃ s1 : Sl, v = .tup [.agg [.bool (kba a1 x2 a3 x4).1, s1.v], .int .i64 (kba a1 x2 a3 x4).2.2] ∧ Nats h' s1 ((kba a1 x2 a3 x4).2.1) ∧ Grow h h' ∧ Own h s1 := by
 rw [k3b]
 refine Runs.new fun H5 b5 g5 => ?_
 refine Runs.new fun H6 b6 g6 => ?_
 refine Runs.new fun H7 b7 g7 => ?_
 refine Runs.step (AH.has.rd ((g6.trans g7).has b5) 0 rfl rfl) ?_
 refine Runs.step (AH.has.rd ((g6.trans g7).has b5) 1 rfl (asSl_v _)) ?_
 refine Runs.step (AH.has.rd (g7.has b6) 0 rfl rfl) ?_
 refine Runs.step (AH.has.rd (g7.has b6) 1 rfl (asSl_v _)) ?_
 refine Runs.new fun H8 b8 g8 => ?_
 obtain ⟨H9, e9, g9⟩ := km6 b8 (n2.grow (((g5.trans g6).trans g7).trans g8)) (n4.grow (((g5.trans g6).trans g7).trans g8))
 refine Runs.step e9 ?_
 refine Runs.step (seen rfl) ?_
 refine Runs.cond (fun k10 => ?_) (fun k10 => ?_)
 ·refine Runs.puts ((g8.trans g9).has b7) rfl fun H11 b11 u11 => ?_
  have b8_11 := AH.has.updr (g9.has b8) (Nat.ne_of_gt (Nat.lt_of_lt_of_le (b7).lt (Nat.le_refl _))) u11
  refine Runs.step (AH.has.rd b11 0 rfl rfl) ?_
  refine Runs.step (AH.has.rd b11 1 rfl (asSl_v _)) ?_
  have z : kba a1 x2 a3 x4 = (false, [], 1) := by unfold kba; exact (condT k10).trans rfl
  rw [z]
  exact Runs.ret ⟨(⟨none, 0, .is 0⟩ : Sl), rfl, (Nats.nil _), (((((g5.trans g6).trans g7).trans g8).trans g9).updr (Nat.le_trans ((g5.trans g6)).size (Nat.le_refl _)) u11), (Own.nil _)⟩
 ·refine Runs.step (AH.has.rd ((((g6.trans g7).trans g8).trans g9).has b5) 1 rfl (asSl_v _)) ?_
  refine Runs.step (AH.has.rd (((g7.trans g8).trans g9).has b6) 1 rfl (asSl_v _)) ?_
  obtain ⟨s11, H11, e11, n11, g11, o11⟩ := kju (n2.grow ((((g5.trans g6).trans g7).trans g8).trans g9)) (n4.grow ((((g5.trans g6).trans g7).trans g8).trans g9))
  refine Runs.step e11 ?_
  refine Runs.step rfl ?_
  refine Runs.step (seen (asSl_v _)) ?_
  refine Runs.step (seen (kb _ _)) ?_
  refine Runs.step (AH.has.rd (((((g6.trans g7).trans g8).trans g9).trans g11).has b5) 0 rfl rfl) ?_
  refine Runs.step (AH.has.rd ((((g7.trans g8).trans g9).trans g11).has b6) 0 rfl rfl) ?_
  obtain ⟨s12, H12, e12, n12, g12, o12⟩ := kcf n11 (!(a1 == a3))
  refine Runs.step e12 ?_
  refine Runs.step rfl ?_
  refine Runs.ifT rfl ?_
  refine Runs.step (seenAt rfl rfl) ?_
  refine Runs.step (seenAt rfl (asSl_v _)) ?_
  refine Runs.puts ((((g8.trans g9).trans g11).trans g12).has b7) rfl fun H13 b13 u13 => ?_
  have n11_13 := (n11.grow g12).upda (Av.of_own o11 ((g8.trans g9).has b7).lt) u13
  have n12_13 := n12.upda (Av.of_own o12 (((g8.trans g9).trans g11).has b7).lt) u13
  have b8_13 := AH.has.updr (((g9.trans g11).trans g12).has b8) (Nat.ne_of_gt (Nat.lt_of_lt_of_le (b7).lt (Nat.le_refl _))) u13
  refine Runs.step (AH.has.rd b13 0 rfl rfl) ?_
  refine Runs.step (AH.has.rd b13 1 rfl (asSl_v _)) ?_
  have z : kba a1 x2 a3 x4 = ((((fromI (!(a1 == a3)) ((mulN x2 x4).1)).1)), (fromI (!(a1 == a3)) ((mulN x2 x4).1)).2, ((mulN x2 x4).2)) := by unfold kba; exact (condF k10).trans rfl
  rw [z]
  exact Runs.ret ⟨s12, rfl, n12_13, (((((((g5.trans g6).trans g7).trans g8).trans g9).trans g11).trans g12).updr (Nat.le_trans ((g5.trans g6)).size (Nat.le_refl _)) u13), (o12.of_le (((((g5.trans g6).trans g7).trans g8).trans g9).trans g11))⟩
def kdp (a1 : Bool) (x2 : List Nat) (a3 : Bool) (x4 : List Nat) : Bool × List Nat × Int :=
 cond (!(rtI a1 x2)) ((false, [], 1)) (cond (!(rtI a3 x4)) ((false, [], 1)) (((((fromI (!(a1 == a3)) ((mulN x2 x4).1)).1)), (fromI (!(a1 == a3)) ((mulN x2 x4).1)).2, ((mulN x2 x4).2))))
theorem k5c {h : AH} {a2 : Sl} {x2 : List Nat} {a4 : Sl} {x4 : List Nat} (n2 : Nats h a2 x2) (n4 : Nats h a4 x4) (a1 : Bool) (a3 : Bool) : Runs (go (.fn F.kl6 [.agg [.bool a1, a2.v], .agg [.bool a3, a4.v]]) h) fun v h' => ∃ s1 : Sl, v = .tup [.agg [.bool (kdp a1 x2 a3 x4).1, s1.v], .int .i64 (kdp a1 x2 a3 x4).2.2] ∧ Nats h' s1 ((kdp a1 x2 a3 x4).2.1) ∧ Grow h h' ∧ Own h s1 := by
 rw [k4n]
 refine Runs.new fun H5 b5 g5 => ?_
 refine Runs.new fun H6 b6 g6 => ?_
 refine Runs.new fun H7 b7 g7 => ?_
 refine Runs.step (AH.has.rd ((g6.trans g7).has b5) 0 rfl rfl) ?_
 refine Runs.step (AH.has.rd ((g6.trans g7).has b5) 1 rfl (asSl_v _)) ?_
 obtain ⟨H8, e8, g8⟩ := kex (n2.grow ((g5.trans g6).trans g7)) a1
 refine Runs.step e8 ?_
 refine Runs.step (seen rfl) ?_
 refine Runs.step (AH.has.rd ((g7.trans g8).has b6) 0 rfl rfl) ?_
 refine Runs.step (AH.has.rd ((g7.trans g8).has b6) 1 rfl (asSl_v _)) ?_
 obtain ⟨H9, e9, g9⟩ := kex (n4.grow (((g5.trans g6).trans g7).trans g8)) a3
 refine Runs.step e9 ?_
 refine Runs.step (seen rfl) ?_
 refine Runs.cond (fun k10 => ?_) (fun k10 => ?_)
 ·refine Runs.puts ((g8.trans g9).has b7) rfl fun H11 b11 u11 => ?_
  refine Runs.step (AH.has.rd b11 0 rfl rfl) ?_
  refine Runs.step (AH.has.rd b11 1 rfl (asSl_v _)) ?_
  have z : kdp a1 x2 a3 x4 = (false, [], 1) := by unfold kdp; exact (condT k10).trans rfl
  rw [z]
  exact Runs.ret ⟨(⟨none, 0, .is 0⟩ : Sl), rfl, (Nats.nil _), (((((g5.trans g6).trans g7).trans g8).trans g9).updr (Nat.le_trans ((g5.trans g6)).size (Nat.le_refl _)) u11), (Own.nil _)⟩
 ·refine Runs.cond (fun k11 => ?_) (fun k11 => ?_)
  ·refine Runs.puts ((g8.trans g9).has b7) rfl fun H12 b12 u12 => ?_
   refine Runs.step (AH.has.rd b12 0 rfl rfl) ?_
   refine Runs.step (AH.has.rd b12 1 rfl (asSl_v _)) ?_
   have z : kdp a1 x2 a3 x4 = (false, [], 1) := by unfold kdp; exact (condF k10).trans ((condT k11).trans rfl)
   rw [z]
   exact Runs.ret ⟨(⟨none, 0, .is 0⟩ : Sl), rfl, (Nats.nil _), (((((g5.trans g6).trans g7).trans g8).trans g9).updr (Nat.le_trans ((g5.trans g6)).size (Nat.le_refl _)) u12), (Own.nil _)⟩
  ·refine Runs.step (AH.has.rd ((((g6.trans g7).trans g8).trans g9).has b5) 1 rfl (asSl_v _)) ?_
   refine Runs.step (AH.has.rd (((g7.trans g8).trans g9).has b6) 1 rfl (asSl_v _)) ?_
   obtain ⟨s12, H12, e12, n12, g12, o12⟩ := ko4 (n2.grow ((((g5.trans g6).trans g7).trans g8).trans g9)) (n4.grow ((((g5.trans g6).trans g7).trans g8).trans g9))
   refine Runs.step e12 ?_
   refine Runs.step rfl ?_
   refine Runs.step (seen (asSl_v _)) ?_
   refine Runs.step (seen (kb _ _)) ?_
   refine Runs.step (AH.has.rd (((((g6.trans g7).trans g8).trans g9).trans g12).has b5) 0 rfl rfl) ?_
   refine Runs.step (AH.has.rd ((((g7.trans g8).trans g9).trans g12).has b6) 0 rfl rfl) ?_
   obtain ⟨s13, H13, e13, n13, g13, o13⟩ := kcl n12 (!(a1 == a3))
   refine Runs.step e13 ?_
   refine Runs.step rfl ?_
   refine Runs.ifT rfl ?_
   refine Runs.step (seenAt rfl rfl) ?_
   refine Runs.step (seenAt rfl (asSl_v _)) ?_
   refine Runs.puts ((((g8.trans g9).trans g12).trans g13).has b7) rfl fun H14 b14 u14 => ?_
   have n12_14 := (n12.grow g13).upda (Av.of_own o12 ((g8.trans g9).has b7).lt) u14
   have n13_14 := n13.upda (Av.of_own o13 (((g8.trans g9).trans g12).has b7).lt) u14
   refine Runs.step (AH.has.rd b14 0 rfl rfl) ?_
   refine Runs.step (AH.has.rd b14 1 rfl (asSl_v _)) ?_
   have z : kdp a1 x2 a3 x4 = ((((fromI (!(a1 == a3)) ((mulN x2 x4).1)).1)), (fromI (!(a1 == a3)) ((mulN x2 x4).1)).2, ((mulN x2 x4).2)) := by unfold kdp; exact (condF k10).trans ((condF k11).trans rfl)
   rw [z]
   exact Runs.ret ⟨s13, rfl, n13_14, (((((((g5.trans g6).trans g7).trans g8).trans g9).trans g12).trans g13).updr (Nat.le_trans ((g5.trans g6)).size (Nat.le_refl _)) u14), (o13.of_le (((((g5.trans g6).trans g7).trans g8).trans g9).trans g12))⟩
theorem kbby : kdp = kba := by
 funext p xs q ys
 unfold kdp kba
 cases hx : rtI p xs with
 | false => rfl
 | true =>
  cases hy : rtI q ys with
  | false => rfl
  | true =>
   simp only [Bool.not_true, cond_false, Bool.and_self]
theorem kzz {h : AH} {a2 : Sl} {x2 : List Nat} {a4 : Sl} {x4 : List Nat} (n2 : Nats h a2 x2) (n4 : Nats h a4 x4) (a1 : Bool) (a3 : Bool) : Runs (go (.fn F.kl6 [.agg [.bool a1, a2.v], .agg [.bool a3, a4.v]]) h) fun v h' => ∃ s1 : Sl, v = .tup [.agg [.bool (kba a1 x2 a3 x4).1, s1.v], .int .i64 (kba a1 x2 a3 x4).2.2] ∧ Nats h' s1 ((kba a1 x2 a3 x4).2.1) ∧ Grow h h' ∧ Own h s1 := by
 rw [← kbby]
 exact k5c n2 n4 a1 a3
end Go.Ab

/- squeezed -/
set_option linter.unusedVariables false
set_option linter.unusedSimpArgs false
set_option maxRecDepth 10000
namespace Go.Ab
open Go.Proofs Go.Num
def Bl (x n : Nat) : Prop := x < 2 ^ n ∧ (n = 0 ∨ 2 ^ (n - 1) ≤ x)
def bl (i : Nat) : Nat := if i = 0 then 0 else Nat.log2 i + 1
theorem k1w : ∀ i : Nat, i < 256 → (lit1[i]?).map (·.toNat) = some (bl i) := by decide +kernel
theorem bl_Bl (i : Nat) : Bl i (bl i) := by
 unfold bl Bl
 by_cases h : i = 0
 ·subst h
  simp
 ·rw [if_neg h]
  refine ⟨Nat.lt_log2_self, .inr ?_⟩
  simpa using Nat.log2_self_le h
theorem k59 {i : Nat} (h : i < 256) : ∃ b : UInt8, lit1[i]? = some b ∧ Bl i b.toNat := by
 have e := k1w i h
 rw [Option.map_eq_some_iff] at e
 obtain ⟨b, e1, e2⟩ := e
 exact ⟨b, e1, by rw [e2]; exact bl_Bl i⟩
theorem Bl.up {x k n : Nat} (b : Bl (x / 2 ^ k) n) (h : 0 < x / 2 ^ k) : Bl x (k + n) := by
 obtain ⟨h1, h2⟩ := b
 have p : 0 < 2 ^ k := Nat.pow_pos (by decide)
 refine ⟨?_, .inr ?_⟩
 ·rw [Nat.pow_add, Nat.mul_comm]
  exact (Nat.div_lt_iff_lt_mul p).1 h1
 ·rcases h2 with rfl | h2
  ·rw [Nat.pow_zero] at h1
   omega
  ·by_cases hn : n = 0
   ·subst hn
    rw [Nat.pow_zero] at h1
    omega
   ·rw [show k + n - 1 = k + (n - 1) from by omega, Nat.pow_add, Nat.mul_comm]
    exact (Nat.le_div_iff_mul_le p).1 h2
theorem Bl.le {x n : Nat} (b : Bl x n) {m : Nat} (h : x < 2 ^ m) : n ≤ m := by
 rcases b.2 with h1 | h1
 ·omega
 ·rcases Nat.lt_or_ge m n with h2 | h2
  ·have : 2 ^ m ≤ 2 ^ (n - 1) := Nat.pow_le_pow_right (by decide) (by omega)
   omega
  ·exact h2
theorem wrap8 {n : Nat} (h : n < 256) : IntKind.wrap .u8 (n : Int) = (n : Int) := by
 simp [IntKind.wrap, IntKind.bits, IntKind.signed]
 omega
theorem kff {x : Nat} (hx : x < 256) {P : AV → AH → Prop} {h : AH} {K : Int → Int} (H : ∀ n : Nat, Bl x n → n ≤ 8 → P (.int .i64 (K (n : Int))) h) :
  Runs (cond (decide (0 ≤ (IntKind.wrap .u8 (x : Int)))) ((lit1[Int.toNat (IntKind.wrap .u8 (x : Int))]?).bind fun b => some (.int .i64 (K (IntKind.wrap .i64 (b.toNat : Int))), h)) none) P := by
 rw [wrap8 hx, Int.toNat_natCast]
 obtain ⟨b, e1, e2⟩ := k59 hx
 refine Runs.ifT (by rw [decide_eq_true_eq]; omega) ?_
 refine Runs.step e1 ?_
 have := e2.le (m := 8) hx
 rw [kbx (by omega)]
 exact Runs.ret (H _ e2 this)
theorem kse {x : Nat} (hx : x < 18446744073709551616) {h : AH} : ∃ n : Nat, go (.fn F.kh0 [.int .u64 (x : Int)]) h = some (.int .i64 (n : Int), h) ∧ Bl x n := by
 have key : Runs (go (.fn F.kh0 [.int .u64 (x : Int)]) h) fun v h' => ∃ n : Nat, v = .int .i64 (n : Int) ∧ h' = h ∧ Bl x n := by
  rw [k1e]
  have s32 : ishr .u64 (x : Int) 32 = ((x / 2 ^ 32 : Nat) : Int) := kby x 32
  have s16 : ishr .u64 (x : Int) 16 = ((x / 2 ^ 16 : Nat) : Int) := kby x 16
  have s8 : ishr .u64 (x : Int) 8 = ((x / 2 ^ 8 : Nat) : Int) := kby x 8
  have s3216 : ishr .u64 ((x / 2 ^ 32 : Nat) : Int) 16 = ((x / 2 ^ 32 / 2 ^ 16 : Nat) : Int) := kby _ 16
  have s328 : ishr .u64 ((x / 2 ^ 32 : Nat) : Int) 8 = ((x / 2 ^ 32 / 2 ^ 8 : Nat) : Int) := kby _ 8
  have s168 : ishr .u64 ((x / 2 ^ 16 : Nat) : Int) 8 = ((x / 2 ^ 16 / 2 ^ 8 : Nat) : Int) := kby _ 8
  have s32168 : ishr .u64 ((x / 2 ^ 32 / 2 ^ 16 : Nat) : Int) 8 = ((x / 2 ^ 32 / 2 ^ 16 / 2 ^ 8 : Nat) : Int) := kby _ 8
  rw [s32, s3216, s32168, s328, s16, s168, s8]
  refine Runs.cond (fun k1 => ?_) (fun k1 => ?_)
  ·rw [decide_eq_true_eq] at k1
   refine Runs.cond (fun k2 => ?_) (fun k2 => ?_)
   ·rw [decide_eq_true_eq] at k2
    refine Runs.cond (fun k3 => ?_) (fun k3 => ?_)
    ·rw [decide_eq_true_eq] at k3
     refine kff (K := fun n => IntKind.wrap .i64 ((IntKind.wrap .i64 ((IntKind.wrap .i64 (32 + 16)) + 8)) + n)) (by omega) fun n b hn => ⟨32 + (16 + (8 + n)), ?_, rfl, ((b.up (by omega)).up (by omega)).up (by omega)⟩
     rw [show (IntKind.wrap .i64 ((IntKind.wrap .i64 (32 + 16)) + 8)) = 56 from by decide, wrap64 (by omega) (by omega)]
     congr 1
     omega
    ·rw [decide_eq_false_iff_not] at k3
     refine kff (K := fun n => IntKind.wrap .i64 ((IntKind.wrap .i64 (32 + 16)) + n)) (by omega) fun n b hn => ⟨32 + (16 + n), ?_, rfl, (b.up (by omega)).up (by omega)⟩
     rw [show (IntKind.wrap .i64 (32 + 16)) = 48 from by decide, wrap64 (by omega) (by omega)]
     congr 1
     omega
   ·rw [decide_eq_false_iff_not] at k2
    refine Runs.cond (fun k3 => ?_) (fun k3 => ?_)
    ·rw [decide_eq_true_eq] at k3
     refine kff (K := fun n => IntKind.wrap .i64 ((IntKind.wrap .i64 (32 + 8)) + n)) (by omega) fun n b hn => ⟨32 + (8 + n), ?_, rfl, (b.up (by omega)).up (by omega)⟩
     rw [show (IntKind.wrap .i64 (32 + 8)) = 40 from by decide, wrap64 (by omega) (by omega)]
     congr 1
     omega
    ·rw [decide_eq_false_iff_not] at k3
     refine kff (K := fun n => IntKind.wrap .i64 (32 + n)) (by omega) fun n b hn => ⟨32 + n, ?_, rfl, b.up (by omega)⟩
     rw [wrap64 (by omega) (by omega)]
     congr 1
  ·rw [decide_eq_false_iff_not] at k1
   refine Runs.cond (fun k2 => ?_) (fun k2 => ?_)
   ·rw [decide_eq_true_eq] at k2
    refine Runs.cond (fun k3 => ?_) (fun k3 => ?_)
    ·rw [decide_eq_true_eq] at k3
     refine kff (K := fun n => IntKind.wrap .i64 ((IntKind.wrap .i64 ((IntKind.wrap .i64 (0 + 16)) + 8)) + n)) (by omega) fun n b hn => ⟨16 + (8 + n), ?_, rfl, (b.up (by omega)).up (by omega)⟩
     rw [show (IntKind.wrap .i64 ((IntKind.wrap .i64 (0 + 16)) + 8)) = 24 from by decide, wrap64 (by omega) (by omega)]
     congr 1
     omega
    ·rw [decide_eq_false_iff_not] at k3
     refine kff (K := fun n => IntKind.wrap .i64 ((IntKind.wrap .i64 (0 + 16)) + n)) (by omega) fun n b hn => ⟨16 + n, ?_, rfl, b.up (by omega)⟩
     rw [show (IntKind.wrap .i64 (0 + 16)) = 16 from by decide, wrap64 (by omega) (by omega)]
     congr 1
   ·rw [decide_eq_false_iff_not] at k2
    refine Runs.cond (fun k3 => ?_) (fun k3 => ?_)
    ·rw [decide_eq_true_eq] at k3
     refine kff (K := fun n => IntKind.wrap .i64 ((IntKind.wrap .i64 (0 + 8)) + n)) (by omega) fun n b hn => ⟨8 + n, ?_, rfl, b.up (by omega)⟩
     rw [show (IntKind.wrap .i64 (0 + 8)) = 8 from by decide, wrap64 (by omega) (by omega)]
     congr 1
    ·rw [decide_eq_false_iff_not] at k3
     refine kff (K := fun n => IntKind.wrap .i64 (0 + n)) (by omega) fun n b hn => ⟨n, ?_, rfl, b⟩
     rw [wrap64 (by omega) (by omega)]
     congr 1
     omega
 obtain ⟨_, _, e, n, rfl, rfl, b⟩ := key
 exact ⟨n, e, b⟩
end Go.Ab

/- squeezed -/
set_option linter.unusedVariables false
set_option linter.unusedSimpArgs false
set_option maxRecDepth 10000
namespace Go.Ab
open Go.Proofs Go.Num
theorem Bl.uniq {x n m : Nat} (a : Bl x n) (b : Bl x m) : n = m := Nat.le_antisymm (a.le b.1) (b.le a.1)
theorem krx (a : Int) {h : AH} (ha : 0 ≤ a ∧ a < 18446744073709551616) : go (.fn F.kmn [.int .u64 a]) h = some (.int .i64 ((64 - bl a.toNat : Nat) : Int), h) := by
 obtain ⟨x, rfl⟩ : ∃ x : Nat, a = (x : Int) := ⟨a.toNat, by omega⟩
 obtain ⟨l, e, b⟩ := kse (x := x) (by omega) (h := h)
 have hl := b.le (m := 64) (show x < 2 ^ 64 by omega)
 have := b.uniq (bl_Bl x)
 subst this
 rw [k28, e, Option.bind_some, Option.bind_some, kb, Option.bind_some, Int.toNat_natCast, wrap64 (by omega) (by omega)]
 rw [show (64 : Int) - (bl x : Int) = ((64 - bl x : Nat) : Int) from by omega]
theorem ktr {x : Nat} (hx : x < 18446744073709551616) (h0 : 0 < x) : 64 - bl x ≤ 63 ∧ 9223372036854775808 ≤ x * 2 ^ (64 - bl x) ∧ x * 2 ^ (64 - bl x) < 18446744073709551616 := by
 have b := bl_Bl x
 generalize bl x = l at b
 have hl := b.le (m := 64) (show x < 2 ^ 64 by omega)
 have hl1 : 1 ≤ l := by
  rcases Nat.eq_zero_or_pos l with e | e
  ·subst e
   have := b.1
   rw [Nat.pow_zero] at this
   omega
  ·exact e
 refine ⟨by omega, ?_, ?_⟩
 ·rcases b.2 with h1 | h1
  ·omega
  ·have h2 : 2 ^ (l - 1) * 2 ^ (64 - l) ≤ x * 2 ^ (64 - l) := Nat.mul_le_mul_right _ h1
   rw [← Nat.pow_add, show l - 1 + (64 - l) = 63 from by omega] at h2
   exact h2
 ·have h2 : x * 2 ^ (64 - l) < 2 ^ l * 2 ^ (64 - l) := Nat.mul_lt_mul_of_pos_right b.1 (Nat.pow_pos (by decide))
  rw [← Nat.pow_add, show l + (64 - l) = 64 from by omega] at h2
  exact h2
theorem kj1 (x n : Nat) (hn : n ≤ 64) : ishl .u64 (x : Int) (n : Int) = ((x * 2 ^ n % 18446744073709551616 : Nat) : Int) := by
 unfold ishl
 rw [Int.toNat_natCast, show IntKind.bits .u64 = 64 from rfl, Nat.min_eq_left hn, wrapU]
 have : (x : Int) * (2 : Int) ^ n = ((x * 2 ^ n : Nat) : Int) := by simp
 rw [this]
 rfl
theorem kp5 {a c s : Nat} (h : a * 2 ^ s < 18446744073709551616) (hc : c < 2 ^ s) (hs : s ≤ 64) : ior .u64 ((a * 2 ^ s : Nat) : Int) (c : Int) = ((a * 2 ^ s + c : Nat) : Int) := by
 have p : 0 < 2 ^ s := Nat.pow_pos (by decide)
 have hc' : c < 18446744073709551616 := show c < 2 ^ 64 from Nat.lt_of_lt_of_le hc (Nat.pow_le_pow_right (by decide) hs)
 have hsum : a * 2 ^ s + c < 18446744073709551616 := by
  have e : 2 ^ (64 - s) * 2 ^ s = 18446744073709551616 := by rw [← Nat.pow_add, show 64 - s + s = 64 from by omega]
  have h1 : a < 2 ^ (64 - s) := Nat.lt_of_mul_lt_mul_right (a := 2 ^ s) (by rw [e]; exact h)
  have h2 : (a + 1) * 2 ^ s ≤ 2 ^ (64 - s) * 2 ^ s := Nat.mul_le_mul_right _ h1
  rw [e, Nat.add_mul, Nat.one_mul] at h2
  omega
 unfold ior
 rw [show IntKind.bits .u64 = 64 from rfl, wrapU]
 have e1 : BitVec.ofInt 64 ((a * 2 ^ s : Nat) : Int) = BitVec.ofNat 64 (a * 2 ^ s) := rfl
 have e2 : BitVec.ofInt 64 (c : Int) = BitVec.ofNat 64 c := rfl
 have e3 := Nat.shiftLeft_add_eq_or_of_lt hc a
 rw [Nat.shiftLeft_eq] at e3
 rw [e1, e2, BitVec.toNat_or, BitVec.toNat_ofNat, BitVec.toNat_ofNat, Nat.mod_eq_of_lt (show a * 2 ^ s < 2 ^ 64 from h), Nat.mod_eq_of_lt (show c < 2 ^ 64 from hc'), ← e3]
 omega
end Go.Ab

/- squeezed -/
set_option linter.unusedVariables false
set_option linter.unusedSimpArgs false
set_option maxRecDepth 10000
namespace Go.Ab
open Go.Proofs Go.Num
inductive kb7
 | fn (a1 : Int) (a2 : Int) (a3 : Int)
 | p3 (a1 : Int) (a2 : Int) (a3 : Int)
 | p17 (a1 : Int) (a2 : Int) (a3 : Int) (a4 : Int) (a5 : Int) (a6 : Int) (a7 : Int) (a8 : Int) (a9 : Int)
 | p24 (a1 : Int) (a2 : Int) (a3 : Int) (a4 : Int) (a5 : Int) (a6 : Int) (a7 : Int) (a8 : Int) (a9 : Int)
abbrev kbl := Int × Int
noncomputable def kjx (a1 : Int) (a2 : Int) (a3 : Int) : Option (kb7 ⊕ kbl) :=
 cond (decide (a3 = 0)) (none) (some (.inl (.p3 a1 a2 a3)))
noncomputable def kgp (a1 : Int) (a2 : Int) (a3 : Int) : Option (kb7 ⊕ kbl) :=
 cond (decide (a3 ≤ a1)) (none) (cond (decide (a1 = 0)) (cond (decide (a3 = 0)) (none) (cond (decide (a3 = 0)) (none) (some (.inr (IntKind.wrap .u64 (Int.tdiv a2 a3), Int.tmod a2 a3))))) ((need (0 ≤ a3 ∧ a3 < 18446744073709551616)).bind fun c6_0 => cond (decide ((IntKind.wrap .u64 (((64 - bl (Int.toNat a3) : Nat) : Int))) < 0)) (none) (cond (decide ((IntKind.wrap .u64 (((64 - bl (Int.toNat a3) : Nat) : Int))) < 0)) (none) (cond (decide ((IntKind.wrap .u64 (64 - (IntKind.wrap .u64 (((64 - bl (Int.toNat a3) : Nat) : Int))))) < 0)) (none) (cond (decide ((IntKind.wrap .u64 (((64 - bl (Int.toNat a3) : Nat) : Int))) < 0)) (none) (cond (decide ((ishr .u64 (ishl .u64 a3 (IntKind.wrap .u64 (((64 - bl (Int.toNat a3) : Nat) : Int)))) 32) = 0)) (none) (some (.inl (.p17 (ishl .u64 a3 (IntKind.wrap .u64 (((64 - bl (Int.toNat a3) : Nat) : Int)))) (IntKind.wrap .u64 (((64 - bl (Int.toNat a3) : Nat) : Int))) (ishr .u64 (ishl .u64 a3 (IntKind.wrap .u64 (((64 - bl (Int.toNat a3) : Nat) : Int)))) 32) (iand .u64 (ishl .u64 a3 (IntKind.wrap .u64 (((64 - bl (Int.toNat a3) : Nat) : Int)))) 4294967295) (ior .u64 (ishl .u64 a1 (IntKind.wrap .u64 (((64 - bl (Int.toNat a3) : Nat) : Int)))) (ishr .u64 a2 (IntKind.wrap .u64 (64 - (IntKind.wrap .u64 (((64 - bl (Int.toNat a3) : Nat) : Int))))))) (ishr .u64 (ishl .u64 a2 (IntKind.wrap .u64 (((64 - bl (Int.toNat a3) : Nat) : Int)))) 32) (iand .u64 (ishl .u64 a2 (IntKind.wrap .u64 (((64 - bl (Int.toNat a3) : Nat) : Int)))) 4294967295) (IntKind.wrap .u64 (Int.tdiv (ior .u64 (ishl .u64 a1 (IntKind.wrap .u64 (((64 - bl (Int.toNat a3) : Nat) : Int)))) (ishr .u64 a2 (IntKind.wrap .u64 (64 - (IntKind.wrap .u64 (((64 - bl (Int.toNat a3) : Nat) : Int))))))) (ishr .u64 (ishl .u64 a3 (IntKind.wrap .u64 (((64 - bl (Int.toNat a3) : Nat) : Int)))) 32))) (IntKind.wrap .u64 ((ior .u64 (ishl .u64 a1 (IntKind.wrap .u64 (((64 - bl (Int.toNat a3) : Nat) : Int)))) (ishr .u64 a2 (IntKind.wrap .u64 (64 - (IntKind.wrap .u64 (((64 - bl (Int.toNat a3) : Nat) : Int))))))) - (IntKind.wrap .u64 ((IntKind.wrap .u64 (Int.tdiv (ior .u64 (ishl .u64 a1 (IntKind.wrap .u64 (((64 - bl (Int.toNat a3) : Nat) : Int)))) (ishr .u64 a2 (IntKind.wrap .u64 (64 - (IntKind.wrap .u64 (((64 - bl (Int.toNat a3) : Nat) : Int))))))) (ishr .u64 (ishl .u64 a3 (IntKind.wrap .u64 (((64 - bl (Int.toNat a3) : Nat) : Int)))) 32))) * (ishr .u64 (ishl .u64 a3 (IntKind.wrap .u64 (((64 - bl (Int.toNat a3) : Nat) : Int)))) 32))))))))))))))
noncomputable def kew (a1 : Int) (a2 : Int) (a3 : Int) (a4 : Int) (a5 : Int) (a6 : Int) (a7 : Int) (a8 : Int) (a9 : Int) : Option (kb7 ⊕ kbl) :=
 cond (decide (a8 ≥ 4294967296)) (cond (decide ((IntKind.wrap .u64 (a9 + a3)) ≥ 4294967296)) (cond (decide (a3 = 0)) (none) (some (.inl (.p24 a1 a2 a3 a4 a7 (IntKind.wrap .u64 (a8 - 1)) (IntKind.wrap .u64 ((IntKind.wrap .u64 ((IntKind.wrap .u64 ((IntKind.wrap .u64 (a5 * 4294967296)) + a6)) - (IntKind.wrap .u64 ((IntKind.wrap .u64 (a8 - 1)) * a1)))) - (IntKind.wrap .u64 ((IntKind.wrap .u64 (Int.tdiv (IntKind.wrap .u64 ((IntKind.wrap .u64 ((IntKind.wrap .u64 (a5 * 4294967296)) + a6)) - (IntKind.wrap .u64 ((IntKind.wrap .u64 (a8 - 1)) * a1)))) a3)) * a3)))) (IntKind.wrap .u64 ((IntKind.wrap .u64 ((IntKind.wrap .u64 (a5 * 4294967296)) + a6)) - (IntKind.wrap .u64 ((IntKind.wrap .u64 (a8 - 1)) * a1)))) (IntKind.wrap .u64 (Int.tdiv (IntKind.wrap .u64 ((IntKind.wrap .u64 ((IntKind.wrap .u64 (a5 * 4294967296)) + a6)) - (IntKind.wrap .u64 ((IntKind.wrap .u64 (a8 - 1)) * a1)))) a3)))))) (some (.inl (.p17 a1 a2 a3 a4 a5 a6 a7 (IntKind.wrap .u64 (a8 - 1)) (IntKind.wrap .u64 (a9 + a3)))))) (cond (decide ((IntKind.wrap .u64 (a8 * a4)) > (IntKind.wrap .u64 ((IntKind.wrap .u64 (4294967296 * a9)) + a6)))) (cond (decide ((IntKind.wrap .u64 (a9 + a3)) ≥ 4294967296)) (cond (decide (a3 = 0)) (none) (some (.inl (.p24 a1 a2 a3 a4 a7 (IntKind.wrap .u64 (a8 - 1)) (IntKind.wrap .u64 ((IntKind.wrap .u64 ((IntKind.wrap .u64 ((IntKind.wrap .u64 (a5 * 4294967296)) + a6)) - (IntKind.wrap .u64 ((IntKind.wrap .u64 (a8 - 1)) * a1)))) - (IntKind.wrap .u64 ((IntKind.wrap .u64 (Int.tdiv (IntKind.wrap .u64 ((IntKind.wrap .u64 ((IntKind.wrap .u64 (a5 * 4294967296)) + a6)) - (IntKind.wrap .u64 ((IntKind.wrap .u64 (a8 - 1)) * a1)))) a3)) * a3)))) (IntKind.wrap .u64 ((IntKind.wrap .u64 ((IntKind.wrap .u64 (a5 * 4294967296)) + a6)) - (IntKind.wrap .u64 ((IntKind.wrap .u64 (a8 - 1)) * a1)))) (IntKind.wrap .u64 (Int.tdiv (IntKind.wrap .u64 ((IntKind.wrap .u64 ((IntKind.wrap .u64 (a5 * 4294967296)) + a6)) - (IntKind.wrap .u64 ((IntKind.wrap .u64 (a8 - 1)) * a1)))) a3)))))) (some (.inl (.p17 a1 a2 a3 a4 a5 a6 a7 (IntKind.wrap .u64 (a8 - 1)) (IntKind.wrap .u64 (a9 + a3)))))) (cond (decide (a3 = 0)) (none) (some (.inl (.p24 a1 a2 a3 a4 a7 a8 (IntKind.wrap .u64 ((IntKind.wrap .u64 ((IntKind.wrap .u64 ((IntKind.wrap .u64 (a5 * 4294967296)) + a6)) - (IntKind.wrap .u64 (a8 * a1)))) - (IntKind.wrap .u64 ((IntKind.wrap .u64 (Int.tdiv (IntKind.wrap .u64 ((IntKind.wrap .u64 ((IntKind.wrap .u64 (a5 * 4294967296)) + a6)) - (IntKind.wrap .u64 (a8 * a1)))) a3)) * a3)))) (IntKind.wrap .u64 ((IntKind.wrap .u64 ((IntKind.wrap .u64 (a5 * 4294967296)) + a6)) - (IntKind.wrap .u64 (a8 * a1)))) (IntKind.wrap .u64 (Int.tdiv (IntKind.wrap .u64 ((IntKind.wrap .u64 ((IntKind.wrap .u64 (a5 * 4294967296)) + a6)) - (IntKind.wrap .u64 (a8 * a1)))) a3)))))))
noncomputable def kej (a1 : Int) (a2 : Int) (a3 : Int) (a4 : Int) (a5 : Int) (a6 : Int) (a7 : Int) (a8 : Int) (a9 : Int) : Option (kb7 ⊕ kbl) :=
 cond (decide (a9 ≥ 4294967296)) (cond (decide ((IntKind.wrap .u64 (a7 + a3)) ≥ 4294967296)) (cond (decide (a2 < 0)) (none) (some (.inr (IntKind.wrap .u64 ((IntKind.wrap .u64 (a6 * 4294967296)) + (IntKind.wrap .u64 (a9 - 1))), ishr .u64 (IntKind.wrap .u64 ((IntKind.wrap .u64 ((IntKind.wrap .u64 (a8 * 4294967296)) + a5)) - (IntKind.wrap .u64 ((IntKind.wrap .u64 (a9 - 1)) * a1)))) a2)))) (some (.inl (.p24 a1 a2 a3 a4 a5 a6 (IntKind.wrap .u64 (a7 + a3)) a8 (IntKind.wrap .u64 (a9 - 1)))))) (cond (decide ((IntKind.wrap .u64 (a9 * a4)) > (IntKind.wrap .u64 ((IntKind.wrap .u64 (4294967296 * a7)) + a5)))) (cond (decide ((IntKind.wrap .u64 (a7 + a3)) ≥ 4294967296)) (cond (decide (a2 < 0)) (none) (some (.inr (IntKind.wrap .u64 ((IntKind.wrap .u64 (a6 * 4294967296)) + (IntKind.wrap .u64 (a9 - 1))), ishr .u64 (IntKind.wrap .u64 ((IntKind.wrap .u64 ((IntKind.wrap .u64 (a8 * 4294967296)) + a5)) - (IntKind.wrap .u64 ((IntKind.wrap .u64 (a9 - 1)) * a1)))) a2)))) (some (.inl (.p24 a1 a2 a3 a4 a5 a6 (IntKind.wrap .u64 (a7 + a3)) a8 (IntKind.wrap .u64 (a9 - 1)))))) (cond (decide (a2 < 0)) (none) (some (.inr (IntKind.wrap .u64 ((IntKind.wrap .u64 (a6 * 4294967296)) + a9), ishr .u64 (IntKind.wrap .u64 ((IntKind.wrap .u64 ((IntKind.wrap .u64 (a8 * 4294967296)) + a5)) - (IntKind.wrap .u64 (a9 * a1)))) a2)))))
noncomputable def kds : kb7 → Option (kb7 ⊕ kbl)
 | .fn a1 a2 a3 => kjx a1 a2 a3
 | .p3 a1 a2 a3 => kgp a1 a2 a3
 | .p17 a1 a2 a3 a4 a5 a6 a7 a8 a9 => kew a1 a2 a3 a4 a5 a6 a7 a8 a9
 | .p24 a1 a2 a3 a4 a5 a6 a7 a8 a9 => kej a1 a2 a3 a4 a5 a6 a7 a8 a9
@[reducible] def knv (h0 : AH) (r : kbl) (v : AV) (h' : AH) : Prop := v = .tup [.int .u64 r.1, .int .u64 r.2] ∧ Grow h0 h'
def ke4 (r : kbl) : kb7 → Prop
 | .fn a1 a2 a3 => ∀ {h : AH}, Runs (go (.fn F.kbj [.int .u64 a1, .int .u64 a2, .int .u64 a3]) h) (knv h r)
 | .p3 a1 a2 a3 => ∀ {h0 h : AH}, Grow h0 h → Runs (go (.pt F.kbj Td.kpc [(0, .int .u64 a1), (1, .int .u64 a2), (2, .int .u64 a3)]) h) (knv h0 r)
 | .p17 a1 a2 a3 a4 a5 a6 a7 a8 a9 => ∀ {h0 h : AH}, Grow h0 h → Runs (go (.pt F.kbj Td.kkf [(2, .int .u64 a1), (8, .int .u64 a2), (9, .int .u64 a3), (10, .int .u64 a4), (11, .int .u64 a5), (13, .int .u64 a6), (14, .int .u64 a7), (15, .int .u64 a8), (16, .int .u64 a9)]) h) (knv h0 r)
 | .p24 a1 a2 a3 a4 a5 a6 a7 a8 a9 => ∀ {h0 h : AH}, Grow h0 h → Runs (go (.pt F.kbj Td.kgi [(2, .int .u64 a1), (8, .int .u64 a2), (9, .int .u64 a3), (10, .int .u64 a4), (14, .int .u64 a5), (15, .int .u64 a6), (16, .int .u64 a7), (17, .int .u64 a8), (18, .int .u64 a9)]) h) (knv h0 r)
theorem kbav {r : kbl} {o : kb7 ⊕ kbl} {a1 : Int} {a2 : Int} {a3 : Int} (e : kjx a1 a2 a3 = some o) (good : GoodS (ke4 r) r o) : ke4 r (.fn a1 a2 a3) := by
 intro h
 rw [kzy]
 unfold kjx at e
 refine Runs.cond (fun k4 => ?_) (fun k4 => ?_)
 ·replace e := (condT k4).symm.trans e
  cases e
 ·replace e := (condF k4).symm.trans e
  cases e
  exact good (Grow.refl _)
theorem k0d {r : kbl} {o : kb7 ⊕ kbl} {a1 : Int} {a2 : Int} {a3 : Int} (e : kgp a1 a2 a3 = some o) (good : GoodS (ke4 r) r o) : ke4 r (.p3 a1 a2 a3) := by
 intro h0 h g0
 rw [k4p]
 unfold kgp at e
 refine Runs.cond (fun k4 => ?_) (fun k4 => ?_)
 ·replace e := (condT k4).symm.trans e
  cases e
 ·replace e := (condF k4).symm.trans e
  refine Runs.cond (fun k5 => ?_) (fun k5 => ?_)
  ·replace e := (condT k5).symm.trans e
   refine Runs.cond (fun k6 => ?_) (fun k6 => ?_)
   ·replace e := (condT k6).symm.trans e
    cases e
   ·replace e := (condF k6).symm.trans e
    refine Runs.cond (fun k7 => ?_) (fun k7 => ?_)
    ·replace e := (condT k7).symm.trans e
     cases e
    ·replace e := (condF k7).symm.trans e
     cases e
     cases good
     exact Runs.ret ⟨rfl, g0⟩
  ·replace e := (condF k5).symm.trans e
   obtain ⟨c6_0, q6_0, e⟩ := Option.bind_eq_some_iff.1 e
   refine Runs.step (krx a3  c6_0.down) ?_
   refine Runs.step (seen (kb _ _)) ?_
   refine Runs.cond (fun k7 => ?_) (fun k7 => ?_)
   ·replace e := (condT k7).symm.trans e
    cases e
   ·replace e := (condF k7).symm.trans e
    refine Runs.cond (fun k8 => ?_) (fun k8 => ?_)
    ·replace e := (condT k8).symm.trans e
     cases e
    ·replace e := (condF k8).symm.trans e
     refine Runs.cond (fun k9 => ?_) (fun k9 => ?_)
     ·replace e := (condT k9).symm.trans e
      cases e
     ·replace e := (condF k9).symm.trans e
      refine Runs.cond (fun k10 => ?_) (fun k10 => ?_)
      ·replace e := (condT k10).symm.trans e
       cases e
      ·replace e := (condF k10).symm.trans e
       refine Runs.cond (fun k11 => ?_) (fun k11 => ?_)
       ·replace e := (condT k11).symm.trans e
        cases e
       ·replace e := (condF k11).symm.trans e
        cases e
        exact good g0
theorem kyh {r : kbl} {o : kb7 ⊕ kbl} {a1 : Int} {a2 : Int} {a3 : Int} {a4 : Int} {a5 : Int} {a6 : Int} {a7 : Int} {a8 : Int} {a9 : Int} (e : kew a1 a2 a3 a4 a5 a6 a7 a8 a9 = some o) (good : GoodS (ke4 r) r o) : ke4 r (.p17 a1 a2 a3 a4 a5 a6 a7 a8 a9) := by
 intro h0 h g0
 rw [k9a]
 unfold kew at e
 refine Runs.cond (fun k10 => ?_) (fun k10 => ?_)
 ·replace e := (condT k10).symm.trans e
  refine Runs.cond (fun k11 => ?_) (fun k11 => ?_)
  ·replace e := (condT k11).symm.trans e
   refine Runs.cond (fun k12 => ?_) (fun k12 => ?_)
   ·replace e := (condT k12).symm.trans e
    cases e
   ·replace e := (condF k12).symm.trans e
    cases e
    exact good g0
  ·replace e := (condF k11).symm.trans e
   cases e
   exact good g0
 ·replace e := (condF k10).symm.trans e
  refine Runs.cond (fun k11 => ?_) (fun k11 => ?_)
  ·replace e := (condT k11).symm.trans e
   refine Runs.cond (fun k12 => ?_) (fun k12 => ?_)
   ·replace e := (condT k12).symm.trans e
    refine Runs.cond (fun k13 => ?_) (fun k13 => ?_)
    ·replace e := (condT k13).symm.trans e
     cases e
    ·replace e := (condF k13).symm.trans e
     cases e
     exact good g0
   ·replace e := (condF k12).symm.trans e
    cases e
    exact good g0
  ·replace e := (condF k11).symm.trans e
   refine Runs.cond (fun k12 => ?_) (fun k12 => ?_)
   ·replace e := (condT k12).symm.trans e
    cases e
   ·replace e := (condF k12).symm.trans e
    cases e
    exact good g0
theorem k4g {r : kbl} {o : kb7 ⊕ kbl} {a1 : Int} {a2 : Int} {a3 : Int} {a4 : Int} {a5 : Int} {a6 : Int} {a7 : Int} {a8 : Int} {a9 : Int} (e : kej a1 a2 a3 a4 a5 a6 a7 a8 a9 = some o) (good : GoodS (ke4 r) r o) : ke4 r (.p24 a1 a2 a3 a4 a5 a6 a7 a8 a9) := by
 intro h0 h g0
 rw [k3n]
 unfold kej at e
 refine Runs.cond (fun k10 => ?_) (fun k10 => ?_)
 ·replace e := (condT k10).symm.trans e
  refine Runs.cond (fun k11 => ?_) (fun k11 => ?_)
  ·replace e := (condT k11).symm.trans e
   refine Runs.cond (fun k12 => ?_) (fun k12 => ?_)
   ·replace e := (condT k12).symm.trans e
    cases e
   ·replace e := (condF k12).symm.trans e
    cases e
    cases good
    exact Runs.ret ⟨rfl, g0⟩
  ·replace e := (condF k11).symm.trans e
   cases e
   exact good g0
 ·replace e := (condF k10).symm.trans e
  refine Runs.cond (fun k11 => ?_) (fun k11 => ?_)
  ·replace e := (condT k11).symm.trans e
   refine Runs.cond (fun k12 => ?_) (fun k12 => ?_)
   ·replace e := (condT k12).symm.trans e
    refine Runs.cond (fun k13 => ?_) (fun k13 => ?_)
    ·replace e := (condT k13).symm.trans e
     cases e
    ·replace e := (condF k13).symm.trans e
     cases e
     cases good
     exact Runs.ret ⟨rfl, g0⟩
   ·replace e := (condF k12).symm.trans e
    cases e
    exact good g0
  ·replace e := (condF k11).symm.trans e
   refine Runs.cond (fun k12 => ?_) (fun k12 => ?_)
   ·replace e := (condT k12).symm.trans e
    cases e
   ·replace e := (condF k12).symm.trans e
    cases e
    cases good
    exact Runs.ret ⟨rfl, g0⟩
theorem k4f {s : kb7} {r : kbl} (it : Iter kds s r) : ke4 r s := Iter.ind (fun s o e good => by
 cases s with
 | fn a1 a2 a3 => exact @kbav _ _ a1 a2 a3 e good
 | p3 a1 a2 a3 => exact @k0d _ _ a1 a2 a3 e good
 | p17 a1 a2 a3 a4 a5 a6 a7 a8 a9 => exact @kyh _ _ a1 a2 a3 a4 a5 a6 a7 a8 a9 e good
 | p24 a1 a2 a3 a4 a5 a6 a7 a8 a9 => exact @k4g _ _ a1 a2 a3 a4 a5 a6 a7 a8 a9 e good
 ) it
end Go.Ab

/- squeezed -/
set_option linter.unusedVariables false
set_option linter.unusedSimpArgs false
set_option maxRecDepth 10000
namespace Go.Ab
open Go.Proofs Go.Num
theorem krj (a c : Nat) : Int.tdiv (a : Int) (c : Int) = ((a / c : Nat) : Int) := rfl
theorem kbct (a c : Nat) : Int.tmod (a : Int) (c : Int) = ((a % c : Nat) : Int) := rfl
def st24 (a1 a2 a3 a4 a5 a6 a7 q : Int) : kb7 :=
 .p24 a1 a2 a3 a4 a7 q (IntKind.wrap .u64 ((IntKind.wrap .u64 ((IntKind.wrap .u64 ((IntKind.wrap .u64 (a5 * 4294967296)) + a6)) - (IntKind.wrap .u64 (q * a1)))) - (IntKind.wrap .u64 ((IntKind.wrap .u64 (Int.tdiv (IntKind.wrap .u64 ((IntKind.wrap .u64 ((IntKind.wrap .u64 (a5 * 4294967296)) + a6)) - (IntKind.wrap .u64 (q * a1)))) a3)) * a3)))) (IntKind.wrap .u64 ((IntKind.wrap .u64 ((IntKind.wrap .u64 (a5 * 4294967296)) + a6)) - (IntKind.wrap .u64 (q * a1)))) (IntKind.wrap .u64 (Int.tdiv (IntKind.wrap .u64 ((IntKind.wrap .u64 ((IntKind.wrap .u64 (a5 * 4294967296)) + a6)) - (IntKind.wrap .u64 (q * a1)))) a3))
theorem un_eq {u32 u1 q v : Nat} (hq : q = (u32 * 4294967296 + u1) / v) (hv0 : 0 < v) (hv : v < 18446744073709551616) : IntKind.wrap .u64 ((IntKind.wrap .u64 ((IntKind.wrap .u64 ((u32 : Int) * 4294967296)) + (u1 : Int))) - (IntKind.wrap .u64 ((q : Int) * (v : Int)))) = (((u32 * 4294967296 + u1) % v : Nat) : Int) := by
 have h1 := Nat.div_add_mod (u32 * 4294967296 + u1) v
 have h2 := Nat.mod_lt (u32 * 4294967296 + u1) hv0
 rw [← hq, Nat.mul_comm] at h1
 rw [wrapU, wrapU, wrapU, wrapU, ← Int.natCast_mul]
 generalize q * v = t at *
 generalize (u32 * 4294967296 + u1) % v = m at *
 omega
theorem k7d {s v v1 v0 u32 u1 u0 q : Nat} (hq : q = (u32 * 4294967296 + u1) / v) (hv0 : 0 < v) (hv : v < 18446744073709551616) (h1 : 0 < v1) :
  st24 v s v1 v0 u32 u1 u0 q = .p24 v s v1 v0 u0 q (((u32 * 4294967296 + u1) % v % v1 : Nat) : Int) (((u32 * 4294967296 + u1) % v : Nat) : Int) (((u32 * 4294967296 + u1) % v / v1 : Nat) : Int) := by
 unfold st24
 rw [un_eq hq hv0 hv, krj]
 have h2 := Nat.mod_lt (u32 * 4294967296 + u1) hv0
 generalize (u32 * 4294967296 + u1) % v = m at *
 have h3 := Nat.div_le_self m v1
 rw [kb9 (n := m / v1) (by omega), ← Int.natCast_mul]
 have h4 := Nat.div_add_mod m v1
 rw [Nat.mul_comm] at h4
 have h5 := Nat.mod_lt m h1
 rw [wrapU, wrapU]
 have e : ((m : Int) - ((m / v1 * v1 : Nat) : Int) % 18446744073709551616) % 18446744073709551616 = ((m % v1 : Nat) : Int) := by
  generalize m / v1 * v1 = t at *
  generalize m % v1 = z at *
  omega
 rw [e]
theorem div17 {s v v1 v0 u32 u1 u0 : Nat} {res : kbl} (hv : v = v1 * 4294967296 + v0) (h1 : 0 < v1) (h1' : v1 < 4294967296) (h0 : v0 < 4294967296) (hu : u32 < v) (hu1 : u1 < 4294967296)
  (K : Iter kds (st24 v s v1 v0 u32 u1 u0 (((u32 * 4294967296 + u1) / v : Nat) : Int)) res) :
  ∀ (q r : Nat), q * v1 + r = u32 → (u32 * 4294967296 + u1) / v ≤ q → r < 4294967296 → q < 8589934592 → Iter kds (.p17 v s v1 v0 u32 u1 u0 q r) res
 | q, r, e, hge, hr, hq => by
  have hv' : v < 18446744073709551616 := by omega
  have less : (4294967296 ≤ q ∨ 4294967296 * r + u1 < q * v0) → ∃ o, Iter kds o res ∧
    cond (decide ((IntKind.wrap .u64 ((r : Int) + (v1 : Int))) ≥ 4294967296)) (cond (decide ((v1 : Int) = 0)) none (some (Sum.inl (β := kbl) (st24 v s v1 v0 u32 u1 u0 (IntKind.wrap .u64 ((q : Int) - 1)))))) (some (.inl (.p17 v s v1 v0 u32 u1 u0 (IntKind.wrap .u64 ((q : Int) - 1)) (IntKind.wrap .u64 ((r : Int) + (v1 : Int)))))) = some (.inl o) := by
   intro t
   obtain ⟨k1, k2⟩ := kn_hi hv hu hu1 rfl e hge t
   obtain ⟨p, rfl⟩ : ∃ p, q = p + 1 := ⟨q - 1, by omega⟩
   rw [Nat.add_sub_cancel] at k1
   have e' : p * v1 + (r + v1) = u32 := by
    rw [Nat.add_mul, Nat.one_mul] at e
    omega
   have w1 : IntKind.wrap .u64 (((p + 1 : Nat) : Int) - 1) = (p : Int) := by rw [wrapU]; omega
   have w2 : IntKind.wrap .u64 ((r : Int) + (v1 : Int)) = ((r + v1 : Nat) : Int) := by rw [wrapU]; omega
   rw [w1, w2]
   by_cases ho : 4294967296 ≤ r + v1
   ·have := kn_lo hv hu rfl e' k1 (kn_out hv h0 hu e' ho)
    rw [this] at K
    refine ⟨_, K, ?_⟩
    rw [condT (by rw [decide_eq_true_eq]; omega), condF (by rw [decide_eq_false_iff_not]; omega)]
   ·refine ⟨_, div17 hv h1 h1' h0 hu hu1 K p (r + v1) e' k1 (by omega) (by omega), ?_⟩
    rw [condF (by rw [decide_eq_false_iff_not]; omega)]
  by_cases c1 : 4294967296 ≤ q
  ·obtain ⟨o, k1, k2⟩ := less (.inl c1)
   refine .next ?_ k1
   show kew _ _ _ _ _ _ _ _ _ = _
   unfold kew
   rw [condT (by rw [decide_eq_true_eq]; omega)]
   exact k2
  ·have m1 : q * v0 ≤ 4294967295 * 4294967295 := Nat.mul_le_mul (by omega) (by omega)
   have w3 : IntKind.wrap .u64 ((q : Int) * (v0 : Int)) = ((q * v0 : Nat) : Int) := by
    rw [← Int.natCast_mul]
    exact kb9 (by omega)
   have w4 : IntKind.wrap .u64 ((IntKind.wrap .u64 (4294967296 * (r : Int))) + (u1 : Int)) = ((4294967296 * r + u1 : Nat) : Int) := by
    rw [wrapU, wrapU]
    omega
   by_cases c2 : 4294967296 * r + u1 < q * v0
   ·obtain ⟨o, k1, k2⟩ := less (.inr c2)
    refine .next ?_ k1
    show kew _ _ _ _ _ _ _ _ _ = _
    unfold kew
    rw [condF (by rw [decide_eq_false_iff_not]; omega), w3, w4, condT (by rw [decide_eq_true_eq]; omega)]
    exact k2
   ·have := kn_lo hv hu rfl e hge (by omega)
    rw [this] at K
    refine .next ?_ K
    show kew _ _ _ _ _ _ _ _ _ = _
    unfold kew
    rw [condF (by rw [decide_eq_false_iff_not]; omega), w3, w4, condF (by rw [decide_eq_false_iff_not]; omega), condF (by rw [decide_eq_false_iff_not]; omega)]
    rfl
termination_by q => q
def fin24 (a1 a2 a5 a6 a8 q : Int) : Option (kb7 ⊕ kbl) :=
 cond (decide (a2 < 0)) none (some (.inr (IntKind.wrap .u64 ((IntKind.wrap .u64 (a6 * 4294967296)) + q), ishr .u64 (IntKind.wrap .u64 ((IntKind.wrap .u64 ((IntKind.wrap .u64 (a8 * 4294967296)) + a5)) - (IntKind.wrap .u64 (q * a1)))) a2)))
theorem div24 {s v v1 v0 u32 u1 q1 : Nat} {res : kbl} (hv : v = v1 * 4294967296 + v0) (h1 : 0 < v1) (h1' : v1 < 4294967296) (h0 : v0 < 4294967296) (hu : u32 < v) (hu1 : u1 < 4294967296)
  (K : fin24 v s u1 q1 u32 (((u32 * 4294967296 + u1) / v : Nat) : Int) = some (.inr res)) :
  ∀ (q r : Nat), q * v1 + r = u32 → (u32 * 4294967296 + u1) / v ≤ q → r < 4294967296 → q < 8589934592 → Iter kds (.p24 v s v1 v0 u1 q1 r u32 q) res
 | q, r, e, hge, hr, hq => by
  have hv' : v < 18446744073709551616 := by omega
  have less : (4294967296 ≤ q ∨ 4294967296 * r + u1 < q * v0) → ∃ o, (o = Sum.inr res ∨ ∃ st, o = .inl st ∧ Iter kds st res) ∧
    cond (decide ((IntKind.wrap .u64 ((r : Int) + (v1 : Int))) ≥ 4294967296)) (fin24 v s u1 q1 u32 (IntKind.wrap .u64 ((q : Int) - 1))) (some (.inl (.p24 v s v1 v0 u1 q1 (IntKind.wrap .u64 ((r : Int) + (v1 : Int))) u32 (IntKind.wrap .u64 ((q : Int) - 1))))) = some o := by
   intro t
   obtain ⟨k1, k2⟩ := kn_hi hv hu hu1 rfl e hge t
   obtain ⟨p, rfl⟩ : ∃ p, q = p + 1 := ⟨q - 1, by omega⟩
   rw [Nat.add_sub_cancel] at k1
   have e' : p * v1 + (r + v1) = u32 := by
    rw [Nat.add_mul, Nat.one_mul] at e
    omega
   have w1 : IntKind.wrap .u64 (((p + 1 : Nat) : Int) - 1) = (p : Int) := by rw [wrapU]; omega
   have w2 : IntKind.wrap .u64 ((r : Int) + (v1 : Int)) = ((r + v1 : Nat) : Int) := by rw [wrapU]; omega
   rw [w1, w2]
   by_cases ho : 4294967296 ≤ r + v1
   ·have := kn_lo hv hu rfl e' k1 (kn_out hv h0 hu e' ho)
    rw [this] at K
    refine ⟨.inr res, .inl rfl, ?_⟩
    rw [condT (by rw [decide_eq_true_eq]; omega)]
    exact K
   ·refine ⟨_, .inr ⟨_, rfl, div24 hv h1 h1' h0 hu hu1 K p (r + v1) e' k1 (by omega) (by omega)⟩, ?_⟩
    rw [condF (by rw [decide_eq_false_iff_not]; omega)]
  have go_on : ∀ {st : kb7} {o : kb7 ⊕ kbl}, (o = Sum.inr res ∨ ∃ st, o = .inl st ∧ Iter kds st res) → kds st = some o → Iter kds st res := by
   intro st o h e
   rcases h with rfl | ⟨st', rfl, it⟩
   ·exact .done e
   ·exact .next e it
  by_cases c1 : 4294967296 ≤ q
  ·obtain ⟨o, k1, k2⟩ := less (.inl c1)
   refine go_on k1 ?_
   show kej _ _ _ _ _ _ _ _ _ = _
   unfold kej
   rw [condT (by rw [decide_eq_true_eq]; omega)]
   exact k2
  ·have m1 : q * v0 ≤ 4294967295 * 4294967295 := Nat.mul_le_mul (by omega) (by omega)
   have w3 : IntKind.wrap .u64 ((q : Int) * (v0 : Int)) = ((q * v0 : Nat) : Int) := by
    rw [← Int.natCast_mul]
    exact kb9 (by omega)
   have w4 : IntKind.wrap .u64 ((IntKind.wrap .u64 (4294967296 * (r : Int))) + (u1 : Int)) = ((4294967296 * r + u1 : Nat) : Int) := by
    rw [wrapU, wrapU]
    omega
   by_cases c2 : 4294967296 * r + u1 < q * v0
   ·obtain ⟨o, k1, k2⟩ := less (.inr c2)
    refine go_on k1 ?_
    show kej _ _ _ _ _ _ _ _ _ = _
    unfold kej
    rw [condF (by rw [decide_eq_false_iff_not]; omega), w3, w4, condT (by rw [decide_eq_true_eq]; omega)]
    exact k2
   ·have := kn_lo hv hu rfl e hge (by omega)
    rw [this] at K
    refine .done ?_
    show kej _ _ _ _ _ _ _ _ _ = _
    unfold kej
    rw [condF (by rw [decide_eq_false_iff_not]; omega), w3, w4, condF (by rw [decide_eq_false_iff_not]; omega)]
    exact K
termination_by q => q
end Go.Ab

/- squeezed -/
set_option linter.unusedVariables false
set_option linter.unusedSimpArgs false
set_option maxRecDepth 10000
namespace Go.Ab
open Go.Proofs Go.Num
theorem kzp {hi lo y s : Nat} (hy : y * 2 ^ s < 18446744073709551616) (hlo : lo < 18446744073709551616) (hhi : hi < y) (hs : s ≤ 63) :
  hi * 2 ^ s + lo / 2 ^ (64 - s) < y * 2 ^ s ∧ (hi * 2 ^ s + lo / 2 ^ (64 - s)) * 18446744073709551616 + lo * 2 ^ s % 18446744073709551616 = (hi * 18446744073709551616 + lo) * 2 ^ s ∧ lo / 2 ^ (64 - s) < 2 ^ s ∧ hi * 2 ^ s < 18446744073709551616 := by
 have p : 0 < 2 ^ s := Nat.pow_pos (by decide)
 have e : 2 ^ (64 - s) * 2 ^ s = 18446744073709551616 := by rw [← Nat.pow_add, show 64 - s + s = 64 from by omega]
 have k1 : lo / 2 ^ (64 - s) < 2 ^ s := by
  rw [Nat.div_lt_iff_lt_mul (Nat.pow_pos (by decide)), Nat.mul_comm, e]
  exact hlo
 have k2 : (hi + 1) * 2 ^ s ≤ y * 2 ^ s := Nat.mul_le_mul_right _ hhi
 rw [Nat.add_mul, Nat.one_mul] at k2
 refine ⟨by omega, ?_, k1, by omega⟩
 have k3 : lo * 2 ^ s / 18446744073709551616 = lo / 2 ^ (64 - s) := by
  rw [← e, Nat.mul_div_mul_right _ _ p]
 have k4 := Nat.div_add_mod (lo * 2 ^ s) 18446744073709551616
 rw [k3] at k4
 have k5 : hi * 18446744073709551616 * 2 ^ s = hi * 2 ^ s * 18446744073709551616 := Nat.mul_right_comm _ _ _
 rw [Nat.add_mul, Nat.add_mul, k5]
 omega
theorem k00 {z1 z2 : Nat} (h : z1 * 4294967296 + z2 < 18446744073709551616) : IntKind.wrap .u64 ((IntKind.wrap .u64 ((z1 : Int) * 4294967296)) + (z2 : Int)) = ((z1 * 4294967296 + z2 : Nat) : Int) := by
 rw [wrapU, wrapU]
 omega
theorem kyw {hi lo y : Nat} (hy : y < 18446744073709551616) (hlo : lo < 18446744073709551616) (hhi : hi < y) :
  Iter kds (.fn hi lo y) ((((hi * 18446744073709551616 + lo) / y : Nat) : Int), (((hi * 18446744073709551616 + lo) % y : Nat) : Int)) := by
 refine .next (s' := .p3 hi lo y) ?_ ?_
 ·show kjx _ _ _ = _
  unfold kjx
  rw [condF (by rw [decide_eq_false_iff_not]; omega)]
 by_cases h0 : hi = 0
 ·subst h0
  refine .done ?_
  show kgp _ _ _ = _
  unfold kgp
  have hd := Nat.div_le_self lo y
  rw [condF (by rw [decide_eq_false_iff_not]; omega), condT (by rfl), condF (by rw [decide_eq_false_iff_not]; omega), condF (by rw [decide_eq_false_iff_not]; omega), krj, kbct, kb9 (by omega), Nat.zero_mul, Nat.zero_add]
 obtain ⟨hs, hb1, hb2⟩ := ktr hy (by omega)
 have hs64 : 64 - bl y ≤ 64 := by omega
 obtain ⟨p1, p2, p3, p4⟩ := kzp hb2 hlo hhi hs
 have ws : IntKind.wrap .u64 ((64 - bl (Int.toNat (y : Int)) : Nat) : Int) = ((64 - bl y : Nat) : Int) := by rw [Int.toNat_natCast]; exact kb9 (by omega)
 have wt : IntKind.wrap .u64 (64 - ((64 - bl y : Nat) : Int)) = ((64 - (64 - bl y) : Nat) : Int) := by rw [wrapU]; omega
 generalize hsd : 64 - bl y = s at *
 have ey : ishl .u64 (y : Int) (s : Int) = ((y * 2 ^ s : Nat) : Int) := by rw [kj1 _ _ hs64, Nat.mod_eq_of_lt hb2]
 have eh : ishl .u64 (hi : Int) (s : Int) = ((hi * 2 ^ s : Nat) : Int) := by rw [kj1 _ _ hs64, Nat.mod_eq_of_lt p4]
 have el : ishl .u64 (lo : Int) (s : Int) = ((lo * 2 ^ s % 18446744073709551616 : Nat) : Int) := kj1 _ _ hs64
 have er : ishr .u64 (lo : Int) ((64 - s : Nat) : Int) = ((lo / 2 ^ (64 - s) : Nat) : Int) := by rw [kby, Nat.min_eq_left (by omega)]
 have eo := kp5 p4 p3 hs64
 generalize hu32 : hi * 2 ^ s + lo / 2 ^ (64 - s) = u32 at *
 have hl10 := Nat.mod_lt (lo * 2 ^ s) (show 0 < 18446744073709551616 by omega)
 generalize hl : lo * 2 ^ s % 18446744073709551616 = l10 at *
 generalize hv : y * 2 ^ s = v at *
 have e32 : ∀ x : Nat, ishr .u64 (x : Int) 32 = ((x / 4294967296 : Nat) : Int) := fun x => kby x 32
 have tot : u32 * 18446744073709551616 + l10 = (u32 * 4294967296 + l10 / 4294967296) * 4294967296 + l10 % 4294967296 := by omega
 have hvv : v = v / 4294967296 * 4294967296 + v % 4294967296 := by omega
 have hv0 : 0 < v := by omega
 have hv1 : 0 < v / 4294967296 := by omega
 have hv1' : v / 4294967296 < 4294967296 := by omega
 have hm0 : v % 4294967296 < 4294967296 := by omega
 have hu1 : l10 / 4294967296 < 4294967296 := by omega
 have hu0 : l10 % 4294967296 < 4294967296 := by omega
 have first : u32 / (v / 4294967296) < 8589934592 := by
  rw [Nat.div_lt_iff_lt_mul hv1]
  omega
 have hm := Nat.mod_lt (u32 * 4294967296 + l10 / 4294967296) hv0
 have first2 : (u32 * 4294967296 + l10 / 4294967296) % v / (v / 4294967296) < 8589934592 := by
  rw [Nat.div_lt_iff_lt_mul hv1]
  omega
 have td := k97 (w := u32 * 4294967296 + l10 / 4294967296) hv0 hu0
 rw [← tot, p2] at td
 have p := Nat.pow_pos (a := 2) (n := s) (by decide)
 rw [← hv, Nat.mul_div_mul_right _ _ p, Nat.mul_mod_mul_right, hv] at td
 refine .next (s' := .p17 v s (v / 4294967296 : Nat) (v % 4294967296 : Nat) u32 (l10 / 4294967296 : Nat) (l10 % 4294967296 : Nat) (u32 / (v / 4294967296) : Nat) (u32 % (v / 4294967296) : Nat)) ?_ ?_
 ·show kgp _ _ _ = _
  unfold kgp
  rw [condF (by rw [decide_eq_false_iff_not]; omega), condF (by rw [decide_eq_false_iff_not]; omega), ki (by omega), Option.bind_some, ws, wt, ey, eh, el, er, eo, e32, e32, ki4 (show v < _ by omega), ki4 (show l10 < _ by omega),
   condF (by rw [decide_eq_false_iff_not]; omega), condF (by rw [decide_eq_false_iff_not]; omega), condF (by rw [decide_eq_false_iff_not]; omega), condF (by rw [decide_eq_false_iff_not]; omega), condF (by rw [decide_eq_false_iff_not]; omega), krj]
  have d1 := Nat.div_add_mod u32 (v / 4294967296)
  have d2 := Nat.div_le_self u32 (v / 4294967296)
  rw [Nat.mul_comm] at d1
  rw [kb9 (n := u32 / (v / 4294967296)) (by omega), ← Int.natCast_mul]
  generalize u32 / (v / 4294967296) * (v / 4294967296) = z at *
  generalize u32 % (v / 4294967296) = z2 at *
  rw [kb9 (n := z) (by omega), show (u32 : Int) - (z : Int) = (z2 : Int) from by omega, kb9 (by omega)]
 ·refine div17 hvv hv1 hv1' hm0 p1 hu1 ?_ _ _ (by rw [Nat.mul_comm]; exact Nat.div_add_mod _ _) (kt8 hv1 hvv p1 hu1 rfl (by omega)) (Nat.lt_trans (Nat.mod_lt _ hv1) hv1') first
  rw [k7d rfl hv0 (by omega) hv1]
  refine div24 hvv hv1 hv1' hm0 hm hu0 ?_ _ _ (by rw [Nat.mul_comm]; exact Nat.div_add_mod _ _) (kt8 hv1 hvv hm hu0 rfl (by omega)) (Nat.lt_trans (Nat.mod_lt _ hv1) hv1') first2
  unfold fin24
  rw [condF (by rw [decide_eq_false_iff_not]; omega), un_eq rfl hv0 (by omega), ← td.2, kby, Nat.min_eq_left hs64, Nat.mul_div_cancel _ p]
  have hq : (hi * 18446744073709551616 + lo) / y < 18446744073709551616 := by
   rw [Nat.div_lt_iff_lt_mul (by omega)]
   have : (hi + 1) * 18446744073709551616 ≤ y * 18446744073709551616 := Nat.mul_le_mul_right _ hhi
   omega
  have w : IntKind.wrap .u64 ((IntKind.wrap .u64 ((((u32 * 4294967296 + l10 / 4294967296) / v : Nat) : Int) * 4294967296)) + ((((u32 * 4294967296 + l10 / 4294967296) % v * 4294967296 + l10 % 4294967296) / v : Nat) : Int)) = (((hi * 18446744073709551616 + lo) / y : Nat) : Int) := by
   rw [td.1] at hq ⊢
   exact k00 hq
  rw [w]
theorem k3q {hi lo y : Nat} (hy : y < 18446744073709551616) (hlo : lo < 18446744073709551616) (hhi : hi < y) {h : AH} : ∃ h', go (.fn F.kbj [.int .u64 (hi : Int), .int .u64 (lo : Int), .int .u64 (y : Int)]) h = some (.tup [.int .u64 (((hi * 18446744073709551616 + lo) / y : Nat) : Int), .int .u64 (((hi * 18446744073709551616 + lo) % y : Nat) : Int)], h') ∧ Grow h h' := by
 obtain ⟨_, h', e, rfl, g⟩ := k4f (kyw hy hlo hhi) (h := h)
 exact ⟨h', e, g⟩
end Go.Ab

/- squeezed -/
set_option linter.unusedVariables false
set_option linter.unusedSimpArgs false
set_option maxRecDepth 10000
namespace Go.Ab
open Go.Proofs Go.Num
def div64P (h l d : Int) : Option (Int × Int) := if 0 ≤ l ∧ l < 18446744073709551616 ∧ 0 ≤ h ∧ h < d ∧ d < 18446744073709551616 then some ((h * 18446744073709551616 + l) / d, (h * 18446744073709551616 + l) % d) else none
theorem kws {hi lo y : Nat} (hy : y < 18446744073709551616) (hlo : lo < 18446744073709551616) (hhi : hi < y) : div64P (hi : Int) (lo : Int) (y : Int) = some ((((hi * 18446744073709551616 + lo) / y : Nat) : Int), (((hi * 18446744073709551616 + lo) % y : Nat) : Int)) := by
 unfold div64P
 rw [if_pos (by omega)]
 rfl
theorem kvb {a b c : Int} {p : Int × Int} {h : AH} (q : div64P a b c = some p) : ∃ h', go (.fn F.kbj [.int .u64 a, .int .u64 b, .int .u64 c]) h = some (.tup [.int .u64 p.1, .int .u64 p.2], h') ∧ Grow h h' := by
 unfold div64P at q
 split at q
 ·rename_i hc
  cases q
  obtain ⟨hi, rfl⟩ : ∃ x : Nat, a = (x : Int) := ⟨a.toNat, by omega⟩
  obtain ⟨lo, rfl⟩ : ∃ x : Nat, b = (x : Int) := ⟨b.toNat, by omega⟩
  obtain ⟨y, rfl⟩ : ∃ x : Nat, c = (x : Int) := ⟨c.toNat, by omega⟩
  exact k3q (by omega) (by omega) (by omega)
 ·cases q
end Go.Ab

/- squeezed -/
set_option linter.unusedVariables false
set_option linter.unusedSimpArgs false
set_option maxRecDepth 10000
namespace Go.Ab
open Go.Proofs Go.Num
inductive kf3
 | fn (x1 : List Nat) (a2 : Int)
 | p4 (x1 : List Nat) (a2 : Int) (x3 : List Nat) (a4 : Int) (a5 : Int)
abbrev kd2 := List Nat × Int
noncomputable def kj6 (x1 : List Nat) (a2 : Int) : Option (kf3 ⊕ kd2) :=
 (mkI (List.length x1 : Int) (List.length x1 : Int)).bind fun m3 => some (.inl (.p4 x1 a2 (List.replicate m3 0) 0 (IntKind.wrap .i64 ((List.length x1 : Int) - 1))))
noncomputable def kge (x1 : List Nat) (a2 : Int) (x3 : List Nat) (a4 : Int) (a5 : Int) : Option (kf3 ⊕ kd2) :=
 cond (decide (a5 ≥ 0)) ((atI x1 a5).bind fun y7 => (div64P a4 ((y7 : Int)) a2).bind fun p8 => (inI (List.length x3) a5).bind fun j9 => (u64P (p8.1)).bind fun w10 => some (.inl (.p4 x1 a2 (List.set x3 j9 w10) (p8.2) (IntKind.wrap .i64 (a5 - 1))))) (some (.inr (digs B (num B x3), a4)))
noncomputable def kph : kf3 → Option (kf3 ⊕ kd2)
 | .fn x1 a2 => kj6 x1 a2
 | .p4 x1 a2 x3 a4 a5 => kge x1 a2 x3 a4 a5
@[reducible] def kv8 (h0 : AH) (r : kd2) (v : AV) (h' : AH) : Prop := ∃ s1 : Sl, v = .tup [s1.v, .int .u64 r.2] ∧ Nats h' s1 r.1 ∧ Grow h0 h' ∧ Own h0 s1
def kje (r : kd2) : kf3 → Prop
 | .fn x1 a2 => ∀ {h : AH} {a1 : Sl}, Nats h a1 x1 → Runs (go (.fn F.ker [a1.v, .int .u64 a2]) h) (kv8 h r)
 | .p4 x1 a2 x3 a4 a5 => ∀ {h0 h : AH} {a1 : Sl} {a3 : Sl} {i3 : Nat}, Grow h0 h → Nats h a1 x1 → Vec h a3 i3 x3 → h0.blks.size ≤ i3 → Av a1 i3 x1 → Runs (go (.pt F.ker Td.klt [(0, a1.v), (1, .int .u64 a2), (6, a3.v), (7, .int .u64 a4), (8, .int .i64 a5)]) h) (kv8 h0 r)
theorem kbcs {r : kd2} {o : kf3 ⊕ kd2} {x1 : List Nat} {a2 : Int} (e : kj6 x1 a2 = some o) (good : GoodS (kje r) r o) : kje r (.fn x1 a2) := by
 intro h a1 n1
 rw [k1m]
 unfold kj6 at e
 rw [n1.len]
 obtain ⟨m3, q3, e⟩ := Option.bind_eq_some_iff.1 e
 refine Runs.mk q3 kc8 fun s3 H3 v3 g3 => ?_
 cases e
 exact good g3 (n1.grow g3) v3 (Nat.le_refl _) (Av.of_base n1 (Nat.le_refl _))
theorem kbch {r : kd2} {o : kf3 ⊕ kd2} {x1 : List Nat} {a2 : Int} {x3 : List Nat} {a4 : Int} {a5 : Int} (e : kge x1 a2 x3 a4 a5 = some o) (good : GoodS (kje r) r o) : kje r (.p4 x1 a2 x3 a4 a5) := by
 intro h0 h a1 a3 i3 g0 n1 v3 hi3 av1_3
 rw [kba5]
 unfold kge at e
 rw [n1.len]
 rw [v3.nats.len]
 refine Runs.cond (fun k6 => ?_) (fun k6 => ?_)
 ·replace e := (condT k6).symm.trans e
  obtain ⟨y7, q7, e⟩ := Option.bind_eq_some_iff.1 e
  obtain ⟨r7, j7, l7⟩ := n1.atI q7
  refine Runs.step j7 ?_
  refine Runs.step (rdc l7 (kb _ _)) ?_
  obtain ⟨p8, q8, e⟩ := Option.bind_eq_some_iff.1 e
  obtain ⟨H8, e8, g8⟩ := kvb q8
  refine Runs.step e8 ?_
  refine Runs.step rfl ?_
  refine Runs.step (seen (kb _ _)) ?_
  refine Runs.step (seen (kb _ _)) ?_
  obtain ⟨j9, q9, e⟩ := Option.bind_eq_some_iff.1 e
  refine Runs.step ((v3.grow g8).idx rfl q9) ?_
  obtain ⟨w10, z10, e⟩ := Option.bind_eq_some_iff.1 e
  refine Runs.vput (v3.grow g8) rfl q9 z10 fun H10 v10 u10 => ?_
  have n1_10 := (n1.grow g8).upda av1_3 u10
  cases e
  exact good ((g0.trans g8).updr hi3 u10) n1_10 v10 hi3 av1_3
 ·replace e := (condF k6).symm.trans e
  obtain ⟨s7, e7, n7, o7⟩ := kc4 v3.nats
  refine Runs.step e7 ?_
  refine Runs.step (seen (asSl_v _)) ?_
  cases e
  cases good
  exact Runs.ret ⟨s7, rfl, n7, g0, ((o7 _ (v3.own hi3)).of_le (Grow.refl _))⟩
theorem k8x {s : kf3} {r : kd2} (it : Iter kph s r) : kje r s := Iter.ind (fun s o e good => by
 cases s with
 | fn x1 a2 => exact @kbcs _ _ x1 a2 e good
 | p4 x1 a2 x3 a4 a5 => exact @kbch _ _ x1 a2 x3 a4 a5 e good
 ) it
inductive kfg
 | fn (x1 : List Nat) (a2 : Int)
 | p3 (a1 : Int) (x2 : List Nat) (x3 : List Nat) (a4 : Int) (a5 : Int)
abbrev kda := List Nat
noncomputable def ki1 (x1 : List Nat) (a2 : Int) : Option (kfg ⊕ kda) :=
 (mkI (IntKind.wrap .i64 ((List.length x1 : Int) + 1)) (IntKind.wrap .i64 ((List.length x1 : Int) + 1))).bind fun m3 => some (.inl (.p3 a2 (List.replicate m3 0) x1 (List.length x1 : Int) 0))
noncomputable def ked (a1 : Int) (x2 : List Nat) (x3 : List Nat) (a4 : Int) (a5 : Int) : Option (kfg ⊕ kda) :=
 cond (decide (a5 < a4)) ((atI x3 a5).bind fun y7 => (inI (List.length x2) a5).bind fun j8 => cond (decide (a1 < 0)) (none) ((inI (List.length x2) a5).bind fun j10 => (u64P (ior .u64 (((List.getD x2 j8 0 : Nat) : Int)) (ishl .u64 ((y7 : Int)) a1))).bind fun w11 => cond (decide (a1 > 0)) (cond (decide ((IntKind.wrap .u64 (64 - a1)) < 0)) (none) ((inI (List.length x2) (IntKind.wrap .i64 (a5 + 1))).bind fun j14 => (u64P (ishr .u64 ((y7 : Int)) (IntKind.wrap .u64 (64 - a1)))).bind fun w15 => some (.inl (.p3 a1 (List.set (List.set x2 j10 w11) j14 w15) x3 a4 (IntKind.wrap .i64 (a5 + 1)))))) (some (.inl (.p3 a1 (List.set x2 j10 w11) x3 a4 (IntKind.wrap .i64 (a5 + 1))))))) (some (.inr x2))
noncomputable def kih : kfg → Option (kfg ⊕ kda)
 | .fn x1 a2 => ki1 x1 a2
 | .p3 a1 x2 x3 a4 a5 => ked a1 x2 x3 a4 a5
@[reducible] def kqz (h0 : AH) (r : kda) (v : AV) (h' : AH) : Prop := ∃ s1 : Sl, ∃ j1 : Nat, v = s1.v ∧ Vec h' s1 j1 r ∧ Grow h0 h' ∧ h0.blks.size ≤ j1
def kiv (r : kda) : kfg → Prop
 | .fn x1 a2 => ∀ {h : AH} {a1 : Sl}, Nats h a1 x1 → Runs (go (.fn F.kd6 [a1.v, .int .u64 a2]) h) (kqz h r)
 | .p3 a1 x2 x3 a4 a5 => ∀ {h0 h : AH} {a2 : Sl} {a3 : Sl} {i2 : Nat}, Grow h0 h → Vec h a2 i2 x2 → Nats h a3 x3 → h0.blks.size ≤ i2 → Av a3 i2 x3 → Runs (go (.pt F.kd6 Td.kkr [(1, .int .u64 a1), (5, a2.v), (12, a3.v), (13, .int .i64 a4), (14, .int .i64 a5)]) h) (kqz h0 r)
theorem k5l {r : kda} {o : kfg ⊕ kda} {x1 : List Nat} {a2 : Int} (e : ki1 x1 a2 = some o) (good : GoodS (kiv r) r o) : kiv r (.fn x1 a2) := by
 intro h a1 n1
 rw [k87]
 unfold ki1 at e
 rw [n1.len]
 obtain ⟨m3, q3, e⟩ := Option.bind_eq_some_iff.1 e
 refine Runs.mk q3 kc8 fun s3 H3 v3 g3 => ?_
 cases e
 exact good g3 v3 (n1.grow g3) (Nat.le_refl _) (Av.of_base n1 (Nat.le_refl _))
theorem k4u {r : kda} {o : kfg ⊕ kda} {a1 : Int} {x2 : List Nat} {x3 : List Nat} {a4 : Int} {a5 : Int} (e : ked a1 x2 x3 a4 a5 = some o) (good : GoodS (kiv r) r o) : kiv r (.p3 a1 x2 x3 a4 a5) := by
 intro h0 h a2 a3 i2 g0 v2 n3 hi2 av3_2
 rw [kxo]
 unfold ked at e
 rw [v2.nats.len]
 rw [n3.len]
 refine Runs.cond (fun k6 => ?_) (fun k6 => ?_)
 ·replace e := (condT k6).symm.trans e
  obtain ⟨y7, q7, e⟩ := Option.bind_eq_some_iff.1 e
  obtain ⟨r7, j7, l7⟩ := n3.atI q7
  refine Runs.step j7 ?_
  refine Runs.step (rdc l7 (kb _ _)) ?_
  obtain ⟨j8, q8, e⟩ := Option.bind_eq_some_iff.1 e
  refine Runs.step (v2.idx rfl q8) ?_
  refine Runs.step (v2.rd rfl q8 (kb _ _)) ?_
  refine Runs.cond (fun k9 => ?_) (fun k9 => ?_)
  ·replace e := (condT k9).symm.trans e
   cases e
  ·replace e := (condF k9).symm.trans e
   obtain ⟨j10, q10, e⟩ := Option.bind_eq_some_iff.1 e
   refine Runs.step (v2.idx rfl q10) ?_
   obtain ⟨w11, z11, e⟩ := Option.bind_eq_some_iff.1 e
   refine Runs.vput v2 rfl q10 z11 fun H11 v11 u11 => ?_
   have n3_11 := n3.upda av3_2 u11
   refine Runs.cond (fun k12 => ?_) (fun k12 => ?_)
   ·replace e := (condT k12).symm.trans e
    refine Runs.cond (fun k13 => ?_) (fun k13 => ?_)
    ·replace e := (condT k13).symm.trans e
     cases e
    ·replace e := (condF k13).symm.trans e
     obtain ⟨j14, q14, e⟩ := Option.bind_eq_some_iff.1 e
     refine Runs.step (v11.idx (by simp only [List.length_set]) q14) ?_
     obtain ⟨w15, z15, e⟩ := Option.bind_eq_some_iff.1 e
     refine Runs.vput v11 (by simp only [List.length_set]) q14 z15 fun H15 v15 u15 => ?_
     have n3_15 := n3_11.upda av3_2 u15
     cases e
     exact good ((g0.updr hi2 u11).updr hi2 u15) v15 n3_15 hi2 av3_2
   ·replace e := (condF k12).symm.trans e
    cases e
    exact good (g0.updr hi2 u11) v11 n3_11 hi2 av3_2
 ·replace e := (condF k6).symm.trans e
  cases e
  cases good
  exact Runs.ret ⟨a2, i2, rfl, v2, g0, hi2⟩
theorem kbbv {s : kfg} {r : kda} (it : Iter kih s r) : kiv r s := Iter.ind (fun s o e good => by
 cases s with
 | fn x1 a2 => exact @k5l _ _ x1 a2 e good
 | p3 a1 x2 x3 a4 a5 => exact @k4u _ _ a1 x2 x3 a4 a5 e good
 ) it
theorem ksl {h : AH} {a1 : Sl} {x1 : List Nat} {a2 : Int} (n1 : Nats h a1 x1) {r : kda} (q : runP kih (.fn x1 a2) = some r) : Runs (go (.fn F.kd6 [a1.v, .int .u64 a2]) h) (kqz h r) := kbbv (kh4 q) n1
inductive kev
 | fn (a1 : Int) (a2 : Int) (a3 : Int) (a4 : Int) (a5 : Int)
 | p4 (a1 : Int) (a2 : Int) (a3 : Int) (a4 : Int) (a5 : Int)
abbrev kc7 := Int
noncomputable def kg5 (a1 : Int) (a2 : Int) (a3 : Int) (a4 : Int) (a5 : Int) : Option (kev ⊕ kc7) :=
 cond (decide (a1 ≥ a4)) (some (.inr 18446744073709551615)) ((div64P a1 a2 a4).bind fun p7 => some (.inl (.p4 a3 a4 a5 (p7.1) (p7.2))))
noncomputable def ke5 (a1 : Int) (a2 : Int) (a3 : Int) (a4 : Int) (a5 : Int) : Option (kev ⊕ kc7) :=
 cond (decide (((mul64 a4 a3).1) < a5)) (some (.inr a4)) (cond (decide (((mul64 a4 a3).1) = a5)) (cond (decide (((mul64 a4 a3).2) ≤ a1)) (some (.inr a4)) (cond (decide ((IntKind.wrap .u64 (a5 + a2)) < a5)) (some (.inr (IntKind.wrap .u64 (a4 - 1)))) (some (.inl (.p4 a1 a2 a3 (IntKind.wrap .u64 (a4 - 1)) (IntKind.wrap .u64 (a5 + a2))))))) (cond (decide ((IntKind.wrap .u64 (a5 + a2)) < a5)) (some (.inr (IntKind.wrap .u64 (a4 - 1)))) (some (.inl (.p4 a1 a2 a3 (IntKind.wrap .u64 (a4 - 1)) (IntKind.wrap .u64 (a5 + a2)))))))
noncomputable def khr : kev → Option (kev ⊕ kc7)
 | .fn a1 a2 a3 a4 a5 => kg5 a1 a2 a3 a4 a5
 | .p4 a1 a2 a3 a4 a5 => ke5 a1 a2 a3 a4 a5
@[reducible] def krc (h0 : AH) (r : kc7) (v : AV) (h' : AH) : Prop := v = .int .u64 r ∧ Grow h0 h'
def kj4 (r : kc7) : kev → Prop
 | .fn a1 a2 a3 a4 a5 => ∀ {h : AH}, Runs (go (.fn F.ke1 [.int .u64 a1, .int .u64 a2, .int .u64 a3, .int .u64 a4, .int .u64 a5]) h) (krc h r)
 | .p4 a1 a2 a3 a4 a5 => ∀ {h0 h : AH}, Grow h0 h → Runs (go (.pt F.ke1 Td.kkm [(2, .int .u64 a1), (3, .int .u64 a2), (4, .int .u64 a3), (11, .int .u64 a4), (12, .int .u64 a5)]) h) (krc h0 r)
theorem k4d {r : kc7} {o : kev ⊕ kc7} {a1 : Int} {a2 : Int} {a3 : Int} {a4 : Int} {a5 : Int} (e : kg5 a1 a2 a3 a4 a5 = some o) (good : GoodS (kj4 r) r o) : kj4 r (.fn a1 a2 a3 a4 a5) := by
 intro h
 rw [k4y]
 unfold kg5 at e
 refine Runs.cond (fun k6 => ?_) (fun k6 => ?_)
 ·replace e := (condT k6).symm.trans e
  cases e
  cases good
  exact Runs.ret ⟨rfl, (Grow.refl _)⟩
 ·replace e := (condF k6).symm.trans e
  obtain ⟨p7, q7, e⟩ := Option.bind_eq_some_iff.1 e
  obtain ⟨H7, e7, g7⟩ := kvb q7
  refine Runs.step e7 ?_
  refine Runs.step rfl ?_
  refine Runs.step (seen (kb _ _)) ?_
  refine Runs.step (seen (kb _ _)) ?_
  cases e
  exact good g7
theorem k3x {r : kc7} {o : kev ⊕ kc7} {a1 : Int} {a2 : Int} {a3 : Int} {a4 : Int} {a5 : Int} (e : ke5 a1 a2 a3 a4 a5 = some o) (good : GoodS (kj4 r) r o) : kj4 r (.p4 a1 a2 a3 a4 a5) := by
 intro h0 h g0
 rw [k4l]
 unfold ke5 at e
 refine Runs.step (kvl a4 a3) ?_
 refine Runs.step rfl ?_
 refine Runs.step (seen (kb _ _)) ?_
 refine Runs.step (seen (kb _ _)) ?_
 refine Runs.cond (fun k7 => ?_) (fun k7 => ?_)
 ·replace e := (condT k7).symm.trans e
  cases e
  cases good
  exact Runs.ret ⟨rfl, g0⟩
 ·replace e := (condF k7).symm.trans e
  refine Runs.cond (fun k8 => ?_) (fun k8 => ?_)
  ·replace e := (condT k8).symm.trans e
   refine Runs.cond (fun k9 => ?_) (fun k9 => ?_)
   ·replace e := (condT k9).symm.trans e
    cases e
    cases good
    exact Runs.ret ⟨rfl, g0⟩
   ·replace e := (condF k9).symm.trans e
    refine Runs.cond (fun k10 => ?_) (fun k10 => ?_)
    ·replace e := (condT k10).symm.trans e
     cases e
     cases good
     exact Runs.ret ⟨rfl, g0⟩
    ·replace e := (condF k10).symm.trans e
     cases e
     exact good g0
  ·replace e := (condF k8).symm.trans e
   refine Runs.cond (fun k9 => ?_) (fun k9 => ?_)
   ·replace e := (condT k9).symm.trans e
    cases e
    cases good
    exact Runs.ret ⟨rfl, g0⟩
   ·replace e := (condF k9).symm.trans e
    cases e
    exact good g0
theorem k0r {s : kev} {r : kc7} (it : Iter khr s r) : kj4 r s := Iter.ind (fun s o e good => by
 cases s with
 | fn a1 a2 a3 a4 a5 => exact @k4d _ _ a1 a2 a3 a4 a5 e good
 | p4 a1 a2 a3 a4 a5 => exact @k3x _ _ a1 a2 a3 a4 a5 e good
 ) it
theorem kxk {h : AH}  {a1 : Int} {a2 : Int} {a3 : Int} {a4 : Int} {a5 : Int}  {r : kc7} (q : runP khr (.fn a1 a2 a3 a4 a5) = some r) : Runs (go (.fn F.ke1 [.int .u64 a1, .int .u64 a2, .int .u64 a3, .int .u64 a4, .int .u64 a5]) h) (krc h r) := k0r (kh4 q)
end Go.Ab

/- squeezed -/
set_option linter.unusedVariables false
set_option linter.unusedSimpArgs false
set_option maxRecDepth 10000
namespace Go.Ab
open Go.Proofs Go.Num
def padD (b : Nat) : Nat → Nat → List Nat
 | 0, _ => []
 | k + 1, n => n % b :: padD b k (n / b)
theorem kpm (b : Nat) : ∀ k n, (padD b k n).length = k
 | 0, _ => rfl
 | k + 1, n => by simp [padD, kpm b k]
theorem ksq {b : Nat} (hb : 0 < b) : ∀ k n, ∀ x ∈ padD b k n, x < b
 | 0, _ => by simp [padD]
 | k + 1, n => by
  intro x hx
  rcases List.mem_cons.1 hx with rfl | hx
  ·exact Nat.mod_lt _ hb
  ·exact ksq hb k _ x hx
theorem kuo {b : Nat} (hb : 0 < b) : ∀ (k n : Nat), n < b ^ k → num b (padD b k n) = n
 | 0, n, h => by
  rw [Nat.pow_zero] at h
  have : n = 0 := by omega
  subst this
  rfl
 | k + 1, n, h => by
  rw [padD, num, kuo hb k (n / b) (by rw [Nat.div_lt_iff_lt_mul hb, ← Nat.pow_succ]; exact h)]
  exact Nat.mod_add_div n b
theorem kwv {b : Nat} (hb : 0 < b) : ∀ {zs : List Nat}, (∀ x ∈ zs, x < b) → padD b zs.length (num b zs) = zs
 | [], _ => rfl
 | z :: zs, h => by
  have hz := h z (by simp)
  rw [List.length_cons, padD, num, Nat.add_mul_mod_self_left, Nat.mod_eq_of_lt hz, Nat.add_mul_div_left _ _ hb, Nat.div_eq_of_lt hz, Nat.zero_add, kwv hb fun x hx => h x (by simp [hx])]
theorem Sl.v_inj {s t : Sl} (e : s.v = t.v) : s = t := by
 cases s; cases t
 simp only [Sl.v, AV.slice.injEq] at e
 simp only [Sl.mk.injEq]
 exact e
theorem kwa {h : AH} {s : Sl} {xs : List Nat} (n : Nats h s xs) {i : Nat} (b : InB s i) : ∀ (k : Nat), k ≤ xs.length → ∃ s', go (.pt F.kbe Td.kko [(0, s.v), (3, .int .i64 (k : Int))]) h = some (s'.v, h) ∧ InB s' i
 | 0, hk => by
  rw [kk6]
  obtain ⟨s', e1, _, _⟩ := n.cut (l := 0) (n := 0) (Nat.le_refl _) hk
  have b' := b.cut e1
  simp at e1
  simp only [Int.natCast_zero, gt_iff_lt, Int.lt_irrefl, decide_false, cond_false, e1, Option.bind_some]
  exact ⟨s', rfl, b'⟩
 | k + 1, hk => by
  rw [kk6]
  obtain ⟨r, e1, e2⟩ := n.at (i := k) (by omega)
  have hs := n.short
  rw [kmh (by omega)]
  rw [show (decide (((k + 1 : Nat) : Int) > 0)) = true from by rw [decide_eq_true_eq]; omega]
  simp only [cond_true, e1, e2, Option.bind_some, kb]
  by_cases hx : xs[k] = 0
  ·rw [hx, show (decide (((0 : Nat) : Int) = 0)) = true from rfl, cond_true]
   exact kwa n b k (by omega)
  ·obtain ⟨s', e3, _, _⟩ := n.cut (l := 0) (n := k + 1) (by omega) hk
   rw [show (decide (((xs[k] : Nat) : Int) = 0)) = false from by rw [decide_eq_false_iff_not]; omega]
   simp only [cond_false]
   rw [show cutSl s 0 ((k + 1 : Nat) : Int) 1 = some s' from e3]
   exact ⟨s', rfl, b.cut e3⟩
theorem kl1 {h : AH} {s : Sl} {i : Nat} {xs : List Nat} (v : Vec h s i xs) : ∃ s', go (.fn F.kbe [s.v]) h = some (s'.v, h) ∧ Nats h s' (digs B (num B xs)) ∧ InB s' i := by
 obtain ⟨s', e, n, _⟩ := kc4 v.nats
 obtain ⟨s2, e2, b⟩ := kwa v.nats v.inB xs.length (Nat.le_refl _)
 rw [kn6, v.len, e2] at e
 have : s2 = s' := Sl.v_inj (Prod.mk.inj (Option.some.inj e)).1
 subst this
 exact ⟨s2, by rw [kn6, v.len, e2], n, b⟩
theorem B0 : 0 < B := by decide
theorem ko7 {a : Int} {x : Nat} {h : AH} (q : u64P a = some x) : ∃ (s' : Sl) (h' : AH), go (.fn F.ke7 [.int .u64 a]) h = some (s'.v, h') ∧ Nats h' s' (digs B x) ∧ Grow h h' ∧ Own h s' := by
 obtain ⟨rfl, hx⟩ := kki q
 exact kw3 hx
theorem k2i {h : AH} {s t : Sl} {xs ys : List Nat} (n : Nats h s xs) (m : Nats h t ys) (c : xs.length ≤ 1073741824 ∧ ys.length ≤ xs.length ∧ num B ys ≤ num B xs) :
  ∃ (s' : Sl) (h' : AH), go (.fn F.kct [s.v, t.v]) h = some (s'.v, h') ∧ Nats h' s' (padD B xs.length (num B xs - num B ys)) ∧ Grow h h' ∧ Own h s' := by
 obtain ⟨s', h', zs, e, n', g, o, v, l⟩ := kna n m c.1 c.2.1 c.2.2
 refine ⟨s', h', e, ?_, g, o⟩
 rw [← v, ← l, kwv B0 n'.lt]
 exact n'
end Go.Ab

/- squeezed -/
set_option linter.unusedVariables false
set_option linter.unusedSimpArgs false
set_option maxRecDepth 10000
namespace Go.Ab
open Go.Proofs Go.Num
inductive kc2
 | fn (x1 : List Nat) (x2 : List Nat)
 | p6 (a1 : Int) (x2 : List Nat) (x3 : List Nat) (a4 : Int) (x5 : List Nat) (a6 : Int)
 | p10 (a1 : Int) (x2 : List Nat) (x3 : List Nat) (a4 : Int) (x5 : List Nat) (a6 : Int) (a7 : Int) (x8 : Nat × Nat)
 | p18 (a1 : Int) (x2 : List Nat) (x3 : List Nat) (x4 : List Nat) (a5 : Int) (a6 : Int)
abbrev kb4 := List Nat × List Nat
noncomputable def kis (x1 : List Nat) (x2 : List Nat) : Option (kc2 ⊕ kb4) :=
 (atI x2 (IntKind.wrap .i64 ((List.length x2 : Int) - 1))).bind fun y3 => (need (0 ≤ ((y3 : Int)) ∧ ((y3 : Int)) < 18446744073709551616)).bind fun c4_0 => (runP kih (.fn x1 (IntKind.wrap .u64 (((64 - bl (Int.toNat ((y3 : Int))) : Nat) : Int))))).bind fun p5 => (runP kih (.fn x2 (IntKind.wrap .u64 (((64 - bl (Int.toNat ((y3 : Int))) : Nat) : Int))))).bind fun p6 => (mkI (IntKind.wrap .i64 ((List.length p5 : Int) - (List.length (digs B (num B p6)) : Int))) (IntKind.wrap .i64 ((List.length p5 : Int) - (List.length (digs B (num B p6)) : Int)))).bind fun m8 => some (.inl (.p6 (IntKind.wrap .u64 (((64 - bl (Int.toNat ((y3 : Int))) : Nat) : Int))) p5 (digs B (num B p6)) (List.length (digs B (num B p6)) : Int) (List.replicate m8 0) (IntKind.wrap .i64 ((List.length (List.replicate m8 0) : Int) - 1))))
noncomputable def khd (a1 : Int) (x2 : List Nat) (x3 : List Nat) (a4 : Int) (x5 : List Nat) (a6 : Int) : Option (kc2 ⊕ kb4) :=
 cond (decide (a6 ≥ 0)) ((inI (List.length x2) (IntKind.wrap .i64 (a6 + a4))).bind fun j8 => (inI (List.length x2) (IntKind.wrap .i64 ((IntKind.wrap .i64 (a6 + a4)) - 1))).bind fun j9 => (inI (List.length x2) (IntKind.wrap .i64 ((IntKind.wrap .i64 (a6 + a4)) - 2))).bind fun j10 => (atI x3 (IntKind.wrap .i64 (a4 - 1))).bind fun y11 => (atI x3 (IntKind.wrap .i64 (a4 - 2))).bind fun y12 => (runP khr (.fn (((List.getD x2 j8 0 : Nat) : Int)) (((List.getD x2 j9 0 : Nat) : Int)) (((List.getD x2 j10 0 : Nat) : Int)) ((y11 : Int)) ((y12 : Int)))).bind fun p13 => (cutP (List.length x2) a6 (IntKind.wrap .i64 ((IntKind.wrap .i64 (a6 + a4)) + 1))).bind fun p14 => some (.inl (.p10 a1 x2 x3 a4 x5 a6 p13 (p14.1, p14.2)))) ((mkI (List.length (digs B (num B x2)) : Int) (List.length (digs B (num B x2)) : Int)).bind fun m9 => some (.inl (.p18 a1 x5 (digs B (num B x2)) (List.replicate m9 0) (List.length (digs B (num B x2)) : Int) 0)))
noncomputable def kgr (a1 : Int) (x2 : List Nat) (x3 : List Nat) (a4 : Int) (x5 : List Nat) (a6 : Int) (a7 : Int) (x8 : Nat × Nat) : Option (kc2 ⊕ kb4) :=
 (u64P a7).bind fun p9 => (need (List.length x3 + List.length (digs B p9) ≤ 8796093022208)).bind fun c10_0 => (need (List.length (List.take x8.2 (List.drop x8.1 x2)) ≤ 8796093022208)).bind fun c11_0 => (need (Trim (digs B (num B (List.take x8.2 (List.drop x8.1 x2)))))).bind fun c13_0 => (need (Trim (digs B (num B x3 * num B (digs B p9))))).bind fun c13_1 => cond (decide ((cmp (num B (digs B (num B (List.take x8.2 (List.drop x8.1 x2))))) (num B (digs B (num B x3 * num B (digs B p9))))) ≥ 0)) ((need (List.length (List.take x8.2 (List.drop x8.1 x2)) ≤ 1073741824 ∧ List.length (digs B (num B x3 * num B (digs B p9))) ≤ List.length (List.take x8.2 (List.drop x8.1 x2)) ∧ num B (digs B (num B x3 * num B (digs B p9))) ≤ num B (List.take x8.2 (List.drop x8.1 x2)))).bind fun c15_0 => (setW x2 x8.1 x8.2 (padD B (List.length (List.take x8.2 (List.drop x8.1 x2))) (num B (List.take x8.2 (List.drop x8.1 x2)) - num B (digs B (num B x3 * num B (digs B p9)))))).bind fun y16 => (inI (List.length x5) a6).bind fun j17 => (u64P a7).bind fun w18 => some (.inl (.p6 a1 y16 x3 a4 (List.set x5 j17 w18) (IntKind.wrap .i64 (a6 - 1))))) (some (.inl (.p10 a1 x2 x3 a4 x5 a6 (IntKind.wrap .u64 (a7 - 1)) (x8.1, x8.2))))
noncomputable def kdh (a1 : Int) (x2 : List Nat) (x3 : List Nat) (x4 : List Nat) (a5 : Int) (a6 : Int) : Option (kc2 ⊕ kb4) :=
 cond (decide (a6 < a5)) ((atI x3 a6).bind fun y8 => cond (decide (a1 < 0)) (none) ((inI (List.length x4) a6).bind fun j10 => (u64P (ishr .u64 ((y8 : Int)) a1)).bind fun w11 => cond (decide (a1 > 0)) (cond (decide ((IntKind.wrap .i64 (a6 + 1)) < (List.length x3 : Int))) ((inI (List.length x4) a6).bind fun j14 => (atI x3 (IntKind.wrap .i64 (a6 + 1))).bind fun y15 => cond (decide ((IntKind.wrap .u64 (64 - a1)) < 0)) (none) ((inI (List.length x4) a6).bind fun j17 => (u64P (ior .u64 (((List.getD (List.set x4 j10 w11) j14 0 : Nat) : Int)) (ishl .u64 ((y15 : Int)) (IntKind.wrap .u64 (64 - a1))))).bind fun w18 => some (.inl (.p18 a1 x2 x3 (List.set (List.set x4 j10 w11) j17 w18) a5 (IntKind.wrap .i64 (a6 + 1)))))) (some (.inl (.p18 a1 x2 x3 (List.set x4 j10 w11) a5 (IntKind.wrap .i64 (a6 + 1)))))) (some (.inl (.p18 a1 x2 x3 (List.set x4 j10 w11) a5 (IntKind.wrap .i64 (a6 + 1))))))) (some (.inr (digs B (num B x2), digs B (num B x4))))
noncomputable def khv : kc2 → Option (kc2 ⊕ kb4)
 | .fn x1 x2 => kis x1 x2
 | .p6 a1 x2 x3 a4 x5 a6 => khd a1 x2 x3 a4 x5 a6
 | .p10 a1 x2 x3 a4 x5 a6 a7 x8 => kgr a1 x2 x3 a4 x5 a6 a7 x8
 | .p18 a1 x2 x3 x4 a5 a6 => kdh a1 x2 x3 x4 a5 a6
@[reducible] def kln (h0 : AH) (r : kb4) (v : AV) (h' : AH) : Prop := ∃ s1 : Sl, ∃ s2 : Sl, v = .tup [s1.v, s2.v] ∧ Nats h' s1 r.1 ∧ Nats h' s2 r.2 ∧ Grow h0 h' ∧ Own h0 s1 ∧ Own h0 s2
def kez (r : kb4) : kc2 → Prop
 | .fn x1 x2 => ∀ {h : AH} {a1 : Sl} {a2 : Sl}, Nats h a1 x1 → Nats h a2 x2 → Runs (go (.fn F.kbz [a1.v, a2.v]) h) (kln h r)
 | .p6 a1 x2 x3 a4 x5 a6 => ∀ {h0 h : AH} {a2 : Sl} {a3 : Sl} {a5 : Sl} {i2 : Nat} {i5 : Nat}, Grow h0 h → Vec h a2 i2 x2 → Nats h a3 x3 → Vec h a5 i5 x5 → h0.blks.size ≤ i2 → h0.blks.size ≤ i5 → Av a3 i2 x3 → Av a3 i5 x3 → i2 ≠ i5 → Runs (go (.pt F.kbz Td.knj [(6, .int .u64 a1), (7, a2.v), (8, a3.v), (9, .int .i64 a4), (10, a5.v), (11, .int .i64 a6)]) h) (kln h0 r)
 | .p10 a1 x2 x3 a4 x5 a6 a7 x8 => ∀ {h0 h : AH} {a2 : Sl} {a3 : Sl} {a5 : Sl} {a8 : Sl} {i2 : Nat} {i5 : Nat}, Grow h0 h → Vec h a2 i2 x2 → Nats h a3 x3 → Vec h a5 i5 x5 → h0.blks.size ≤ i2 → h0.blks.size ≤ i5 → Win a8 i2 x8.1 x8.2 → x8.1 + x8.2 ≤ List.length x2 → Av a3 i2 x3 → Av a3 i5 x3 → i2 ≠ i5 → Runs (go (.pt F.kbz Td.kmb [(6, .int .u64 a1), (7, a2.v), (8, a3.v), (9, .int .i64 a4), (10, a5.v), (11, .int .i64 a6), (12, .int .u64 a7), (13, a8.v)]) h) (kln h0 r)
 | .p18 a1 x2 x3 x4 a5 a6 => ∀ {h0 h : AH} {a2 : Sl} {a3 : Sl} {a4 : Sl} {i2 : Nat} {i4 : Nat}, Grow h0 h → Vec h a2 i2 x2 → Nats h a3 x3 → Vec h a4 i4 x4 → h0.blks.size ≤ i2 → h0.blks.size ≤ i4 → Av a3 i2 x3 → Av a3 i4 x3 → i2 ≠ i4 → Runs (go (.pt F.kbz Td.khx [(6, .int .u64 a1), (10, a2.v), (15, a3.v), (16, a4.v), (112, .int .i64 a5), (113, .int .i64 a6)]) h) (kln h0 r)
theorem kyj {r : kb4} {o : kc2 ⊕ kb4} {x1 : List Nat} {x2 : List Nat} (e : kis x1 x2 = some o) (good : GoodS (kez r) r o) : kez r (.fn x1 x2) := by
 intro h a1 a2 n1 n2
 rw [k0g]
 unfold kis at e
 rw [n2.len]
 obtain ⟨y3, q3, e⟩ := Option.bind_eq_some_iff.1 e
 obtain ⟨r3, j3, l3⟩ := n2.atI q3
 refine Runs.step j3 ?_
 refine Runs.step (rdc l3 (kb _ _)) ?_
 obtain ⟨c4_0, q4_0, e⟩ := Option.bind_eq_some_iff.1 e
 refine Runs.step (krx ((y3 : Int))  c4_0.down) ?_
 refine Runs.step (seen (kb _ _)) ?_
 obtain ⟨p5, q5, e⟩ := Option.bind_eq_some_iff.1 e
 obtain ⟨_, H5, e5, s5, j5, rfl, n5, g5, o5⟩ := ksl n1 q5
 refine Runs.step e5 ?_
 refine Runs.step (seen (asSl_v _)) ?_
 rw [n5.nats.len]
 obtain ⟨p6, q6, e⟩ := Option.bind_eq_some_iff.1 e
 obtain ⟨_, H6, e6, s6, j6, rfl, n6, g6, o6⟩ := ksl (n2.grow g5) q6
 refine Runs.step e6 ?_
 refine Runs.step (seen (asSl_v _)) ?_
 obtain ⟨s7, e7, n7, i7⟩ := kl1 n6
 refine Runs.step e7 ?_
 refine Runs.step (seen (asSl_v _)) ?_
 rw [n7.len]
 obtain ⟨m8, q8, e⟩ := Option.bind_eq_some_iff.1 e
 refine Runs.mk q8 kc8 fun s8 H8 v8 g8 => ?_
 rw [v8.nats.len]
 cases e
 exact good ((g5.trans g6).trans g8) (n5.grow (g6.trans g8)) (n7.grow g8) v8 o5 (Nat.le_trans ((g5.trans g6)).size (Nat.le_refl _)) (Av.of_in i7 (Nat.ne_of_gt (Nat.lt_of_lt_of_le (n5).inn o6))) (Av.of_in i7 (Nat.ne_of_lt (Nat.lt_of_lt_of_le (n6).inn (Nat.le_refl _)))) (Nat.ne_of_lt (Nat.lt_of_lt_of_le ((n5.grow g6)).inn (Nat.le_refl _)))
theorem kyx {r : kb4} {o : kc2 ⊕ kb4} {a1 : Int} {x2 : List Nat} {x3 : List Nat} {a4 : Int} {x5 : List Nat} {a6 : Int} (e : khd a1 x2 x3 a4 x5 a6 = some o) (good : GoodS (kez r) r o) : kez r (.p6 a1 x2 x3 a4 x5 a6) := by
 intro h0 h a2 a3 a5 i2 i5 g0 v2 n3 v5 hi2 hi5 av3_2 av3_5 ne2_5
 rw [k5v]
 unfold khd at e
 rw [v2.nats.len]
 rw [n3.len]
 refine Runs.cond (fun k7 => ?_) (fun k7 => ?_)
 ·replace e := (condT k7).symm.trans e
  obtain ⟨j8, q8, e⟩ := Option.bind_eq_some_iff.1 e
  refine Runs.step (v2.idx rfl q8) ?_
  refine Runs.step (v2.rd rfl q8 (kb _ _)) ?_
  obtain ⟨j9, q9, e⟩ := Option.bind_eq_some_iff.1 e
  refine Runs.step (v2.idx rfl q9) ?_
  refine Runs.step (v2.rd rfl q9 (kb _ _)) ?_
  obtain ⟨j10, q10, e⟩ := Option.bind_eq_some_iff.1 e
  refine Runs.step (v2.idx rfl q10) ?_
  refine Runs.step (v2.rd rfl q10 (kb _ _)) ?_
  obtain ⟨y11, q11, e⟩ := Option.bind_eq_some_iff.1 e
  obtain ⟨r11, j11, l11⟩ := n3.atI q11
  refine Runs.step j11 ?_
  refine Runs.step (rdc l11 (kb _ _)) ?_
  obtain ⟨y12, q12, e⟩ := Option.bind_eq_some_iff.1 e
  obtain ⟨r12, j12, l12⟩ := n3.atI q12
  refine Runs.step j12 ?_
  refine Runs.step (rdc l12 (kb _ _)) ?_
  obtain ⟨p13, q13, e⟩ := Option.bind_eq_some_iff.1 e
  obtain ⟨_, H13, e13, rfl, g13⟩ := kxk q13
  refine Runs.step e13 ?_
  refine Runs.step (seen (kb _ _)) ?_
  obtain ⟨p14, q14, e⟩ := Option.bind_eq_some_iff.1 e
  obtain ⟨s14, e14, w14⟩ := (v2.grow g13).cutW rfl q14
  refine Runs.step e14 ?_
  cases e
  exact good (g0.trans g13) (v2.grow g13) (n3.grow g13) (v5.grow g13) hi2 hi5 w14 (kw8 q14).2.2.2 av3_2 av3_5 ne2_5
 ·replace e := (condF k7).symm.trans e
  obtain ⟨s8, e8, n8, i8⟩ := kl1 v2
  refine Runs.step e8 ?_
  refine Runs.step (seen (asSl_v _)) ?_
  rw [n8.len]
  obtain ⟨m9, q9, e⟩ := Option.bind_eq_some_iff.1 e
  refine Runs.mk q9 kc8 fun s9 H9 v9 g9 => ?_
  cases e
  exact good (g0.trans g9) (v5.grow g9) (n8.grow g9) v9 hi5 (Nat.le_trans (g0).size (Nat.le_refl _)) (Av.of_in i8 ne2_5) (Av.of_in i8 (Nat.ne_of_lt (Nat.lt_of_lt_of_le (v2).inn (Nat.le_refl _)))) (Nat.ne_of_lt (Nat.lt_of_lt_of_le (v5).inn (Nat.le_refl _)))
theorem kbam {r : kb4} {o : kc2 ⊕ kb4} {a1 : Int} {x2 : List Nat} {x3 : List Nat} {a4 : Int} {x5 : List Nat} {a6 : Int} {a7 : Int} {x8 : Nat × Nat} (e : kgr a1 x2 x3 a4 x5 a6 a7 x8 = some o) (good : GoodS (kez r) r o) : kez r (.p10 a1 x2 x3 a4 x5 a6 a7 x8) := by
 intro h0 h a2 a3 a5 a8 i2 i5 g0 v2 n3 v5 hi2 hi5 w8 wl8 av3_2 av3_5 ne2_5
 rw [kzl]
 unfold kgr at e
 rw [v5.nats.len]
 obtain ⟨p9, q9, e⟩ := Option.bind_eq_some_iff.1 e
 obtain ⟨s9, H9, e9, n9, g9, o9⟩ := ko7 q9
 refine Runs.step e9 ?_
 refine Runs.step (seen (asSl_v _)) ?_
 obtain ⟨c10_0, q10_0, e⟩ := Option.bind_eq_some_iff.1 e
 obtain ⟨s10, H10, e10, n10, g10, o10⟩ := kpo (n3.grow g9) n9  c10_0.down
 refine Runs.step e10 ?_
 refine Runs.step (seen (asSl_v _)) ?_
 obtain ⟨c11_0, q11_0, e⟩ := Option.bind_eq_some_iff.1 e
 obtain ⟨s11, H11, e11, n11, g11, o11⟩ := ki6 (w8.nats (v2.grow (g9.trans g10)) wl8)  c11_0.down
 refine Runs.step e11 ?_
 refine Runs.step (seen (asSl_v _)) ?_
 obtain ⟨s12, e12, n12, o12⟩ := kc4 n11
 refine Runs.step e12 ?_
 refine Runs.step (seen (asSl_v _)) ?_
 obtain ⟨c13_0, q13_0, e⟩ := Option.bind_eq_some_iff.1 e
 obtain ⟨c13_1, q13_1, e⟩ := Option.bind_eq_some_iff.1 e
 refine Runs.step (klp n12 (n10.grow g11)  c13_0.down c13_1.down) ?_
 refine Runs.step (seen (kb _ _)) ?_
 refine Runs.cond (fun k14 => ?_) (fun k14 => ?_)
 ·replace e := (condT k14).symm.trans e
  obtain ⟨c15_0, q15_0, e⟩ := Option.bind_eq_some_iff.1 e
  obtain ⟨s15, H15, e15, n15, g15, o15⟩ := k2i (w8.nats (v2.grow ((g9.trans g10).trans g11)) wl8) (n10.grow g11)  c15_0.down
  refine Runs.step e15 ?_
  refine Runs.step (seen (asSl_v _)) ?_
  obtain ⟨y16, q16, e⟩ := Option.bind_eq_some_iff.1 e
  have hl16 := kum q16
  obtain ⟨H16, e16, v16, u16⟩ := (v2.grow (((g9.trans g10).trans g11).trans g15)).copyW w8 n15 q16
  refine Runs.step e16 ?_
  have n3_16 := (n3.grow (((g9.trans g10).trans g11).trans g15)).upda av3_2 u16
  have n9_16 := (n9.grow ((g10.trans g11).trans g15)).upda (Av.of_own o9 (v2).inn) u16
  have n10_16 := (n10.grow (g11.trans g15)).upda (Av.of_own o10 ((v2.grow g9)).inn) u16
  have n11_16 := (n11.grow g15).upda (Av.of_own o11 ((v2.grow (g9.trans g10))).inn) u16
  have n12_16 := (n12.grow g15).upda (Av.of_own (o12 _ o11) ((v2.grow (g9.trans g10))).inn) u16
  have n15_16 := n15.upda (Av.of_own o15 ((v2.grow ((g9.trans g10).trans g11))).inn) u16
  have v5_16 := (v5.grow (((g9.trans g10).trans g11).trans g15)).updr (Ne.symm ne2_5) u16
  obtain ⟨j17, q17, e⟩ := Option.bind_eq_some_iff.1 e
  refine Runs.step (v5_16.idx rfl q17) ?_
  obtain ⟨w18, z18, e⟩ := Option.bind_eq_some_iff.1 e
  refine Runs.vput v5_16 rfl q17 z18 fun H18 v18 u18 => ?_
  have n3_18 := n3_16.upda av3_5 u18
  have n9_18 := n9_16.upda (Av.of_own o9 (v5).inn) u18
  have n10_18 := n10_16.upda (Av.of_own o10 ((v5.grow g9)).inn) u18
  have n11_18 := n11_16.upda (Av.of_own o11 ((v5.grow (g9.trans g10))).inn) u18
  have n12_18 := n12_16.upda (Av.of_own (o12 _ o11) ((v5.grow (g9.trans g10))).inn) u18
  have n15_18 := n15_16.upda (Av.of_own o15 ((v5.grow ((g9.trans g10).trans g11))).inn) u18
  have v16_18 := v16.updr ne2_5 u18
  cases e
  exact good ((((((g0.trans g9).trans g10).trans g11).trans g15).updr hi2 u16).updr hi5 u18) v16_18 n3_18 v18 hi2 hi5 av3_2 av3_5 ne2_5
 ·replace e := (condF k14).symm.trans e
  cases e
  exact good (((g0.trans g9).trans g10).trans g11) (v2.grow ((g9.trans g10).trans g11)) (n3.grow ((g9.trans g10).trans g11)) (v5.grow ((g9.trans g10).trans g11)) hi2 hi5 w8 wl8 av3_2 av3_5 ne2_5
theorem k5h {r : kb4} {o : kc2 ⊕ kb4} {a1 : Int} {x2 : List Nat} {x3 : List Nat} {x4 : List Nat} {a5 : Int} {a6 : Int} (e : kdh a1 x2 x3 x4 a5 a6 = some o) (good : GoodS (kez r) r o) : kez r (.p18 a1 x2 x3 x4 a5 a6) := by
 intro h0 h a2 a3 a4 i2 i4 g0 v2 n3 v4 hi2 hi4 av3_2 av3_4 ne2_4
 rw [k57]
 unfold kdh at e
 rw [n3.len]
 rw [v4.nats.len]
 refine Runs.cond (fun k7 => ?_) (fun k7 => ?_)
 ·replace e := (condT k7).symm.trans e
  obtain ⟨y8, q8, e⟩ := Option.bind_eq_some_iff.1 e
  obtain ⟨r8, j8, l8⟩ := n3.atI q8
  refine Runs.step j8 ?_
  refine Runs.step (rdc l8 (kb _ _)) ?_
  refine Runs.cond (fun k9 => ?_) (fun k9 => ?_)
  ·replace e := (condT k9).symm.trans e
   cases e
  ·replace e := (condF k9).symm.trans e
   obtain ⟨j10, q10, e⟩ := Option.bind_eq_some_iff.1 e
   refine Runs.step (v4.idx rfl q10) ?_
   obtain ⟨w11, z11, e⟩ := Option.bind_eq_some_iff.1 e
   refine Runs.vput v4 rfl q10 z11 fun H11 v11 u11 => ?_
   have n3_11 := n3.upda av3_4 u11
   have v2_11 := v2.updr ne2_4 u11
   refine Runs.cond (fun k12 => ?_) (fun k12 => ?_)
   ·replace e := (condT k12).symm.trans e
    refine Runs.cond (fun k13 => ?_) (fun k13 => ?_)
    ·replace e := (condT k13).symm.trans e
     obtain ⟨j14, q14, e⟩ := Option.bind_eq_some_iff.1 e
     refine Runs.step (v11.idx (by simp only [List.length_set]) q14) ?_
     refine Runs.step (v11.rd (by simp only [List.length_set]) q14 (kb _ _)) ?_
     obtain ⟨y15, q15, e⟩ := Option.bind_eq_some_iff.1 e
     obtain ⟨r15, j15, l15⟩ := n3_11.atI q15
     refine Runs.step j15 ?_
     refine Runs.step (rdc l15 (kb _ _)) ?_
     refine Runs.cond (fun k16 => ?_) (fun k16 => ?_)
     ·replace e := (condT k16).symm.trans e
      cases e
     ·replace e := (condF k16).symm.trans e
      obtain ⟨j17, q17, e⟩ := Option.bind_eq_some_iff.1 e
      refine Runs.step (v11.idx (by simp only [List.length_set]) q17) ?_
      obtain ⟨w18, z18, e⟩ := Option.bind_eq_some_iff.1 e
      refine Runs.vput v11 (by simp only [List.length_set]) q17 z18 fun H18 v18 u18 => ?_
      have n3_18 := n3_11.upda av3_4 u18
      have v2_18 := v2_11.updr ne2_4 u18
      cases e
      exact good ((g0.updr hi4 u11).updr hi4 u18) v2_18 n3_18 v18 hi2 hi4 av3_2 av3_4 ne2_4
    ·replace e := (condF k13).symm.trans e
     cases e
     exact good (g0.updr hi4 u11) v2_11 n3_11 v11 hi2 hi4 av3_2 av3_4 ne2_4
   ·replace e := (condF k12).symm.trans e
    cases e
    exact good (g0.updr hi4 u11) v2_11 n3_11 v11 hi2 hi4 av3_2 av3_4 ne2_4
 ·replace e := (condF k7).symm.trans e
  obtain ⟨s8, e8, n8, i8⟩ := kl1 v2
  refine Runs.step e8 ?_
  refine Runs.step (seen (asSl_v _)) ?_
  obtain ⟨s9, e9, n9, i9⟩ := kl1 v4
  refine Runs.step e9 ?_
  refine Runs.step (seen (asSl_v _)) ?_
  cases e
  cases good
  exact Runs.ret ⟨s8, s9, rfl, n8, n9, g0, ((i8.own hi2).of_le (Grow.refl _)), ((i9.own hi4).of_le (Grow.refl _))⟩
theorem k7c {s : kc2} {r : kb4} (it : Iter khv s r) : kez r s := Iter.ind (fun s o e good => by
 cases s with
 | fn x1 x2 => exact @kyj _ _ x1 x2 e good
 | p6 a1 x2 x3 a4 x5 a6 => exact @kyx _ _ a1 x2 x3 a4 x5 a6 e good
 | p10 a1 x2 x3 a4 x5 a6 a7 x8 => exact @kbam _ _ a1 x2 x3 a4 x5 a6 a7 x8 e good
 | p18 a1 x2 x3 x4 a5 a6 => exact @k5h _ _ a1 x2 x3 x4 a5 a6 e good
 ) it
end Go.Ab

/- squeezed -/
set_option linter.unusedVariables false
set_option linter.unusedSimpArgs false
set_option maxRecDepth 10000
namespace Go.Ab
open Go.Proofs Go.Num
theorem k8d {d q r r' x Q R : Nat} (h1 : r * 18446744073709551616 + x = q * d + r') (h2 : R = d * Q + r) : x + 18446744073709551616 * R = d * (q + 18446744073709551616 * Q) + r' := by
 rw [h2, Nat.mul_add, Nat.mul_add]
 have e1 : 18446744073709551616 * (d * Q) = d * (18446744073709551616 * Q) := Nat.mul_left_comm _ _ _
 rw [e1, Nat.mul_comm d q]
 omega
theorem kq0 {o : List Nat} {i w : Nat} (h : i < o.length) : (o.set i w).drop i = w :: o.drop (i + 1) := by
 rw [List.drop_eq_getElem_cons (by simpa using h), List.getElem_set_self, List.drop_set_of_lt (by omega)]
theorem kul {xs : List Nat} {d : Nat} (lx : ∀ x ∈ xs, x < B) (hd : d < B) (hd0 : 0 < d) (hl : xs.length ≤ 8796093022208) :
  ∀ (i : Nat) (o : List Nat) (r : Nat), i ≤ xs.length → o.length = xs.length → r < d → num B (xs.drop i) = d * num B (o.drop i) + r →
   Iter kph (.p4 xs d o r ((i : Int) - 1)) (digs B (num B xs / d), ((num B xs % d : Nat) : Int))
 | 0, o, r, hi, lo, hr, e => by
  refine .done ?_
  show kge _ _ _ _ _ = _
  unfold kge
  rw [List.drop_zero, List.drop_zero] at e
  rw [condF (by rw [decide_eq_false_iff_not]; omega), e, Nat.mul_add_div hd0, Nat.div_eq_of_lt hr, Nat.add_zero, Nat.mul_add_mod, Nat.mod_eq_of_lt hr]
 | i + 1, o, r, hi, lo, hr, e => by
  have hi' : i < xs.length := by omega
  have hio : i < o.length := by omega
  have hx := lx xs[i] (List.getElem_mem _)
  have hd' : d < 18446744073709551616 := hd
  have hx' : xs[i] < 18446744073709551616 := hx
  have hq : (r * 18446744073709551616 + xs[i]) / d < 18446744073709551616 := by
   rw [Nat.div_lt_iff_lt_mul hd0]
   have : (r + 1) * 18446744073709551616 ≤ d * 18446744073709551616 := Nat.mul_le_mul_right _ hr
   omega
  refine .next (s' := .p4 xs d (o.set i ((r * 18446744073709551616 + xs[i]) / d)) ((r * 18446744073709551616 + xs[i]) % d : Nat) ((i : Int) - 1)) ?_ (kul lx hd hd0 hl i _ _ (by omega) (by simpa using lo) (Nat.mod_lt _ hd0) ?_)
  ·show kge _ _ _ _ _ = _
   unfold kge
   rw [condT (by rw [decide_eq_true_eq]; omega), show ((i + 1 : Nat) : Int) - 1 = (i : Int) from by omega, kbg hi', Option.bind_some, kws hd' hx' hr, Option.bind_some, ku hio, Option.bind_some]
   dsimp only
   rw [kz hq, Option.bind_some, wrap64 (by omega) (by omega)]
  ·rw [kq0 hio, List.drop_eq_getElem_cons hi']
   simp only [num]
   have dm := Nat.div_add_mod (r * 18446744073709551616 + xs[i]) d
   rw [Nat.mul_comm d] at dm
   exact k8d dm.symm e
theorem kys {xs : List Nat} {d : Nat} (lx : ∀ x ∈ xs, x < B) (hd : d < B) (hd0 : 0 < d) (hl : xs.length ≤ 8796093022208) : Iter kph (.fn xs d) (digs B (num B xs / d), ((num B xs % d : Nat) : Int)) := by
 refine .next (s' := .p4 xs d (List.replicate xs.length 0) ((0 : Nat) : Int) ((xs.length : Int) - 1)) ?_ (kul lx hd hd0 hl xs.length _ _ (Nat.le_refl _) (by simp) hd0 (by simp [num]))
 show kj6 _ _ = _
 unfold kj6
 rw [kd4 hl, Option.bind_some, wrap64 (by omega) (by omega)]
 rfl
theorem k83 {h : AH} {s : Sl} {xs : List Nat} (n : Nats h s xs) {d : Nat} (hd : d < B) (hd0 : 0 < d) (hl : xs.length ≤ 8796093022208) : ∃ (s' : Sl) (h' : AH), go (.fn F.ker [s.v, .int .u64 (d : Int)]) h = some (.tup [s'.v, .int .u64 ((num B xs % d : Nat) : Int)], h') ∧ Nats h' s' (digs B (num B xs / d)) ∧ Grow h h' ∧ Own h s' := by
 obtain ⟨_, h', e, s', rfl, n', g, o⟩ := k8x (kys n.lt hd hd0 hl) n
 exact ⟨s', h', e, n', g, o⟩
theorem kvg (a b : Int) : ior .u64 a b = ior .u64 b a := by
 unfold ior
 rw [BitVec.or_comm]
theorem k1v {x n : Nat} (hx : x < 18446744073709551616) (hn : n ≤ 63) : x * 2 ^ n % 18446744073709551616 = x % 2 ^ (64 - n) * 2 ^ n ∧ x * 2 ^ n / 18446744073709551616 = x / 2 ^ (64 - n) ∧ x / 2 ^ (64 - n) < 2 ^ n ∧ x % 2 ^ (64 - n) * 2 ^ n < 18446744073709551616 := by
 have p : 0 < 2 ^ n := Nat.pow_pos (by decide)
 have p2 : 0 < 2 ^ (64 - n) := Nat.pow_pos (by decide)
 have e : 2 ^ (64 - n) * 2 ^ n = 18446744073709551616 := by rw [← Nat.pow_add, show 64 - n + n = 64 from by omega]
 refine ⟨?_, ?_, ?_, ?_⟩
 ·rw [← e, Nat.mul_mod_mul_right]
 ·rw [← e, Nat.mul_div_mul_right _ _ p]
 ·rw [Nat.div_lt_iff_lt_mul p2, Nat.mul_comm, e]
  exact hx
 ·have := Nat.mul_lt_mul_of_pos_right (Nat.mod_lt x p2) p
  rw [e] at this
  exact this
theorem up_alg {P c l hgh t n0 n1 n2 X : Nat} (h1 : n1 + P * c = n0 + P * (l + c)) (h2 : n2 + P * 18446744073709551616 * 0 = n1 + P * 18446744073709551616 * hgh) (ht : t = hgh * 18446744073709551616 + l) (h3 : n0 = X) : n2 = X + P * t := by
 rw [Nat.mul_add] at h1
 rw [ht, Nat.mul_add, Nat.mul_comm hgh, ← Nat.mul_assoc]
 omega
theorem kor {xs : List Nat} {n : Nat} (lx : ∀ x ∈ xs, x < B) (hn : n ≤ 63) (hl : xs.length < 8796093022208) :
  ∀ (d i : Nat) (o : List Nat), i + d = xs.length → o.length = xs.length + 1 → (∀ y ∈ o, y < B) → Empty o (i + 1) → (∀ h : i < o.length, o[i] < 2 ^ n) → num B o = num B (xs.take i) * 2 ^ n →
   ∃ r, Iter kih (.p3 n o xs xs.length i) r ∧ r.length = xs.length + 1 ∧ (∀ y ∈ r, y < B) ∧ num B r = num B xs * 2 ^ n
 | 0, i, o, hi, lo, to, zo, ho, e => by
  have hi : i = xs.length := by omega
  subst hi
  rw [List.take_length] at e
  refine ⟨o, .done ?_, lo, to, e⟩
  show ked _ _ _ _ _ = _
  unfold ked
  rw [condF (by rw [decide_eq_false_iff_not]; omega)]
 | d + 1, i, o, hi, lo, to, zo, ho, e => by
  have hi' : i < xs.length := by omega
  have hio : i < o.length := by omega
  have hx : xs[i] < 18446744073709551616 := lx xs[i] (List.getElem_mem _)
  have hc := ho hio
  obtain ⟨u1, u2, u3, u4⟩ := k1v hx hn
  have shl : ishl .u64 (xs[i] : Int) (n : Int) = ((xs[i] % 2 ^ (64 - n) * 2 ^ n : Nat) : Int) := by rw [kj1 _ _ (by omega), u1]
  have io : ior .u64 (o[i] : Int) ((xs[i] % 2 ^ (64 - n) * 2 ^ n : Nat) : Int) = ((xs[i] % 2 ^ (64 - n) * 2 ^ n + o[i] : Nat) : Int) := by rw [kvg, kp5 u4 hc (by omega)]
  have hw : xs[i] % 2 ^ (64 - n) * 2 ^ n + o[i] < 18446744073709551616 := by
   have p : 0 < 2 ^ n := Nat.pow_pos (by decide)
   have p2 : 0 < 2 ^ (64 - n) := Nat.pow_pos (by decide)
   have e : 2 ^ (64 - n) * 2 ^ n = 18446744073709551616 := by rw [← Nat.pow_add, show 64 - n + n = 64 from by omega]
   have := Nat.mul_le_mul_right (2 ^ n) (Nat.mod_lt xs[i] p2)
   rw [e, Nat.succ_mul] at this
   omega
  generalize hlw : xs[i] % 2 ^ (64 - n) * 2 ^ n = l at *
  have hset : i + 1 < (o.set i (l + o[i])).length := by simp; omega
  have h1 := khh (b := B) hio (l + o[i])
  have hz : (o.set i (l + o[i]))[i + 1] = 0 := by
   rw [List.getElem_set_ne (by omega)]
   exact zo _ (by omega) (by omega)
  have htot : xs[i] * 2 ^ n = xs[i] / 2 ^ (64 - n) * 18446744073709551616 + l := by
   have := Nat.div_add_mod (xs[i] * 2 ^ n) 18446744073709551616
   rw [u2, u1, Nat.mul_comm] at this
   exact this.symm
  have htake : num B (xs.take (i + 1)) * 2 ^ n = num B (xs.take i) * 2 ^ n + B ^ i * (xs[i] * 2 ^ n) := by
   rw [kcc B hi', Nat.add_mul, Nat.mul_assoc]
  have hB : xs[i] / 2 ^ (64 - n) < 18446744073709551616 := Nat.lt_of_le_of_lt (Nat.div_le_self _ _) hx
  by_cases hn0 : n = 0
  ·
   have hh : xs[i] / 2 ^ (64 - n) = 0 := by
    subst hn0
    rw [Nat.pow_zero] at u3
    omega
   obtain ⟨r, it, r1, r2, r3⟩ := kor lx hn hl d (i + 1) (o.set i (l + o[i])) (by omega) (by simpa using lo) (set_lt to hw) (by intro t ht hk; rw [List.getElem_set_ne (by omega)]; exact zo t (by simpa using ht) (by omega)) (by intro ht; rw [hz]; exact Nat.pow_pos (by decide)) (by
    rw [htake, htot, hh]
    exact up_alg (hgh := 0) h1 (by omega) rfl e)
   refine ⟨r, .next ?_ it, r1, r2, r3⟩
   show ked _ _ _ _ _ = _
   unfold ked
   rw [condT (by rw [decide_eq_true_eq]; omega), kbg hi', Option.bind_some, ku hio, Option.bind_some, condF (by rw [decide_eq_false_iff_not]; omega), Option.bind_some, kdr hio, shl, io, kz hw, Option.bind_some, condF (by rw [decide_eq_false_iff_not]; omega), ko (by omega)]
  ·have h2 := khh (b := B) hset (xs[i] / 2 ^ (64 - n))
   rw [hz] at h2
   obtain ⟨r, it, r1, r2, r3⟩ := kor lx hn hl d (i + 1) ((o.set i (l + o[i])).set (i + 1) (xs[i] / 2 ^ (64 - n))) (by omega) (by simpa using lo) (set_lt (set_lt to hw) hB) (by intro t ht hk; rw [List.getElem_set_ne (by omega), List.getElem_set_ne (by omega)]; exact zo t (by simpa using ht) (by omega)) (by intro ht; rw [List.getElem_set_self]; exact u3) (by
    rw [htake]
    rw [Nat.pow_succ] at h2
    exact up_alg h1 h2 htot e)
   refine ⟨r, .next ?_ it, r1, r2, r3⟩
   have sh2 : ishr .u64 (xs[i] : Int) ((64 - n : Nat) : Int) = ((xs[i] / 2 ^ (64 - n) : Nat) : Int) := by rw [kby, Nat.min_eq_left (by omega)]
   have w64 : IntKind.wrap .u64 (64 - (n : Int)) = ((64 - n : Nat) : Int) := by rw [wrapU]; omega
   show ked _ _ _ _ _ = _
   unfold ked
   rw [condT (by rw [decide_eq_true_eq]; omega), kbg hi', Option.bind_some, ku hio, Option.bind_some, condF (by rw [decide_eq_false_iff_not]; omega), Option.bind_some, kdr hio, shl, io, kz hw, Option.bind_some, condT (by rw [decide_eq_true_eq]; omega), w64, condF (by rw [decide_eq_false_iff_not]; omega), ko (by omega), ku (by omega), Option.bind_some, sh2, kz hB, Option.bind_some]
theorem kuf {xs : List Nat} {n : Nat} (lx : ∀ x ∈ xs, x < B) (hn : n ≤ 63) (hl : xs.length < 8796093022208) : ∃ r, Iter kih (.fn xs n) r ∧ r.length = xs.length + 1 ∧ (∀ y ∈ r, y < B) ∧ num B r = num B xs * 2 ^ n := by
 obtain ⟨r, it, k⟩ := kor lx hn hl xs.length 0 (List.replicate (xs.length + 1) 0) (by omega) (by simp) (fun y hy => by rw [List.eq_of_mem_replicate hy]; exact B0) (fun t ht hk => by simp) (fun ht => by simp; exact Nat.pow_pos (by decide)) (by
  have := kf2 B [] (xs.length + 1)
  simpa [num] using this)
 refine ⟨r, .next ?_ it, k⟩
 show ki1 _ _ = _
 unfold ki1
 rw [ko (by omega), kd4 (by omega), Option.bind_some]
 rfl
end Go.Ab

/- squeezed -/
set_option linter.unusedVariables false
set_option linter.unusedSimpArgs false
set_option maxRecDepth 10000
namespace Go.Ab
open Go.Proofs Go.Num
theorem kn_hi2 {b v1 v0 W r0 q r : Nat} (hv : 0 < v1 * b + v0) (e : q * v1 + r = W) (t : b * r + r0 < q * v0) : (W * b + r0) / (v1 * b + v0) ≤ q - 1 ∧ 1 ≤ q := by
 have h1 : (W * b + r0) / (v1 * b + v0) < q := by
  rw [Nat.div_lt_iff_lt_mul hv, kn_mul (v := v1 * b + v0) rfl, ← e, Nat.add_mul, Nat.mul_comm r b]
  omega
 generalize (W * b + r0) / (v1 * b + v0) = k at *
 omega
theorem kur {d1 d0 W r0 : Nat} (h1 : d1 < 18446744073709551616) (h1' : 0 < d1) (h0 : d0 < 18446744073709551616) (hr : r0 < 18446744073709551616) :
  ∀ (q r : Nat), q * d1 + r = W → q < 18446744073709551616 → r < 18446744073709551616 → (W * 18446744073709551616 + r0) / (d1 * 18446744073709551616 + d0) ≤ q →
   ∃ g : Nat, Iter khr (.p4 r0 d1 d0 q r) (g : Int) ∧ g < 18446744073709551616 ∧ (W * 18446744073709551616 + r0) / (d1 * 18446744073709551616 + d0) ≤ g
 | q, r, e, hq, hrr, hge => by
  have hm : mul64 (q : Int) (d0 : Int) = (((q * d0 / 18446744073709551616 : Nat) : Int), ((q * d0 % 18446744073709551616 : Nat) : Int)) := kok hq h0
  by_cases c1 : q * d0 / 18446744073709551616 < r
  ·refine ⟨q, .done ?_, hq, hge⟩
   show ke5 _ _ _ _ _ = _
   unfold ke5
   rw [hm]
   dsimp only
   rw [condT (by rw [decide_eq_true_eq]; omega)]
  by_cases c2 : q * d0 / 18446744073709551616 = r ∧ q * d0 % 18446744073709551616 ≤ r0
  ·refine ⟨q, .done ?_, hq, hge⟩
   show ke5 _ _ _ _ _ = _
   unfold ke5
   rw [hm]
   dsimp only
   rw [condF (by rw [decide_eq_false_iff_not]; omega), condT (by rw [decide_eq_true_eq]; omega), condT (by rw [decide_eq_true_eq]; omega)]
  have t : 18446744073709551616 * r + r0 < q * d0 := by
   generalize q * d0 = t at *
   omega
  obtain ⟨k1, k2⟩ := kn_hi2 (by omega) e t
  obtain ⟨p, rfl⟩ : ∃ p, q = p + 1 := ⟨q - 1, by omega⟩
  rw [Nat.add_sub_cancel] at k1
  have e' : p * d1 + (r + d1) = W := by
   rw [Nat.add_mul, Nat.one_mul] at e
   omega
  have w1 : IntKind.wrap .u64 (((p + 1 : Nat) : Int) - 1) = (p : Int) := by rw [wrapU]; omega
  have step : ∀ o, cond (decide ((IntKind.wrap .u64 ((r : Int) + (d1 : Int))) < (r : Int))) (some (Sum.inr (α := kev) (p : Int))) (some (.inl (.p4 r0 d1 d0 p (IntKind.wrap .u64 ((r : Int) + (d1 : Int)))))) = o → khr (.p4 r0 d1 d0 ((p + 1 : Nat) : Int) r) = o := by
   intro o ho
   show ke5 _ _ _ _ _ = _
   unfold ke5
   rw [hm]
   dsimp only
   rw [w1, condF (by rw [decide_eq_false_iff_not]; omega)]
   refine kja (fun _ => ?_) fun _ => ho
   rw [condF (by rw [decide_eq_false_iff_not]; rename_i h; rw [decide_eq_true_eq] at h; omega)]
   exact ho
  by_cases ho : r + d1 < 18446744073709551616
  ·have w2 : IntKind.wrap .u64 ((r : Int) + (d1 : Int)) = ((r + d1 : Nat) : Int) := by rw [wrapU]; omega
   obtain ⟨g, it, k3, k4⟩ := kur h1 h1' h0 hr p (r + d1) e' (by omega) ho k1
   refine ⟨g, .next (step _ ?_) it, k3, k4⟩
   rw [w2, condF (by rw [decide_eq_false_iff_not]; omega)]
  ·have w2 : IntKind.wrap .u64 ((r : Int) + (d1 : Int)) = ((r + d1 - 18446744073709551616 : Nat) : Int) := by rw [wrapU]; omega
   refine ⟨p, .done (step _ ?_), by omega, k1⟩
   rw [w2, condT (by rw [decide_eq_true_eq]; omega)]
termination_by q => q
theorem k6i {r2 r1 r0 d1 d0 : Nat} (h2 : r2 < 18446744073709551616) (hr1 : r1 < 18446744073709551616) (hr : r0 < 18446744073709551616) (h1 : d1 < 18446744073709551616) (h1' : 0 < d1) (h0 : d0 < 18446744073709551616) :
  ∃ g : Nat, Iter khr (.fn r2 r1 r0 d1 d0) (g : Int) ∧ g < 18446744073709551616 ∧ (g = 18446744073709551615 ∨ ((r2 * 18446744073709551616 + r1) * 18446744073709551616 + r0) / (d1 * 18446744073709551616 + d0) ≤ g) := by
 by_cases hc : d1 ≤ r2
 ·refine ⟨18446744073709551615, .done ?_, by omega, .inl rfl⟩
  show kg5 _ _ _ _ _ = _
  unfold kg5
  rw [condT (by rw [decide_eq_true_eq]; omega)]
  rfl
 ·have hr2 : r2 < d1 := by omega
  have hq : (r2 * 18446744073709551616 + r1) / d1 < 18446744073709551616 := by
   rw [Nat.div_lt_iff_lt_mul h1']
   have : (r2 + 1) * 18446744073709551616 ≤ d1 * 18446744073709551616 := Nat.mul_le_mul_right _ hr2
   omega
  have hm := Nat.mod_lt (r2 * 18446744073709551616 + r1) h1'
  have first : ((r2 * 18446744073709551616 + r1) * 18446744073709551616 + r0) / (d1 * 18446744073709551616 + d0) ≤ (r2 * 18446744073709551616 + r1) / d1 := by
   rw [Nat.le_div_iff_mul_le h1']
   have h3 := Nat.div_mul_le_self ((r2 * 18446744073709551616 + r1) * 18446744073709551616 + r0) (d1 * 18446744073709551616 + d0)
   rw [kn_mul (v := d1 * 18446744073709551616 + d0) rfl] at h3
   have h4 : ((r2 * 18446744073709551616 + r1) * 18446744073709551616 + r0) / (d1 * 18446744073709551616 + d0) * d1 * 18446744073709551616 < (r2 * 18446744073709551616 + r1 + 1) * 18446744073709551616 := by
    rw [Nat.add_mul _ 1]
    omega
   have := Nat.lt_of_mul_lt_mul_right h4
   omega
  obtain ⟨g, it, k3, k4⟩ := kur h1 h1' h0 hr ((r2 * 18446744073709551616 + r1) / d1) ((r2 * 18446744073709551616 + r1) % d1) (by rw [Nat.mul_comm]; exact Nat.div_add_mod _ _) hq (by omega) first
  refine ⟨g, .next ?_ it, k3, .inr k4⟩
  show kg5 _ _ _ _ _ = _
  unfold kg5
  rw [condF (by rw [decide_eq_false_iff_not]; omega), kws h1 hr1 hr2, Option.bind_some]
end Go.Ab

/- squeezed -/
set_option linter.unusedVariables false
set_option linter.unusedSimpArgs false
set_option maxRecDepth 10000
namespace Go.Ab
open Go.Proofs Go.Num
theorem kix {s : Nat} (hs : s ≤ 64) : 2 ^ (64 - s) * 2 ^ s = 18446744073709551616 := by rw [← Nat.pow_add, show 64 - s + s = 64 from by omega]
theorem k8w {s : Nat} (hs : s ≤ 64) (t : List Nat) : num B t % 2 ^ s = t.getD 0 0 % 2 ^ s := by
 cases t with
 | nil => rfl
 | cons x t =>
  show (x + B * num B t) % 2 ^ s = x % 2 ^ s
  have e : B * num B t = 2 ^ s * (2 ^ (64 - s) * num B t) := by
   rw [← Nat.mul_assoc, Nat.mul_comm (2 ^ s), kix hs]
  rw [e, Nat.add_mul_mod_self_left]
theorem k7x {s x : Nat} (hs : s ≤ 64) (t : List Nat) : (x + B * num B t) / 2 ^ s = (t.getD 0 0 % 2 ^ s * 2 ^ (64 - s) + x / 2 ^ s) + B * (num B t / 2 ^ s) := by
 have p : 0 < 2 ^ s := Nat.pow_pos (by decide)
 have hm := k8w hs t
 have dm := Nat.div_add_mod (num B t) (2 ^ s)
 rw [hm] at dm
 generalize t.getD 0 0 % 2 ^ s = z at *
 generalize num B t / 2 ^ s = q at *
 have e : x + B * num B t = x + 2 ^ s * (B * q + 2 ^ (64 - s) * z) := by
  rw [← dm, Nat.mul_add, Nat.mul_add, Nat.mul_left_comm B, ← Nat.mul_assoc (2 ^ s) (2 ^ (64 - s)), Nat.mul_comm (2 ^ s) (2 ^ (64 - s)), kix hs]
 rw [e, Nat.add_mul_div_left _ _ p, Nat.mul_comm (2 ^ (64 - s))]
 omega
theorem k7t {s x z : Nat} (hs : s ≤ 64) (hx : x < 18446744073709551616) : z % 2 ^ s * 2 ^ (64 - s) + x / 2 ^ s < 18446744073709551616 ∧ x / 2 ^ s < 2 ^ (64 - s) ∧ z % 2 ^ s * 2 ^ (64 - s) < 18446744073709551616 := by
 have p : 0 < 2 ^ s := Nat.pow_pos (by decide)
 have e := kix hs
 have h1 : x / 2 ^ s < 2 ^ (64 - s) := by rw [Nat.div_lt_iff_lt_mul p, e]; exact hx
 have h2 := Nat.mul_le_mul_right (2 ^ (64 - s)) (Nat.mod_lt z p)
 rw [Nat.mul_comm (2 ^ s), e, Nat.succ_mul] at h2
 generalize x / 2 ^ s = f at *
 omega
theorem knr {q L : List Nat} {s : Nat} (lL : ∀ x ∈ L, x < B) (hs : s ≤ 63) (hl : L.length ≤ 8796093022208) :
  ∀ (d i : Nat) (o : List Nat), i + d = L.length → o.length = L.length → num B (o.take i) + B ^ i * (num B (L.drop i) / 2 ^ s) = num B L / 2 ^ s →
   Iter khv (.p18 s q L o L.length i) (digs B (num B q), digs B (num B L / 2 ^ s))
 | 0, i, o, hi, lo, e => by
  have hi : i = L.length := by omega
  subst hi
  refine .done ?_
  show kdh _ _ _ _ _ _ = _
  unfold kdh
  rw [condF (by rw [decide_eq_false_iff_not]; omega)]
  rw [List.take_of_length_le (by omega), List.drop_of_length_le (by omega)] at e
  simp only [num, Nat.zero_div, Nat.mul_zero, Nat.add_zero] at e
  rw [e]
 | d + 1, i, o, hi, lo, e => by
  have hi' : i < L.length := by omega
  have hio : i < o.length := by omega
  have hx : L[i] < 18446744073709551616 := lL L[i] (List.getElem_mem _)
  obtain ⟨w1, w2, w3⟩ := k7t (z := (L.drop (i + 1)).getD 0 0) (show s ≤ 64 by omega) hx
  have hg : (L.drop (i + 1)).getD 0 0 = L.getD (i + 1) 0 := by simp [List.getD]
  have inv : ∀ w, w = (L.drop (i + 1)).getD 0 0 % 2 ^ s * 2 ^ (64 - s) + L[i] / 2 ^ s → num B ((o.set i w).take (i + 1)) + B ^ (i + 1) * (num B (L.drop (i + 1)) / 2 ^ s) = num B L / 2 ^ s := by
   intro w hw
   rw [List.drop_eq_getElem_cons hi'] at e
   simp only [num] at e
   rw [k7x (by omega), ← hw] at e
   rw [kcc B (by simpa using hio), List.getElem_set_self, List.take_set_of_le (Nat.le_refl i), Nat.pow_succ, Nat.mul_assoc]
   rw [Nat.mul_add] at e
   omega
  have sr : ishr .u64 (L[i] : Int) (s : Int) = ((L[i] / 2 ^ s : Nat) : Int) := by rw [kby, Nat.min_eq_left (by omega)]
  have hL0 : L[i] / 2 ^ s < 18446744073709551616 := Nat.lt_of_le_of_lt (Nat.div_le_self _ _) hx
  by_cases hs0 : s = 0
  ·subst hs0
   refine .next (s' := .p18 ((0 : Nat) : Int) q L (o.set i (L[i] / 2 ^ 0)) L.length ((i + 1 : Nat) : Int)) ?_ (knr lL hs hl d (i + 1) _ (by omega) (by simpa using lo) (inv _ (by rw [Nat.pow_zero, Nat.mod_one]; omega)))
   show kdh _ _ _ _ _ _ = _
   unfold kdh
   rw [condT (by rw [decide_eq_true_eq]; omega), kbg hi', Option.bind_some, condF (by rfl), ku hio, Option.bind_some, sr, kz hL0, Option.bind_some, condF (by rfl), ko (by omega)]
  by_cases hl1 : i + 1 < L.length
  ·have hg' : L.getD (i + 1) 0 = L[i + 1] := kdr hl1
   rw [hg, hg'] at w1 w3 inv
   refine .next (s' := .p18 s q L (o.set i (L[i + 1] % 2 ^ s * 2 ^ (64 - s) + L[i] / 2 ^ s)) L.length ((i + 1 : Nat) : Int)) ?_ (knr lL hs hl d (i + 1) _ (by omega) (by simpa using lo) (inv _ rfl))
   show kdh _ _ _ _ _ _ = _
   unfold kdh
   have w64 : IntKind.wrap .u64 (64 - (s : Int)) = ((64 - s : Nat) : Int) := by rw [wrapU]; omega
   have sl : ishl .u64 (L[i + 1] : Int) ((64 - s : Nat) : Int) = ((L[i + 1] % 2 ^ s * 2 ^ (64 - s) : Nat) : Int) := by
    rw [kj1 _ _ (by omega)]
    congr 1
    rw [← kix (show s ≤ 64 by omega), Nat.mul_comm (2 ^ (64 - s)) (2 ^ s), Nat.mul_mod_mul_right]
   have io : ior .u64 ((L[i] / 2 ^ s : Nat) : Int) ((L[i + 1] % 2 ^ s * 2 ^ (64 - s) : Nat) : Int) = ((L[i + 1] % 2 ^ s * 2 ^ (64 - s) + L[i] / 2 ^ s : Nat) : Int) := by rw [kvg, kp5 w3 w2 (by omega)]
   have hio2 : i < (o.set i (L[i] / 2 ^ s)).length := by simpa using hio
   rw [condT (by rw [decide_eq_true_eq]; omega), kbg hi', Option.bind_some, condF (by rw [decide_eq_false_iff_not]; omega), ku hio, Option.bind_some, sr, kz hL0, Option.bind_some, condT (by rw [decide_eq_true_eq]; omega), ko (by omega), condT (by rw [decide_eq_true_eq]; omega), Option.bind_some, kbg hl1, Option.bind_some, w64, condF (by rw [decide_eq_false_iff_not]; omega), Option.bind_some, kdr hio2, List.getElem_set_self, sl, io, kz w1, Option.bind_some, List.set_set]
  ·have hg' : L.getD (i + 1) 0 = 0 := by simp [List.getD, List.getElem?_eq_none (Nat.le_of_not_lt hl1)]
   rw [hg, hg'] at inv
   refine .next (s' := .p18 s q L (o.set i (L[i] / 2 ^ s)) L.length ((i + 1 : Nat) : Int)) ?_ (knr lL hs hl d (i + 1) _ (by omega) (by simpa using lo) (inv _ (by rw [Nat.zero_mod]; omega)))
   show kdh _ _ _ _ _ _ = _
   unfold kdh
   rw [condT (by rw [decide_eq_true_eq]; omega), kbg hi', Option.bind_some, condF (by rw [decide_eq_false_iff_not]; omega), ku hio, Option.bind_some, sr, kz hL0, Option.bind_some, condT (by rw [decide_eq_true_eq]; omega), ko (by omega), condF (by rw [decide_eq_false_iff_not]; omega)]
theorem cmp_ge {a b : Nat} : cmp a b ≥ 0 ↔ b ≤ a := by
 unfold cmp
 by_cases h : a < b
 ·rw [if_pos h]; omega
 ·rw [if_neg h]
  by_cases h2 : a = b
  ·rw [if_pos h2]; omega
  ·rw [if_neg h2]; omega
theorem k0t {xs ys : List Nat} {lo n : Nat} (h : lo + n ≤ xs.length) (hy : ys.length = n) : setW xs lo n ys = some (xs.take lo ++ ys ++ xs.drop (lo + n)) := by
 unfold setW
 rw [if_pos ⟨h, hy⟩]
theorem ksn {s : Int} {r d q : List Nat} {j : Nat} {res : kb4} (hr : ∀ x ∈ r, x < B) (hd : ∀ x ∈ d, x < B) (hj : j < q.length) (hw : j + (d.length + 1) ≤ r.length) (hrl : r.length ≤ 1073741823) (hql : q.length ≤ 1073741823) (hd0 : 0 < num B d)
  (K : Iter khv (.p6 s (r.take j ++ padD B (d.length + 1) (num B ((r.drop j).take (d.length + 1)) % num B d) ++ r.drop (j + (d.length + 1))) d d.length (q.set j (num B ((r.drop j).take (d.length + 1)) / num B d)) ((j : Int) - 1)) res) :
  ∀ g : Nat, g < 18446744073709551616 → num B ((r.drop j).take (d.length + 1)) / num B d ≤ g → Iter khv (.p10 s r d d.length q j g (j, d.length + 1)) res
 | g, hg, hge => by
  have lw : ((r.drop j).take (d.length + 1)).length = d.length + 1 := by simp; omega
  have tw : ∀ x ∈ (r.drop j).take (d.length + 1), x < B := fun x hx => hr x (List.mem_of_mem_drop (List.mem_of_mem_take hx))
  have hP := num_lt B1 tw
  rw [lw] at hP
  have lg : (digs B g).length ≤ 1 := by
   rw [kq B2, Nat.pow_one]
   exact hg
  by_cases hc : num B d * g ≤ num B ((r.drop j).take (d.length + 1))
  ·have hq : num B ((r.drop j).take (d.length + 1)) / num B d = g := Nat.le_antisymm hge (by rw [Nat.le_div_iff_mul_le hd0, Nat.mul_comm]; exact hc)
   have hm : num B ((r.drop j).take (d.length + 1)) - num B d * g = num B ((r.drop j).take (d.length + 1)) % num B d := by
    have := Nat.div_add_mod (num B ((r.drop j).take (d.length + 1))) (num B d)
    rw [hq] at this
    omega
   rw [hq] at K
   refine .next ?_ K
   show kgr _ _ _ _ _ _ _ _ = _
   unfold kgr
   have lp : (digs B (num B d * g)).length ≤ d.length + 1 := by
    rw [kq B2]
    omega
   rw [kz hg, Option.bind_some, ki (by omega), Option.bind_some, ki (by rw [lw]; omega), Option.bind_some, ki (kb1 B2 _), Option.bind_some, ki (kb1 B2 _), Option.bind_some]
   dsimp only
   rw [kg B2, kg B2, kg B2, condT (by rw [decide_eq_true_eq, cmp_ge]; exact hc), ki (by rw [lw]; exact ⟨by omega, lp, hc⟩), Option.bind_some, lw, hm, k0t (by omega) (kpm _ _ _), Option.bind_some, ku hj, Option.bind_some, Option.bind_some, wrap64 (by omega) (by omega)]
  ·obtain ⟨p, rfl⟩ : ∃ p, g = p + 1 := ⟨g - 1, by
    rcases Nat.eq_zero_or_pos g with e | e
    ·subst e; rw [Nat.mul_zero] at hc; omega
    ·omega⟩
   have hlt : num B ((r.drop j).take (d.length + 1)) / num B d < p + 1 := by
    rw [Nat.div_lt_iff_lt_mul hd0, Nat.mul_comm]
    omega
   refine .next (s' := .p10 s r d d.length q j p (j, d.length + 1)) ?_ (ksn hr hd hj hw hrl hql hd0 K p (by omega) (by omega))
   show kgr _ _ _ _ _ _ _ _ = _
   unfold kgr
   rw [kz hg, Option.bind_some, ki (by omega), Option.bind_some, ki (by rw [lw]; omega), Option.bind_some, ki (kb1 B2 _), Option.bind_some, ki (kb1 B2 _), Option.bind_some]
   dsimp only
   rw [kg B2, kg B2, kg B2, condF (by rw [decide_eq_false_iff_not, cmp_ge]; exact hc), show IntKind.wrap .u64 (((p + 1 : Nat) : Int) - 1) = (p : Int) from by rw [wrapU]; omega]
termination_by g => g
end Go.Ab
